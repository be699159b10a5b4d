/- The port: slices.DeleteFunc over watches. -/
import Derived.Test.YtjkgkoilabbdgaaPtF
namespace Go.Proofs.Ytjkgkoilabbdgaa.Pt
open Go Go.RowKit Go.Proofs.Ytjkgkoilabbdgaa.Mem
set_option linter.unusedVariables false
set_option linter.unusedSimpArgs false
theorem t3V_cons (y : T3) (l : List T3) : t3V (y :: l) = .int .i64 y.a :: .int .i64 y.b :: .int .i64 y.c :: t3V l := rfl
theorem t3V_set (x : T3) : ∀ (l : List T3) (i : Nat), i < l.length → (((t3V l).set (i * 3) (.int .i64 x.a)).set (i * 3 + 1) (.int .i64 x.b)).set (i * 3 + 2) (.int .i64 x.c) = t3V (l.set i x)
  | [], i, h => absurd h (Nat.not_lt_zero _)
  | y :: l, 0, _ => by simp [t3V_cons]
  | y :: l, i + 1, h => by
    have ih := t3V_set x l i (by simpa using h)
    rw [List.set_cons_succ, t3V_cons, t3V_cons, ← ih]
    rw [show (i + 1) * 3 = i * 3 + 1 + 1 + 1 from by omega]
    rfl
theorem first_of {l : List T3} {p : T3 → Bool} {k n : Nat} (hn : n = l.length) (hk : k ≤ n) (h1 : ∀ x, l[k]? = some x → p x = true) (h2 : ∀ j, j < k → ∀ x, l[j]? = some x → p x = false) : k = l.findIdx p := by
  by_cases h : k < l.length
  · refine ((List.findIdx_eq h).2 ⟨h1 _ (List.getElem?_eq_getElem h), fun j hj => ?_⟩).symm
    exact h2 j hj _ (List.getElem?_eq_getElem (by omega))
  · have hkl : k = l.length := by omega
    rw [hkl]
    refine (List.findIdx_eq_length.2 fun x hx => ?_).symm
    obtain ⟨j, hj, rfl⟩ := List.getElem_of_mem hx
    exact h2 j (by omega) _ (List.getElem?_eq_getElem hj)
def nots (p : T3 → Bool) (l : List T3) : List T3 := l.filter (fun x => !p x)
theorem nots_none {l : List T3} {p : T3 → Bool} (h : ¬ l.findIdx p < l.length) : nots p l = l := by
  have h1 : l.findIdx p = l.length := by have := List.findIdx_le_length (xs := l) (p := p); omega
  refine List.filter_eq_self.2 fun x hx => ?_
  rw [List.findIdx_eq_length.1 h1 x hx]
  rfl
theorem nots_first {l : List T3} {p : T3 → Bool} (h : l.findIdx p < l.length) : nots p (l.take (l.findIdx p + 1)) = l.take (l.findIdx p) := by
  unfold nots
  rw [List.take_succ_eq_append_getElem h, List.filter_append]
  have h1 := (List.findIdx_eq h).1 rfl
  have e1 : List.filter (fun x => !p x) [l[l.findIdx p]] = [] := by simp [h1.1]
  rw [e1, List.append_nil]
  refine List.filter_eq_self.2 fun x hx => ?_
  obtain ⟨j, hj, rfl⟩ := List.getElem_of_mem hx
  rw [List.length_take] at hj
  rw [List.getElem_take, h1.2 j (by omega)]
  rfl
theorem nots_step {l : List T3} {p : T3 → Bool} {j : Nat} {x : T3} (hx : l[j]? = some x) : nots p (l.take (j + 1)) = nots p (l.take j) ++ if p x then [] else [x] := by
  obtain ⟨hj, e⟩ := List.getElem?_eq_some_iff.1 hx
  unfold nots
  rw [List.take_succ_eq_append_getElem hj, List.filter_append, e]
  cases h : p x <;> simp [h]
theorem dl_keep {l l' : List T3} {p : T3 → Bool} {i j : Nat} {x : T3} (h1 : l'.take i = nots p (l.take j)) (h2 : l'.drop j = l.drop j) (hij : i < j) (hl : i < l'.length) (hx : l[j]? = some x) (hq : p x = false) :
    (l'.set i x).take (i + 1) = nots p (l.take (j + 1)) ∧ (l'.set i x).drop (j + 1) = l.drop (j + 1) := by
  constructor
  · rw [nots_step hx, hq, ← h1, List.take_succ_eq_append_getElem (by simpa using hl)]
    simp [List.take_set_of_le]
  · rw [List.drop_set_of_lt (by omega), ← List.drop_drop (i := 1), h2, List.drop_drop]
theorem dl_skip {l l' : List T3} {p : T3 → Bool} {i j : Nat} {x : T3} (h1 : l'.take i = nots p (l.take j)) (h2 : l'.drop j = l.drop j) (hx : l[j]? = some x) (hq : p x = true) :
    l'.take i = nots p (l.take (j + 1)) ∧ l'.drop (j + 1) = l.drop (j + 1) := by
  constructor
  · rw [nots_step hx, hq, h1]
    simp
  · rw [← List.drop_drop (i := 1), h2, List.drop_drop]
theorem Star.headO {w0 w : World} {L : List Asr} {e : TypeId} {size n c k : Nat} {xs : List Value} {A : Option Addr} (h : Star w0 w L) (i : Nat) (hi : L[i]? = some (RowO e size (.slice A n c) n xs)) (hk : k ≤ n) : Star w0 w (L.set i (RowO e size (.slice A k c) k (xs.take (k * size)))) := by
  obtain ⟨F, ⟨ha, hF⟩, hin, hkk⟩ := h.at_ i hi
  subst hF
  exact hkk (F' := OwnB (.slice A k c)) inferInstance ⟨ha.head hk, rfl⟩ (Upd.refl _ _) fun j hj => .inl (by cases A <;> exact hj)
section
variable {w0 w : World} {S : List Asr}
set_option maxHeartbeats 4000000 in
theorem delete_w {J : Nat → Asr} (N : FuncId) (eg : ∀ args W, (callFunc N args).run Try.prog W = .ok (.enter N args) W) (caps : Array Value) (p : T3 → Bool) {l : List T3} {v : Value} {n : Nat}
    (h : Star w0 w (RowO 67 3 v n (t3V l) :: J 0 :: S)) (hn : n = l.length) (hl : n ≤ 100000)
    (hc : ∀ (k : Nat) (x : T3), l[k]? = some x → ∀ (W : World) (l' : List T3) (S : List Asr), Star w0 W (RowO 67 3 v n (t3V l') :: J k :: S) → Calls Try.prog N (#[t3G x] ++ caps) W fun r W' => r = .returned (.bool (p x)) ∧ Star w0 W' (RowO 67 3 v n (t3V l') :: J (k + 1) :: S)) :
    Calls Try.prog 30 #[v, .func (.func N) #[] caps] w fun r w' => ∃ v', r = .returned v' ∧ Star w0 w' (RowO 67 3 v' (nots p l).length (t3V (nots p l)) :: J n :: S) := by
  obtain ⟨A, c, hv⟩ := (h.rowO 0 rfl).len
  subst hv
  have HI := Lib.hid (index_w N eg caps p h hn hl hc)
  have HN := Lib.hid hn
  have HC := Lib.hid hc
  by_cases hf : l.findIdx p < n
  · obtain ⟨f, ef⟩ : ∃ f, f = l.findIdx p := ⟨_, rfl⟩
    have EF := Lib.hid ef
    rw [← ef] at hf
    have HF := Lib.hid hf
    obtain ⟨g, off, cp, hv, hbg, hgl, hnc⟩ := (h.rowO 0 rfl).form (by omega)
    simp only [Value.slice.injEq, true_and] at hv
    obtain ⟨rfl, rfl⟩ := hv
    have f1 : ¬ ((f : Int) = -1) := by omega
    have f2 : ((f : Int) == -1) = false := beq_eq_false_iff_ne.mpr (by omega)
    have f3 : (f : Int) ≤ 100000 := by omega
    clear h hn hc ef
    go_enter Try.func30, Try.ntmps30
    go_wp2_with (first
      | (go_at_call 39; (with_reducible refine HI.out.mono ?_); rintro e w1 ⟨k, hr, hk, hk1, hk2, hs1⟩
         obtain rfl : k = f := (first_of HN.out hk hk1 hk2).trans EF.out.symm
         rw [if_pos HF.out] at hr hs1
         subst hr
         have HS1 := Lib.hid hs1
         clear hs1 hk1 hk2))
    go_loopg [5, 6, 7] n (fun gg s5 s6 _ wr => ∃ (i j : Nat) (l' : List T3), i < j ∧ j ≤ n ∧ n - j ≤ gg ∧ s5 = .int .i64 i ∧ s6 = .int .i64 j ∧ Hid (l'.length = n) ∧ Hid (l'.take i = nots p (l.take j)) ∧ Hid (l'.drop j = l.drop j) ∧ Hid (Star w0 wr (RowO 67 3 (.slice (some ⟨g, off, none⟩) n c) n (t3V l') :: J j :: S)))
    case atStart =>
      refine ⟨k, k + 1, l, by omega, by omega, by omega, rfl, by go_num, HN.out.symm, (show Hid _ from ?_), rfl, HS1⟩
      rw [EF.out] at hf ⊢
      exact (nots_first (by rw [← HN.out]; exact hf)).symm
    case round =>
      obtain ⟨i, j, l', hij, hjn, hg, rfl, rfl, HL, HT, HD, HW⟩ := hrel
      clear f1 f2
      by_cases hlt : j < n
      · have hltz : (j : Int) < (n : Int) := by omega
        obtain ⟨x, hx⟩ : ∃ x, l[j]? = some x := ⟨_, List.getElem?_eq_getElem (by rw [← HN.out]; exact hlt)⟩
        have hx' : l'[j]? = some x := by
          have := congrArg (fun z => z[0]?) HD.out
          simp only [List.getElem?_drop, Nat.add_zero] at this
          rw [this, hx]
        obtain ⟨r0, r1, r2⟩ := at3 (HW.out.rowO 0 rfl) HL.out.symm hx'
        have HX := Lib.hid hx
        have h2 := back2 (HW.out.newBlk 67 #[.int .i64 x.a, .int .i64 x.b, .int .i64 x.c])
        have hcall := Lib.hid (HC.out j x hx _ l' _ h2)
        unfold t3G at hcall
        have i1 : i < n := by omega
        have i2 : (i : Int) < n := by omega
        have i3 : (i : Int) ≤ 100000 := by omega
        have i4 : (j : Int) ≤ 100000 := by omega
        clear hx hx' h2
        by_cases hq : p x = true
        · have HQ := Lib.hid hq
          rw [hq] at hcall
          clear hq
          go_wp2_with (first
            | (go_at_fn N; (with_reducible refine hcall.out.mono ?_); rintro e w2 ⟨rfl, hs2⟩
               have HS2 := Lib.hid (front2 hs2).tail
               clear hs2))
          go_roundg (n - (j + 1))
          case measure => omega
          case rel =>
            obtain ⟨e1, e2⟩ := dl_skip HT.out HD.out HX.out HQ.out
            exact ⟨i, j + 1, l', by omega, by omega, by omega, rfl, by go_num, HL, e1, e2, HS2⟩
        · have hq' : p x = false := by simpa using hq
          have HQ := Lib.hid hq'
          rw [hq'] at hcall
          clear hq hq'
          obtain ⟨y, hy⟩ : ∃ y, l'[i]? = some y := ⟨_, List.getElem?_eq_getElem (by rw [HL.out]; exact i1)⟩
          have HY := Lib.hid hy
          clear hy
          go_wp2_with (first
            | (go_at_fn N; (with_reducible refine hcall.out.mono ?_); rintro e w2 ⟨rfl, hs2⟩
               have HS2 := Lib.hid hs2
               obtain ⟨o0, o1, o2⟩ := at3 (hs2.rowO 0 rfl) HL.out.symm HY.out
               have m0 := (hs2.rowO 0 rfl).frozenAt (off + i * 3)
               have m1 := (hs2.rowO 0 rfl).frozenAt (off + i * 3 + 1)
               have m2 := (hs2.rowO 0 rfl).frozenAt (off + i * 3 + 2)
               have b0 : w2.cell? ⟨wr.heap.size, 0, none⟩ = some (.int .i64 x.a) := (hs2.blk 2 rfl).cellv (i := 0) rfl
               have b1 : w2.cell? ⟨wr.heap.size, 1, none⟩ = some (.int .i64 x.b) := (hs2.blk 2 rfl).cellv (i := 1) rfl
               have b2 : w2.cell? ⟨wr.heap.size, 2, none⟩ = some (.int .i64 x.c) := (hs2.blk 2 rfl).cellv (i := 2) rfl
               clear hs2))
          go_roundg (n - (j + 1))
          case measure => omega
          case rel =>
            have hil : i < l'.length := by rw [HL.out]; exact i1
            obtain ⟨e1, e2⟩ := dl_keep HT.out HD.out hij hil HX.out HQ.out
            have h3 := ((HS2.out.setO 0 rfl (i * 3) (by omega) (.int .i64 x.a)).setO 0 rfl (i * 3 + 1) (by omega) (.int .i64 x.b)).setO 0 rfl (i * 3 + 2) (by omega) (.int .i64 x.c)
            simp only [List.set_cons_zero] at h3
            rw [t3V_set x l' i hil] at h3
            exact ⟨i + 1, j + 1, l'.set i x, by omega, by omega, by omega, by go_num, by go_num, (List.length_set).trans HL.out, e1, e2, (front2 h3).tail⟩
      · have hltz : ¬ (j : Int) < (n : Int) := by omega
        obtain rfl : j = n := by omega
        have i1 : i < j := hij
        have i2 : (i : Int) < j := by omega
        have i3 : (i : Int) ≤ 100000 := by omega
        have i5 : i ≤ j := by omega
        have i6 : (i : Int) ≤ j := by omega
        have i7 : i ≤ c := by omega
        have i8 : ¬ c = i := by omega
        have i9 : (0 : Int) ≤ i := by omega
        have i10 : i + (j - i) ≤ c := by omega
        have i11 : (i : Int) ≤ c := by omega
        have HZ := wt_zero
        have h5' := Star.headO HW.out 0 rfl i5
        rw [t3V_take l' i (by rw [HL.out]; exact i5), HT.out] at h5'
        have H5 := Lib.hid h5'
        clear hlt h5'
        go_wp2_with (first
          | (refine wpList_clear_off rfl (.tmp 38) 60 rfl H5.out 0 rfl (.agg #[.int .i64 0, .int .i64 0, .int .i64 0]) Try.underlying60 HZ rfl (by simp [Value.cells, Value.oneCell']) (off + i * 3) rfl (j - i) _ rfl i10 ?_
             intro w4 hs4
             have HS4 := Lib.hid hs4
             clear hs4))
        go_ret
        have h5 := HS4.out
        simp only [List.set_cons_zero] at h5
        have e1 : nots p (l.take j) = nots p l := by rw [HN.out, List.take_length]
        have e2 : i = (nots p l).length := by
          rw [← e1, ← HT.out, List.length_take, HL.out]
          omega
        rw [e1] at h5
        refine ⟨_, rfl, ?_⟩
        rw [← e2]
        exact h5
  · have hnl := nots_none (p := p) (l := l) (by rw [← hn]; exact hf)
    have HK : Hid (∀ k : Nat, k = l.findIdx p → ¬ k < n) := fun k e => by rw [e]; exact hf
    clear h hn hc hf
    go_enter Try.func30, Try.ntmps30
    go_wp2_with (first
      | (go_at_call 39; (with_reducible refine HI.out.mono ?_); rintro e w1 ⟨k, hr, hk, hk1, hk2, hs1⟩
         have hkn := HK.out k (first_of HN.out hk hk1 hk2)
         rw [if_neg hkn] at hr hs1
         subst hr
         have HS1 := Lib.hid hs1
         clear hs1 hk1 hk2 hkn hk))
    go_ret
    refine ⟨_, rfl, ?_⟩
    rw [hnl, ← HN.out]
    exact HS1.out
end
end Go.Proofs.Ytjkgkoilabbdgaa.Pt
