/- The port: slices.IndexFunc and slices.DeleteFunc over packets (printed by wip/ptpk.py out of PtF and PtG). -/
import Derived.Test.YtjkgkoilabbdgaaPtG
namespace Go.Proofs.Ytjkgkoilabbdgaa.Pt
open Go Go.RowKit Go.Proofs.Ytjkgkoilabbdgaa.Mem
set_option linter.unusedVariables false
set_option linter.unusedSimpArgs false
section
variable {w0 w : World} {S : List Asr}
set_option maxHeartbeats 2000000 in
theorem index_p {J : Nat → Asr} (N : FuncId) (eg : ∀ args W, (callFunc N args).run Try.prog W = .ok (.enter N args) W) (caps : Array Value) (p : T3 → Bool) {l : List T3} {v : Value} {n : Nat}
    (h : Star w0 w (RowO 29 3 v n (t3V l) :: J 0 :: S)) (hn : n = l.length) (hl : n ≤ 100000)
    (hc : ∀ (k : Nat) (x : T3), l[k]? = some x → ∀ (W : World) (l' : List T3) (S : List Asr), Star w0 W (RowO 29 3 v n (t3V l') :: J k :: S) → Calls Try.prog N (#[t3G x] ++ caps) W fun r W' => r = .returned (.bool (p x)) ∧ Star w0 W' (RowO 29 3 v n (t3V l') :: J (k + 1) :: S)) :
    Calls Try.prog 40 #[v, .func (.func N) #[] caps] w fun r w' => ∃ k : Nat, r = .returned (.int .i64 (if k < n then (k : Int) else -1)) ∧ k ≤ n ∧ (∀ x, l[k]? = some x → p x = true) ∧ (∀ j, j < k → ∀ x, l[j]? = some x → p x = false) ∧ Star w0 w' (RowO 29 3 v n (t3V l) :: J (if k < n then k + 1 else n) :: S) := by
  obtain ⟨A, c, hv⟩ := (h.rowO 0 rfl).len
  subst hv
  have HS := Lib.hid h
  have HN := Lib.hid hn
  have HC := Lib.hid hc
  clear h hn hc
  go_enter Try.func40, Try.ntmps40
  go_wp2
  go_loopg [5, 8] n (fun gg _ s8 wr => ∃ kk : Nat, kk ≤ n ∧ n - kk ≤ gg ∧ s8 = .int .i64 kk ∧ Hid (Star w0 wr (RowO 29 3 (.slice A n c) n (t3V l) :: J kk :: S)) ∧ Hid (∀ j, j < kk → ∀ x, l[j]? = some x → p x = false))
  case atStart => exact ⟨0, Nat.zero_le _, by omega, rfl, HS, fun j hj => absurd hj (Nat.not_lt_zero _)⟩
  case round =>
    obtain ⟨kk, hkk, hg, rfl, HW, AA⟩ := hrel
    by_cases hlt : kk < n
    · have hltz : (kk : Int) < (n : Int) := by omega
      obtain ⟨x, hx⟩ : ∃ x, l[kk]? = some x := ⟨_, List.getElem?_eq_getElem (by rw [← HN.out]; exact hlt)⟩
      have ho := HW.out.rowO 0 rfl
      obtain ⟨g, off, cp, hv, hbg, hgl, hnc⟩ := ho.form (by omega)
      simp only [Value.slice.injEq, true_and] at hv
      obtain ⟨rfl, rfl⟩ := hv
      obtain ⟨r0, r1, r2⟩ := at3 ho HN.out hx
      have HX := Lib.hid hx
      have hcall := Lib.hid (HC.out kk x hx wr l S HW.out)
      unfold t3G at hcall
      clear hx ho
      by_cases hq : p x = true
      · have HQ := Lib.hid hq
        rw [hq] at hcall
        clear hq
        go_wp2_with (first
          | (go_at_fn N; (with_reducible refine hcall.out.mono ?_); rintro e w1 ⟨rfl, hs1⟩
             have HS1 := Lib.hid hs1
             clear hs1))
        all_goals
          go_ret
          refine ⟨kk, ?_, hkk, ?_, AA.out, ?_⟩
          · rw [if_pos hlt]
            rfl
          · intro y hy
            rw [HX.out] at hy
            obtain rfl : x = y := by simpa using hy
            exact HQ.out
          · rw [if_pos hlt]
            exact HS1.out
      · have hq' : p x = false := by simpa using hq
        have HQ := Lib.hid hq'
        rw [hq'] at hcall
        clear hq hq'
        go_wp2_with (first
          | (go_at_fn N; (with_reducible refine hcall.out.mono ?_); rintro e w1 ⟨rfl, hs1⟩
             have HS1 := Lib.hid hs1
             clear hs1))
        go_roundg (n - (kk + 1))
        case measure => omega
        case rel =>
          refine ⟨kk + 1, by omega, by omega, by go_num, HS1, (show Hid _ from fun j hj y hy => ?_)⟩
          by_cases e : j = kk
          · subst e
            rw [HX.out] at hy
            obtain rfl : x = y := by simpa using hy
            exact HQ.out
          · exact AA.out j (by omega) y hy
    · have hltz : ¬ (kk : Int) < (n : Int) := by omega
      have hkn : kk = n := by omega
      subst hkn
      have HLT := Lib.hid hlt
      clear hlt
      go_wp2
      go_ret
      refine ⟨kk, ?_, Nat.le_refl _, ?_, AA.out, ?_⟩
      · rw [if_neg HLT.out]
        rfl
      · intro x hx
        have := (List.getElem?_eq_some_iff.1 hx).1
        have := HN.out
        omega
      · rw [if_neg HLT.out]
        exact HW.out
end
section
variable {w0 w : World} {S : List Asr}
set_option maxHeartbeats 4000000 in
theorem delete_p {J : Nat → Asr} (N : FuncId) (eg : ∀ args W, (callFunc N args).run Try.prog W = .ok (.enter N args) W) (caps : Array Value) (p : T3 → Bool) {l : List T3} {v : Value} {n : Nat}
    (h : Star w0 w (RowO 29 3 v n (t3V l) :: J 0 :: S)) (hn : n = l.length) (hl : n ≤ 100000)
    (hc : ∀ (k : Nat) (x : T3), l[k]? = some x → ∀ (W : World) (l' : List T3) (S : List Asr), Star w0 W (RowO 29 3 v n (t3V l') :: J k :: S) → Calls Try.prog N (#[t3G x] ++ caps) W fun r W' => r = .returned (.bool (p x)) ∧ Star w0 W' (RowO 29 3 v n (t3V l') :: J (k + 1) :: S)) :
    Calls Try.prog 35 #[v, .func (.func N) #[] caps] w fun r w' => ∃ v', r = .returned v' ∧ Star w0 w' (RowO 29 3 v' (nots p l).length (t3V (nots p l)) :: J n :: S) := by
  obtain ⟨A, c, hv⟩ := (h.rowO 0 rfl).len
  subst hv
  have HI := Lib.hid (index_p N eg caps p h hn hl hc)
  have HN := Lib.hid hn
  have HC := Lib.hid hc
  by_cases hf : l.findIdx p < n
  · obtain ⟨f, ef⟩ : ∃ f, f = l.findIdx p := ⟨_, rfl⟩
    have EF := Lib.hid ef
    rw [← ef] at hf
    have HF := Lib.hid hf
    obtain ⟨g, off, cp, hv, hbg, hgl, hnc⟩ := (h.rowO 0 rfl).form (by omega)
    simp only [Value.slice.injEq, true_and] at hv
    obtain ⟨rfl, rfl⟩ := hv
    have f1 : ¬ ((f : Int) = -1) := by omega
    have f2 : ((f : Int) == -1) = false := beq_eq_false_iff_ne.mpr (by omega)
    have f3 : (f : Int) ≤ 100000 := by omega
    clear h hn hc ef
    go_enter Try.func35, Try.ntmps35
    go_wp2_with (first
      | (go_at_call 40; (with_reducible refine HI.out.mono ?_); rintro e w1 ⟨k, hr, hk, hk1, hk2, hs1⟩
         obtain rfl : k = f := (first_of HN.out hk hk1 hk2).trans EF.out.symm
         rw [if_pos HF.out] at hr hs1
         subst hr
         have HS1 := Lib.hid hs1
         clear hs1 hk1 hk2))
    go_loopg [5, 6, 7] n (fun gg s5 s6 _ wr => ∃ (i j : Nat) (l' : List T3), i < j ∧ j ≤ n ∧ n - j ≤ gg ∧ s5 = .int .i64 i ∧ s6 = .int .i64 j ∧ Hid (l'.length = n) ∧ Hid (l'.take i = nots p (l.take j)) ∧ Hid (l'.drop j = l.drop j) ∧ Hid (Star w0 wr (RowO 29 3 (.slice (some ⟨g, off, none⟩) n c) n (t3V l') :: J j :: S)))
    case atStart =>
      refine ⟨k, k + 1, l, by omega, by omega, by omega, rfl, by go_num, HN.out.symm, (show Hid _ from ?_), rfl, HS1⟩
      rw [EF.out] at hf ⊢
      exact (nots_first (by rw [← HN.out]; exact hf)).symm
    case round =>
      obtain ⟨i, j, l', hij, hjn, hg, rfl, rfl, HL, HT, HD, HW⟩ := hrel
      clear f1 f2
      by_cases hlt : j < n
      · have hltz : (j : Int) < (n : Int) := by omega
        obtain ⟨x, hx⟩ : ∃ x, l[j]? = some x := ⟨_, List.getElem?_eq_getElem (by rw [← HN.out]; exact hlt)⟩
        have hx' : l'[j]? = some x := by
          have := congrArg (fun z => z[0]?) HD.out
          simp only [List.getElem?_drop, Nat.add_zero] at this
          rw [this, hx]
        obtain ⟨r0, r1, r2⟩ := at3 (HW.out.rowO 0 rfl) HL.out.symm hx'
        have HX := Lib.hid hx
        have h2 := back2 (HW.out.newBlk 29 #[.int .i64 x.a, .int .i64 x.b, .int .i64 x.c])
        have hcall := Lib.hid (HC.out j x hx _ l' _ h2)
        unfold t3G at hcall
        have i1 : i < n := by omega
        have i2 : (i : Int) < n := by omega
        have i3 : (i : Int) ≤ 100000 := by omega
        have i4 : (j : Int) ≤ 100000 := by omega
        clear hx hx' h2
        by_cases hq : p x = true
        · have HQ := Lib.hid hq
          rw [hq] at hcall
          clear hq
          go_wp2_with (first
            | (go_at_fn N; (with_reducible refine hcall.out.mono ?_); rintro e w2 ⟨rfl, hs2⟩
               have HS2 := Lib.hid (front2 hs2).tail
               clear hs2))
          go_roundg (n - (j + 1))
          case measure => omega
          case rel =>
            obtain ⟨e1, e2⟩ := dl_skip HT.out HD.out HX.out HQ.out
            exact ⟨i, j + 1, l', by omega, by omega, by omega, rfl, by go_num, HL, e1, e2, HS2⟩
        · have hq' : p x = false := by simpa using hq
          have HQ := Lib.hid hq'
          rw [hq'] at hcall
          clear hq hq'
          obtain ⟨y, hy⟩ : ∃ y, l'[i]? = some y := ⟨_, List.getElem?_eq_getElem (by rw [HL.out]; exact i1)⟩
          have HY := Lib.hid hy
          clear hy
          go_wp2_with (first
            | (go_at_fn N; (with_reducible refine hcall.out.mono ?_); rintro e w2 ⟨rfl, hs2⟩
               have HS2 := Lib.hid hs2
               obtain ⟨o0, o1, o2⟩ := at3 (hs2.rowO 0 rfl) HL.out.symm HY.out
               have m0 := (hs2.rowO 0 rfl).frozenAt (off + i * 3)
               have m1 := (hs2.rowO 0 rfl).frozenAt (off + i * 3 + 1)
               have m2 := (hs2.rowO 0 rfl).frozenAt (off + i * 3 + 2)
               have b0 : w2.cell? ⟨wr.heap.size, 0, none⟩ = some (.int .i64 x.a) := (hs2.blk 2 rfl).cellv (i := 0) rfl
               have b1 : w2.cell? ⟨wr.heap.size, 1, none⟩ = some (.int .i64 x.b) := (hs2.blk 2 rfl).cellv (i := 1) rfl
               have b2 : w2.cell? ⟨wr.heap.size, 2, none⟩ = some (.int .i64 x.c) := (hs2.blk 2 rfl).cellv (i := 2) rfl
               clear hs2))
          go_roundg (n - (j + 1))
          case measure => omega
          case rel =>
            have hil : i < l'.length := by rw [HL.out]; exact i1
            obtain ⟨e1, e2⟩ := dl_keep HT.out HD.out hij hil HX.out HQ.out
            have h3 := ((HS2.out.setO 0 rfl (i * 3) (by omega) (.int .i64 x.a)).setO 0 rfl (i * 3 + 1) (by omega) (.int .i64 x.b)).setO 0 rfl (i * 3 + 2) (by omega) (.int .i64 x.c)
            simp only [List.set_cons_zero] at h3
            rw [t3V_set x l' i hil] at h3
            exact ⟨i + 1, j + 1, l'.set i x, by omega, by omega, by omega, by go_num, by go_num, (List.length_set).trans HL.out, e1, e2, (front2 h3).tail⟩
      · have hltz : ¬ (j : Int) < (n : Int) := by omega
        obtain rfl : j = n := by omega
        have i1 : i < j := hij
        have i2 : (i : Int) < j := by omega
        have i3 : (i : Int) ≤ 100000 := by omega
        have i5 : i ≤ j := by omega
        have i6 : (i : Int) ≤ j := by omega
        have i7 : i ≤ c := by omega
        have i8 : ¬ c = i := by omega
        have i9 : (0 : Int) ≤ i := by omega
        have i10 : i + (j - i) ≤ c := by omega
        have i11 : (i : Int) ≤ c := by omega
        have HZ := pk_zero
        have h5' := Star.headO HW.out 0 rfl i5
        rw [t3V_take l' i (by rw [HL.out]; exact i5), HT.out] at h5'
        have H5 := Lib.hid h5'
        clear hlt h5'
        go_wp2_with (first
          | (refine wpList_clear_off rfl (.tmp 38) 40 rfl H5.out 0 rfl (.agg #[.int .i64 0, .int .i64 0, .int .i64 0]) Try.underlying40 HZ rfl (by simp [Value.cells, Value.oneCell']) (off + i * 3) rfl (j - i) _ rfl i10 ?_
             intro w4 hs4
             have HS4 := Lib.hid hs4
             clear hs4))
        go_ret
        have h5 := HS4.out
        simp only [List.set_cons_zero] at h5
        have e1 : nots p (l.take j) = nots p l := by rw [HN.out, List.take_length]
        have e2 : i = (nots p l).length := by
          rw [← e1, ← HT.out, List.length_take, HL.out]
          omega
        rw [e1] at h5
        refine ⟨_, rfl, ?_⟩
        rw [← e2]
        exact h5
  · have hnl := nots_none (p := p) (l := l) (by rw [← hn]; exact hf)
    have HK : Hid (∀ k : Nat, k = l.findIdx p → ¬ k < n) := fun k e => by rw [e]; exact hf
    clear h hn hc hf
    go_enter Try.func35, Try.ntmps35
    go_wp2_with (first
      | (go_at_call 40; (with_reducible refine HI.out.mono ?_); rintro e w1 ⟨k, hr, hk, hk1, hk2, hs1⟩
         have hkn := HK.out k (first_of HN.out hk hk1 hk2)
         rw [if_neg hkn] at hr hs1
         subst hr
         have HS1 := Lib.hid hs1
         clear hs1 hk1 hk2 hkn hk))
    go_ret
    refine ⟨_, rfl, ?_⟩
    rw [hnl, ← HN.out]
    exact HS1.out
end
end Go.Proofs.Ytjkgkoilabbdgaa.Pt
