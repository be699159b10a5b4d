/- The walk of ListsMove. -/
import Derived.Test.YtfahhjbbbimjfaaLiOrder
import Derived.Deep.RegionLaw
namespace Go.Proofs.Ytfahhjbbbimjfaa.Li
open Go Go.RowKit Go.Proofs.Ytfahhjbbbimjfaa.Mem
set_option linter.unusedVariables false
set_option linter.unusedSimpArgs false
theorem star_drew {w0 w : World} {L : List Asr} (h : Star w0 w L) : Star w0 w.drew L := h.drewN 1
section
variable {P : Program} {w0 w : World} {L : List Asr} {e : TypeId} {size n : Nat} {xs : List Value}
theorem step_append_st {ops : Array Oper} {o : Oper} {a : Act} {K : Act → World → Prop} {Q : Exit → Act → World → Prop} {E : Prop} (hgd : o.guard = none) (s x : Operand) (t : TypeId)
    (ho : o.op = .call { callee := .builtin .append, args := #[s, x], argTypes := #[t, t] })
    (h : Star w0 w L) (j : Nat) {v : Value} (hj : L[j]? = some (RowA e size v n xs)) (i : TypeInfo) (z : Value) (bytes : Nat) (ht : P.underlying t = some (.slice e)) (hi : P.info? e = some i) (hz : i.zero = some z)
    (hsize : i.size = size) (hby : i.bytes = bytes) (hzs : z.cells.size = size) (hsz : 0 < size) (hs : a.eval s = v)
    (B : Nat) (A : Option Addr) (m c : Nat) (news : List Value) (hx : a.eval x = .slice A m c) (hr : Reads w B size A m news) (h1 : ∀ u ∈ news, u.oneCell' = true)
    (h63 : n + m ≤ maxLen) (hbytes : (n + m) * bytes ≤ 140737488355328)
    (k : ∀ v' w', Star w0 w' (L.set j (RowA e size v' (n + m) (xs ++ news))) → K (a.put o.dst v') w') :
    if Region.wanted o (yielded ops a.tmps) = true then Oper.wp P o a w K Q else E := by
  obtain ⟨F, ⟨ha, hF⟩, hin, hk⟩ := h.at_ j hj
  subst hF
  exact step_append_any _ hgd s x t ho w0.heap.size e i z size bytes ht hi hz hsize hby hzs hsz v n xs hs ha B A m c news hx hr h1 h63 hbytes h.hb fun v' w' h2 h3 h4 => k v' w' (hk inferInstance ⟨h2, rfl⟩ (grown_upd h3) (append_grow h4 (Nat.le_refl _)))
end
theorem four_push (K : List Nat) (m : Nat) (i : Int) : (pushS [K, [], [], []] m 0 i = (0, [K ++ [i.toNat], [], [], []]) ∧ 0 ≤ i) ∨ ∃ s, s ≠ 0 ∧ pushS [K, [], [], []] m 0 i = (s, [K, [], [], []]) := by
  unfold pushS
  by_cases h : chkS [K, [], [], []] m 0 i = 0
  · rw [if_pos h]
    exact .inl ⟨rfl, (chk_zero h).2.1.1⟩
  · rw [if_neg h]
    exact .inr ⟨_, h, rfl⟩
theorem newFour (w : World) : Calls Try.prog 8 #[.int .i64 4, .int .i64 64] w fun e w' => ∃ b, e = .returned (.pointer (some ⟨b, 0, none⟩)) ∧ Star w w' [LzA b [[], [], [], []] 64] := new_st (Star.nil w) (n := 4) (m := 64) (by omega) (by omega)
/-- Two rows of the same items. -/
theorem ints_st {w0 w : World} {S : List Asr} {A A' : Option Addr} {n c n' c' : Nat} {l : List Nat} (h : Star w0 w S) (i j : Nat) (hi : S[i]? = some (RowA 3 1 (.slice A n c) n (intsN l))) (hj : S[j]? = some (RowA 3 1 (.slice A' n' c') n' (intsN l))) (hn : n = l.length) (hn' : n' = l.length) (hm : l.length ≤ 65536) :
    Calls Try.prog 11 #[.slice A n c, .slice A' n' c'] w fun e w' => e = .returned (.bool true) ∧ Star w0 w' S := by
  subst hn hn'
  have e1 : intsN l = (l.map (fun (x : Nat) => (x : Int))).map (.int .i64) := by simp [intsN]
  have e2 : l.length = (l.map (fun (x : Nat) => (x : Int))).length := by simp
  have r1 := h.reads i hi
  have r2 := h.reads j hj
  rw [e1] at r1 r2
  have := ints_any (l := l.map (fun (x : Nat) => (x : Int))) (l' := l.map (fun (x : Nat) => (x : Int))) (c := c) (c' := c') (by rw [← e2]; exact r1) (by rw [← e2]; exact r2) (by rw [← e2]; simp only [maxLen]; omega) (by rw [← e2]; simp only [maxLen]; omega)
  rw [← e2] at this
  refine this.mono ?_
  rintro e w1 ⟨rfl, k, rfl⟩
  exact ⟨by simp, h.drewN k⟩
theorem reads_take {w : World} {B n k g : Nat} {xs : List Value} (h : Reads w B 1 (some ⟨g, 0, none⟩) n xs) (hk : k ≤ n) : Reads w B 1 (some ⟨g, 0, none⟩) k (xs.take k) := by
  have hl := h.1
  refine ⟨by simp; omega, fun h0 => ?_⟩
  obtain ⟨ad, e, hb, hc⟩ := h.2 (by omega)
  refine ⟨ad, e, hb, fun j u hj => hc j u ?_⟩
  rw [List.getElem?_take] at hj
  split at hj
  · exact hj
  · cases hj
theorem reads_drop {w : World} {B n k g : Nat} {A : Option Addr} {xs : List Value} (h : Reads w B 1 (some ⟨g, 0, none⟩) n xs) (hk : k ≤ n) (hA : k < n → A = some ⟨g, k, none⟩) : Reads w B 1 A (n - k) (xs.drop k) := by
  have hl := h.1
  refine ⟨by simp; omega, fun h0 => ?_⟩
  obtain ⟨ad, e, hb, hc⟩ := h.2 (by omega)
  injection e with e
  subst e
  refine ⟨_, hA (by omega), hb, fun j u hj => ?_⟩
  rw [List.getElem?_drop] at hj
  have := hc _ _ hj
  have e1 : ((⟨g, 0, none⟩ : Addr).add (k + j)) = (⟨g, k, none⟩ : Addr).add j := by unfold Addr.add; split <;> simp_all
  rw [← e1]
  exact this
theorem intsN_one (K : List Nat) : ∀ u ∈ intsN K, u.oneCell' = true := by simp [intsN, Value.oneCell']
section
variable {K : List Nat} {k y : Nat}
/-- What is left when the item at k is taken out. -/
abbrev restK (K : List Nat) (k : Nat) : List Nat := K.take k ++ K.drop (k + 1)
theorem four_take (hy : K[k]? = some y) (h : WfL [K, [], [], []] 64) : removeS [K, [], [], []] 64 (y : Int) = (0, [restK K k, [], [], []]) ∧ whereS [restK K k, [], [], []] 64 (y : Int) = -1 ∧ whr [restK K k, [], [], []] y = -1 := by
  have hk := (List.getElem?_eq_some_iff.1 hy).1
  have he : [K, [], [], []][0]? = some (K.take k ++ y :: K.drop (k + 1)) := by
    rw [show y :: K.drop (k + 1) = K.drop k by rw [List.drop_eq_getElem_cons hk, (List.getElem?_eq_some_iff.1 hy).2], List.take_append_drop]
    rfl
  have h1 := h.remove he
  have hd := h.drop he
  have h2 := whr_drop [K, [], [], []] y
  rw [hd] at h2
  refine ⟨h1, ?_, h2⟩
  unfold whereS
  rw [Int.toNat_natCast]
  split
  · exact h2
  · rfl
end
theorem where_of {L : List (List Nat)} {m q i : Nat} {l : List Nat} (h : WfL L m) (hl : L[q]? = some l) (hi : i ∈ l) : whereS L m (i : Int) = q := by
  unfold whereS
  rw [if_pos ⟨by omega, by have := h.lt q l i hl hi; omega⟩, Int.toNat_natCast, h.whr_eq hl hi]
theorem four_in {R : List Nat} {q y : Nat} (hq : q < 4) (hy : y < 64) (hw : whr [R, [], [], []] y = -1) :
    ∃ M, pushS [R, [], [], []] 64 (q : Int) (y : Int) = (0, M) ∧ (WfL M 64 → whereS M 64 (y : Int) = q) ∧ (q = 0 → listS M 0 = R ++ [y]) ∧ (q ≠ 0 → listS M 0 = R ∧ listS M (q : Int) = [y]) := by
  have hl : q = 0 ∨ q = 1 ∨ q = 2 ∨ q = 3 := by omega
  rcases hl with rfl | rfl | rfl | rfl
  · exact ⟨_, push_ok (l := R) rfl hy hw, fun h => where_of (l := R ++ [y]) h rfl (by simp), fun _ => rfl, fun h => absurd rfl h⟩
  · exact ⟨_, push_ok (l := []) rfl hy hw, fun h => where_of (l := [] ++ [y]) h rfl (by simp), fun h => absurd h (by omega), fun _ => ⟨rfl, rfl⟩⟩
  · exact ⟨_, push_ok (l := []) rfl hy hw, fun h => where_of (l := [] ++ [y]) h rfl (by simp), fun h => absurd h (by omega), fun _ => ⟨rfl, rfl⟩⟩
  · exact ⟨_, push_ok (l := []) rfl hy hw, fun h => where_of (l := [] ++ [y]) h rfl (by simp), fun h => absurd h (by omega), fun _ => ⟨rfl, rfl⟩⟩
theorem where_to {w0 w : World} {S : List Asr} {b : Nat} {M : List (List Nat)} {m y q : Nat} (hq : WfL M m → whereS M m (y : Int) = q) (h : Star w0 w S) (j : Nat) (hj : S[j]? = some (LzA b M m)) : Calls Try.prog 14 #[.pointer (some ⟨b, 0, none⟩), .int .i64 y] w fun e w' => e = .returned (.int .i64 q) ∧ w = w' := by
  have := where_st h j hj (y : Int)
  rw [hq (Star.wf h j hj).1] at this
  exact this
set_option maxRecDepth 8000 in
set_option maxHeartbeats 8000000 in
theorem move_row (A0 : Option Addr) (c0 : Nat) (l0 : List Int) (at_ : Int) (hat : (Lit.int .i64 at_).wf = true) (to_ : Int) (hto : (Lit.int .i64 to_).wf = true) (w : World) (hr0 : Reads w w.heap.size 1 A0 l0.length (l0.map (.int .i64))) (hm0 : l0.length ≤ maxLen) (_ : ∀ x ∈ l0, (Lit.int .i64 x).wf = true) :
    Calls Try.prog 4 #[.slice A0 l0.length c0, .int .i64 at_, .int .i64 to_] w fun e w' => e = .returned (.bool true) ∧ Below w.heap.size w w' := by
  have HA := Lib.hid awake_any
  have HN := Lib.hid (newFour w)
  unfold maxLen at hm0
  clear hat hto
  by_cases h60 : 60 < l0.length
  · clear hr0
    generalize l0.length = n0 at *
    go_enter Try.func4, Try.ntmps4
    go_wp2_with (first
      | (go_at_call 8; (with_reducible refine HN.out.mono ?_); rintro e w1 ⟨b, rfl, hs1⟩)
      | (go_at_call 15; (with_reducible refine (HA.out _).mono ?_); rintro e w2 ⟨rfl, hb2⟩))
    go_ret
    exact ⟨rfl, hs1.below.trans (hb2.mono hs1.below.size)⟩
  · have hn0 : l0.length ≤ 60 := by omega
    clear h60 hm0
    obtain ⟨i0, hi0, hz0, hz1, hz2⟩ := info_parts it_info
    have HR0 := Lib.hid hr0
    clear hr0
    obtain ⟨n0, e0⟩ : ∃ n, n = l0.length := ⟨_, rfl⟩
    rw [← e0] at hn0 HR0 ⊢
    clear e0
    go_enter Try.func4, Try.ntmps4
    go_wp2_with (first
      | (go_at_call 8; (with_reducible refine HN.out.mono ?_); rintro e w1 ⟨b, rfl, hs1⟩
         have HS1 := Lib.hid (hs1.nilRow 3 1)
         clear hs1))
    clear HN
    go_loopw [8, 28] (fun v i wr => ∃ (k : Nat) (K : List Nat), k ≤ n0 ∧ K.length ≤ k ∧ i = .int .i64 k ∧ Hid (Star w wr [RowA 3 1 v K.length (intsN K), LzA b [K, [], [], []] 64])) (fun _ i _ => n0 - (intOf i).toNat)
    case atStart => exact ⟨0, [], by omega, by simp, rfl, HS1⟩
    case round =>
      clear HS1
      obtain ⟨k, K, hk, hK, rfl, HS⟩ := hrel
      by_cases hlt : k < n0
      · obtain ⟨ad, u, rfl, had, hx, hcl⟩ := (HR0.out.below HS.out.below).at_ hlt
        obtain ⟨x, -, rfl⟩ := ints_at hx
        have hk0 : (0 : Int) ≤ k := by omega
        have hkn : (k : Int) < n0 := by omega
        have hP := push_st HS.out 1 rfl 0 x
        clear hx
        rcases four_push K 64 x with ⟨hp, hx0⟩ | ⟨s, hs0, hp⟩
        · rw [hp] at hP
          simp only [List.set_cons_zero, List.set_cons_succ] at hP
          have HP := Lib.hid hP
          clear hp hP HS
          go_wp2_with (first
            | (go_at_call 9; (with_reducible refine HP.out.mono ?_); rintro e w2 ⟨rfl, hs2⟩
               have HS2 := Lib.hid hs2
               clear hs2)
            | (refine wpList_append_st rfl (.tmp 36) (.tmp 38) 28 rfl (HS2.out.alloc _) 0 rfl i0 _ 8 Try.underlying28 hi0 hz0 hz1 hz2 rfl (by omega) rfl (w2.heap.size + 1) (some ⟨w2.heap.size, 0, none⟩) 1 1 [.int .i64 x] rfl (reads_fresh w2 3 [.int .i64 x] 1 1 rfl) (by simp [Value.oneCell']) (by simp only [maxLen]; omega) (by omega) ?_
               intro v' w3 hs3
               have HS3 := Lib.hid hs3
               clear hs3))
          go_roundw
          case rel =>
            refine ⟨k + 1, K ++ [x.toNat], by omega, by simp; omega, by go_num, Lib.hid ?_⟩
            rw [intsN_snoc, show ((x.toNat : Nat) : Int) = x by omega, List.length_append]
            exact HS3.out
          case measure => simp [intOf]; omega
        · rw [hp] at hP
          simp only [List.set_cons_zero, List.set_cons_succ] at hP
          have HP := Lib.hid hP
          have hsz : (s == 0) = false := beq_eq_false_iff_ne.mpr hs0
          clear hp hP HS hs0
          go_wp2_with (first
            | (go_at_call 9; (with_reducible refine HP.out.mono ?_); rintro e w2 ⟨rfl, hs2⟩
               have HS2 := Lib.hid hs2
               clear hs2))
          go_roundw
          case rel => exact ⟨k + 1, K, by omega, by omega, by go_num, HS2⟩
          case measure => simp [intOf]; omega
      · have hkn0 : k = n0 := by omega
        obtain ⟨Av, cv, rfl⟩ := own_len (HS.out.row 0 rfl)
        have hge : ¬ ((k : Int) < n0) := by omega
        have HI := Lib.hid (fun (W : World) (h : Star w W [RowA 3 1 (.slice Av K.length cv) K.length (intsN K), LzA b [K, [], [], []] 64]) => list_st h 1 rfl 0)
        rw [show listS [K, [], [], []] 0 = K from rfl] at HI
        clear HR0
        by_cases hbad : at_ < 0 ∨ (0 ≤ at_ ∧ (K.length : Int) ≤ at_) ∨ (0 ≤ at_ ∧ at_ < K.length ∧ to_ < 0) ∨ (0 ≤ at_ ∧ at_ < K.length ∧ 0 ≤ to_ ∧ 3 < to_)
        · obtain ⟨n, en⟩ : ∃ n, n = K.length := ⟨_, rfl⟩
          have HC := Lib.hid (fun (W : World) (A : Option Addr) (c : Nat) (h : Star w W [RowA 3 1 (.slice A n c) n (intsN K), RowA 3 1 (.slice Av n cv) n (intsN K), LzA b [K, [], [], []] 64]) => ints_st h 0 1 rfl rfl en en (by omega))
          rw [← en] at hK HI hbad HS
          rw [← en]
          clear hlt hkn0 en
          rcases hbad with h1 | ⟨h1, h2⟩ | ⟨h1, h2, h3⟩ | ⟨h1, h2, h3, h4⟩
          all_goals
            go_wp2_with (first
              | (go_at_call 12; (with_reducible refine (HI.out _ HS.out).mono ?_); rintro e w4 ⟨v4, rfl, hs4⟩
                 obtain ⟨A4, c4, rfl⟩ := own_len (hs4.row 0 rfl)
                 have HS4 := Lib.hid hs4
                 clear hs4)
              | (go_at_call 11; (with_reducible refine (HC.out _ _ _ HS4.out).mono ?_); rintro e w5 ⟨rfl, hs5⟩
                 have HS5 := Lib.hid hs5
                 clear hs5)
              | (go_at_call 15; (with_reducible refine (HA.out _).mono ?_); rintro e w9 ⟨rfl, hb9⟩))
            go_ret
            exact ⟨rfl, HS5.out.below.trans (hb9.mono HS5.out.below.size)⟩
        · clear HI
          have ha1 : 0 ≤ at_ := by omega
          have ha2 : at_ < K.length := by omega
          have ht1 : 0 ≤ to_ := by omega
          have ht2 : to_ ≤ 3 := by omega
          clear hbad
          obtain ⟨p, rfl⟩ : ∃ p : Nat, at_ = p := ⟨at_.toNat, by omega⟩
          have hpK : p < K.length := by omega
          obtain ⟨y, hy⟩ : ∃ y, K[p]? = some y := ⟨_, List.getElem?_eq_getElem hpK⟩
          obtain ⟨hwf, -, -⟩ := Star.wf HS.out 1 rfl
          obtain ⟨f1, f2, f3⟩ := four_take hy hwf
          have hR := remove_st HS.out 1 rfl (y : Int)
          rw [f1] at hR
          simp only [List.set_cons_zero, List.set_cons_succ] at hR
          have HRm := Lib.hid hR
          obtain ⟨n, en⟩ : ∃ n, n = K.length := ⟨_, rfl⟩
          rw [← en] at HRm HS ha2 hpK hK
          rw [← en]
          obtain ⟨g, cp, hsv, hbg, hgl, hnc⟩ := own_form (HS.out.row 0 rfl) (by omega)
          simp only [Value.slice.injEq] at hsv
          obtain ⟨rfl, -, rfl⟩ := hsv
          have dk := (HS.out.row 0 rfl).cellAt p (by omega)
          rw [show (intsN K)[p]? = some (.int .i64 (y : Int)) by simp [intsN, hy]] at dk
          have HW1 := Lib.hid (fun (W : World) (h : Star w W [RowA 3 1 (.slice (some ⟨g, 0, none⟩) n cv) n (intsN K), LzA b [restK K p, [], [], []] 64]) => where_st h 1 rfl (y : Int))
          rw [f2] at HW1
          have hyi : y < 64 := hwf.lt 0 K y rfl (List.mem_of_getElem? hy)
          have EN := Lib.hid en
          clear hwf f1 f2 hR hkn0 hlt en hy
          obtain ⟨q, rfl⟩ : ∃ q : Nat, to_ = q := ⟨to_.toNat, by omega⟩
          obtain ⟨M, hM, hMw, hM0, hM1⟩ := four_in (R := restK K p) (q := q) (by omega) hyi f3
          have HP := Lib.hid (fun (W : World) (h : Star w W [RowA 3 1 (.slice (some ⟨g, 0, none⟩) n cv) n (intsN K), LzA b [restK K p, [], [], []] 64]) => push_st h 1 rfl (q : Int) (y : Int))
          rw [hM] at HP
          simp only [List.set_cons_zero, List.set_cons_succ] at HP
          have HW2 := Lib.hid (fun (W : World) (h : Star w W [RowA 3 1 (.slice (some ⟨g, 0, none⟩) n cv) n (intsN K), LzA b M 64]) => where_to hMw h 1 rfl)
          have HM0 := Lib.hid hM0
          have HM1 := Lib.hid hM1
          have hp0 : (0 : Int) ≤ p := by omega
          have hq0 : (0 : Int) ≤ q := by omega
          clear hM hMw hM0 hM1
          go_wp2_with (first
            | (go_at_call 16; (with_reducible refine HRm.out.mono ?_); rintro e w4 ⟨rfl, hs4⟩
               have HS4 := Lib.hid hs4
               clear hs4)
            | (go_at_call 14; (with_reducible refine (HW1.out _ HS4.out).mono ?_); rintro e w5 ⟨rfl, rfl⟩)
            | (go_at_call 9; (with_reducible refine (HP.out _ HS4.out).mono ?_); rintro e w6 ⟨rfl, hs6⟩
               have HS6 := Lib.hid hs6
               clear hs6)
            | (go_at_call 14; (with_reducible refine (HW2.out _ HS6.out).mono ?_); rintro e w7 ⟨rfl, rfl⟩))
          clear HRm HW1 HP HW2
          have hpc : (p : Int) ≤ cv := by omega
          obtain ⟨r, er⟩ : ∃ r, r = p + 1 := ⟨_, rfl⟩
          have hwr : IntKind.i64.wrap ((p : Int) + 1) = (r : Int) := by
            simp [IntKind.wrap, IntKind.bits, IntKind.signed]
            omega
          have hr2 : (r : Int) ≤ n := by omega
          have hr3 : (r : Int) ≤ cv := by omega
          have hr4 : (0 : Int) ≤ r := by omega
          obtain ⟨A9, hA9, hA9'⟩ : ∃ A : Option Addr, (if cv = r then some (⟨g, 0, none⟩ : Addr) else some ⟨g, r, none⟩) = A ∧ Hid (r < n → A = some ⟨g, r, none⟩) := ⟨_, rfl, Lib.hid fun h => if_neg (by omega)⟩
          have ER := Lib.hid er
          clear er
          go_region_law (first
            | (refine step_append_st (by rfl) (.tmp 92) (.tmp 95) 28 (by rfl) ((star_drew HS6.out).litRow 3 1 #[] 0 (by simp [maxLen]) rfl) 0 rfl i0 _ 8 Try.underlying28 hi0 hz0 hz1 hz2 rfl (by omega) (by rfl) _ (some ⟨g, 0, none⟩) p cv ((intsN K).take p) (by rfl) (reads_take (((star_drew HS6.out).alloc _).reads 0 rfl) (by omega)) (fun u hu => intsN_one K u (List.mem_of_mem_take hu)) (by simp only [maxLen]; omega) (by omega) ?_
               intro v7 w7 hs7
               have HS7 := Lib.hid hs7
               clear hs7)
            | (refine step_append_st (by rfl) (.tmp 96) (.tmp 100) 28 (by rfl) HS7.out 0 rfl i0 _ 8 Try.underlying28 hi0 hz0 hz1 hz2 rfl (by omega) (by rfl) _ A9 (n - r) (cv - r) ((intsN K).drop r) (by rfl) (reads_drop (HS7.out.reads 1 rfl) (by omega) hA9'.out) (fun u hu => intsN_one K u (List.mem_of_mem_drop hu)) (by simp only [maxLen]; omega) (by omega) ?_
               intro v8 w8 hs8
               have HS8 := Lib.hid hs8
               clear hs8))
          all_goals
            obtain ⟨m, em⟩ : ∃ m, m = n - 1 := ⟨_, rfl⟩
            have hs := HS8.out
            have e9 : (#[] : Array Value).toList ++ List.take p (intsN K) ++ List.drop r (intsN K) = intsN (restK K p) := by
              rw [ER.out]
              simp [intsN, restK, List.map_take, List.map_drop]
            have e10 : 0 + p + (n - r) = m := by have := ER.out; omega
            have e11 : m = (restK K p).length := by
              have := EN.out
              simp only [restK, List.length_append, List.length_take, List.length_drop]
              omega
            have e12 : (restK K p ++ [y]).length = m + 1 := by rw [List.length_append, ← e11]; rfl
            rw [e9, e10] at hs
            simp only [List.set_cons_zero] at hs
            obtain ⟨A8, c8, rfl⟩ := own_len (hs.row 0 rfl)
            have HSr := Lib.hid hs
            have E11 := Lib.hid e11
            have E12 := Lib.hid e12
            have hm60 : m ≤ 60 := by omega
            clear hs HS8 HS7 HS6 em e9 e10 e11 e12 hA9 hA9' hwr HS dk
            by_cases hq : q = 0
            · subst hq
              have hI := fun (W : World) (h : Star w W [RowA 3 1 (.slice A8 m c8) m (intsN (restK K p)), RowA 3 1 (.slice (some ⟨g, 0, none⟩) n cv) n (intsN K), LzA b M 64]) => list_st h 2 rfl 0
              rw [HM0.out rfl, E12.out] at hI
              have HI := Lib.hid hI
              have HC := Lib.hid (fun (W : World) (A A' : Option Addr) (c c' : Nat) (h : Star w W [RowA 3 1 (.slice A (m + 1) c) (m + 1) (intsN (restK K p ++ [y])), RowA 3 1 (.slice A' (m + 1) c') (m + 1) (intsN (restK K p ++ [y])), RowA 3 1 (.slice (some ⟨g, 0, none⟩) n cv) n (intsN K), LzA b M 64]) => ints_st h 0 1 rfl rfl E12.out.symm E12.out.symm (by have := E12.out; omega))
              clear hI
              go_wp2_with (first
                | (go_at_call 12; (with_reducible refine (HI.out _ HSr.out).mono ?_); rintro e w4 ⟨v4, rfl, hs4⟩
                   obtain ⟨A4, c4, rfl⟩ := own_len (hs4.row 0 rfl)
                   have HS4 := Lib.hid hs4
                   clear hs4)
                | (refine wpList_append_st rfl (.tmp 106) (.tmp 108) 28 rfl (HS4.out.alloc _) 1 rfl i0 _ 8 Try.underlying28 hi0 hz0 hz1 hz2 rfl (by omega) rfl (w4.heap.size + 1) (some ⟨w4.heap.size, 0, none⟩) 1 1 [.int .i64 y] rfl (reads_fresh w4 3 [.int .i64 y] 1 1 rfl) (by simp [Value.oneCell']) (by simp only [maxLen]; omega) (by omega) ?_
                   intro v' w5 hs5
                   obtain ⟨A5, c5, rfl⟩ := own_len (hs5.row 1 rfl)
                   rw [← intsN_snoc] at hs5
                   have HS5 := Lib.hid hs5
                   clear hs5)
                | (go_at_call 11; (with_reducible refine (HC.out _ _ _ _ _ HS5.out).mono ?_); rintro e w6 ⟨rfl, hs6⟩
                   have HS6 := Lib.hid hs6
                   clear hs6)
                | (go_at_call 15; (with_reducible refine (HA.out _).mono ?_); rintro e w9 ⟨rfl, hb9⟩))
              go_ret
              exact ⟨rfl, HS6.out.below.trans (hb9.mono HS6.out.below.size)⟩
            · have hqb : ((q : Int) == 0) = false := beq_eq_false_iff_ne.mpr (by omega)
              have hI := fun (W : World) (h : Star w W [RowA 3 1 (.slice A8 m c8) m (intsN (restK K p)), RowA 3 1 (.slice (some ⟨g, 0, none⟩) n cv) n (intsN K), LzA b M 64]) => list_st h 2 rfl 0
              rw [(HM1.out hq).1, ← E11.out] at hI
              have HI := Lib.hid hI
              have HC := Lib.hid (fun (W : World) (A : Option Addr) (c : Nat) (h : Star w W [RowA 3 1 (.slice A m c) m (intsN (restK K p)), RowA 3 1 (.slice A8 m c8) m (intsN (restK K p)), RowA 3 1 (.slice (some ⟨g, 0, none⟩) n cv) n (intsN K), LzA b M 64]) => ints_st h 0 1 rfl rfl E11.out E11.out (by have := E11.out; omega))
              have hI2 := fun (W : World) (A : Option Addr) (c : Nat) (h : Star w W [RowA 3 1 (.slice A m c) m (intsN (restK K p)), RowA 3 1 (.slice A8 m c8) m (intsN (restK K p)), RowA 3 1 (.slice (some ⟨g, 0, none⟩) n cv) n (intsN K), LzA b M 64]) => list_st h 3 rfl (q : Int)
              rw [(HM1.out hq).2] at hI2
              have HI2 := Lib.hid hI2
              have HC2 := Lib.hid (fun (W : World) (A A' A'' : Option Addr) (c c' c'' : Nat) (h : Star w W [RowA 3 1 (.slice A 1 c) 1 [.int .i64 (y : Int)], RowA 3 1 (.slice A' 1 c') 1 (intsN [y]), RowA 3 1 (.slice A'' m c'') m (intsN (restK K p)), RowA 3 1 (.slice A8 m c8) m (intsN (restK K p)), RowA 3 1 (.slice (some ⟨g, 0, none⟩) n cv) n (intsN K), LzA b M 64]) => ints_st (l := [y]) h 1 0 rfl rfl rfl rfl (by simp))
              clear hI hI2 hq
              go_wp2_with (first
                | (go_at_call 12; (with_reducible refine (HI.out _ HSr.out).mono ?_); rintro e w4 ⟨v4, rfl, hs4⟩
                   obtain ⟨A4, c4, rfl⟩ := own_len (hs4.row 0 rfl)
                   have HS4 := Lib.hid hs4
                   clear hs4)
                | (go_at_call 11; (with_reducible refine (HC.out _ _ _ HS4.out).mono ?_); rintro e w6 ⟨rfl, hs6⟩
                   have HS6 := Lib.hid hs6
                   clear hs6)
                | (go_at_call 12; (with_reducible refine (HI2.out _ _ _ HS6.out).mono ?_); rintro e w5 ⟨v5, rfl, hs5⟩
                   obtain ⟨A5, c5, rfl⟩ := own_len (hs5.row 0 rfl)
                   have HS5 := Lib.hid (hs5.litRow 3 1 #[.int .i64 (y : Int)] 1 (by simp [maxLen]) rfl)
                   clear hs5)
                | (go_at_call 11; (with_reducible refine (HC2.out _ _ _ _ _ _ _ HS5.out).mono ?_); rintro e w7 ⟨rfl, hs7⟩
                   have HS7 := Lib.hid hs7
                   clear hs7)
                | (go_at_call 15; (with_reducible refine (HA.out _).mono ?_); rintro e w9 ⟨rfl, hb9⟩))
              go_ret
              exact ⟨rfl, HS7.out.below.trans (hb9.mono HS7.out.below.size)⟩
end Go.Proofs.Ytfahhjbbbimjfaa.Li
