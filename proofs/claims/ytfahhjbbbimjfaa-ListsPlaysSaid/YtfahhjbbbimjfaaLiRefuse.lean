/- The walk of ListsRefuse. -/
import Derived.Test.YtfahhjbbbimjfaaLiH
namespace Go.Proofs.Ytfahhjbbbimjfaa.Li
open Go Go.RowKit Go.Proofs.Ytfahhjbbbimjfaa.Mem
set_option linter.unusedVariables false
set_option linter.unusedSimpArgs false
theorem chk_bad {L : List (List Nat)} {m : Nat} {q i : Int} (h : ¬ okQ L q ∨ ¬ okI m i) : chkS L m q i = -14 := by
  unfold chkS
  by_cases h1 : okQ L q
  · rw [if_pos h1, if_neg (by rcases h with h | h; exact absurd h1 h; exact h)]
  · rw [if_neg h1]
theorem push_bad {L : List (List Nat)} {m : Nat} {q i : Int} (h : chkS L m q i ≠ 0) : pushS L m q i = (chkS L m q i, L) := if_neg h
theorem front_bad {L : List (List Nat)} {m : Nat} {q i : Int} (h : chkS L m q i ≠ 0) : frontS L m q i = (chkS L m q i, L) := if_neg h
abbrev L30 : List (List Nat) := [[], [3, 0]]
theorem new25 (w : World) : Calls Try.prog 8 #[.int .i64 2, .int .i64 5] w fun e w' => ∃ b, e = .returned (.pointer (some ⟨b, 0, none⟩)) ∧ Star w w' [LzA b [[], []] 5] := new_st (Star.nil w) (n := 2) (m := 5) (by omega) (by omega)
theorem reads_ints (w : World) (l : List Int) : Reads (w.alloc (.cells (l.map (.int .i64)).toArray 3)) (w.heap.size + 1) 1 (some ⟨w.heap.size, 0, none⟩) l.length (l.map (.int .i64)) :=
  reads_fresh w 3 (l.map (.int .i64)) l.length 1 (by simp)
set_option maxRecDepth 8000 in
set_option maxHeartbeats 4000000 in
/-- Where the push is refused. -/
theorem refuse_no (queue item s : Int) (hs : chkS L30 5 queue item = s) (hz : s ≠ 0)
    (hcase : (s = -14 ∧ (queue < 0 ∨ (0 ≤ queue ∧ 1 < queue) ∨ (0 ≤ queue ∧ queue ≤ 1 ∧ item < 0) ∨ (0 ≤ queue ∧ queue ≤ 1 ∧ 0 ≤ item ∧ 4 < item))) ∨ (s = -26 ∧ 0 ≤ queue ∧ queue ≤ 1 ∧ (item = 3 ∨ item = 0))) (w : World) :
    Calls Try.prog 3 #[.int .i64 queue, .int .i64 item] w fun e w' => e = .returned (.bool true) ∧ Below w.heap.size w w' := by
  have HA := Lib.hid awake_any
  have HN := Lib.hid (new25 w)
  have HP := Lib.hid (fun (W : World) (b : Nat) (h : Star w W [LzA b [[], []] 5]) => push_st h 0 rfl 1 3)
  rw [show pushS [[], []] 5 1 3 = (0, [[], [3]]) from rfl] at HP
  have HP2 := Lib.hid (fun (W : World) (b : Nat) (h : Star w W [LzA b [[], [3]] 5]) => push_st h 0 rfl 1 0)
  rw [show pushS [[], [3]] 5 1 0 = (0, L30) from rfl] at HP2
  have HP3 := Lib.hid (fun (W : World) (b : Nat) (h : Star w W [LzA b L30 5]) => push_st h 0 rfl queue item)
  rw [push_bad (by rw [hs]; exact hz), hs] at HP3
  have HF := Lib.hid (fun (W : World) (v : Value) (b : Nat) (h : Star w W [RowA 3 1 v 2 (intsN [3, 0]), LzA b L30 5]) => front_st h 1 rfl queue item)
  rw [front_bad (by rw [hs]; exact hz), hs] at HF
  have HL := Lib.hid (fun (W : World) (b : Nat) (h : Star w W [LzA b L30 5]) => len_st h 0 rfl 0)
  rw [show lenS L30 0 = 0 from rfl] at HL
  have HI := Lib.hid (fun (W : World) (b : Nat) (h : Star w W [LzA b L30 5]) => list_st h 0 rfl 1)
  rw [show listS L30 1 = [3, 0] from rfl] at HI
  simp only [List.set_cons_zero, List.set_cons_succ, List.length_cons, List.length_nil, Nat.zero_add, Nat.reduceAdd] at HP HP2 HP3 HF HI
  have HRd := Lib.hid (fun W : World => (reads_ints W [3, 0] : Reads (W.alloc (.cells #[.int .i64 3, .int .i64 0] 3)) (W.heap.size + 1) 1 (some ⟨W.heap.size, 0, none⟩) 2 [.int .i64 3, .int .i64 0]))
  have HC := Lib.hid (fun (W : World) (A : Option Addr) (c : Nat) (b : Nat) (h : Star w W [RowA 3 1 (.slice A 2 c) 2 (intsN [3, 0]), LzA b L30 5]) => show Calls Try.prog 11 #[.slice A 2 c, .slice (some ⟨W.heap.size, 0, none⟩) 2 2] (W.alloc (.cells #[.int .i64 3, .int .i64 0] 3)) fun e w' => e = .returned (.bool true) ∧ ∃ n, w' = (W.alloc (.cells #[.int .i64 3, .int .i64 0] 3)).drewN n from ints_any (l := [3, 0]) (l' := [3, 0]) (c := c) (c' := 2) ((h.alloc (.cells #[.int .i64 3, .int .i64 0] 3)).reads 0 rfl) (HRd.out W) (by simp [maxLen]) (by simp [maxLen]))
  have hsz : (s == 0) = false := beq_eq_false_iff_ne.mpr hz
  clear hs hz
  rcases hcase with ⟨rfl, h1 | ⟨h1, h2⟩ | ⟨h1, h2, h3⟩ | ⟨h1, h2, h3, h4⟩⟩ | ⟨rfl, h1, h2, rfl | rfl⟩
  all_goals
    go_enter Try.func3, Try.ntmps3
    go_wp2_with (first
      | (go_at_call 8; (with_reducible refine HN.out.mono ?_); rintro e w1 ⟨b, rfl, hs1⟩
         have HS1 := Lib.hid hs1
         clear hs1)
      | (go_at_call 9; (with_reducible refine (HP.out _ _ HS1.out).mono ?_); rintro e w2 ⟨rfl, hs2⟩
         have HS2 := Lib.hid hs2
         clear hs2 HS1)
      | (go_at_call 9; (with_reducible refine (HP2.out _ _ HS2.out).mono ?_); rintro e w3 ⟨rfl, hs3⟩
         have HS3 := Lib.hid hs3
         clear hs3 HS2)
      | (go_at_call 9; (with_reducible refine (HP3.out _ _ HS3.out).mono ?_); rintro e w4 ⟨rfl, hs4⟩
         have HS4 := Lib.hid hs4
         clear hs4 HS3)
      | (go_at_call 10; (with_reducible refine (HL.out _ _ HS4.out).mono ?_); rintro e w5 ⟨rfl, rfl⟩)
      | (go_at_call 12; (with_reducible refine (HI.out _ _ HS4.out).mono ?_); rintro e w6 ⟨v, rfl, hs6⟩
         obtain ⟨A6, c6, rfl⟩ := own_len (hs6.row 0 rfl)
         have HS6 := Lib.hid hs6
         clear hs6 HS4)
      | (go_at_call 11; (with_reducible refine (HC.out _ _ _ _ HS6.out).mono ?_); rintro e w7 ⟨rfl, n7, rfl⟩
         have HS7 := Lib.hid ((HS6.out.alloc (.cells #[.int .i64 3, .int .i64 0] 3)).drewN n7)
         clear HS6)
      | (go_at_call 13; (with_reducible refine (HF.out _ _ _ HS7.out).mono ?_); rintro e w8 ⟨rfl, hs8⟩
         have HS8 := Lib.hid hs8
         clear hs8)
      | (go_at_call 15; (with_reducible refine (HA.out _).mono ?_); rintro e w9 ⟨rfl, hb9⟩))
    go_ret
    exact ⟨rfl, HS8.out.below.trans (hb9.mono HS8.out.below.size)⟩
set_option maxHeartbeats 4000000 in
/-- Where the push goes through. -/
theorem refuse_yes (queue item : Int) (L2 : List (List Nat)) (hp : pushS L30 5 queue item = (0, L2)) (hf : frontS L2 5 queue item = (-26, L2)) (hw : whereS L2 5 item = queue) (h1 : 0 ≤ queue) (h2 : queue ≤ 1) (h3 : 0 ≤ item) (h4 : item ≤ 4) (h5 : (item == 3) = false) (h6 : (item == 0) = false) (w : World) :
    Calls Try.prog 3 #[.int .i64 queue, .int .i64 item] w fun e w' => e = .returned (.bool true) ∧ Below w.heap.size w w' := by
  have HA := Lib.hid awake_any
  have HN := Lib.hid (new25 w)
  have HP := Lib.hid (fun (W : World) (b : Nat) (h : Star w W [LzA b [[], []] 5]) => push_st h 0 rfl 1 3)
  rw [show pushS [[], []] 5 1 3 = (0, [[], [3]]) from rfl] at HP
  have HP2 := Lib.hid (fun (W : World) (b : Nat) (h : Star w W [LzA b [[], [3]] 5]) => push_st h 0 rfl 1 0)
  rw [show pushS [[], [3]] 5 1 0 = (0, L30) from rfl] at HP2
  have HP3 := Lib.hid (fun (W : World) (b : Nat) (h : Star w W [LzA b L30 5]) => push_st h 0 rfl queue item)
  rw [hp] at HP3
  have HF := Lib.hid (fun (W : World) (b : Nat) (h : Star w W [LzA b L2 5]) => front_st h 0 rfl queue item)
  rw [hf] at HF
  have HW := Lib.hid (fun (W : World) (b : Nat) (h : Star w W [LzA b L2 5]) => where_st h 0 rfl item)
  rw [hw] at HW
  simp only [List.set_cons_zero, List.set_cons_succ] at HP HP2 HP3 HF
  clear hp hf hw
  go_enter Try.func3, Try.ntmps3
  go_wp2_with (first
    | (go_at_call 8; (with_reducible refine HN.out.mono ?_); rintro e w1 ⟨b, rfl, hs1⟩
       have HS1 := Lib.hid hs1
       clear hs1)
    | (go_at_call 9; (with_reducible refine (HP.out _ _ HS1.out).mono ?_); rintro e w2 ⟨rfl, hs2⟩
       have HS2 := Lib.hid hs2
       clear hs2 HS1)
    | (go_at_call 9; (with_reducible refine (HP2.out _ _ HS2.out).mono ?_); rintro e w3 ⟨rfl, hs3⟩
       have HS3 := Lib.hid hs3
       clear hs3 HS2)
    | (go_at_call 9; (with_reducible refine (HP3.out _ _ HS3.out).mono ?_); rintro e w4 ⟨rfl, hs4⟩
       have HS4 := Lib.hid hs4
       clear hs4 HS3)
    | (go_at_call 13; (with_reducible refine (HF.out _ _ HS4.out).mono ?_); rintro e w8 ⟨rfl, hs8⟩
       have HS8 := Lib.hid hs8
       clear hs8)
    | (go_at_call 14; (with_reducible refine (HW.out _ _ HS8.out).mono ?_); rintro e w5 ⟨rfl, rfl⟩)
    | (go_at_call 15; (with_reducible refine (HA.out _).mono ?_); rintro e w9 ⟨rfl, hb9⟩))
  go_ret
  exact ⟨rfl, HS8.out.below.trans (hb9.mono HS8.out.below.size)⟩
theorem refuse_row (queue : Int) (hq : (Lit.int .i64 queue).wf = true) (item : Int) (hi : (Lit.int .i64 item).wf = true) (w : World) :
    Calls Try.prog 3 #[.int .i64 queue, .int .i64 item] w fun e w' => e = .returned (.bool true) ∧ Below w.heap.size w w' := by
  by_cases h1 : 0 ≤ queue ∧ queue ≤ 1 ∧ 0 ≤ item ∧ item ≤ 4
  · obtain ⟨h2, h3, h4, h5⟩ := h1
    have hqq : queue = 0 ∨ queue = 1 := by omega
    have hii : item = 0 ∨ item = 1 ∨ item = 2 ∨ item = 3 ∨ item = 4 := by omega
    rcases hqq with rfl | rfl
    · rcases hii with rfl | rfl | rfl | rfl | rfl
      · exact refuse_no 0 0 (-26) rfl (by omega) (.inr (by omega)) w
      · exact refuse_yes 0 1 [[1], [3, 0]] rfl rfl rfl (by omega) (by omega) (by omega) (by omega) rfl rfl w
      · exact refuse_yes 0 2 [[2], [3, 0]] rfl rfl rfl (by omega) (by omega) (by omega) (by omega) rfl rfl w
      · exact refuse_no 0 3 (-26) rfl (by omega) (.inr (by omega)) w
      · exact refuse_yes 0 4 [[4], [3, 0]] rfl rfl rfl (by omega) (by omega) (by omega) (by omega) rfl rfl w
    · rcases hii with rfl | rfl | rfl | rfl | rfl
      · exact refuse_no 1 0 (-26) rfl (by omega) (.inr (by omega)) w
      · exact refuse_yes 1 1 [[], [3, 0, 1]] rfl rfl rfl (by omega) (by omega) (by omega) (by omega) rfl rfl w
      · exact refuse_yes 1 2 [[], [3, 0, 2]] rfl rfl rfl (by omega) (by omega) (by omega) (by omega) rfl rfl w
      · exact refuse_no 1 3 (-26) rfl (by omega) (.inr (by omega)) w
      · exact refuse_yes 1 4 [[], [3, 0, 4]] rfl rfl rfl (by omega) (by omega) (by omega) (by omega) rfl rfl w
  · refine refuse_no queue item (-14) (chk_bad ?_) (by omega) (.inl ⟨rfl, by omega⟩) w
    unfold okQ okI
    simp only [List.length_cons, List.length_nil]
    omega
end Go.Proofs.Ytfahhjbbbimjfaa.Li
