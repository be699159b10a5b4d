/- Contract of Add (package jacinthref01). -/
import Derived.Test.YtfdnbefeidpccaaBigA
namespace Go.Proofs.Ytfdnbefeidpccaa.Big
open Go Go.RowKit Go.Proofs.Ytfdnbefeidpccaa.Mem
set_option linter.unusedVariables false
set_option linter.unusedSimpArgs false
section
variable (W : World) (A B : List Int) (na nb : Bool) (o : Obj)
theorem ab1 : Blk (((W.alloc (.cells (bigA A na) 30)).alloc (.cells (bigA B nb) 30)).alloc o) W.heap.size 30 (bigA A na) := ((Blk.newAt rfl).alloc _).alloc _
theorem ab2 : Blk (((W.alloc (.cells (bigA A na) 30)).alloc (.cells (bigA B nb) 30)).alloc o) (W.heap.size + 1) 30 (bigA B nb) := (Blk.newAt (by simp)).alloc _
theorem ab3 (cs : Array Value) : Blk (((W.alloc (.cells (bigA A na) 30)).alloc (.cells (bigA B nb) 30)).alloc (.cells cs 30)) (W.heap.size + 1 + 1) 30 cs := Blk.newAt (by simp)
theorem abb (x y : Obj) : Below W.heap.size W (((W.alloc x).alloc y).alloc o) := (((Below.refl _ _).alloc (Nat.le_refl _) _).alloc (by simp) _).alloc (by simp; omega) _
end
theorem sg_lt {na nb : Bool} {m n : Int} (h : na ≠ nb) : sg nb (n - m) = sg na m + sg nb n := by
  cases na <;> cases nb <;> simp [sg] at h ⊢ <;> omega
theorem sg_ge {na nb : Bool} {m n : Int} (h : na ≠ nb) : sg na (m - n) = sg na m + sg nb n := by
  cases na <;> cases nb <;> simp [sg] at h ⊢ <;> omega
set_option maxHeartbeats 1000000 in
theorem add_same {A B : List Int} {m n : Int} (na nb : Bool) (hn : na = nb) (hA : V A m) (hB : V B n) (hs : m + n < 65536 ^ 12) (w : World) :
    Calls Try.prog 19 #[.agg (bigA A na), .agg (bigA B nb)] w (SBig (sg na m + sg nb n) (m + n) w) := by
  have eA := bigA_neg (neg := na) hA.len
  have eB := bigA_neg (neg := nb) hB.len
  have HA := Lib.hid hA
  have HB := Lib.hid hB
  clear hA hB
  have hd : (na == nb) = true := beq_iff_eq.mpr hn
  have HN := Lib.hid hn
  clear hn
  go_enter Try.func19, Try.ntmps19
  go_wp2_with (first
    | (with_reducible refine wpList_load_row rfl 30 (.tmp 2) rfl _ rfl 30 _ (0, 0) _ (ab1 w A B na nb _).heap Try.underlying30 rfl (by rw [info30, bigA_size HA.out.len]) ?_)
    | (with_reducible refine wpList_load_row rfl 30 (.tmp 3) rfl _ rfl 30 _ (0, 0) _ (ab2 w A B na nb _).heap Try.underlying30 rfl (by rw [info30, bigA_size HB.out.len]) ?_)
    | (go_at_call 30; refine (plus_any na nb HA.out HB.out hs _).mono ?_; rintro e w1 ⟨D, rfl, hV, hb1⟩; have bR := (ab3 w A B na nb _).below hb1 (by simp))
    | (with_reducible refine wpList_store_row rfl 30 (.tmp 4) (.tmp 12) rfl _ _ rfl rfl 30 _ bR.heap (by rw [info30, bigA_size hV.len]) (Eq.trans (b := 13) rfl (bigA_size hV.len).symm) (bigA_one _ _) ?_))
  refine bodyPost_ret (results_cell_row rfl _ _ _ 30 _ (0, 0) _ rfl (bR.row _).heap Try.underlying30 rfl (by rw [info30, bigA_size hV.len])) rfl ⟨D, _, _, rfl, hV, by rw [HN.out]; unfold sg; split <;> omega, Int.le_refl _, below_setRow ((abb w _ _ _).trans (hb1.mono (by simp; omega))) (by omega) _⟩
set_option maxHeartbeats 1000000 in
theorem add_lt {A B : List Int} {m n : Int} (na nb : Bool) (hn : na ≠ nb) (hA : V A m) (hB : V B n) (hlt : m < n) (w : World) :
    Calls Try.prog 19 #[.agg (bigA A na), .agg (bigA B nb)] w (SBig (sg na m + sg nb n) (m + n) w) := by
  have eA := bigA_neg (neg := na) hA.len
  have eB := bigA_neg (neg := nb) hB.len
  have HA := Lib.hid hA
  have HB := Lib.hid hB
  clear hA hB
  have hd : (na == nb) = false := beq_eq_false_iff_ne.mpr hn
  have HN := Lib.hid hn
  clear hn
  have hm0 := HA.out.nonneg
  have hn0 := HB.out.nonneg
  go_enter Try.func19, Try.ntmps19
  go_wp2_with (first
    | (with_reducible refine wpList_load_row rfl 30 (.tmp 2) rfl _ rfl 30 _ (0, 0) _ (ab1 w A B na nb _).heap Try.underlying30 rfl (by rw [info30, bigA_size HA.out.len]) ?_)
    | (with_reducible refine wpList_load_row rfl 30 (.tmp 3) rfl _ rfl 30 _ (0, 0) _ (ab2 w A B na nb _).heap Try.underlying30 rfl (by rw [info30, bigA_size HB.out.len]) ?_)
    | (go_at_call 31; refine (less_any na nb HA.out HB.out _).mono ?_; rintro e w0 ⟨rfl, hb0⟩; have bA := (ab1 w A B na nb _).below hb0 (by simp; omega); have bB := (ab2 w A B na nb _).below hb0 (by simp))
    | (with_reducible refine wpList_load_row rfl 30 (.tmp 2) rfl _ rfl 30 _ (0, 0) _ bA.heap Try.underlying30 rfl (by rw [info30, bigA_size HA.out.len]) ?_)
    | (with_reducible refine wpList_load_row rfl 30 (.tmp 3) rfl _ rfl 30 _ (0, 0) _ bB.heap Try.underlying30 rfl (by rw [info30, bigA_size HB.out.len]) ?_)
    | (go_at_call 32; refine (minus_any nb na HB.out HA.out (by omega) _).mono ?_; rintro e w1 ⟨D, rfl, hV, hb2⟩; have hb1 := hb0.trans (hb2.mono hb0.size); have bR := (ab3 w A B na nb _).below hb1 (by simp))
    | (with_reducible refine wpList_store_row rfl 30 (.tmp 4) (.tmp 18) rfl _ _ rfl rfl 30 _ bR.heap (by rw [info30, bigA_size hV.len]) (Eq.trans (b := 13) rfl (bigA_size hV.len).symm) (bigA_one _ _) ?_))
  refine bodyPost_ret (results_cell_row rfl _ _ _ 30 _ (0, 0) _ rfl (bR.row _).heap Try.underlying30 rfl (by rw [info30, bigA_size hV.len])) rfl ⟨D, _, _, rfl, hV, (sg_lt HN.out), by omega, below_setRow ((abb w _ _ _).trans (hb1.mono (by simp; omega))) (by omega) _⟩
set_option maxHeartbeats 1000000 in
theorem add_ge {A B : List Int} {m n : Int} (na nb : Bool) (hn : na ≠ nb) (hA : V A m) (hB : V B n) (hlt : ¬ m < n) (w : World) :
    Calls Try.prog 19 #[.agg (bigA A na), .agg (bigA B nb)] w (SBig (sg na m + sg nb n) (m + n) w) := by
  have eA := bigA_neg (neg := na) hA.len
  have eB := bigA_neg (neg := nb) hB.len
  have HA := Lib.hid hA
  have HB := Lib.hid hB
  clear hA hB
  have hd : (na == nb) = false := beq_eq_false_iff_ne.mpr hn
  have HN := Lib.hid hn
  clear hn
  have hm0 := HA.out.nonneg
  have hn0 := HB.out.nonneg
  go_enter Try.func19, Try.ntmps19
  go_wp2_with (first
    | (with_reducible refine wpList_load_row rfl 30 (.tmp 2) rfl _ rfl 30 _ (0, 0) _ (ab1 w A B na nb _).heap Try.underlying30 rfl (by rw [info30, bigA_size HA.out.len]) ?_)
    | (with_reducible refine wpList_load_row rfl 30 (.tmp 3) rfl _ rfl 30 _ (0, 0) _ (ab2 w A B na nb _).heap Try.underlying30 rfl (by rw [info30, bigA_size HB.out.len]) ?_)
    | (go_at_call 31; refine (less_any na nb HA.out HB.out _).mono ?_; rintro e w0 ⟨rfl, hb0⟩; have bA := (ab1 w A B na nb _).below hb0 (by simp; omega); have bB := (ab2 w A B na nb _).below hb0 (by simp))
    | (with_reducible refine wpList_load_row rfl 30 (.tmp 2) rfl _ rfl 30 _ (0, 0) _ bA.heap Try.underlying30 rfl (by rw [info30, bigA_size HA.out.len]) ?_)
    | (with_reducible refine wpList_load_row rfl 30 (.tmp 3) rfl _ rfl 30 _ (0, 0) _ bB.heap Try.underlying30 rfl (by rw [info30, bigA_size HB.out.len]) ?_)
    | (go_at_call 32; refine (minus_any na nb HA.out HB.out (by omega) _).mono ?_; rintro e w1 ⟨D, rfl, hV, hb2⟩; have hb1 := hb0.trans (hb2.mono hb0.size); have bR := (ab3 w A B na nb _).below hb1 (by simp))
    | (with_reducible refine wpList_store_row rfl 30 (.tmp 4) (.tmp 21) rfl _ _ rfl rfl 30 _ bR.heap (by rw [info30, bigA_size hV.len]) (Eq.trans (b := 13) rfl (bigA_size hV.len).symm) (bigA_one _ _) ?_))
  refine bodyPost_ret (results_cell_row rfl _ _ _ 30 _ (0, 0) _ rfl (bR.row _).heap Try.underlying30 rfl (by rw [info30, bigA_size hV.len])) rfl ⟨D, _, _, rfl, hV, (sg_ge HN.out), by omega, below_setRow ((abb w _ _ _).trans (hb1.mono (by simp; omega))) (by omega) _⟩
theorem add_any {A B : List Int} {m n : Int} (na nb : Bool) (hA : V A m) (hB : V B n) (hs : m + n < 65536 ^ 12) (w : World) :
    Calls Try.prog 19 #[.agg (bigA A na), .agg (bigA B nb)] w (SBig (sg na m + sg nb n) (m + n) w) := by
  by_cases h : na = nb
  · exact add_same na nb h hA hB hs w
  · by_cases hl : m < n
    · exact add_lt na nb h hA hB hl w
    · exact add_ge na nb h hA hB hl w
end Go.Proofs.Ytfdnbefeidpccaa.Big
