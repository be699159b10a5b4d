/- The tree of tasks: Exit. -/
import Derived.Test.YtojmhacafmpbgaaTkN
namespace Go.Proofs.Ytojmhacafmpbgaa.Tk
open Go Go.RowKit Go.Shelf Go.Proofs.Ytojmhacafmpbgaa.Mem
set_option linter.unusedVariables false
set_option linter.unusedSimpArgs false
attribute [local go_sem] Oper.semAt_some
/-- What Exit tells. -/
def exitSt (s : Tr) (id : Int) : Int := match taskAt s id with
  | none => -25
  | some x => if x.kd ≠ 3 then -12 else if x.st ≠ 1 then -20 else 0
section
variable {w0 w : World} {S : List Asr} {b : Nat} {s : Tr} {v : Value} {ps : List (Nat × Value)}
theorem cell_two (w : World) (t t2 : TypeId) (u u2 : Value) : ((w.alloc (.cells #[u] t)).alloc (.cells #[u2] t2)).cell? ⟨w.heap.size, 0, none⟩ = some u := by
  have h := ((Star.start (Below.refl w.heap.size w) : Star w w []).newBlk t #[u]).newBlk t2 #[u2]
  exact (h.blk 1 rfl).cellv (i := 0) rfl
theorem cell_two' (w : World) (t t2 : TypeId) (u u2 : Value) : ((w.alloc (.cells #[u] t)).alloc (.cells #[u2] t2)).cell? ⟨w.heap.size + 1, 0, none⟩ = some u2 := by
  have h := ((Star.start (Below.refl w.heap.size w) : Star w w []).newBlk t #[u]).newBlk t2 #[u2]
  rw [World.size_alloc] at h
  exact (h.blk 0 rfl).cellv (i := 0) rfl
set_option maxHeartbeats 2000000 in
theorem exit_bad (h : Star w0 w (tr b s v ps ++ S)) (id code : Int) (hst : exitSt s id ≠ 0) : Calls Try.prog 18 #[.pointer (some ⟨b, 0, none⟩), .int .i64 id, .int .i64 code] w fun e w' => e = .returned (.tuple #[.slice none 0 0, .int .i64 (exitSt s id)]) ∧ Star w0 w' (tr b s v ps ++ S) := by
  have h0 := (h.newBlk 28 #[.slice none 0 0]).newBlk 25 #[.int .i64 0]
  rw [World.size_alloc] at h0
  have f0 := (h0.blk 0 rfl).frozen 0
  have f1 := (h0.blk 1 rfl).frozen 0
  have q0 := (h0.blk 0 rfl).cellv (i := 0) rfl
  have q1 := (h0.blk 1 rfl).cellv (i := 0) rfl
  have hf := find_any h0.tail.tail id
  have H0 := Lib.hid h
  unfold exitSt at hst ⊢
  rcases find_two h0.tail.tail id with ⟨h1, h2⟩ | ⟨x, p, h1, -, h2, hb⟩
  · rw [h1]
    rw [h2] at hf
    have HF := Lib.hid hf
    have hs := h0.setBlk 1 rfl 0 (.slice none 0 0)
    simp only [List.set_cons_zero, List.set_cons_succ] at hs
    have q2 := (hs.blk 0 rfl).cellv (i := 0) rfl
    have f2 := (hs.blk 0 rfl).frozen 0
    have HS := Lib.hid (hs.setBlk 0 rfl 0 (.int .i64 (-25)))
    clear h h0 hf h1 h2 hst hs
    go_enter Try.func18, Try.ntmps18
    go_wp2_with (first | (go_at_call 31; (with_reducible refine HF.out.mono ?_); rintro e w1 ⟨rfl, rfl⟩))
    trace_state
    exact bodyPost_ret (results_cell2 rfl _ _ ⟨w.heap.size, 0, none⟩ ⟨w.heap.size + 1, 0, none⟩ _ _ _ _ rfl u28 rfl (cell_two w _ _ _ _) rfl u25 rfl (cell_two' w _ _ _ _)) rfl ⟨rfl, (H0.out.alloc _).alloc _⟩
  · rw [h1] at hst ⊢
    rw [h2] at hf
    have HF := Lib.hid hf
    obtain ⟨k0, -, k2, -, -, -, -, -⟩ := tk_cells hb
    simp only at hst ⊢
    by_cases c1 : x.kd ≠ 3
    · rw [if_pos c1]
      have z1 : ((x.kd : Int) != 3) = true := by simp; omega
      clear h h0 hf h1 h2 hst hb c1
      generalize x.kd = kd at *
      go_enter Try.func18, Try.ntmps18
      go_wp2_with (first | (go_at_call 31; (with_reducible refine HF.out.mono ?_); rintro e w1 ⟨rfl, rfl⟩))
      exact bodyPost_ret (results_cell2 rfl _ _ ⟨w.heap.size, 0, none⟩ ⟨w.heap.size + 1, 0, none⟩ _ _ _ _ rfl u28 rfl (cell_two w _ _ _ _) rfl u25 rfl (cell_two' w _ _ _ _)) rfl ⟨rfl, (H0.out.alloc _).alloc _⟩
    rw [if_neg c1] at hst ⊢
    have c2 : x.kd = 3 := by omega
    rw [c2] at k0
    by_cases c3 : x.st ≠ 1
    · rw [if_pos c3]
      have z1 : ((x.st : Int) != 1) = true := by simp; omega
      clear h h0 hf h1 h2 hst hb c1 c2 c3
      generalize x.st = st at *
      go_enter Try.func18, Try.ntmps18
      go_wp2_with (first | (go_at_call 31; (with_reducible refine HF.out.mono ?_); rintro e w1 ⟨rfl, rfl⟩))
      exact bodyPost_ret (results_cell2 rfl _ _ ⟨w.heap.size, 0, none⟩ ⟨w.heap.size + 1, 0, none⟩ _ _ _ _ rfl u28 rfl (cell_two w _ _ _ _) rfl u25 rfl (cell_two' w _ _ _ _)) rfl ⟨rfl, (H0.out.alloc _).alloc _⟩
    · rw [if_neg c3] at hst
      exact absurd rfl hst
end
end Go.Proofs.Ytojmhacafmpbgaa.Tk
