/- The tree of tasks: a task's number; Alive, fits, forbids, Under. -/
import Derived.Test.YtojmhacafmpbgaaTkA
namespace Go.Proofs.Ytojmhacafmpbgaa.Tk
open Go Go.RowKit Go.Proofs.Ytojmhacafmpbgaa.Mem
set_option linter.unusedVariables false
set_option linter.unusedSimpArgs false
/-- The task of that number. -/
def taskAt (s : Tr) (id : Int) : Option Tk := if id < 1 then none else s.ts[(id - 1).toNat]?
def aliveT (s : Tr) (id : Int) : Bool := match taskAt s id with | none => false | some x => decide (x.st ≠ 2)
section
variable {w0 w : World} {S : List Asr} {b : Nat} {s : Tr} {v : Value} {ps : List (Nat × Value)}
theorem find_two (h : Star w0 w (tr b s v ps ++ S)) (id : Int) : (taskAt s id = none ∧ findV ps id = .pointer none) ∨
    ∃ x p, taskAt s id = some x ∧ ps[(id - 1).toNat]? = some p ∧ findV ps id = .pointer (some ⟨p.1, 0, none⟩) ∧ Blk w p.1 61 (tkC x p.2) := by
  have hl := tr_len h
  unfold taskAt findV
  by_cases h1 : id < 1
  · rw [if_pos h1, if_pos h1]
    exact .inl ⟨rfl, rfl⟩
  · rw [if_neg h1, if_neg h1]
    by_cases h2 : (ps.length : Int) < id
    · rw [if_pos h2]
      exact .inl ⟨List.getElem?_eq_none (by omega), rfl⟩
    · rw [if_neg h2]
      obtain ⟨x, hx⟩ : ∃ x, s.ts[(id - 1).toNat]? = some x := ⟨_, List.getElem?_eq_getElem (by omega)⟩
      obtain ⟨p, hp, hb, -⟩ := tr_task h hx
      exact .inr ⟨x, p, hx, hp, by rw [ptrs, List.getElem?_map, hp]; rfl, hb⟩
theorem tk_cells {x : Tk} {g : Nat} {u : Value} (h : Blk w g 61 (tkC x u)) : w.cell? ⟨g, 0, none⟩ = some (.int .i64 x.kd) ∧ w.cell? ⟨g, 1, none⟩ = some (.int .i64 x.pa) ∧ w.cell? ⟨g, 2, none⟩ = some (.int .i64 x.st) ∧ w.cell? ⟨g, 3, none⟩ = some (.int .i64 x.co) ∧ w.cell? ⟨g, 4, none⟩ = some (.int .i64 x.po) ∧ w.cell? ⟨g, 5, none⟩ = some (.int .i64 x.cr) ∧ w.cell? ⟨g, 6, none⟩ = some u ∧ w.cell? ⟨g, 7, none⟩ = some (.int .i64 x.dp) :=
  ⟨h.cellv rfl, h.cellv rfl, h.cellv rfl, h.cellv rfl, h.cellv rfl, h.cellv rfl, h.cellv rfl, h.cellv rfl⟩
theorem alive_any (h : Star w0 w (tr b s v ps ++ S)) (id : Int) : Calls Try.prog 16 #[.pointer (some ⟨b, 0, none⟩), .int .i64 id] w fun r w' => r = .returned (.bool (aliveT s id)) ∧ w = w' := by
  have hf := find_any h id
  unfold aliveT
  rcases find_two h id with ⟨h1, h2⟩ | ⟨x, p, h1, -, h2, hb⟩
  · rw [h1]
    rw [h2] at hf
    have HF := Lib.hid hf
    clear h hf h1 h2
    go_enter Try.func16, Try.ntmps16
    go_wp2_with (first | (go_at_call 31; (with_reducible refine HF.out.mono ?_); rintro e w1 ⟨rfl, rfl⟩))
    go_ret
    exact ⟨rfl, rfl⟩
  · rw [h1]
    rw [h2] at hf
    have HF := Lib.hid hf
    obtain ⟨-, -, k2, -, -, -, -, -⟩ := tk_cells hb
    simp only
    by_cases hst : x.st = 2
    · rw [hst] at k2
      rw [decide_eq_false (by simpa using hst)]
      clear h hf h1 h2 hb hst
      go_enter Try.func16, Try.ntmps16
      go_wp2_with (first | (go_at_call 31; (with_reducible refine HF.out.mono ?_); rintro e w1 ⟨rfl, rfl⟩))
      go_ret
      exact ⟨rfl, rfl⟩
    · have hne : ((x.st : Int) != 2) = true := by simp; omega
      rw [decide_eq_true hst]
      clear h hf h1 h2 hb hst
      generalize x.st = st at *
      go_enter Try.func16, Try.ntmps16
      go_wp2_with (first | (go_at_call 31; (with_reducible refine HF.out.mono ?_); rintro e w1 ⟨rfl, rfl⟩))
      go_ret
      exact ⟨rfl, rfl⟩
end
def fitsT (k p : Int) : Bool := decide ((k = 1 ∨ k = 2) ∧ p = 1 ∨ k = 3 ∧ p = 2)
theorem fits_any (k p : Int) (w : World) : Calls Try.prog 32 #[.int .i64 k, .int .i64 p] w fun r w' => r = .returned (.bool (fitsT k p)) ∧ w = w' := by
  unfold fitsT
  by_cases h1 : k = 1
  · subst h1
    by_cases h2 : p = 1
    · subst h2
      go_enter Try.func32, Try.ntmps32
      go_wp2
      go_ret
      exact ⟨rfl, rfl⟩
    · have z : (p == 1) = false := beq_eq_false_iff_ne.mpr h2
      rw [decide_eq_false (by omega)]
      clear h2
      go_enter Try.func32, Try.ntmps32
      go_wp2
      go_ret
      exact ⟨rfl, rfl⟩
  · have z1 : (k == 1) = false := beq_eq_false_iff_ne.mpr h1
    by_cases h2 : k = 2
    · subst h2
      by_cases h3 : p = 1
      · subst h3
        go_enter Try.func32, Try.ntmps32
        go_wp2
        go_ret
        exact ⟨rfl, rfl⟩
      · have z : (p == 1) = false := beq_eq_false_iff_ne.mpr h3
        rw [decide_eq_false (by omega)]
        clear h3 h1
        go_enter Try.func32, Try.ntmps32
        go_wp2
        go_ret
        exact ⟨rfl, rfl⟩
    · have z2 : (k == 2) = false := beq_eq_false_iff_ne.mpr h2
      by_cases h3 : k = 3
      · subst h3
        by_cases h4 : p = 2
        · subst h4
          go_enter Try.func32, Try.ntmps32
          go_wp2
          go_ret
          exact ⟨rfl, rfl⟩
        · have z : (p == 2) = false := beq_eq_false_iff_ne.mpr h4
          rw [decide_eq_false (by omega)]
          clear h4 h1 h2
          go_enter Try.func32, Try.ntmps32
          go_wp2
          go_ret
          exact ⟨rfl, rfl⟩
      · have z3 : (k == 3) = false := beq_eq_false_iff_ne.mpr h3
        rw [decide_eq_false (by omega)]
        clear h1 h2 h3
        go_enter Try.func32, Try.ntmps32
        go_wp2
        go_ret
        exact ⟨rfl, rfl⟩
def forbidsT (k : Int) : Int := if k = 2 then 1 else if k = 1 then 2 else 4
theorem forbids_any (k : Int) (w : World) : Calls Try.prog 33 #[.int .i64 k] w fun r w' => r = .returned (.int .i64 (forbidsT k)) ∧ w = w' := by
  unfold forbidsT
  by_cases h2 : k = 2
  · subst h2
    go_enter Try.func33, Try.ntmps33
    go_wp2
    go_ret
    exact ⟨rfl, rfl⟩
  · have z2 : (k == 2) = false := beq_eq_false_iff_ne.mpr h2
    rw [if_neg h2]
    by_cases h1 : k = 1
    · subst h1
      go_enter Try.func33, Try.ntmps33
      go_wp2
      go_ret
      exact ⟨rfl, rfl⟩
    · have z1 : (k == 1) = false := beq_eq_false_iff_ne.mpr h1
      rw [if_neg h1]
      clear h1 h2
      go_enter Try.func33, Try.ntmps33
      go_wp2
      go_ret
      exact ⟨rfl, rfl⟩
end Go.Proofs.Ytojmhacafmpbgaa.Tk
