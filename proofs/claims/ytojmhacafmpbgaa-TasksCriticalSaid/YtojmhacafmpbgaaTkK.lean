/- The tree of tasks: Kill, SetCritical. -/
import Derived.Test.YtojmhacafmpbgaaTkJ
namespace Go.Proofs.Ytojmhacafmpbgaa.Tk
open Go Go.RowKit Go.Proofs.Ytojmhacafmpbgaa.Mem
set_option linter.unusedVariables false
set_option linter.unusedSimpArgs false
/-- What Kill tells. -/
def killSt (s : Tr) (id : Int) : Int := match taskAt s id with
  | none => -25
  | some x => if x.st = 2 then -20 else 0
section
variable {w0 w : World} {S : List Asr} {b : Nat} {s : Tr} {v : Value} {ps : List (Nat × Value)}
theorem die_any (h : Star w0 w (tr b s v ps ++ S)) (id : Nat) (code : Int) (R : Tr × List Nat) (g0 : Nat) (hg0 : g0 ≤ 10000000) (hR : dieF code g0 s [id] [] = some R) : Calls Try.prog 34 #[.pointer (some ⟨b, 0, none⟩), .int .i64 id, .int .i64 code] w fun e w' => ∃ u, e = .returned u ∧ Star w0 w' (RowO 3 1 u R.2.length (nV R.2) :: (tr b R.1 v ps ++ S)) :=
  callsIn_wide.1 (die_in h id code R g0 hg0 hR)
theorem alive_of {s : Tr} {id : Int} : aliveT s id = true ↔ killSt s id = 0 := by
  unfold aliveT killSt
  cases taskAt s id with
  | none => simp
  | some x =>
    simp only [decide_eq_true_eq]
    by_cases h : x.st = 2 <;> simp [h]
theorem kill_bad (h : Star w0 w (tr b s v ps ++ S)) (id code : Int) (hst : killSt s id ≠ 0) : Calls Try.prog 12 #[.pointer (some ⟨b, 0, none⟩), .int .i64 id, .int .i64 code] w fun e w' => e = .returned (.tuple #[.slice none 0 0, .int .i64 (killSt s id)]) ∧ w = w' := by
  have hf := find_any h id
  have hal := alive_any h id
  have HN : aliveT s id = false := by
    cases hh : aliveT s id with
    | false => rfl
    | true => exact absurd (alive_of.1 hh) hst
  rw [HN] at hal
  have HAl := Lib.hid hal
  unfold killSt at hst ⊢
  rcases find_two h id with ⟨h1, h2⟩ | ⟨x, p, h1, -, h2, -⟩
  · rw [h1]
    rw [h2] at hf
    have HF := Lib.hid hf
    clear h hf h1 h2 hal HN hst
    go_enter Try.func12, Try.ntmps12
    go_wp2_with (first | (go_at_call 31; (with_reducible refine HF.out.mono ?_); rintro e w1 ⟨rfl, rfl⟩))
    go_ret2
    exact ⟨rfl, rfl⟩
  · rw [h1] at hst ⊢
    rw [h2] at hf
    have HF := Lib.hid hf
    have h2' : x.st = 2 := by
      by_cases hx : x.st = 2
      · exact hx
      · simp [hx] at hst
    simp only [if_pos h2']
    clear h hf h1 h2 hal HN hst h2'
    go_enter Try.func12, Try.ntmps12
    go_wp2_with (first
      | (go_at_call 31; (with_reducible refine HF.out.mono ?_); rintro e w1 ⟨rfl, rfl⟩)
      | (go_at_call 16; (with_reducible refine HAl.out.mono ?_); rintro e w1 ⟨rfl, rfl⟩))
    go_ret2
    exact ⟨rfl, rfl⟩
theorem kill_ok (h : Star w0 w (tr b s v ps ++ S)) (id : Nat) (code : Int) (hst : killSt s id = 0) (R : Tr × List Nat) (g0 : Nat) (hg0 : g0 ≤ 10000000) (hR : dieF code g0 s [id] [] = some R) : Calls Try.prog 12 #[.pointer (some ⟨b, 0, none⟩), .int .i64 id, .int .i64 code] w fun e w' => ∃ u, e = .returned (.tuple #[u, .int .i64 0]) ∧ Star w0 w' (RowO 3 1 u R.2.length (nV R.2) :: (tr b R.1 v ps ++ S)) := by
  have hf := find_any h id
  have hal := alive_any h id
  rw [alive_of.2 hst] at hal
  have HAl := Lib.hid hal
  have HD := Lib.hid (die_any h id code R g0 hg0 hR)
  rcases find_two h id with ⟨h1, -⟩ | ⟨x, p, h1, -, h2, -⟩
  · unfold killSt at hst
    rw [h1] at hst
    cases hst
  · rw [h2] at hf
    have HF := Lib.hid hf
    clear h hf h1 h2 hal hst hR
    go_enter Try.func12, Try.ntmps12
    go_wp2_with (first
      | (go_at_call 31; (with_reducible refine HF.out.mono ?_); rintro e w1 ⟨rfl, rfl⟩)
      | (go_at_call 16; (with_reducible refine HAl.out.mono ?_); rintro e w1 ⟨rfl, rfl⟩)
      | (go_at_call 34; (with_reducible refine HD.out.mono ?_); rintro e w1 ⟨u, rfl, hs1⟩; have HS1 := Lib.hid hs1; clear hs1))
    go_ret2
    exact ⟨u, rfl, HS1.out⟩
/-- Does one of the jobs from at on up to the one named forbid critical processes? -/
def barT (s : Tr) (job : Int) : Nat → Int → Option Bool
  | 0, _ => none
  | n + 1, at_ => match taskAt s at_ with
    | none => none
    | some x => if bits .and .i64 (x.po : Int) 8 ≠ 0 then some true else if at_ = job then some false else barT s job n x.pa
def critSt (s : Tr) (x j : Tk) (process job : Int) : Int :=
  if x.kd ≠ 2 ∨ j.kd ≠ 1 then -12
  else if underT s process job = false then -10
  else if x.st = 2 ∨ j.st = 2 ∨ x.cr ≠ 0 then -20
  else if barT s job (x.pa + 1) x.pa = some true then -30
  else 0
def critC (s : Tr) (process job : Int) : Int × Tr :=
  match taskAt s process, taskAt s job with
  | some x, some j => if critSt s x j process job = 0 then (0, { s with ts := s.ts.set (process - 1).toNat { x with cr := job.toNat } }) else (critSt s x j process job, s)
  | _, _ => (-25, s)
end
end Go.Proofs.Ytojmhacafmpbgaa.Tk
