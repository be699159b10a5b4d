/- ListsPlays at every input. -/
import Derived.Test.YtfahhjbbbimjfaaLiPlays
namespace Go.Proofs.Ytfahhjbbbimjfaa.Li
open Go Go.RowKit Go.Proofs.Ytfahhjbbbimjfaa.Mem
set_option linter.unusedVariables false
set_option linter.unusedSimpArgs false
set_option maxRecDepth 8000 in
set_option maxHeartbeats 4000000 in
theorem plays_row (a0 : Int) (_ : (Lit.int .i64 a0).wf = true) (a1 : Int) (_ : (Lit.int .i64 a1).wf = true) (A : Option Addr) (c : Nat) (l : List (List Int)) (w : World) (hr : Reads w w.heap.size 3 A l.length (l.map (·.map (Value.int .i64))).flatten) (hm : l.length ≤ maxLen) (hl3 : ∀ r ∈ l, r.length = 3 ∧ ∀ x ∈ r, (Lit.int .i64 x).wf = true) :
    Calls Try.prog 5 #[.int .i64 a0, .int .i64 a1, .slice A l.length c] w fun e w' => e = .returned (.bool true) ∧ Below w.heap.size w w' := by
  have HA := Lib.hid awake_any
  by_cases hb : a0 < 0 ∨ (0 ≤ a0 ∧ 65536 < a0) ∨ (0 ≤ a0 ∧ a0 ≤ 65536 ∧ a1 < 0) ∨ (0 ≤ a0 ∧ a0 ≤ 65536 ∧ 0 ≤ a1 ∧ 65536 < a1)
  · have HN := Lib.hid (new_no (n := a0) (m := a1) (by omega) w)
    clear hr hl3
    generalize l.length = n0 at *
    rcases hb with h1 | ⟨h1, h2⟩ | ⟨h1, h2, h3⟩ | ⟨h1, h2, h3, h4⟩
    all_goals
      go_enter Try.func5, Try.ntmps5
      go_wp2_with (first
        | (go_at_call 8; (with_reducible refine HN.out.mono ?_); rintro e w1 ⟨rfl, rfl⟩)
        | (go_at_call 15; (with_reducible refine (HA.out _).mono ?_); rintro e w2 ⟨rfl, hb2⟩))
      go_ret
      exact ⟨rfl, hb2⟩
  · obtain ⟨n, rfl⟩ : ∃ n : Nat, a0 = n := ⟨a0.toNat, by omega⟩
    obtain ⟨m, rfl⟩ : ∃ n : Nat, a1 = n := ⟨a1.toNat, by omega⟩
    by_cases hbig : 150 < l.length ∨ 20 < n
    · have HN := Lib.hid (new_st (Star.nil w) (n := n) (m := m) (by omega) (by omega))
      have h1 : (0 : Int) ≤ n := by omega
      have h2 : (n : Int) ≤ 65536 := by omega
      have h3 : (0 : Int) ≤ m := by omega
      have h4 : (m : Int) ≤ 65536 := by omega
      clear hr hl3 hb
      generalize l.length = n0 at *
      by_cases h5 : 150 < n0
      · clear hbig
        go_enter Try.func5, Try.ntmps5
        go_wp2_with (first
          | (go_at_call 8; (with_reducible refine HN.out.mono ?_); rintro e w1 ⟨b, rfl, hs1⟩)
          | (go_at_call 15; (with_reducible refine (HA.out _).mono ?_); rintro e w2 ⟨rfl, hb2⟩))
        go_ret
        exact ⟨rfl, hs1.below.trans (hb2.mono hs1.below.size)⟩
      · have h6 : 20 < n := by omega
        have h7 : n0 ≤ 150 := by omega
        clear hbig h5
        go_enter Try.func5, Try.ntmps5
        go_wp2_with (first
          | (go_at_call 8; (with_reducible refine HN.out.mono ?_); rintro e w1 ⟨b, rfl, hs1⟩)
          | (go_at_call 15; (with_reducible refine (HA.out _).mono ?_); rintro e w2 ⟨rfl, hb2⟩))
        go_ret
        exact ⟨rfl, hs1.below.trans (hb2.mono hs1.below.size)⟩
    · exact plays_main n m A c l w (by omega) (by omega) (by omega) hr hl3
end Go.Proofs.Ytfahhjbbbimjfaa.Li
