/- The walk of the statement SignalChanges. -/
import Derived.Test.YtdcdmbamloebfaaSigChg
namespace Go.Proofs.Ytdcdmbamloebfaa.Sig
open Go Go.RowKit Go.Proofs.Ytdcdmbamloebfaa.Bits
set_option linter.unusedVariables false
set_option linter.unusedSimpArgs false
theorem quiet_left {P : Program} {f : FuncId} {args : Array Value} {w : World} {n : Nat} {v : Value}
    (h : Calls P f args (w.drewN n) fun e w' => e = .returned v ∧ w.drewN n = w') : Calls P f args (w.drewN n) fun e w'' => e = .returned v ∧ ∃ m, w'' = w.drewN m :=
  h.mono fun _ _ ⟨he, hm⟩ => ⟨he, n, hm.symm⟩
theorem same4 {w1 W : World} {g : Nat} {v0 v1 v2 v3 : Value} (h : (w1.cell? ⟨g, 0, none⟩ = some v0 ∧ w1.cell? ⟨g, 1, none⟩ = some v1 ∧ w1.cell? ⟨g, 2, none⟩ = some v2 ∧ w1.cell? ⟨g, 3, none⟩ = some v3) ∧ Below W.heap.size W w1 ∧ g < w1.heap.size) : (w1.cell? ⟨g, 0, none⟩ = some v0 ∧ w1.cell? ⟨g, 1, none⟩ = some v1 ∧ w1.cell? ⟨g, 2, none⟩ = some v2 ∧ w1.cell? ⟨g, 3, none⟩ = some v3) ∧ Below W.heap.size W w1 ∧ g < w1.heap.size := h
set_option maxHeartbeats 4000000 in
theorem changes_walk (k s c t : Int) (w : World) : Calls Try.prog 3 #[.agg #[.int .i64 k, .int .i64 s, .int .i64 c, .int .i64 t]] w fun e w' => e = .returned (.bool true) ∧ Below w.heap.size w w' := by
  have HA := Lib.hid awake_any
  have H1 := Lib.hid (change_any s k c t)
  have H2 := Lib.hid (refMine_any k)
  have H3 := Lib.hid (refOf_any k)
  have H4 := Lib.hid (bits_mine_any k)
  have H5 := Lib.hid (bits_of_any k)
  have H6 := Lib.hid (sub_any (ofN k) s)
  have H7 := Lib.hid (sub_any (mineN k) c)
  have H8 := Lib.hid (sub_any (mineN k) t)
  have H9 := Lib.hid (right_sub s k)
  have HY := Lib.hid (@change_yes s k c t)
  have HN := Lib.hid (@change_no s k c t)
  have H10 := Lib.hid (right_sub (changeV s k c t) k)
  generalize changeV s k c t = v at *
  generalize changeE k c t = er at *
  generalize subN (mineN k) c 64 = bc at *
  generalize subN (mineN k) t 64 = bt at *
  generalize subN (ofN k) s 64 = r at *
  generalize subN (ofN k) v 64 = rv at *
  generalize ofN k = o at *
  generalize mineN k = m at *
  go_enter Try.func3, Try.ntmps3
  go_wp2_with (first | (go_at_call 9; (with_reducible refine (H1.out _).mono ?_); rintro e w1 ⟨rfl, rfl⟩) | (go_at_call 11; (with_reducible refine (H2.out _).mono ?_); rintro e w1 ⟨rfl, rfl⟩) | (go_at_call 10; (with_reducible refine (H4.out _).mono ?_); rintro e w1 ⟨rfl, n1, rfl⟩))
  have hS0 := keep4 (box4 w (.int .i64 k) (.int .i64 s) (.int .i64 c) (.int .i64 t) 23) (below_drewN (Below.refl _ _) n1)
  generalize World.drewN _ n1 = W0 at *
  go_region_held3 (fun w' => (w'.cell? ⟨w.heap.size, 0, none⟩ = some (.int .i64 k) ∧ w'.cell? ⟨w.heap.size, 1, none⟩ = some (.int .i64 s) ∧ w'.cell? ⟨w.heap.size, 2, none⟩ = some (.int .i64 c) ∧ w'.cell? ⟨w.heap.size, 3, none⟩ = some (.int .i64 t)) ∧ Below w.heap.size w w' ∧ w.heap.size < w'.heap.size) (first | assumption | exact keep4_drew hS0 | exact keep4 (by assumption) (by assumption) | exact keep4 (by assumption) (below_drewN (Below.refl _ _) _))
      (first | (go_at_call 13; (with_reducible refine (H3.out _).mono ?_); rintro e w1 ⟨rfl, hb3⟩) | (go_at_call 10; (with_reducible refine (H5.out _).mono ?_); rintro e w1 ⟨rfl, n1, rfl⟩) | (go_at_call 12; (with_reducible refine (H6.out _).mono ?_); rintro e w1 ⟨rfl, rfl⟩))
  clear hS0
  obtain ⟨⟨c0, c1, c2, c3⟩, hB, hG⟩ := same4 (by assumption)
  cases bc <;> cases bt
  case true.true =>
    obtain ⟨e1, hv, hr⟩ := HY.out rfl rfl
    have HV := Lib.hid hv
    have HR := Lib.hid hr
    subst e1
    clear hv hr HY HN H1 H2 H3 H4 H5 H6
    have hrr : (r != r) = false := by simp
    go_wp2_with (first | (go_at_call 14; (with_reducible refine (H9.out _).mono ?_); rintro e w1 ⟨rfl, rfl⟩) | (go_at_call 12; first | (with_reducible refine (H7.out _).mono ?_); rintro e w1 ⟨rfl, rfl⟩ | (with_reducible refine (H8.out _).mono ?_); rintro e w1 ⟨rfl, rfl⟩))
    go_loopw [60] (fun i wr => ∃ j : Nat, j ≤ 64 ∧ i = .int .i64 j ∧ ((wr.cell? ⟨w.heap.size, 0, none⟩ = some (.int .i64 k) ∧ wr.cell? ⟨w.heap.size, 1, none⟩ = some (.int .i64 s) ∧ wr.cell? ⟨w.heap.size, 2, none⟩ = some (.int .i64 c) ∧ wr.cell? ⟨w.heap.size, 3, none⟩ = some (.int .i64 t)) ∧ Below w.heap.size w wr ∧ w.heap.size < wr.heap.size)) (fun i _ => 64 - (intOf i).toNat)
    case atStart => exact ⟨0, by omega, rfl, ⟨c0, c1, c2, c3⟩, hB, hG⟩
    case round =>
      obtain ⟨j, hj, rfl, hS⟩ := hrel
      by_cases hlt : j < 64
      · have hvj := HV.out j hlt
        obtain ⟨⟨c0, c1, c2, c3⟩, hB, hG⟩ := hS
        have hmf : ∀ (fn : Fn) (first cap : Array Value) (w : World), (Instr.makeFunc fn first cap).run Try.prog w = .ok (.func fn first cap) w := fun _ _ _ _ => rfl
        go_wp2
        have hS1 := keep4 (W := w) ⟨⟨c0, c1, c2, c3⟩, hB, hG⟩ ((Below.refl wr.heap.size wr).alloc (Nat.le_refl _) (.cells #[.int .i64 j] 3))
        have hcj : (wr.alloc (.cells #[.int .i64 j] 3)).cell? ⟨wr.heap.size, 0, none⟩ = some (.int .i64 j) := by simp
        have K1 := Lib.hid (fun n => bit_any v j hlt _ ((wr.alloc (.cells #[.int .i64 j] 3)).drewN n) hcj)
        have K2 := Lib.hid (fun n => bit_any t j hlt _ ((wr.alloc (.cells #[.int .i64 j] 3)).drewN n) hcj)
        have K3 := Lib.hid (fun n => bit_any s j hlt _ ((wr.alloc (.cells #[.int .i64 j] 3)).drewN n) hcj)
        have K4 := Lib.hid (fun n => bit_any c j hlt _ ((wr.alloc (.cells #[.int .i64 j] 3)).drewN n) hcj)
        clear c0 c1 c2 c3 hB hG hcj
        generalize wr.alloc _ = W1 at *
        generalize wr.heap.size = g1 at *
        rw [hvj] at K1
        clear hvj
        generalize tb t j = b1 at *
        generalize tb s j = b2 at *
        generalize tb c j = b3 at *
        obtain ⟨⟨c0, c1, c2, c3⟩, hB, hG⟩ := hS1
        cases b1 <;> cases b2 <;> cases b3
        all_goals
          simp only [Bool.true_or, Bool.false_or, Bool.true_and, Bool.false_and, Bool.not_true, Bool.not_false] at K1
          go_quiet ((go_at_call 16; first | with_reducible exact quiet_left (K1.out _) | with_reducible exact quiet_left (K2.out _) | with_reducible exact quiet_left (K3.out _) | with_reducible exact quiet_left (K4.out _)))
          go_wp2
          go_roundw
          case rel => exact ⟨j + 1, by omega, by go_num, ⟨by simpa using c0, by simpa using c1, by simpa using c2, by simpa using c3⟩, below_drewN hB _, by simpa using hG⟩
          case measure => simp [intOf]; omega
      · obtain rfl : j = 64 := by omega
        obtain ⟨⟨c0, c1, c2, c3⟩, hB, hG⟩ := hS
        cases r
        case true =>
          have hrv := HR.out rfl
          subst hrv
          clear HR HV
          go_wp2_with (first | (go_at_call 14; (with_reducible refine (H10.out _).mono ?_); rintro e w1 ⟨rfl, rfl⟩) | (go_at_call 15; (with_reducible refine (HA.out _).mono ?_); rintro e w1 ⟨rfl, hb1⟩))
          go_ret
          exact ⟨rfl, hB.trans (hb1.mono hB.size)⟩
        case false =>
          clear HR HV H10
          go_wp2_with (first | (go_at_call 15; (with_reducible refine (HA.out _).mono ?_); rintro e w1 ⟨rfl, hb1⟩))
          go_ret
          exact ⟨rfl, hB.trans (hb1.mono hB.size)⟩
  all_goals
    obtain ⟨e1, e2⟩ := HN.out (by simp)
    subst e1 e2
    clear HY HN H2 H3 H4 H5 H6
    cases r
    all_goals
      go_wp2_with (first | (go_at_call 14; (with_reducible refine (H9.out _).mono ?_); rintro e w1 ⟨rfl, rfl⟩) | (go_at_call 12; first | (with_reducible refine (H7.out _).mono ?_); rintro e w1 ⟨rfl, rfl⟩ | (with_reducible refine (H8.out _).mono ?_); rintro e w1 ⟨rfl, rfl⟩) | (go_at_call 15; (with_reducible refine (HA.out _).mono ?_); rintro e w1 ⟨rfl, hb1⟩))
      go_ret
      exact ⟨rfl, hB.trans (hb1.mono hB.size)⟩
end Go.Proofs.Ytdcdmbamloebfaa.Sig
