/- The walk of the statement SignalSets. -/
import Derived.Test.YtdcdmbamloebfaaSig3
import Derived.Deep.RegionHeld3
namespace Go.Proofs.Ytdcdmbamloebfaa.Sig
open Go Go.RowKit Go.Proofs.Ytdcdmbamloebfaa.Bits
set_option linter.unusedVariables false
set_option linter.unusedSimpArgs false
section
variable {w w1 W : World} {g : Nat} {v0 v1 v2 v3 : Value}
theorem keep4 (h : (w.cell? ⟨g, 0, none⟩ = some v0 ∧ w.cell? ⟨g, 1, none⟩ = some v1 ∧ w.cell? ⟨g, 2, none⟩ = some v2 ∧ w.cell? ⟨g, 3, none⟩ = some v3) ∧ Below W.heap.size W w ∧ g < w.heap.size) (hb : Below w.heap.size w w1) :
    (w1.cell? ⟨g, 0, none⟩ = some v0 ∧ w1.cell? ⟨g, 1, none⟩ = some v1 ∧ w1.cell? ⟨g, 2, none⟩ = some v2 ∧ w1.cell? ⟨g, 3, none⟩ = some v3) ∧ Below W.heap.size W w1 ∧ g < w1.heap.size :=
  ⟨⟨(hb.cell (p := ⟨g, 0, none⟩) h.2.2).trans h.1.1, (hb.cell (p := ⟨g, 1, none⟩) h.2.2).trans h.1.2.1, (hb.cell (p := ⟨g, 2, none⟩) h.2.2).trans h.1.2.2.1, (hb.cell (p := ⟨g, 3, none⟩) h.2.2).trans h.1.2.2.2⟩, h.2.1.trans (hb.mono h.2.1.size), Nat.lt_of_lt_of_le h.2.2 hb.size⟩
theorem keep4_drew (h : (w.cell? ⟨g, 0, none⟩ = some v0 ∧ w.cell? ⟨g, 1, none⟩ = some v1 ∧ w.cell? ⟨g, 2, none⟩ = some v2 ∧ w.cell? ⟨g, 3, none⟩ = some v3) ∧ Below W.heap.size W w ∧ g < w.heap.size) :
    (w.drew.cell? ⟨g, 0, none⟩ = some v0 ∧ w.drew.cell? ⟨g, 1, none⟩ = some v1 ∧ w.drew.cell? ⟨g, 2, none⟩ = some v2 ∧ w.drew.cell? ⟨g, 3, none⟩ = some v3) ∧ Below W.heap.size W w.drew ∧ g < w.drew.heap.size := ⟨h.1, h.2.1.drew, h.2.2⟩
theorem fin4 (h : (w1.cell? ⟨g, 0, none⟩ = some v0 ∧ w1.cell? ⟨g, 1, none⟩ = some v1 ∧ w1.cell? ⟨g, 2, none⟩ = some v2 ∧ w1.cell? ⟨g, 3, none⟩ = some v3) ∧ Below W.heap.size W w1 ∧ g < w1.heap.size) : Below W.heap.size W w1 := h.2.1
theorem box4 (w : World) (v0 v1 v2 v3 : Value) (T : TypeId) : ((w.alloc (.cells #[v0, v1, v2, v3] T)).cell? ⟨w.heap.size, 0, none⟩ = some v0 ∧ (w.alloc (.cells #[v0, v1, v2, v3] T)).cell? ⟨w.heap.size, 1, none⟩ = some v1 ∧ (w.alloc (.cells #[v0, v1, v2, v3] T)).cell? ⟨w.heap.size, 2, none⟩ = some v2 ∧ (w.alloc (.cells #[v0, v1, v2, v3] T)).cell? ⟨w.heap.size, 3, none⟩ = some v3) ∧ Below w.heap.size w (w.alloc (.cells #[v0, v1, v2, v3] T)) ∧ w.heap.size < (w.alloc (.cells #[v0, v1, v2, v3] T)).heap.size :=
  ⟨⟨by simp, by simp, by simp, by simp⟩, (Below.refl _ _).alloc (Nat.le_refl _) _, by simp⟩
end
def in64 (x : Int) : Prop := -9223372036854775808 ≤ x ∧ x ≤ 9223372036854775807
theorem sets_plain {s k c t : Int} (hs : in64 s) (ht : in64 t) (h : bits .andNot .i64 (bits .or .i64 c t) (mineN k) = 0) :
    changeV s k c t = bits .or .i64 (bits .andNot .i64 s c) t ∧ changeE k c t = 0 ∧
    changeV (changeV s k c t) k c t = changeV s k c t ∧ bits .and .i64 (changeV s k c t) t = t ∧ bits .and .i64 (changeV s k c t) (bits .or .i64 c t) = t ∧
    bits .andNot .i64 (changeV s k c t) (bits .or .i64 c t) = bits .andNot .i64 s (bits .or .i64 c t) := by
  have e : ∀ s, changeV s k c t = bits .or .i64 (bits .andNot .i64 s c) t := fun s => if_pos h
  rw [e, e]
  refine ⟨rfl, if_pos h, ?_, ?_, ?_, ?_⟩
  all_goals
    refine tb_ext (bits_range _ _ _) (by first | exact ht | exact bits_range _ _ _) fun i hi => ?_
    simp only [tb_and _ _ hi, tb_or _ _ hi, tb_andNot _ _ hi]
    cases tb s i <;> cases tb c i <;> cases tb t i <;> rfl
set_option maxHeartbeats 4000000 in
theorem sets_walk (k s c t : Int) (hs : in64 s) (ht : in64 t) (w : World) : Calls Try.prog 4 #[.agg #[.int .i64 k, .int .i64 s, .int .i64 c, .int .i64 t]] w fun e w' => e = .returned (.bool true) ∧ Below w.heap.size w w' := by
  have HA := Lib.hid awake_any
  have H1 := Lib.hid (change_any s k c t)
  by_cases h : bits .andNot .i64 (bits .or .i64 c t) (mineN k) = 0
  · obtain ⟨-, e1, e2, e3, e4, e5⟩ := sets_plain hs ht h
    have H2 := Lib.hid (change_any (changeV s k c t) k c t)
    have H3 := Lib.hid (meets_any (changeV s k c t) t)
    rw [e1] at H1 H2
    rw [e2] at H2
    rw [e3] at H3
    generalize changeV s k c t = v at *
    generalize hu : bits .or .i64 c t = u at *
    generalize hx : bits .andNot .i64 s u = x at *
    clear h e1 e2 e3
    go_enter Try.func4, Try.ntmps4
    go_wp2_with (first | (go_at_call 9; first | (with_reducible refine (H1.out _).mono ?_); rintro e w1 ⟨rfl, rfl⟩ | (with_reducible refine (H2.out _).mono ?_); rintro e w1 ⟨rfl, rfl⟩))
    have hS0 := box4 w (.int .i64 k) (.int .i64 s) (.int .i64 c) (.int .i64 t) 23
    generalize w.alloc _ = W0 at *
    go_region_held3 (fun w' => (w'.cell? ⟨w.heap.size, 0, none⟩ = some (.int .i64 k) ∧ w'.cell? ⟨w.heap.size, 1, none⟩ = some (.int .i64 s) ∧ w'.cell? ⟨w.heap.size, 2, none⟩ = some (.int .i64 c) ∧ w'.cell? ⟨w.heap.size, 3, none⟩ = some (.int .i64 t)) ∧ Below w.heap.size w w' ∧ w.heap.size < w'.heap.size) (first | assumption | exact keep4_drew hS0 | exact keep4 (by assumption) (by assumption))
      (first | (go_at_call 17; (with_reducible refine (H3.out _).mono ?_); rintro e w1 ⟨rfl, rfl⟩) | (go_at_call 15; (with_reducible refine (HA.out _).mono ?_); rintro e w1 ⟨rfl, hb1⟩))
    go_wp2
    go_ret
    exact ⟨rfl, fin4 (by assumption)⟩
  · have z1 : changeE k c t = -10 := if_neg h
    rw [z1] at H1
    generalize changeV s k c t = v at *
    clear h z1
    go_enter Try.func4, Try.ntmps4
    go_wp2_with (first | (go_at_call 9; (with_reducible refine (H1.out _).mono ?_); rintro e w1 ⟨rfl, rfl⟩) | (go_at_call 15; (with_reducible refine (HA.out _).mono ?_); rintro e w1 ⟨rfl, hb1⟩))
    go_ret
    exact ⟨rfl, ((Below.refl _ _).alloc (Nat.le_refl _) _).trans (hb1.mono (by simp))⟩
theorem fires_row (s : Int) (hs : (Lit.int .i64 s).wf = true) (o : Int) (ho : (Lit.int .i64 o).wf = true) (m : Int) (hm : (Lit.int .i64 m).wf = true) (w : World) :
    Calls Try.prog 5 #[.int .i64 s, .int .i64 o, .int .i64 m] w fun e w' => e = .returned (.bool true) ∧ Below w.heap.size w w' := fires_walk s o m w
theorem in64_wf {x : Int} (h : (Lit.int .i64 x).wf = true) : in64 x := by
  simp [Lit.wf, IntKind.min, IntKind.max, IntKind.signed, IntKind.bits] at h
  unfold in64
  omega

theorem sets_row (k s c t : Int) (hk : (Lit.int .i64 k).wf = true) (hs : (Lit.int .i64 s).wf = true) (hc : (Lit.int .i64 c).wf = true) (ht : (Lit.int .i64 t).wf = true) (w : World) :
    Calls Try.prog 4 #[.agg #[.int .i64 k, .int .i64 s, .int .i64 c, .int .i64 t]] w fun e w' => e = .returned (.bool true) ∧ Below w.heap.size w w' := sets_walk k s c t (in64_wf hs) (in64_wf ht) w
end Go.Proofs.Ytdcdmbamloebfaa.Sig
