/- The tree of tasks: Under. -/
import Derived.Test.YtojmhacafmpbgaaTkB
namespace Go.Proofs.Ytojmhacafmpbgaa.Tk
open Go Go.RowKit Go.Proofs.Ytojmhacafmpbgaa.Mem
set_option linter.unusedVariables false
set_option linter.unusedSimpArgs false
/-- Each task's parent has a lesser number. -/
def UpT (s : Tr) : Prop := ∀ (i : Nat) (x : Tk), s.ts[i]? = some x → x.pa ≤ i
def underF (s : Tr) (top : Int) : Nat → Int → Bool
  | 0, _ => false
  | n + 1, id => match taskAt s id with
    | none => false
    | some x => if id = top then true else underF s top n x.pa
def underT (s : Tr) (id top : Int) : Bool := underF s top (id.toNat + 1) id
theorem taskAt_up {s : Tr} (hu : UpT s) {id : Int} {x : Tk} (h : taskAt s id = some x) : (x.pa : Int) < id ∧ 1 ≤ id := by
  unfold taskAt at h
  by_cases h1 : id < 1
  · rw [if_pos h1] at h
    cases h
  · rw [if_neg h1] at h
    have := hu _ _ h
    omega
theorem under_fuel {s : Tr} (hu : UpT s) (top : Int) : ∀ (n m : Nat) (id : Int), id.toNat < n → id.toNat < m → underF s top n id = underF s top m id
  | 0, _, _, h, _ => by omega
  | _, 0, _, _, h => by omega
  | n + 1, m + 1, id, h1, h2 => by
    unfold underF
    cases h : taskAt s id with
    | none => rfl
    | some x =>
      have hp := taskAt_up hu h
      simp only
      rw [under_fuel hu top n m x.pa (by omega) (by omega)]
theorem under_none {s : Tr} {id top : Int} (h : taskAt s id = none) : underT s id top = false := by
  unfold underT underF
  rw [h]
theorem under_some {s : Tr} (hu : UpT s) {id top : Int} {x : Tk} (h : taskAt s id = some x) : underT s id top = if id = top then true else underT s x.pa top := by
  have hp := taskAt_up hu h
  unfold underT
  rw [underF, h]
  simp only
  rw [under_fuel hu top id.toNat ((x.pa : Int).toNat + 1) x.pa (by omega) (by omega)]
section
variable {w0 w : World} {S : List Asr} {b : Nat} {s : Tr} {v : Value} {ps : List (Nat × Value)}
set_option maxHeartbeats 1000000 in
theorem under_any (h : Star w0 w (tr b s v ps ++ S)) (hu : UpT s) (id top : Int) : Calls Try.prog 21 #[.pointer (some ⟨b, 0, none⟩), .int .i64 id, .int .i64 top] w fun r w' => r = .returned (.bool (underT s id top)) ∧ w = w' := by
  have HF := Lib.hid (fun id => find_any h id)
  have HT := Lib.hid (fun id => find_two h id)
  clear h
  go_enter Try.func21, Try.ntmps21
  go_wp2_with (first | (go_at_call 31; (with_reducible refine (HF.out _).mono ?_); rintro e w1 ⟨rfl, rfl⟩))
  go_loopw [1, 7] (fun s1 s7 wr => ∃ i : Int, s1 = .int .i64 i ∧ s7 = findV ps i ∧ wr = w ∧ Hid (underT s i top = underT s id top)) (fun s1 _ _ => (intOf s1).toNat)
  case atStart => exact ⟨id, rfl, rfl, by trivial, Lib.hid rfl⟩
  case round =>
    obtain ⟨i, rfl, rfl, rfl, HU⟩ := hrel
    rcases HT.out i with ⟨h1, h2⟩ | ⟨x, p, h1, -, h2, hb⟩
    · have hr := under_none (top := top) h1
      rw [HU.out] at hr
      have HR0 := Lib.hid hr
      rw [h2]
      clear h1 h2 hr HT
      go_wp2
      go_ret
      exact ⟨by rw [HR0.out]; rfl, rfl⟩
    · have hr := under_some hu (top := top) h1
      have hp := taskAt_up hu h1
      obtain ⟨-, k1, -, -, -, -, -, -⟩ := tk_cells hb
      rw [h2]
      rw [HU.out] at hr
      by_cases hit : i = top
      · rw [if_pos hit] at hr
        subst hit
        have HR0 := Lib.hid hr
        clear h1 h2 hr HT hb
        go_wp2
        go_ret
        exact ⟨by rw [HR0.out]; rfl, rfl⟩
      · rw [if_neg hit] at hr
        have hne : (i == top) = false := beq_eq_false_iff_ne.mpr hit
        have HR := Lib.hid hr
        clear h1 h2 hr HT hb
        go_wp2_with (first | (go_at_call 31; (with_reducible refine (HF.out _).mono ?_); rintro e w1 ⟨rfl, rfl⟩))
        go_roundw
        case rel => exact ⟨_, rfl, rfl, by trivial, Lib.hid HR.out.symm⟩
        case measure => simp [intOf]; omega
end
end Go.Proofs.Ytojmhacafmpbgaa.Tk
