/- The fifo: its objects in memory; right, check, Open, Size, Len. -/
import Derived.Test.YtaiggfoeobehlaaPick
import Derived.RegionTactic
import Derived.Deep.QuietTactic
import Derived.BigQuiet
import Derived.Deep.RegionHeld3
import Derived.Deep.RegionLaw
import Derived.Deep.CutBlock
import Derived.Deep.CutRange
import Derived.Deep.DeepCutAuto
import Derived.WalkSpells
import Derived.Test.YtaiggfoeobehlaaProg
namespace Go.Proofs.Ytaiggfoeobehlaa.Ff
open Go Go.RowKit Go.Proofs.Ytaiggfoeobehlaa.Mem
set_option linter.unusedVariables false
set_option linter.unusedSimpArgs false
theorem star_dr {w0 w : World} {L : List Asr} (h : Star w0 w L) : Star w0 w.drew L := h.drewN 1
def byV (l : List UInt8) : List Value := l.map fun b => Value.int .u8 (b.toNat : Int)
theorem byV_len (l : List UInt8) : (byV l).length = l.length := by simp [byV]
theorem byV_one (l : List UInt8) : ∀ u ∈ byV l, u.oneCell' = true := fun u hu => by
  obtain ⟨x, -, rfl⟩ := List.mem_map.1 hu
  rfl
/-- A ring: is it closed, its bytes as they lie, which place is first, the elements that wait. -/
structure Ring where
  cl : Bool
  raw : List UInt8
  fi : Nat
  el : List (List UInt8)
structure Fi where
  a : Ring
  b : Ring
  n : Nat
  z : Nat
def ffC (s : Fi) (t : Value × Value) : Array Value := #[.bool s.a.cl, t.1, .int .i64 s.a.fi, .int .i64 s.a.el.length, .bool s.b.cl, t.2, .int .i64 s.b.fi, .int .i64 s.b.el.length, .int .i64 s.n, .int .i64 s.z]
abbrev ff (bs : Nat) (s : Fi) (t : Value × Value) : List Asr := [BlkA bs 65 (ffC s t), RowO 5 1 t.1 s.a.raw.length (byV s.a.raw), RowO 5 1 t.2 s.b.raw.length (byV s.b.raw)]
abbrev FfA (bs : Nat) (s : Fi) : Asr := ExA fun t => Grp (ff bs s t)
theorem right_any (e : Int) (w : World) : Calls Try.prog 28 #[.int .i64 e] w fun r w' => r = .returned (.bool (decide (e = 0 ∨ e = 1))) ∧ w = w' := by
  by_cases h0 : e = 0
  · subst h0
    go_enter Try.func28, Try.ntmps28
    go_wp2
    go_ret
    exact ⟨rfl, rfl⟩
  · have z0 : (e == 0) = false := beq_eq_false_iff_ne.mpr h0
    by_cases h1 : e = 1
    · subst h1
      go_enter Try.func28, Try.ntmps28
      go_wp2
      go_ret
      exact ⟨rfl, rfl⟩
    · have z1 : (e == 1) = false := beq_eq_false_iff_ne.mpr h1
      rw [decide_eq_false (by omega)]
      clear h0 h1
      go_enter Try.func28, Try.ntmps28
      go_wp2
      go_ret
      exact ⟨rfl, rfl⟩
section
variable {w0 w : World} {S : List Asr} {bs : Nat} {s : Fi} {t : Value × Value}
theorem ff_cells (h : Star w0 w (ff bs s t ++ S)) : w.cell? ⟨bs, 0, none⟩ = some (.bool s.a.cl) ∧ w.cell? ⟨bs, 1, none⟩ = some t.1 ∧ w.cell? ⟨bs, 2, none⟩ = some (.int .i64 s.a.fi) ∧ w.cell? ⟨bs, 3, none⟩ = some (.int .i64 s.a.el.length) ∧ w.cell? ⟨bs, 4, none⟩ = some (.bool s.b.cl) ∧ w.cell? ⟨bs, 5, none⟩ = some t.2 ∧ w.cell? ⟨bs, 6, none⟩ = some (.int .i64 s.b.fi) ∧ w.cell? ⟨bs, 7, none⟩ = some (.int .i64 s.b.el.length) ∧ w.cell? ⟨bs, 8, none⟩ = some (.int .i64 s.n) ∧ w.cell? ⟨bs, 9, none⟩ = some (.int .i64 s.z) :=
  have hb := h.blk 0 rfl
  ⟨hb.cellv rfl, hb.cellv rfl, hb.cellv rfl, hb.cellv rfl, hb.cellv rfl, hb.cellv rfl, hb.cellv rfl, hb.cellv rfl, hb.cellv rfl, hb.cellv rfl⟩
theorem ff_rows (h : Star w0 w (ff bs s t ++ S)) : (∃ A c, t.1 = .slice A s.a.raw.length c) ∧ (∃ A c, t.2 = .slice A s.b.raw.length c) := ⟨(h.rowO 1 rfl).len, (h.rowO 2 rfl).len⟩
theorem size_any (h : Star w0 w (ff bs s t ++ S)) : Calls Try.prog 17 #[.pointer (some ⟨bs, 0, none⟩)] w fun r w' => r = .returned (.int .i64 s.z) ∧ w = w' := by
  obtain ⟨-, -, -, -, -, -, -, -, -, k9⟩ := ff_cells h
  clear h
  go_enter Try.func17, Try.ntmps17
  go_wp2
  go_ret
  exact ⟨rfl, rfl⟩
/-- What is wrong with an end. -/
def checkF (s : Fi) (e : Int) : Int := if e = 0 then (if s.a.cl then -24 else 0) else if e = 1 then (if s.b.cl then -24 else 0) else -10
theorem check_any (h : Star w0 w (ff bs s t ++ S)) (e : Int) : Calls Try.prog 25 #[.pointer (some ⟨bs, 0, none⟩), .int .i64 e] w fun r w' => r = .returned (.int .i64 (checkF s e)) ∧ w = w' := by
  obtain ⟨k0, -, -, -, k4, -, -, -, -, -⟩ := ff_cells h
  have HR := right_any e
  unfold checkF
  clear h
  by_cases h0 : e = 0
  · subst h0
    have HR1 := Lib.hid HR
    clear HR
    cases hc : s.a.cl
    all_goals
      rw [hc] at k0
      simp only [if_true, Bool.false_eq_true, if_false]
      clear hc
      go_enter Try.func25, Try.ntmps25
      go_wp2_with (first | (go_at_call 28; (with_reducible refine (HR1.out _).mono ?_); rintro e w1 ⟨rfl, rfl⟩))
      go_ret
      exact ⟨rfl, rfl⟩
  · rw [if_neg h0]
    by_cases h1 : e = 1
    · subst h1
      have HR1 := Lib.hid HR
      clear HR
      cases hc : s.b.cl
      all_goals
        rw [hc] at k4
        simp only [if_true, Bool.false_eq_true, if_false]
        clear hc
        go_enter Try.func25, Try.ntmps25
        go_wp2_with (first | (go_at_call 28; (with_reducible refine (HR1.out _).mono ?_); rintro e w1 ⟨rfl, rfl⟩))
        go_ret
        exact ⟨rfl, rfl⟩
    · rw [if_neg h1]
      rw [decide_eq_false (by omega)] at HR
      have HR1 := Lib.hid HR
      clear HR h0 h1
      go_enter Try.func25, Try.ntmps25
      go_wp2_with (first | (go_at_call 28; (with_reducible refine (HR1.out _).mono ?_); rintro e w1 ⟨rfl, rfl⟩))
      go_ret
      exact ⟨rfl, rfl⟩
def openF (s : Fi) (e : Int) : Bool := checkF s e == 0
theorem open_any (h : Star w0 w (ff bs s t ++ S)) (e : Int) : Calls Try.prog 22 #[.pointer (some ⟨bs, 0, none⟩), .int .i64 e] w fun r w' => r = .returned (.bool (openF s e)) ∧ w = w' := by
  have HC := Lib.hid (check_any h e)
  unfold openF
  clear h
  generalize checkF s e = c at *
  go_enter Try.func22, Try.ntmps22
  go_wp2_with (first | (go_at_call 25; (with_reducible refine HC.out.mono ?_); rintro e w1 ⟨rfl, rfl⟩))
  go_ret
  exact ⟨rfl, rfl⟩
def lenF (s : Fi) (e : Int) : Int := if e = 0 then s.a.el.length else if e = 1 then s.b.el.length else 0
theorem len_any (h : Star w0 w (ff bs s t ++ S)) (e : Int) : Calls Try.prog 15 #[.pointer (some ⟨bs, 0, none⟩), .int .i64 e] w fun r w' => r = .returned (.int .i64 (lenF s e)) ∧ w = w' := by
  obtain ⟨-, -, -, k3, -, -, -, k7, -, -⟩ := ff_cells h
  have HR := right_any e
  unfold lenF
  clear h
  by_cases h0 : e = 0
  · subst h0
    have HR1 := Lib.hid HR
    clear HR
    go_enter Try.func15, Try.ntmps15
    go_wp2_with (first | (go_at_call 28; (with_reducible refine (HR1.out _).mono ?_); rintro e w1 ⟨rfl, rfl⟩))
    go_ret
    exact ⟨rfl, rfl⟩
  · rw [if_neg h0]
    by_cases h1 : e = 1
    · subst h1
      have HR1 := Lib.hid HR
      clear HR
      go_enter Try.func15, Try.ntmps15
      go_wp2_with (first | (go_at_call 28; (with_reducible refine (HR1.out _).mono ?_); rintro e w1 ⟨rfl, rfl⟩))
      go_ret
      exact ⟨rfl, rfl⟩
    · rw [if_neg h1]
      rw [decide_eq_false (by omega)] at HR
      have HR1 := Lib.hid HR
      clear HR h0 h1
      go_enter Try.func15, Try.ntmps15
      go_wp2_with (first | (go_at_call 28; (with_reducible refine (HR1.out _).mono ?_); rintro e w1 ⟨rfl, rfl⟩))
      go_ret
      exact ⟨rfl, rfl⟩
end
end Go.Proofs.Ytaiggfoeobehlaa.Ff
