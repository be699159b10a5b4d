/- The socket: its objects in memory; the small functions. -/
import Derived.Test.YtfocbpnabgpmpaaOff2
import Derived.RegionTactic
import Derived.Deep.QuietTactic
import Derived.BigQuiet
import Derived.Deep.RegionHeld3
import Derived.Deep.RegionLaw
import Derived.Laws.IdiomStrings
import Derived.Lib.BufferRead
import Derived.Lib.AtoiErrMem
import Derived.WalkSpells
import Derived.Test.YtfocbpnabgpmpaaProg
namespace Go.Proofs.Ytfocbpnabgpmpaa.Sk
open Go Go.RowKit Go.Proofs.Ytfocbpnabgpmpaa.Mem
set_option linter.unusedVariables false
set_option linter.unusedSimpArgs false
def byteV (c : UInt8) : Value := .int .u8 (c.toNat : Int)
def bytesV (l : List UInt8) : List Value := l.map byteV
def intsN (l : List Nat) : List Value := l.map fun (n : Nat) => .int .i64 (n : Int)
theorem bytesV_len (l : List UInt8) : (bytesV l).length = l.length := by simp [bytesV]
theorem intsN_len (l : List Nat) : (intsN l).length = l.length := by simp [intsN]
theorem bytesV_one (l : List UInt8) : ∀ u ∈ bytesV l, u.oneCell' = true := fun u hu => by
  obtain ⟨x, -, rfl⟩ := List.mem_map.1 hu
  rfl
theorem bytesV_app (a b : List UInt8) : bytesV (a ++ b) = bytesV a ++ bytesV b := by simp [bytesV]
theorem intsN_app (a b : List Nat) : intsN (a ++ b) = intsN a ++ intsN b := by simp [intsN]
theorem bytesV_take (l : List UInt8) (n : Nat) : bytesV (l.take n) = (bytesV l).take n := by simp [bytesV, List.map_take]
theorem bytesV_drop (l : List UInt8) (n : Nat) : bytesV (l.drop n) = (bytesV l).drop n := by simp [bytesV, List.map_drop]
theorem by_info : (Try.prog.info? 5).map (fun i => (i.zero, i.size, i.bytes)) = some (some (.int .u8 0), 1, 1) := by kernel_rfl
theorem in_info : (Try.prog.info? 3).map (fun i => (i.zero, i.size, i.bytes)) = some (some (.int .i64 0), 1, 8) := by kernel_rfl
theorem by_zero (w : World) : (zeroValue 5).run Try.prog w = .ok (.int .u8 0) w := by kernel_rfl
/-- An end: closed, shut for writing, for reading; the bytes that wait; how many each piece has. -/
structure Sd where
  c : Bool
  m : Bool
  d : Bool
  b : List UInt8
  p : List Nat
def skC (s0 s1 : Sd) (dg : Bool) (room : Nat) (v0 q0 v1 q1 : Value) : Array Value := #[.bool s0.c, .bool s0.m, .bool s0.d, v0, q0, .bool s1.c, .bool s1.m, .bool s1.d, v1, q1, .bool dg, .int .i64 room]
abbrev sk (bs : Nat) (s0 s1 : Sd) (dg : Bool) (room : Nat) (t : Value × Value × Value × Value) : List Asr :=
  [BlkA bs 62 (skC s0 s1 dg room t.1 t.2.1 t.2.2.1 t.2.2.2), RowO 5 1 t.1 s0.b.length (bytesV s0.b), RowO 3 1 t.2.1 s0.p.length (intsN s0.p), RowO 5 1 t.2.2.1 s1.b.length (bytesV s1.b), RowO 3 1 t.2.2.2 s1.p.length (intsN s1.p)]
abbrev SkA (bs : Nat) (s0 s1 : Sd) (dg : Bool) (room : Nat) : Asr := ExA fun t => Grp (sk bs s0 s1 dg room t)
section
variable {w0 w : World} {S : List Asr} {bs room : Nat} {s0 s1 : Sd} {dg : Bool} {t : Value × Value × Value × Value}
theorem sk_cells (h : Star w0 w (sk bs s0 s1 dg room t ++ S)) : w.cell? ⟨bs, 0, none⟩ = some (.bool s0.c) ∧ w.cell? ⟨bs, 1, none⟩ = some (.bool s0.m) ∧ w.cell? ⟨bs, 2, none⟩ = some (.bool s0.d) ∧ w.cell? ⟨bs, 3, none⟩ = some t.1 ∧ w.cell? ⟨bs, 4, none⟩ = some t.2.1 ∧
    w.cell? ⟨bs, 5, none⟩ = some (.bool s1.c) ∧ w.cell? ⟨bs, 6, none⟩ = some (.bool s1.m) ∧ w.cell? ⟨bs, 7, none⟩ = some (.bool s1.d) ∧ w.cell? ⟨bs, 8, none⟩ = some t.2.2.1 ∧ w.cell? ⟨bs, 9, none⟩ = some t.2.2.2 ∧ w.cell? ⟨bs, 10, none⟩ = some (.bool dg) ∧ w.cell? ⟨bs, 11, none⟩ = some (.int .i64 room) :=
  have hb := h.blk 0 rfl
  ⟨hb.cellv rfl, hb.cellv rfl, hb.cellv rfl, hb.cellv rfl, hb.cellv rfl, hb.cellv rfl, hb.cellv rfl, hb.cellv rfl, hb.cellv rfl, hb.cellv rfl, hb.cellv rfl, hb.cellv rfl⟩
theorem sk_rows (h : Star w0 w (sk bs s0 s1 dg room t ++ S)) : (∃ A c, t.1 = .slice A s0.b.length c) ∧ (∃ A c, t.2.1 = .slice A s0.p.length c) ∧ (∃ A c, t.2.2.1 = .slice A s1.b.length c) ∧ (∃ A c, t.2.2.2 = .slice A s1.p.length c) :=
  ⟨(h.rowO 1 rfl).len, (h.rowO 2 rfl).len, (h.rowO 3 rfl).len, (h.rowO 4 rfl).len⟩
end
theorem right_any (e : Int) (w : World) : Calls Try.prog 27 #[.int .i64 e] w fun r w' => r = .returned (.bool (decide (e = 0 ∨ e = 1))) ∧ w = w' := by
  by_cases h0 : e = 0
  · subst h0
    go_enter Try.func27, Try.ntmps27
    go_wp2
    go_ret
    exact ⟨rfl, rfl⟩
  · by_cases h1 : e = 1
    · subst h1
      go_enter Try.func27, Try.ntmps27
      go_wp2
      go_ret
      exact ⟨rfl, rfl⟩
    · rw [decide_eq_false (by omega)]
      have z0 : (e == 0) = false := beq_eq_false_iff_ne.mpr h0
      have z1 : (e == 1) = false := beq_eq_false_iff_ne.mpr h1
      go_enter Try.func27, Try.ntmps27
      go_wp2
      go_ret
      exact ⟨rfl, rfl⟩
def sd (s0 s1 : Sd) (e : Int) : Sd := if e = 0 then s0 else s1
def ot (s0 s1 : Sd) (e : Int) : Sd := if e = 0 then s1 else s0
def chkS (s0 s1 : Sd) (e : Int) : Int := if e = 0 ∨ e = 1 then (if (sd s0 s1 e).c = true then -24 else 0) else -10
def wayS (x y : Sd) : Int := if y.c = true then -24 else if x.m = true ∨ y.d = true then -20 else 0
section
variable {w0 w : World} {S : List Asr} {bs room : Nat} {s0 s1 : Sd} {dg : Bool} {t : Value × Value × Value × Value}
theorem check_any (h : Star w0 w (sk bs s0 s1 dg room t ++ S)) (e : Int) : Calls Try.prog 24 #[.pointer (some ⟨bs, 0, none⟩), .int .i64 e] w fun r w' => r = .returned (.int .i64 (chkS s0 s1 e)) ∧ w = w' := by
  obtain ⟨k0, k1, k2, k3, k4, k5, k6, k7, k8, k9, k10, k11⟩ := sk_cells h
  have HR := Lib.hid (right_any e)
  clear h k1 k2 k3 k4 k6 k7 k8 k9 k10 k11
  unfold chkS sd
  by_cases h0 : e = 0
  · subst h0
    rw [if_pos (.inl rfl), if_pos rfl]
    rw [show decide ((0 : Int) = 0 ∨ (0 : Int) = 1) = true from rfl] at HR
    generalize s0.c = c at *
    cases c
    all_goals
      go_enter Try.func24, Try.ntmps24
      go_wp2_with (first | (go_at_call 27; (with_reducible refine (HR.out _).mono ?_); rintro e w1 ⟨rfl, rfl⟩))
      go_ret
      exact ⟨rfl, rfl⟩
  · by_cases h1 : e = 1
    · subst h1
      rw [if_pos (.inr rfl), if_neg (show ¬ (1 : Int) = 0 by omega)]
      rw [show decide ((1 : Int) = 0 ∨ (1 : Int) = 1) = true from rfl] at HR
      generalize s1.c = c at *
      cases c
      all_goals
        go_enter Try.func24, Try.ntmps24
        go_wp2_with (first | (go_at_call 27; (with_reducible refine (HR.out _).mono ?_); rintro e w1 ⟨rfl, rfl⟩))
        go_ret
        exact ⟨rfl, rfl⟩
    · rw [if_neg (by omega)]
      rw [decide_eq_false (by omega)] at HR
      clear h0 h1 k0 k5
      go_enter Try.func24, Try.ntmps24
      go_wp2_with (first | (go_at_call 27; (with_reducible refine (HR.out _).mono ?_); rintro e w1 ⟨rfl, rfl⟩))
      go_ret
      exact ⟨rfl, rfl⟩
theorem way_any (h : Star w0 w (sk bs s0 s1 dg room t ++ S)) (e : Int) (he : e = 0 ∨ e = 1) : Calls Try.prog 25 #[.pointer (some ⟨bs, 0, none⟩), .int .i64 e] w fun r w' => r = .returned (.int .i64 (wayS (sd s0 s1 e) (ot s0 s1 e))) ∧ w = w' := by
  obtain ⟨k0, k1, k2, k3, k4, k5, k6, k7, k8, k9, k10, k11⟩ := sk_cells h
  clear h k3 k4 k8 k9 k10 k11
  unfold wayS sd ot
  rcases he with rfl | rfl
  · rw [if_pos rfl, if_pos rfl]
    generalize s1.c = c at *
    generalize s0.m = m at *
    generalize s1.d = d at *
    cases c
    · cases m
      · cases d
        all_goals
          go_enter Try.func25, Try.ntmps25
          go_wp2
          go_ret
          exact ⟨rfl, rfl⟩
      · go_enter Try.func25, Try.ntmps25
        go_wp2
        go_ret
        exact ⟨rfl, rfl⟩
    · go_enter Try.func25, Try.ntmps25
      go_wp2
      go_ret
      exact ⟨rfl, rfl⟩
  · rw [if_neg (show ¬ (1 : Int) = 0 by omega), if_neg (show ¬ (1 : Int) = 0 by omega)]
    generalize s0.c = c at *
    generalize s1.m = m at *
    generalize s0.d = d at *
    cases c
    · cases m
      · cases d
        all_goals
          go_enter Try.func25, Try.ntmps25
          go_wp2
          go_ret
          exact ⟨rfl, rfl⟩
      · go_enter Try.func25, Try.ntmps25
        go_wp2
        go_ret
        exact ⟨rfl, rfl⟩
    · go_enter Try.func25, Try.ntmps25
      go_wp2
      go_ret
      exact ⟨rfl, rfl⟩
theorem open_any (h : Star w0 w (sk bs s0 s1 dg room t ++ S)) (e : Int) : Calls Try.prog 21 #[.pointer (some ⟨bs, 0, none⟩), .int .i64 e] w fun r w' => r = .returned (.bool (decide (chkS s0 s1 e = 0))) ∧ w = w' := by
  have HC := Lib.hid (check_any h e)
  clear h
  generalize chkS s0 s1 e = s at *
  go_enter Try.func21, Try.ntmps21
  go_wp2_with (first | (go_at_call 24; (with_reducible refine HC.out.mono ?_); rintro e w1 ⟨rfl, rfl⟩))
  go_ret
  exact ⟨rfl, rfl⟩
def lenS (s0 s1 : Sd) (e : Int) : Nat := if e = 0 ∨ e = 1 then (sd s0 s1 e).b.length else 0
def pcsS (s0 s1 : Sd) (e : Int) : Nat := if e = 0 ∨ e = 1 then (sd s0 s1 e).p.length else 0
theorem len_any (h : Star w0 w (sk bs s0 s1 dg room t ++ S)) (e : Int) : Calls Try.prog 13 #[.pointer (some ⟨bs, 0, none⟩), .int .i64 e] w fun r w' => r = .returned (.int .i64 (lenS s0 s1 e)) ∧ w = w' := by
  obtain ⟨k0, k1, k2, k3, k4, k5, k6, k7, k8, k9, k10, k11⟩ := sk_cells h
  obtain ⟨⟨A0, c0, e0⟩, -, ⟨A1, c1, e1⟩, -⟩ := sk_rows h
  rw [e0] at k3
  rw [e1] at k8
  have HR := Lib.hid (right_any e)
  clear h e0 e1
  unfold lenS sd
  by_cases h0 : e = 0
  · subst h0
    rw [if_pos (.inl rfl), if_pos rfl]
    rw [show decide ((0 : Int) = 0 ∨ (0 : Int) = 1) = true from rfl] at HR
    go_enter Try.func13, Try.ntmps13
    go_wp2_with (first | (go_at_call 27; (with_reducible refine (HR.out _).mono ?_); rintro e w1 ⟨rfl, rfl⟩))
    go_ret
    exact ⟨rfl, rfl⟩
  · by_cases h1 : e = 1
    · subst h1
      rw [if_pos (.inr rfl), if_neg (show ¬ (1 : Int) = 0 by omega)]
      rw [show decide ((1 : Int) = 0 ∨ (1 : Int) = 1) = true from rfl] at HR
      go_enter Try.func13, Try.ntmps13
      go_wp2_with (first | (go_at_call 27; (with_reducible refine (HR.out _).mono ?_); rintro e w1 ⟨rfl, rfl⟩))
      go_ret
      exact ⟨rfl, rfl⟩
    · rw [if_neg (by omega)]
      rw [decide_eq_false (by omega)] at HR
      clear h0 h1
      go_enter Try.func13, Try.ntmps13
      go_wp2_with (first | (go_at_call 27; (with_reducible refine (HR.out _).mono ?_); rintro e w1 ⟨rfl, rfl⟩))
      go_ret
      exact ⟨rfl, rfl⟩
theorem pieces_any (h : Star w0 w (sk bs s0 s1 dg room t ++ S)) (e : Int) : Calls Try.prog 14 #[.pointer (some ⟨bs, 0, none⟩), .int .i64 e] w fun r w' => r = .returned (.int .i64 (pcsS s0 s1 e)) ∧ w = w' := by
  obtain ⟨k0, k1, k2, k3, k4, k5, k6, k7, k8, k9, k10, k11⟩ := sk_cells h
  obtain ⟨-, ⟨A0, c0, e0⟩, -, ⟨A1, c1, e1⟩⟩ := sk_rows h
  rw [e0] at k4
  rw [e1] at k9
  have HR := Lib.hid (right_any e)
  clear h e0 e1
  unfold pcsS sd
  by_cases h0 : e = 0
  · subst h0
    rw [if_pos (.inl rfl), if_pos rfl]
    rw [show decide ((0 : Int) = 0 ∨ (0 : Int) = 1) = true from rfl] at HR
    go_enter Try.func14, Try.ntmps14
    go_wp2_with (first | (go_at_call 27; (with_reducible refine (HR.out _).mono ?_); rintro e w1 ⟨rfl, rfl⟩))
    go_ret
    exact ⟨rfl, rfl⟩
  · by_cases h1 : e = 1
    · subst h1
      rw [if_pos (.inr rfl), if_neg (show ¬ (1 : Int) = 0 by omega)]
      rw [show decide ((1 : Int) = 0 ∨ (1 : Int) = 1) = true from rfl] at HR
      go_enter Try.func14, Try.ntmps14
      go_wp2_with (first | (go_at_call 27; (with_reducible refine (HR.out _).mono ?_); rintro e w1 ⟨rfl, rfl⟩))
      go_ret
      exact ⟨rfl, rfl⟩
    · rw [if_neg (by omega)]
      rw [decide_eq_false (by omega)] at HR
      clear h0 h1
      go_enter Try.func14, Try.ntmps14
      go_wp2_with (first | (go_at_call 27; (with_reducible refine (HR.out _).mono ?_); rintro e w1 ⟨rfl, rfl⟩))
      go_ret
      exact ⟨rfl, rfl⟩
end
def sd0 : Sd := ⟨false, false, false, [], []⟩
theorem new_any {w0 w : World} {L : List Asr} (h : Star w0 w L) (dg : Bool) (room : Nat) (h1 : 1 ≤ room) (h2 : room ≤ 1048576) : Calls Try.prog 8 #[.bool dg, .int .i64 room] w fun r w' => r = .returned (.pointer (some ⟨w.heap.size, 0, none⟩)) ∧ Star w0 w' (SkA w.heap.size sd0 sd0 dg room :: L) := by
  have h3 := ((((h.nilO 3 1).nilO 5 1).nilO 3 1).nilO 5 1).newBlk 62 (skC sd0 sd0 dg room (.slice none 0 0) (.slice none 0 0) (.slice none 0 0) (.slice none 0 0))
  have HS := Lib.hid (Star.exClose (Q := sk w.heap.size sd0 sd0 dg room) (.slice none 0 0, .slice none 0 0, .slice none 0 0, .slice none 0 0) h3)
  have hr1 : (1 : Int) ≤ room := by omega
  have hr2 : (room : Int) ≤ 1048576 := by omega
  clear h h3
  go_enter Try.func8, Try.ntmps8
  go_wp2
  go_ret
  exact ⟨rfl, HS.out⟩
theorem new_none (dg : Bool) (r : Int) (h : r < 1 ∨ 1048576 < r) (w : World) : Calls Try.prog 8 #[.bool dg, .int .i64 r] w fun e w' => e = .returned (.pointer none) ∧ w = w' := by
  by_cases h1 : r < 1
  · go_enter Try.func8, Try.ntmps8
    go_wp2
    go_ret
    exact ⟨rfl, rfl⟩
  · have h2 : 1048576 < r := by omega
    clear h
    go_enter Try.func8, Try.ntmps8
    go_wp2
    go_ret
    exact ⟨rfl, rfl⟩
end Go.Proofs.Ytfocbpnabgpmpaa.Sk
