/- The port: its objects in memory; New, Len, Watches, count. -/
import Derived.Test.YtjkgkoilabbdgaaOff2
import Derived.RegionTactic
import Derived.Deep.QuietTactic
import Derived.BigQuiet
import Derived.Deep.RegionHeld3
import Derived.Deep.RegionLaw
import Derived.Deep.CutBlock
import Derived.Deep.CutRange
import Derived.WalkSpells
import Derived.Test.YtjkgkoilabbdgaaProg
namespace Go.Proofs.Ytjkgkoilabbdgaa.Pt
open Go Go.RowKit Go.Proofs.Ytjkgkoilabbdgaa.Mem
set_option linter.unusedVariables false
set_option linter.unusedSimpArgs false
theorem star_dr {w0 w : World} {L : List Asr} (h : Star w0 w L) : Star w0 w.drew L := h.drewN 1
/-- A packet, or a watch: three numbers. -/
structure T3 where
  a : Int
  b : Int
  c : Int
def t3C (x : T3) : List Value := [.int .i64 x.a, .int .i64 x.b, .int .i64 x.c]
def t3V (l : List T3) : List Value := (l.map t3C).flatten
theorem t3_rows (l : List T3) : ∀ r ∈ l.map t3C, r.length = 3 := fun r hr => by
  obtain ⟨x, -, rfl⟩ := List.mem_map.1 hr
  rfl
theorem t3V_len (l : List T3) : (t3V l).length = l.length * 3 := by
  unfold t3V
  rw [flat_len _ 3 (t3_rows l), List.length_map]
theorem t3V_app (a b : List T3) : t3V (a ++ b) = t3V a ++ t3V b := by simp [t3V]
theorem t3V_one (l : List T3) : ∀ u ∈ t3V l, u.oneCell' = true := fun u hu => by
  unfold t3V at hu
  obtain ⟨r, hr, hu⟩ := List.mem_flatten.1 hu
  obtain ⟨x, -, rfl⟩ := List.mem_map.1 hr
  simp [t3C] at hu
  rcases hu with rfl | rfl | rfl <;> rfl
theorem t3V_at {l : List T3} {k j : Nat} {x : T3} (hx : l[k]? = some x) (hj : j < 3) : (t3V l)[k * 3 + j]? = (t3C x)[j]? :=
  flat_at (l.map t3C) 3 k j (t3C x) (t3_rows l) (by rw [List.getElem?_map, hx]; rfl) hj
theorem t3V_take (l : List T3) (n : Nat) (h : n ≤ l.length) : (t3V l).take (n * 3) = t3V (l.take n) := by
  have e : t3V l = t3V (l.take n) ++ t3V (l.drop n) := by rw [← t3V_app, List.take_append_drop]
  rw [e, List.take_append_of_le_length (by rw [t3V_len, List.length_take]; omega), List.take_of_length_le (by rw [t3V_len, List.length_take]; omega)]
theorem t3V_drop (l : List T3) (n : Nat) (h : n ≤ l.length) : (t3V l).drop (n * 3) = t3V (l.drop n) := by
  have e : t3V l = t3V (l.take n) ++ t3V (l.drop n) := by rw [← t3V_app, List.take_append_drop]
  have e2 : n * 3 = (t3V (l.take n)).length := by rw [t3V_len, List.length_take]; omega
  rw [e, e2, List.drop_left]
def t3G (x : T3) : Value := .agg #[.int .i64 x.a, .int .i64 x.b, .int .i64 x.c]
/-- The state of a port: packets (key, source, value), watches (object, key, mask). -/
structure Po where
  q : List T3
  ws : List T3
  d : Nat
  m : Nat
def usersN (q : List T3) : Nat := q.countP (fun x => x.b == 0)
def objsN (q : List T3) : Nat := q.countP (fun x => x.b != 0)
def ptC (s : Po) (t : Value × Value) : Array Value := #[t.1, t.2, .int .i64 s.d, .int .i64 s.m, .int .i64 (usersN s.q), .int .i64 (objsN s.q)]
abbrev pt (bs : Nat) (s : Po) (t : Value × Value) : List Asr := [BlkA bs 62 (ptC s t), RowO 29 3 t.1 s.q.length (t3V s.q), RowO 67 3 t.2 s.ws.length (t3V s.ws)]
abbrev PtA (bs : Nat) (s : Po) : Asr := ExA fun t => Grp (pt bs s t)
section
variable {w0 w : World} {S : List Asr} {bs : Nat} {s : Po} {t : Value × Value}
theorem pt_cells (h : Star w0 w (pt bs s t ++ S)) : w.cell? ⟨bs, 0, none⟩ = some t.1 ∧ w.cell? ⟨bs, 1, none⟩ = some t.2 ∧ w.cell? ⟨bs, 2, none⟩ = some (.int .i64 s.d) ∧ w.cell? ⟨bs, 3, none⟩ = some (.int .i64 s.m) ∧ w.cell? ⟨bs, 4, none⟩ = some (.int .i64 (usersN s.q)) ∧ w.cell? ⟨bs, 5, none⟩ = some (.int .i64 (objsN s.q)) :=
  have hb := h.blk 0 rfl
  ⟨hb.cellv rfl, hb.cellv rfl, hb.cellv rfl, hb.cellv rfl, hb.cellv rfl, hb.cellv rfl⟩
theorem pt_rows (h : Star w0 w (pt bs s t ++ S)) : (∃ A c, t.1 = .slice A s.q.length c) ∧ (∃ A c, t.2 = .slice A s.ws.length c) := ⟨(h.rowO 1 rfl).len, (h.rowO 2 rfl).len⟩
theorem len_any (h : Star w0 w (pt bs s t ++ S)) : Calls Try.prog 12 #[.pointer (some ⟨bs, 0, none⟩)] w fun r w' => r = .returned (.int .i64 s.q.length) ∧ w = w' := by
  obtain ⟨k0, -⟩ := pt_cells h
  obtain ⟨⟨A, c, e⟩, -⟩ := pt_rows h
  rw [e] at k0
  clear h e
  go_enter Try.func12, Try.ntmps12
  go_wp2
  go_ret
  exact ⟨rfl, rfl⟩
theorem watches_any (h : Star w0 w (pt bs s t ++ S)) : Calls Try.prog 16 #[.pointer (some ⟨bs, 0, none⟩)] w fun r w' => r = .returned (.int .i64 s.ws.length) ∧ w = w' := by
  obtain ⟨-, k1, -⟩ := pt_cells h
  obtain ⟨-, ⟨A, c, e⟩⟩ := pt_rows h
  rw [e] at k1
  clear h e
  go_enter Try.func16, Try.ntmps16
  go_wp2
  go_ret
  exact ⟨rfl, rfl⟩
end
theorem new_any {w0 w : World} {L : List Asr} (h : Star w0 w L) (d m : Nat) (h1 : 1 ≤ d) (h2 : d ≤ 65536) (h3 : m ≤ 65536) : Calls Try.prog 8 #[.int .i64 d, .int .i64 m] w fun r w' => r = .returned (.pointer (some ⟨w.heap.size, 0, none⟩)) ∧ Star w0 w' (PtA w.heap.size ⟨[], [], d, m⟩ :: L) := by
  have h5 := ((h.nilO 67 3).nilO 29 3).newBlk 62 (ptC ⟨[], [], d, m⟩ (.slice none 0 0, .slice none 0 0))
  have HS := Lib.hid (Star.exClose (Q := pt w.heap.size ⟨[], [], d, m⟩) (.slice none 0 0, .slice none 0 0) h5)
  have hd1 : (1 : Int) ≤ d := by omega
  have hd2 : (d : Int) ≤ 65536 := by omega
  have hm1 : (0 : Int) ≤ m := by omega
  have hm2 : (m : Int) ≤ 65536 := by omega
  clear h h5
  go_enter Try.func8, Try.ntmps8
  go_wp2
  go_ret
  exact ⟨rfl, HS.out⟩
theorem new_none (d m : Int) (h : d < 1 ∨ 65536 < d ∨ m < 0 ∨ 65536 < m) (w : World) : Calls Try.prog 8 #[.int .i64 d, .int .i64 m] w fun e w' => e = .returned (.pointer none) ∧ w = w' := by
  have hc : d < 1 ∨ (1 ≤ d ∧ 65536 < d) ∨ (1 ≤ d ∧ d ≤ 65536 ∧ m < 0) ∨ (1 ≤ d ∧ d ≤ 65536 ∧ 0 ≤ m ∧ 65536 < m) := by omega
  clear h
  rcases hc with h1 | ⟨h1, h2⟩ | ⟨h1, h2, h3⟩ | ⟨h1, h2, h3, h4⟩
  all_goals
    go_enter Try.func8, Try.ntmps8
    go_wp2
    go_ret
    exact ⟨rfl, rfl⟩
section
variable {w0 w : World} {S : List Asr} {bs : Nat}
set_option maxHeartbeats 1000000 in
theorem count_core {cs : Array Value} (h : Star w0 w (BlkA bs 62 cs :: S)) (x : T3) (by_ u o : Int) (c4 : cs[4]? = some (.int .i64 u)) (c5 : cs[5]? = some (.int .i64 o)) (hb : by_ = 1 ∨ by_ = -1) (hu : 0 ≤ u ∧ u ≤ 1000000) (ho : 0 ≤ o ∧ o ≤ 1000000) :
    Calls Try.prog 29 #[.pointer (some ⟨bs, 0, none⟩), t3G x, .int .i64 by_] w fun r w' => r = .returned (.tuple #[]) ∧ Star w0 w' (BlkA bs 62 (if x.b = 0 then cs.setIfInBounds 4 (.int .i64 (u + by_)) else cs.setIfInBounds 5 (.int .i64 (o + by_))) :: S) := by
  obtain ⟨a, b, c⟩ := x
  simp only
  have h2 := h.alloc (.cells #[.int .i64 a, .int .i64 b, .int .i64 c] 29)
  have k4 := (h2.blk 0 rfl).cellv c4
  have k5 := (h2.blk 0 rfl).cellv c5
  have f4 := (h2.blk 0 rfl).frozen 4
  have f5 := (h2.blk 0 rfl).frozen 5
  have g4 := h2.setBlk 0 rfl 4 (.int .i64 (u + by_))
  have g5 := h2.setBlk 0 rfl 5 (.int .i64 (o + by_))
  simp only [List.set_cons_zero] at g4 g5
  have G4 := Lib.hid g4
  have G5 := Lib.hid g5
  obtain ⟨hu0, hu1⟩ := hu
  obtain ⟨ho0, ho1⟩ := ho
  have hb1 : -1 ≤ by_ := by omega
  have hb2 : by_ ≤ 1 := by omega
  unfold t3G
  clear h h2 g4 g5 c4 c5 hb
  by_cases hz : b = 0
  · subst hz
    rw [if_pos rfl]
    go_enter Try.func29, Try.ntmps29
    go_wp2
    go_end0
    exact ⟨rfl, G4.out⟩
  · rw [if_neg hz]
    have hz' : (b == 0) = false := beq_eq_false_iff_ne.mpr hz
    clear hz
    go_enter Try.func29, Try.ntmps29
    go_wp2
    go_end0
    exact ⟨rfl, G5.out⟩
end
end Go.Proofs.Ytjkgkoilabbdgaa.Pt
