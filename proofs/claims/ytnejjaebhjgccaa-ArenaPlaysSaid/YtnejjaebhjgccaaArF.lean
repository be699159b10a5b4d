/- The contract of Alloc where a freed slot is taken again. -/
import Derived.Test.YtnejjaebhjgccaaArE
namespace Go.Proofs.Ytnejjaebhjgccaa.Ar
open Go Go.RowKit Go.Proofs.Ytnejjaebhjgccaa.Mem Go.Proofs.Ytnejjaebhjgccaa.Bits
set_option linter.unusedVariables false
set_option linter.unusedSimpArgs false
/-- The free list is cut by its last one. -/
theorem Arn.pop {w : World} {B b : Nat} {sl : List Sl} {fr : List Int} {x : Int} {cap cnt : Int} {sv : Value} {g cp : Nat} (h : Arn w B b sl (fr ++ [x]) cap cnt sv (.slice (some ⟨g, 0, none⟩) (fr ++ [x]).length cp)) :
    Arn (w.setCell ⟨b, 1, none⟩ (.slice (some ⟨g, 0, none⟩) fr.length cp)) B b sl fr cap cnt sv (.slice (some ⟨g, 0, none⟩) fr.length cp) := by
  have hc := own_cut h.free (k := fr.length) (by simp)
  have e : (ints (fr ++ [x])).take (fr.length * 1) = ints fr := by simp [ints]
  rw [e] at hc
  exact ⟨h.base, h.blk.setv 1 _ rfl, own_far h.slots (p := ⟨b, 1, none⟩) (own_blk_ne h.slots h.blk (by decide)) _, own_far hc (p := ⟨b, 1, none⟩) (own_blk_ne hc h.blk (by decide)) _⟩
section
variable {w : World} {B b : Nat} {sl : List Sl} {fr : List Int} {cap cnt : Int} {sv fv : Value}
set_option maxHeartbeats 2000000 in
theorem alloc_again {k : Nat} {s : Sl} (h : Arn w B b sl (fr ++ [(k : Int)]) cap cnt sv fv) (hs : sl[k]? = some s) (hsl : sl.length ≤ 65536) (hg0 : 0 ≤ s.gen ∧ s.gen ≤ 1073741824) (hfr : fr.length ≤ 65536) (hcnt : 0 ≤ cnt ∧ cnt ≤ 65536) (v : Int) : Calls Try.prog 11 #[.pointer (some ⟨b, 0, none⟩), .int .i64 v] w fun e w' =>
    e = .returned (.tuple #[.int .i64 ((s.gen + 1) * 65536 + (k : Int)), .int .i64 0]) ∧ ∃ fv', Arn w' B b (sl.set k ⟨s.gen + 1, true, v⟩) fr cap (cnt + 1) sv fv' ∧ Upd (ft b sv fv) w w' ∧ (∀ k, fv'.ownBlock = some k → fv.ownBlock = some k) := by
  have hkl : k < sl.length := (List.getElem?_eq_some_iff.1 hs).1
  have c0 : w.cell? ⟨b, 0, none⟩ = some sv := h.blk.cellv rfl
  have c1 : w.cell? ⟨b, 1, none⟩ = some fv := h.blk.cellv rfl
  obtain ⟨g, cp, rfl, hbg, hgl, hnc⟩ := own_form h.slots (by omega)
  obtain ⟨g2, cp2, rfl, hbg2, hgl2, hnc2⟩ := own_form h.free (by simp)
  have d1 : w.cell? ⟨g2, fr.length, none⟩ = some (.int .i64 k) := by
    rw [h.free.cellAt fr.length (by simp)]
    simp [ints]
  have f1 : w.frozen? ⟨b, 1, none⟩ = false := h.blk.frozen 1
  have hlen : (fr ++ [(k : Int)]).length = fr.length + 1 := by simp
  have hP := h.pop
  have HU := Lib.hid ((Upd.refl (ft b (.slice (some ⟨g, 0, none⟩) sl.length cp) (.slice (some ⟨g2, 0, none⟩) (fr ++ [(k : Int)]).length cp2)) w).setCell (p := ⟨b, 1, none⟩) (fun _ => .inl rfl) (Value.slice (some ⟨g2, 0, none⟩) fr.length cp2))
  have HP := Lib.hid hP
  have HS := Lib.hid hs
  rw [hlen] at c1 hnc2
  clear h hP hs hlen
  go_enter Try.func11, Try.ntmps11
  go_upto_region 9 with fail
  have hA1 := HP.out
  clear c0 c1 d1 f1 HP
  generalize World.setCell _ _ _ = W2 at *
  have HG : Hid (g < w.heap.size → ft b (.slice (some ⟨g, 0, none⟩) sl.length cp) (.slice (some ⟨g2, 0, none⟩) (fr ++ [(k : Int)]).length cp2) g) := Lib.hid (fun _ => .inr (.inl rfl))
  obtain ⟨gen, tk, vo⟩ := s
  simp only at hg0 ⊢
  obtain ⟨x, hx⟩ : ∃ x : Nat, gen + 1 = x := ⟨(gen + 1).toNat, by omega⟩
  have hor := or_low16 x k (by omega) (by omega)
  have hxb : (x : Int) ≤ 1073741825 := by omega
  have HX := Lib.hid hx
  have a0 : W2.cell? ⟨b, 0, none⟩ = some (.slice (some ⟨g, 0, none⟩) sl.length cp) := hA1.blk.cellv rfl
  obtain ⟨p0, p1, p2, pf, pb⟩ := hA1.cells HS.out
  simp only at p0 p1 p2
  go_upto_region 11 with fail
  have hA2 : Arn (W2.setCell ⟨g, k * 3, none⟩ (.int .i64 x)) B b _ fr cap cnt _ _ := hA1.store (j := 0) (s' := ⟨x, tk, vo⟩) HS.out (by omega) rfl
  have HU3 := Lib.hid (HU.out.setCell (p := ⟨g, k * 3, none⟩) HG.out (Value.int .i64 x))
  clear a0 p0 p1 p2 pf pb HU hA1
  generalize World.setCell _ _ _ = W3 at *
  have hL2 : (sl.set k ⟨x, tk, vo⟩).length = sl.length := by simp
  have hs1 : (sl.set k ⟨x, tk, vo⟩)[k]? = some ⟨x, tk, vo⟩ := by simp [hkl]
  rw [← hL2] at hA2
  obtain ⟨p0, p1, p2, pf, pb⟩ := hA2.cells hs1
  have hA3 := (hA2.store (j := 1) (u := .bool true) (s' := ⟨x, true, vo⟩) hs1 (by omega) rfl)
  have hL3 : ((sl.set k ⟨x, tk, vo⟩).set k ⟨x, true, vo⟩).length = (sl.set k ⟨x, tk, vo⟩).length := by simp
  rw [← hL3] at hA3
  have hA4 := (hA3.store (i := k) (j := 2) (u := .int .i64 v) (s := ⟨x, true, vo⟩) (s' := ⟨x, true, v⟩) (by simp [hkl]) (by omega) rfl)
  rw [List.set_set, List.set_set] at hA4
  have hL4 : ((sl.set k ⟨x, tk, vo⟩).set k ⟨x, true, vo⟩).length = (sl.set k ⟨x, true, v⟩).length := by simp
  rw [hL4] at hA4
  have HA4 := Lib.hid hA4
  clear hs1 hA2 hA3 hA4 hL2 hL3 hL4
  go_upto_region 12 with fail
  have hA4 := HA4.out
  have HU4 := Lib.hid ((HU3.out.setCell (p := ⟨g, k * 3 + 1, none⟩) HG.out (Value.bool true)).setCell (p := ⟨g, k * 3 + 2, none⟩) HG.out (Value.int .i64 v))
  clear p0 p1 p2 pf pb HU3 HA4
  generalize World.setCell _ _ _ = W4 at *
  have a3 : W4.cell? ⟨b, 3, none⟩ = some (.int .i64 cnt) := hA4.blk.cellv rfl
  have pb : W4.frozen? ⟨b, 3, none⟩ = false := hA4.blk.frozen 3
  go_upto_region 13 with fail
  have hA5 := hA4.cnt_ (cnt + 1)
  have HU5 := Lib.hid (HU4.out.setCell (p := ⟨b, 3, none⟩) (fun _ => .inl rfl) (Value.int .i64 (cnt + 1)))
  clear a3 pb HU4 hA4
  generalize World.setCell _ _ _ = W5 at *
  obtain ⟨p0, -, -, -, -⟩ := hA5.cells (i := k) (s := ⟨x, true, v⟩) (by simp [hkl])
  simp only at p0
  have hL5 : (sl.set k ⟨x, true, v⟩).length = sl.length := by simp
  rw [hL5] at hA5
  have HA5 := Lib.hid hA5
  clear hA5 hL5 hx
  go_wp2
  go_ret2
  exact ⟨by rw [HX.out]; rfl, .slice (some ⟨g2, 0, none⟩) fr.length cp2, by rw [HX.out]; exact HA5.out, HU5.out, fun k hk => hk⟩
end
end Go.Proofs.Ytnejjaebhjgccaa.Ar
