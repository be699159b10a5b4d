/- The contract of Free. -/
import Derived.Test.YtnejjaebhjgccaaArG
import Derived.Deep.RegionLaw
import Derived.Deep.RegionHeld3
namespace Go.Proofs.Ytnejjaebhjgccaa.Ar
open Go Go.RowKit Go.Proofs.Ytnejjaebhjgccaa.Mem Go.Proofs.Ytnejjaebhjgccaa.Bits
set_option linter.unusedVariables false
set_option linter.unusedSimpArgs false
theorem fr_info : (Try.prog.info? 3).map (fun i => (i.zero, i.size, i.bytes)) = some (some (.int .i64 0), 1, 8) := by kernel_rfl
section
variable {w : World} {B b : Nat} {sl : List Sl} {fr : List Int} {cap cnt : Int} {sv fv : Value}
theorem free_none (h : Arn w B b sl fr cap cnt sv fv) {id : Int} (hf : findN sl id = none) : Calls Try.prog 15 #[.pointer (some ⟨b, 0, none⟩), .int .i64 id] w fun e w' => e = .returned (.int .i64 (-25)) ∧ ∃ n, w' = w.drewN n := by
  have H := Lib.hid (find_any h id)
  clear h
  rw [hf] at H
  simp only [findV] at H
  clear hf
  go_enter Try.func15, Try.ntmps15
  go_wp2_with (first | (go_at_call 31; (with_reducible refine H.out.mono ?_); rintro e w1 ⟨rfl, n, rfl⟩))
  go_ret
  exact ⟨rfl, n, rfl⟩
theorem free_end {W5 w6 : World} {A2 : Option Addr} {c2 g6 cp6 : Nat} {x : Int} {o : Obj} (h : Arn W5 B b sl fr cap cnt sv (.slice A2 fr.length c2))
    (hown : w6.ownsRow B 3 1 (.slice (some ⟨g6, 0, none⟩) (fr.length + 1) cp6) (fr.length + 1) (ints fr ++ [.int .i64 x])) (hg : (W5.alloc o).drew.grownBy w6 (Value.slice A2 fr.length c2).ownBlock)
    (hB : Blk w6 b 57 #[sv, .slice A2 fr.length c2, .int .i64 cap, .int .i64 cnt]) :
    Arn (w6.setCell ⟨b, 1, none⟩ (.slice (some ⟨g6, 0, none⟩) (fr.length + 1) cp6)) B b sl (fr ++ [x]) cap cnt sv (.slice (some ⟨g6, 0, none⟩) (fr.length + 1) cp6) := by
  have hs : w6.ownsRow B 59 3 sv sl.length (slCs sl) := (h.slots.alloc o).drew.kept hg (by
    cases hb : sv.ownBlock with
    | none => exact .inl rfl
    | some k => exact .inr (fun e => own_own_ne h.slots h.free (by decide) hb e.symm))
  refine ⟨h.base, hB.setv 1 _ rfl, own_far hs (p := ⟨b, 1, none⟩) (own_blk_ne hs hB (by decide)) _, ?_⟩
  have := own_far hown (p := ⟨b, 1, none⟩) (own_blk_ne hown hB (by decide)) (.slice (some ⟨g6, 0, none⟩) (fr.length + 1) cp6)
  simpa [ints] using this
set_option maxHeartbeats 2000000 in
/-- A slot is freed: it goes to the end of the free list, as long as its generation may grow. -/
theorem free_some (h : Arn w B b sl fr cap cnt sv fv) (hB : B ≤ w.heap.size) {id : Int} {i : Nat} {s : Sl} (hf : findN sl id = some i) (hs : sl[i]? = some s) (hg : 0 ≤ s.gen ∧ s.gen < 1073741824) (hfr : fr.length ≤ 65536) (hcnt : 0 ≤ cnt ∧ cnt ≤ 65536) : Calls Try.prog 15 #[.pointer (some ⟨b, 0, none⟩), .int .i64 id] w fun e w' =>
    e = .returned (.int .i64 0) ∧ ∃ fv', Arn w' B b (sl.set i ⟨s.gen, false, 0⟩) (fr ++ [(i : Int)]) cap (cnt - 1) sv fv' ∧ Upd (ft b sv fv) w w' ∧ (∀ k, fv'.ownBlock = some k → fv.ownBlock = some k ∨ w.heap.size ≤ k) := by
  have hlt : i < sl.length := (List.getElem?_eq_some_iff.1 hs).1
  obtain ⟨g, cp, rfl, hbg, hgl, hnc⟩ := own_form h.slots (by omega)
  have H := Lib.hid (find_any h id)
  rw [hf] at H
  simp only [findV, Value.ownBlock, Option.getD_some] at H
  obtain ⟨hid0, hidx, _⟩ := findN_some hf
  have hslot : slotN id = (i : Int) := by unfold slotN; rw [if_neg (by omega)]; omega
  have HSl := Lib.hid (slot_any id)
  rw [hslot] at HSl
  have HH := Lib.hid h
  have HS := Lib.hid hs
  have HG : Hid (g < w.heap.size → ft b (.slice (some ⟨g, 0, none⟩) sl.length cp) fv g) := Lib.hid (fun _ => .inr (.inl rfl))
  obtain ⟨gen, tk, vo⟩ := s
  simp only at hg ⊢
  clear hf h hs hslot hidx
  go_enter Try.func15, Try.ntmps15
  go_upto_region 5 with (first | (go_at_call 31; (with_reducible refine H.out.mono ?_); rintro e w1 ⟨rfl, n, rfl⟩))
  have hA1 := HH.out.drewN n
  have HU := Lib.hid ((Upd.refl (ft b (.slice (some ⟨g, 0, none⟩) sl.length cp) fv) w).drewN n)
  generalize w.drewN n = W2 at *
  obtain ⟨p0, p1, p2, pf, pb⟩ := hA1.cells HS.out
  simp only at p0 p1 p2
  have hA3 := (hA1.store (j := 1) (u := .bool false) (s' := ⟨gen, false, vo⟩) HS.out (by omega) rfl)
  have hL3 : (sl.set i ⟨gen, false, vo⟩).length = sl.length := by simp
  rw [← hL3] at hA3
  have hA4 := (hA3.store (i := i) (j := 2) (u := .int .i64 0) (s := ⟨gen, false, vo⟩) (s' := ⟨gen, false, 0⟩) (by simp [hlt]) (by omega) rfl)
  rw [List.set_set] at hA4
  have hL4 : (sl.set i ⟨gen, false, vo⟩).length = (sl.set i ⟨gen, false, 0⟩).length := by simp
  rw [hL4] at hA4
  have HA4 := Lib.hid hA4
  clear hA1 hA3 hA4 hL3 hL4
  go_upto_region 6 with fail
  have hA4 := HA4.out
  have HU4 := Lib.hid ((HU.out.setCell (p := ⟨g, i * 3 + 1, none⟩) HG.out (Value.bool false)).setCell (p := ⟨g, i * 3 + 2, none⟩) HG.out (Value.int .i64 0))
  clear p0 p1 p2 pf pb HU HA4
  generalize World.setCell _ _ _ = W4 at *
  have a3 : W4.cell? ⟨b, 3, none⟩ = some (.int .i64 cnt) := hA4.blk.cellv rfl
  have pb : W4.frozen? ⟨b, 3, none⟩ = false := hA4.blk.frozen 3
  go_upto_region 7 with fail
  have hA5 := hA4.cnt_ (cnt - 1)
  have HU5 := Lib.hid (HU4.out.setCell (p := ⟨b, 3, none⟩) (fun _ => .inl rfl) (Value.int .i64 (cnt - 1)))
  clear a3 pb HU4 hA4
  generalize World.setCell _ _ _ = W5 at *
  obtain ⟨p0, -, -, -, -⟩ := hA5.cells (i := i) (s := ⟨gen, false, 0⟩) (by simp [hlt])
  simp only at p0
  have hL5 : (sl.set i ⟨gen, false, 0⟩).length = sl.length := by simp
  rw [hL5] at hA5
  have HA5 := Lib.hid hA5
  clear hA5 hL5
  go_wp2
  clear p0
  obtain ⟨A2, c2, rfl⟩ := own_len HA5.out.free
  have c1 : W5.cell? ⟨b, 1, none⟩ = some (.slice A2 fr.length c2) := HA5.out.blk.cellv rfl
  have f1 : W5.frozen? ⟨b, 1, none⟩ = false := HA5.out.blk.frozen 1
  obtain ⟨i0, hi0, hz0, hz1, hz2⟩ := info_parts fr_info
  have hw5 : w.heap.size ≤ W5.heap.size := HU5.out.size
  have Hr := fun (W : World) => reads_new W 3 [.int .i64 (i : Int)] 1 rfl
  have c1a : (W5.alloc (.cells #[.int .i64 (i : Int)] 3)).cell? ⟨b, 1, none⟩ = some (.slice A2 fr.length c2) := (HA5.out.blk.alloc _).cellv rfl
  clear H HS HG hlt
  go_region_law (first
    | (refine step_append_any _ (by rfl) (.tmp 35) (.tmp 38) _ (by rfl) B 3 i0 _ 1 8 Try.underlying22 hi0 hz0 hz1 hz2 rfl (by omega) (.slice A2 fr.length c2) fr.length (ints fr) (by rfl)
         (HA5.out.free.drew.alloc _) (W5.drew.heap.size + 1) (some ⟨W5.drew.heap.size, 0, none⟩) 1 1 [.int .i64 (i : Int)] (by rfl) (Hr W5.drew) (by simp [Value.oneCell']) (by simp only [maxLen]; omega) (by omega) (by simp; omega) ?_
       intro v6 w6 hown hg6 hat
       obtain ⟨g6, cp6, rfl, hbg6, hgl6, hnc6⟩ := own_form hown (by omega)
       have hB6 := (HA5.out.blk.drew.alloc _).grown hg6 (fun e => own_blk_ne HA5.out.free HA5.out.blk (by decide) e.symm)
       have c6 : w6.cell? ⟨b, 1, none⟩ = some (.slice A2 fr.length c2) := hB6.cellv rfl
       have f6 : w6.frozen? ⟨b, 1, none⟩ = false := hB6.frozen 1)
    | (go_simp; go_at_call 16; (with_reducible refine (HSl.out _).mono ?_); rintro e w1 ⟨rfl, rfl⟩))
  all_goals
    have hend := free_end HA5.out hown hg6 hB6
    have hupd := (HU5.out.trans (((Upd.refl (ft b (.slice (some ⟨g, 0, none⟩) sl.length cp) (.slice A2 fr.length c2)) W5).alloc (.cells #[.int .i64 (i : Int)] 3)).drew.trans (Upd.of_grown hg6 (F := ft b (.slice (some ⟨g, 0, none⟩) sl.length cp) (.slice A2 fr.length c2)) (fun j hj => .inr (.inr hj))) (fun _ _ h => h)) (fun _ _ h => h)).setCell (p := ⟨b, 1, none⟩) (fun _ => .inl rfl) (.slice (some ⟨g6, 0, none⟩) (fr.length + 1) cp6)
    have hnew : ∀ k, (Value.slice (some ⟨g6, 0, none⟩) (fr.length + 1) cp6).ownBlock = some k → (Value.slice A2 fr.length c2).ownBlock = some k ∨ w.heap.size ≤ k := fun k hk => by
      rcases hat with e | e
      · exact .inl (by rw [← e]; exact hk)
      · rw [e] at hk
        have : W5.heap.size + 1 = k := by simpa using hk
        exact .inr (by omega)
    have X1 := Lib.hid hend
    have X2 := Lib.hid hupd
    have X3 := Lib.hid hnew
    clear hend hupd hnew hat hown hg6 hB6 c6 f6 c1a c1 f1 Hr HSl HU5 HA5
    go_wp2
    go_ret
    exact ⟨rfl, _, X1.out, X2.out, X3.out⟩
end
end Go.Proofs.Ytnejjaebhjgccaa.Ar
