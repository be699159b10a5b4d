/- The contract of Alloc. -/
import Derived.Test.YtllofdfldoaedaaPgD
import Derived.Outline
namespace Go.Proofs.Ytllofdfldoaedaa.Pg
open Go Go.RowKit Go.Proofs.Ytllofdfldoaedaa.Mem
set_option linter.unusedVariables false
set_option linter.unusedSimpArgs false
def newFr : Fr := ⟨List.replicate 64 0, 1⟩
def noFr : Fr := ⟨List.replicate 64 0, 0⟩
theorem fr_info : (Try.prog.info? 66).map (fun i => (i.zero, i.size, i.bytes)) = some (some (.agg (frC noFr).toArray), 65, 72) := by kernel_rfl
theorem fr_zero (W : World) : (zeroValue 66).run Try.prog W = .ok (.agg (frC noFr).toArray) W := by kernel_rfl
theorem fr_new : (frC noFr).toArray.setIfInBounds 64 (.int .i64 1) = (frC newFr).toArray := by kernel_rfl
theorem fr_new_one : (frC newFr).toArray.all (·.oneCell') = true := by kernel_rfl
theorem fr_no_one : ∀ u ∈ frC noFr, u.oneCell' = true := by decide
theorem noFr_ok : FrOk noFr := by simp [FrOk, noFr]
theorem newFr_ok : FrOk newFr := by simp [FrOk, newFr]
section
variable {w : World} {B b : Nat} {fs : List Fr} {cap used : Int} {sv : Value}
theorem alloc_full (h : Pl w B b fs cap used sv) (hc : used = cap) : Calls Try.prog 11 #[.pointer (some ⟨b, 0, none⟩)] w fun e w' => e = .returned (.tuple #[.int .i64 0, .int .i64 (-4)]) ∧ ∃ n, w' = w.drewN n := by
  have c1 : w.cell? ⟨b, 1, none⟩ = some (.int .i64 cap) := h.blk.cellv rfl
  have c2 : w.cell? ⟨b, 2, none⟩ = some (.int .i64 used) := h.blk.cellv rfl
  have z1 : (used == cap) = true := beq_iff_eq.mpr hc
  clear h hc
  go_enter Try.func11, Try.ntmps11
  go_wp2
  go_quiet (fail)
  go_wp2
  go_ret2
  exact ⟨rfl, _, rfl⟩
theorem Pl.upd {w' : World} {F : Nat → Prop} (h : Pl w B b fs cap used sv) (hu : Upd F w w') (hF : ∀ k, ft b sv k → ¬ F k) : Pl w' B b fs cap used sv :=
  ⟨h.base, h.blk.upd hu (hF b (.inl rfl)), own_upd h.row hu (fun g hg => hF g (.inr hg)), h.ok⟩
theorem Pl.ft_lt (h : Pl w B b fs cap used sv) {k : Nat} (hk : ft b sv k) : B ≤ k ∧ k < w.heap.size := by
  rcases hk with rfl | hk
  · exact ⟨h.base, h.blk.lt⟩
  · exact h.row.lt k hk
theorem Pl.below {w' : World} (h : Pl w B b fs cap used sv) (hb : Below w.heap.size w w') : Pl w' B b fs cap used sv := h.upd (Upd.of_below hb (fun _ => False)) (fun _ _ h => h)
set_option maxHeartbeats 4000000 in
theorem alloc_again (h : Pl w B b fs cap used sv) (hc : used ≠ cap) (hl : fs.length ≤ 65536) {k : Nat} (hk : freeN fs = some k) (hu : 0 ≤ used ∧ used ≤ 65536) : Calls Try.prog 11 #[.pointer (some ⟨b, 0, none⟩)] w fun e w' =>
    e = .returned (.tuple #[.int .i64 k, .int .i64 0]) ∧ Pl w' B b (fs.set k newFr) cap (used + 1) sv ∧ Upd (ft b sv) w w' := by
  have c1 : w.cell? ⟨b, 1, none⟩ = some (.int .i64 cap) := h.blk.cellv rfl
  have c2 : w.cell? ⟨b, 2, none⟩ = some (.int .i64 used) := h.blk.cellv rfl
  have z1 : (used == cap) = false := beq_eq_false_iff_ne.mpr hc
  obtain ⟨x, hx, hxu⟩ := freeN_at hk
  have hlt : k < fs.length := (List.getElem?_eq_some_iff.1 hx).1
  obtain ⟨g, cp, rfl, hbg, hgl, hnc⟩ := own_form h.row (by omega)
  have H := fun n => Lib.hid (idx_any (w := w.drewN n) (sv := .slice (some ⟨g, 0, none⟩) fs.length cp) ⟨h.base, h.blk, h.row, h.ok⟩ hl)
  rw [hk] at H
  simp only [idxV] at H
  have c0 : w.cell? ⟨b, 0, none⟩ = some (.slice (some ⟨g, 0, none⟩) fs.length cp) := h.blk.cellv rfl
  have HH := Lib.hid h
  obtain ⟨h1, h2⟩ := hu
  have HX := Lib.hid hx
  clear h hc hx hxu hk
  obtain ⟨Z, hZ⟩ : ∃ Z, Z = (frC noFr).toArray := ⟨_, rfl⟩
  obtain ⟨Y, hY⟩ : ∃ Y, Y = (frC newFr).toArray := ⟨_, rfl⟩
  have hz : ∀ W, (zeroValue 66).run Try.prog W = .ok (.agg Z) W := fun W => by rw [hZ]; exact fr_zero W
  have hzs : Z.size = 65 := by rw [hZ]; exact frC_size noFr_ok
  have hzn : Z.setIfInBounds 64 (.int .i64 1) = Y := by rw [hZ, hY]; exact fr_new
  have hys := Lib.hid (show Y.size = 65 by rw [hY]; exact frC_size newFr_ok)
  have hy1 := Lib.hid (show Y.all (·.oneCell') = true by rw [hY]; exact fr_new_one)
  have HY := Lib.hid hY
  clear hZ hY
  go_enter Try.func11, Try.ntmps11
  go_wp2
  go_quiet (fail)
  go_upto_region 8 with (first
    | (go_at_call 28; (with_reducible refine (H _).out.mono ?_); rintro e w1 ⟨rfl, hb1⟩
       have HH1 := Lib.hid (Pl.below (w := w.drewN nq) ⟨HH.out.base, HH.out.blk, HH.out.row, HH.out.ok⟩ hb1)
       have d0 := HH1.out.blk.cellv (i := 0) rfl)
    | (with_reducible refine wpList_store_own rfl 66 (.tmp 41) (.tmp 40) rfl HH1.out.row (k * 65) Y rfl rfl ?_ ?_ hy1.out ?_))
  · rw [hys.out]; omega
  · rw [hys.out]; kernel_rfl
  · intro w2 ho2 hu2 hs2
    have hok2 := HH1.out.turn hu2 (fs' := fs.set k newFr) (by
      have e := frCs_set HH1.out.ok (k := k) (j := 0) (cs := (frC newFr)) HX.out (by rw [frC_len newFr_ok]; omega) (x' := newFr) (splice_all _ _ (by rw [frC_len newFr_ok, frC_len (HH1.out.ok x (List.mem_of_getElem? HX.out))]))
      rw [HY.out] at ho2
      simp only [Nat.add_zero] at e
      rw [← e]
      exact ho2) (by simp) (ok_set HH1.out.ok k newFr_ok)
    rw [List.length_set] at hok2
    have c2' := hok2.blk.cellv (i := 2) rfl
    have f2' := hok2.blk.frozen 2
    have HS := Lib.hid (hok2.setUsed (used + 1))
    have hbw := (Upd.refl (ft b (.slice (some ⟨g, 0, none⟩) fs.length cp)) w).drewN nq
    have HU := Lib.hid (((hbw.trans (Upd.of_below hb1 (fun _ => False)) (fun _ _ h => h.elim)).trans hu2 (fun i _ h => .inr (by rw [show i = g from h]; rfl))).setCell (p := ⟨b, 2, none⟩) (fun _ => .inl rfl) (.int .i64 (used + 1)))
    clear hok2 ho2 hu2 hbw
    go_wp2
    go_ret2
    exact ⟨rfl, HS.out, HU.out⟩
set_option maxHeartbeats 4000000 in
theorem alloc_more (h : Pl w B b fs cap used sv) (hc : used ≠ cap) (hl : fs.length ≤ 65535) (hB : B ≤ w.heap.size) (hk : freeN fs = none) (hu : 0 ≤ used ∧ used ≤ 65536) : Calls Try.prog 11 #[.pointer (some ⟨b, 0, none⟩)] w fun e w' =>
    e = .returned (.tuple #[.int .i64 fs.length, .int .i64 0]) ∧ ∃ sv', Pl w' B b (fs ++ [newFr]) cap (used + 1) sv' ∧ Upd (ft b sv) w w' ∧ Grow w (ft b sv) (ft b sv') := by
  have c1 : w.cell? ⟨b, 1, none⟩ = some (.int .i64 cap) := h.blk.cellv rfl
  have c2 : w.cell? ⟨b, 2, none⟩ = some (.int .i64 used) := h.blk.cellv rfl
  have z1 : (used == cap) = false := beq_eq_false_iff_ne.mpr hc
  obtain ⟨A, c, hsv⟩ := own_len h.row
  subst hsv
  have H := fun n => Lib.hid (idx_any (w := w.drewN n) (sv := .slice A fs.length c) ⟨h.base, h.blk, h.row, h.ok⟩ (by omega))
  rw [hk] at H
  simp only [idxV] at H
  have c0 : w.cell? ⟨b, 0, none⟩ = some (.slice A fs.length c) := h.blk.cellv rfl
  have HH := Lib.hid h
  obtain ⟨h1, h2⟩ := hu
  clear h hc hk
  obtain ⟨Z, hZ⟩ : ∃ Z, Z = (frC noFr).toArray := ⟨_, rfl⟩
  obtain ⟨Y, hY⟩ : ∃ Y, Y = (frC newFr).toArray := ⟨_, rfl⟩
  have hz : ∀ W, (zeroValue 66).run Try.prog W = .ok (.agg Z) W := fun W => by rw [hZ]; exact fr_zero W
  have hzs : Z.size = 65 := by rw [hZ]; exact frC_size noFr_ok
  have hzn : Z.setIfInBounds 64 (.int .i64 1) = Y := by rw [hZ, hY]; exact fr_new
  have hys := Lib.hid (show Y.size = 65 by rw [hY]; exact frC_size newFr_ok)
  have hy1 := Lib.hid (show Y.all (·.oneCell') = true by rw [hY]; exact fr_new_one)
  have HY := Lib.hid hY
  have hZq := Lib.hid hZ
  clear hZ hY
  have HRd := Lib.hid (fun W : World => show Reads (W.alloc (.cells Z 66)) (W.heap.size + 1) 65 (some ⟨W.heap.size, 0, none⟩) 1 (frC noFr) by
    rw [hZq.out]
    exact reads_fresh W 66 (frC noFr) 1 65 (by rw [frC_len noFr_ok]))
  have hbl := HH.out.base
  obtain ⟨i0, hi0, hz0, hz1, hz2⟩ := info_parts (show (Try.prog.info? 66).map (fun i => (i.zero, i.size, i.bytes)) = some (some (.agg Z), 65, 72) by rw [hZq.out]; exact fr_info)
  have HD1 := Lib.hid (show i0.size = Z.size by rw [hz1, hzs])
  have HD2 := Lib.hid (show 0 < Z.size by omega)
  have HD3 := Lib.hid (show Z.size ≤ 16777216 by omega)
  go_enter Try.func11, Try.ntmps11
  go_wp2
  go_quiet (fail)
  go_upto_region 7 with (first
    | (go_at_call 28; (with_reducible refine (H _).out.mono ?_); rintro e w1 ⟨rfl, hb1⟩
       have HH1 := Lib.hid (Pl.below (w := w.drewN nq) ⟨HH.out.base, HH.out.blk, HH.out.row, HH.out.ok⟩ hb1)
       have hBs : B ≤ w1.heap.size + 1 := by have := hb1.size; simp at this; omega
       have d0 := HH1.out.blk.cellv (i := 0) rfl)
    | (with_reducible refine wpList_slice1 rfl 60 66 (.tmp 30) rfl Z i0 _ Try.underlying60 hi0 hz0 HD1.out HD2.out HD3.out rfl ?_)
    | (at_builtin
       refine wpList_append_any _ rfl (.tmp 29) (.tmp 31) _ rfl B 66 i0 _ 65 72 Try.underlying60 hi0 hz0 hz1 hz2 hzs (by omega) (.slice A fs.length c) fs.length (frCs fs) rfl (HH1.out.row.alloc _) (w1.heap.size + 1) (some ⟨w1.heap.size, 0, none⟩) 1 1 (frC noFr) rfl (HRd.out w1) fr_no_one (by simp only [maxLen]; omega) (by omega) (by simpa using hBs) ?_
       intro v1 w2 hown hg hat
       have hne : (some b : Option Nat) ≠ (Value.slice A fs.length c).ownBlock := fun e => own_blk_ne HH1.out.row HH1.out.blk (by decide) e.symm
       have hB1 := (HH1.out.blk.alloc (.cells Z 66)).grown hg hne
       obtain ⟨g1, cp1, rfl, hbg, hgl, hnc⟩ := own_form hown (by omega)
       have c0' := hB1.cellv (i := 0) rfl
       have f0' := hB1.frozen 0))
  have hA1 : Pl (w2.setCell ⟨b, 0, none⟩ (.slice (some ⟨g1, 0, none⟩) (fs.length + 1) cp1)) B b (fs ++ [noFr]) cap used (.slice (some ⟨g1, 0, none⟩) (fs.length + 1) cp1) := by
    refine ⟨HH.out.base, hB1.setv 0 _ rfl, ?_, fun f hf => ?_⟩
    · have e : frCs fs ++ frC noFr = frCs (fs ++ [noFr]) := by simp [frCs]
      rw [e] at hown
      have h3 := own_keep hown (upd_set w2 b 0 (.slice (some ⟨g1, 0, none⟩) (fs.length + 1) cp1)) (own_dis_blk hown hB1 (by decide))
      simpa using h3
    · rcases List.mem_append.1 hf with h3 | h3
      · exact HH.out.ok f h3
      · rw [List.mem_singleton.1 h3]; exact noFr_ok
  have hbw := (Upd.refl (ft b (.slice A fs.length c)) w).drewN nq
  have hU1 := ((((hbw.trans (Upd.of_below hb1 (fun _ => False)) (fun _ _ h => h.elim)).alloc (.cells Z 66)).trans (grown_upd hg) (fun i _ h => .inr h))).setCell (p := ⟨b, 0, none⟩) (fun _ => .inl rfl) (.slice (some ⟨g1, 0, none⟩) (fs.length + 1) cp1)
  have hG : Grow w (ft b (.slice A fs.length c)) (ft b (.slice (some ⟨g1, 0, none⟩) (fs.length + 1) cp1)) := fun i hi => by
    rcases hi with rfl | hi
    · exact .inl (.inl rfl)
    · rcases append_grow (w := w) hat (W := w1.alloc (.cells Z 66)) (by have := hb1.size; simp at this ⊢; omega) i hi with h3 | h3
      · exact .inl (.inr h3)
      · right
        have := hb1.size
        simp at this h3
        omega
  have HU1 := Lib.hid hU1
  have HG := Lib.hid hG
  have HA1 := Lib.hid hA1
  clear hU1 hG hown hg hat hB1 c0' f0' hbw hgl d0 c0 c1 c2 hBs hb1 HH1
  generalize w2.setCell _ _ = W2 at *
  obtain ⟨L, hL⟩ : ∃ L, L = fs ++ [noFr] := ⟨_, rfl⟩
  have hLl : L.length = fs.length + 1 := by rw [hL]; simp
  have hLs : L.set fs.length newFr = fs ++ [newFr] := by rw [hL]; simp
  rw [← hL, ← hLl] at HA1
  rw [← hLl] at HG
  simp only [← hLl]
  have HLx := Lib.hid (show L[fs.length]? = some noFr by rw [hL]; simp)
  have HLl := Lib.hid hLl
  have HLs := Lib.hid hLs
  have hL1 : fs.length < L.length := by omega
  clear hL hLl hLs
  have d0 := HA1.out.blk.cellv (i := 0) rfl
  go_upto_region 8 with (first
    | (with_reducible refine wpList_store_own rfl 66 (.tmp 41) (.tmp 40) rfl HA1.out.row (fs.length * 65) Y rfl rfl ?_ ?_ hy1.out ?_))
  · rw [hys.out, HLl.out]; omega
  · rw [hys.out]; kernel_rfl
  · intro w2 ho2 hu2 hs2
    have hok2 := HA1.out.turn hu2 (fs' := L.set fs.length newFr) (by
      have e := frCs_set HA1.out.ok (k := fs.length) (j := 0) (cs := (frC newFr)) HLx.out (by rw [frC_len newFr_ok]; omega) (x' := newFr) (splice_all _ _ (by rw [frC_len newFr_ok, frC_len noFr_ok]))
      rw [HY.out] at ho2
      simp only [Nat.add_zero] at e
      rw [← e]
      exact ho2) (by simp) (ok_set HA1.out.ok fs.length newFr_ok)
    rw [List.length_set] at hok2
    have c2' := hok2.blk.cellv (i := 2) rfl
    have f2' := hok2.blk.frozen 2
    have HS := Lib.hid (hok2.setUsed (used + 1))
    have HU := Lib.hid ((HU1.out.trans hu2 (fun i hi h => by
      have e : i = g1 := h
      subst e
      rcases HG.out i (.inr rfl) with h3 | h3
      · exact h3
      · omega)).setCell (p := ⟨b, 2, none⟩) (fun _ => .inl rfl) (.int .i64 (used + 1)))
    rw [HLs.out] at HS
    clear hok2 ho2 hu2 HLs HLl HLx d0
    go_wp2
    go_ret2
    exact ⟨rfl, _, HS.out, HU.out, HG.out⟩
end
end Go.Proofs.Ytllofdfldoaedaa.Pg
