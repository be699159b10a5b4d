/- The reference of the pool: alloc where there is room. -/
import Derived.Test.YtllofdfldoaedaaPgRfF
namespace Go.Proofs.Ytllofdfldoaedaa.Pg
open Go Go.RowKit Go.Proofs.Ytllofdfldoaedaa.Mem
set_option linter.unusedVariables false
set_option linter.unusedSimpArgs false
def zB : Array Value := (bytesV (List.replicate 64 0)).toArray
theorem made_one (z : Value) (n : Nat) : madeCells #[z] n = (List.replicate n z).toArray := by
  refine Array.ext_getElem? fun i => ?_
  by_cases hi : i < n
  · rw [show (madeCells #[z] n)[i]? = some z from by simp [madeCells, hi, Nat.mod_one]]
    simp [hi]
  · rw [show (madeCells #[z] n)[i]? = none from by simp [madeCells]; omega]
    simp; omega
theorem make_b (W : World) : (Instr.makeSlice 22 (.int .i64 64) (.int .i64 64)).run Try.prog W = .ok (.slice (some ⟨W.heap.size, 0, none⟩) 64 64) (W.alloc (.cells zB 5)) := by
  obtain ⟨i0, hi0, hz0, hz1, hz2⟩ := info_parts by5_info
  have h := run_make (P := Try.prog) W 22 5 i0 _ Try.underlying22 hi0 hz0 .i64 .i64 64 64 (by omega) (Int.le_refl _) (by rw [hz2]; omega) (by omega)
  rw [hz1] at h
  simp only [show Int.toNat 64 = 64 from rfl] at h
  rw [h]
  show Result.ok _ (W.alloc (.cells (madeCells #[.int .u8 0] (64 * 1)) 5)) = _
  rw [Nat.mul_one, made_one]
  unfold zB bytesV
  rw [List.map_replicate]
  rfl
theorem freeN_before {fs : List Fr} {k : Nat} (h : freeN fs = some k) : ∀ j, j < k → ∀ x, fs[j]? = some x → x.u ≠ 0 := fun j hj x hx => by
  unfold freeN at h
  have := (List.findIdx?_eq_some_iff_getElem.1 h).2.2 j hj
  have h2 := (List.getElem?_eq_some_iff.1 hx).2
  rw [h2] at this
  simpa using this
theorem il_info : (Try.prog.info? 22).map (fun i => (i.zero, i.size, i.bytes)) = some (some (.slice none 0 0), 1, 24) := by kernel_rfl
theorem in_info : (Try.prog.info? 3).map (fun i => (i.zero, i.size, i.bytes)) = some (some (.int .i64 0), 1, 8) := by kernel_rfl
section
variable {w0 w : World} {b : Nat} {vD vU : Value} {vs : List Value} {fs : List Fr} {cap : Int} {S : List Asr}
theorem rp_dat (h : Star w0 w (rp b vD vU vs fs cap S)) {k : Nat} (hk : k < fs.length) : ∃ g' c', vD = .slice (some ⟨g', 0, none⟩) fs.length c' ∧ (∃ u, w.cell? ⟨g', k, none⟩ = some u) ∧ w.frozen? ⟨g', k, none⟩ = false := by
  obtain ⟨g', c', hsv, hbg, hgl, hnc⟩ := own_form (h.row 1 rfl) (by omega)
  subst hsv
  have h3 := (h.row 1 rfl).cellAt k (by omega)
  have h4 := (h.row 1 rfl).1
  exact ⟨g', c', rfl, ⟨_, h3.trans (List.getElem?_eq_getElem (by omega))⟩, (h.row 1 rfl).frozenAt k⟩
theorem rp_new {g c k : Nat} {x : Fr} (h : Star w0 w (rp b (.slice (some ⟨g, 0, none⟩) fs.length c) vU vs fs cap S)) (hx : fs[k]? = some x) :
    Star w0 (((w.alloc (.cells zB 5)).setCell ⟨g, k, none⟩ (.slice (some ⟨w.heap.size, 0, none⟩) 64 64)).drew) (rp b (.slice (some ⟨g, 0, none⟩) fs.length c) vU (vs.set k (.slice (some ⟨w.heap.size, 0, none⟩) 64 64)) (fs.set k ⟨List.replicate 64 0, x.u⟩) cap S) := by
  have h1 := h.litRow 5 1 zB 64 (by simp [maxLen]) (by simp [zB, bytesV])
  rw [show zB.toList = bytesV (List.replicate 64 0) from rfl] at h1
  exact star_dr (rp_data_set h1 (by simp) hx)
set_option maxRecDepth 8000 in
set_option maxHeartbeats 4000000 in
theorem ralloc_some (h : Star w0 w (rp b vD vU vs fs cap S)) (hu : ∀ f ∈ fs, 0 ≤ f.u) (hn : fs.length ≤ 65536) (hc : (usedN fs : Int) < cap) {k : Nat} (hf : freeN fs = some k) : Calls Try.prog 21 #[.pointer (some ⟨b, 0, none⟩)] w fun e w' => e = .returned (.tuple #[.int .i64 k, .int .i64 0]) ∧ ∃ vs', Star w0 w' (rp b vD vU vs' (fs.set k newFr) cap S) := by
  have HS := Lib.hid h
  obtain ⟨-, k1, k2⟩ := rp_cells h
  have HU := Lib.hid (fun (W : World) (hs : Star w0 W (rp b vD vU vs fs cap S)) => rused hs hu hn)
  have hk1 : w.drew.cell? ⟨b, 2, none⟩ = some (.int .i64 cap) := k2
  obtain ⟨x, hx, hx0⟩ := freeN_at hf
  have HB := Lib.hid (freeN_before hf)
  have hkl := (List.getElem?_eq_some_iff.1 hx).1
  obtain ⟨gu, cu, rfl, hcu, hfu, hcu2⟩ := rp_user h hx
  obtain ⟨gd, cd, rfl, -, -⟩ := rp_dat h hkl
  rw [hx0] at hcu
  have HX := Lib.hid hx
  have HX0 := Lib.hid hx0
  have HUU := Lib.hid hu
  have FU := Lib.hid (fun (W : World) (hs : Star w0 W (rp b (.slice (some ⟨gd, 0, none⟩) fs.length cd) (.slice (some ⟨gu, 0, none⟩) fs.length cu) vs fs cap S)) (j : Nat) (y : Fr) (hy : fs[j]? = some y) => show W.cell? ⟨gu, j, none⟩ = some (.int .i64 y.u) ∧ W.frozen? ⟨gu, j, none⟩ = false from by
    obtain ⟨g', c', e, hcl, hff, -⟩ := rp_user hs hy
    simp only [Value.slice.injEq, Option.some.injEq, Addr.mk.injEq] at e
    obtain ⟨⟨rfl, -, -⟩, -, rfl⟩ := e
    exact ⟨hcl, hff⟩)
  obtain ⟨n, en⟩ : ∃ n, n = fs.length := ⟨_, rfl⟩
  rw [← en] at hn k1 hkl hcu2
  have EN := Lib.hid en
  have hk0 : (0 : Int) ≤ k := by omega
  have hkn : (k : Int) < n := by omega
  have hk65 : k < 9223372036854775807 := by omega
  have hmk := make_b
  clear h hu hf hx hx0 en
  generalize hq : (usedN fs : Int) = q at *
  clear hq
  go_enter Try.func21, Try.ntmps21
  go_wp2
  go_region_held3 (fun w' => w'.cell? ⟨b, 2, none⟩ = some (.int .i64 cap)) (first | exact hk1)
    (first
    | (go_at_call 27; (with_reducible refine (HU.out _ (star_dr HS.out)).mono ?_); rintro e w2 ⟨rfl, rfl⟩))
  all_goals
    have hs1 := star_dr HS.out
    have HS1 := Lib.hid hs1
    have k0 : w.drew.cell? ⟨b, 1, none⟩ = some (.slice (some ⟨gu, 0, none⟩) n cu) := k1
    clear hk1 k1 k2 HU HS hs1
    generalize w.drew = W at *
    clear hcu hfu
    go_wp2
    go_loopw [4] (fun a wr => wr = W ∧ ∃ j : Nat, j ≤ k ∧ a = .int .i64 j) (fun a _ => k - (intOf a).toNat)
    case atStart => exact ⟨rfl, 0, by omega, rfl⟩
    case round =>
      obtain ⟨rfl, j, hj, rfl⟩ := hrel
      have hj0 : (0 : Int) ≤ j := by omega
      have hjn : (j : Int) < n := by omega
      by_cases hlt : j < k
      · obtain ⟨y, hy⟩ : ∃ y, fs[j]? = some y := ⟨_, List.getElem?_eq_getElem (by have := EN.out; omega)⟩
        obtain ⟨hc1, -⟩ := FU.out _ HS1.out j y hy
        have hy1 : 0 < y.u := by
          have := HB.out j hlt y hy
          have := HUU.out y (List.mem_of_getElem? hy)
          omega
        generalize y.u = u at *
        clear hy
        go_wp2
        go_roundw
        case rel => exact ⟨by trivial, j + 1, by omega, by go_num⟩
        case measure => simp [intOf]; omega
      · obtain rfl : j = k := by omega
        obtain ⟨hc1, hf1⟩ := FU.out _ HS1.out j _ HX.out
        rw [HX0.out] at hc1
        go_upto_region 10 with fail
        have hs2 := rp_user_set HS1.out HX.out 1
        generalize wr.setCell ⟨gu, j, none⟩ (.int .i64 1) = W2 at hs2 ⊢
        have hx2 : (fs.set j ⟨x.d, 1⟩)[j]? = some ⟨x.d, 1⟩ := List.getElem?_set_self (by have := EN.out; omega)
        have hs3 : Star w0 W2 (rp b (.slice (some ⟨gd, 0, none⟩) (fs.set j ⟨x.d, 1⟩).length cd) (.slice (some ⟨gu, 0, none⟩) fs.length cu) vs (fs.set j ⟨x.d, 1⟩) cap S) := by rw [List.length_set]; exact hs2
        have hs4 := rp_new hs3 hx2
        simp only [List.set_set] at hs4
        have HS4 := Lib.hid hs4
        have hs5 := hs3.alloc (.cells zB 5)
        have d0 := (rp_cells hs3).1
        have d1 := (rp_cells hs5).1
        obtain ⟨g', c', e, ⟨ud, hud⟩, hdf⟩ := rp_dat hs5 (k := j) (by rw [List.length_set]; have := EN.out; omega)
        obtain ⟨g2, c2, e2, ⟨ue, hue⟩, hef⟩ := rp_dat hs3 (k := j) (by rw [List.length_set]; have := EN.out; omega)
        simp only [Value.slice.injEq, Option.some.injEq, Addr.mk.injEq] at e e2
        obtain ⟨⟨rfl, -, -⟩, -, rfl⟩ := e
        obtain ⟨⟨rfl, -, -⟩, -, rfl⟩ := e2
        rw [List.length_set, ← EN.out] at d0 d1
        clear hs2 hs3 hs4 hs5 hx2 hc1 hf1 k0 HS1
        go_region
        all_goals
          go_wp2
          go_ret2
          exact ⟨rfl, _, by have := HS4.out; rw [List.length_set] at this; exact this⟩
end
end Go.Proofs.Ytllofdfldoaedaa.Pg
