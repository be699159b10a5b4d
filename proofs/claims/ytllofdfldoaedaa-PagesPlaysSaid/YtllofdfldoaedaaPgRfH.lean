/- The reference of the pool: alloc of a frame that was never in use. -/
import Derived.Test.YtllofdfldoaedaaPgRfG
namespace Go.Proofs.Ytllofdfldoaedaa.Pg
open Go Go.RowKit Go.Proofs.Ytllofdfldoaedaa.Mem
set_option linter.unusedVariables false
set_option linter.unusedSimpArgs false
section
variable {w0 w : World} {b : Nat} {vD vU : Value} {vs : List Value} {fs : List Fr} {cap : Int} {S : List Asr}
theorem rp_fz (h : Star w0 w (rp b vD vU vs fs cap S)) (i : Nat) : w.frozen? ⟨b, i, none⟩ = false := (h.blk 0 rfl).frozen i
set_option maxRecDepth 8000 in
set_option maxHeartbeats 4000000 in
theorem ralloc_none (h : Star w0 w (rp b vD vU vs fs cap S)) (hu : ∀ f ∈ fs, 0 ≤ f.u) (hn : fs.length ≤ 65535) (hc : (usedN fs : Int) < cap) (hf : freeN fs = none) : Calls Try.prog 21 #[.pointer (some ⟨b, 0, none⟩)] w fun e w' => e = .returned (.tuple #[.int .i64 fs.length, .int .i64 0]) ∧ ∃ vD' vU' vs', Star w0 w' (rp b vD' vU' vs' (fs ++ [newFr]) cap S) := by
  have HS := Lib.hid h
  obtain ⟨k0, k1, k2⟩ := rp_cells h
  have HU := Lib.hid (fun (W : World) (hs : Star w0 W (rp b vD vU vs fs cap S)) => rused hs hu (by omega))
  have hk1 : w.drew.cell? ⟨b, 2, none⟩ = some (.int .i64 cap) := k2
  have HB := Lib.hid (freeN_all hf)
  obtain ⟨AU, cU, rfl⟩ := rp_size h
  obtain ⟨AD, cD, rfl⟩ := own_len (h.row 1 rfl)
  have HUU := Lib.hid hu
  have FU := Lib.hid (fun (W : World) (hs : Star w0 W (rp b (.slice AD fs.length cD) (.slice AU fs.length cU) vs fs cap S)) (j : Nat) (y : Fr) (hy : fs[j]? = some y) => show ∃ g, AU = some ⟨g, 0, none⟩ ∧ W.cell? ⟨g, j, none⟩ = some (.int .i64 y.u) from by
    obtain ⟨g', c', e, hcl, hff, -⟩ := rp_user hs hy
    simp only [Value.slice.injEq] at e
    obtain ⟨rfl, -, rfl⟩ := e
    exact ⟨g', rfl, hcl⟩)
  obtain ⟨n, en⟩ : ∃ n, n = fs.length := ⟨_, rfl⟩
  have HVD := Lib.hid (h.rowsD 3 rfl).1
  rw [← en] at hn k1 k0
  have EN := Lib.hid en
  have hmk := make_b
  obtain ⟨i3, hi3, hz30, hz31, hz32⟩ := info_parts in_info
  obtain ⟨i22, hi22, hz220, hz221, hz222⟩ := info_parts il_info
  clear h hu hf en
  generalize hq : (usedN fs : Int) = q at *
  clear hq
  go_enter Try.func21, Try.ntmps21
  go_wp2
  go_region_held3 (fun w' => w'.cell? ⟨b, 2, none⟩ = some (.int .i64 cap)) (first | exact hk1)
    (first
    | (go_at_call 27; (with_reducible refine (HU.out _ (star_dr HS.out)).mono ?_); rintro e w2 ⟨rfl, rfl⟩))
  all_goals
    have HS1 := Lib.hid (star_dr HS.out)
    have k0 : w.drew.cell? ⟨b, 0, none⟩ = some (.slice AD n cD) := k0
    have k1 : w.drew.cell? ⟨b, 1, none⟩ = some (.slice AU n cU) := k1
    clear hk1 k2 HU HS
    generalize w.drew = W at *
    go_wp2
    go_loopw [4] (fun a wr => wr = W ∧ ∃ j : Nat, j ≤ n ∧ a = .int .i64 j) (fun a _ => n - (intOf a).toNat)
    case atStart => exact ⟨rfl, 0, by omega, rfl⟩
    case round =>
      obtain ⟨rfl, j, hj, rfl⟩ := hrel
      have hj0 : (0 : Int) ≤ j := by omega
      by_cases hlt : j < n
      · have hjn : (j : Int) < n := by omega
        obtain ⟨y, hy⟩ : ∃ y, fs[j]? = some y := ⟨_, List.getElem?_eq_getElem (by have := EN.out; omega)⟩
        obtain ⟨g, rfl, hc1⟩ := FU.out _ HS1.out j y hy
        have hy1 : 0 < y.u := by
          have := HB.out y (List.mem_of_getElem? hy)
          have := HUU.out y (List.mem_of_getElem? hy)
          omega
        generalize y.u = u at *
        clear hy
        go_wp2
        go_roundw
        case rel => exact ⟨by trivial, j + 1, by omega, by go_num⟩
        case measure => simp [intOf]; omega
      · obtain rfl : j = n := by omega
        have hs1 := HS1.out
        rw [← EN.out] at hs1
        have f0 := rp_fz hs1 0
        have hn' : fs.length ≤ 65535 := by rw [← EN.out]; exact hn
        have f1 := rp_fz hs1 1
        have k1a : (wr.alloc (.cells #[.int .i64 0] 3)).cell? ⟨b, 1, none⟩ = some (.slice AU j cU) := (rp_cells (hs1.alloc _)).2.1
        have HS1 := Lib.hid hs1
        clear hs1
        go_upto_region 8 with (first
          | (at_builtin; refine wpList_append_st rfl (.tmp 42) (.tmp 43) 34 rfl (HS1.out.alloc _) 2 rfl i3 _ 8 Try.underlying34 hi3 hz30 hz31 hz32 rfl (by omega) rfl (wr.heap.size + 1) (some ⟨wr.heap.size, 0, none⟩) 1 1 [.int .i64 0] rfl (reads_fresh wr 3 [.int .i64 0] 1 1 rfl) (by simp [Value.oneCell']) (by simp only [maxLen]; omega) (by omega) ?_
             intro vU' w3 hs3
             simp only [List.set_cons_zero, List.set_cons_succ] at hs3
             obtain ⟨A3, c3, rfl⟩ := own_len (hs3.row 2 rfl)
             have HS3 := Lib.hid hs3
             have q0 : w3.cell? ⟨b, 0, none⟩ = some (.slice AD j cD) := (hs3.blk 0 rfl).cellv rfl
             have q1 : w3.cell? ⟨b, 1, none⟩ = some (.slice AU j cU) := (hs3.blk 0 rfl).cellv rfl
             have q2 : w3.frozen? ⟨b, 1, none⟩ = false := (hs3.blk 0 rfl).frozen 1
             clear hs3))
        have hs4 := HS3.out.setBlk 0 rfl 1 (.slice A3 (fs.length + 1) c3)
        simp only [List.set_cons_zero, List.set_cons_succ] at hs4
        clear q0 q1 q2 HS3 HS1 f0 f1 k0 k1 k1a
        generalize w3.setCell ⟨b, 1, none⟩ (.slice A3 (fs.length + 1) c3) = W4 at hs4 ⊢
        rw [show (#[Value.slice AD j cD, Value.slice AU j cU, Value.int .i64 cap].setIfInBounds 1 (.slice A3 (fs.length + 1) c3)) = #[Value.slice AD j cD, .slice A3 (fs.length + 1) c3, .int .i64 cap] from rfl] at hs4
        have k0 : W4.cell? ⟨b, 0, none⟩ = some (.slice AD j cD) := (hs4.blk 0 rfl).cellv rfl
        have k0a : (W4.alloc (.cells #[.slice none 0 0] 22)).cell? ⟨b, 0, none⟩ = some (.slice AD j cD) := ((hs4.alloc _).blk 0 rfl).cellv rfl
        have HS4 := Lib.hid hs4
        clear hs4
        go_upto_region 9 with (first
          | (at_builtin; refine wpList_append_st rfl (.tmp 51) (.tmp 52) 49 rfl (HS4.out.alloc _) 1 rfl i22 _ 24 Try.underlying49 hi22 hz220 hz221 hz222 rfl (by omega) rfl (W4.heap.size + 1) (some ⟨W4.heap.size, 0, none⟩) 1 1 [.slice none 0 0] rfl (reads_fresh W4 22 [.slice none 0 0] 1 1 rfl) (by simp [Value.oneCell']) (by simp only [maxLen]; omega) (by omega) ?_
             intro vD' w5 hs5
             simp only [List.set_cons_zero, List.set_cons_succ] at hs5
             obtain ⟨A5, c5, rfl⟩ := own_len (hs5.row 1 rfl)
             have HS5 := Lib.hid hs5
             have q0 : w5.cell? ⟨b, 0, none⟩ = some (.slice AD j cD) := (hs5.blk 0 rfl).cellv rfl
             have q2 : w5.frozen? ⟨b, 0, none⟩ = false := (hs5.blk 0 rfl).frozen 0
             clear hs5))
        have hs6 := HS5.out.setBlk 0 rfl 0 (.slice A5 (fs.length + 1) c5)
        simp only [List.set_cons_zero, List.set_cons_succ] at hs6
        generalize w5.setCell ⟨b, 0, none⟩ (.slice A5 (fs.length + 1) c5) = W6 at hs6 ⊢
        rw [show (#[Value.slice AD j cD, .slice A3 (fs.length + 1) c3, .int .i64 cap].setIfInBounds 0 (.slice A5 (fs.length + 1) c5)) = #[.slice A5 (fs.length + 1) c5, .slice A3 (fs.length + 1) c3, .int .i64 cap] from rfl] at hs6
        have hs7 := rp_grown hs6
        clear q0 q2 HS5 HS4 hs6 k0 k0a
        have hx7 : (fs ++ [(⟨[], 0⟩ : Fr)])[j]? = some ⟨[], 0⟩ := by rw [EN.out]; simp
        have hl7 : (fs ++ [(⟨[], 0⟩ : Fr)]).length = fs.length + 1 := by simp
        rw [← hl7] at hs7
        obtain ⟨gu, cu, e1, hcu, hfu, -⟩ := rp_user hs7 hx7
        simp only [Value.slice.injEq] at e1
        obtain ⟨rfl, -, rfl⟩ := e1
        obtain ⟨gd, cd, e2, -, -⟩ := rp_dat hs7 (k := j) (by rw [hl7, ← EN.out]; omega)
        simp only [Value.slice.injEq] at e2
        obtain ⟨rfl, -, rfl⟩ := e2
        have k1 := (rp_cells hs7).2.1
        rw [hl7, ← EN.out] at k1
        have hj1 : (j : Int) < ((j + 1 : Nat) : Int) := by omega
        have HS7 := Lib.hid hs7
        have HX7 := Lib.hid hx7
        have HL7 := Lib.hid hl7
        clear hs7 hx7 hl7
        go_upto_region 10 with fail
        have hs2 := rp_user_set HS7.out HX7.out 1
        generalize W6.setCell ⟨gu, j, none⟩ (.int .i64 1) = W2 at hs2 ⊢
        obtain ⟨fs1, ef1⟩ : ∃ fs1, fs1 = (fs ++ [(⟨[], 0⟩ : Fr)]).set j ⟨[], 1⟩ := ⟨_, rfl⟩
        have hl1 : fs1.length = fs.length + 1 := by rw [ef1, List.length_set]; exact HL7.out
        have hx2 : fs1[j]? = some ⟨[], 1⟩ := by rw [ef1]; exact List.getElem?_set_self (by rw [HL7.out, ← EN.out]; omega)
        rw [← ef1] at hs2
        have hs3 : Star w0 W2 (rp b (.slice (some ⟨gd, 0, none⟩) fs1.length c5) (.slice (some ⟨gu, 0, none⟩) (fs ++ [(⟨[], 0⟩ : Fr)]).length c3) (vs ++ [.slice none 0 0]) fs1 cap S) := by rw [hl1, ← HL7.out]; exact hs2
        have hs4 := rp_new hs3 hx2
        rw [show fs1.set j ⟨List.replicate 64 0, 1⟩ = fs ++ [newFr] by rw [ef1, List.set_set, EN.out]; simp [newFr]] at hs4
        have HS4 := Lib.hid hs4
        have hs5 := hs3.alloc (.cells zB 5)
        have d0 := (rp_cells hs3).1
        have d1 := (rp_cells hs5).1
        obtain ⟨g', c', e, ⟨ud, hud⟩, hdf⟩ := rp_dat hs5 (k := j) (by rw [hl1, ← EN.out]; omega)
        obtain ⟨g2, c2, e2, ⟨ue, hue⟩, hef⟩ := rp_dat hs3 (k := j) (by rw [hl1, ← EN.out]; omega)
        simp only [Value.slice.injEq, Option.some.injEq, Addr.mk.injEq] at e e2
        obtain ⟨⟨rfl, -, -⟩, -, rfl⟩ := e
        obtain ⟨⟨rfl, -, -⟩, -, rfl⟩ := e2
        rw [hl1, ← EN.out] at d0 d1
        clear hs2 hs3 hs4 hs5 hx2 hl1 ef1 k1 hcu hfu HS7
        go_region
        all_goals
          go_wp2
          go_ret2
          exact ⟨by rw [← EN.out]; rfl, _, _, _, HS4.out⟩
theorem ralloc (h : Star w0 w (rp b vD vU vs fs cap S)) (hu : ∀ f ∈ fs, 0 ≤ f.u) (hl : (fs.length : Int) ≤ cap) (hc : cap ≤ 65536) : Calls Try.prog 21 #[.pointer (some ⟨b, 0, none⟩)] w fun e w' => e = .returned (.tuple #[.int .i64 (allocS fs cap).1, .int .i64 (allocS fs cap).2.1]) ∧ ∃ vD' vU' vs', Star w0 w' (rp b vD' vU' vs' (allocS fs cap).2.2 cap S) := by
  have h1 := usedN_le fs
  unfold allocS
  by_cases he : (usedN fs : Int) = cap
  · rw [if_pos he]
    refine (ralloc_no h hu (by omega) he).mono ?_
    rintro e w1 ⟨rfl, hs⟩
    exact ⟨rfl, _, _, _, hs⟩
  · rw [if_neg he]
    unfold allocL allocN
    cases hf : freeN fs with
    | some k =>
      refine (ralloc_some h hu (by omega) (by omega) hf).mono ?_
      rintro e w1 ⟨rfl, _, hs⟩
      exact ⟨rfl, _, _, _, hs⟩
    | none =>
      have := usedN_all hf
      exact ralloc_none h hu (by omega) (by omega) hf
end
end Go.Proofs.Ytllofdfldoaedaa.Pg
