/- The reference of the lists: splice. -/
import Derived.Test.YtfahhjbbbimjfaaLiRfC
namespace Go.Proofs.Ytfahhjbbbimjfaa.Li
open Go Go.RowKit Go.Proofs.Ytfahhjbbbimjfaa.Mem
set_option linter.unusedVariables false
set_option linter.unusedSimpArgs false
section
variable {w0 w : World} {b m : Nat} {vQ : Value} {vs : List Value} {L : List (List Nat)} {S : List Asr}
set_option maxRecDepth 8000 in
set_option maxHeartbeats 8000000 in
theorem rsplice (h : Star w0 w (rf b vQ vs L m S)) (hw : WfL L m) (hn : L.length ≤ 65536) (hm : m ≤ 65536) (t f : Int) : Calls Try.prog 23 #[.pointer (some ⟨b, 0, none⟩), .int .i64 t, .int .i64 f] w fun e w' => e = .returned (.int .i64 (spliceS L t f).1) ∧ ∃ vs', Star w0 w' (rf b vQ vs' (spliceS L t f).2 m S) := by
  have HS := Lib.hid h
  have k0 := (rf_cells h).1
  by_cases hb : t < 0 ∨ (0 ≤ t ∧ (L.length : Int) ≤ t) ∨ (0 ≤ t ∧ t < L.length ∧ f < 0) ∨ (0 ≤ t ∧ t < L.length ∧ 0 ≤ f ∧ (L.length : Int) ≤ f) ∨ (0 ≤ t ∧ t < L.length ∧ 0 ≤ f ∧ f < L.length ∧ t = f)
  · have hc : spliceS L t f = (-14, L) := by
      unfold spliceS
      rw [if_neg (by unfold okQ; omega)]
    rw [hc]
    obtain ⟨AQ, cQ, rfl⟩ := rf_size h
    clear h hw hc
    obtain ⟨N, eN⟩ : ∃ N, N = L.length := ⟨_, rfl⟩
    rw [← eN] at hb k0 hn
    clear eN
    rcases hb with h1 | ⟨h1, h2⟩ | ⟨h1, h2, h3⟩ | ⟨h1, h2, h3, h4⟩ | ⟨h1, h2, h3, h4, rfl⟩
    all_goals
      go_enter Try.func23, Try.ntmps23
      go_wp2
      go_ret
      exact ⟨rfl, _, HS.out⟩
  · obtain ⟨t, rfl⟩ : ∃ n : Nat, t = n := ⟨t.toNat, by omega⟩
    obtain ⟨f, rfl⟩ : ∃ n : Nat, f = n := ⟨f.toNat, by omega⟩
    have hne : t ≠ f := by omega
    obtain ⟨C, hC⟩ : ∃ x, L[t]? = some x := ⟨_, List.getElem?_eq_getElem (by omega)⟩
    obtain ⟨D, hD⟩ : ∃ x, L[f]? = some x := ⟨_, List.getElem?_eq_getElem (by omega)⟩
    have hsp : spliceS L (t : Int) (f : Int) = (0, (L.set t (C ++ D)).set f []) := by
      unfold spliceS
      rw [if_pos ⟨⟨by omega, by omega⟩, ⟨by omega, by omega⟩, by omega⟩, getQ_at hC, getQ_at hD, Int.toNat_natCast, Int.toNat_natCast]
    rw [hsp]
    obtain ⟨A, n, c, g, cg, en, hn2, hv, rfl⟩ := rf_get h hw hm hC
    obtain ⟨A', n', c', g', cg', en', hn2', hv', eQ⟩ := rf_get h hw hm hD
    simp only [Value.slice.injEq, Option.some.injEq, Addr.mk.injEq] at eQ
    obtain ⟨⟨rfl, -, -⟩, -, rfl⟩ := eQ
    have hkL := (List.getElem?_eq_some_iff.1 hC).1
    have hkL' := (List.getElem?_eq_some_iff.1 hD).1
    have F0 := Lib.hid (fun (W : World) (hs : Star w0 W (rf b (.slice (some ⟨g, 0, none⟩) L.length cg) vs L m S)) => (rf_cells hs).1)
    have F1 := Lib.hid (fun (W : World) (hs : Star w0 W (rf b (.slice (some ⟨g, 0, none⟩) L.length cg) vs L m S)) => rf_facts hv hkL W hs)
    have F2 := Lib.hid (fun (W : World) (hs : Star w0 W (rf b (.slice (some ⟨g, 0, none⟩) L.length cg) vs L m S)) => rf_facts hv' hkL' W hs)
    have HRd := Lib.hid (fun (W : World) (hs : Star w0 W (rf b (.slice (some ⟨g, 0, none⟩) L.length cg) vs L m S)) => rf_reads hs hC hv en)
    have HRd' := Lib.hid (fun (W : World) (hs : Star w0 W (rf b (.slice (some ⟨g, 0, none⟩) L.length cg) vs L m S)) => rf_reads hs hD hv' en')
    have F3 := Lib.hid (fun (W : World) (v : Value) (hs : Star w0 W (rf b (.slice (some ⟨g, 0, none⟩) L.length cg) (vs.set t v) (L.set t (C ++ D)) m S)) => show W.cell? ⟨b, 0, none⟩ = some (.slice (some ⟨g, 0, none⟩) L.length cg) ∧ W.cell? ⟨g, f, none⟩ = some (.slice A' n' c') ∧ W.frozen? ⟨g, f, none⟩ = false ∧ Star w0 (W.setCell ⟨g, f, none⟩ (.slice none 0 0)) (rf b (.slice (some ⟨g, 0, none⟩) L.length cg) ((vs.set t v).set f (.slice none 0 0)) ((L.set t (C ++ D)).set f []) m S) from by
      have el : (L.set t (C ++ D)).length = L.length := List.length_set
      rw [← el] at hs
      have h3 := rf_facts (k := f) (n := n') (c := c') (A := A') (by rw [List.getElem?_set_ne hne]; exact hv') (by rw [el]; exact hkL') W hs
      have h4 := rf_put (q := f) (l' := []) (hs.nilRow 3 1) rfl
      rw [el] at h4 hs
      exact ⟨(rf_cells hs).1, h3.1, h3.2, h4⟩)
    have EN := Lib.hid en
    have EN' := Lib.hid en'
    have k1 := (F1.out _ h).1
    have k2 := (F2.out _ h).1
    have ht0 : (0 : Int) ≤ t := by omega
    have hf0 : (0 : Int) ≤ f := by omega
    have htn : ((t : Int) == (f : Int)) = false := beq_eq_false_iff_ne.mpr (by omega)
    have ht1 : (t : Int) < L.length := by omega
    have hf1 : (f : Int) < L.length := by omega
    have h1n : ∀ u ∈ intsN C, u.oneCell' = true := intsN_one C
    have h1n' : ∀ u ∈ intsN D, u.oneCell' = true := intsN_one D
    obtain ⟨i0, hi0, hz0, hz1, hz2⟩ := info_parts it_info
    obtain ⟨N, eN⟩ : ∃ N, N = L.length := ⟨_, rfl⟩
    have HEN := Lib.hid eN
    rw [← eN] at ht1 hf1 k0 hn
    clear h hw hb hC hD hsp hv hv' en en' hkL hkL' eN hne
    go_enter Try.func23, Try.ntmps23
    go_upto_region 4 with fail
    go_region_law (first
      | (refine step_append_st (by rfl) (.tmp 42) (.tmp 49) 28 (by rfl) ((star_drew HS.out).nilRow 3 1) 0 rfl i0 _ 8 Try.underlying28 hi0 hz0 hz1 hz2 rfl (by omega) (by rfl) _ A n c (intsN C) (by rfl) (HRd.out _ (star_drew HS.out)) h1n (by simp only [maxLen]; omega) (by omega) ?_
         intro v7 w7 hs7
         have HS7 := Lib.hid hs7
         have k07 := F0.out _ hs7.tail
         have k17 := (F1.out _ hs7.tail).1
         have k27 := (F2.out _ hs7.tail).1
         rw [← HEN.out] at k07
         clear hs7)
      | (refine step_append_st (by rfl) (.tmp 50) (.tmp 57) 28 (by rfl) HS7.out 0 rfl i0 _ 8 Try.underlying28 hi0 hz0 hz1 hz2 rfl (by omega) (by rfl) _ A' n' c' (intsN D) (by rfl) (HRd'.out _ HS7.out.tail) h1n' (by simp only [maxLen]; omega) (by omega) ?_
         intro v8 w8 hs8
         obtain ⟨A8, c8, rfl⟩ := own_len (hs8.row 0 rfl)
         have HS8 := Lib.hid hs8
         have k08 := F0.out _ hs8.tail
         have k18 := (F1.out _ hs8.tail).1
         have kf8 := (F1.out _ hs8.tail).2
         rw [← HEN.out] at k08
         clear hs8))
    all_goals
      have hs9 := HS8.out
      simp only [List.nil_append, List.set_cons_zero, Nat.zero_add] at hs9
      rw [show intsN C ++ intsN D = intsN (C ++ D) by simp [intsN]] at hs9
      have hp9 := rf_put (q := t) hs9 (by rw [List.length_append, ← EN.out, ← EN'.out])
      obtain ⟨j0, j1, j2, j3⟩ := F3.out _ _ hp9
      rw [← HEN.out] at j0
      have HS9 := Lib.hid j3
      clear hs9 j3 hp9 k08 k18 kf8
      generalize w8.setCell _ _ = W9 at *
      go_wp2
      go_ret
      exact ⟨rfl, _, HS9.out⟩
end
end Go.Proofs.Ytfahhjbbbimjfaa.Li
