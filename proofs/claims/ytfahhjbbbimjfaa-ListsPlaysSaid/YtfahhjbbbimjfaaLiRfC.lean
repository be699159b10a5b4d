/- The reference of the lists: front, splice. -/
import Derived.Test.YtfahhjbbbimjfaaLiRfB
namespace Go.Proofs.Ytfahhjbbbimjfaa.Li
open Go Go.RowKit Go.Proofs.Ytfahhjbbbimjfaa.Mem
set_option linter.unusedVariables false
set_option linter.unusedSimpArgs false
section
variable {w0 w : World} {b m : Nat} {vQ : Value} {vs : List Value} {L : List (List Nat)} {S : List Asr}
theorem rf_facts {g cg k n c : Nat} {A : Option Addr} (hv : vs[k]? = some (.slice A n c)) (hkL : k < L.length) (W : World) (hs : Star w0 W (rf b (.slice (some ⟨g, 0, none⟩) L.length cg) vs L m S)) : W.cell? ⟨g, k, none⟩ = some (.slice A n c) ∧ W.frozen? ⟨g, k, none⟩ = false := by
  obtain ⟨g', c', e, hcl, hf, -⟩ := rf_row hs hv hkL
  simp only [Value.slice.injEq, Option.some.injEq, Addr.mk.injEq] at e
  obtain ⟨⟨rfl, -, -⟩, -, rfl⟩ := e
  exact ⟨hcl, hf⟩
set_option maxRecDepth 8000 in
set_option maxHeartbeats 4000000 in
theorem rfront (h : Star w0 w (rf b vQ vs L m S)) (hw : WfL L m) (hn : L.length ≤ 65536) (hm : m ≤ 65536) (q i : Int) : Calls Try.prog 18 #[.pointer (some ⟨b, 0, none⟩), .int .i64 q, .int .i64 i] w fun e w' => e = .returned (.int .i64 (frontS L m q i).1) ∧ ∃ vs', Star w0 w' (rf b vQ vs' (frontS L m q i).2 m S) := by
  have HC := Lib.hid (rcheck h hw hn hm q i)
  unfold frontS
  by_cases hc : chkS L m q i = 0
  · rw [if_pos hc]
    rw [hc] at HC
    obtain ⟨h1, h2, h3⟩ := chk_zero hc
    obtain ⟨k, l, rfl, hk, hg⟩ := okQ_at h1
    obtain ⟨i, rfl⟩ : ∃ n : Nat, i = n := ⟨i.toNat, by have := h2.1; omega⟩
    rw [hg, Int.toNat_natCast, Int.toNat_natCast]
    obtain ⟨A, n, c, g, cg, en, hn2, hv, rfl⟩ := rf_get h hw hm hk
    have hkL := (List.getElem?_eq_some_iff.1 hk).1
    have F0 := Lib.hid (fun (W : World) (hs : Star w0 W (rf b (.slice (some ⟨g, 0, none⟩) L.length cg) vs L m S)) => (rf_cells hs).1)
    have F1 := Lib.hid (fun (W : World) (hs : Star w0 W (rf b (.slice (some ⟨g, 0, none⟩) L.length cg) vs L m S)) => rf_facts hv hkL W hs)
    have HRd := Lib.hid (fun (W : World) (hs : Star w0 W (rf b (.slice (some ⟨g, 0, none⟩) L.length cg) vs L m S)) => rf_reads hs hk hv en)
    have hs1 := h.litRow 3 1 #[.int .i64 (i : Int)] 1 (by simp [maxLen]) rfl
    have EN := Lib.hid en
    have k0 := F0.out _ h
    have k1 := (F1.out _ h).1
    have HS := Lib.hid h
    have hk0 : (0 : Int) ≤ k := by omega
    have hk1 : (k : Int) < L.length := by omega
    have h1n : ∀ u ∈ intsN l, u.oneCell' = true := intsN_one l
    obtain ⟨i0, hi0, hz0, hz1, hz2⟩ := info_parts it_info
    obtain ⟨N, eN⟩ : ∃ N, N = L.length := ⟨_, rfl⟩
    have HEN := Lib.hid eN
    rw [← eN] at hk1 k0 hn
    have HS1 := Lib.hid hs1
    clear h hw hc h1 h2 h3 hg hk hv en hkL eN
    go_enter Try.func18, Try.ntmps18
    go_upto_region 4 with (first | (go_at_call 32; (with_reducible refine HC.out.mono ?_); rintro e w1 ⟨rfl, rfl⟩))
    have k0a := F0.out _ HS1.out.tail
    have k1a := (F1.out _ HS1.out.tail).1
    rw [← HEN.out] at k0a
    clear hs1 k0 k1
    go_region_law (first
      | (refine step_append_st (by rfl) (.tmp 22) (.tmp 29) 28 (by rfl) (star_drew HS1.out) 0 rfl i0 _ 8 Try.underlying28 hi0 hz0 hz1 hz2 rfl (by omega) (by rfl) _ A n c (intsN l) (by rfl) (HRd.out _ (star_drew HS1.out.tail)) h1n (by simp only [maxLen]; omega) (by omega) ?_
         intro v8 w8 hs8
         obtain ⟨A8, c8, rfl⟩ := own_len (hs8.row 0 rfl)
         have HS8 := Lib.hid hs8
         have k08 := F0.out _ hs8.tail
         have k18 := (F1.out _ hs8.tail).1
         have kf8 := (F1.out _ hs8.tail).2
         rw [← HEN.out] at k08
         clear hs8))
    all_goals
      have hs9 := HS8.out
      rw [show (#[.int .i64 (i : Int)] : Array Value).toList ++ intsN l = intsN (i :: l) from rfl] at hs9
      simp only [List.set_cons_zero] at hs9
      have HS9 := Lib.hid (rf_put (q := k) hs9 (by rw [List.length_cons, ← EN.out]; omega))
      clear hs9
      go_wp2
      go_ret
      exact ⟨rfl, _, HS9.out⟩
  · rw [if_neg hc]
    have hz : (chkS L m q i == 0) = false := beq_eq_false_iff_ne.mpr hc
    have HS := Lib.hid h
    generalize chkS L m q i = s at *
    clear h hw hc
    go_enter Try.func18, Try.ntmps18
    go_wp2_with (first | (go_at_call 32; (with_reducible refine HC.out.mono ?_); rintro e w1 ⟨rfl, rfl⟩))
    go_ret
    exact ⟨rfl, _, HS.out⟩
end
end Go.Proofs.Ytfahhjbbbimjfaa.Li
