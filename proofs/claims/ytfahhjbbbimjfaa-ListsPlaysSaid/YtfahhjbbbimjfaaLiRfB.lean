/- The reference of the lists: push. -/
import Derived.Test.YtfahhjbbbimjfaaLiRfA
namespace Go.Proofs.Ytfahhjbbbimjfaa.Li
open Go Go.RowKit Go.Proofs.Ytfahhjbbbimjfaa.Mem
set_option linter.unusedVariables false
set_option linter.unusedSimpArgs false
section
variable {w0 w : World} {b m : Nat} {vQ : Value} {vs : List Value} {L : List (List Nat)} {S : List Asr}
theorem rf_put {v : Value} {n q g c : Nat} {l' : List Nat} (h : Star w0 w (RowA 3 1 v n (intsN l') :: rf b (.slice (some ⟨g, 0, none⟩) L.length c) vs L m S)) (hn : n = l'.length) : Star w0 (w.setCell ⟨g, q, none⟩ v) (rf b (.slice (some ⟨g, 0, none⟩) L.length c) (vs.set q v) (L.set q l') m S) := by
  have h1 := h.setRow 2 rfl q v
  simp only [List.set_cons_zero, List.set_cons_succ] at h1
  have h2 := h1.putRow (by rw [hn]; simp [intsN]) 2 rfl q
  simp only [List.set_cons_zero, List.set_cons_succ] at h2
  unfold rf
  rw [List.length_set, List.map_set]
  exact h2
theorem rf_reads (h : Star w0 w (rf b vQ vs L m S)) {q n c : Nat} {A : Option Addr} {l : List Nat} (hl : L[q]? = some l) (hv : vs[q]? = some (.slice A n c)) (hn : n = l.length) : Reads w w.heap.size 1 A n (intsN l) := by
  have h1 := (h.rows 2 rfl).2 q _ (intsN l) hv (by rw [List.getElem?_map, hl]; rfl)
  rw [show (intsN l).length = n by rw [hn]; simp [intsN]] at h1
  exact Reads.of_own h1
theorem reads_blk {w : World} {g : Nat} {t : TypeId} {u : Value} (h : Blk w g t #[u]) : Reads w w.heap.size 1 (some ⟨g, 0, none⟩) 1 [u] :=
  ⟨rfl, fun _ => ⟨_, rfl, h.lt, fun j v hv => by
    cases j with
    | zero =>
      simp only [List.getElem?_cons_zero, Option.some.injEq] at hv
      subst hv
      have e1 : ((⟨g, 0, none⟩ : Addr).add 0) = ⟨g, 0, none⟩ := by unfold Addr.add; simp
      rw [e1]
      exact h.cellv rfl
    | succ j => simp at hv⟩⟩
theorem rf_get (h : Star w0 w (rf b vQ vs L m S)) (hw : WfL L m) (hm : m ≤ 65536) {q : Nat} {l : List Nat} (hl : L[q]? = some l) : ∃ A n c g cg, n = l.length ∧ n ≤ 65536 ∧ vs[q]? = some (.slice A n c) ∧ vQ = .slice (some ⟨g, 0, none⟩) L.length cg := by
  obtain ⟨A, c, hv, ho⟩ := rf_at h hl
  obtain ⟨g, cg, hQ, -⟩ := rf_row h hv (List.getElem?_eq_some_iff.1 hl).1
  exact ⟨A, _, c, g, cg, rfl, Nat.le_trans (nodup_le m l (hw.nd q l hl) (fun x hx => hw.lt q l x hl hx)) hm, hv, hQ⟩
set_option maxRecDepth 8000 in
set_option maxHeartbeats 4000000 in
theorem rpush (h : Star w0 w (rf b vQ vs L m S)) (hw : WfL L m) (hn : L.length ≤ 65536) (hm : m ≤ 65536) (q i : Int) : Calls Try.prog 17 #[.pointer (some ⟨b, 0, none⟩), .int .i64 q, .int .i64 i] w fun e w' => e = .returned (.int .i64 (pushS L m q i).1) ∧ ∃ vs', Star w0 w' (rf b vQ vs' (pushS L m q i).2 m S) := by
  have HC := Lib.hid (rcheck h hw hn hm q i)
  unfold pushS
  by_cases hc : chkS L m q i = 0
  · rw [if_pos hc]
    rw [hc] at HC
    obtain ⟨h1, h2, h3⟩ := chk_zero hc
    obtain ⟨k, l, rfl, hk, hg⟩ := okQ_at h1
    obtain ⟨i, rfl⟩ : ∃ n : Nat, i = n := ⟨i.toNat, by have := h2.1; omega⟩
    rw [hg, Int.toNat_natCast, Int.toNat_natCast]
    obtain ⟨A, n, c, g, cg, en, hn2, hv, rfl⟩ := rf_get h hw hm hk
    have hkL := (List.getElem?_eq_some_iff.1 hk).1
    have F0 := Lib.hid (fun (W : World) (hs : Star w0 W (rf b (.slice (some ⟨g, 0, none⟩) L.length cg) vs L m S)) => (rf_cells hs).1)
    have F1 := Lib.hid (fun (W : World) (hs : Star w0 W (rf b (.slice (some ⟨g, 0, none⟩) L.length cg) vs L m S)) => show W.cell? ⟨g, k, none⟩ = some (.slice A n c) from by
      obtain ⟨g', c', e, hcl, -, -⟩ := rf_row hs hv hkL
      simp only [Value.slice.injEq, Option.some.injEq, Addr.mk.injEq] at e
      obtain ⟨⟨rfl, -, -⟩, -, rfl⟩ := e
      exact hcl)
    have F2 := Lib.hid (fun (W : World) (hs : Star w0 W (rf b (.slice (some ⟨g, 0, none⟩) L.length cg) vs L m S)) => show W.frozen? ⟨g, k, none⟩ = false from by
      obtain ⟨g', c', e, -, hf, -⟩ := rf_row hs hv hkL
      simp only [Value.slice.injEq, Option.some.injEq, Addr.mk.injEq] at e
      obtain ⟨⟨rfl, -, -⟩, -, rfl⟩ := e
      exact hf)
    have HRd := Lib.hid (fun (W : World) (hs : Star w0 W (rf b (.slice (some ⟨g, 0, none⟩) L.length cg) vs L m S)) => rf_reads hs hk hv en)
    have HS := Lib.hid h
    have EN := Lib.hid en
    have k0 := F0.out _ h
    have k1 := F1.out _ h
    have k0a := F0.out _ (h.alloc (.cells #[.int .i64 (i : Int)] 3))
    have k1a := F1.out _ (h.alloc (.cells #[.int .i64 (i : Int)] 3))
    have hk0 : (0 : Int) ≤ k := by omega
    have hk1 : (k : Int) < L.length := by omega
    have h1n : ∀ u ∈ intsN l, u.oneCell' = true := intsN_one l
    obtain ⟨i0, hi0, hz0, hz1, hz2⟩ := info_parts it_info
    obtain ⟨N, eN⟩ : ∃ N, N = L.length := ⟨_, rfl⟩
    have HEN := Lib.hid eN
    rw [← eN] at hk1 k0 k0a hn
    clear h hw hc h1 h2 h3 hg hk hv en hkL eN
    go_enter Try.func17, Try.ntmps17
    go_wp2_with (first | (go_at_call 32; (with_reducible refine HC.out.mono ?_); rintro e w1 ⟨rfl, rfl⟩))
    go_region_law? (first
      | (refine step_append_st (by rfl) (.tmp 20) (.tmp 27) 28 (by rfl) ((star_drew HS.out).nilRow 3 1) 0 rfl i0 _ 8 Try.underlying28 hi0 hz0 hz1 hz2 rfl (by omega) (by rfl) _ A n c (intsN l) (by rfl) (HRd.out _ (star_drew HS.out)) h1n (by simp only [maxLen]; omega) (by omega) ?_
         intro v7 w7 hs7
         have HS7 := Lib.hid hs7
         have k07 := F0.out _ hs7.tail
         have k17 := F1.out _ hs7.tail
         rw [← HEN.out] at k07
         have k07a := F0.out _ (hs7.tail.alloc (.cells #[.int .i64 (i : Int)] 3))
         have k17a := F1.out _ (hs7.tail.alloc (.cells #[.int .i64 (i : Int)] 3))
         rw [← HEN.out] at k07a
         clear hs7)
      | (refine step_append_st (by rfl) (.tmp 28) (.tmp 30) 28 (by rfl) (HS7.out.alloc _) 0 rfl i0 _ 8 Try.underlying28 hi0 hz0 hz1 hz2 rfl (by omega) (by rfl) (w7.heap.size + 1) (some ⟨w7.heap.size, 0, none⟩) 1 1 [.int .i64 (i : Int)] (by rfl) (reads_fresh w7 3 [.int .i64 (i : Int)] 1 1 rfl) (by simp [Value.oneCell']) (by simp only [maxLen]; omega) (by omega) ?_
         intro v8 w8 hs8
         obtain ⟨A8, c8, rfl⟩ := own_len (hs8.row 0 rfl)
         have HS8 := Lib.hid hs8
         have k08 := F0.out _ hs8.tail
         have k18 := F1.out _ hs8.tail
         have kf8 := F2.out _ hs8.tail
         rw [← HEN.out] at k08
         clear hs8)
      | (refine step_append_st (by rfl) (.tmp 20) (.tmp 27) 28 (by rfl) (((star_drew HS.out).newBlk 3 #[.int .i64 (i : Int)]).nilRow 3 1) 0 rfl i0 _ 8 Try.underlying28 hi0 hz0 hz1 hz2 rfl (by omega) (by rfl) _ A n c (intsN l) (by rfl) (HRd.out _ ((star_drew HS.out).alloc _)) h1n (by simp only [maxLen]; omega) (by omega) ?_
         intro v7 w7 hs7
         have HS7 := Lib.hid hs7
         have k07 := F0.out _ hs7.tail.tail
         have k17 := F1.out _ hs7.tail.tail
         rw [← HEN.out] at k07
         clear hs7)
      | (refine step_append_st (by rfl) (.tmp 28) (.tmp 30) 28 (by rfl) HS7.out 0 rfl i0 _ 8 Try.underlying28 hi0 hz0 hz1 hz2 rfl (by omega) (by rfl) _ (some ⟨w.drew.heap.size, 0, none⟩) 1 1 [.int .i64 (i : Int)] (by rfl) (reads_blk (HS7.out.blk 1 rfl)) (by simp [Value.oneCell']) (by simp only [maxLen]; omega) (by omega) ?_
         intro v8 w8 hs8
         obtain ⟨A8, c8, rfl⟩ := own_len (hs8.row 0 rfl)
         have HS8 := Lib.hid hs8.perm2.tail
         have k08 := F0.out _ hs8.tail.tail
         have k18 := F1.out _ hs8.tail.tail
         have kf8 := F2.out _ hs8.tail.tail
         rw [← HEN.out] at k08
         clear hs8))
    all_goals
      have hs9 := HS8.out
      simp only [List.nil_append, List.set_cons_zero, Nat.zero_add] at hs9
      rw [← intsN_snoc] at hs9
      have HS9 := Lib.hid (rf_put (q := k) hs9 (by rw [List.length_append, ← EN.out]; simp))
      clear hs9
      go_wp2
      go_ret
      exact ⟨rfl, _, HS9.out⟩
  · rw [if_neg hc]
    have hz : (chkS L m q i == 0) = false := beq_eq_false_iff_ne.mpr hc
    have HS := Lib.hid h
    generalize chkS L m q i = s at *
    clear h hw hc
    go_enter Try.func17, Try.ntmps17
    go_wp2_with (first | (go_at_call 32; (with_reducible refine HC.out.mono ?_); rintro e w1 ⟨rfl, rfl⟩))
    go_ret
    exact ⟨rfl, _, HS.out⟩
end
end Go.Proofs.Ytfahhjbbbimjfaa.Li
