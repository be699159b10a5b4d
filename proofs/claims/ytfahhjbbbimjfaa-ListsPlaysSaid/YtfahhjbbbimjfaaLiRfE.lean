/- The reference of the lists: remove, pop. -/
import Derived.Test.YtfahhjbbbimjfaaLiRfB
namespace Go.Proofs.Ytfahhjbbbimjfaa.Li
open Go Go.RowKit Go.Proofs.Ytfahhjbbbimjfaa.Mem
set_option linter.unusedVariables false
set_option linter.unusedSimpArgs false
section
variable {w0 w : World} {b m : Nat} {vQ : Value} {vs : List Value} {L : List (List Nat)} {S : List Asr}
theorem rf_facts2 {g cg k n c : Nat} {A : Option Addr} (hv : vs[k]? = some (.slice A n c)) (hkL : k < L.length) (W : World) (hs : Star w0 W (rf b (.slice (some ⟨g, 0, none⟩) L.length cg) vs L m S)) : W.cell? ⟨g, k, none⟩ = some (.slice A n c) ∧ W.frozen? ⟨g, k, none⟩ = false := by
  obtain ⟨g', c', e, hcl, hf, -⟩ := rf_row hs hv hkL
  simp only [Value.slice.injEq, Option.some.injEq, Addr.mk.injEq] at e
  obtain ⟨⟨rfl, -, -⟩, -, rfl⟩ := e
  exact ⟨hcl, hf⟩
theorem drop_filter (h : WfL L m) {q i : Nat} {l : List Nat} (hl : L[q]? = some l) (hi : i ∈ l) : dropL L i = L.set q (l.filter (· != i)) := by
  refine List.ext_getElem? fun j => ?_
  unfold dropL
  rw [List.getElem?_map]
  by_cases e : q = j
  · subst e
    rw [List.getElem?_set_self (List.getElem?_eq_some_iff.1 hl).1, hl]
    rfl
  · rw [List.getElem?_set_ne e]
    cases hj : L[j]? with
    | none => rfl
    | some l' => simp only [Option.map_some]; rw [filter_ne (fun hm => e (h.one q j _ l' i hl hj hi hm))]
set_option maxRecDepth 8000 in
set_option maxHeartbeats 4000000 in
theorem rremove (h : Star w0 w (rf b vQ vs L m S)) (hw : WfL L m) (hn : L.length ≤ 65536) (hm : m ≤ 65536) (i : Int) : Calls Try.prog 21 #[.pointer (some ⟨b, 0, none⟩), .int .i64 i] w fun e w' => e = .returned (.int .i64 (removeS L m i).1) ∧ ∃ vs', Star w0 w' (rf b vQ vs' (removeS L m i).2 m S) := by
  obtain ⟨-, km⟩ := rf_cells h
  have HS := Lib.hid h
  unfold removeS
  by_cases h1 : okI m i
  · rw [if_pos h1]
    obtain ⟨i, rfl⟩ : ∃ n : Nat, i = n := ⟨i.toNat, by have := h1.1; omega⟩
    have hi0 : (0 : Int) ≤ i := by omega
    have him : (i : Int) < m := h1.2
    rw [Int.toNat_natCast]
    have HWh := Lib.hid (rwhere h hw hn hm i)
    by_cases he : whr L i = -1
    · rw [if_pos he]
      rw [he] at HWh
      clear h hw h1 he
      go_enter Try.func21, Try.ntmps21
      go_wp2_with (first | (go_at_call 24; (with_reducible refine HWh.out.mono ?_); rintro e w1 ⟨rfl, rfl⟩))
      go_ret
      exact ⟨rfl, _, HS.out⟩
    · rw [if_neg he]
      obtain ⟨q, l, hq, hk, hil⟩ := whr_some he
      rw [hq] at HWh
      obtain ⟨A, n, c, g, cg, en, hn2, hv, rfl⟩ := rf_get h hw hm hk
      have hkL := (List.getElem?_eq_some_iff.1 hk).1
      have hd := drop_filter hw hk hil
      rw [hd]
      have F0 := Lib.hid (fun (W : World) (hs : Star w0 W (rf b (.slice (some ⟨g, 0, none⟩) L.length cg) vs L m S)) => (rf_cells hs).1)
      have F1 := Lib.hid (fun (W : World) (hs : Star w0 W (rf b (.slice (some ⟨g, 0, none⟩) L.length cg) vs L m S)) => rf_facts2 hv hkL W hs)
      have HRd := Lib.hid (fun (W : World) (hs : Star w0 W (rf b (.slice (some ⟨g, 0, none⟩) L.length cg) vs L m S)) => rf_reads hs hk hv en)
      have EN := Lib.hid en
      have hk0 : (0 : Int) ≤ q := by omega
      have hk1 : (q : Int) < L.length := by omega
      obtain ⟨i0, hi0', hz0, hz1, hz2⟩ := info_parts it_info
      obtain ⟨N, eN⟩ : ∃ N, N = L.length := ⟨_, rfl⟩
      have HEN := Lib.hid eN
      rw [← eN] at hk1 hn
      clear h hw he h1 hd hil hq hk hv en hkL eN
      go_enter Try.func21, Try.ntmps21
      go_wp2_with (first | (go_at_call 24; (with_reducible refine HWh.out.mono ?_); rintro e w1 ⟨rfl, rfl⟩))
      go_loopw [6, 7] (fun v a wr => ∃ j : Nat, j ≤ n ∧ a = .int .i64 j ∧ Hid (Star w0 wr (RowA 3 1 v ((l.take j).filter (· != i)).length (intsN ((l.take j).filter (· != i))) :: rf b (.slice (some ⟨g, 0, none⟩) L.length cg) vs L m S))) (fun _ a _ => n - (intOf a).toNat)
      case atStart => exact ⟨0, by omega, rfl, Lib.hid (HS.out.nilRow 3 1)⟩
      case round =>
        clear HS km
        obtain ⟨j, hj, rfl, HS⟩ := hrel
        have k0 := F0.out _ HS.out.tail
        obtain ⟨k1, kf⟩ := F1.out _ HS.out.tail
        rw [← HEN.out] at k0
        by_cases hlt : j < n
        · obtain ⟨y, hy⟩ : ∃ y, l[j]? = some y := ⟨_, List.getElem?_eq_getElem (by rw [← EN.out]; exact hlt)⟩
          obtain ⟨ad, u, rfl, had, hx, hcl⟩ := (HRd.out _ HS.out.tail).at_ hlt
          obtain rfl : u = .int .i64 (y : Int) := by
            rw [show (intsN l)[j]? = some (.int .i64 (y : Int)) by simp [intsN, hy]] at hx
            exact (Option.some.inj hx).symm
          have hj0 : (0 : Int) ≤ j := by omega
          have hjn : (j : Int) < n := by omega
          have hll : ((l.take j).filter (· != i)).length ≤ 65536 := Nat.le_trans (List.length_filter_le _ _) (by rw [List.length_take]; omega)
          by_cases hyi : y = i
          · subst hyi
            have hst : (l.take (j + 1)).filter (· != y) = (l.take j).filter (· != y) := by
              rw [List.take_add_one, hy, List.filter_append]
              simp
            have HSt := Lib.hid hst
            clear hst hy hx had hll
            go_wp2
            go_roundw
            case rel => exact ⟨j + 1, by omega, by go_num, Lib.hid (by rw [HSt.out]; exact HS.out)⟩
            case measure => simp [intOf]; omega
          · have hst : (l.take (j + 1)).filter (· != i) = (l.take j).filter (· != i) ++ [y] := by
              rw [List.take_add_one, hy, List.filter_append]
              simp [hyi]
            have HSt := Lib.hid hst
            have hne : ((y : Int) == (i : Int)) = false := beq_eq_false_iff_ne.mpr (by omega)
            clear hst hy hx had hyi
            obtain ⟨F, eF⟩ : ∃ F, F = (l.take j).filter (· != i) := ⟨_, rfl⟩
            rw [← eF] at HS HSt hll
            clear eF
            go_wp2_with (first
              | (refine wpList_append_st rfl (.tmp 47) (.tmp 58) 28 rfl (HS.out.alloc _) 0 rfl i0 _ 8 Try.underlying28 hi0' hz0 hz1 hz2 rfl (by omega) rfl (wr.heap.size + 1) (some ⟨wr.heap.size, 0, none⟩) 1 1 [.int .i64 (y : Int)] rfl (reads_fresh wr 3 [.int .i64 (y : Int)] 1 1 rfl) (by simp [Value.oneCell']) (by simp only [maxLen]; omega) (by omega) ?_
                 intro v' w3 hs3
                 rw [← intsN_snoc] at hs3
                 have HS3 := Lib.hid hs3
                 clear hs3))
            go_roundw
            case rel => exact ⟨j + 1, by omega, by go_num, Lib.hid (by rw [HSt.out, List.length_append]; exact HS3.out)⟩
            case measure => simp [intOf]; omega
        · obtain rfl : j = n := by omega
          obtain ⟨A8, c8, rfl⟩ := own_len (HS.out.row 0 rfl)
          have hs9 := HS.out
          rw [show l.take j = l from List.take_of_length_le (by have := EN.out; omega)] at hs9 ⊢
          have HS9 := Lib.hid (rf_put (q := q) hs9 rfl)
          clear hs9 hlt
          generalize (l.filter (· != i)).length = n9 at *
          go_wp2
          go_ret
          exact ⟨rfl, _, HS9.out⟩
  · rw [if_neg h1]
    have hb : i < 0 ∨ (0 ≤ i ∧ (m : Int) ≤ i) := by unfold okI at h1; omega
    clear h hw h1
    rcases hb with h1 | ⟨h1, h2⟩
    all_goals
      go_enter Try.func21, Try.ntmps21
      go_wp2
      go_ret
      exact ⟨rfl, _, HS.out⟩
end
end Go.Proofs.Ytfahhjbbbimjfaa.Li
