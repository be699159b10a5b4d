/- The reference of the lists: where, check. -/
import Derived.Test.YtfahhjbbbimjfaaLiMove
import Derived.Test.YtfahhjbbbimjfaaLiRefuse
import Derived.Test.YtfahhjbbbimjfaaPack
namespace Go.Proofs.Ytfahhjbbbimjfaa.Li
open Go Go.RowKit Go.Proofs.Ytfahhjbbbimjfaa.Mem
set_option linter.unusedVariables false
set_option linter.unusedSimpArgs false
/-- The reference's lists, beside other objects. -/
abbrev rf (b : Nat) (vQ : Value) (vs : List Value) (L : List (List Nat)) (m : Nat) (S : List Asr) : List Asr := BlkA b 38 #[vQ, .int .i64 m] :: RowA 28 1 vQ L.length vs :: RowsA 3 vs (L.map intsN) :: S
section
variable {w0 w : World} {b m : Nat} {vQ : Value} {vs : List Value} {L : List (List Nat)} {S : List Asr}
theorem rf_at (h : Star w0 w (rf b vQ vs L m S)) {q : Nat} {l : List Nat} (hl : L[q]? = some l) : ∃ A c, vs[q]? = some (.slice A l.length c) ∧ w.ownsRow w0.heap.size 3 1 (.slice A l.length c) l.length (intsN l) := by
  obtain ⟨h1, h2⟩ := h.rows 2 rfl
  have hlt := (List.getElem?_eq_some_iff.1 hl).1
  rw [List.length_map] at h1
  have hv : vs[q]? = some vs[q] := List.getElem?_eq_getElem (by omega)
  have ho := h2 q _ (intsN l) hv (by rw [List.getElem?_map, hl]; rfl)
  have el : (intsN l).length = l.length := by simp [intsN]
  rw [el] at ho
  obtain ⟨A, c, e⟩ := own_len ho
  rw [e] at ho hv
  exact ⟨A, c, hv, ho⟩
theorem rf_cells (h : Star w0 w (rf b vQ vs L m S)) : w.cell? ⟨b, 0, none⟩ = some vQ ∧ w.cell? ⟨b, 1, none⟩ = some (.int .i64 m) := ⟨(h.blk 0 rfl).cellv rfl, (h.blk 0 rfl).cellv rfl⟩
theorem rf_row (h : Star w0 w (rf b vQ vs L m S)) {q : Nat} {v : Value} (hv : vs[q]? = some v) (hq : q < L.length) : ∃ g c, vQ = .slice (some ⟨g, 0, none⟩) L.length c ∧ w.cell? ⟨g, q, none⟩ = some v ∧ w.frozen? ⟨g, q, none⟩ = false ∧ L.length ≤ c := by
  obtain ⟨g, c, hsv, hbg, hgl, hnc⟩ := own_form (h.row 1 rfl) (by omega)
  subst hsv
  have h1 := (h.row 1 rfl).cellAt q (by omega)
  exact ⟨g, c, rfl, h1.trans hv, (h.row 1 rfl).frozenAt q, hnc⟩
theorem rf_size (h : Star w0 w (rf b vQ vs L m S)) : ∃ A c, vQ = .slice A L.length c := own_len (h.row 1 rfl)
set_option maxHeartbeats 4000000 in
theorem rwhere (h : Star w0 w (rf b vQ vs L m S)) (hw : WfL L m) (hn : L.length ≤ 65536) (hm : m ≤ 65536) (i : Nat) : Calls Try.prog 24 #[.pointer (some ⟨b, 0, none⟩), .int .i64 (i : Int)] w fun e w' => e = .returned (.int .i64 (whr L i)) ∧ w = w' := by
  obtain ⟨AQ, cQ, rfl⟩ := rf_size h
  obtain ⟨k0, -⟩ := rf_cells h
  have HS := Lib.hid h
  have HW := Lib.hid hw
  obtain ⟨n, en⟩ : ∃ n, n = L.length := ⟨_, rfl⟩
  rw [← en] at k0 hn
  have EN := Lib.hid en
  clear h hw en
  go_enter Try.func24, Try.ntmps24
  go_wp2
  go_loopw [5] (fun a wr => wr = w ∧ ∃ q : Nat, q ≤ n ∧ a = .int .i64 q ∧ Hid (∀ q' l, q' < q → L[q']? = some l → i ∉ l)) (fun a _ => n - (intOf a).toNat)
  case atStart => exact ⟨rfl, 0, by omega, rfl, Lib.hid (fun q' l h => absurd h (by omega))⟩
  case round =>
    obtain ⟨rfl, q, hq, rfl, HN⟩ := hrel
    by_cases hlt : q < n
    · obtain ⟨l, hl⟩ : ∃ l, L[q]? = some l := ⟨_, List.getElem?_eq_getElem (by rw [← EN.out]; exact hlt)⟩
      obtain ⟨A, c, hv, ho⟩ := rf_at HS.out hl
      obtain ⟨g, cg, hQ, hc, -, -⟩ := rf_row HS.out hv (by rw [← EN.out]; exact hlt)
      simp only [Value.slice.injEq] at hQ
      obtain ⟨rfl, -, rfl⟩ := hQ
      have HL := Lib.hid hl
      have HO := Lib.hid ho
      have hll : l.length ≤ 65536 := Nat.le_trans (nodup_le m l (HW.out.nd q l hl) (fun x hx => HW.out.lt q l x hl hx)) hm
      obtain ⟨k, ek⟩ : ∃ k, k = l.length := ⟨_, rfl⟩
      rw [← ek] at hc HO hll
      have EK := Lib.hid ek
      have hq0 : (0 : Int) ≤ q := by omega
      have hqn : (q : Int) < n := by omega
      clear hl hv ho ek
      go_wp2
      go_loopw [6] (fun a wx => wx = wr ∧ ∃ j : Nat, j ≤ k ∧ a = .int .i64 j ∧ Hid (i ∉ l.take j)) (fun a _ => k - (intOf a).toNat)
      case atStart => exact ⟨by trivial, 0, by omega, rfl, Lib.hid (by simp)⟩
      case round =>
        obtain ⟨rfl, j, hj, rfl, HT⟩ := hrel
        by_cases hlj : j < k
        · obtain ⟨y, hy⟩ : ∃ y, l[j]? = some y := ⟨_, List.getElem?_eq_getElem (by rw [← EK.out]; exact hlj)⟩
          obtain ⟨g4, cp4, hsv, hbg, hgl, hnc⟩ := own_form HO.out (by omega)
          simp only [Value.slice.injEq] at hsv
          obtain ⟨rfl, -, rfl⟩ := hsv
          have dk := HO.out.cellAt j (by omega)
          rw [show (intsN l)[j]? = some (.int .i64 (y : Int)) by simp [intsN, hy]] at dk
          have hj0 : (0 : Int) ≤ j := by omega
          have hjk : (j : Int) < k := by omega
          by_cases hyi : y = i
          · subst hyi
            have he := HW.out.whr_eq HL.out (List.mem_of_getElem? hy)
            have HE := Lib.hid he
            clear he hy
            go_wp2
            go_ret
            exact ⟨by rw [HE.out]; rfl, rfl⟩
          · have hne : ((y : Int) == (i : Int)) = false := beq_eq_false_iff_ne.mpr (by omega)
            have HT' : Hid (i ∉ l.take (j + 1)) := Lib.hid (by
              rw [List.take_add_one, hy]
              simp only [Option.toList_some, List.mem_append, List.mem_singleton, not_or]
              exact ⟨HT.out, fun e => hyi e.symm⟩)
            clear hy hyi
            go_wp2
            go_roundw
            case rel => exact ⟨by trivial, j + 1, by omega, by go_num, HT'⟩
            case measure => simp [intOf]; omega
        · obtain rfl : j = k := by omega
          have hT := HT.out
          rw [List.take_of_length_le (by rw [EK.out]; exact Nat.le_refl _)] at hT
          have HN' : Hid (∀ q' l, q' < q + 1 → L[q']? = some l → i ∉ l) := Lib.hid (fun q' l' h1 h2 => by
            by_cases e : q' = q
            · subst e
              have := HL.out.symm.trans h2
              injection this with this
              rw [← this]
              exact hT
            · exact HN.out q' l' (by omega) h2)
          clear hT
          go_wp2
          go_roundw
          case rel => exact ⟨by trivial, q + 1, by omega, by go_num, HN'⟩
          case measure => simp [intOf]; omega
    · obtain rfl : q = n := by omega
      have he : whr L i = -1 := whr_out _ _ fun q' l hl => HN.out q' l (by have := (List.getElem?_eq_some_iff.1 hl).1; rw [← EN.out] at this; exact this) hl
      have HE := Lib.hid he
      clear he
      go_wp2
      go_ret
      exact ⟨by rw [HE.out]; rfl, rfl⟩
set_option maxHeartbeats 4000000 in
theorem rcheck (h : Star w0 w (rf b vQ vs L m S)) (hw : WfL L m) (hn : L.length ≤ 65536) (hm : m ≤ 65536) (q i : Int) : Calls Try.prog 32 #[.pointer (some ⟨b, 0, none⟩), .int .i64 q, .int .i64 i] w fun e w' => e = .returned (.int .i64 (chkS L m q i)) ∧ w = w' := by
  obtain ⟨AQ, cQ, rfl⟩ := rf_size h
  obtain ⟨k0, k1⟩ := rf_cells h
  by_cases hb : q < 0 ∨ (0 ≤ q ∧ (L.length : Int) ≤ q) ∨ (0 ≤ q ∧ q < L.length ∧ i < 0) ∨ (0 ≤ q ∧ q < L.length ∧ 0 ≤ i ∧ (m : Int) ≤ i)
  · have hc : chkS L m q i = -14 := chk_bad (by unfold okQ okI; omega)
    rw [hc]
    clear h hw hc
    generalize L.length = n at *
    rcases hb with h1 | ⟨h1, h2⟩ | ⟨h1, h2, h3⟩ | ⟨h1, h2, h3, h4⟩
    all_goals
      go_enter Try.func32, Try.ntmps32
      go_wp2
      go_ret
      exact ⟨rfl, rfl⟩
  · have h1 : 0 ≤ q := by omega
    have h2 : q < (L.length : Int) := by omega
    have h3 : 0 ≤ i := by omega
    have h4 : i < (m : Int) := by omega
    obtain ⟨i, rfl⟩ : ∃ k : Nat, i = k := ⟨i.toNat, by omega⟩
    have HWh := Lib.hid (rwhere h hw hn hm i)
    have hc : chkS L m q (i : Int) = if whr L i = -1 then 0 else -26 := by
      unfold chkS
      rw [if_pos (show okQ L q from ⟨h1, h2⟩), if_pos (show okI m (i : Int) from ⟨h3, h4⟩), Int.toNat_natCast]
    rw [hc]
    rcases whr_neg L i with he | he
    · rw [he] at HWh ⊢
      clear h hw hc hb
      generalize L.length = n at *
      go_enter Try.func32, Try.ntmps32
      go_wp2_with (first
        | (go_at_call 24; (with_reducible refine HWh.out.mono ?_); rintro e w1 ⟨rfl, rfl⟩))
      go_ret
      exact ⟨rfl, rfl⟩
    · rw [if_neg (by omega)]
      generalize whr L i = x at *
      clear h hw hc hb
      generalize L.length = n at *
      go_enter Try.func32, Try.ntmps32
      go_wp2_with (first
        | (go_at_call 24; (with_reducible refine HWh.out.mono ?_); rintro e w1 ⟨rfl, rfl⟩))
      go_ret
      exact ⟨rfl, rfl⟩
end
end Go.Proofs.Ytfahhjbbbimjfaa.Li
