/- The walk of ListsWhole. -/
import Derived.Test.YtfahhjbbbimjfaaLiMove
import Derived.Test.YtfahhjbbbimjfaaAgg
import Derived.Deep.CutBlock
import Derived.Deep.CutRange
namespace Go.Proofs.Ytfahhjbbbimjfaa.Li
open Go Go.RowKit Go.Proofs.Ytfahhjbbbimjfaa.Mem
set_option linter.unusedVariables false
set_option linter.unusedSimpArgs false
/-- The counts of the items below twelve. -/
def cnA (P : List Nat) : Array Value := ((List.range 12).map fun i => Value.int .i64 (P.count i : Nat)).toArray
theorem cnA_nil : cnA [] = #[.int .i64 0, .int .i64 0, .int .i64 0, .int .i64 0, .int .i64 0, .int .i64 0, .int .i64 0, .int .i64 0, .int .i64 0, .int .i64 0, .int .i64 0, .int .i64 0] := rfl
theorem cnA_size (P : List Nat) : (cnA P).size = 12 := by simp [cnA]
theorem cnA_at (P : List Nat) {x : Nat} (h : x < 12) : (cnA P)[x]? = some (.int .i64 (P.count x : Nat)) := by
  simp [cnA, h]
theorem cnA_add (P : List Nat) {x : Nat} (h : x < 12) : (cnA P).setIfInBounds x (.int .i64 ((P.count x : Nat) + 1)) = cnA (P ++ [x]) := by
  refine Array.ext_getElem? fun i => ?_
  rw [Array.getElem?_setIfInBounds]
  by_cases hi : i < 12
  · by_cases e : x = i
    · subst e
      rw [if_pos rfl, if_pos (by rw [cnA_size]; exact h), cnA_at _ h]
      simp [List.count_append]
    · rw [if_neg e, cnA_at _ hi, cnA_at _ hi, List.count_append]
      simp [List.count_singleton, e]
  · rw [if_neg (by omega)]
    rw [Array.getElem?_eq_none (by rw [cnA_size]; omega), Array.getElem?_eq_none (by rw [cnA_size]; omega)]
theorem idx_cn (P : List Nat) (k : Nat) (h : k < 12) (w : World) : (Instr.index 47 (.agg (cnA P)) (.int .i64 (k : Nat))).run Try.prog w = .ok (.int .i64 (P.count k : Nat)) w := by
  have hk : k = 0 ∨ k = 1 ∨ k = 2 ∨ k = 3 ∨ k = 4 ∨ k = 5 ∨ k = 6 ∨ k = 7 ∨ k = 8 ∨ k = 9 ∨ k = 10 ∨ k = 11 := by omega
  rcases hk with rfl | rfl | rfl | rfl | rfl | rfl | rfl | rfl | rfl | rfl | rfl | rfl <;> rfl
section
variable {L : List (List Nat)} {m : Nat}
theorem WfL.flat (h : WfL L m) : L.flatten.Nodup ∧ (∀ x ∈ L.flatten, x < m) ∧ L.flatten.length ≤ m := by
  have h1 : L.flatten.Nodup := by
    rw [List.Nodup, List.pairwise_flatten]
    refine ⟨fun l hl => ?_, List.pairwise_iff_getElem.2 fun i j hi hj hij => ?_⟩
    · obtain ⟨q, hq, rfl⟩ := List.mem_iff_getElem.1 hl
      exact h.nd q _ (List.getElem?_eq_getElem hq)
    · intro x hx y hy e
      subst e
      have := h.one i j _ _ x (List.getElem?_eq_getElem hi) (List.getElem?_eq_getElem hj) hx hy
      omega
  have h2 : ∀ x ∈ L.flatten, x < m := fun x hx => by
    obtain ⟨l, hl, hxl⟩ := List.mem_flatten.1 hx
    obtain ⟨q, hq, rfl⟩ := List.mem_iff_getElem.1 hl
    exact h.lt q _ x (List.getElem?_eq_getElem hq) hxl
  exact ⟨h1, h2, nodup_le m _ h1 h2⟩
theorem WfL.seen (h : WfL L m) {i : Nat} (hi : i < m) : (L.flatten.count i = 1 ∧ ∃ q : Nat, whereS L m (i : Int) = q) ∨ (L.flatten.count i = 0 ∧ whereS L m (i : Int) = -1) := by
  by_cases hm : i ∈ L.flatten
  · left
    refine ⟨by rw [h.flat.1.count, if_pos hm], ?_⟩
    obtain ⟨l, hl, hxl⟩ := List.mem_flatten.1 hm
    obtain ⟨q, hq, rfl⟩ := List.mem_iff_getElem.1 hl
    exact ⟨q, where_of h (List.getElem?_eq_getElem hq) hxl⟩
  · right
    refine ⟨by rw [h.flat.1.count, if_neg hm], ?_⟩
    unfold whereS
    rw [if_pos ⟨by omega, by omega⟩, Int.toNat_natCast]
    exact whr_out _ _ fun q l hl hx => hm (List.mem_flatten.2 ⟨l, List.mem_of_getElem? hl, hx⟩)
/-- How many items lie at j or above. -/
def tl (F : List Nat) (j : Nat) : Nat := (F.filter fun x => decide (j ≤ x)).length
theorem tl_zero (F : List Nat) : tl F 0 = F.length := by simp [tl]
theorem tl_step (F : List Nat) (j : Nat) : tl F j = F.count j + tl F (j + 1) := by
  unfold tl
  induction F with
  | nil => rfl
  | cons x F ih =>
    rw [List.filter_cons, List.filter_cons, List.count_cons]
    by_cases h1 : x = j
    · subst h1
      have h3 : ¬ x + 1 ≤ x := by omega
      simp [ih, h3]; omega
    · by_cases h2 : j ≤ x
      · have : j + 1 ≤ x := by omega
        simp [h1, h2, this, ih]; omega
      · have : ¬ j + 1 ≤ x := by omega
        simp [h1, h2, this, ih]
theorem tl_end (F : List Nat) (h : ∀ x ∈ F, x < m) : tl F m = 0 := by
  unfold tl
  rw [List.length_eq_zero_iff, List.filter_eq_nil_iff]
  intro x hx
  have := h x hx
  simp; omega
theorem pre_next {q : Nat} {l : List Nat} (h : L[q]? = some l) : (L.take (q + 1)).flatten = (L.take q).flatten ++ l := by
  rw [List.take_add_one, h]
  simp
theorem pre_le (h : WfL L m) (q : Nat) : (L.take q).flatten.length ≤ m := by
  have h1 := h.flat.2.2
  rw [← List.take_append_drop q L, List.flatten_append, List.length_append] at h1
  omega
theorem push_len (q i : Int) : (pushS L m q i).2.length = L.length := by unfold pushS; split <;> simp
theorem front_len (q i : Int) : (frontS L m q i).2.length = L.length := by unfold frontS; split <;> simp
theorem remove_len (i : Int) : (removeS L m i).2.length = L.length := by unfold removeS; split <;> (try split) <;> simp [dropL_len]
theorem pop_len (q : Int) : (popS L q).2.2.length = L.length := by unfold popS; split <;> (try split) <;> simp [dropL_len]
theorem splice_len (t f : Int) : (spliceS L t f).2.length = L.length := by unfold spliceS; split <;> simp
end
theorem newThree (w : World) : Calls Try.prog 8 #[.int .i64 3, .int .i64 12] w fun e w' => ∃ b, e = .returned (.pointer (some ⟨b, 0, none⟩)) ∧ Star w w' [LzA b [[], [], []] 12] := new_st (Star.nil w) (n := 3) (m := 12) (by omega) (by omega)
set_option maxRecDepth 8000 in
set_option maxHeartbeats 8000000 in
theorem whole_row (A : Option Addr) (c : Nat) (l : List (List Int)) (w : World) (hr : Reads w w.heap.size 3 A l.length (l.map (·.map (Value.int .i64))).flatten) (hm : l.length ≤ maxLen) (hl3 : ∀ r ∈ l, r.length = 3 ∧ ∀ x ∈ r, (Lit.int .i64 x).wf = true) :
    Calls Try.prog 6 #[.slice A l.length c] w fun e w' => e = .returned (.bool true) ∧ Below w.heap.size w w' := by
  have HA := Lib.hid awake_any
  have HN := Lib.hid (newThree w)
  unfold maxLen at hm
  by_cases hn : 150 < l.length
  · clear hr hl3
    generalize l.length = n0 at *
    go_enter Try.func6, Try.ntmps6
    go_wp2_with (first
      | (go_at_call 8; (with_reducible refine HN.out.mono ?_); rintro e w1 ⟨b, rfl, hs1⟩)
      | (go_at_call 15; (with_reducible refine (HA.out _).mono ?_); rintro e w2 ⟨rfl, hb2⟩))
    go_ret
    exact ⟨rfl, hs1.below.trans (hb2.mono hs1.below.size)⟩
  · have hl2 : l.length ≤ 150 := by omega
    have HR := Lib.hid hr
    clear hr hn hm
    go_enter Try.func6, Try.ntmps6
    go_wp2_with (first
      | (go_at_call 8; (with_reducible refine HN.out.mono ?_); rintro e w1 ⟨b, rfl, hs1⟩
         have HS1 := Lib.hid hs1
         clear hs1))
    clear HN
    go_loopw [28] (fun i wr => ∃ (k : Nat) (L : List (List Nat)), k ≤ l.length ∧ i = .int .i64 k ∧ L.length = 3 ∧ Hid (Star w wr [LzA b L 12])) (fun i _ => l.length - (intOf i).toNat)
    case atStart => exact ⟨0, _, by omega, rfl, rfl, HS1⟩
    case round =>
      clear HS1
      obtain ⟨k, L, hk, rfl, hL3, HS⟩ := hrel
      by_cases hlt : k < l.length
      · obtain ⟨ad, rfl, had, hcl⟩ := (HR.out.below HS.out.below).row (k := k) (r := l[k].map (Value.int .i64)) (fun r hr => by
          obtain ⟨r0, hr0, rfl⟩ := List.mem_map.1 hr
          rw [List.length_map]
          exact (hl3 r0 hr0).1) hlt (by simp [List.getElem?_eq_getElem hlt])
        obtain ⟨kd, qq, ii, hrow⟩ := three_of (hl3 l[k] (List.getElem_mem _)).1
        rw [hrow] at hcl
        simp only [List.map_cons, List.map_nil] at hcl
        have HCL := Lib.hid hcl
        clear hcl had hrow
        go_upto_region 7 with (first
          | (with_reducible refine wpList_load_add rfl 40 (.tmp 30) rfl _ rfl [.int .i64 kd, .int .i64 qq, .int .i64 ii] _ HCL.out Try.underlying40 rfl (by kernel_rfl) ?_)
          | (with_reducible refine wpList_box_st rfl 40 (.tmp 5) (.tmp 31) rfl HS.out #[.int .i64 kd, .int .i64 qq, .int .i64 ii] rfl rfl (by kernel_rfl) rfl (by simp [Value.oneCell']) ?_
             intro W1 hs1))
        have HS2 := Lib.hid hs1
        have b0 : W1.cell? ⟨wr.heap.size, 0, none⟩ = some (.int .i64 kd) := (hs1.blk 0 rfl).cellv rfl
        have b1 : W1.cell? ⟨wr.heap.size, 1, none⟩ = some (.int .i64 qq) := (hs1.blk 0 rfl).cellv rfl
        have b2 : W1.cell? ⟨wr.heap.size, 2, none⟩ = some (.int .i64 ii) := (hs1.blk 0 rfl).cellv rfl
        clear hs1 HS HCL
        generalize wr.heap.size = g0 at *
        go_upto_block 2 with fail
        go_cut [28] from 28 to 120 (fun i wx => i = .int .i64 k ∧ ∃ L', L'.length = 3 ∧ Hid (Star w wx [LzA b L' 12]))
        case first =>
          by_cases hk1 : kd = 1
          · subst hk1
            have HM := Lib.hid (push_st HS2.out 1 rfl qq ii)
            go_wp2_with (first
              | (go_at_call 9; (with_reducible refine HM.out.mono ?_); rintro e w3 ⟨rfl, hs3⟩
                 have HS3 := Lib.hid hs3.tail
                 clear hs3))
            go_meet
            case rel => exact ⟨rfl, _, (push_len _ _).trans hL3, HS3⟩
          · by_cases hk2 : kd = 2
            · subst hk2
              have HM := Lib.hid (front_st HS2.out 1 rfl qq ii)
              go_wp2_with (first
                | (go_at_call 13; (with_reducible refine HM.out.mono ?_); rintro e w3 ⟨rfl, hs3⟩
                   have HS3 := Lib.hid hs3.tail
                   clear hs3))
              go_meet
              case rel => exact ⟨rfl, _, (front_len _ _).trans hL3, HS3⟩
            · by_cases hk3 : kd = 3
              · subst hk3
                have HM := Lib.hid (pop_st HS2.out 1 rfl qq)
                go_wp2_with (first
                  | (go_at_call 19; (with_reducible refine HM.out.mono ?_); rintro e w3 ⟨rfl, hs3⟩
                     have HS3 := Lib.hid hs3.tail
                     clear hs3))
                go_meet
                case rel => exact ⟨rfl, _, (pop_len _).trans hL3, HS3⟩
              · by_cases hk4 : kd = 4
                · subst hk4
                  have HM := Lib.hid (remove_st HS2.out 1 rfl ii)
                  go_wp2_with (first
                    | (go_at_call 16; (with_reducible refine HM.out.mono ?_); rintro e w3 ⟨rfl, hs3⟩
                       have HS3 := Lib.hid hs3.tail
                       clear hs3))
                  go_meet
                  case rel => exact ⟨rfl, _, (remove_len _).trans hL3, HS3⟩
                · by_cases hk5 : kd = 5
                  · subst hk5
                    have HM := Lib.hid (splice_st HS2.out 1 rfl qq ii)
                    go_wp2_with (first
                      | (go_at_call 22; (with_reducible refine HM.out.mono ?_); rintro e w3 ⟨rfl, hs3⟩
                         have HS3 := Lib.hid hs3.tail
                         clear hs3))
                    go_meet
                    case rel => exact ⟨rfl, _, (splice_len _ _).trans hL3, HS3⟩
                  · have z1 : (kd == 1) = false := beq_eq_false_iff_ne.mpr hk1
                    have z2 : (kd == 2) = false := beq_eq_false_iff_ne.mpr hk2
                    have z3 : (kd == 3) = false := beq_eq_false_iff_ne.mpr hk3
                    have z4 : (kd == 4) = false := beq_eq_false_iff_ne.mpr hk4
                    have z5 : (kd == 5) = false := beq_eq_false_iff_ne.mpr hk5
                    have HS3 := Lib.hid HS2.out.tail
                    clear hk1 hk2 hk3 hk4 hk5
                    go_wp2
                    go_meet
                    case rel => exact ⟨rfl, _, hL3, HS3⟩
        case rest =>
          clear b0 b1 b2 HS2 hL3 L
          obtain ⟨rfl, L, hL3, HS⟩ := hcut
          obtain ⟨hwf, -, -⟩ := Star.wf HS.out 0 rfl
          have HW := Lib.hid hwf
          clear hwf
          go_wp2
          have HS1 := Lib.hid (HS.out.newBlk 47 (cnA []))
          rw [cnA_nil] at HS1
          obtain ⟨g, eg⟩ : ∃ g, g = wc.heap.size := ⟨_, rfl⟩
          rw [← eg] at HS1
          rw [← eg]
          clear eg HS
          generalize hWW : wc.alloc _ = W2
          rw [hWW] at HS1
          clear hWW
          go_loopw [7, 70] (fun t i wx => ∃ q T : Nat, q ≤ 3 ∧ i = .int .i64 q ∧ t = .int .i64 T ∧ T ≤ 12 ∧ Hid (T = (L.take q).flatten.length) ∧ Hid (Star w wx [BlkA g 47 (cnA (L.take q).flatten), LzA b L 12])) (fun _ i _ => 3 - (intOf i).toNat)
          case atStart => exact ⟨0, 0, by omega, rfl, rfl, by omega, Lib.hid rfl, HS1⟩
          case round =>
            clear HS1
            obtain ⟨q, T, hq, rfl, rfl, hT, HT, HS⟩ := hrel
            by_cases hlt2 : q < 3
            · obtain ⟨lq, hlq⟩ : ∃ x, L[q]? = some x := ⟨_, List.getElem?_eq_getElem (by omega)⟩
              have hgq : okQ L (q : Int) := ⟨by omega, by omega⟩
              have hls : listS L (q : Int) = lq := by unfold listS; rw [if_pos hgq, getQ_at hlq]
              have hln : lenS L (q : Int) = lq.length := by unfold lenS; rw [if_pos hgq, getQ_at hlq]
              have hpn := pre_next hlq
              have hpl := pre_le HW.out (q + 1)
              have hI := list_st HS.out 1 rfl (q : Int)
              rw [hls] at hI
              have HI := Lib.hid hI
              have hL := fun (W : World) (P : List Nat) (h : Star w W [BlkA g 47 (cnA P), LzA b L 12]) => len_st h 1 rfl (q : Int)
              rw [hln] at hL
              have HL := Lib.hid hL
              obtain ⟨n, en⟩ : ∃ n, n = lq.length := ⟨_, rfl⟩
              have hTn : T + n ≤ 12 := by rw [hpn, List.length_append, ← en, ← HT.out] at hpl; exact hpl
              have HP := Lib.hid hpn
              have HTn := Lib.hid (show T + n = (L.take (q + 1)).flatten.length by rw [hpn, List.length_append, ← en, ← HT.out])
              rw [← en] at HI HL
              have EN := Lib.hid en
              have HQ := Lib.hid hlq
              have hq0 : (0 : Int) ≤ q := by omega
              have hq3 : (q : Int) < 3 := by omega
              clear hls hln hpn hpl hI hL en hlq hgq
              go_wp2_with (first
                | (go_at_call 12; (with_reducible refine HI.out.mono ?_); rintro e w4 ⟨v4, rfl, hs4⟩
                   obtain ⟨A4, c4, rfl⟩ := own_len (hs4.row 0 rfl)
                   have HS4 := Lib.hid hs4
                   clear hs4))
              go_loopw [77] (fun j wy => ∃ k2 : Nat, k2 ≤ n ∧ j = .int .i64 k2 ∧ Hid (Star w wy [RowA 3 1 (.slice A4 n c4) n (intsN lq), BlkA g 47 (cnA ((L.take q).flatten ++ lq.take k2)), LzA b L 12])) (fun j _ => n - (intOf j).toNat)
              case atStart => exact ⟨0, by omega, rfl, Lib.hid (by rw [List.take_zero, List.append_nil]; exact HS4.out)⟩
              case round =>
                clear HS4 HI HS
                obtain ⟨k2, hk2, rfl, HS⟩ := hrel
                by_cases hlt4 : k2 < n
                · have hkC : k2 < lq.length := by rw [← EN.out]; exact hlt4
                  obtain ⟨y, hy⟩ : ∃ y, lq[k2]? = some y := ⟨_, List.getElem?_eq_getElem hkC⟩
                  have hyl : y ∈ lq := List.mem_of_getElem? hy
                  have hy12 : y < 12 := HW.out.lt q lq y HQ.out hyl
                  have hwh := where_of HW.out HQ.out hyl
                  have hnx : (L.take q).flatten ++ lq.take (k2 + 1) = ((L.take q).flatten ++ lq.take k2) ++ [y] := by
                    rw [List.take_add_one, hy]
                    simp
                  obtain ⟨P5, eP⟩ : ∃ P, P = (L.take q).flatten ++ lq.take k2 := ⟨_, rfl⟩
                  have hPl : P5.length ≤ 12 := by
                    rw [eP, List.length_append, ← HT.out, List.length_take]
                    omega
                  rw [← eP] at HS hnx
                  obtain ⟨c5, ec⟩ : ∃ c, c = P5.count y := ⟨_, rfl⟩
                  have hc5 : c5 ≤ 12 := by rw [ec]; exact Nat.le_trans List.count_le_length hPl
                  obtain ⟨g4, cp4, hsv, hbg, hgl, hnc⟩ := own_form (HS.out.row 0 rfl) (by omega)
                  simp only [Value.slice.injEq] at hsv
                  obtain ⟨rfl, -, rfl⟩ := hsv
                  have dk := (HS.out.row 0 rfl).cellAt k2 (by omega)
                  rw [show (intsN lq)[k2]? = some (.int .i64 (y : Int)) by simp [intsN, hy]] at dk
                  have dc : wr.cell? ⟨g, y, none⟩ = some (.int .i64 (c5 : Int)) := by
                    rw [ec]
                    exact (HS.out.blk 1 rfl).cellv (i := y) (cnA_at P5 hy12)
                  have df : wr.frozen? ⟨g, y, none⟩ = false := (HS.out.blk 1 rfl).frozen y
                  have hst : Star w (wr.setCell ⟨g, y, none⟩ (.int .i64 ((c5 : Int) + 1))) [RowA 3 1 (.slice (some ⟨g4, 0, none⟩) n c4) n (intsN lq), BlkA g 47 (cnA (P5 ++ [y])), LzA b L 12] := by
                    have := HS.out.setBlk 1 rfl y (.int .i64 ((c5 : Int) + 1))
                    rw [← cnA_add P5 hy12, ← ec]
                    exact this
                  have hWh := where_st hst 2 rfl (y : Int)
                  rw [hwh] at hWh
                  have HWh := Lib.hid hWh
                  have HSt := Lib.hid hst
                  have hk0 : (0 : Int) ≤ k2 := by omega
                  have hkn : (k2 : Int) < n := by omega
                  have hy0 : (0 : Int) ≤ y := by omega
                  have hy1 : (y : Int) < 12 := by omega
                  have HNx := Lib.hid hnx
                  clear hy hyl hwh hnx eP ec hst hWh hPl
                  go_wp2_with (first
                    | (go_at_call 14; (with_reducible refine HWh.out.mono ?_); rintro e w6 ⟨rfl, rfl⟩))
                  go_roundw
                  case rel => exact ⟨k2 + 1, by omega, by go_num, Lib.hid (by rw [HNx.out]; exact HSt.out)⟩
                  case measure => simp [intOf]; omega
                · obtain rfl : k2 = n := by omega
                  have hs5 := HS.out.tail
                  rw [show lq.take k2 = lq from List.take_of_length_le (by have := EN.out; omega), ← HP.out] at hs5
                  have HS5 := Lib.hid hs5
                  have hL5 := Lib.hid (HL.out _ _ hs5)
                  clear hs5 hlt4
                  go_wp2_with (first
                    | (go_at_call 10; (with_reducible refine hL5.out.mono ?_); rintro e w6 ⟨rfl, rfl⟩))
                  go_roundw
                  case rel => exact ⟨q + 1, T + k2, by omega, by go_num, by go_num, by omega, HTn, HS5⟩
                  case measure => simp [intOf]; omega
            · obtain rfl : q = 3 := by omega
              have hfl : (L.take 3).flatten = L.flatten := by rw [List.take_of_length_le (by omega)]
              rw [hfl] at HT HS
              have hF12 := HW.out.flat.2.1
              have hT0 : T = tl L.flatten 0 := by rw [tl_zero]; exact HT.out
              have HT0 := Lib.hid hT0
              have hbl := (HS.out.blk 0 rfl)
              clear hfl hT0
              go_wp2_with (first
                | (with_reducible refine wpList_load_row rfl 47 (.tmp 6) rfl g rfl 47 (cnA L.flatten) (0, 0) _ hbl.heap Try.underlying47 rfl (by rw [cnA_size]; kernel_rfl) ?_))
              have hs6 := HS.out.tail
              have HS6 := Lib.hid hs6
              clear hs6 HS hbl
              generalize hWr : wr = W3 at *
              clear hWr
              go_loopw [7, 99] (fun t i wx => wx = W3 ∧ ∃ j T : Nat, j ≤ 12 ∧ i = .int .i64 j ∧ t = .int .i64 T ∧ T ≤ 12 ∧ Hid (T = tl L.flatten j)) (fun _ i _ => 12 - (intOf i).toNat)
              case atStart => exact ⟨rfl, 0, T, by omega, rfl, rfl, hT, HT0⟩
              case round =>
                clear HT0 HT hT
                obtain ⟨rfl, j, T, hj, rfl, rfl, hT, HT⟩ := hrel
                by_cases hlt7 : j < 12
                · have hix := fun w => idx_cn L.flatten j hlt7 w
                  have hw7 := where_st HS6.out 0 rfl (j : Int)
                  have hstp := tl_step L.flatten j
                  have hj0 : (0 : Int) ≤ j := by omega
                  have hj1 : (j : Int) < 12 := by omega
                  rcases HW.out.seen hlt7 with ⟨hc, q5, hq5⟩ | ⟨hc, hq5⟩
                  · rw [hc] at hstp hix
                    rw [hq5] at hw7
                    have HW7 := Lib.hid hw7
                    have hT1 : 1 ≤ T := by have := HT.out; omega
                    have HTn := Lib.hid (show T - 1 = tl L.flatten (j + 1) by have := HT.out; omega)
                    have hq5' : (0 : Int) ≤ q5 := by omega
                    clear hw7 hstp hc hq5 HT
                    go_wp2_with (first
                      | (go_at_call 14; (with_reducible refine HW7.out.mono ?_); rintro e w6 ⟨rfl, rfl⟩))
                    go_roundw
                    case rel => exact ⟨by trivial, j + 1, T - 1, by omega, by go_num, by go_num, by omega, HTn⟩
                    case measure => simp [intOf]; omega
                  · rw [hc] at hstp hix
                    rw [hq5] at hw7
                    have HW7 := Lib.hid hw7
                    have HTn := Lib.hid (show T = tl L.flatten (j + 1) by have := HT.out; omega)
                    clear hw7 hstp hc hq5 HT
                    go_wp2_with (first
                      | (go_at_call 14; (with_reducible refine HW7.out.mono ?_); rintro e w6 ⟨rfl, rfl⟩))
                    go_roundw
                    case rel => exact ⟨by trivial, j + 1, T, by omega, by go_num, by go_num, by omega, HTn⟩
                    case measure => simp [intOf]; omega
                · obtain rfl : j = 12 := by omega
                  obtain rfl : T = 0 := by have := HT.out; rw [tl_end _ hF12] at this; exact this
                  clear HT hlt7
                  go_wp2
                  go_roundw
                  case rel => exact ⟨k + 1, L, by omega, by go_num, hL3, HS6⟩
                  case measure => simp [intOf]; omega
      · obtain rfl : k = l.length := by omega
        go_wp2_with (first
          | (go_at_call 15; (with_reducible refine (HA.out _).mono ?_); rintro e w9 ⟨rfl, hb9⟩))
        go_ret
        exact ⟨rfl, HS.out.below.trans (hb9.mono HS.out.below.size)⟩
end Go.Proofs.Ytfahhjbbbimjfaa.Li
