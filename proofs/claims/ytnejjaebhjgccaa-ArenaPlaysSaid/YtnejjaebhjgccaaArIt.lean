/- The iterator over the ids of an arena; IDs. -/
import Derived.RangeFuncNested
import Derived.RangeFuncBound
import Derived.RangeFuncCalls
import Derived.RangeFuncLeaves
import Derived.RangeFuncBox
import Derived.Shelf.Abstract
import Derived.Shelf.RegionOpen
import Derived.WalkKit
import Derived.OwnWalkIn
import Derived.TacticsInMore
import Derived.LoopNIn
import Derived.LoopIn
import Derived.Maps.AppendAt
import Derived.Test.YtnejjaebhjgccaaArJ
namespace Go.Proofs.Ytnejjaebhjgccaa.Ar
open Go Go.RowKit Go.Shelf Go.Proofs.Ytnejjaebhjgccaa.Mem Go.Proofs.Ytnejjaebhjgccaa.Bits
set_option linter.unusedVariables false
set_option linter.unusedSimpArgs false
attribute [local go_sem] Oper.semAt_some
def sl0 : Sl := ⟨0, false, 0⟩
/-- The ids of the first k slots. -/
def idsTo (sl : List Sl) : Nat → List Int
  | 0 => []
  | k + 1 => if (sl.getD k sl0).tk then idsTo sl k ++ [(sl.getD k sl0).gen * 65536 + (k : Int)] else idsTo sl k
theorem idsTo_len (sl : List Sl) : ∀ k, (idsTo sl k).length ≤ k
  | 0 => by simp [idsTo]
  | k + 1 => by
    have := idsTo_len sl k
    unfold idsTo
    split
    · simp; omega
    · omega
theorem idsTo_pre (sl : List Sl) {j : Nat} : ∀ k, j ≤ k → idsTo sl j <+: idsTo sl k
  | 0, h => by
    obtain rfl : j = 0 := by omega
    exact List.prefix_refl _
  | k + 1, h => by
    rcases Nat.lt_or_ge j (k + 1) with h1 | h1
    · have := idsTo_pre sl (j := j) k (by omega)
      conv => rhs; unfold idsTo
      split
      · exact this.trans (List.prefix_append _ _)
      · exact this
    · obtain rfl : j = k + 1 := by omega
      exact List.prefix_refl _
theorem idsTo_yes {sl : List Sl} {k : Nat} (h : (sl.getD k sl0).tk = true) : idsTo sl (k + 1) = idsTo sl k ++ [(sl.getD k sl0).gen * 65536 + (k : Int)] := by
  conv => lhs; unfold idsTo
  rw [if_pos h]
theorem idsTo_no {sl : List Sl} {k : Nat} (h : (sl.getD k sl0).tk = false) : idsTo sl (k + 1) = idsTo sl k := by
  conv => lhs; unfold idsTo
  rw [if_neg (by rw [h]; simp)]
/-- The slots' slice, read. -/
def SlV (n₀ : Nat) (W : World) (sv : Value) (sl : List Sl) : Prop := ∃ A c, sv = .slice A sl.length c ∧ (0 < sl.length → ∃ g, A = some ⟨g, 0, none⟩ ∧ g < n₀ ∧ ∀ k s, sl[k]? = some s → ∀ j, j < 3 → W.cell? ⟨g, k * 3 + j, none⟩ = (slC s)[j]?)
theorem SlV.below {n₀ : Nat} {W W' : World} {sv : Value} {sl : List Sl} (h : SlV n₀ W sv sl) (hb : Below n₀ W W') : SlV n₀ W' sv sl := by
  obtain ⟨A, c, rfl, h⟩ := h
  refine ⟨A, c, rfl, fun h0 => ?_⟩
  obtain ⟨g, rfl, hg, hc⟩ := h h0
  exact ⟨g, rfl, hg, fun k s hs j hj => (hb.cell (p := ⟨g, k * 3 + j, none⟩) hg).trans (hc k s hs j hj)⟩
set_option maxRecDepth 100000 in
set_option maxHeartbeats 4000000 in
theorem all1_in (F : Fence) (n : Nat) (h35 : F.fn 35) (hro : F.round = none) (hn : 1 ≤ n) (l Bn n₀ b : Nat) (sv : Value) (sl : List Sl) (hlen : sl.length ≤ 65536) (hgen : ∀ s ∈ sl, 0 ≤ s.gen ∧ s.gen ≤ 1073741824) (J Jx : List Int → World → Prop)
    (hJal : ∀ pre A o, J pre A → J pre (A.alloc o))
    (hY : ∀ pre x W, J pre W → pre.length < sl.length → YieldAt F (n - 1) Try.prog l #[.int .i64 x] W fun e W' =>
      (e = .returned (.bool true) ∧ J (pre ++ [x]) W' ∧ Below n₀ W W') ∨ (e = .returned (.bool false) ∧ Jx (pre ++ [x]) W'))
    (W : World) (hBn : W.cell? ⟨Bn, 0, none⟩ = some (.pointer (some ⟨b, 0, none⟩))) (hb : b < n₀) (hsv : W.cell? ⟨b, 0, none⟩ = some sv) (hR : SlV n₀ W sv sl) (hn0 : n₀ ≤ W.heap.size) (h0 : J [] W) :
    CallsIn F n Try.prog 35 #[.func (.yield l) #[] #[], .pointer (some ⟨Bn, 0, none⟩)] W fun e W' => (∃ v, e = .returned v) ∧
      ((∃ ys, ys = idsTo sl sl.length ∧ J ys W') ∨ (∃ pre, pre <+: idsTo sl sl.length ∧ Jx pre W')) := by
  obtain ⟨A, c, rfl, hR⟩ := hR
  refine callsIn_of_wp Try.func35 rfl h35 ?_ hro
  simp only [Try.ntmps35, List.size_toArray, List.length_cons, List.length_nil, Nat.reduceAdd, Nat.reduceSub, Array.replicate_succ, Array.replicate_zero, List.push_toArray, List.append_toArray, List.nil_append, List.cons_append]
  gi_wp2
  gi_loopw [10] (fun i wr => ∃ k : Nat, k ≤ sl.length ∧ i = .int .i64 k ∧ J (idsTo sl k) wr ∧ Below n₀ W wr) (fun i _ => sl.length - (intOf i).toNat)
  case atStart => exact ⟨0, Nat.zero_le _, rfl, h0, Below.refl _ _⟩
  case round =>
    obtain ⟨k, hk, rfl, hJs, hnx⟩ := hrel
    by_cases hlt : k < sl.length
    · obtain ⟨s, hs⟩ : ∃ s, sl[k]? = some s := ⟨_, List.getElem?_eq_getElem hlt⟩
      have hgd : sl.getD k sl0 = s := by rw [List.getD_eq_getElem?_getD, hs]; rfl
      obtain ⟨g, rfl, hg, hcell⟩ := hR (by omega)
      have hc := fun j (hj : j < 3) => (hnx.cell (p := ⟨g, k * 3 + j, none⟩) hg).trans (hcell k s hs j hj)
      obtain ⟨gen, tk, v⟩ := s
      have hgs := hgen _ (List.mem_of_getElem? hs)
      have d0 : wr.cell? ⟨g, k * 3, none⟩ = some (.int .i64 gen) := hc 0 (by omega)
      have d1 : wr.cell? ⟨g, k * 3 + 1, none⟩ = some (.bool tk) := hc 1 (by omega)
      have d2 : wr.cell? ⟨g, k * 3 + 2, none⟩ = some (.int .i64 v) := hc 2 (by omega)
      clear hc hcell
      simp only at hgs
      obtain ⟨x, rfl⟩ : ∃ x : Nat, gen = x := ⟨gen.toNat, by omega⟩
      have hor := or_low16 x k (by omega) (by omega)
      have hJ2 := hJal _ _ (.cells #[.int .i64 x, .bool tk, .int .i64 v] 59) hJs
      have hB2 := hnx.alloc (Nat.le_trans hn0 hnx.size) (.cells #[.int .i64 x, .bool tk, .int .i64 v] 59)
      cases tk
      · have hid := idsTo_no (sl := sl) (k := k) (by rw [hgd])
        gi_wp2
        refine ⟨fun _ h => (by cases h), ?_⟩
        gi_wp2
        go_roundw
        case rel => exact ⟨k + 1, by omega, by go_num, by rw [hid]; exact hJ2, hB2⟩
        case measure => simp [intOf]; omega
      · have hid := idsTo_yes (sl := sl) (k := k) (by rw [hgd])
        rw [hgd] at hid
        simp only at hid
        have hpl := idsTo_len sl k
        obtain ⟨fn, tmps, assign, body, hy, hR⟩ := hY _ ((x : Int) * 65536 + (k : Int)) _ hJ2 (by omega)
        gi_wp2
        refine hR.mono ?_
        rintro e W3 (⟨rfl, hJ3, hk3⟩ | ⟨rfl, hJx3⟩)
        · gi_wp2
          go_roundw
          case rel => exact ⟨k + 1, by omega, by go_num, by rw [hid]; exact hJ3, hB2.trans hk3⟩
          case measure => simp [intOf]; omega
        · gi_wp2
          refine bodyPost_ret (results_none rfl _ _ _) rfl ?_
          exact ⟨⟨_, rfl⟩, .inr ⟨_, by rw [← hid]; exact idsTo_pre sl sl.length (by omega), hJx3⟩⟩
    · obtain rfl : k = sl.length := by omega
      gi_wp2
      go_end0
      exact ⟨⟨_, rfl⟩, .inl ⟨_, rfl, hJs⟩⟩
theorem all_in (F : Fence) (n : Nat) (h33 : F.fn 33) (hro : F.round = none) (p : Option Addr) (w : World) :
    CallsIn F n Try.prog 33 #[.pointer p] w fun e w' => e = .returned (.func (.func 35) #[] #[.pointer (some ⟨w.heap.size, 0, none⟩)]) ∧ w' = w.alloc (.cells #[.pointer p] 23) := by
  refine callsIn_of_wp Try.func33 rfl h33 ?_ hro
  simp only [Try.ntmps33, List.size_toArray, List.length_cons, List.length_nil, Nat.reduceAdd, Nat.reduceSub, Array.replicate_succ, Array.replicate_zero, List.push_toArray, List.append_toArray, List.nil_append, List.cons_append]
  gi_wp2
  go_ret
  exact ⟨rfl, rfl⟩
theorem all_stops (F : Fence) (n : Nat) (h35 : F.fn 35) (hro : F.round = none) (hn : 1 ≤ n) (Bn n₀ b : Nat) (sv : Value) (sl : List Sl) (hlen : sl.length ≤ 65536) (hgen : ∀ s ∈ sl, 0 ≤ s.gen ∧ s.gen ≤ 1073741824) (w : World) (hBn : Bn < w.heap.size) (hn₀ : n₀ ≤ w.heap.size)
    (hc : w.cell? ⟨Bn, 0, none⟩ = some (.pointer (some ⟨b, 0, none⟩))) (hb : b < n₀) (hsv : w.cell? ⟨b, 0, none⟩ = some sv) (hR : SlV n₀ w sv sl) :
    SeqStopsK F n Try.prog 35 #[.pointer (some ⟨Bn, 0, none⟩)] (fun x : Int => #[Value.int .i64 x]) (Below n₀) (fun ys => ys = idsTo sl sl.length) (fun pre => pre <+: idsTo sl sl.length) sl.length w := fun l J Jx W hW hJ _ hY h0 =>
  all1_in F n h35 hro hn l Bn n₀ b sv sl hlen hgen J Jx (fun pre A o h => hJ pre A _ none h (World.grownBy_alloc A o none) (fun r e => by cases e)) hY W ((hW.cell (p := ⟨Bn, 0, none⟩) hBn).trans hc) hb ((hW.cell (p := ⟨b, 0, none⟩) (Nat.lt_of_lt_of_le hb hn₀)).trans hsv) (hR.below (hW.mono hn₀)) (Nat.le_trans hn₀ hW.size) h0
theorem it_info : (Try.prog.info? 3).map (fun i => (i.zero, i.size, i.bytes)) = some (some (.int .i64 0), 1, 8) := by kernel_rfl
set_option maxRecDepth 100000 in
set_option maxHeartbeats 2000000 in
theorem ids_in (F : Fence) (n : Nat) (h24 : F.fn 24) (h33 : F.fn 33) (h35 : F.fn 35) (hro : F.round = none) (hn : 3 ≤ n) (b : Nat) (sv : Value) (sl : List Sl) (hlen : sl.length ≤ 65536) (hgen : ∀ s ∈ sl, 0 ≤ s.gen ∧ s.gen ≤ 1073741824) (w : World) (hb : b < w.heap.size) (hsv : w.cell? ⟨b, 0, none⟩ = some sv) (hR : SlV w.heap.size w sv sl) :
    CallsIn F n Try.prog 24 #[.pointer (some ⟨b, 0, none⟩)] w fun e W' => ∃ v, e = .returned v ∧ W'.ownsRow w.heap.size 3 1 v (idsTo sl sl.length).length ((idsTo sl sl.length).map (Value.int .i64)) ∧ Below w.heap.size w W' := by
  have h1 : 1 ≤ n := by omega
  have hil := idsTo_len sl sl.length
  obtain ⟨i0, hi, hz0, hz1, hz2⟩ := info_parts it_info
  refine callsIn_of_wp_marks Try.func24 rfl h24 ?_ hro
  simp only [Try.ntmps24, List.size_toArray, List.length_cons, List.length_nil, Nat.reduceAdd, Nat.reduceSub, Array.replicate_succ, Array.replicate_zero, List.push_toArray, List.append_toArray, List.nil_append, List.cons_append]
  gi_wp2_with (gi_at_call 33; refine (all_in F (n - 1) h33 hro _ _).mono ?_; rintro e w' ⟨rfl, rfl⟩)
  have bO := Boxed.new w 22 (.slice none 0 0)
  have bN := Boxed.new (w.alloc (.cells #[.slice none 0 0] 22)) 23 (.pointer (some ⟨b, 0, none⟩))
  rw [World.size_alloc] at bN
  have hB0 : Below w.heap.size w ((w.alloc (.cells #[.slice none 0 0] 22)).alloc (.cells #[.pointer (some ⟨b, 0, none⟩)] 23)) := ((Below.refl _ w).alloc (Nat.le_refl _) _).alloc (by simp) _
  refine wpIn_rangeFunc_ownG hro h1 (gf := 35) (lb := #[.pointer (some ⟨w.heap.size + 1, 0, none⟩)]) rfl h35 (enters_of Try.func35 (by kernel_rfl) rfl)
    (all_stops F (n - 1) h35 hro (by omega) (w.heap.size + 1) w.heap.size b sv sl hlen hgen _ (by simp) (by simp; omega) bN.cell hb ((hB0.cell (p := ⟨b, 0, none⟩) hb).trans hsv) (hR.below hB0)) belowK_t (belowK_b (by simp; omega)) (Below.refl _ _) (fun _ => rfl)
    (fun pre W => (∃ v, Boxed W w.heap.size 22 v ∧ W.ownsRow w.heap.size 3 1 v pre.length (pre.map (Value.int .i64)) ∧ (v = .slice none 0 0 ↔ pre = [])) ∧ Below w.heap.size w W)
    (fun _ _ _ => False)
    (OwnFrom.and (Own.from (holdsRow_own w.heap.size w.heap.size 22 3 1 (fun pre : List Int => pre.length) (fun pre : List Int => pre.map (Value.int .i64)) (fun pre v => v = .slice none 0 0 ↔ pre = [])) _) (ownFrom_below (Nat.le_refl _) (by simp; omega)))
    (fun _ _ _ _ _ hs _ _ => hs)
    ⟨⟨_, bO.alloc _, World.ownsRow_nil _ _ _ _, by simp⟩, hB0⟩
    (fun x => { tmps := #[.pointer (some ⟨b, 0, none⟩), undef, .slice none 0 0, .pointer (some ⟨w.heap.size, 0, none⟩), .int .i64 x, .pointer (some ⟨b, 0, none⟩), .func (.func 35) #[] #[.pointer (some ⟨w.heap.size + 1, 0, none⟩)], .int .i64 x, undef, undef, undef, undef, undef], defers := [] }) ?assign ?body ?done ?stop
  case assign =>
    intro l x W K hK
    gi_wp2
    exact hK
  case body =>
    rintro l pre x W ⟨⟨v, hv, hrow, hnil⟩, hB⟩ hlt
    have hc := hv.cell
    gi_wp2_with (gi_at_builtin; refine wpListIn_append_own _ rfl _ _ 22 rfl w.heap.size 3 i0 (.int .i64 0) 1 8 Try.underlying22 hi hz0 hz1 hz2 rfl (by decide) _ _ _ rfl (hrow.alloc _) ⟨W.heap.size, 0, none⟩ 1 1 [.int .i64 x] rfl rfl (cell_one_new _ _ _) (by simp [Value.oneCell']) (by simp only [maxLen]; omega) (by omega) (by have := hB.size; simp; omega) ?_; intro v' w1 hown' hgrow _; obtain ⟨g', cap', rfl⟩ := ownsRow_succ hown'; obtain ⟨hv1, hv2, hr2, hk2, hb2⟩ := hv.appended (by decide) hrow hB.size (Nat.le_refl _) hown' hgrow; have hc1 := hv1.cell; have hf1 := hv1.frozen)
    exact ⟨hk2.from _, hb2, ⟨_, hv2, by simpa using hr2, by simp⟩, hB.trans hb2⟩
  case done =>
    rintro D ys W hD rfl ⟨⟨v, hv, hrow, hnil⟩, hB⟩ hK
    have hc := hv.cell
    gi_wp2
    refine ⟨by simp, .inl ⟨_, _, rfl, run_takeDeferred hK, ?_⟩⟩
    exact ⟨_, results_tmp rfl _ _ _, v, rfl, ownsRow_putObj hrow _ hK rfl, hB.trans (belowK_b (w := w) (Nat.le_refl _) W D _ _ (by simp at hD; omega) hK rfl rfl)⟩
  case stop =>
    rintro D c pre W _ _ h _
    exact h.elim
/-- What IDs tells, over the abstract arena. -/
theorem ids_az {w : World} {B b : Nat} {G : Blocks} {sl : List Sl} {fr : List Nat} {cap : Int} {N : Nat} (h : Az w B b G sl fr cap) (hg : Good N sl fr cap) (hN : N ≤ 1073741823) : Calls Try.prog 24 #[.pointer (some ⟨b, 0, none⟩)] w fun e W' =>
    ∃ v, e = .returned v ∧ W'.ownsRow w.heap.size 3 1 v (idsTo sl sl.length).length (ints (idsTo sl sl.length)) ∧ Below w.heap.size w W' := by
  obtain ⟨sv, fv, ha, hF⟩ := h
  have hle := hg.len
  have hcap := hg.cap
  refine callsIn_wide.1 (ids_in Fence.wide 3 trivial trivial trivial rfl (by omega) b sv sl (by omega) (fun s hs => by have := hg.gens s hs; omega) w ha.blk.lt (ha.blk.cellv rfl) ?_)
  obtain ⟨A, c, hv⟩ := own_len ha.slots
  refine ⟨A, c, hv, fun h0 => ?_⟩
  obtain ⟨g, cp, hv2, hbg, hgl, hnc⟩ := own_form ha.slots h0
  rw [hv] at hv2
  injection hv2 with e1
  refine ⟨g, e1, hgl, fun k s hs j hj => ?_⟩
  have hl : k < sl.length := (List.getElem?_eq_some_iff.1 hs).1
  have hs2 := ha.slots
  rw [hv, e1] at hs2
  exact (hs2.cellAt (k * 3 + j) (by omega)).trans (slCs_at sl k j s hs hj)
end Go.Proofs.Ytnejjaebhjgccaa.Ar
