/- The letters of rights: the iterator, slices.Collect over it, and Text. -/
import Derived.RangeFuncNested
import Derived.RangeFuncBound
import Derived.RangeFuncCalls
import Derived.RangeFuncLeaves
import Derived.RangeFuncBox
import Derived.Shelf.Abstract
import Derived.Shelf.RegionOpen
import Derived.WalkKit
import Derived.OwnWalkIn
import Derived.TacticsInMore
import Derived.LoopNIn
import Derived.LoopIn
import Derived.Maps.AppendAt
import Derived.Lib.Hide
import Derived.Test.YtpkmpenjnbpblaaDoorShelf
import Derived.Test.YtpkmpenjnbpblaaDoorBits
import Derived.Test.YtpkmpenjnbpblaaDoorOwn
namespace Go.Proofs.YtpkmpenjnbpblaaDoor.Rt
open Go Go.RowKit Go.Shelf Go.Proofs.YtpkmpenjnbpblaaDoor.Mem Go.Proofs.YtpkmpenjnbpblaaDoor.Bits
set_option linter.unusedVariables false
set_option linter.unusedSimpArgs false
attribute [local go_sem] Oper.semAt_some
def LB : List UInt8 := [68, 84, 82, 87, 83, 80, 65, 73, 77, 75, 71, 89]
def letterOf (i : Nat) : UInt8 := LB.getD i 0
/-- The letters of the first k bits. -/
def letters (n : Int) : Nat → List UInt8
  | 0 => []
  | k + 1 => if tb n k then letters n k ++ [letterOf k] else letters n k
def txt (n : Int) : List UInt8 := if letters n 12 = [] then [45] else letters n 12
abbrev piece (k : Nat) : ByteArray := (⟨#[68, 84, 82, 87, 83, 80, 65, 73, 77, 75, 71, 89]⟩ : ByteArray).extract k (k + 1)
theorem piece_at {k : Nat} (hk : k < 12) : (piece k).data.toList = [letterOf k] := by
  have e : ∀ j : Fin 12, ((⟨#[68, 84, 82, 87, 83, 80, 65, 73, 77, 75, 71, 89]⟩ : ByteArray).extract j.val (j.val + 1)).data.toList = [letterOf j.val] := by decide
  exact e ⟨k, hk⟩
/-- The pieces that come. -/
def pcs (n : Int) : Nat → List ByteArray
  | 0 => []
  | k + 1 => if tb n k then pcs n k ++ [piece k] else pcs n k
theorem pcs_len (n : Int) : ∀ k, (pcs n k).length ≤ k
  | 0 => by simp [pcs]
  | k + 1 => by
    have := pcs_len n k
    unfold pcs
    split
    · simp; omega
    · omega
theorem pcs_yes {n : Int} {k : Nat} (h : tb n k = true) : pcs n (k + 1) = pcs n k ++ [piece k] := by
  conv => lhs; unfold pcs
  rw [if_pos h]
theorem pcs_no {n : Int} {k : Nat} (h : tb n k = false) : pcs n (k + 1) = pcs n k := by
  conv => lhs; unfold pcs
  rw [if_neg (by rw [h]; simp)]
theorem pcs_pre (n : Int) {j : Nat} : ∀ k, j ≤ k → pcs n j <+: pcs n k
  | 0, h => by
    obtain rfl : j = 0 := by omega
    exact List.prefix_refl _
  | k + 1, h => by
    rcases Nat.lt_or_ge j (k + 1) with h1 | h1
    · have := pcs_pre n (j := j) k (by omega)
      conv => rhs; unfold pcs
      split
      · exact this.trans (List.prefix_append _ _)
      · exact this
    · obtain rfl : j = k + 1 := by omega
      exact List.prefix_refl _
theorem pcs_flat (n : Int) : ∀ k, k ≤ 12 → ((pcs n k).map (·.data.toList)).flatten = letters n k
  | 0, _ => rfl
  | k + 1, h => by
    have ih := pcs_flat n k (by omega)
    cases ht : tb n k
    · rw [pcs_no ht, ih]
      simp [letters, ht]
    · rw [pcs_yes ht, List.map_append, List.flatten_append, ih]
      simp only [letters, ht, if_true, List.map_cons, List.map_nil, List.flatten_cons, List.flatten_nil, List.append_nil]
      rw [piece_at (by omega)]
theorem letters_len (n : Int) : ∀ k, (letters n k).length ≤ k
  | 0 => by simp [letters]
  | k + 1 => by
    have := letters_len n k
    unfold letters
    split
    · simp; omega
    · omega
theorem run_piece {k : Nat} (hk : k < 12) (w : World) : (Instr.slice 9 (.string ⟨#[68, 84, 82, 87, 83, 80, 65, 73, 77, 75, 71, 89]⟩) (some (.int .i64 (k : Int))) (some (.int .i64 ((k : Int) + 1))) none).run Tryd.prog w = .ok (.string (piece k)) w := by
  have hu : ∀ w, (underlying 9).run Tryd.prog w = .ok .string w := fun w => run_underlying Tryd.underlying9 w
  have hs : (⟨#[68, 84, 82, 87, 83, 80, 65, 73, 77, 75, 71, 89]⟩ : ByteArray).size = 12 := rfl
  have h1 : (0 : Int) ≤ (k : Int) + 1 := by omega
  have h2 : (k : Int) + 1 ≤ 12 := by omega
  have h3 : ((k : Int) + 1).toNat = k + 1 := by omega
  have hb := run_sliceBound (P := Tryd.prog) w .i64 (k : Int) (k + 1) .sliceB (by omega) (by omega)
  simp [Instr.slice, hu, Instr.sliceBounds, run_sliceBound, hs, h1, h2, h3, Result.andThen]
  rw [hb]
  simp [piece]
set_option maxRecDepth 100000 in
set_option maxHeartbeats 4000000 in
theorem each1_in (F : Fence) (n : Nat) (h32 : F.fn 24) (hro : F.round = none) (hn : 1 ≤ n) (l Bn n₀ : Nat) (r : Int) (J Jx : List ByteArray → World → Prop)
    (hY : ∀ pre x W, J pre W → pre.length < 12 → YieldAt F (n - 1) Tryd.prog l #[.string x] W fun e W' =>
      (e = .returned (.bool true) ∧ J (pre ++ [x]) W' ∧ Below n₀ W W') ∨ (e = .returned (.bool false) ∧ Jx (pre ++ [x]) W'))
    (W : World) (hBn : W.cell? ⟨Bn, 0, none⟩ = some (.int .i64 r)) (hB : Bn < n₀) (h0 : J [] W) :
    CallsIn F n Tryd.prog 24 #[.func (.yield l) #[] #[], .pointer (some ⟨Bn, 0, none⟩)] W fun e W' => (∃ v, e = .returned v) ∧
      ((∃ ys, ys = pcs r 12 ∧ J ys W') ∨ (∃ pre, pre <+: pcs r 12 ∧ Jx pre W')) := by
  refine callsIn_of_wp Tryd.func24 rfl h32 ?_ hro
  simp only [Tryd.ntmps24, List.size_toArray, List.length_cons, List.length_nil, Nat.reduceAdd, Nat.reduceSub, Array.replicate_succ, Array.replicate_zero, List.push_toArray, List.append_toArray, List.nil_append, List.cons_append]
  gi_wp2
  gi_loopw [4] (fun i wr => ∃ k : Nat, k ≤ 12 ∧ i = .int .i64 k ∧ J (pcs r k) wr ∧ Below n₀ W wr) (fun i _ => 12 - (intOf i).toNat)
  case atStart => exact ⟨0, Nat.zero_le _, rfl, h0, Below.refl _ _⟩
  case round =>
    obtain ⟨k, hk, rfl, hJs, hnx⟩ := hrel
    have hbx : wr.cell? ⟨Bn, 0, none⟩ = some (.int .i64 r) := (hnx.cell (p := ⟨Bn, 0, none⟩) hB).trans hBn
    by_cases hlt : k < 12
    · have hand := and_one (r / 2 ^ k)
      by_cases hbit : r / 2 ^ k % 2 = 1
      · rw [hbit] at hand
        have hid := pcs_yes (n := r) (k := k) (decide_eq_true hbit)
        have hpl := pcs_len r k
        obtain ⟨fn, tmps, assign, body, hy, hR⟩ := hY _ (piece k) _ hJs (by omega)
        have hsl := run_piece hlt wr
        clear hbit
        gi_wp2
        refine hR.mono ?_
        rintro e W3 (⟨rfl, hJ3, hk3⟩ | ⟨rfl, hJx3⟩)
        · gi_wp2
          go_roundw
          case rel => exact ⟨k + 1, by omega, by go_num, by rw [hid]; exact hJ3, hnx.trans hk3⟩
          case measure => simp [intOf]; omega
        · gi_wp2
          refine bodyPost_ret (results_none rfl _ _ _) rfl ?_
          exact ⟨⟨_, rfl⟩, .inr ⟨_, by rw [← hid]; exact pcs_pre r 12 (by omega), hJx3⟩⟩
      · have h0' : r / 2 ^ k % 2 = 0 := by omega
        rw [h0'] at hand
        have hid := pcs_no (n := r) (k := k) (decide_eq_false hbit)
        clear hbit h0'
        gi_wp2
        refine ⟨fun _ h => (by cases h), ?_⟩
        gi_wp2
        go_roundw
        case rel => exact ⟨k + 1, by omega, by go_num, by rw [hid]; exact hJs, hnx⟩
        case measure => simp [intOf]; omega
    · obtain rfl : k = 12 := by omega
      gi_wp2
      go_end0
      exact ⟨⟨_, rfl⟩, .inl ⟨_, rfl, hJs⟩⟩
theorem each_in (F : Fence) (n : Nat) (h24 : F.fn 18) (hro : F.round = none) (r : Int) (w : World) :
    CallsIn F n Tryd.prog 18 #[.int .i64 r] w fun e w' => e = .returned (.func (.func 24) #[] #[.pointer (some ⟨w.heap.size, 0, none⟩)]) ∧ w' = w.alloc (.cells #[.int .i64 r] 22) := by
  refine callsIn_of_wp Tryd.func18 rfl h24 ?_ hro
  simp only [Tryd.ntmps18, List.size_toArray, List.length_cons, List.length_nil, Nat.reduceAdd, Nat.reduceSub, Array.replicate_succ, Array.replicate_zero, List.push_toArray, List.append_toArray, List.nil_append, List.cons_append]
  gi_wp2
  go_ret
  exact ⟨rfl, rfl⟩
theorem each_stops (F : Fence) (n : Nat) (h32 : F.fn 24) (hro : F.round = none) (hn : 1 ≤ n) (Bn n₀ : Nat) (r : Int) (w : World) (hBn : Bn < n₀) (hn₀ : n₀ ≤ w.heap.size) (hc : w.cell? ⟨Bn, 0, none⟩ = some (.int .i64 r)) :
    SeqStopsK F n Tryd.prog 24 #[.pointer (some ⟨Bn, 0, none⟩)] (fun x : ByteArray => #[Value.string x]) (Below n₀) (fun ys => ys = pcs r 12) (fun pre => pre <+: pcs r 12) 12 w := fun l J Jx W hW hJ _ hY h0 =>
  each1_in F n h32 hro hn l Bn n₀ r J Jx hY W ((hW.cell (p := ⟨Bn, 0, none⟩) (Nat.lt_of_lt_of_le hBn hn₀)).trans hc) hBn h0
theorem str_info : (Tryd.prog.info? 9).map (fun i => (i.zero, i.size, i.bytes)) = some (some (.string ⟨#[]⟩), 1, 16) := by kernel_rfl
set_option maxRecDepth 100000 in
set_option maxHeartbeats 2000000 in
theorem appendSeq_in (F : Fence) (n : Nat) (h31 : F.fn 23) (h32 : F.fn 24) (hro : F.round = none) (hn : 3 ≤ n) (Bn : Nat) (r : Int) (w : World) (hb : Bn < w.heap.size) (hBn : w.cell? ⟨Bn, 0, none⟩ = some (.int .i64 r)) :
    CallsIn F n Tryd.prog 23 #[.slice none 0 0, .func (.func 24) #[] #[.pointer (some ⟨Bn, 0, none⟩)]] w fun e W' => ∃ v, e = .returned v ∧ W'.ownsRow w.heap.size 9 1 v (pcs r 12).length ((pcs r 12).map Value.string) ∧ Below w.heap.size w W' := by
  have h1 : 1 ≤ n := by omega
  have hil := pcs_len r 12
  obtain ⟨i0, hi, hz0, hz1, hz2⟩ := info_parts str_info
  refine callsIn_of_wp_marks Tryd.func23 rfl h31 ?_ hro
  simp only [Tryd.ntmps23, List.size_toArray, List.length_cons, List.length_nil, Nat.reduceAdd, Nat.reduceSub, Array.replicate_succ, Array.replicate_zero, List.push_toArray, List.append_toArray, List.nil_append, List.cons_append]
  gi_wp2
  have bO := Boxed.new w 26 (.slice none 0 0)
  have hB0 : Below w.heap.size w (w.alloc (.cells #[.slice none 0 0] 26)) := (Below.refl _ w).alloc (Nat.le_refl _) _
  refine wpIn_rangeFunc_ownG hro h1 (gf := 24) (lb := #[.pointer (some ⟨Bn, 0, none⟩)]) rfl h32 (enters_of Tryd.func24 (by kernel_rfl) rfl)
    (each_stops F (n - 1) h32 hro (by omega) Bn w.heap.size r _ hb (by simp) ((hB0.cell (p := ⟨Bn, 0, none⟩) hb).trans hBn)) belowK_t (belowK_b (by simp)) (Below.refl _ _) (fun _ => rfl)
    (fun pre W => (∃ v, Boxed W w.heap.size 26 v ∧ W.ownsRow w.heap.size 9 1 v pre.length (pre.map Value.string) ∧ (v = .slice none 0 0 ↔ pre = [])) ∧ Below w.heap.size w W)
    (fun _ _ _ => False)
    (OwnFrom.and (Own.from (holdsRow_own w.heap.size w.heap.size 26 9 1 (fun pre : List ByteArray => pre.length) (fun pre : List ByteArray => pre.map Value.string) (fun pre v => v = .slice none 0 0 ↔ pre = [])) _) (ownFrom_below (Nat.le_refl _) (by simp)))
    (fun _ _ _ _ _ hs _ _ => hs)
    ⟨⟨_, bO, World.ownsRow_nil _ _ _ _, by simp⟩, hB0⟩
    (fun x => { tmps := #[.slice none 0 0, .func (.func 24) #[] #[.pointer (some ⟨Bn, 0, none⟩)], .pointer (some ⟨w.heap.size, 0, none⟩), undef, .slice none 0 0, .string x, .func (.func 24) #[] #[.pointer (some ⟨Bn, 0, none⟩)], .string x, undef, undef, undef, undef, undef], defers := [] }) ?assign ?body ?done ?stop
  case assign =>
    intro l x W K hK
    gi_wp2
    exact hK
  case body =>
    rintro l pre x W ⟨⟨v, hv, hrow, hnil⟩, hB⟩ hlt
    have hc := hv.cell
    gi_wp2_with (gi_at_builtin; refine wpListIn_append_own _ rfl _ _ 26 rfl w.heap.size 9 i0 (.string ⟨#[]⟩) 1 16 Tryd.underlying26 hi hz0 hz1 hz2 rfl (by decide) _ _ _ rfl (hrow.alloc _) ⟨W.heap.size, 0, none⟩ 1 1 [.string x] rfl rfl (cell_one_new _ _ _) (by simp [Value.oneCell']) (by simp only [maxLen]; omega) (by omega) (by have := hB.size; simp; omega) ?_; intro v' w1 hown' hgrow _; obtain ⟨g', cap', rfl⟩ := ownsRow_succ hown'; obtain ⟨hv1, hv2, hr2, hk2, hb2⟩ := hv.appended (by decide) hrow hB.size (Nat.le_refl _) hown' hgrow; have hc1 := hv1.cell; have hf1 := hv1.frozen)
    exact ⟨hk2.from _, hb2, ⟨_, hv2, by simpa using hr2, by simp⟩, hB.trans hb2⟩
  case done =>
    rintro D ys W hD rfl ⟨⟨v, hv, hrow, hnil⟩, hB⟩ hK
    have hc := hv.cell
    gi_wp2
    refine ⟨by simp, .inl ⟨_, _, rfl, run_takeDeferred hK, ?_⟩⟩
    exact ⟨_, results_tmp rfl _ _ _, v, rfl, ownsRow_putObj hrow _ hK rfl, hB.trans (belowK_b (w := w) (Nat.le_refl _) W D _ _ (by simp at hD; omega) hK rfl rfl)⟩
  case stop =>
    rintro D c pre W _ _ h _
    exact h.elim
theorem each_any (r : Int) (w : World) : Calls Tryd.prog 18 #[.int .i64 r] w fun e w' => e = .returned (.func (.func 24) #[] #[.pointer (some ⟨w.heap.size, 0, none⟩)]) ∧ w' = w.alloc (.cells #[.int .i64 r] 22) :=
  callsIn_wide.1 (each_in Fence.wide 3 trivial rfl r w)
theorem appendSeq_any (Bn : Nat) (r : Int) (w : World) (hb : Bn < w.heap.size) (hBn : w.cell? ⟨Bn, 0, none⟩ = some (.int .i64 r)) : Calls Tryd.prog 23 #[.slice none 0 0, .func (.func 24) #[] #[.pointer (some ⟨Bn, 0, none⟩)]] w fun e W' => ∃ v, e = .returned v ∧ W'.ownsRow w.heap.size 9 1 v (pcs r 12).length ((pcs r 12).map Value.string) ∧ Below w.heap.size w W' :=
  callsIn_wide.1 (appendSeq_in Fence.wide 3 trivial trivial rfl (by omega) Bn r w hb hBn)
theorem join_flat : ∀ xs : List (List UInt8), Lib.join xs [] = xs.flatten
  | [] => rfl
  | x :: r => by
    rw [Lib.join_cons]
    simp [Lib.joinTail]
theorem letters_zero {n : Int} (h : bits .and .i64 n 4095 = 0) : ∀ k, k ≤ 12 → letters n k = []
  | 0, _ => rfl
  | k + 1, hk => by
    have ih := letters_zero h k (by omega)
    have hb := tb_and n 4095 (i := k) (by omega)
    rw [h, tb_zero] at hb
    have h1 : tb 4095 k = true := by
      have e : ∀ j : Fin 12, tb 4095 j.val = true := by decide
      exact e ⟨k, by omega⟩
    rw [h1, Bool.and_true] at hb
    unfold letters
    rw [← hb]
    simpa using ih
theorem letters_some {n : Int} (h : bits .and .i64 n 4095 ≠ 0) : letters n 12 ≠ [] := by
  intro he
  apply h
  have hall : ∀ k, k ≤ 12 → letters n k = [] → ∀ i, i < k → tb n i = false := by
    intro k
    induction k with
    | zero => intro _ _ i hi; omega
    | succ k ih =>
      intro hk hl i hi
      cases ht : tb n k
      · have e : letters n (k + 1) = letters n k := by
          conv => lhs; unfold letters
          rw [if_neg (by rw [ht]; simp)]
        rcases Nat.lt_or_ge i k with h1 | h1
        · exact ih (by omega) (e ▸ hl) i h1
        · obtain rfl : i = k := by omega
          exact ht
      · have e : letters n (k + 1) = letters n k ++ [letterOf k] := by
          conv => lhs; unfold letters
          rw [if_pos ht]
        rw [e] at hl
        simp at hl
  refine tb_ext (bits_range _ _ _) (by decide) fun i hi => ?_
  rw [tb_and n 4095 hi, tb_zero]
  rcases Nat.lt_or_ge i 12 with h1 | h1
  · rw [hall 12 (by omega) he i h1]; rfl
  · have h2 : tb 4095 i = false := by
      unfold tb
      have : (4095 : Int) / 2 ^ i = 0 := by
        apply Int.ediv_eq_zero_of_lt (by decide)
        have : (2 : Int) ^ 12 ≤ 2 ^ i := by
          have := Nat.pow_le_pow_right (show 0 < 2 by decide) h1
          exact_mod_cast this
        omega
      rw [this]; rfl
    rw [h2, Bool.and_false]
/-- Text. -/
theorem text_any (n : Int) (w : World) : Calls Tryd.prog 12 #[.int .i64 n] w fun e w' => e = .returned (.string ⟨(txt n).toArray⟩) ∧ Below w.heap.size w w' := by
  by_cases h : bits .and .i64 n 4095 = 0
  · have HT : Hid (txt n = [45]) := Lib.hid (if_pos (letters_zero h 12 (Nat.le_refl _)))
    go_enter Tryd.func12, Tryd.ntmps12
    go_wp2
    go_ret
    exact ⟨by rw [HT.out]; rfl, Below.refl _ _⟩
  · have HT : Hid (txt n = letters n 12) := Lib.hid (if_neg (letters_some h))
    have z1 : (bits .and .i64 n 4095 == 0) = false := beq_eq_false_iff_ne.mpr h
    have HE := Lib.hid (each_any n w)
    have HC : Hid (∀ (W : World) (Bn : Nat), Bn < W.heap.size → W.cell? ⟨Bn, 0, none⟩ = some (.int .i64 n) → Calls Tryd.prog 17 #[.func (.func 24) #[] #[.pointer (some ⟨Bn, 0, none⟩)]] W fun e W' => ∃ v, e = .returned v ∧ W'.ownsRow W.heap.size 9 1 v (pcs n 12).length ((pcs n 12).map Value.string) ∧ Below W.heap.size W W') := by
      refine Lib.hid fun W Bn hb hc => ?_
      have HA := Lib.hid (appendSeq_any Bn n W hb hc)
      clear hc HT HE h z1
      go_enter Tryd.func17, Tryd.ntmps17
      go_wp2_with (first | (go_at_call 23; (with_reducible refine HA.out.mono ?_); rintro e w1 ⟨v, rfl, ho, hb1⟩))
      go_ret
      exact ⟨v, rfl, ho, hb1⟩
    have hfl := pcs_flat n 12 (Nat.le_refl _)
    have hpl := pcs_len n 12
    have hll := letters_len n 12
    have hpos : 0 < (pcs n 12).length := by
      rcases Nat.eq_zero_or_pos (pcs n 12).length with h0 | h0
      · rw [List.eq_nil_of_length_eq_zero h0] at hfl
        exact absurd hfl.symm (letters_some h)
      · exact h0
    clear h
    go_enter Tryd.func12, Tryd.ntmps12
    go_wp2_with (first
      | (go_at_call 18; (with_reducible refine HE.out.mono ?_); rintro e w1 ⟨rfl, rfl⟩)
      | (go_at_call 17; (with_reducible refine (HC.out _ _ (by simp) (by simp)).mono ?_); rintro e w2 ⟨v, rfl, ho, hb2⟩
         obtain ⟨g, cp, rfl, hbg, hgl, hnc⟩ := own_form ho hpos
         have hj := Tryd.strings_Join g 0 cp (pcs n 12) ⟨#[]⟩ w2 (fun j x hx => by
           have hjl : j < (pcs n 12).length := (List.getElem?_eq_some_iff.1 hx).1
           rw [Nat.zero_add, ho.cellAt j (by omega)]
           simp [hx]) hgl (by omega) hnc (by
           show (Lib.join ((pcs n 12).map (·.data.toList)) []).length ≤ _
           rw [join_flat, hfl]; omega))
      | (go_at_call 16; (with_reducible refine hj.mono ?_); rintro e w3 ⟨rfl, hb3⟩))
    go_ret
    refine ⟨?_, ?_⟩
    · show Ending.returned (.string ⟨(Lib.join ((pcs n 12).map (·.data.toList)) []).toArray⟩) = _
      rw [join_flat, hfl, HT.out]
    · have hb1 : Below w.heap.size w (w.alloc (.cells #[.int .i64 n] 22)) := (Below.refl _ _).alloc (Nat.le_refl _) _
      have h12 := hb1.trans (hb2.mono hb1.size)
      exact h12.trans (hb3.mono h12.size)
end Go.Proofs.YtpkmpenjnbpblaaDoor.Rt
