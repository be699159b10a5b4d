/- Contracts of Of and Int (package jacinthref01). -/
import Derived.Test.YtfdnbefeidpccaaBigB
import Derived.Test.YtfdnbefeidpccaaNum
namespace Go.Proofs.Ytfdnbefeidpccaa.Big
open Go Go.RowKit Go.Proofs.Ytfdnbefeidpccaa.Mem
open Go.Proofs.Ytfdnbefeidpccaa.Num (mag fits)
set_option linter.unusedVariables false
set_option linter.unusedSimpArgs false
/-- The state of Of at place k: what is left of the size is m. -/
structure OfAt (M : Int) (O : List Int) (k : Nat) (m : Int) : Prop where
  len : O.length = 12
  dig : ∀ j, 0 ≤ O.getD j 0 ∧ O.getD j 0 < 65536
  zero : ∀ j, k ≤ j → O.getD j 0 = 0
  nn : 0 ≤ m
  le : m ≤ M
  sum : val O k + m * 65536 ^ k = M
theorem OfAt.start {M : Int} (h : 0 ≤ M) : OfAt M (List.replicate 12 0) 0 M :=
  ⟨rfl, (PlusAt.start [] []).dig, fun j _ => by simp only [List.getD_eq_getElem?_getD, List.getElem?_replicate]; split <;> rfl, h, Int.le_refl _, by simp [val]⟩
theorem OfAt.next {M : Int} {O : List Int} {k : Nat} {m : Int} (h : OfAt M O k m) (hk : k < 12) : OfAt M (O.set k (m % 65536)) (k + 1) (m / 65536) := by
  have h0 := h.nn
  have h1 := h.le
  refine ⟨by rw [List.length_set]; exact h.len, set_dig h.dig k (by omega) (by omega), fun j hj => ?_, by omega, by omega, ?_⟩
  · have := h.zero j (by omega)
    simp only [List.getD_eq_getElem?_getD] at this ⊢
    rw [List.getElem?_set_ne (by omega)]
    exact this
  · rw [val_succ, val_set O k _ k (Nat.le_refl k), getD_set (by have := h.len; omega), Int.pow_succ]
    have hs := h.sum
    have e := Int.mul_ediv_add_emod m 65536
    generalize m / 65536 = q at *
    generalize m % 65536 = r at *
    generalize (65536 : Int) ^ k = p at *
    grind
theorem val_zero {O : List Int} {k : Nat} (h : ∀ j, k ≤ j → O.getD j 0 = 0) : ∀ d, val O (k + d) = val O k
  | 0 => rfl
  | d + 1 => by rw [← Nat.add_assoc, val_succ, h (k + d) (by omega), val_zero h d, Int.zero_mul, Int.add_zero]
theorem OfAt.done {M : Int} {O : List Int} {m : Int} (h : OfAt M O 5 m) (hM : M ≤ 9223372036854775808) : V O M := by
  have hs := h.sum
  have hb := (val_bound h.dig 5).1
  have h0 := h.nn
  have : m = 0 := by
    have hp : (65536 : Int) ^ 5 = 1208925819614629174706176 := by decide
    rw [hp] at hs
    omega
  subst this
  refine ⟨h.len, h.dig, ?_⟩
  rw [show val O 12 = val O 5 from val_zero h.zero 7]
  omega
theorem mod_neg (m : Int) (h : 0 ≤ m) : (-m).tmod 65536 = -(m % 65536) := by rw [Int.neg_tmod, Int.tmod_eq_emod_of_nonneg h]
theorem div_neg (m : Int) (h : 0 ≤ m) : (-m).tdiv 65536 = -(m / 65536) := by rw [Int.neg_tdiv, Int.tdiv_eq_ediv_of_nonneg h]
/-- From place five on there is nothing. -/
def Low (D : List Int) : Prop := ∀ j, 5 ≤ j → D.getD j 0 = 0
def OfRel (B : Nat) (w : World) (M : Int) (neg : Bool) (n i : Value) (wr : World) : Prop := ∃ (k : Nat) (m : Int) (O : List Int), k ≤ 5 ∧ i = .int .i64 k ∧ n = .int .i64 (sg neg m) ∧
  Blk wr B 30 (bigA (List.replicate 12 0) false) ∧ Blk wr (B + 1) 30 (bigA O neg) ∧ OfAt M O k m ∧ Below B w wr
theorem OfRel.start {w : World} {M : Int} {neg : Bool} (h : 0 ≤ M) {x y : Array Value} (hx : x = bigA (List.replicate 12 0) false) (hy : y = bigA (List.replicate 12 0) neg) :
    OfRel w.heap.size w M neg (.int .i64 (sg neg M)) (.int .i64 0) ((w.alloc (.cells x 30)).alloc (.cells y 30)) := by
  subst hx hy
  exact ⟨0, M, List.replicate 12 0, by omega, rfl, rfl, (Blk.newAt rfl).alloc _, Blk.newAt (by simp), OfAt.start h, ((Below.refl _ _).alloc (Nat.le_refl _) _).alloc (by simp) _⟩
theorem OfRel.next {B : Nat} {w wr : World} {M : Int} {neg : Bool} {k : Nat} {m : Int} {O : List Int} (hk : k < 5) (bR : Blk wr B 30 (bigA (List.replicate 12 0) false)) (bO : Blk wr (B + 1) 30 (bigA O neg)) (hO : OfAt M O k m) (hb : Below B w wr)
    {n i : Value} {v : Int} (hn : n = .int .i64 (sg neg (m / 65536))) (hi : i = .int .i64 ((k : Int) + 1)) (hv : v = m % 65536) :
    OfRel B w M neg n i (wr.setCell ⟨B + 1, k, none⟩ (.int .i64 v)) := by
  subst hn hi hv
  exact ⟨k + 1, m / 65536, _, by omega, by simp, rfl, bR.far (by simp) _, bO.setv k _ (bigA_set (by have := hO.len; omega) _), hO.next (by omega), hb.setCell (by simp) _⟩
set_option maxHeartbeats 1000000 in
theorem of_nonneg (n : Int) (h0 : 0 ≤ n) (h1 : n ≤ 9223372036854775807) (w : World) :
    Calls Try.prog 15 #[.int .i64 n] w fun e w' => ∃ D, e = .returned (.agg (bigA D false)) ∧ V D n ∧ Low D ∧ Below w.heap.size w w' := by
  have hd : decide (n < 0) = false := decide_eq_false (by omega)
  go_enter Try.func15, Try.ntmps15
  go_wp2
  go_loopw [0, 4] (fun n' i wr => OfRel w.heap.size w n false n' i wr) (fun _ i _ => 5 - (intOf i).toNat)
  case atStart => exact OfRel.start (neg := false) h0 rfl rfl
  case round =>
    obtain ⟨k, m, O, hk, rfl, rfl, bR, bO, hO, hb⟩ := hrel
    have HO := Lib.hid hO
    have h2 := hO.nn
    have h3 : m ≤ 9223372036854775807 := Int.le_trans hO.le h1
    have hl := hO.len
    rw [show sg false m = m from rfl]
    by_cases hlt : k < 5
    · have cO := bO.cellv (bigA_at (k := k) (by omega))
      have fO := bO.frozen k
      clear hO hl
      go_wp2
      go_roundw
      case rel => exact OfRel.next hlt bR bO HO.out hb rfl rfl rfl
      case measure => simp [intOf]; omega
    · obtain rfl : k = 5 := by omega
      go_wp2_with (first | (with_reducible refine wpList_load_row rfl 30 (.tmp 3) rfl _ rfl 30 _ (0, 0) _ bO.heap Try.underlying30 rfl (by rw [info30, bigA_size hl]) ?_) | (with_reducible refine wpList_store_row rfl 30 (.tmp 2) (.tmp 25) rfl _ _ rfl rfl 30 _ bR.heap (by rw [info30, bigA_size hl]) (by rw [bigA_size hl, bigA_size rfl]) (bigA_one _ _) ?_))
      refine bodyPost_ret (results_cell_row rfl _ _ _ 30 _ (0, 0) _ rfl (bR.row _).heap Try.underlying30 rfl (by rw [info30, bigA_size hl])) rfl ⟨O, rfl, HO.out.done (by omega), HO.out.zero, below_setRow hb (by omega) _⟩
set_option maxHeartbeats 1000000 in
theorem of_neg (n : Int) (h0 : 0 < n) (h1 : n ≤ 9223372036854775808) (w : World) :
    Calls Try.prog 15 #[.int .i64 (-n)] w fun e w' => ∃ D, e = .returned (.agg (bigA D true)) ∧ V D n ∧ Low D ∧ Below w.heap.size w w' := by
  go_enter Try.func15, Try.ntmps15
  go_wp2
  go_loopw [0, 4] (fun n' i wr => OfRel w.heap.size w n true n' i wr) (fun _ i _ => 5 - (intOf i).toNat)
  case atStart => exact OfRel.start (neg := true) (by omega) rfl rfl
  case round =>
    obtain ⟨k, m, O, hk, rfl, rfl, bR, bO, hO, hb⟩ := hrel
    have HO := Lib.hid hO
    have h2 := hO.nn
    have h3 : m ≤ 9223372036854775808 := Int.le_trans hO.le h1
    have hl := hO.len
    rw [show sg true m = -m from rfl]
    by_cases hlt : k < 5
    · have cO := bO.cellv (bigA_at (k := k) (by omega))
      have fO := bO.frozen k
      clear hO hl
      have e1 := mod_neg m h2
      have e2 := div_neg m h2
      by_cases hz : m % 65536 = 0
      · rw [hz] at e1
        have HZ := Lib.hid hz
        clear hz
        go_wp2
        go_roundw
        case rel => exact OfRel.next hlt bR bO HO.out hb rfl rfl HZ.out.symm
        case measure => simp [intOf]; omega
      · have hz1 : 0 < m % 65536 := by omega
        clear hz
        generalize hr : m % 65536 = r at e1 hz1
        have hr2 : r < 65536 := by omega
        have HR := Lib.hid hr
        clear hr
        go_wp2
        go_roundw
        case rel => exact OfRel.next hlt bR bO HO.out hb rfl rfl HR.out.symm
        case measure => simp [intOf]; omega
    · obtain rfl : k = 5 := by omega
      go_wp2_with (first | (with_reducible refine wpList_load_row rfl 30 (.tmp 3) rfl _ rfl 30 _ (0, 0) _ bO.heap Try.underlying30 rfl (by rw [info30, bigA_size hl]) ?_) | (with_reducible refine wpList_store_row rfl 30 (.tmp 2) (.tmp 25) rfl _ _ rfl rfl 30 _ bR.heap (by rw [info30, bigA_size hl]) (by rw [bigA_size hl, bigA_size rfl]) (bigA_one _ _) ?_))
      refine bodyPost_ret (results_cell_row rfl _ _ _ 30 _ (0, 0) _ rfl (bR.row _).heap Try.underlying30 rfl (by rw [info30, bigA_size hl])) rfl ⟨O, rfl, HO.out.done (by omega), HO.out.zero, below_setRow hb (by omega) _⟩
theorem sg_mag (n : Int) : sg (decide (n < 0)) (mag n) = n := by
  unfold sg mag
  by_cases h : n < 0 <;> simp [h]
theorem mag_le {n : Int} (h : -9223372036854775808 ≤ n ∧ n ≤ 9223372036854775807) : 0 ≤ mag n ∧ mag n ≤ 9223372036854775808 := by unfold mag; split <;> omega
theorem of_any (n : Int) (hn : -9223372036854775808 ≤ n ∧ n ≤ 9223372036854775807) (w : World) :
    Calls Try.prog 15 #[.int .i64 n] w fun e w' => ∃ D, e = .returned (.agg (bigA D (decide (n < 0)))) ∧ V D (mag n) ∧ Low D ∧ Below w.heap.size w w' := by
  by_cases h : n < 0
  · have hm : mag n = -n := if_pos h
    rw [decide_eq_true h, hm]
    have := of_neg (-n) (by omega) (by omega) w
    rw [Int.neg_neg] at this
    exact this
  · have hm : mag n = n := if_neg h
    rw [decide_eq_false h, hm]
    exact of_nonneg n (by omega) hn.2 w
end Go.Proofs.Ytfdnbefeidpccaa.Big
