/- Contract of Mul (package jacinthref01). -/
import Derived.Test.YtfdnbefeidpccaaBigC
namespace Go.Proofs.Ytfdnbefeidpccaa.Big
open Go Go.RowKit Go.Proofs.Ytfdnbefeidpccaa.Mem
set_option linter.unusedVariables false
set_option linter.unusedSimpArgs false
theorem val_set_at (O : List Int) (i : Nat) (v : Int) (hi : i < O.length) : ∀ n, i < n → val (O.set i v) n = val O n + (v - O.getD i 0) * 65536 ^ i
  | 0, h => by omega
  | n + 1, h => by
    rw [val_succ, val_succ]
    by_cases e : i = n
    · subst e
      rw [val_set O i v i (Nat.le_refl i), getD_set hi]
      grind
    · rw [val_set_at O i v hi n (by omega)]
      have : (O.set i v).getD n 0 = O.getD n 0 := by
        simp only [List.getD_eq_getElem?_getD]
        rw [List.getElem?_set_ne (by omega)]
      rw [this]
      omega
theorem val_zero0 (D : List Int) : val D 0 = 0 := rfl
/-- The state of Mul at the places i (of the one) and k (of the other). -/
structure MulAt (A B O : List Int) (i k : Nat) (c : Int) : Prop where
  len : O.length = 12
  dig : ∀ j, 0 ≤ O.getD j 0 ∧ O.getD j 0 < 65536
  zero : ∀ j, i + 5 ≤ j → O.getD j 0 = 0
  c0 : 0 ≤ c
  c1 : c < 65536
  sum : val O 12 + c * 65536 ^ (i + k) = val A i * val B 5 + A.getD i 0 * 65536 ^ i * val B k
theorem MulAt.start (A B : List Int) : MulAt A B (List.replicate 12 0) 0 0 0 := by
  refine ⟨rfl, (PlusAt.start [] []).dig, fun j _ => by simp only [List.getD_eq_getElem?_getD, List.getElem?_replicate]; split <;> rfl, by decide, by decide, ?_⟩
  have : val (List.replicate 12 0) 12 = 0 := by decide
  rw [this]
  simp [val]
theorem prod_le {a b : Int} (ha : 0 ≤ a ∧ a < 65536) (hb : 0 ≤ b ∧ b < 65536) : 0 ≤ a * b ∧ a * b ≤ 4294836225 := by
  refine ⟨Int.mul_nonneg ha.1 hb.1, ?_⟩
  have := Int.mul_le_mul (show a ≤ 65535 by omega) (show b ≤ 65535 by omega) hb.1 (by decide : (0 : Int) ≤ 65535)
  simpa using this
theorem MulAt.step {A B O : List Int} {i k : Nat} {c : Int} (h : MulAt A B O i k c) (hA : ∀ k, 0 ≤ A.getD k 0 ∧ A.getD k 0 < 65536) (hB : ∀ k, 0 ≤ B.getD k 0 ∧ B.getD k 0 < 65536) (hi : i < 5) (hk : k < 5) {s : Int}
    (hs : s = O.getD (i + k) 0 + A.getD i 0 * B.getD k 0 + c) : MulAt A B (O.set (i + k) (s % 65536)) i (k + 1) (s / 65536) := by
  have hp := prod_le (hA i) (hB k)
  have ho := h.dig (i + k)
  have hc0 := h.c0; have hc1 := h.c1
  have hl := h.len
  refine ⟨by rw [List.length_set]; exact h.len, set_dig h.dig (i + k) (by omega) (by omega), fun j hj => ?_, by omega, by omega, ?_⟩
  · have := h.zero j hj
    simp only [List.getD_eq_getElem?_getD] at this ⊢
    rw [List.getElem?_set_ne (by omega)]
    exact this
  · rw [val_set_at O (i + k) _ (by omega) 12 (by omega), val_succ B k, show i + (k + 1) = (i + k) + 1 by omega, Int.pow_succ _ (i + k)]
    have hsum := h.sum
    generalize val O 12 = v at *
    have e := Int.mul_ediv_add_emod s 65536
    rw [Int.pow_add] at hsum ⊢
    clear hp ho h hA hB
    generalize s / 65536 = q at *
    generalize s % 65536 = r at *
    generalize (65536 : Int) ^ i = p at *
    generalize (65536 : Int) ^ k = p' at *
    generalize O.getD (i + k) 0 = o at *
    generalize A.getD i 0 = x at *
    generalize B.getD k 0 = y at *
    grind
theorem MulAt.turn {A B O : List Int} {i : Nat} {c : Int} (h : MulAt A B O i 5 c) (hi : i < 5) : MulAt A B (O.set (i + 5) c) (i + 1) 0 0 := by
  have hl := h.len
  have hz := h.zero (i + 5) (Nat.le_refl _)
  refine ⟨by rw [List.length_set]; exact h.len, set_dig h.dig (i + 5) h.c0 h.c1, fun j hj => ?_, by decide, by decide, ?_⟩
  · have := h.zero j (by omega)
    simp only [List.getD_eq_getElem?_getD] at this ⊢
    rw [List.getElem?_set_ne (by omega)]
    exact this
  · rw [val_set_at O (i + 5) _ (by omega) 12 (by omega), hz, val_succ A i]
    have hsum := h.sum
    simp only [val_zero0]
    generalize val O 12 = v at *
    generalize (65536 : Int) ^ (i + 5) = p at *
    generalize (65536 : Int) ^ i = p' at *
    generalize val B 5 = b at *
    generalize val A i = a at *
    grind
theorem MulAt.done {A B O : List Int} (h : MulAt A B O 5 0 0) {m n : Int} (hA : V A m) (hB : V B n) (lA : Low A) (lB : Low B) : V O (m * n) := by
  have hs := h.sum
  have ea : val A 12 = val A 5 := val_zero lA 7
  have eb : val B 12 = val B 5 := val_zero lB 7
  rw [← ea, ← eb, hA.val, hB.val] at hs
  exact ⟨h.len, h.dig, by simpa [val_zero0] using hs⟩
theorem bigA_setneg {D : List Int} {neg : Bool} (h : D.length = 12) (v : Bool) : (bigA D neg).setIfInBounds 12 (.bool v) = bigA D v := by
  match D, h with
  | [d0, d1, d2, d3, d4, d5, d6, d7, d8, d9, d10, d11], _ => rfl
set_option maxHeartbeats 2000000 in
theorem mul_any {A B : List Int} {m n : Int} (na nb : Bool) (hA : V A m) (hB : V B n) (lA : Low A) (lB : Low B) (w : World) :
    Calls Try.prog 29 #[.agg (bigA A na), .agg (bigA B nb)] w (BigIs (na != nb) (m * n) w) := by
  have eA := bigA_neg (neg := na) hA.len
  have eB := bigA_neg (neg := nb) hB.len
  have HA := Lib.hid hA
  have HB := Lib.hid hB
  have HlA := Lib.hid lA
  have HlB := Lib.hid lB
  clear hA hB lA lB
  go_enter Try.func29, Try.ntmps29
  go_wp2
  go_loopw [6, 7] (fun i c wr => ∃ (k : Nat) (O : List Int), k ≤ 5 ∧ i = .int .i64 k ∧ Blk wr w.heap.size 30 (bigA A na) ∧ Blk wr (w.heap.size + 1) 30 (bigA B nb) ∧ Blk wr (w.heap.size + 1 + 1) 30 (bigA (List.replicate 12 0) false) ∧ Blk wr (w.heap.size + 1 + 1 + 1) 30 (bigA O false) ∧ MulAt A B O k 0 0 ∧ Below w.heap.size w wr)
    (fun i _ _ => 5 - (intOf i).toNat)
  case atStart => 
    refine ⟨0, List.replicate 12 0, by omega, rfl, ?_, ?_, ?_, ?_, MulAt.start A B, ?_⟩
    · exact (((Blk.new _ _ _).alloc _).alloc _).alloc _
    · exact ((Blk.newAt (by simp)).alloc _).alloc _
    · exact (Blk.newAt (by simp)).alloc _
    · exact Blk.newAt (by simp)
    · exact ((((Below.refl _ _).alloc (Nat.le_refl _) _).alloc (by simp) _).alloc (by simp; omega) _).alloc (by simp; omega) _
  case round =>
    obtain ⟨i, O, hi, rfl, bA, bB, bR, bO, hM, hb⟩ := hrel
    by_cases hlt : i < 5
    · have HM := Lib.hid hM
      clear hM
      obtain ⟨wo, hwo⟩ : ∃ wo : World, wo = wr := ⟨_, rfl⟩
      rw [← hwo] at bA bB bR bO hb ⊢
      clear hwo
      go_wp2
      go_loopw [7, 8] (fun c k wr => ∃ (j : Nat) (cc : Int) (O : List Int), j ≤ 5 ∧ k = .int .i64 j ∧ c = .int .i64 cc ∧ Blk wr w.heap.size 30 (bigA A na) ∧ Blk wr (w.heap.size + 1) 30 (bigA B nb) ∧ Blk wr (w.heap.size + 1 + 1) 30 (bigA (List.replicate 12 0) false) ∧ Blk wr (w.heap.size + 1 + 1 + 1) 30 (bigA O false) ∧ MulAt A B O i j cc ∧ Below w.heap.size w wr)
        (fun _ k _ => 5 - (intOf k).toNat)
      case atStart => exact ⟨0, 0, O, by omega, rfl, rfl, bA, bB, bR, bO, HM.out, hb⟩
      case round =>
        obtain ⟨k, cc, O, hk, rfl, rfl, bA, bB, bR, bO, hM, hb⟩ := hrel
        have hOl := hM.len
        have c0 := hM.c0
        have c1 := hM.c1
        by_cases hlk : k < 5
        · have hA := HA.out
          have hB := HB.out
          have hst := hM.step hA.dig hB.dig hlt hlk rfl
          have cA := bA.cellv (bigA_at (k := i) (by have := hA.len; omega))
          have cB := bB.cellv (bigA_at (k := k) (by have := hB.len; omega))
          have cO := bO.cellv (bigA_at (k := i + k) (by omega))
          have fO := bO.frozen (i + k)
          have dA := hA.dig i
          have dB := hB.dig k
          have dO := hM.dig (i + k)
          have hp := prod_le dA dB
          have hset := fun v => bigA_set (D := O) (neg := false) (k := i + k) (by omega) v
          have HSt := Lib.hid hst
          have HSet := Lib.hid hset
          clear hA hB hst hset hM hOl
          generalize hxA : A.getD i 0 = xA at cA dA hp HSt
          generalize hxB : B.getD k 0 = xB at cB dB hp HSt
          generalize hxO : O.getD (i + k) 0 = xO at cO dO HSt
          clear hxA hxB hxO
          go_wp2
          go_quiet (fail)
          go_wp2
          go_roundw
          case rel =>
            refine ⟨k + 1, _, _, by omega, by go_num, rfl, bA.far (by simp; omega) _, bB.far (by simp) _, bR.far (by simp) _, bO.setv (i + k) _ (HSet.out _), ?_, ?_⟩
            · exact HSt.out
            · exact (below_drewN hb _).setCell (by simp; omega) _
          case measure => simp [intOf]; omega
        · obtain rfl : k = 5 := by omega
          have cO := bO.cellv (bigA_at (k := i + 5) (by omega))
          have hz := hM.zero (i + 5) (Nat.le_refl _)
          rw [hz] at cO
          have fO := bO.frozen (i + 5)
          have HM := Lib.hid (hM.turn hlt)
          have HSet := Lib.hid (bigA_set (D := O) (neg := false) (k := i + 5) (by omega) cc)
          clear hM hz hOl
          go_wp2
          go_roundw
          case rel => exact ⟨i + 1, _, by omega, by go_num, bA.far (by simp; omega) _, bB.far (by simp) _, bR.far (by simp) _, bO.setv (i + 5) _ HSet.out, HM.out, hb.setCell (by simp; omega) _⟩
          case measure => simp [intOf]; omega
    · obtain rfl : i = 5 := by omega
      have hl := hM.len
      have cA := bA.cellv eA
      have cB := bB.cellv eB
      have cO := bO.cellv (bigA_neg hl)
      have fO := bO.frozen 12
      have HL := Lib.hid hl
      clear hl
      have bO' : Blk (wr.setCell ⟨w.heap.size + 1 + 1 + 1, 12, none⟩ (.bool (na != nb))) (w.heap.size + 1 + 1 + 1) 30 (bigA O (na != nb)) := bO.setv 12 _ (bigA_setneg HL.out _)
      have bR' : Blk (wr.setCell ⟨w.heap.size + 1 + 1 + 1, 12, none⟩ (.bool (na != nb))) (w.heap.size + 1 + 1) 30 (bigA (List.replicate 12 0) false) := bR.far (by simp) _
      go_wp2_with (first | (with_reducible refine wpList_load_row rfl 30 (.tmp 5) rfl _ rfl 30 _ (0, 0) _ bO'.heap Try.underlying30 rfl (by rw [info30, bigA_size HL.out]) ?_) | (with_reducible refine wpList_store_row rfl 30 (.tmp 4) (.tmp 60) rfl _ _ rfl rfl 30 _ bR'.heap (by rw [info30, bigA_size HL.out]) (by rw [bigA_size HL.out, bigA_size rfl]) (bigA_one _ _) ?_))
      refine bodyPost_ret (results_cell_row rfl _ _ _ 30 _ (0, 0) _ rfl (bR'.row _).heap Try.underlying30 rfl (by rw [info30, bigA_size HL.out])) rfl ⟨O, rfl, hM.done HA.out HB.out HlA.out HlB.out, below_setRow (hb.setCell (by simp; omega) _) (by omega) _⟩
end Go.Proofs.Ytfdnbefeidpccaa.Big
