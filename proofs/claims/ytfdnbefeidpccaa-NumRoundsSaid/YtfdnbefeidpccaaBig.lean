/- Contracts of the document's numbers (package jacinthref01): what each function gives, told by the size of a list of twelve digits. -/
import Derived.Test.YtfdnbefeidpccaaProg
import Derived.Test.YtfdnbefeidpccaaMem
import Derived.Deep.QuietTactic
import Derived.BigQuiet
import Derived.WideLaws
import Derived.Outline
import Derived.OwnWalk
import Derived.LoopTactic
import Derived.Lib.Hide
namespace Go.Proofs.Ytfdnbefeidpccaa.Big
open Go Go.RowKit Go.Proofs.Ytfdnbefeidpccaa.Mem
set_option linter.unusedVariables false
set_option linter.unusedSimpArgs false

def bigL (D : List Int) (neg : Bool) : List Value := D.map (Value.int .i64) ++ [Value.bool neg]
def bigA (D : List Int) (neg : Bool) : Array Value := (bigL D neg).toArray
theorem bigA_at {D : List Int} {neg : Bool} {k : Nat} (h : k < D.length) : (bigA D neg)[k]? = some (.int .i64 (D.getD k 0)) := by
  simp [bigA, bigL, List.getElem?_append, h]
theorem bigA_neg {D : List Int} {neg : Bool} (h : D.length = 12) : (bigA D neg)[12]? = some (.bool neg) := by
  simp [bigA, bigL, List.getElem?_append, h]
theorem bigA_set {D : List Int} {neg : Bool} {k : Nat} (h : k < D.length) (v : Int) : (bigA D neg).setIfInBounds k (.int .i64 v) = bigA (D.set k v) neg := by
  simp [bigA, bigL, List.set_append, h, List.map_set]
theorem bigA_size {D : List Int} {neg : Bool} (h : D.length = 12) : (bigA D neg).size = 13 := by simp [bigA, bigL, h]
theorem bigA_one (D : List Int) (neg : Bool) : (bigA D neg).all (·.oneCell') = true := by
  simp [bigA, bigL, Value.oneCell']
/-- The first k digits' number. -/
def val (D : List Int) : Nat → Int
  | 0 => 0
  | k + 1 => val D k + D.getD k 0 * 65536 ^ k
theorem val_succ (D : List Int) (k : Nat) : val D (k + 1) = val D k + D.getD k 0 * 65536 ^ k := rfl
theorem val_set (D : List Int) (i : Nat) (v : Int) : ∀ k, k ≤ i → val (D.set i v) k = val D k
  | 0, _ => rfl
  | k + 1, h => by
    simp only [val]
    rw [val_set D i v k (by omega)]
    have : (D.set i v).getD k 0 = D.getD k 0 := by
      simp only [List.getD_eq_getElem?_getD]
      rw [List.getElem?_set_ne (by omega)]
    rw [this]
/-- Twelve right digits of a size. -/
structure V (D : List Int) (m : Int) : Prop where
  len : D.length = 12
  dig : ∀ k, 0 ≤ D.getD k 0 ∧ D.getD k 0 < 65536
  val : val D 12 = m
theorem pow_pos (k : Nat) : (0 : Int) < 65536 ^ k := Int.pow_pos (by decide)
theorem val_bound {D : List Int} (h : ∀ k, 0 ≤ D.getD k 0 ∧ D.getD k 0 < 65536) : ∀ k, 0 ≤ val D k ∧ val D k < 65536 ^ k
  | 0 => by simp [val]
  | k + 1 => by
    have ih := val_bound h k
    have hp := pow_pos k
    have hd := h k
    simp only [val]
    rw [Int.pow_succ]
    have h1 := Int.mul_nonneg hd.1 (Int.le_of_lt hp)
    have h2 : D.getD k 0 * 65536 ^ k ≤ 65535 * 65536 ^ k := Int.mul_le_mul_of_nonneg_right (by omega) (Int.le_of_lt hp)
    omega
theorem set_dig {D : List Int} (h : ∀ k, 0 ≤ D.getD k 0 ∧ D.getD k 0 < 65536) (i : Nat) {v : Int} (h0 : 0 ≤ v) (h1 : v < 65536) : ∀ k, 0 ≤ (D.set i v).getD k 0 ∧ (D.set i v).getD k 0 < 65536 := by
  intro k
  have hk := h k
  simp only [List.getD_eq_getElem?_getD, List.getElem?_set] at hk ⊢
  split
  · next e =>
    subst e
    split
    · simpa using ⟨h0, h1⟩
    · simp
  · exact hk
theorem getD_set {D : List Int} {k : Nat} (h : k < D.length) (v : Int) : (D.set k v).getD k 0 = v := by
  simp [List.getD_eq_getElem?_getD, List.getElem?_set, h]
/-- The state of plus at place k: what is behind it. -/
structure PlusAt (A B O : List Int) (k : Nat) (c : Int) : Prop where
  len : O.length = 12
  dig : ∀ j, 0 ≤ O.getD j 0 ∧ O.getD j 0 < 65536
  c0 : 0 ≤ c
  c1 : c ≤ 1
  sum : val A k + val B k = val O k + c * 65536 ^ k
theorem PlusAt.start (A B : List Int) : PlusAt A B (List.replicate 12 0) 0 0 :=
  ⟨rfl, fun j => by simp only [List.getD_eq_getElem?_getD, List.getElem?_replicate]; split <;> decide, by decide, by decide, rfl⟩
theorem PlusAt.next {A B O : List Int} {k : Nat} {c : Int} (h : PlusAt A B O k c) (hA : ∀ k, 0 ≤ A.getD k 0 ∧ A.getD k 0 < 65536) (hB : ∀ k, 0 ≤ B.getD k 0 ∧ B.getD k 0 < 65536) (hk : k < 12) :
    PlusAt A B (O.set k ((A.getD k 0 + B.getD k 0 + c) % 65536)) (k + 1) ((A.getD k 0 + B.getD k 0 + c) / 65536) := by
  have hc0 := h.c0; have hc1 := h.c1; have a := hA k; have b := hB k
  refine ⟨by rw [List.length_set]; exact h.len, set_dig h.dig k (by omega) (by omega), by omega, by omega, ?_⟩
  simp only [val]
  rw [val_set O k _ k (Nat.le_refl k), getD_set (by have := h.len; omega), Int.pow_succ]
  have hs := h.sum
  have e := Int.mul_ediv_add_emod (A.getD k 0 + B.getD k 0 + c) 65536
  generalize (A.getD k 0 + B.getD k 0 + c) / 65536 = q at *
  generalize (A.getD k 0 + B.getD k 0 + c) % 65536 = r at *
  generalize (65536 : Int) ^ k = p at *
  generalize A.getD k 0 = x at *
  generalize B.getD k 0 = y at *
  grind
theorem PlusAt.done {A B O : List Int} {c : Int} (h : PlusAt A B O 12 c) {m n : Int} (hA : V A m) (hB : V B n) (hs : m + n < 65536 ^ 12) : V O (m + n) := by
  have hs' := h.sum
  rw [hA.val, hB.val] at hs'
  have hb := val_bound h.dig 12
  have h0 := h.c0; have h1 := h.c1
  have hp := pow_pos 12
  have : c = 0 := by
    rcases (show c = 0 ∨ c = 1 by omega) with e | e
    · exact e
    · subst e; omega
  subst this
  exact ⟨h.len, h.dig, by omega⟩
/-- The state of minus at place k. -/
structure MinusAt (A B O : List Int) (k : Nat) (c : Int) : Prop where
  len : O.length = 12
  dig : ∀ j, 0 ≤ O.getD j 0 ∧ O.getD j 0 < 65536
  c0 : 0 ≤ c
  c1 : c ≤ 1
  sum : val A k - val B k = val O k - c * 65536 ^ k
theorem MinusAt.start (A B : List Int) : MinusAt A B (List.replicate 12 0) 0 0 :=
  ⟨rfl, (PlusAt.start A B).dig, by decide, by decide, rfl⟩
theorem MinusAt.next {A B O : List Int} {k : Nat} {c : Int} (h : MinusAt A B O k c) (hA : ∀ k, 0 ≤ A.getD k 0 ∧ A.getD k 0 < 65536) (hB : ∀ k, 0 ≤ B.getD k 0 ∧ B.getD k 0 < 65536) (hk : k < 12)
    {s c' : Int} (hs : 0 ≤ s ∧ s < 65536) (hc : 0 ≤ c' ∧ c' ≤ 1) (e : A.getD k 0 - B.getD k 0 - c = s - c' * 65536) : MinusAt A B (O.set k s) (k + 1) c' := by
  refine ⟨by rw [List.length_set]; exact h.len, set_dig h.dig k hs.1 hs.2, hc.1, hc.2, ?_⟩
  simp only [val]
  rw [val_set O k _ k (Nat.le_refl k), getD_set (by have := h.len; omega), Int.pow_succ]
  have hs := h.sum
  generalize (65536 : Int) ^ k = p at *
  generalize A.getD k 0 = x at *
  generalize B.getD k 0 = y at *
  grind
theorem MinusAt.done {A B O : List Int} {c : Int} (h : MinusAt A B O 12 c) {m n : Int} (hA : V A m) (hB : V B n) (hs : n ≤ m) : V O (m - n) := by
  have hs' := h.sum
  rw [hA.val, hB.val] at hs'
  have hb := val_bound h.dig 12
  have h0 := h.c0; have h1 := h.c1
  have hp := pow_pos 12
  have : c = 0 := by
    rcases (show c = 0 ∨ c = 1 by omega) with e | e
    · exact e
    · subst e; omega
  subst this
  exact ⟨h.len, h.dig, by omega⟩
/-- From place k on the digits are alike. -/
def Top (A B : List Int) (k : Nat) : Prop := val A 12 - val A k = val B 12 - val B k
theorem Top.start (A B : List Int) : Top A B 12 := by simp [Top]
theorem Top.next {A B : List Int} {k : Nat} (h : Top A B (k + 1)) (e : A.getD k 0 = B.getD k 0) : Top A B k := by
  unfold Top at *
  rw [val_succ A k, val_succ B k, e] at h
  omega
theorem Top.done {A B : List Int} {m n : Int} (h : Top A B 0) (hA : V A m) (hB : V B n) : decide (m < n) = false := by
  unfold Top at h
  rw [hA.val, hB.val] at h
  simp only [val] at h
  exact decide_eq_false (by omega)
theorem Top.parts {A B : List Int} {m n : Int} {k : Nat} (h : Top A B (k + 1)) (hA : V A m) (hB : V B n) (e : A.getD k 0 ≠ B.getD k 0) : decide (m < n) = decide (A.getD k 0 < B.getD k 0) := by
  unfold Top at h
  rw [hA.val, hB.val, val_succ A k, val_succ B k] at h
  have ha := val_bound hA.dig k
  have hb := val_bound hB.dig k
  have hp := pow_pos k
  generalize (65536 : Int) ^ k = p at *
  generalize A.getD k 0 = x at *
  generalize B.getD k 0 = y at *
  apply decide_eq_decide.mpr
  rcases Int.lt_or_gt_of_ne e with hl | hl
  · have h1 : (x + 1) * p ≤ y * p := Int.mul_le_mul_of_nonneg_right (by omega) (Int.le_of_lt hp)
    rw [Int.add_mul] at h1
    omega
  · have h1 : (y + 1) * p ≤ x * p := Int.mul_le_mul_of_nonneg_right (by omega) (Int.le_of_lt hp)
    rw [Int.add_mul] at h1
    omega
end Go.Proofs.Ytfdnbefeidpccaa.Big
