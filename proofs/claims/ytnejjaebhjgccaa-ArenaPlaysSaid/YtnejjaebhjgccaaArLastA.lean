/- The plain law of ArenaLast. -/
import Derived.Test.YtnejjaebhjgccaaArJ
namespace Go.Proofs.Ytnejjaebhjgccaa.Ar
open Go Go.RowKit Go.Proofs.Ytnejjaebhjgccaa.Mem Go.Proofs.Ytnejjaebhjgccaa.Bits
set_option linter.unusedVariables false
set_option linter.unusedSimpArgs false
/-- M slots were taken; those of fd are free again. -/
def slD (M : Nat) (fd : List Nat) : List Sl := (List.range M).map fun j => if j ∈ fd then ⟨1, false, 0⟩ else ⟨1, true, j⟩
theorem slD_len (M : Nat) (fd : List Nat) : (slD M fd).length = M := by simp [slD]
theorem slD_at {M : Nat} {fd : List Nat} {j : Nat} (h : j < M) : (slD M fd)[j]? = some (if j ∈ fd then ⟨1, false, 0⟩ else ⟨1, true, j⟩) := by simp [slD, h]
theorem slD_out {M : Nat} {fd : List Nat} {j : Nat} (h : M ≤ j) : (slD M fd)[j]? = none := by simp [slD, h]
theorem slD_gens {M : Nat} {fd : List Nat} : ∀ s ∈ slD M fd, s.gen = 1 := by
  intro s hs
  simp only [slD, List.mem_map] at hs
  obtain ⟨j, _, rfl⟩ := hs
  split <;> rfl
structure FdOk (M : Nat) (fd : List Nat) : Prop where
  lt : ∀ k ∈ fd, k < M
  nodup : fd.Nodup
theorem FdOk.len {M : Nat} {fd : List Nat} (h : FdOk M fd) : fd.length ≤ M := nodup_lt M fd h.nodup h.lt
theorem goodD {M : Nat} {fd : List Nat} {cap : Int} (h : FdOk M fd) (hM : (M : Int) ≤ cap) (hc : cap ≤ 65536) : Good 1 (slD M fd) fd cap :=
  ⟨fun s hs => by rw [slD_gens s hs]; omega, by rw [slD_len]; exact hM, hc, h.nodup, fun k hk => ⟨_, slD_at (h.lt k hk), by rw [if_pos hk]⟩, by rw [slD_len]; exact h.len⟩
theorem allocD {k : Nat} {cap : Int} (h : (k : Int) < cap) : allocS (slD k []) [] cap k = (65536 + (k : Int), 0, slD (k + 1) [], []) := by
  unfold allocS
  simp only [List.getLast?_nil, slD_len]
  rw [if_neg (by omega)]
  simp [slD, List.range_succ]
theorem findD {M : Nat} {fd : List Nat} {k : Nat} (hk : k < M) (hM : M ≤ 65536) : findN (slD M fd) (65536 + (k : Int)) = if k ∈ fd then none else some k := by
  unfold findN
  rw [if_pos (by omega), show ((65536 + (k : Int)) % 65536).toNat = k by omega, slD_at hk, show (65536 + (k : Int)) / 65536 = 1 by omega]
  by_cases h : k ∈ fd <;> simp [h]
theorem freeD_in {M : Nat} {fd : List Nat} {k : Nat} (hk : k < M) (hM : M ≤ 65536) (h : k ∈ fd) : freeS (slD M fd) fd (65536 + (k : Int)) = (-25, slD M fd, fd) := by
  unfold freeS
  rw [findD hk hM, if_pos h]
theorem freeD_out {M : Nat} {fd : List Nat} {k : Nat} (hk : k < M) (hM : M ≤ 65536) (h : k ∉ fd) : freeS (slD M fd) fd (65536 + (k : Int)) = (0, slD M (fd ++ [k]), fd ++ [k]) := by
  unfold freeS
  rw [findD hk hM, if_neg h]
  simp only [Prod.mk.injEq, true_and, and_true]
  apply List.ext_getElem?
  intro j
  rw [List.getD_eq_getElem?_getD, slD_at hk, if_neg h]
  by_cases hj : j < M
  · rw [slD_at hj]
    by_cases hkj : k = j
    · subst hkj
      rw [List.getElem?_set_self (by rw [slD_len]; exact hk)]
      simp
    · rw [List.getElem?_set_ne hkj, slD_at hj]
      simp [Ne.symm hkj]
  · rw [slD_out (by omega), List.getElem?_eq_none (by rw [List.length_set, slD_len]; omega)]
/-- In the last loop m freed slots are left. -/
structure Back (M : Nat) (fd : List Nat) (m : Nat) (sl : List Sl) : Prop where
  len : sl.length = M
  gens : ∀ s ∈ sl, 0 ≤ s.gen ∧ s.gen ≤ 2
  wait : ∀ j ∈ fd.take m, sl[j]? = some ⟨1, false, 0⟩
  done : ∀ j, j < M → j ∉ fd.take m → ∃ s, sl[j]? = some s ∧ s.tk = true
theorem backD {M : Nat} {fd : List Nat} (h : FdOk M fd) : Back M fd fd.length (slD M fd) := by
  refine ⟨slD_len _ _, fun s hs => by rw [slD_gens s hs]; omega, fun j hj => ?_, fun j hj hn => ?_⟩
  · rw [List.take_length] at hj
    rw [slD_at (h.lt j hj), if_pos hj]
  · rw [List.take_length] at hn
    exact ⟨_, slD_at hj, by rw [if_neg hn]⟩
theorem Back.good {M : Nat} {fd : List Nat} {m : Nat} {sl : List Sl} {cap : Int} (b : Back M fd m sl) (h : FdOk M fd) (hM : (M : Int) ≤ cap) (hc : cap ≤ 65536) : Good 2 sl (fd.take m) cap := by
  have hn : (fd.take m).Nodup := h.nodup.sublist (List.take_sublist _ _)
  refine ⟨b.gens, by rw [b.len]; exact hM, hc, hn, fun k hk => ⟨_, b.wait k hk, rfl⟩, ?_⟩
  rw [b.len]
  exact nodup_lt M _ hn (fun x hx => h.lt x (List.mem_of_mem_take hx))
theorem Back.step {M : Nat} {fd : List Nat} {m : Nat} {sl : List Sl} {cap : Int} (b : Back M fd (m + 1) sl) (h : FdOk M fd) (hm : m < fd.length) :
    allocS sl (fd.take (m + 1)) cap 7 = (131072 + (fd[m] : Int), 0, sl.set fd[m] ⟨2, true, 7⟩, fd.take m) ∧ Back M fd m (sl.set fd[m] ⟨2, true, 7⟩) := by
  have ht : fd.take (m + 1) = fd.take m ++ [fd[m]] := List.take_succ_eq_append_getElem hm
  have hw := b.wait fd[m] (by rw [ht, List.mem_append]; exact .inr (List.mem_singleton.2 rfl))
  have hlt := h.lt fd[m] (List.getElem_mem hm)
  have hnd := h.nodup.sublist (List.take_sublist (m + 1) fd)
  rw [ht, List.nodup_append] at hnd
  refine ⟨?_, by simpa using b.len, fun s hs => ?_, fun j hj => ?_, fun j hj hn => ?_⟩
  · unfold allocS
    rw [ht]
    simp only [List.getLast?_concat, List.dropLast_concat, List.getD_eq_getElem?_getD, hw, Option.getD_some]
    simp
  · rcases List.mem_or_eq_of_mem_set hs with h' | h'
    · exact b.gens s h'
    · subst h'; simp
  · have hne : fd[m] ≠ j := fun e => hnd.2.2 j hj fd[m] (by simp) e.symm
    rw [List.getElem?_set_ne hne]
    exact b.wait j (by rw [ht, List.mem_append]; exact .inl hj)
  · by_cases e : fd[m] = j
    · subst e
      exact ⟨_, List.getElem?_set_self (by rw [b.len]; exact hlt), rfl⟩
    · rw [List.getElem?_set_ne e]
      exact b.done j hj (by rw [ht, List.mem_append, List.mem_singleton]; exact fun h => h.elim hn (fun e' => e e'.symm))
theorem cnt_all : ∀ (sl : List Sl), (∀ s ∈ sl, s.tk = true) → cntN sl = sl.length := fun sl h => List.countP_eq_length.2 h
theorem Back.cnt {M : Nat} {fd : List Nat} {sl : List Sl} (b : Back M fd 0 sl) : cntN sl = M := by
  rw [cnt_all, b.len]
  intro s hs
  obtain ⟨j, hj, rfl⟩ := List.getElem_of_mem hs
  obtain ⟨t, ht, htk⟩ := b.done j (by rw [← b.len]; exact hj) (by simp)
  rw [List.getElem?_eq_getElem hj] at ht
  injection ht with ht
  rw [ht]
  exact htk
end Go.Proofs.Ytnejjaebhjgccaa.Ar
