/- Alloc and Free over the abstract arena. -/
import Derived.Test.YtnejjaebhjgccaaArH
namespace Go.Proofs.Ytnejjaebhjgccaa.Ar
open Go Go.RowKit Go.Proofs.Ytnejjaebhjgccaa.Mem Go.Proofs.Ytnejjaebhjgccaa.Bits
set_option linter.unusedVariables false
set_option linter.unusedSimpArgs false
theorem nodup_lt : ∀ (n : Nat) (l : List Nat), l.Nodup → (∀ x ∈ l, x < n) → l.length ≤ n
  | 0, l, _, h => by
    cases l with
    | nil => simp
    | cons a t => exact absurd (h a (by simp)) (by omega)
  | n + 1, l, hn, h => by
    have ih := nodup_lt n (l.erase n) (hn.erase n) (fun x hx => by
      have := (hn.mem_erase_iff).mp hx
      have := h x this.2
      omega)
    rw [List.length_erase] at ih
    split at ih <;> omega
/-- How many slots are taken. -/
def cntN (sl : List Sl) : Nat := sl.countP (·.tk)
theorem cntN_le (sl : List Sl) : cntN sl ≤ sl.length := List.countP_le_length
theorem cntN_snoc (sl : List Sl) (s : Sl) : cntN (sl ++ [s]) = cntN sl + (if s.tk then 1 else 0) := by
  simp only [cntN, List.countP_append, List.countP_cons, List.countP_nil]
  cases s.tk <;> simp
theorem cntN_set : ∀ (sl : List Sl) (i : Nat) (s t : Sl), sl[i]? = some s → cntN (sl.set i t) + (if s.tk then 1 else 0) = cntN sl + (if t.tk then 1 else 0)
  | [], i, s, t, h => by simp at h
  | a :: l, 0, s, t, h => by
    obtain rfl : a = s := by simpa using h
    simp only [cntN, List.set_cons_zero, List.countP_cons]
    cases a.tk <;> cases t.tk <;> simp
  | a :: l, i + 1, s, t, h => by
    have ih := cntN_set l i s t (by simpa using h)
    simp only [cntN, List.set_cons_succ, List.countP_cons] at *
    omega
/-- What is true of an arena between the calls: N bounds the generations and the free list. -/
structure Good (N : Nat) (sl : List Sl) (fr : List Nat) (cap : Int) : Prop where
  gens : ∀ s ∈ sl, 0 ≤ s.gen ∧ s.gen ≤ N
  len : (sl.length : Int) ≤ cap
  cap : cap ≤ 65536
  nodup : fr.Nodup
  free : ∀ k ∈ fr, ∃ s, sl[k]? = some s ∧ s.tk = false
  frlen : fr.length ≤ sl.length
theorem Good.more {N M : Nat} {sl : List Sl} {fr : List Nat} {cap : Int} (h : Good N sl fr cap) (hM : N ≤ M) : Good M sl fr cap :=
  ⟨fun s hs => ⟨(h.gens s hs).1, by have := (h.gens s hs).2; omega⟩, h.len, h.cap, h.nodup, h.free, h.frlen⟩
def nats (l : List Nat) : List Int := l.map fun (i : Nat) => (i : Int)
/-- Alloc: the id, the status, the slots, the free list. -/
def allocS (sl : List Sl) (fr : List Nat) (cap v : Int) : Int × Int × List Sl × List Nat :=
  match fr.getLast? with
  | some k => (((sl.getD k ⟨0, false, 0⟩).gen + 1) * 65536 + (k : Int), 0, sl.set k ⟨(sl.getD k ⟨0, false, 0⟩).gen + 1, true, v⟩, fr.dropLast)
  | none => if (sl.length : Int) = cap then (0, -4, sl, fr) else (65536 + (sl.length : Int), 0, sl ++ [⟨1, true, v⟩], fr)
def freeS (sl : List Sl) (fr : List Nat) (id : Int) : Int × List Sl × List Nat :=
  match findN sl id with
  | some i => (0, sl.set i ⟨(sl.getD i ⟨0, false, 0⟩).gen, false, 0⟩, fr ++ [i])
  | none => (-25, sl, fr)
/-- The arena behind b, in the abstract. -/
def Arx (w : World) (B b : Nat) (sl : List Sl) (fr : List Nat) (cap : Int) (sv fv : Value) : Prop := Arn w B b sl (nats fr) cap (cntN sl) sv fv
theorem getLast_some {fr : List Nat} {k : Nat} (h : fr.getLast? = some k) : fr = fr.dropLast ++ [k] := by
  obtain ⟨ys, rfl⟩ := List.getLast?_eq_some_iff.mp h
  simp
theorem Good.alloc {N : Nat} {sl : List Sl} {fr : List Nat} {cap : Int} (h : Good N sl fr cap) (v : Int) : Good (N + 1) (allocS sl fr cap v).2.2.1 (allocS sl fr cap v).2.2.2 cap := by
  unfold allocS
  cases hl : fr.getLast? with
  | some k =>
    simp only
    have hfr := getLast_some hl
    obtain ⟨s, hs, ht⟩ := h.free k (by rw [hfr]; simp)
    have hg : sl.getD k ⟨0, false, 0⟩ = s := by rw [List.getD_eq_getElem?_getD, hs]; rfl
    have hn := h.nodup
    rw [hfr, List.nodup_append] at hn
    refine ⟨fun t ht' => ?_, by simpa using h.len, h.cap, hn.1, fun j hj => ?_, ?_⟩
    · rcases List.mem_or_eq_of_mem_set ht' with h' | h'
      · have := h.gens t h'; omega
      · subst h'
        have := h.gens s (List.mem_of_getElem? hs)
        simp only [hg]
        omega
    · have hne : k ≠ j := fun e => by
        subst e
        exact hn.2.2 k hj k (by simp) rfl
      obtain ⟨u, hu, hut⟩ := h.free j (by rw [hfr]; simp [hj])
      exact ⟨u, by rw [List.getElem?_set_ne hne]; exact hu, hut⟩
    · have := h.frlen
      simp
      omega
  | none =>
    simp only
    have hnil : fr = [] := List.getLast?_eq_none_iff.mp hl
    subst hnil
    split
    · exact h.more (by omega)
    · rename_i hne
      refine ⟨fun t ht' => ?_, by have := h.len; simp; omega, h.cap, by simp, fun j hj => by simp at hj, by simp⟩
      simp only [List.mem_append, List.mem_singleton] at ht'
      rcases ht' with h' | h'
      · have := h.gens t h'; omega
      · subst h'; simp; omega
theorem Good.freed {N : Nat} {sl : List Sl} {fr : List Nat} {cap : Int} (h : Good N sl fr cap) (id : Int) : Good N (freeS sl fr id).2.1 (freeS sl fr id).2.2 cap := by
  unfold freeS
  cases hf : findN sl id with
  | none => exact h
  | some i =>
    simp only
    obtain ⟨_, _, s, hs, ht, _⟩ := findN_some hf
    have hg : sl.getD i ⟨0, false, 0⟩ = s := by rw [List.getD_eq_getElem?_getD, hs]; rfl
    have hlt : i < sl.length := (List.getElem?_eq_some_iff.1 hs).1
    have hni : i ∉ fr := fun hi => by
      obtain ⟨u, hu, hut⟩ := h.free i hi
      rw [hs] at hu
      obtain rfl : s = u := by simpa using hu
      rw [ht] at hut; cases hut
    have hnd : (fr ++ [i]).Nodup := by
      rw [List.nodup_append]
      exact ⟨h.nodup, by simp, fun a ha b hb e => by
        obtain rfl : b = i := by simpa using hb
        subst e
        exact hni ha⟩
    have hfree : ∀ k ∈ fr ++ [i], ∃ t, (sl.set i ⟨(sl.getD i ⟨0, false, 0⟩).gen, false, 0⟩)[k]? = some t ∧ t.tk = false := fun k hk => by
      by_cases e : i = k
      · subst e
        exact ⟨_, by rw [List.getElem?_set_self hlt], rfl⟩
      · obtain ⟨u, hu, hut⟩ := h.free k (by simpa [Ne.symm e] using hk)
        exact ⟨u, by rw [List.getElem?_set_ne e]; exact hu, hut⟩
    refine ⟨fun t ht' => ?_, by simpa using h.len, h.cap, hnd, hfree, ?_⟩
    · rcases List.mem_or_eq_of_mem_set ht' with h' | h'
      · exact h.gens t h'
      · subst h'
        rw [hg]
        exact h.gens s (List.mem_of_getElem? hs)
    · have := nodup_lt sl.length (fr ++ [i]) hnd (fun k hk => by
        obtain ⟨t, ht', _⟩ := hfree k hk
        have := (List.getElem?_eq_some_iff.1 ht').1
        simpa using this)
      simpa using this
end Go.Proofs.Ytnejjaebhjgccaa.Ar
