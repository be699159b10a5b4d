/- What Alloc, Free and Set do to what is found: plain laws. -/
import Derived.Test.YtnejjaebhjgccaaArJ
namespace Go.Proofs.Ytnejjaebhjgccaa.Ar
open Go Go.RowKit Go.Proofs.Ytnejjaebhjgccaa.Mem Go.Proofs.Ytnejjaebhjgccaa.Bits
set_option linter.unusedVariables false
set_option linter.unusedSimpArgs false
/-- One slot is new or other. -/
structure One (sl sl' : List Sl) (k : Nat) (s : Sl) : Prop where
  other : ∀ j, j ≠ k → sl'[j]? = sl[j]?
  at_ : sl'[k]? = some s
theorem One.set {sl : List Sl} {k : Nat} (h : k < sl.length) (s : Sl) : One sl (sl.set k s) k s :=
  ⟨fun j hj => List.getElem?_set_ne (Ne.symm hj), List.getElem?_set_self h⟩
theorem One.snoc (sl : List Sl) (s : Sl) : One sl (sl ++ [s]) sl.length s := by
  refine ⟨fun j hj => ?_, by simp⟩
  by_cases h : j < sl.length
  · exact List.getElem?_append_left h
  · rw [List.getElem?_eq_none (by simp; omega), List.getElem?_eq_none (by omega)]
theorem One.find {sl sl' : List Sl} {k : Nat} {s : Sl} (h : One sl sl' k s) (x : Int) :
    findN sl' x = if 0 ≤ x ∧ (x % 65536).toNat = k then (if s.tk = true ∧ s.gen = x / 65536 then some k else none) else findN sl x := by
  unfold findN
  by_cases hx : 0 ≤ x
  · by_cases hk : (x % 65536).toNat = k
    · simp only [hx, hk, if_true, and_self, h.at_]
    · simp only [hx, hk, if_true, and_false, if_false, h.other _ hk]
  · simp only [hx, if_false, false_and]
theorem One.val {sl sl' : List Sl} {k : Nat} {s : Sl} (h : One sl sl' k s) (x : Int) :
    getV sl' x = if 0 ≤ x ∧ (x % 65536).toNat = k then (if s.tk = true ∧ s.gen = x / 65536 then s.v else 0) else getV sl x := by
  unfold getV
  rw [h.find x]
  by_cases hx : 0 ≤ x ∧ (x % 65536).toNat = k
  · rw [if_pos hx, if_pos hx]
    by_cases ht : s.tk = true ∧ s.gen = x / 65536
    · rw [if_pos ht, if_pos ht]
      simp [List.getD_eq_getElem?_getD, h.at_]
    · rw [if_neg ht, if_neg ht]
  · rw [if_neg hx, if_neg hx]
    cases hf : findN sl x with
    | none => rfl
    | some i =>
      obtain ⟨h0, hi, _⟩ := findN_some hf
      have hne : i ≠ k := fun e => hx ⟨h0, by omega⟩
      simp [List.getD_eq_getElem?_getD, h.other i hne]
/-- No value stands at a slot that is not taken. -/
theorem find_free {sl : List Sl} {x : Int} {k : Nat} (hk : (x % 65536).toNat = k) (h : ∀ s, sl[k]? = some s → s.tk = false) : findN sl x = none := by
  cases hf : findN sl x with
  | none => rfl
  | some i =>
    obtain ⟨_, hi, s, hs, ht, _⟩ := findN_some hf
    rw [hi, hk] at hs
    rw [h s hs] at ht
    cases ht
theorem getV_none {sl : List Sl} {x : Int} (h : findN sl x = none) : getV sl x = 0 := by unfold getV; rw [h]
/-- A value at id is new: a slot that was not taken is taken. -/
theorem One.taken {sl sl' : List Sl} {k : Nat} {g v : Int} (h : One sl sl' k ⟨g, true, v⟩) (hg : 0 ≤ g) (hk : k < 65536) (hf : ∀ s, sl[k]? = some s → s.tk = false) (x : Int) :
    findN sl' x = (if x = g * 65536 + k then some k else findN sl x) ∧ getV sl' x = (if x = g * 65536 + k then v else getV sl x) := by
  rw [h.find x, h.val x]
  by_cases hx : 0 ≤ x ∧ (x % 65536).toNat = k
  · rw [if_pos hx, if_pos hx]
    have hn := find_free hx.2 hf
    by_cases he : g = x / 65536
    · have e : x = g * 65536 + k := by omega
      have hc : (⟨g, true, v⟩ : Sl).tk = true ∧ (⟨g, true, v⟩ : Sl).gen = x / 65536 := ⟨rfl, he⟩
      exact ⟨by rw [if_pos hc, if_pos e], by rw [if_pos hc, if_pos e]⟩
    · have e : x ≠ g * 65536 + k := by omega
      have hc : ¬((⟨g, true, v⟩ : Sl).tk = true ∧ (⟨g, true, v⟩ : Sl).gen = x / 65536) := fun h => he h.2
      exact ⟨by rw [if_neg hc, if_neg e, hn], by rw [if_neg hc, if_neg e, getV_none hn]⟩
  · have e : x ≠ g * 65536 + k := by omega
    rw [if_neg hx, if_neg hx, if_neg e, if_neg e]
    exact ⟨rfl, rfl⟩
/-- Good, and each slot is taken or free. -/
structure Whole (N : Nat) (sl : List Sl) (fr : List Nat) (cap : Int) : Prop where
  good : Good N sl fr cap
  whole : cntN sl + fr.length = sl.length
theorem Whole.mono {N M : Nat} {sl : List Sl} {fr : List Nat} {cap : Int} (h : Whole N sl fr cap) (hM : N ≤ M) : Whole M sl fr cap := ⟨h.good.more hM, h.whole⟩
theorem whole_nil (cap : Int) (h0 : 0 ≤ cap) (h1 : cap ≤ 65536) : Whole 0 [] [] cap := ⟨⟨by simp, by simpa using h0, h1, by simp, by simp, by simp⟩, by simp [cntN]⟩
/-- What Alloc does, where there is a slot. -/
structure Took (sl sl' : List Sl) (id v : Int) (k : Nat) : Prop where
  id0 : 0 ≤ id
  slot : (id % 65536).toNat = k
  gen : ∀ s, sl[k]? = some s → s.gen + 1 = id / 65536
  fresh : findN sl id = none
  find : ∀ x, findN sl' x = if x = id then some k else findN sl x
  val : ∀ x, Ar.getV sl' x = if x = id then v else Ar.getV sl x
  cnt : cntN sl' = cntN sl + 1
  one : One sl sl' k ⟨id / 65536, true, v⟩
theorem Whole.alloc {N : Nat} {sl : List Sl} {fr : List Nat} {cap : Int} (h : Whole N sl fr cap) (v : Int) :
    Whole (N + 1) (allocS sl fr cap v).2.2.1 (allocS sl fr cap v).2.2.2 cap ∧
    ((allocS sl fr cap v).2.1 = 0 ∧ (∃ k, Took sl (allocS sl fr cap v).2.2.1 (allocS sl fr cap v).1 v k) ∨
      (allocS sl fr cap v).2.1 = -4 ∧ (allocS sl fr cap v).1 = 0 ∧ (allocS sl fr cap v).2.2.1 = sl ∧ (allocS sl fr cap v).2.2.2 = fr ∧ (cntN sl : Int) = cap ∧ fr = [] ∧ (sl.length : Int) = cap) := by
  have hg := h.good.alloc v
  have hw := h.whole
  unfold allocS at hg ⊢
  cases hl : fr.getLast? with
  | some k =>
    rw [hl] at hg
    simp only at hg ⊢
    have hfr := getLast_some hl
    obtain ⟨s, hs, ht⟩ := h.good.free k (by rw [hfr]; simp)
    have hgd : sl.getD k ⟨0, false, 0⟩ = s := by rw [List.getD_eq_getElem?_getD, hs]; rfl
    have hgs := h.good.gens s (List.mem_of_getElem? hs)
    have hkl : k < sl.length := (List.getElem?_eq_some_iff.1 hs).1
    have hle := h.good.len
    have hcap := h.good.cap
    rw [hgd] at hg ⊢
    have hc := cntN_set sl k s ⟨s.gen + 1, true, v⟩ hs
    rw [ht] at hc
    simp only [Bool.false_eq_true, if_false, if_true] at hc
    have hfl : fr.length = fr.dropLast.length + 1 := by
      have := congrArg List.length hfr
      simpa using this
    have hO : One sl (sl.set k ⟨s.gen + 1, true, v⟩) k ⟨s.gen + 1, true, v⟩ := One.set hkl _
    have hT := hO.taken (by omega) (by omega) (fun u hu => by
      rw [hs] at hu
      injection hu with hu
      rw [← hu]; exact ht)
    have hq : ((s.gen + 1) * 65536 + (k : Int)) / 65536 = s.gen + 1 := by omega
    have hr : (((s.gen + 1) * 65536 + (k : Int)) % 65536).toNat = k := by omega
    refine ⟨⟨hg, by simp only [List.length_set]; omega⟩, .inl ⟨(by first | rfl | trivial), k, by omega, hr, fun u hu => ?_, find_free hr (fun u hu => ?_), fun x => (hT x).1, fun x => (hT x).2, by omega, by rw [hq]; exact hO⟩⟩
    · rw [hs] at hu
      injection hu with hu
      rw [← hu, hq]
    · rw [hs] at hu
      injection hu with hu
      rw [← hu]; exact ht
  | none =>
    rw [hl] at hg
    have hnil : fr = [] := List.getLast?_eq_none_iff.mp hl
    subst hnil
    simp only [List.length_nil, Nat.add_zero] at hw
    simp only at hg ⊢
    by_cases hc : (sl.length : Int) = cap
    · rw [if_pos hc] at hg ⊢
      exact ⟨⟨hg, by simpa using hw⟩, .inr ⟨(by first | rfl | trivial), (by first | rfl | trivial), (by first | rfl | trivial), (by first | rfl | trivial), by omega, (by first | rfl | trivial), hc⟩⟩
    · rw [if_neg hc] at hg ⊢
      have hle := h.good.len
      have hcap := h.good.cap
      have hcn := cntN_snoc sl ⟨1, true, v⟩
      simp only [if_true] at hcn
      have hO : One sl (sl ++ [⟨1, true, v⟩]) sl.length ⟨1, true, v⟩ := One.snoc sl _
      have hnone : ∀ s, sl[sl.length]? = some s → False := fun u hu => by simp at hu
      have hT := hO.taken (by omega) (by omega) (fun u hu => (hnone u hu).elim)
      have hq : (65536 + (sl.length : Int)) / 65536 = 1 := by omega
      have hr : ((65536 + (sl.length : Int)) % 65536).toNat = sl.length := by omega
      have he : (1 : Int) * 65536 + (sl.length : Int) = 65536 + (sl.length : Int) := by omega
      rw [he] at hT
      exact ⟨⟨hg, by simp only [List.length_append, List.length_cons, List.length_nil]; omega⟩, .inl ⟨(by first | rfl | trivial), sl.length, by omega, hr, fun u hu => (hnone u hu).elim, find_free hr (fun u hu => (hnone u hu).elim), fun x => (hT x).1, fun x => (hT x).2, hcn, by rw [hq]; exact hO⟩⟩
/-- What Free does. -/
theorem Whole.freed {N : Nat} {sl : List Sl} {fr : List Nat} {cap : Int} (h : Whole N sl fr cap) (id : Int) :
    Whole N (freeS sl fr id).2.1 (freeS sl fr id).2.2 cap ∧
    ((findN sl id = none ∧ freeS sl fr id = (-25, sl, fr)) ∨
      ∃ i s, findN sl id = some i ∧ sl[i]? = some s ∧ freeS sl fr id = (0, sl.set i ⟨s.gen, false, 0⟩, fr ++ [i]) ∧
        (∀ x, findN (sl.set i ⟨s.gen, false, 0⟩) x = if x = id then none else findN sl x) ∧ (∀ x, getV (sl.set i ⟨s.gen, false, 0⟩) x = if x = id then 0 else getV sl x) ∧ cntN (sl.set i ⟨s.gen, false, 0⟩) + 1 = cntN sl) := by
  have hg := h.good.freed id
  have hw := h.whole
  unfold freeS at hg ⊢
  cases hf : findN sl id with
  | none =>
    rw [hf] at hg
    exact ⟨⟨hg, hw⟩, .inl ⟨rfl, rfl⟩⟩
  | some i =>
    rw [hf] at hg
    simp only at hg ⊢
    obtain ⟨h0, hi, s, hs, ht, hgen⟩ := findN_some hf
    have hgd : sl.getD i ⟨0, false, 0⟩ = s := by rw [List.getD_eq_getElem?_getD, hs]; rfl
    rw [hgd] at hg ⊢
    have hc := cntN_set sl i s ⟨s.gen, false, 0⟩ hs
    rw [ht] at hc
    simp only [Bool.false_eq_true, if_false, if_true] at hc
    have hil : i < sl.length := (List.getElem?_eq_some_iff.1 hs).1
    have hO : One sl (sl.set i ⟨s.gen, false, 0⟩) i ⟨s.gen, false, 0⟩ := One.set hil _
    have hx : ∀ x, x ≠ id → 0 ≤ x ∧ (x % 65536).toNat = i → findN sl x = none := fun x hne hx => by
      cases hfx : findN sl x with
      | none => rfl
      | some j =>
        obtain ⟨_, hj, u, hu, _, hug⟩ := findN_some hfx
        rw [hj, hx.2, hs] at hu
        injection hu with hu
        subst hu
        omega
    refine ⟨⟨hg, by simp only [List.length_set, List.length_append, List.length_cons, List.length_nil]; omega⟩, .inr ⟨i, s, rfl, hs, rfl, fun x => ?_, fun x => ?_, by omega⟩⟩
    · rw [hO.find x]
      by_cases hxk : 0 ≤ x ∧ (x % 65536).toNat = i
      · rw [if_pos hxk, if_neg (by simp)]
        by_cases he : x = id
        · rw [if_pos he]
        · rw [if_neg he, hx x he hxk]
      · rw [if_neg hxk, if_neg (fun e => hxk (by subst e; exact ⟨h0, hi.symm⟩))]
    · rw [hO.val x]
      by_cases hxk : 0 ≤ x ∧ (x % 65536).toNat = i
      · rw [if_pos hxk, if_neg (by simp)]
        by_cases he : x = id
        · rw [if_pos he]
        · rw [if_neg he, getV_none (hx x he hxk)]
      · rw [if_neg hxk, if_neg (fun e => hxk (by subst e; exact ⟨h0, hi.symm⟩))]
/-- The ids that were told. -/
def Told (sl : List Sl) (told : List Int) : Prop := ∀ x ∈ told, 0 ≤ x ∧ ∃ s, sl[(x % 65536).toNat]? = some s ∧ x / 65536 ≤ s.gen
theorem Told.alloc {sl sl' : List Sl} {told : List Int} {id v : Int} {k : Nat} (h : Told sl told) (t : Took sl sl' id v k) : Told sl' (told ++ [id]) ∧ id ∉ told := by
  refine ⟨fun x hx => ?_, fun hm => ?_⟩
  · rcases List.mem_append.1 hx with hx | hx
    · obtain ⟨h0, s, hs, hg⟩ := h x hx
      refine ⟨h0, ?_⟩
      by_cases e : (x % 65536).toNat = k
      · rw [e] at hs ⊢
        exact ⟨_, t.one.at_, by have := t.gen s hs; simp only; omega⟩
      · exact ⟨s, by rw [t.one.other _ e]; exact hs, hg⟩
    · obtain rfl := List.mem_singleton.1 hx
      exact ⟨t.id0, _, by rw [t.slot]; exact t.one.at_, Int.le_refl _⟩
  · obtain ⟨h0, s, hs, hg⟩ := h id hm
    rw [t.slot] at hs
    have := t.gen s hs
    omega
theorem Told.freed {sl : List Sl} {told : List Int} {i : Nat} {s : Sl} (h : Told sl told) (hs : sl[i]? = some s) : Told (sl.set i ⟨s.gen, false, 0⟩) told := fun x hx => by
  obtain ⟨h0, u, hu, hg⟩ := h x hx
  refine ⟨h0, ?_⟩
  by_cases e : i = (x % 65536).toNat
  · rw [← e] at hu ⊢
    rw [hs] at hu
    injection hu with hu
    subst hu
    exact ⟨_, List.getElem?_set_self (List.getElem?_eq_some_iff.1 hs).1, hg⟩
  · exact ⟨u, by rw [List.getElem?_set_ne e]; exact hu, hg⟩
theorem Told.le {N : Nat} {sl : List Sl} {fr : List Nat} {cap : Int} {told : List Int} (h : Told sl told) (g : Good N sl fr cap) {x : Int} (hx : x ∈ told) : 0 ≤ x ∧ x < ((N : Int) + 1) * 65536 := by
  obtain ⟨h0, s, hs, hg⟩ := h x hx
  have := g.gens s (List.mem_of_getElem? hs)
  omega
end Go.Proofs.Ytnejjaebhjgccaa.Ar
