/- The arena in the abstract: its methods as functions of lists. -/
import Derived.Test.YtnejjaebhjgccaaArI
import Derived.Test.YtnejjaebhjgccaaFp
namespace Go.Proofs.Ytnejjaebhjgccaa.Ar
open Go Go.RowKit Go.Proofs.Ytnejjaebhjgccaa.Mem Go.Proofs.Ytnejjaebhjgccaa.Bits
set_option linter.unusedVariables false
set_option linter.unusedSimpArgs false
/-- The arena behind b, with its blocks F. -/
def Az (w : World) (B b : Nat) (F : Blocks) (sl : List Sl) (fr : List Nat) (cap : Int) : Prop := ∃ sv fv, Arx w B b sl fr cap sv fv ∧ ∀ k, F k ↔ ft b sv fv k
section
variable {w w' : World} {B b : Nat} {F G : Blocks} {sl : List Sl} {fr : List Nat} {cap : Int} {N : Nat}
theorem Az.in_ (h : Az w B b F sl fr cap) : In B w F := by
  obtain ⟨sv, fv, ha, hF⟩ := h
  exact fun k hk => Arn.ft_lt ha ((hF k).1 hk)
theorem Az.keep (h : Az w B b F sl fr cap) (hu : Upd G w w') (hd : Dis F G) : Az w' B b F sl fr cap := by
  obtain ⟨sv, fv, ha, hF⟩ := h
  exact ⟨sv, fv, Arn.upd ha hu (fun k hk => hd k ((hF k).2 hk)), hF⟩
theorem Az.drewN (h : Az w B b F sl fr cap) (n : Nat) : Az (w.drewN n) B b F sl fr cap := by
  obtain ⟨sv, fv, ha, hF⟩ := h
  exact ⟨sv, fv, Arn.drewN ha n, hF⟩
theorem new_az (c : Int) (h0 : 0 ≤ c) (h1 : c ≤ 65536) (w : World) (B : Nat) (hB : B ≤ w.heap.size) : Calls Try.prog 9 #[.int .i64 c] w fun e w' =>
    e = .returned (.pointer (some ⟨w.heap.size, 0, none⟩)) ∧ Az w' B w.heap.size (fun k => k = w.heap.size) [] [] c ∧ Below w.heap.size w w' := by
  refine (new_some c h0 h1 w B hB).mono ?_
  rintro e w1 ⟨he, ha, hb⟩
  refine ⟨he, ⟨_, _, ha, fun k => ?_⟩, hb⟩
  simp [ft, Value.ownBlock]
theorem count_az (h : Az w B b F sl fr cap) : Calls Try.prog 14 #[.pointer (some ⟨b, 0, none⟩)] w fun e w' => e = .returned (.int .i64 (cntN sl)) ∧ w = w' := by
  obtain ⟨sv, fv, ha, hF⟩ := h
  exact count_any ha
theorem cap_az (h : Az w B b F sl fr cap) : Calls Try.prog 30 #[.pointer (some ⟨b, 0, none⟩)] w fun e w' => e = .returned (.int .i64 cap) ∧ w = w' := by
  obtain ⟨sv, fv, ha, hF⟩ := h
  exact cap_any ha
theorem has_az (h : Az w B b F sl fr cap) (id : Int) : Calls Try.prog 18 #[.pointer (some ⟨b, 0, none⟩), .int .i64 id] w fun e w' => e = .returned (.bool (findN sl id).isSome) ∧ ∃ n, w' = w.drewN n := by
  obtain ⟨sv, fv, ha, hF⟩ := h
  exact has_any ha id
def getV (sl : List Sl) (id : Int) : Int :=
  match findN sl id with
  | some i => (sl.getD i ⟨0, false, 0⟩).v
  | none => 0
theorem get_az (h : Az w B b F sl fr cap) (id : Int) : Calls Try.prog 13 #[.pointer (some ⟨b, 0, none⟩), .int .i64 id] w fun e w' => e = .returned (.tuple #[.int .i64 (getV sl id), .bool (findN sl id).isSome]) ∧ ∃ n, w' = w.drewN n := by
  obtain ⟨sv, fv, ha, hF⟩ := h
  unfold getV
  cases hf : findN sl id with
  | none => exact get_none ha hf
  | some i =>
    obtain ⟨_, _, s, hs, _, _⟩ := findN_some hf
    have := get_some ha hf hs
    simpa [List.getD_eq_getElem?_getD, hs] using this
theorem nats_snoc (l : List Nat) (k : Nat) : nats (l ++ [k]) = nats l ++ [(k : Int)] := by simp [nats]
theorem nats_len (l : List Nat) : (nats l).length = l.length := by simp [nats]
/-- Alloc: id and status as in the abstract; the arena in the abstract. -/
theorem alloc_az (h : Az w B b F sl fr cap) (hg : Good N sl fr cap) (hN : N ≤ 1073741823) (hB : B ≤ w.heap.size) (v : Int) : Calls Try.prog 11 #[.pointer (some ⟨b, 0, none⟩), .int .i64 v] w fun e w' =>
    e = .returned (.tuple #[.int .i64 (allocS sl fr cap v).1, .int .i64 (allocS sl fr cap v).2.1]) ∧ ∃ F', Az w' B b F' (allocS sl fr cap v).2.2.1 (allocS sl fr cap v).2.2.2 cap ∧ Upd F w w' ∧ Grow w F F' := by
  have hcn := cntN_le sl
  have hcap := hg.cap
  have hle := hg.len
  obtain ⟨sv, fv, ha, hF⟩ := h
  unfold allocS
  cases hl : fr.getLast? with
  | some k =>
    have hfr := getLast_some hl
    obtain ⟨s, hs, ht⟩ := hg.free k (by rw [hfr]; simp)
    have hgd : sl.getD k ⟨0, false, 0⟩ = s := by rw [List.getD_eq_getElem?_getD, hs]; rfl
    have hgs := hg.gens s (List.mem_of_getElem? hs)
    have hfl := hg.frlen
    unfold Arx at ha
    rw [hfr, nats_snoc] at ha
    have hdl : (nats fr.dropLast).length ≤ 65536 := by simp [nats]; omega
    simp only [hgd]
    refine (alloc_again ha hs (by omega) ⟨hgs.1, by omega⟩ hdl ⟨by omega, by omega⟩ v).mono ?_
    rintro e w1 ⟨he, fv', ha', hu, hn⟩
    refine ⟨he, ft b sv fv', ⟨sv, fv', ?_, fun _ => Iff.rfl⟩, hu.mono (fun i _ hi => (hF i).2 hi), fun i hi => .inl ((hF i).2 ?_)⟩
    · have := cntN_set sl k s ⟨s.gen + 1, true, v⟩ hs
      rw [ht] at this
      simp only [Bool.false_eq_true, if_false, if_true] at this
      unfold Arx
      rw [show ((cntN (sl.set k ⟨s.gen + 1, true, v⟩) : Nat) : Int) = (cntN sl : Int) + 1 by omega]
      exact ha'
    · rcases hi with h1 | h1 | h1
      · exact .inl h1
      · exact .inr (.inl h1)
      · exact .inr (.inr (hn i h1))
  | none =>
    have hnil : fr = [] := List.getLast?_eq_none_iff.mp hl
    subst hnil
    simp only
    by_cases hc : (sl.length : Int) = cap
    · rw [if_pos hc]
      refine (alloc_full ha (by omega) v).mono ?_
      rintro e w1 ⟨he, rfl⟩
      exact ⟨he, F, ⟨sv, fv, ha, hF⟩, Upd.refl _ _, Grow.refl _ _⟩
    · rw [if_neg hc]
      refine (alloc_more ha hB (by omega) (by omega) ⟨by omega, by omega⟩ v).mono ?_
      rintro e w1 ⟨he, sv', ha', hu, hn⟩
      refine ⟨he, ft b sv' fv, ⟨sv', fv, ?_, fun _ => Iff.rfl⟩, hu.mono (fun i _ hi => (hF i).2 hi), fun i hi => ?_⟩
      · have := cntN_snoc sl ⟨1, true, v⟩
        simp only [if_true] at this
        unfold Arx
        rw [show ((cntN (sl ++ [⟨1, true, v⟩]) : Nat) : Int) = (cntN sl : Int) + 1 by omega]
        exact ha'
      · rcases hi with h1 | h1 | h1
        · exact .inl ((hF i).2 (.inl h1))
        · rcases hn i h1 with h2 | h2
          · exact .inl ((hF i).2 (.inr (.inl h2)))
          · exact .inr h2
        · exact .inl ((hF i).2 (.inr (.inr h1)))
/-- Free: the status as in the abstract; the arena in the abstract. -/
theorem free_az (h : Az w B b F sl fr cap) (hg : Good N sl fr cap) (hN : N ≤ 1073741823) (hB : B ≤ w.heap.size) (id : Int) : Calls Try.prog 15 #[.pointer (some ⟨b, 0, none⟩), .int .i64 id] w fun e w' =>
    e = .returned (.int .i64 (freeS sl fr id).1) ∧ ∃ F', Az w' B b F' (freeS sl fr id).2.1 (freeS sl fr id).2.2 cap ∧ Upd F w w' ∧ Grow w F F' := by
  have hcn := cntN_le sl
  have hcap := hg.cap
  have hle := hg.len
  have hfl := hg.frlen
  obtain ⟨sv, fv, ha, hF⟩ := h
  unfold freeS
  cases hf : findN sl id with
  | none =>
    refine (free_none ha hf).mono ?_
    rintro e w1 ⟨he, n, rfl⟩
    exact ⟨he, F, ⟨sv, fv, Arn.drewN ha n, hF⟩, (Upd.refl _ _).drewN n, Grow.refl _ _⟩
  | some i =>
    obtain ⟨_, _, s, hs, ht, _⟩ := findN_some hf
    have hgd : sl.getD i ⟨0, false, 0⟩ = s := by rw [List.getD_eq_getElem?_getD, hs]; rfl
    have hgs := hg.gens s (List.mem_of_getElem? hs)
    simp only [hgd]
    refine (free_some ha hB hf hs ⟨hgs.1, by omega⟩ (by rw [nats_len]; omega) ⟨by omega, by omega⟩).mono ?_
    rintro e w1 ⟨he, fv', ha', hu, hn⟩
    refine ⟨he, ft b sv fv', ⟨sv, fv', ?_, fun _ => Iff.rfl⟩, hu.mono (fun i _ hi => (hF i).2 hi), fun j hj => ?_⟩
    · have := cntN_set sl i s ⟨s.gen, false, 0⟩ hs
      rw [ht] at this
      simp only [Bool.false_eq_true, if_false, if_true] at this
      unfold Arx
      rw [nats_snoc, show ((cntN (sl.set i ⟨s.gen, false, 0⟩) : Nat) : Int) = (cntN sl : Int) - 1 by omega]
      exact ha'
    · rcases hj with h1 | h1 | h1
      · exact .inl ((hF j).2 (.inl h1))
      · exact .inl ((hF j).2 (.inr (.inl h1)))
      · rcases hn j h1 with h2 | h2
        · exact .inl ((hF j).2 (.inr (.inr h2)))
        · exact .inr h2
def setS (sl : List Sl) (id v : Int) : Int × List Sl :=
  match findN sl id with
  | some i => (0, sl.set i ⟨(sl.getD i ⟨0, false, 0⟩).gen, true, v⟩)
  | none => (-25, sl)
theorem set_az (h : Az w B b F sl fr cap) (id v : Int) : Calls Try.prog 12 #[.pointer (some ⟨b, 0, none⟩), .int .i64 id, .int .i64 v] w fun e w' =>
    e = .returned (.int .i64 (setS sl id v).1) ∧ Az w' B b F (setS sl id v).2 fr cap ∧ Upd F w w' := by
  obtain ⟨sv, fv, ha, hF⟩ := h
  unfold setS
  cases hf : findN sl id with
  | none =>
    refine (set_none ha v hf).mono ?_
    rintro e w1 ⟨he, n, rfl⟩
    exact ⟨he, ⟨sv, fv, Arn.drewN ha n, hF⟩, (Upd.refl _ _).drewN n⟩
  | some i =>
    obtain ⟨_, _, s, hs, ht, _⟩ := findN_some hf
    have hgd : sl.getD i ⟨0, false, 0⟩ = s := by rw [List.getD_eq_getElem?_getD, hs]; rfl
    simp only [hgd]
    refine (set_some ha v hf hs).mono ?_
    rintro e w1 ⟨he, ha', hu⟩
    refine ⟨he, ⟨sv, fv, ?_, hF⟩, hu.mono (fun i _ hi => (hF i).2 hi)⟩
    have := cntN_set sl i s ⟨s.gen, true, v⟩ hs
    rw [ht] at this
    simp only [if_true] at this
    unfold Arx
    rw [show ((cntN (sl.set i ⟨s.gen, true, v⟩) : Nat) : Int) = (cntN sl : Int) by omega]
    simpa [ht] using ha'
end
end Go.Proofs.Ytnejjaebhjgccaa.Ar
