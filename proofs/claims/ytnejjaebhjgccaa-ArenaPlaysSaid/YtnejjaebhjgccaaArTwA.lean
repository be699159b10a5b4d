/- The contract of ints; the plain law of ArenaTwins: the other arena's slots. -/
import Derived.Test.YtnejjaebhjgccaaAs2
import Derived.Test.YtnejjaebhjgccaaSep
import Derived.Test.YtnejjaebhjgccaaArLast
namespace Go.Proofs.Ytnejjaebhjgccaa.Ar
open Go Go.RowKit Go.Proofs.Ytnejjaebhjgccaa.Mem Go.Proofs.Ytnejjaebhjgccaa.Bits
set_option linter.unusedVariables false
set_option linter.unusedSimpArgs false
theorem Az.drew {w : World} {B b : Nat} {F : Blocks} {sl : List Sl} {fr : List Nat} {cap : Int} (h : Az w B b F sl fr cap) : Az w.drew B b F sl fr cap := by
  obtain ⟨sv, fv, ha, hF⟩ := h
  exact ⟨sv, fv, ⟨ha.base, ha.blk, ha.slots, ha.free⟩, hF⟩
/-- Two slices of the same numbers. -/
theorem ints_same {w : World} {B1 B2 : Nat} {A1 A2 : Option Addr} {c1 c2 : Nat} {l : List Int} (hm : l.length ≤ 1000000) (h1 : Reads w B1 1 A1 l.length (ints l)) (h2 : Reads w B2 1 A2 l.length (ints l)) :
    Calls Try.prog 23 #[.slice A1 l.length c1, .slice A2 l.length c2] w fun e w' => e = .returned (.bool true) ∧ ∃ n, w' = w.drewN n := by
  have H1 := Lib.hid h1
  have H2 := Lib.hid h2
  clear h1 h2
  go_enter Try.func23, Try.ntmps23
  go_wp2
  go_loopw [13] (fun i wr => ∃ (k n : Nat), k ≤ l.length ∧ i = .int .i64 k ∧ wr = w.drewN n) (fun i _ => l.length - (intOf i).toNat)
  case atStart => exact ⟨0, 0, by omega, rfl, rfl⟩
  case round =>
    obtain ⟨k, n, hk, rfl, rfl⟩ := hrel
    by_cases hlt : k < l.length
    · obtain ⟨ad, u, rfl, _, hx, hc⟩ := (H1.out.drewN n).at_ hlt
      obtain ⟨ad2, u2, rfl, _, hx2, hc2⟩ := (H2.out.drewN n).at_ hlt
      have hu : u = .int .i64 l[k] := by
        simp [ints, List.getElem?_eq_getElem hlt] at hx
        exact hx.symm
      have hu2 : u2 = .int .i64 l[k] := by
        simp [ints, List.getElem?_eq_getElem hlt] at hx2
        exact hx2.symm
      subst hu hu2
      clear hx hx2
      generalize l[k] = x at *
      have z1 : (x != x) = false := by simp
      have hdd : ∀ m, (w.drewN n).drewN m = w.drewN (n + m) := fun m => World.drewN_drewN _ _ _
      generalize hW : w.drewN n = W at *
      have HD := Lib.hid hdd
      clear hW hdd
      go_wp2
      go_quiet (fail)
      go_wp2
      go_roundw
      case rel => exact ⟨k + 1, _, by omega, by go_num, HD.out _⟩
      case measure => simp [intOf]; omega
    · obtain rfl : k = l.length := by omega
      go_wp2
      go_ret
      exact ⟨rfl, n, rfl⟩
/-- The slots of the arena of texts. -/
def xs (sl : List Sl) : List Sl := sl.map fun s => ⟨s.gen, s.tk, if s.tk then 1 else 0⟩
theorem xs_len (sl : List Sl) : (xs sl).length = sl.length := by simp [xs]
theorem xs_at (sl : List Sl) (i : Nat) : (xs sl)[i]? = (sl[i]?).map fun s => ⟨s.gen, s.tk, if s.tk then 1 else 0⟩ := by simp [xs]
theorem xs_gen (sl : List Sl) (i : Nat) : ((xs sl).getD i ⟨0, false, 0⟩).gen = (sl.getD i ⟨0, false, 0⟩).gen := by
  simp only [List.getD_eq_getElem?_getD, xs_at]
  cases sl[i]? <;> rfl
theorem xs_tk (sl : List Sl) (i : Nat) : ((xs sl).getD i ⟨0, false, 0⟩).tk = (sl.getD i ⟨0, false, 0⟩).tk := by
  simp only [List.getD_eq_getElem?_getD, xs_at]
  cases sl[i]? <;> rfl
theorem xs_find (sl : List Sl) (id : Int) : findN (xs sl) id = findN sl id := by
  unfold findN
  rw [xs_at]
  cases sl[(id % 65536).toNat]? <;> rfl
theorem xs_set (sl : List Sl) (i : Nat) (s : Sl) : xs (sl.set i s) = (xs sl).set i ⟨s.gen, s.tk, if s.tk then 1 else 0⟩ := by simp [xs, List.map_set]
theorem xs_snoc (sl : List Sl) (s : Sl) : xs (sl ++ [s]) = xs sl ++ [⟨s.gen, s.tk, if s.tk then 1 else 0⟩] := by simp [xs]
theorem xs_alloc (sl : List Sl) (fr : List Nat) (cap v : Int) : allocS (xs sl) fr cap 1 = ((allocS sl fr cap v).1, (allocS sl fr cap v).2.1, xs (allocS sl fr cap v).2.2.1, (allocS sl fr cap v).2.2.2) := by
  unfold allocS
  cases fr.getLast? with
  | some k => simp only [xs_gen, xs_set]; rfl
  | none =>
    simp only [xs_len]
    split
    · rfl
    · simp only [xs_snoc]; rfl
theorem xs_free (sl : List Sl) (fr : List Nat) (id : Int) : freeS (xs sl) fr id = ((freeS sl fr id).1, xs (freeS sl fr id).2.1, (freeS sl fr id).2.2) := by
  unfold freeS
  rw [xs_find]
  cases findN sl id with
  | some k => simp only [xs_gen, xs_set]; rfl
  | none => rfl
theorem xs_good {N : Nat} {sl : List Sl} {fr : List Nat} {cap : Int} (h : Good N sl fr cap) : Good N (xs sl) fr cap := by
  refine ⟨fun s hs => ?_, by rw [xs_len]; exact h.len, h.cap, h.nodup, fun k hk => ?_, by rw [xs_len]; exact h.frlen⟩
  · obtain ⟨t, ht, rfl⟩ := List.mem_map.1 hs
    exact h.gens t ht
  · obtain ⟨s, hs, ht⟩ := h.free k hk
    exact ⟨⟨s.gen, s.tk, if s.tk then 1 else 0⟩, by rw [xs_at, hs]; rfl, ht⟩
theorem xs_ids (sl : List Sl) : ∀ k, idsTo (xs sl) k = idsTo sl k
  | 0 => rfl
  | k + 1 => by
    unfold idsTo
    rw [xs_ids sl k]
    have h1 := xs_gen sl k
    have h2 := xs_tk sl k
    unfold sl0
    rw [h1, h2]
theorem xs_val (sl : List Sl) (id : Int) : getV (xs sl) id = if (findN sl id).isSome then 1 else 0 := by
  unfold getV
  rw [xs_find]
  cases hf : findN sl id with
  | none => rfl
  | some i =>
    obtain ⟨_, _, s, hs, ht, _⟩ := findN_some hf
    simp [List.getD_eq_getElem?_getD, xs_at, hs, ht]
theorem xs_nil : xs [] = [] := rfl
end Go.Proofs.Ytnejjaebhjgccaa.Ar
