/- The tree of tasks: living, and its closure: the first one that is alive. -/
import Derived.RangeFuncNested
import Derived.RangeFuncBound
import Derived.RangeFuncCalls
import Derived.RangeFuncLeaves
import Derived.RangeFuncBox
import Derived.Shelf.Abstract
import Derived.Shelf.RegionOpen
import Derived.WalkKit
import Derived.OwnWalkIn
import Derived.TacticsInMore
import Derived.LoopNIn
import Derived.LoopIn
import Derived.Sort.CutIn
import Derived.Test.YtojmhacafmpbgaaTkD
import Derived.Test.YtojmhacafmpbgaaRgF
namespace Go.Proofs.Ytojmhacafmpbgaa.Tk
open Go Go.RowKit Go.Shelf Go.Proofs.Ytojmhacafmpbgaa.Mem
set_option linter.unusedVariables false
set_option linter.unusedSimpArgs false
attribute [local go_sem] Oper.semAt_some
theorem living_any (p q : Option Addr) (w : World) :
    Calls Try.prog 35 #[.pointer p, .pointer q] w fun e w' => e = .returned (.func (.func 42) #[] #[.pointer (some ⟨w.heap.size + 1, 0, none⟩), .pointer (some ⟨w.heap.size, 0, none⟩)]) ∧ w' = (w.alloc (.cells #[.pointer p] 22)).alloc (.cells #[.pointer q] 59) := by
  go_enter Try.func35, Try.ntmps35
  go_wp2
  go_ret
  exact ⟨rfl, rfl⟩
/-- Which is the first of them that is alive? -/
def firstT (s : Tr) (l : List Nat) : Option Nat := l.find? fun i => aliveT s i
theorem first_no {s : Tr} {l : List Nat} (h : ∀ k, k < l.length → ∀ x, l[k]? = some x → aliveT s x = false) : firstT s l = none := by
  unfold firstT
  rw [List.find?_eq_none]
  intro x hx
  obtain ⟨k, hk⟩ := List.getElem?_of_mem hx
  rw [h k (List.getElem?_eq_some_iff.1 hk).1 x hk]
  simp
theorem first_at {s : Tr} : ∀ {l : List Nat} {k : Nat} {x : Nat}, l[k]? = some x → aliveT s x = true → (∀ j, j < k → ∀ y, l[j]? = some y → aliveT s y = false) → firstT s l = some x
  | [], _, _, h, _, _ => by simp at h
  | a :: l, 0, x, h, ha, _ => by
    simp only [List.getElem?_cons_zero, Option.some.injEq] at h
    subst h
    simp [firstT, ha]
  | a :: l, k + 1, x, h, ha, hj => by
    have h0 := hj 0 (by omega) a rfl
    unfold firstT
    rw [List.find?_cons, h0]
    exact first_at (l := l) (k := k) (by simpa using h) ha (fun j hjk y hy => hj (j + 1) (by omega) y (by simpa using hy))
set_option maxRecDepth 100000 in
set_option maxHeartbeats 4000000 in
theorem living1_in (n : Nat) (hn : 1 ≤ n) (l Bx Bt b g c : Nat) (A : Option Addr) (s : Tr) (bl : List Nat) (W : World) (X : Nat → World → Prop) (hbl : bl.length ≤ 65536)
    (hx : W.cell? ⟨Bx, 0, none⟩ = some (.pointer (some ⟨g, 0, none⟩))) (ht : W.cell? ⟨Bt, 0, none⟩ = some (.pointer (some ⟨b, 0, none⟩))) (hb : W.cell? ⟨g, 6, none⟩ = some (.slice A bl.length c)) (hr : ∃ B, Reads W B 1 A bl.length (nV bl))
    (hal : ∀ id : Int, Calls Try.prog 16 #[.pointer (some ⟨b, 0, none⟩), .int .i64 id] W fun r w' => r = .returned (.bool (aliveT s id)) ∧ W = w')
    (hY : ∀ id : Nat, firstT s bl = some id → YieldAt Fence.wide (n - 1) Try.prog l #[.int .i64 id] W fun e W' => e = .returned (.bool false) ∧ X id W') :
    CallsIn Fence.wide n Try.prog 42 #[.func (.yield l) #[] #[], .pointer (some ⟨Bx, 0, none⟩), .pointer (some ⟨Bt, 0, none⟩)] W fun e W' => (∃ v, e = .returned v) ∧ ((firstT s bl = none ∧ W' = W) ∨ ∃ id, firstT s bl = some id ∧ X id W') := by
  obtain ⟨B, hr⟩ := hr
  have HR := Lib.hid hr
  have HAl := Lib.hid (fun id => callsIn_wide (n := n - 1).2 (hal id))
  have HY := Lib.hid hY
  have hlz : (bl.length : Int) ≤ 65536 := by omega
  have h16 : Fence.wide.fn 16 := trivial
  clear hr hal hY
  refine callsIn_of_wp Try.func42 rfl trivial ?_ rfl
  simp only [Try.ntmps42, List.size_toArray, List.length_cons, List.length_nil, Nat.reduceAdd, Nat.reduceSub, Array.replicate_succ, Array.replicate_zero, List.push_toArray, List.append_toArray, List.nil_append, List.cons_append]
  gi_wp2
  gi_loopw [11] (fun i wr => ∃ k : Nat, k ≤ bl.length ∧ i = .int .i64 k ∧ wr = W ∧ Hid (∀ j, j < k → ∀ y, bl[j]? = some y → aliveT s y = false)) (fun i _ => bl.length - (intOf i).toNat)
  case atStart => exact ⟨0, by omega, rfl, by trivial, Lib.hid (fun j hj => absurd hj (Nat.not_lt_zero _))⟩
  case round =>
    obtain ⟨k, hk, rfl, rfl, HN⟩ := hrel
    by_cases hlt : k < bl.length
    · obtain ⟨ad, u, rfl, had, hxk, hcl⟩ := HR.out.at_ hlt
      obtain ⟨y, hy⟩ : ∃ y, bl[k]? = some y := ⟨_, List.getElem?_eq_getElem hlt⟩
      obtain rfl : u = .int .i64 (y : Int) := by
        simp only [nV, List.getElem?_map, hy, Option.map_some, Option.some.injEq] at hxk
        exact hxk.symm
      have hkz : (k : Int) < bl.length := by omega
      have hkz0 : (0 : Int) ≤ k := by omega
      cases ha : aliveT s y with
      | false =>
        have HA := HAl.out y
        rw [ha] at HA
        have HA2 := Lib.hid HA
        have HN2 : Hid (∀ j, j < k + 1 → ∀ y, bl[j]? = some y → aliveT s y = false) := Lib.hid (fun j hj z hz => by
          rcases Nat.lt_or_ge j k with h | h
          · exact HN.out j h z hz
          · obtain rfl : j = k := by omega
            rw [hy] at hz
            injection hz with hz
            subst hz
            exact ha)
        clear ha hy hxk HA HAl HY HN
        gi_wp2_with (first | (gi_at_call 16; refine HA2.out.mono ?_; rintro e w1 ⟨rfl, rfl⟩))
        refine ⟨fun _ h => (by cases h), ?_⟩
        gi_wp2
        go_roundw
        case rel => exact ⟨k + 1, by omega, by go_num, by trivial, HN2⟩
        case measure => simp [intOf]; omega
      | true =>
        have HA := HAl.out y
        rw [ha] at HA
        have HA2 := Lib.hid HA
        have hf := first_at hy ha HN.out
        obtain ⟨fn, tmps, assign, body, hyy, hR⟩ := HY.out y hf
        have HF := Lib.hid hf
        clear ha hy hxk HA HAl HY HN hf
        gi_wp2_with (first
          | (gi_at_call 16; refine HA2.out.mono ?_; rintro e w1 ⟨rfl, rfl⟩))
        refine hR.mono ?_
        rintro e w2 ⟨rfl, hX⟩
        gi_wp2
        refine bodyPost_ret (results_none rfl _ _ _) rfl ?_
        exact ⟨⟨_, rfl⟩, .inr ⟨_, HF.out, hX⟩⟩
    · obtain rfl : k = bl.length := by omega
      have hf := first_no (s := s) (l := bl) HN.out
      have HF := Lib.hid hf
      clear hf HN HY HAl
      gi_wp2
      go_end0
      exact ⟨⟨_, rfl⟩, .inl ⟨HF.out, by trivial⟩⟩
end Go.Proofs.Ytojmhacafmpbgaa.Tk
