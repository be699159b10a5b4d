/- The fifo: objects of any kind in the star; a range over a function whose iterator keeps a box; elements. -/
import Derived.RangeFuncNested
import Derived.RangeFuncBound
import Derived.RangeFuncCalls
import Derived.RangeFuncLeaves
import Derived.RangeFuncBox
import Derived.Shelf.Abstract
import Derived.Shelf.RegionOpen
import Derived.WalkKit
import Derived.OwnWalkIn
import Derived.TacticsInMore
import Derived.LoopNIn
import Derived.LoopIn
import Derived.Stop.RegionWithIn
import Derived.Sort.CutIn
import Derived.Sort.QuietIn
import Derived.Test.YtaiggfoeobehlaaFfH
import Derived.Test.YtaiggfoeobehlaaRgF
namespace Go.Proofs.Ytaiggfoeobehlaa.Mem
open Go Go.RowKit
set_option linter.unusedVariables false
/-- One block, whatever it holds. -/
def ObjA (g : Nat) (o : Obj) : Asr := fun B F w => w.heap[g]? = some o ∧ B ≤ g ∧ F = Just g
instance (g : Nat) (o : Obj) : (ObjA g o).Ok where
  in_ := fun ⟨h1, h2, h3⟩ k hk => by
    subst h3
    obtain rfl : k = g := hk
    exact ⟨h2, (Array.getElem?_eq_some_iff.1 h1).1⟩
  keep := fun ⟨h1, h2, h3⟩ hu hd => by
    subst h3
    exact ⟨(hu.block _ (Array.getElem?_eq_some_iff.1 h1).1 (hd _ rfl)).trans h1, h2, rfl⟩
section
variable {w0 w : World} {L : List Asr}
theorem Star.obj {g : Nat} {o : Obj} (h : Star w0 w L) (i : Nat) (hi : L[i]? = some (ObjA g o)) : w.heap[g]? = some o := (h.of i hi).elim fun _ hx => hx.1.1
theorem Star.newObj (h : Star w0 w L) (o : Obj) : Star w0 (w.alloc o) (ObjA w.heap.size o :: L) :=
  h.new (F := Just w.heap.size) inferInstance ⟨World.alloc_heap_new w o, h.hb, rfl⟩ ((Upd.refl _ _).alloc o) (fun k hk => by rw [show k = w.heap.size from hk]; exact Nat.le_refl _)
theorem Star.setObj {g : Nat} {o : Obj} (h : Star w0 w L) (i : Nat) (hi : L[i]? = some (ObjA g o)) (o' : Obj) : Star w0 (w.putObj g o') (L.set i (ObjA g o')) := by
  obtain ⟨F, ⟨h1, h2, h3⟩, hin, hk⟩ := h.at_ i hi
  subst h3
  have hlt := (Array.getElem?_eq_some_iff.1 h1).1
  have hg := grownBy_putObj' w g o'
  exact hk inferInstance ⟨World.putObj_heap_same hlt, h2, rfl⟩ (Upd.of_grown hg (fun i hi => by cases hi; rfl)) (Grow.refl _ _)
end
end Go.Proofs.Ytaiggfoeobehlaa.Mem
namespace Go.Proofs.Ytaiggfoeobehlaa.Ff
open Go Go.RowKit Go.Shelf Go.Proofs.Ytaiggfoeobehlaa.Mem
set_option linter.unusedVariables false
set_option linter.unusedSimpArgs false
attribute [local go_sem] Oper.semAt_some
theorem elements_any (p A : Option Addr) (m c : Nat) (w : World) :
    Calls Try.prog 26 #[.pointer p, .slice A m c] w fun e w' => e = .returned (.func (.func 32) #[] #[.pointer (some ⟨w.heap.size + 1, 0, none⟩), .pointer (some ⟨w.heap.size, 0, none⟩)]) ∧ w' = (w.alloc (.cells #[.pointer p] 23)).alloc (.cells #[.slice A m c] 27) := by
  go_enter Try.func26, Try.ntmps26
  go_wp2
  go_ret
  exact ⟨rfl, rfl⟩
def nxt (z : Nat) (x : Option Addr × Nat) : Option Addr × Nat := (if x.2 = z then x.1 else x.1.map (·.add z), x.2 - z)
def cutN (z : Nat) (x : Option Addr × Nat) : Nat → Option Addr × Nat
  | 0 => x
  | j + 1 => nxt z (cutN z x j)
def vcut (z N : Nat) (x : Option Addr × Nat) (j : Nat) : Value := .slice (cutN z x j).1 ((N - j) * z) (cutN z x j).2
theorem cut_len (z : Nat) (x : Option Addr × Nat) : ∀ j, (cutN z x j).2 = x.2 - j * z
  | 0 => by simp [cutN]
  | j + 1 => by
    simp only [cutN, nxt]
    rw [cut_len z x j, Nat.add_mul, Nat.one_mul, Nat.sub_sub]
set_option maxRecDepth 100000 in
set_option maxHeartbeats 4000000 in
theorem it_in (n l Bb Bf bs z N : Nat) (x : Option Addr × Nat) (hz : 1 ≤ z) (hz2 : z ≤ 64) (hN : N * z ≤ x.2) (hx : x.2 ≤ maxLen) (A B : Nat → World → Prop) (X : World → Prop)
    (hA : ∀ j W, A j W → W.cell? ⟨Bb, 0, none⟩ = some (vcut z N x j) ∧ W.cell? ⟨Bf, 0, none⟩ = some (.pointer (some ⟨bs, 0, none⟩)) ∧ W.cell? ⟨bs, 9, none⟩ = some (.int .i64 z))
    (hB : ∀ j W, B j W → W.cell? ⟨Bb, 0, none⟩ = some (vcut z N x j) ∧ W.cell? ⟨Bf, 0, none⟩ = some (.pointer (some ⟨bs, 0, none⟩)) ∧ W.cell? ⟨bs, 9, none⟩ = some (.int .i64 z) ∧ W.frozen? ⟨Bb, 0, none⟩ = false)
    (hd : ∀ j W d, A j W → A j (W.drewN d)) (hd2 : ∀ j W, B j W → A (j + 1) (W.setCell ⟨Bb, 0, none⟩ (vcut z N x (j + 1)))) (hdB : ∀ j W d, B j W → B j (W.drewN d))
    (hY : ∀ j W, j < N → A j W → YieldAt Fence.wide (n - 1) Try.prog l #[.slice (cutN z x j).1 z (cutN z x j).2] W fun e W' => ∃ b, e = .returned (.bool b) ∧ (if b then B j W' else X W'))
    (W : World) (h0 : A 0 W) :
    CallsIn Fence.wide n Try.prog 32 #[.func (.yield l) #[] #[], .pointer (some ⟨Bb, 0, none⟩), .pointer (some ⟨Bf, 0, none⟩)] W fun e W' => (∃ v, e = .returned v) ∧ (A N W' ∨ X W') := by
  refine callsIn_of_wp Try.func32 rfl trivial ?_ rfl
  simp only [Try.ntmps32, List.size_toArray, List.length_cons, List.length_nil, Nat.reduceAdd, Nat.reduceSub, Array.replicate_succ, Array.replicate_zero, List.push_toArray, List.append_toArray, List.nil_append, List.cons_append]
  gi_wp2
  gi_loopg [4] N (fun gg _ wr => ∃ j, j ≤ N ∧ N - j ≤ gg ∧ Hid (A j wr))
  case atStart => exact ⟨0, Nat.zero_le _, by omega, Lib.hid h0⟩
  case round =>
    obtain ⟨j, hj, hg, HA⟩ := hrel
    by_cases hlt : j < N
    · obtain ⟨c1, c2, c3⟩ := hA j wr HA.out
      have hcl := cut_len z x j
      have hjN : j * z + (N - j) * z = N * z := by rw [← Nat.add_mul, Nat.add_sub_cancel' hj]
      have hm : z ≤ (N - j) * z := Nat.le_mul_of_pos_left z (by omega)
      have hcz : (N - j) * z ≤ (cutN z x j).2 := by rw [hcl]; omega
      have hvj : ∀ W, B j W → W.cell? ⟨Bb, 0, none⟩ = some (vcut z N x j) ∧ W.cell? ⟨Bf, 0, none⟩ = some (.pointer (some ⟨bs, 0, none⟩)) ∧ W.cell? ⟨bs, 9, none⟩ = some (.int .i64 z) ∧ W.frozen? ⟨Bb, 0, none⟩ = false := fun W h => hB j W h
      have hvn : vcut z N x (j + 1) = .slice (if (cutN z x j).2 = z then (cutN z x j).1 else (cutN z x j).1.map (·.add z)) ((N - j) * z - z) ((cutN z x j).2 - z) := by
        unfold vcut
        rw [show (N - (j + 1)) * z = (N - j) * z - z by rw [← Nat.sub_sub, Nat.sub_mul, Nat.one_mul]]
        rfl
      have HVN := Lib.hid hvn
      have hyy := hY j wr.drew hlt (hd j wr 1 HA.out)
      unfold vcut at c1 hvj
      clear hvn hA hB hY hcl hjN
      generalize cutN z x j = ac at *
      obtain ⟨Aj, cj⟩ := ac
      simp only at c1 hvj hcz hyy HVN
      generalize (N - j) * z = m at *
      have hm0 : 0 < m := by omega
      have hmi : (0 : Int) < m := by omega
      have hmc : (m : Int) ≤ cj := by omega
      have hzi : (z : Int) ≤ m := by omega
      have hzc : z ≤ cj := by omega
      obtain ⟨fn, tmps, assign, body, hy, hR⟩ := hyy
      gi_wp2
      gi_region_with (refine And.intro (fun h => by cases h) (hR.mono ?_); rintro e W3 ⟨b, rfl, hb⟩)
      all_goals
        cases b
        · rw [if_neg (by decide)] at hb
          gi_wp2
          go_end0
          exact ⟨⟨_, rfl⟩, .inr hb⟩
        · rw [if_pos rfl] at hb
          have hb2 := hvj W3 hb
          have hn := hd2 j W3 hb
          by_cases hcj : cj = z
          · rw [HVN.out, if_pos hcj, hcj, Nat.sub_self] at hn
            rw [hcj] at hb2
            clear hvj HVN
            gi_wp2
            gi_region
            all_goals
              gi_wp2
              gi_roundg (gk - 1)
              case rel => exact ⟨j + 1, by omega, by omega, Lib.hid (hd _ _ 1 hn)⟩
              case measure => omega
          · rw [HVN.out, if_neg hcj] at hn
            clear hvj HVN
            gi_wp2
            gi_region
            all_goals
              gi_wp2
              gi_roundg (gk - 1)
              case rel => exact ⟨j + 1, by omega, by omega, Lib.hid (hd _ _ 1 hn)⟩
              case measure => omega
    · obtain rfl : j = N := by omega
      obtain ⟨c1, c2, c3⟩ := hA j wr HA.out
      have hde := hd j wr 1 HA.out
      unfold vcut at c1
      rw [Nat.sub_self, Nat.zero_mul] at c1
      generalize cutN z x j = ac at *
      clear hB hY hA hd2
      gi_wp2
      refine wpIn_wide.2 ?_
      go_quiet (fail)
      gi_wp2
      go_end0
      exact ⟨⟨_, rfl⟩, .inl (hd _ _ _ HA.out)⟩
end Go.Proofs.Ytaiggfoeobehlaa.Ff
