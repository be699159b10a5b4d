/- The walk of ArenaPlays. -/
import Derived.Test.YtnejjaebhjgccaaArP4
import Derived.Test.YtnejjaebhjgccaaArTwA
import Derived.Test.YtnejjaebhjgccaaArOnce
import Derived.Deep.CutBlock
import Derived.Deep.CutRange
import Derived.StillTailTactics
namespace Go.Proofs.Ytnejjaebhjgccaa.Ar
open Go Go.RowKit Go.Proofs.Ytnejjaebhjgccaa.Mem Go.Proofs.Ytnejjaebhjgccaa.Bits
set_option linter.unusedVariables false
set_option linter.unusedSimpArgs false
theorem Whole.set {N : Nat} {sl : List Sl} {fr : List Nat} {cap : Int} (h : Whole N sl fr cap) {i : Nat} {s : Sl} (v : Int) (hs : sl[i]? = some s) (ht : s.tk = true) : Whole N (sl.set i ⟨s.gen, true, v⟩) fr cap := by
  have hc := cntN_set sl i s ⟨s.gen, true, v⟩ hs
  rw [ht] at hc
  simp only [if_true] at hc
  have hw := h.whole
  have hg := h.good
  refine ⟨⟨fun t ht' => ?_, by simpa using hg.len, hg.cap, hg.nodup, fun k hk => ?_, by simpa using hg.frlen⟩, by simp only [List.length_set]; omega⟩
  · rcases List.mem_or_eq_of_mem_set ht' with h' | h'
    · exact hg.gens t h'
    · subst h'
      exact hg.gens s (List.mem_of_getElem? hs)
  · obtain ⟨u, hu, hut⟩ := hg.free k hk
    have hne : i ≠ k := fun e => by
      subst e
      rw [hs] at hu
      injection hu with hu
      rw [← hu, ht] at hut
      cases hut
    exact ⟨u, by rw [List.getElem?_set_ne hne]; exact hu, hut⟩
theorem cnt_to (sl : List Sl) : ∀ k, k ≤ sl.length → cntN (sl.take k) = (idsTo sl k).length
  | 0, _ => by simp [cntN, idsTo]
  | k + 1, h => by
    have ih := cnt_to sl k (by omega)
    have hk : k < sl.length := by omega
    have hg : sl.getD k sl0 = sl[k] := by rw [List.getD_eq_getElem?_getD, List.getElem?_eq_getElem hk]; rfl
    rw [List.take_succ_eq_append_getElem hk, cntN_snoc, ih]
    cases ht : sl[k].tk
    · rw [idsTo_no (by rw [hg]; exact ht)]
      simp
    · rw [idsTo_yes (by rw [hg]; exact ht)]
      simp
theorem cnt_ids (sl : List Sl) : cntN sl = (idsTo sl sl.length).length := by
  have := cnt_to sl sl.length (Nat.le_refl _)
  rwa [List.take_length] at this
section
variable {w : World} {B b : Nat} {F : Blocks} {sl : List Sl} {fr : List Nat} {cap : Int}
/-- A value is stored where a slot is taken. -/
theorem Rg.setv {gv tv : Value} {A : Option Addr} {c : Nat} {g cp n i : Nat} {s : Sl} (h : Rg w B b (gensV sl) (valsV sl) (taksV sl) fr cap gv (.slice (some ⟨g, 0, none⟩) n cp) tv A c) (hs : sl[i]? = some s) (ht : s.tk = true) (v : Int) :
    Rg (w.setCell ⟨g, i, none⟩ (.int .i64 v)) B b (gensV (sl.set i ⟨s.gen, true, v⟩)) (valsV (sl.set i ⟨s.gen, true, v⟩)) (taksV (sl.set i ⟨s.gen, true, v⟩)) fr cap gv (.slice (some ⟨g, 0, none⟩) n cp) tv A c := by
  have hil : i < sl.length := (List.getElem?_eq_some_iff.1 hs).1
  have h1 := h.set_val i (.int .i64 v)
  rw [gensV_set, valsV_set, taksV_set]
  have e1 : (gensV sl).set i (.int .i64 s.gen) = gensV sl := by
    apply List.ext_getElem?
    intro j
    by_cases hj : i = j
    · subst hj
      rw [List.getElem?_set_self (by simp [gensV, hil]), gens_at hs]
    · rw [List.getElem?_set_ne hj]
  have e2 : (taksV sl).set i (.bool true) = taksV sl := by
    apply List.ext_getElem?
    intro j
    by_cases hj : i = j
    · subst hj
      rw [List.getElem?_set_self (by simp [taksV, hil]), taks_at hs, ht]
    · rw [List.getElem?_set_ne hj]
  rw [e1, e2]
  exact h1
end
/-- What holds between two steps, the box of the step's own set aside. -/
structure Mid (w : World) (n : Nat) (B bx : Nat) (cap : Int) (W : World) (ids : Value) (F H : Blocks) (sl : List Sl) (fr : List Nat) (told : List Int) : Prop where
  len : told.length ≤ n
  whole : Whole n sl fr cap
  az : Az W B B F sl fr cap
  rf : Rf W B bx H sl fr cap
  own : W.ownsRow B 3 1 ids told.length (ints told)
  sep : Sep B W [H, F, OwnB ids]
  below : Below B w W
section
variable {w : World} {n B bx : Nat} {cap : Int} {W W' : World} {ids : Value} {F H : Blocks} {sl : List Sl} {fr : List Nat} {told : List Int}
theorem Mid.step (h : Mid w n B bx cap W ids F H sl fr told) (hb : Below W.heap.size W W') (hB : B ≤ w.heap.size) : Mid w n B bx cap W' ids F H sl fr told := by
  have hu : Upd (fun _ => False) W W' := Upd.of_below hb _
  have hs : B ≤ W.heap.size := Nat.le_trans hB h.below.size
  exact ⟨h.len, h.whole, h.az.keep hu (Dis.no _), h.rf.keep hu (Dis.no _), own_keep h.own hu (Dis.no _), h.sep.size hu.size, h.below.trans (hb.mono hs)⟩
theorem Mid.drewN (h : Mid w n B bx cap W ids F H sl fr told) (q : Nat) : Mid w n B bx cap (W.drewN q) ids F H sl fr told :=
  ⟨h.len, h.whole, h.az.drewN q, h.rf.drewN q, h.own, h.sep.drewN q, below_drewN h.below q⟩
end
end Go.Proofs.Ytnejjaebhjgccaa.Ar
