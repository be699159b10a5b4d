/- Words on memory for objects that are written: what a call may have changed; rows of one's own that are cut, read, stored into. -/
import Derived.Test.YtojmhacafmpbgaaMem
import Derived.Laws.OwnMore
import Derived.Laws.MakeOwn
import Derived.OwnWalk
import Derived.Maps.AppendAt
import Derived.Deep.AppendLies
import Derived.RegionTactic
import Derived.LoopTactic
import Derived.Lib.Hide
namespace Go.Proofs.Ytojmhacafmpbgaa.Mem
open Go Go.RowKit
set_option linter.unusedVariables false

/-- From w to w' nothing has changed but blocks of F, and what is new. -/
structure Upd (F : Nat → Prop) (w w' : World) : Prop where
  os : w'.os = w.os
  tape : w'.tape = w.tape
  output : w'.output = w.output
  size : w.heap.size ≤ w'.heap.size
  block : ∀ k, k < w.heap.size → ¬ F k → w'.heap[k]? = w.heap[k]?

section
variable {F G : Nat → Prop} {w a b w' : World}
theorem Upd.refl (F : Nat → Prop) (w : World) : Upd F w w := ⟨rfl, rfl, rfl, Nat.le_refl _, fun _ _ _ => rfl⟩
/-- Two steps: what the second may change of the old blocks, the first may. -/
theorem Upd.trans (h : Upd F w a) (k : Upd G a b) (hG : ∀ i, i < w.heap.size → G i → F i) : Upd F w b :=
  ⟨k.os.trans h.os, k.tape.trans h.tape, k.output.trans h.output, Nat.le_trans h.size k.size, fun i hi hF =>
    (k.block i (Nat.lt_of_lt_of_le hi h.size) (fun hg => hF (hG i hi hg))).trans (h.block i hi hF)⟩
theorem Upd.mono (h : Upd F w a) (hF : ∀ i, i < w.heap.size → F i → G i) : Upd G w a :=
  ⟨h.os, h.tape, h.output, h.size, fun i hi hG => h.block i hi (fun hf => hG (hF i hi hf))⟩
theorem Upd.of_below (h : Below w.heap.size w a) (F : Nat → Prop) : Upd F w a := ⟨h.os, h.tape, h.output, h.size, fun i hi _ => h.block i hi⟩
theorem Upd.of_grown {row : Option Nat} (h : w.grownBy a row) (hF : ∀ i, row = some i → F i) : Upd F w a :=
  ⟨h.os, h.tape, h.output, h.size, fun i hi hn => h.block i hi (fun e => hn (hF i e.symm))⟩
theorem Upd.setCell (h : Upd F w a) {p : Addr} (hp : p.block < w.heap.size → F p.block) (u : Value) : Upd F w (a.setCell p u) :=
  h.trans (G := fun i => i = p.block) ⟨rfl, rfl, rfl, by simp, fun i _ hi => Below.heap_setCell a p u i hi⟩ (fun i hi e => by subst e; exact hp hi)
theorem Upd.alloc (h : Upd F w a) (o : Obj) : Upd F w (a.alloc o) :=
  h.trans (G := fun _ => False) ⟨rfl, rfl, rfl, by simp, fun i hi _ => Below.heap_alloc a o i hi⟩ (fun _ _ e => e.elim)
theorem Upd.drew (h : Upd F w a) : Upd F w a.drew := ⟨h.os, h.tape, h.output, h.size, h.block⟩
theorem Upd.drewN (h : Upd F w a) (n : Nat) : Upd F w (a.drewN n) := ⟨h.os, h.tape, h.output, by simpa using h.size, fun k hk hn => by have := h.block k hk hn; simpa using this⟩
/-- Below B, where all that may change lies at or above B. -/
theorem Upd.below {B : Nat} (h : Upd F w a) (hB : B ≤ w.heap.size) (hF : ∀ i, F i → B ≤ i) : Below B w a :=
  ⟨h.os, h.tape, h.output, h.size, fun i hi => h.block i (by omega) (fun hf => by have := hF i hf; omega)⟩
theorem Blk.upd {g : Nat} {t : TypeId} {cs : Array Value} (h : Blk w g t cs) (hu : Upd F w a) (hg : ¬ F g) : Blk a g t cs := (hu.block g h.lt hg).trans h
theorem own_upd {base : Nat} {e : TypeId} {size n : Nat} {v : Value} {xs : List Value} (h : w.ownsRow base e size v n xs) (hu : Upd F w a) (hg : ∀ g, v.ownBlock = some g → ¬ F g) : a.ownsRow base e size v n xs := by
  refine ⟨h.1, ?_⟩
  rcases h.2 with hn | ⟨g, cap, cur, rfl, hb, hgg, rest⟩
  · exact .inl hn
  · refine .inr ⟨g, cap, cur, rfl, hb, ?_, rest⟩
    rw [hu.block g (Array.getElem?_eq_some_iff.1 hgg).1 (hg g rfl)]
    exact hgg
end

section
variable {w : World} {base : Nat} {e : TypeId} {size n : Nat} {v : Value} {xs : List Value}
theorem own_blk_ne {g : Nat} {t : TypeId} {cs : Array Value} (h : w.ownsRow base e size v n xs) (hg : Blk w g t cs) (hne : e ≠ t) : v.ownBlock ≠ some g := by
  rcases h.2 with ⟨rfl, _⟩ | ⟨g', cap, cur, rfl, _, hh, _⟩
  · simp [Value.ownBlock]
  · intro he
    have : g' = g := by simpa [Value.ownBlock] using he
    subst this
    unfold Blk at hg
    rw [hg] at hh
    injection hh with hh
    injection hh with _ ht
    exact hne ht.symm
theorem own_own_ne {base' : Nat} {e' : TypeId} {size' n' : Nat} {v' : Value} {xs' : List Value} (h : w.ownsRow base e size v n xs) (h' : w.ownsRow base' e' size' v' n' xs') (hne : e ≠ e') {g : Nat} (hg : v.ownBlock = some g) : v'.ownBlock ≠ some g := by
  rcases h.2 with ⟨rfl, _⟩ | ⟨g1, cap, cur, rfl, _, hh, _⟩
  · simp [Value.ownBlock] at hg
  · have : g1 = g := by simpa [Value.ownBlock] using hg
    subst this
    exact own_blk_ne h' hh (fun e => hne e.symm)
/-- The row's slice value, opened. -/
theorem own_form (h : w.ownsRow base e size v n xs) (hn : 0 < n) : ∃ g cap, v = .slice (some ⟨g, 0, none⟩) n cap ∧ base ≤ g ∧ g < w.heap.size ∧ n ≤ cap := by
  rcases h.2 with ⟨_, h0⟩ | ⟨g, cap, cur, rfl, hb, hg, hc, _⟩
  · omega
  · exact ⟨g, cap, rfl, hb, (Array.getElem?_eq_some_iff.1 hg).1, hc⟩
/-- The length of a row's slice value, nil or not. -/
theorem own_len (h : w.ownsRow base e size v n xs) : ∃ A c, v = .slice A n c := by
  rcases h.2 with ⟨rfl, rfl⟩ | ⟨g, cap, cur, rfl, _⟩
  · exact ⟨_, _, rfl⟩
  · exact ⟨_, _, rfl⟩
/-- 's[:k]' of a row of one's own. -/
theorem own_cut {g cap : Nat} (h : w.ownsRow base e size (.slice (some ⟨g, 0, none⟩) n cap) n xs) {k : Nat} (hk : k ≤ n) : w.ownsRow base e size (.slice (some ⟨g, 0, none⟩) k cap) k (xs.take (k * size)) := by
  rcases h.2 with ⟨h', _⟩ | ⟨g', cap', cur, h', hb, hg, hnc, hcm, hcs, htake⟩
  · simp at h'
  · simp only [Value.slice.injEq, Option.some.injEq, Addr.mk.injEq, and_true, true_and] at h'
    obtain ⟨rfl, rfl⟩ := h'
    have hle : k * size ≤ n * size := Nat.mul_le_mul_right _ hk
    refine ⟨by rw [List.length_take, h.1]; omega, .inr ⟨g, cap, cur, rfl, hb, hg, by omega, hcm, hcs, ?_⟩⟩
    rw [← htake, List.take_take]
    congr 1
    omega
end
theorem quiet_left {P : Program} {f : FuncId} {args : Array Value} {w : World} {n : Nat} {v : Value}
    (h : Calls P f args (w.drewN n) fun e w' => e = .returned v ∧ w.drewN n = w') : Calls P f args (w.drewN n) fun e w'' => e = .returned v ∧ ∃ m, w'' = w.drewN m :=
  h.mono fun _ _ ⟨he, hm⟩ => ⟨he, n, hm.symm⟩
end Go.Proofs.Ytojmhacafmpbgaa.Mem
