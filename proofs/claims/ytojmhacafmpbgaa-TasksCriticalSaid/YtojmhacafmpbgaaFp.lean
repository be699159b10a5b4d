/- Footprints: the blocks of an object; what is apart from what. -/
import Derived.Test.YtojmhacafmpbgaaOwn2
namespace Go.Proofs.Ytojmhacafmpbgaa.Mem
open Go Go.RowKit
set_option linter.unusedVariables false
abbrev Blocks := Nat → Prop
/-- No block of F is one of G. -/
def Dis (F G : Blocks) : Prop := ∀ k, F k → ¬ G k
/-- The blocks lie at or above B, and are there. -/
def In (B : Nat) (w : World) (F : Blocks) : Prop := ∀ k, F k → B ≤ k ∧ k < w.heap.size
/-- F' has just blocks of F and new ones. -/
def Grow (w : World) (F F' : Blocks) : Prop := ∀ k, F' k → F k ∨ w.heap.size ≤ k
/-- The block of a slice value. -/
def OwnB (v : Value) : Blocks := fun k => v.ownBlock = some k
section
variable {F F' G G' : Blocks} {w w' w'' : World} {B : Nat}
theorem Dis.symm (h : Dis F G) : Dis G F := fun k hg hf => h k hf hg
theorem Dis.mono (h : Dis F G) (hF : ∀ k, F' k → F k) : Dis F' G := fun k hk => h k (hF k hk)
theorem Dis.grow (h : Dis F G) (hg : Grow w F F') (hG : In B w G) : Dis F' G := fun k hk hgk => by
  rcases hg k hk with h1 | h1
  · exact h k h1 hgk
  · have := (hG k hgk).2; omega
theorem Dis.no (F : Blocks) : Dis F (fun _ => False) := fun _ _ h => h
theorem Dis.nil (F : Blocks) : Dis F (OwnB (.slice none 0 0)) := fun k _ h => by simp [OwnB, Value.ownBlock] at h
theorem Grow.refl (w : World) (F : Blocks) : Grow w F F := fun _ h => .inl h
theorem Grow.trans (h : Grow w F F') (k : Grow w' F' G) (hs : w.heap.size ≤ w'.heap.size) : Grow w F G := fun i hi => by
  rcases k i hi with h1 | h1
  · exact h i h1
  · exact .inr (by omega)
theorem In.size (h : In B w F) (hs : w.heap.size ≤ w'.heap.size) : In B w' F := fun k hk => ⟨(h k hk).1, by have := (h k hk).2; omega⟩
theorem In.grow (h : In B w F) (hg : Grow w F F') (hB : B ≤ w.heap.size) (hF : ∀ k, F' k → k < w'.heap.size) : In B w' F' := fun k hk => ⟨by
  rcases hg k hk with h1 | h1
  · exact (h k h1).1
  · omega, hF k hk⟩
theorem Upd.keepB (h : Upd F w w') (hi : In B w F) (hB : B ≤ w.heap.size) : Below B w w' := h.below hB (fun k hk => (hi k hk).1)
theorem below_upd (h : Below B w w') (hb : Upd F w' w'') (hi : In B w' F) (hB : B ≤ w.heap.size) : Below B w w'' := h.trans (hb.keepB hi (by have := h.size; omega))
end
section
variable {w w' : World} {base : Nat} {e : TypeId} {size n : Nat} {v : Value} {xs : List Value} {F : Blocks}
theorem own_in (h : w.ownsRow base e size v n xs) : In base w (OwnB v) := fun k hk => h.lt k hk
theorem own_keep (h : w.ownsRow base e size v n xs) (hu : Upd F w w') (hd : Dis (OwnB v) F) : w'.ownsRow base e size v n xs := own_upd h hu (fun g hg => hd g hg)
theorem own_dis_blk {g : Nat} {t : TypeId} {cs : Array Value} (h : w.ownsRow base e size v n xs) (hg : Blk w g t cs) (hne : e ≠ t) : Dis (OwnB v) (fun k => k = g) := fun k hk e => by
  subst e
  exact own_blk_ne h hg hne hk
theorem own_dis_own {base' : Nat} {e' : TypeId} {size' n' : Nat} {v' : Value} {xs' : List Value} (h : w.ownsRow base e size v n xs) (h' : w.ownsRow base' e' size' v' n' xs') (hne : e ≠ e') : Dis (OwnB v) (OwnB v') := fun k hk => own_own_ne h h' hne hk
theorem grown_upd {v : Value} (h : w.grownBy w' v.ownBlock) : Upd (OwnB v) w w' := Upd.of_grown h (fun i hi => hi)
/-- What append hands back has its old block or a new one. -/
theorem append_grow {v v' : Value} {W : World} (h : v'.ownBlock = v.ownBlock ∨ v'.ownBlock = some W.heap.size) (hs : w.heap.size ≤ W.heap.size) : Grow w (OwnB v) (OwnB v') := fun k hk => by
  rcases h with e | e
  · exact .inl (e.symm.trans hk)
  · have : W.heap.size = k := by
      have := e.symm.trans hk
      simpa using this
    exact .inr (by omega)
end
theorem reads_fresh (w : World) (e : TypeId) (cs : List Value) (n size : Nat) (h : cs.length = n * size) : Reads (w.alloc (.cells cs.toArray e)) (w.heap.size + 1) size (some ⟨w.heap.size, 0, none⟩) n cs :=
  ⟨h, fun _ => ⟨_, rfl, by show w.heap.size < _; omega, fun j u hu => by
    have e1 : ((⟨w.heap.size, 0, none⟩ : Addr).add j) = ⟨w.heap.size, j, none⟩ := by unfold Addr.add; split <;> simp_all
    rw [e1, (Blk.new w e cs.toArray).cell j]
    simpa using hu⟩⟩
/-- x = append(x, u) of a one-cell u, in a walk: the row's blocks alone may have changed. -/
theorem wpList_append1 {P : Program} {ops : Array Oper} {rest : List Oper} {o : Oper} {a : Act} {Q : Exit → Act → World → Prop} {W : World} (hgd : o.guard = none) (s x : Operand) (t : TypeId)
    (ho : o.op = .call { callee := .builtin .append, args := #[s, x], argTypes := #[t, t] })
    (base : Nat) (e : TypeId) (i : TypeInfo) (z : Value) (bytes : Nat) (ht : P.underlying t = some (.slice e)) (hi : P.info? e = some i) (hz : i.zero = some z)
    (hsize : i.size = 1) (hby : i.bytes = bytes) (hzs : z.cells.size = 1)
    (v : Value) (n : Nat) (xs : List Value) (hs : a.eval s = v) (hown : W.ownsRow base e 1 v n xs) (u : Value) (hx : a.eval x = .slice (some ⟨W.heap.size, 0, none⟩) 1 1) (hu1 : u.oneCell' = true)
    (h63 : n + 1 ≤ maxLen) (hbytes : (n + 1) * bytes ≤ 140737488355328) (hbase : base ≤ W.heap.size)
    (h : ∀ v' w', w'.ownsRow base e 1 v' (n + 1) (xs ++ [u]) → Upd (OwnB v) W w' → Grow W (OwnB v) (OwnB v') → wpList P ops Q rest (a.put o.dst v') w') : wpList P ops Q (o :: rest) a (W.alloc (.cells #[u] e)) :=
  wpList_append_any _ hgd s x t ho base e i z 1 bytes ht hi hz hsize hby hzs (by omega) v n xs hs (hown.alloc _) (W.heap.size + 1) (some ⟨W.heap.size, 0, none⟩) 1 1 [u] hx (reads_fresh W e [u] 1 1 rfl) (by simpa using hu1) h63 hbytes (by simp; omega)
    fun v' w' h2 h3 h4 => h v' w' h2 (((Upd.refl (OwnB v) W).alloc _).trans (grown_upd h3) (fun _ _ h => h)) (append_grow h4 (by simp))
end Go.Proofs.Ytojmhacafmpbgaa.Mem
