/- Several objects apart from each other; a map of one's own. -/
import Derived.Test.YtojmhacafmpbgaaAgg
import Derived.Maps.OwnSet
namespace Go.Proofs.Ytojmhacafmpbgaa.Mem
open Go Go.RowKit Go.Maps
set_option linter.unusedVariables false
/-- The blocks of all lie at or above B and are there; no two share one. -/
structure Sep (B : Nat) (w : World) (L : List Blocks) : Prop where
  in_ : ∀ F ∈ L, In B w F
  pair : L.Pairwise Dis
section
variable {B : Nat} {w w' : World} {L L1 L2 : List Blocks} {F F' G : Blocks}
theorem Sep.dis (h : Sep B w L) (i j : Nat) (hi : L[i]? = some F) (hj : L[j]? = some G) (hne : i ≠ j) : Dis F G := by
  have hp := List.pairwise_iff_getElem.1 h.pair
  obtain ⟨hi1, hi2⟩ := List.getElem?_eq_some_iff.1 hi
  obtain ⟨hj1, hj2⟩ := List.getElem?_eq_some_iff.1 hj
  rcases Nat.lt_or_gt_of_ne hne with h1 | h1
  · have := hp i j hi1 hj1 h1
    rw [hi2, hj2] at this
    exact this
  · have := hp j i hj1 hi1 h1
    rw [hi2, hj2] at this
    exact this.symm
theorem Sep.at_ (h : Sep B w L) (i : Nat) (hi : L[i]? = some F) : In B w F := h.in_ F (List.mem_of_getElem? hi)
theorem Sep.nil (B : Nat) (w : World) : Sep B w [] := ⟨fun F hF => by simp at hF, List.Pairwise.nil⟩
theorem Sep.size (h : Sep B w L) (hs : w.heap.size ≤ w'.heap.size) : Sep B w' L := ⟨fun F hF => (h.in_ F hF).size hs, h.pair⟩
theorem Sep.drewN (h : Sep B w L) (n : Nat) : Sep B (w.drewN n) L := h.size (by simp)
/-- The object between L1 and L2 has turned. -/
theorem Sep.step (L1 L2 : List Blocks) (h : Sep B w (L1 ++ F :: L2)) (hs : w.heap.size ≤ w'.heap.size) (hg : Grow w F F') (hlt : ∀ k, F' k → k < w'.heap.size) (hB : B ≤ w.heap.size) : Sep B w' (L1 ++ F' :: L2) := by
  obtain ⟨h1, h2⟩ := h
  rw [List.pairwise_append, List.pairwise_cons] at h2
  obtain ⟨p1, ⟨p2, p3⟩, p4⟩ := h2
  have hF := h1 F (by simp)
  refine ⟨fun G hG => ?_, ?_⟩
  · rcases List.mem_append.1 hG with hm | hm
    · exact (h1 G (by simp [hm])).size hs
    · rcases List.mem_cons.1 hm with rfl | hm
      · exact hF.grow hg hB hlt
      · exact (h1 G (by simp [hm])).size hs
  · rw [List.pairwise_append, List.pairwise_cons]
    refine ⟨p1, ⟨fun G hG => (p2 G hG).grow hg (h1 G (by simp [hG])), p3⟩, fun a ha b hb => ?_⟩
    rcases List.mem_cons.1 hb with rfl | hb
    · exact ((p4 a ha F (by simp)).symm.grow hg (h1 a (by simp [ha]))).symm
    · exact p4 a ha b (by simp [hb])
/-- A new object. -/
theorem Sep.new (h : Sep B w L) (hs : w.heap.size ≤ w'.heap.size) (hG : ∀ k, G k → w.heap.size ≤ k ∧ k < w'.heap.size) (hB : B ≤ w.heap.size) : Sep B w' (G :: L) := by
  refine ⟨fun F hF => ?_, List.pairwise_cons.2 ⟨fun F hF k hk hf => ?_, h.pair⟩⟩
  · rcases List.mem_cons.1 hF with rfl | hF
    · exact fun k hk => ⟨by have := hG k hk; omega, (hG k hk).2⟩
    · exact (h.in_ F hF).size hs
  · have := (h.in_ F hF k hf).2
    have := (hG k hk).1
    omega
theorem Sep.tail (h : Sep B w (F :: L)) : Sep B w L := ⟨fun G hG => h.in_ G (by simp [hG]), (List.pairwise_cons.1 h.pair).2⟩
/-- One of them is empty at first. -/
theorem Sep.empty (L1 L2 : List Blocks) (h : Sep B w (L1 ++ L2)) (F : Blocks) (hF : ∀ k, ¬ F k) : Sep B w (L1 ++ F :: L2) := by
  obtain ⟨h1, h2⟩ := h
  rw [List.pairwise_append] at h2
  obtain ⟨p1, p3, p4⟩ := h2
  refine ⟨fun G hG => ?_, ?_⟩
  · rcases List.mem_append.1 hG with hm | hm
    · exact h1 G (by simp [hm])
    · rcases List.mem_cons.1 hm with rfl | hm
      · exact fun k hk => absurd hk (hF k)
      · exact h1 G (by simp [hm])
  · rw [List.pairwise_append, List.pairwise_cons]
    refine ⟨p1, ⟨fun G hG k hk => absurd hk (hF k), p3⟩, fun a ha b hb => ?_⟩
    rcases List.mem_cons.1 hb with rfl | hb
    · exact fun k _ hk => hF k hk
    · exact p4 a ha b hb
theorem nil_empty (k : Nat) : ¬ OwnB (.slice none 0 0) k := by simp [OwnB, Value.ownBlock]
/-- One block by itself. -/
def Just (g : Nat) : Blocks := fun k => k = g
theorem Blk.keep {g : Nat} {t : TypeId} {cs : Array Value} (h : Blk w g t cs) (hu : Upd F w w') (hd : Dis (Just g) F) : Blk w' g t cs := h.upd hu (hd g rfl)
end
section
variable {H : Type} {P : Program} {k : TypeId} {R : Value → Option (DataW H × List MemPlace)} {w w' : World} {b n : Nat} {D : DataW H} {F : Blocks}
theorem map_lt (h : w.ownsMap P k R b n D) : b < w.heap.size := by
  obtain ⟨es, clock, hb, _⟩ := h
  exact (Array.getElem?_eq_some_iff.1 hb).1
theorem map_keep (h : w.ownsMap P k R b n D) (hu : Upd F w w') (hd : Dis (Just b) F) : w'.ownsMap P k R b n D := by
  have hlt := map_lt h
  obtain ⟨es, clock, hb, r⟩ := h
  exact ⟨es, clock, by rw [hu.block b hlt (hd b rfl)]; exact hb, r⟩
theorem turned_upd (h : w.mapTurned w' b) : Upd (Just b) w w' := Upd.of_grown h.grown (fun i hi => by injection hi with hi; exact hi.symm)
variable {ops : Array Oper} {rest : List Oper} {o : Oper} {a : Act} {Q : Exit → Act → World → Prop}
/-- 'v, ok := m[k]', where it is known what comes. -/
theorem wpList_look_int (hg : o.guard = none) (m x : Operand) (t : TypeId) (hop : o.op = Op.lookup t m x true)
    (k e : TypeId) (q : IntKind) (K : Keyed P k) (ht : P.underlying t = some (.map k e)) (he : P.underlying e = some (.int q)) (hz : (zeroValue e).run P w = .ok (.int q 0) w) (b n : Nat) (D : DataW H)
    (hm : a.eval m = .map (some b)) (hown : w.ownsMap P k (plainElem P e) b n D) (key : Value) (kl : Lit) (hx : a.eval x = key) (hkey : keyOf P k key = some kl) (c : Int) (bb : Bool)
    (hat : D.atKey kl (.lit (.int q 0)) = .lit (.int q c)) (hbb : Maps.has D kl = bb) (h : wpList P ops Q rest (a.put o.dst (.tuple #[.int q c, .bool bb])) w) :
    wpList P ops Q (o :: rest) a w :=
  wpList_lookup_own_ok_int w hg m x t hop k e q K ht he hz b n D hm hown key kl hx hkey (fun c' hat' _ => by
    rw [hat] at hat'
    have e : c = c' := by injection hat' with h1; injection h1
    rw [hbb, ← e]
    exact h)
end
end Go.Proofs.Ytojmhacafmpbgaa.Mem
