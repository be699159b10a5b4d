/- A slice of slices: the outer row, and the pack of the inner rows, which are never written. -/
import Derived.Test.YtojmhacafmpbgaaStar
namespace Go.Proofs.Ytojmhacafmpbgaa.Mem
open Go Go.RowKit
set_option linter.unusedVariables false
/-- Two of them are taken as one. -/
theorem Star.fuse {w0 w : World} {L : List Asr} {A B C : Asr} [hok : C.Ok] (h : Star w0 w (A :: L)) (j : Nat) (hj : L[j]? = some B) (hC : ∀ F G, A w0.heap.size F w → B w0.heap.size G w → ∃ H : Blocks, C w0.heap.size H w ∧ ∀ k, H k → F k ∨ G k) : Star w0 w (L.set j C) := by
  obtain ⟨hb, Fs, hsep, hl, hA⟩ := h
  match Fs, hl with
  | F :: Gs, hl =>
    simp only [List.length_cons, Nat.add_right_cancel_iff] at hl
    have hjl : j < L.length := (List.getElem?_eq_some_iff.1 hj).1
    have hGj : Gs[j]? = some Gs[j] := List.getElem?_eq_getElem (by omega)
    have h0 := (hA 0 A F rfl rfl).2
    have h1 := (hA (j + 1) B Gs[j] (by simpa using hj) (by simp)).2
    obtain ⟨H, hH, hHs⟩ := hC F Gs[j] h0 h1
    have hdis : ∀ (i : Nat) (G : Blocks), i ≠ j → Gs[i]? = some G → Dis H G := fun i G hne hi k hk hg => by
      rcases hHs k hk with h2 | h2
      · exact hsep.dis 0 (i + 1) rfl (by simpa using hi) (by omega) k h2 hg
      · exact hsep.dis (j + 1) (i + 1) (by simp) (by simpa using hi) (by omega) k h2 hg
    refine ⟨hb, Gs.set j H, ⟨fun G hG => ?_, List.pairwise_iff_getElem.2 fun i l hi hl' hil => ?_⟩, by simp [hl], fun i X G hi hGi => ?_⟩
    · rcases List.mem_or_eq_of_mem_set hG with h2 | rfl
      · exact hsep.in_ G (by simp [h2])
      · exact hok.in_ hH
    · rw [List.length_set] at hi hl'
      rw [List.getElem_set, List.getElem_set]
      by_cases e1 : j = i
      · rw [if_pos e1, if_neg (by omega)]
        exact hdis l _ (by omega) (List.getElem?_eq_getElem hl')
      · rw [if_neg e1]
        by_cases e2 : j = l
        · rw [if_pos e2]
          exact (hdis i _ (by omega) (List.getElem?_eq_getElem hi)).symm
        · rw [if_neg e2]
          exact hsep.dis (i + 1) (l + 1) (by simp [List.getElem?_eq_getElem hi]) (by simp [List.getElem?_eq_getElem hl']) (by omega)
    · by_cases e : j = i
      · subst e
        rw [List.getElem?_set_self (by omega)] at hi hGi
        injection hi with hi
        injection hGi with hGi
        subst hi hGi
        exact ⟨hok, hH⟩
      · rw [List.getElem?_set_ne e] at hi hGi
        exact hA (i + 1) X G (by simpa using hi) (by simpa using hGi)
/-- Rows of one's own, one for each value. -/
def RowsA (e : TypeId) (vs : List Value) (ls : List (List Value)) : Asr := fun B F w => vs.length = ls.length ∧ (∀ (q : Nat) (v : Value) (l : List Value), vs[q]? = some v → ls[q]? = some l → w.ownsRow B e 1 v l.length l) ∧ ∀ k, F k ↔ ∃ v ∈ vs, OwnB v k
instance (e : TypeId) (vs : List Value) (ls : List (List Value)) : (RowsA e vs ls).Ok where
  in_ := fun {B F w} ⟨hl, h, hF⟩ k hk => by
    obtain ⟨v, hv, hk⟩ := (hF k).1 hk
    obtain ⟨q, hq⟩ := List.getElem?_of_mem hv
    have hlt := (List.getElem?_eq_some_iff.1 hq).1
    exact own_in (h q v _ hq (List.getElem?_eq_getElem (by omega))) k hk
  keep := fun {B F G w w'} ⟨hl, h, hF⟩ hu hd => ⟨hl, fun q v l hq hl' => own_keep (h q v l hq hl') hu (fun k hk => hd k ((hF k).2 ⟨v, List.mem_of_getElem? hq, hk⟩)), hF⟩
section
variable {w0 w : World} {L : List Asr} {e : TypeId} {vs : List Value} {ls : List (List Value)}
theorem Star.rows (h : Star w0 w L) (j : Nat) (hj : L[j]? = some (RowsA e vs ls)) : vs.length = ls.length ∧ ∀ (q : Nat) (v : Value) (l : List Value), vs[q]? = some v → ls[q]? = some l → w.ownsRow w0.heap.size e 1 v l.length l := by
  obtain ⟨F, ⟨h1, h2, _⟩, _⟩ := h.of j hj
  exact ⟨h1, h2⟩
/-- A row goes in. -/
theorem Star.putRow {v : Value} {n : Nat} {l : List Value} (h : Star w0 w (RowA e 1 v n l :: L)) (hn : n = l.length) (j : Nat) (hj : L[j]? = some (RowsA e vs ls)) (q : Nat) : Star w0 w (L.set j (RowsA e (vs.set q v) (ls.set q l))) := by
  refine h.fuse j hj fun F G ⟨ha, hF⟩ ⟨hl, hr, hG⟩ => ⟨fun k => ∃ u ∈ vs.set q v, OwnB u k, ⟨by simp [hl], fun i u x hu hx => ?_, fun k => Iff.rfl⟩, fun k ⟨u, hu, hk⟩ => ?_⟩
  · by_cases e1 : q = i
    · subst e1
      have h1 := (List.getElem?_eq_some_iff.1 hu).1
      have h2 := (List.getElem?_eq_some_iff.1 hx).1
      rw [List.length_set] at h1 h2
      rw [List.getElem?_set_self h1] at hu
      rw [List.getElem?_set_self h2] at hx
      injection hu with hu
      injection hx with hx
      subst hu hx
      rw [← hn]
      exact ha
    · rw [List.getElem?_set_ne e1] at hu hx
      exact hr i u x hu hx
  · rcases List.mem_or_eq_of_mem_set hu with h2 | rfl
    · exact .inr ((hG k).2 ⟨u, h2, hk⟩)
    · exact .inl (by rw [hF]; exact hk)
/-- All of them empty. -/
theorem Star.nilRows (h : Star w0 w L) (e : TypeId) (n : Nat) : Star w0 w (RowsA e (List.replicate n (.slice none 0 0)) (List.replicate n []) :: L) := by
  refine h.new (F := fun _ => False) inferInstance ⟨by simp, fun q v l hq hl => ?_, fun k => ⟨fun h => h.elim, fun ⟨v, hv, hk⟩ => ?_⟩⟩ (Upd.refl _ _) (fun k hk => hk.elim)
  · rw [List.getElem?_replicate] at hq hl
    split at hq
    · injection hq with hq
      split at hl
      · injection hl with hl
        subst hq hl
        exact World.ownsRow_nil _ _ _ _
      · omega
    · cases hq
  · obtain ⟨-, rfl⟩ := List.mem_replicate.1 hv
    simp [OwnB, Value.ownBlock] at hk
end
end Go.Proofs.Ytojmhacafmpbgaa.Mem
