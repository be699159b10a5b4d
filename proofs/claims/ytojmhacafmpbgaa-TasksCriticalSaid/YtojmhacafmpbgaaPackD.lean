/- A slice of slices whose inner rows are written: they lie apart from one another. -/
import Derived.Test.YtojmhacafmpbgaaPack
namespace Go.Proofs.Ytojmhacafmpbgaa.Mem
open Go Go.RowKit
set_option linter.unusedVariables false
/-- Two of them are taken as one; they lie apart. -/
theorem Star.fuse2 {w0 w : World} {L : List Asr} {A B C : Asr} [hok : C.Ok] (h : Star w0 w (A :: L)) (j : Nat) (hj : L[j]? = some B) (hC : ∀ F G, A w0.heap.size F w → B w0.heap.size G w → Dis F G → ∃ H : Blocks, C w0.heap.size H w ∧ ∀ k, H k → F k ∨ G k) : Star w0 w (L.set j C) := by
  obtain ⟨hb, Fs, hsep, hl, hA⟩ := h
  match Fs, hl with
  | F :: Gs, hl =>
    simp only [List.length_cons, Nat.add_right_cancel_iff] at hl
    have hjl : j < L.length := (List.getElem?_eq_some_iff.1 hj).1
    have hGj : Gs[j]? = some Gs[j] := List.getElem?_eq_getElem (by omega)
    have h0 := (hA 0 A F rfl rfl).2
    have h1 := (hA (j + 1) B Gs[j] (by simpa using hj) (by simp)).2
    obtain ⟨H, hH, hHs⟩ := hC F Gs[j] h0 h1 (hsep.dis 0 (j + 1) rfl (by simp) (by omega))
    have hdis : ∀ (i : Nat) (G : Blocks), i ≠ j → Gs[i]? = some G → Dis H G := fun i G hne hi k hk hg => by
      rcases hHs k hk with h2 | h2
      · exact hsep.dis 0 (i + 1) rfl (by simpa using hi) (by omega) k h2 hg
      · exact hsep.dis (j + 1) (i + 1) (by simp) (by simpa using hi) (by omega) k h2 hg
    refine ⟨hb, Gs.set j H, ⟨fun G hG => ?_, List.pairwise_iff_getElem.2 fun i l hi hl' hil => ?_⟩, by simp [hl], fun i X G hi hGi => ?_⟩
    · rcases List.mem_or_eq_of_mem_set hG with h2 | rfl
      · exact hsep.in_ G (by simp [h2])
      · exact hok.in_ hH
    · rw [List.length_set] at hi hl'
      rw [List.getElem_set, List.getElem_set]
      by_cases e1 : j = i
      · rw [if_pos e1, if_neg (by omega)]
        exact hdis l _ (by omega) (List.getElem?_eq_getElem hl')
      · rw [if_neg e1]
        by_cases e2 : j = l
        · rw [if_pos e2]
          exact (hdis i _ (by omega) (List.getElem?_eq_getElem hi)).symm
        · rw [if_neg e2]
          exact hsep.dis (i + 1) (l + 1) (by simp [List.getElem?_eq_getElem hi]) (by simp [List.getElem?_eq_getElem hl']) (by omega)
    · by_cases e : j = i
      · subst e
        rw [List.getElem?_set_self (by omega)] at hi hGi
        injection hi with hi
        injection hGi with hGi
        subst hi hGi
        exact ⟨hok, hH⟩
      · rw [List.getElem?_set_ne e] at hi hGi
        exact hA (i + 1) X G (by simpa using hi) (by simpa using hGi)
/-- Rows of one's own, one for each value, each apart from the others. -/
def RowsD (e : TypeId) (vs : List Value) (ls : List (List Value)) : Asr := fun B F w => vs.length = ls.length ∧ (∀ (q : Nat) (v : Value) (l : List Value), vs[q]? = some v → ls[q]? = some l → w.ownsRow B e 1 v l.length l) ∧
  (∀ (i j : Nat) (u v : Value), vs[i]? = some u → vs[j]? = some v → i ≠ j → Dis (OwnB u) (OwnB v)) ∧ ∀ k, F k ↔ ∃ v ∈ vs, OwnB v k
instance (e : TypeId) (vs : List Value) (ls : List (List Value)) : (RowsD e vs ls).Ok where
  in_ := fun {B F w} ⟨hl, h, _, hF⟩ k hk => by
    obtain ⟨v, hv, hk⟩ := (hF k).1 hk
    obtain ⟨q, hq⟩ := List.getElem?_of_mem hv
    have hlt := (List.getElem?_eq_some_iff.1 hq).1
    exact own_in (h q v _ hq (List.getElem?_eq_getElem (by omega))) k hk
  keep := fun {B F G w w'} ⟨hl, h, hd', hF⟩ hu hd => ⟨hl, fun q v l hq hl' => own_keep (h q v l hq hl') hu (fun k hk => hd k ((hF k).2 ⟨v, List.mem_of_getElem? hq, hk⟩)), hd', hF⟩
section
variable {w0 w : World} {L : List Asr} {e : TypeId} {vs : List Value} {ls : List (List Value)}
theorem Star.rowsD (h : Star w0 w L) (j : Nat) (hj : L[j]? = some (RowsD e vs ls)) : vs.length = ls.length ∧ ∀ (q : Nat) (v : Value) (l : List Value), vs[q]? = some v → ls[q]? = some l → w.ownsRow w0.heap.size e 1 v l.length l := by
  obtain ⟨F, ⟨h1, h2, _⟩, _⟩ := h.of j hj
  exact ⟨h1, h2⟩
/-- A row goes in. -/
theorem Star.putRowD {v : Value} {n : Nat} {l : List Value} (h : Star w0 w (RowA e 1 v n l :: L)) (hn : n = l.length) (j : Nat) (hj : L[j]? = some (RowsD e vs ls)) (q : Nat) : Star w0 w (L.set j (RowsD e (vs.set q v) (ls.set q l))) := by
  refine h.fuse2 j hj fun F G ⟨ha, hF⟩ ⟨hl, hr, hd, hG⟩ hFG => ⟨fun k => ∃ u ∈ vs.set q v, OwnB u k, ⟨by simp [hl], fun i u x hu hx => ?_, fun i i' u u' hu hu' hne => ?_, fun k => Iff.rfl⟩, fun k ⟨u, hu, hk⟩ => ?_⟩
  · by_cases e1 : q = i
    · subst e1
      have h1 := (List.getElem?_eq_some_iff.1 hu).1
      have h2 := (List.getElem?_eq_some_iff.1 hx).1
      rw [List.length_set] at h1 h2
      rw [List.getElem?_set_self h1] at hu
      rw [List.getElem?_set_self h2] at hx
      injection hu with hu
      injection hx with hx
      subst hu hx
      rw [← hn]
      exact ha
    · rw [List.getElem?_set_ne e1] at hu hx
      exact hr i u x hu hx
  · have key : ∀ (i' : Nat) (u' : Value), vs[i']? = some u' → Dis (OwnB v) (OwnB u') := fun i' u' h' => by
      rw [← hF]
      exact fun k hk hk' => hFG k hk ((hG k).2 ⟨u', List.mem_of_getElem? h', hk'⟩)
    by_cases e1 : q = i
    · subst e1
      have h1 := (List.getElem?_eq_some_iff.1 hu).1
      rw [List.length_set] at h1
      rw [List.getElem?_set_self h1] at hu
      injection hu with hu
      subst hu
      rw [List.getElem?_set_ne hne] at hu'
      exact key i' u' hu'
    · rw [List.getElem?_set_ne e1] at hu
      by_cases e2 : q = i'
      · subst e2
        have h1 := (List.getElem?_eq_some_iff.1 hu').1
        rw [List.length_set] at h1
        rw [List.getElem?_set_self h1] at hu'
        injection hu' with hu'
        subst hu'
        exact (key i u hu).symm
      · rw [List.getElem?_set_ne e2] at hu'
        exact hd i i' u u' hu hu' hne
  · rcases List.mem_or_eq_of_mem_set hu with h2 | rfl
    · exact .inr ((hG k).2 ⟨u, h2, hk⟩)
    · exact .inl (by rw [hF]; exact hk)
/-- A row comes behind all. -/
theorem Star.addRowD {v : Value} {n : Nat} {l : List Value} (h : Star w0 w (RowA e 1 v n l :: L)) (hn : n = l.length) (j : Nat) (hj : L[j]? = some (RowsD e vs ls)) : Star w0 w (L.set j (RowsD e (vs ++ [v]) (ls ++ [l]))) := by
  refine h.fuse2 j hj fun F G ⟨ha, hF⟩ ⟨hl, hr, hd, hG⟩ hFG => ⟨fun k => ∃ u ∈ vs ++ [v], OwnB u k, ⟨by simp [hl], fun i u x hu hx => ?_, fun i i' u u' hu hu' hne => ?_, fun k => Iff.rfl⟩, fun k ⟨u, hu, hk⟩ => ?_⟩
  · by_cases e1 : i < vs.length
    · rw [List.getElem?_append_left e1] at hu
      rw [List.getElem?_append_left (by omega)] at hx
      exact hr i u x hu hx
    · have h1 := (List.getElem?_eq_some_iff.1 hu).1
      rw [List.length_append, List.length_singleton] at h1
      obtain rfl : i = vs.length := by omega
      rw [List.getElem?_append_right (Nat.le_refl _), Nat.sub_self] at hu
      rw [hl, List.getElem?_append_right (Nat.le_refl _), Nat.sub_self] at hx
      simp only [List.getElem?_cons_zero, Option.some.injEq] at hu hx
      subst hu hx
      rw [← hn]
      exact ha
  · have key : ∀ (i' : Nat) (u' : Value), vs[i']? = some u' → Dis (OwnB v) (OwnB u') := fun i' u' h' => by
      rw [← hF]
      exact fun k hk hk' => hFG k hk ((hG k).2 ⟨u', List.mem_of_getElem? h', hk'⟩)
    have at_ : ∀ (i : Nat) (u : Value), (vs ++ [v])[i]? = some u → vs[i]? = some u ∨ (i = vs.length ∧ u = v) := fun i u hu => by
      by_cases e1 : i < vs.length
      · rw [List.getElem?_append_left e1] at hu
        exact .inl hu
      · have h1 := (List.getElem?_eq_some_iff.1 hu).1
        rw [List.length_append, List.length_singleton] at h1
        obtain rfl : i = vs.length := by omega
        rw [List.getElem?_append_right (Nat.le_refl _), Nat.sub_self] at hu
        simp only [List.getElem?_cons_zero, Option.some.injEq] at hu
        exact .inr ⟨rfl, hu.symm⟩
    rcases at_ i u hu with h1 | ⟨h1, rfl⟩
    · rcases at_ i' u' hu' with h2 | ⟨h2, rfl⟩
      · exact hd i i' u u' h1 h2 hne
      · exact (key i u h1).symm
    · rcases at_ i' u' hu' with h2 | ⟨h2, rfl⟩
      · exact key i' u' h2
      · omega
  · rcases List.mem_append.1 hu with h2 | h2
    · exact .inr ((hG k).2 ⟨u, h2, hk⟩)
    · obtain rfl := List.mem_singleton.1 h2
      exact .inl (by rw [hF]; exact hk)
/-- A cell of one of them is written. -/
theorem Star.turnD {g n c q : Nat} {xs : List Value} (h : Star w0 w L) (j : Nat) (hj : L[j]? = some (RowsD e vs ls)) (hv : vs[q]? = some (.slice (some ⟨g, 0, none⟩) n c)) (hl : ls[q]? = some xs) (o : Nat) (u : Value) : Star w0 (w.setCell ⟨g, o, none⟩ u) (L.set j (RowsD e vs (ls.set q (xs.set o u)))) := by
  obtain ⟨F, ⟨hlen, hr, hd, hF⟩, hin, hk⟩ := h.at_ j hj
  have hg : OwnB (.slice (some ⟨g, 0, none⟩) n c) g := (ownB_some g n c g).2 rfl
  have hq := hr q _ xs hv hl
  refine hk inferInstance (F' := F) ⟨by simp [hlen], fun i v l hi hli => ?_, hd, hF⟩ ((upd_set w g o u).mono fun k _ hk' => (hF k).2 ⟨_, List.mem_of_getElem? hv, (ownB_some g n c k).2 hk'⟩) (Grow.refl _ _)
  by_cases e1 : q = i
  · subst e1
    have h1 := (List.getElem?_eq_some_iff.1 hl).1
    rw [List.getElem?_set_self h1] at hli
    injection hli with hli
    subst hli
    have := hv.symm.trans hi
    injection this with this
    subst this
    rw [List.length_set]
    obtain ⟨A, c', e2⟩ := own_len hq
    simp only [Value.slice.injEq] at e2
    obtain ⟨-, e3, -⟩ := e2
    subst e3
    exact (hq.stored o u).1
  · rw [List.getElem?_set_ne e1] at hli
    exact own_keep (hr i v l hi hli) (upd_set w g o u) (fun k hk' hk2 => hd i q v _ hi hv (fun e => e1 e.symm) k hk' ((ownB_some g n c k).2 hk2))
end
end Go.Proofs.Ytojmhacafmpbgaa.Mem
