/- The fifo: copy into a row that may begin anywhere; the ring in the plain. -/
import Derived.Test.YtaiggfoeobehlaaFfG
namespace Go.Proofs.Ytaiggfoeobehlaa.Mem
open Go Go.RowKit
set_option linter.unusedVariables false
section
variable {P : Program} {w0 w : World} {L : List Asr} {e : TypeId} {size n g off cap : Nat} {xs : List Value}
variable {ops : Array Oper} {rest : List Oper} {o : Oper} {a : Act} {Q : Exit → Act → World → Prop}
/-- copy into a row of one's own, from its place j on. -/
theorem wpList_copy_so (hgd : o.guard = none) (d s : Operand) (dT sT : TypeId)
    (ho : o.op = .call { callee := .builtin .copy, args := #[d, s], argTypes := #[dT, sT] }) (elem : TypeId) (hu : P.underlying dT = some (.slice elem)) (hsz : (P.info? elem).map (·.size) = some 1)
    (h : Star w0 w L) (i : Nat) (hi : L[i]? = some (RowO e size (.slice (some ⟨g, off, none⟩) n cap) n xs)) (dp : Option Addr) (dLen dCap j : Nat) (hd : a.eval d = .slice dp dLen dCap) (B : Nat) (A : Option Addr) (m c : Nat) (hs : a.eval s = .slice A m c) (vs : List Value) (hr : Reads w B 1 A m vs) (hm : m ≤ dLen)
    (hdp : 0 < m → dp = some ⟨g, off + j, none⟩) (hfit : j + m ≤ n * size) (h1 : ∀ u ∈ vs, u.oneCell' = true)
    (k : ∀ w', Star w0 w' (L.set i (RowO e size (.slice (some ⟨g, off, none⟩) n cap) n (splice xs j vs))) → wpList P ops Q rest (a.put o.dst (goInt m)) w') : wpList P ops Q (o :: rest) a w := by
  have hvl : vs.length = m := by have := hr.1; omega
  by_cases h0 : m = 0
  · subst h0
    obtain rfl : vs = [] := List.eq_nil_of_length_eq_zero hvl
    refine wpList_copy_nothing hgd d s dT sT ho elem hu hsz dp A dLen dCap 0 c hd hs (by simp) ?_
    refine k w ?_
    rw [splice_nil, show L.set i (RowO e size (.slice (some ⟨g, off, none⟩) n cap) n xs) = L from by
      rw [← (List.getElem?_eq_some_iff.1 hi).2]
      exact List.set_getElem_self _]
    exact h
  · obtain ⟨ad, rfl, hb, hc⟩ := hr.2 (by omega)
    obtain rfl := hdp (by omega)
    obtain ⟨hb, hnc, hcm, cur, hg, hl, hx⟩ := (h.rowO i hi).blk
    have hle : n * size ≤ cap * size := Nat.mul_le_mul_right _ hnc
    refine wpList_copy_own hgd d s dT sT ho elem hu hsz g (off + j) dLen dCap ad m c hd hs cur.toArray e hg vs (by rw [hvl]; exact (Nat.min_eq_left hm).symm) hc (by simp; omega) h1 ?_
    rw [hvl]
    exact k _ (h.turnO i hi (fun ho => ho.splice_ hg (by omega) (by rw [setRow_heap w g _ _ e _ hg]; simp [splice, hvl])) (upd_setRow w g _))
end
end Go.Proofs.Ytaiggfoeobehlaa.Mem
namespace Go.Proofs.Ytaiggfoeobehlaa.Ff
open Go Go.RowKit Go.Proofs.Ytaiggfoeobehlaa.Mem
set_option linter.unusedVariables false
set_option linter.unusedSimpArgs false
/-- The ring holds these elements. -/
def RingOk (n z : Nat) (r : Ring) : Prop :=
  r.el.length ≤ n ∧ r.fi < n ∧ (∀ e ∈ r.el, e.length = z) ∧ (r.cl = true → r.el = []) ∧
  (r.cl = false → r.raw.length = n * z ∧ ∀ (i : Nat) (e : List UInt8), r.el[i]? = some e → (r.raw.drop ((r.fi + i) % n * z)).take z = e)
def pushR (n z : Nat) (r : Ring) (e : List UInt8) : Ring := { r with raw := splice r.raw ((r.fi + r.el.length) % n * z) e, el := r.el ++ [e] }
def popR (n : Nat) (r : Ring) : Ring := { r with fi := (r.fi + 1) % n, el := r.el.drop 1 }
theorem seg_splice {α : Type} (l e : List α) (p q : Nat) (h : q + e.length ≤ l.length) (hp : p + e.length ≤ l.length) (hd : p + e.length ≤ q ∨ q + e.length ≤ p) : ((splice l q e).drop p).take e.length = (l.drop p).take e.length := by
  refine List.ext_getElem? fun i => ?_
  rw [List.getElem?_take, List.getElem?_take]
  by_cases hi : i < e.length
  · rw [if_pos hi, if_pos hi, List.getElem?_drop, List.getElem?_drop, splice_at _ _ _ h]
    by_cases h1 : p + i < q
    · rw [if_pos h1]
    · rw [if_neg h1, if_neg (by omega)]
  · rw [if_neg hi, if_neg hi]
theorem seg_same {α : Type} (l e : List α) (q : Nat) (h : q + e.length ≤ l.length) : ((splice l q e).drop q).take e.length = e := by
  refine List.ext_getElem? fun i => ?_
  rw [List.getElem?_take]
  by_cases hi : i < e.length
  · rw [if_pos hi, List.getElem?_drop, splice_at _ _ _ h, if_neg (by omega), if_pos (by omega)]
    congr 1
    omega
  · rw [if_neg hi, List.getElem?_eq_none (by omega)]
theorem mod_ne (a i j n : Nat) (hi : i < j) (hj : j < n) : (a + i) % n ≠ (a + j) % n := by
  intro h
  have h1 := Nat.div_add_mod (a + i) n
  have h2 := Nat.div_add_mod (a + j) n
  rw [h] at h1
  have e : n * ((a + j) / n) = n * ((a + i) / n) + (j - i) := by omega
  have h3 : (j - i) = n * ((a + j) / n - (a + i) / n) := by rw [Nat.mul_sub]; omega
  rcases Nat.eq_zero_or_pos ((a + j) / n - (a + i) / n) with h4 | h4
  · rw [h4] at h3
    omega
  · have := Nat.le_mul_of_pos_right n h4
    omega
theorem slot_in (p n z : Nat) (h : p < n) : p * z + z ≤ n * z := by
  have := Nat.mul_le_mul_right z (show p + 1 ≤ n from h)
  rw [Nat.add_mul, Nat.one_mul] at this
  exact this
theorem slot_ne (p q z : Nat) (h : p ≠ q) : p * z + z ≤ q * z ∨ q * z + z ≤ p * z := by
  rcases Nat.lt_or_ge p q with h1 | h1
  · exact .inl (slot_in p q z h1)
  · exact .inr (slot_in q p z (by omega))
theorem push_ok {n z : Nat} {r : Ring} {e : List UInt8} (h : RingOk n z r) (hc : r.cl = false) (he : e.length = z) (hl : r.el.length < n) : RingOk n z (pushR n z r e) := by
  obtain ⟨h1, h2, h3, h4, h5⟩ := h
  obtain ⟨h6, h7⟩ := h5 hc
  have hm : (r.fi + r.el.length) % n < n := Nat.mod_lt _ (by omega)
  have hs := slot_in _ n z hm
  refine ⟨by simp [pushR]; omega, h2, fun x hx => ?_, fun h => ?_, fun _ => ⟨?_, fun i x hx => ?_⟩⟩
  · simp only [pushR, List.mem_append, List.mem_singleton] at hx
    rcases hx with hx | rfl
    · exact h3 x hx
    · exact he
  · simp only [pushR] at h
    rw [hc] at h
    cases h
  · simp only [pushR]
    rw [length_splice _ _ _ (by omega)]
    exact h6
  · simp only [pushR] at hx ⊢
    have hm' : (r.fi + i) % n < n := Nat.mod_lt _ (by omega)
    have hs' := slot_in _ n z hm'
    rcases Nat.lt_trichotomy i r.el.length with hi | hi | hi
    · rw [List.getElem?_append_left hi] at hx
      rw [← h7 i x hx]
      have := seg_splice r.raw e ((r.fi + i) % n * z) ((r.fi + r.el.length) % n * z) (by omega) (by omega) (by
        rw [he]
        exact slot_ne _ _ z (mod_ne r.fi i r.el.length n hi hl))
      rw [he] at this
      exact this
    · subst hi
      rw [List.getElem?_append_right (Nat.le_refl _), Nat.sub_self] at hx
      simp only [List.getElem?_cons_zero, Option.some.injEq] at hx
      subst hx
      have := seg_same r.raw e ((r.fi + r.el.length) % n * z) (by omega)
      rw [he] at this
      exact this
    · rw [List.getElem?_eq_none (by simp; omega)] at hx
      cases hx
theorem pop_ok {n z : Nat} {r : Ring} (h : RingOk n z r) : RingOk n z (popR n r) := by
  obtain ⟨h1, h2, h3, h4, h5⟩ := h
  refine ⟨by simp [popR]; omega, Nat.mod_lt _ (by omega), fun x hx => h3 x (List.mem_of_mem_drop hx), fun h => ?_, fun hc => ⟨(h5 hc).1, fun i x hx => ?_⟩⟩
  · simp only [popR] at h ⊢
    rw [h4 h]
    rfl
  · simp only [popR, List.getElem?_drop] at hx ⊢
    rw [← (h5 hc).2 (1 + i) x hx, Nat.mod_add_mod, Nat.add_assoc]
end Go.Proofs.Ytaiggfoeobehlaa.Ff
