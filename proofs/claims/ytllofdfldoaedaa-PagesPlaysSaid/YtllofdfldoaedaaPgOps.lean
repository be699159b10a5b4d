/- An argument that is a script of calls, opened. -/
import Derived.Test.YtllofdfldoaedaaPgCount
import Derived.Test.YtllofdfldoaedaaPgRows
namespace Go.Proofs.Ytllofdfldoaedaa.Pg
open Go Go.RowKit Go.Proofs.Ytllofdfldoaedaa.Mem Go.ChangeShapes Go.WideShapes Go.ChangeAt
set_option linter.unusedVariables false
def fieldPr (W : World) (j : Nat) (u : Value) : Prop :=
  if j = 4 then ∃ A c, ∃ l : List UInt8, u = .slice A l.length c ∧ Reads W W.heap.size 1 A l.length (l.map byteU) ∧ l.length ≤ maxLen
  else ∃ x : Int, u = .int .i64 x ∧ (Lit.int .i64 x).wf = true
theorem list_of {α β : Type} (g : β → α) (Q : β → Prop) : ∀ l : List α, (∀ r ∈ l, ∃ o, r = g o ∧ Q o) → ∃ L : List β, l = L.map g ∧ ∀ o ∈ L, Q o
  | [], _ => ⟨[], rfl, by simp⟩
  | r :: l, h => by
    obtain ⟨o, rfl, ho⟩ := h r (by simp)
    obtain ⟨L, rfl, hL⟩ := list_of g Q l (fun r hr => h r (by simp [hr]))
    exact ⟨o :: L, rfl, fun x hx => by
      rcases List.mem_cons.1 hx with rfl | hx
      · exact ho
      · exact hL x hx⟩
theorem five_of {r : List Value} (h : r.length = 5) : ∃ a b c d e, r = [a, b, c, d, e] := by
  match r, h with
  | [a, b, c, d, e], _ => exact ⟨a, b, c, d, e, rfl⟩
section
variable {H : Type} {enc : TypeId × Value → H} {W : World} {v : Value} {d : DataW H} {p : List MemPlace}
theorem open_ops {r : Reach} {b0 : Nat} (hval : Value.okWide Try.prog W r b0 39 v) (h : DataW.Trod enc Try.prog W 0 (fun _ => true) true 39 v d p) (hlt : ∀ x ∈ p, x.block < W.heap.size) :
    ∃ A c, ∃ l : List OpR, v = .slice A l.length c ∧ Reads W W.heap.size 5 A l.length (l.map opC).flatten ∧ l.length ≤ maxLen ∧ ∀ o ∈ l, opOk W o := by
  obtain ⟨A, c, l, rfl, hr, hm, hw⟩ := open_rows Try.underlying39 Try.underlying41 (by kernel_rfl) (by kernel_rfl) (by decide) (fieldPr W) (fun j f u n y hj htr hy => by
    match j, hj with
    | 0, hj => simp at hj; subst hj; exact (if_neg (by omega)).mpr ((DataW.trod_int Try.underlying3 htr).elim fun q hq => ⟨q, by simpa using hq.1, hq.2.2⟩)
    | 1, hj => simp at hj; subst hj; exact (if_neg (by omega)).mpr ((DataW.trod_int Try.underlying3 htr).elim fun q hq => ⟨q, by simpa using hq.1, hq.2.2⟩)
    | 2, hj => simp at hj; subst hj; exact (if_neg (by omega)).mpr ((DataW.trod_int Try.underlying3 htr).elim fun q hq => ⟨q, by simpa using hq.1, hq.2.2⟩)
    | 3, hj => simp at hj; subst hj; exact (if_neg (by omega)).mpr ((DataW.trod_int Try.underlying3 htr).elim fun q hq => ⟨q, by simpa using hq.1, hq.2.2⟩)
    | 4, hj => simp at hj; subst hj; exact (if_pos rfl).mpr (open_bytes_cell Try.underlying22 Try.underlying5 (by kernel_rfl) htr hy)
    | j + 5, hj => simp at hj) hval h hlt
  obtain ⟨L, rfl, hL⟩ := list_of opC (opOk W) l (fun r hr2 => by
    obtain ⟨h5, hf⟩ := hw r hr2
    obtain ⟨a0, a1, a2, a3, a4, rfl⟩ := five_of h5
    obtain ⟨x0, rfl, _⟩ := (if_neg (show ¬ (0 : Nat) = 4 by omega)).mp (hf 0 a0 rfl)
    obtain ⟨x1, rfl, _⟩ := (if_neg (show ¬ (1 : Nat) = 4 by omega)).mp (hf 1 a1 rfl)
    obtain ⟨x2, rfl, _⟩ := (if_neg (show ¬ (2 : Nat) = 4 by omega)).mp (hf 2 a2 rfl)
    obtain ⟨x3, rfl, w3⟩ := (if_neg (show ¬ (3 : Nat) = 4 by omega)).mp (hf 3 a3 rfl)
    obtain ⟨A4, c4, l4, rfl, r4, m4⟩ := (if_pos (show (4 : Nat) = 4 from rfl)).mp (hf 4 a4 rfl)
    exact ⟨⟨x0, x1, x2, x3, A4, c4, l4⟩, rfl, int_bd w3, r4, m4⟩)
  exact ⟨A, c, L, by simp, by simpa using hr, by simpa using hm, hL⟩
end
theorem count_row (a : Int) (ha : (Lit.int .i64 a).wf = true) (A : Option Addr) (c : Nat) (l : List OpR) (w : World) (hr : Reads w w.heap.size 5 A l.length (l.map opC).flatten) (hm : l.length ≤ maxLen) (hl : ∀ o ∈ l, opOk w o) :
    Calls Try.prog 5 #[.int .i64 a, .slice A l.length c] w fun e w' => e = .returned (.bool true) ∧ Below w.heap.size w w' := count_walk a A c l w hr hm hl
end Go.Proofs.Ytllofdfldoaedaa.Pg
