/- The reference of the pool: a byte is written. -/
import Derived.Test.YtllofdfldoaedaaPgRfB
namespace Go.Proofs.Ytllofdfldoaedaa.Pg
open Go Go.RowKit Go.Proofs.Ytllofdfldoaedaa.Mem
set_option linter.unusedVariables false
set_option linter.unusedSimpArgs false
theorem splice_next {d l : List UInt8} {a j : Nat} {y : UInt8} (h : a + l.length ≤ d.length) (hy : l[j]? = some y) : splice d a (l.take (j + 1)) = (splice d a (l.take j)).set (a + j) y := by
  have hj := (List.getElem?_eq_some_iff.1 hy).1
  have hlen : (splice d a (l.take j)).length = d.length := length_splice _ _ _ (by rw [List.length_take]; omega)
  refine List.ext_getElem? fun i => ?_
  rw [splice_at _ _ _ (by rw [List.length_take]; omega) i]
  by_cases e : a + j = i
  · subst e
    rw [List.getElem?_set_self (by rw [hlen]; omega), if_neg (by omega), if_pos (by rw [List.length_take]; omega), show a + j - a = j by omega, List.getElem?_take, if_pos (by omega), hy]
  · rw [List.getElem?_set_ne e, splice_at _ _ _ (by rw [List.length_take]; omega) i, List.length_take, List.length_take]
    by_cases h1 : i < a
    · rw [if_pos h1, if_pos h1]
    · rw [if_neg h1, if_neg h1]
      by_cases h2 : i < a + min j l.length
      · rw [if_pos h2, if_pos (by omega), List.getElem?_take, List.getElem?_take, if_pos (by omega), if_pos (by omega)]
      · rw [if_neg h2, if_neg (by omega)]
theorem set_same {α : Type} {l : List α} {k : Nat} {x : α} (h : l[k]? = some x) : l.set k x = l := by
  rw [← (List.getElem?_eq_some_iff.1 h).2]
  exact List.set_getElem_self _
theorem rp_turn {w0 w : World} {b : Nat} {vD vU : Value} {vs : List Value} {fs : List Fr} {cap : Int} {S : List Asr} {g n c k : Nat} {x : Fr} (h : Star w0 w (rp b vD vU vs fs cap S)) (hx : fs[k]? = some x) (hv : vs[k]? = some (.slice (some ⟨g, 0, none⟩) n c)) (o : Nat) (y : UInt8) :
    Star w0 (w.setCell ⟨g, o, none⟩ (byteV y)) (rp b vD vU vs (fs.set k ⟨x.d.set o y, x.u⟩) cap S) := by
  have h1 := h.turnD 3 rfl hv (by rw [List.getElem?_map, hx]; rfl) o (byteV y)
  simp only [List.set_cons_zero, List.set_cons_succ] at h1
  unfold rp
  rw [List.length_set, List.map_set, List.map_set]
  rw [show ((fs.map fun f => Value.int .i64 f.u).set k (.int .i64 x.u)) = fs.map fun f => Value.int .i64 f.u from set_same (by rw [List.getElem?_map, hx]; rfl)]
  rw [show bytesV (x.d.set o y) = (bytesV x.d).set o (byteV y) by simp [bytesV, List.map_set]]
  exact h1
end Go.Proofs.Ytllofdfldoaedaa.Pg
