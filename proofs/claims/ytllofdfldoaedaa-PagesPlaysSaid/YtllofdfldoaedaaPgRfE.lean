/- The reference of the pool: a frame's users are set; a frame's bytes are replaced. -/
import Derived.Test.YtllofdfldoaedaaPgRfD
namespace Go.Proofs.Ytllofdfldoaedaa.Pg
open Go Go.RowKit Go.Proofs.Ytllofdfldoaedaa.Mem
set_option linter.unusedVariables false
set_option linter.unusedSimpArgs false
section
variable {w0 w : World} {b : Nat} {vD vU : Value} {vs : List Value} {fs : List Fr} {cap : Int} {S : List Asr}
theorem rp_user_set {g c k : Nat} {x : Fr} (h : Star w0 w (rp b vD (.slice (some ⟨g, 0, none⟩) fs.length c) vs fs cap S)) (hx : fs[k]? = some x) (u : Int) : Star w0 (w.setCell ⟨g, k, none⟩ (.int .i64 u)) (rp b vD (.slice (some ⟨g, 0, none⟩) fs.length c) vs (fs.set k ⟨x.d, u⟩) cap S) := by
  have h1 := h.setRow 2 rfl k (.int .i64 u)
  simp only [List.set_cons_zero, List.set_cons_succ] at h1
  unfold rp
  rw [List.length_set, List.map_set, List.map_set]
  rw [show ((fs.map fun f => bytesV f.d).set k (bytesV x.d)) = fs.map fun f => bytesV f.d from set_same (by rw [List.getElem?_map, hx]; rfl)]
  exact h1
theorem rp_data_set {g c k n : Nat} {x : Fr} {v : Value} {d : List UInt8} (h : Star w0 w (RowA 5 1 v n (bytesV d) :: rp b (.slice (some ⟨g, 0, none⟩) fs.length c) vU vs fs cap S)) (hn : n = d.length) (hx : fs[k]? = some x) : Star w0 (w.setCell ⟨g, k, none⟩ v) (rp b (.slice (some ⟨g, 0, none⟩) fs.length c) vU (vs.set k v) (fs.set k ⟨d, x.u⟩) cap S) := by
  have h1 := h.setRow 2 rfl k v
  simp only [List.set_cons_zero, List.set_cons_succ] at h1
  have h2 := h1.putRowD (by rw [hn]; simp [bytesV]) 3 rfl k
  simp only [List.set_cons_zero, List.set_cons_succ] at h2
  unfold rp
  rw [List.length_set, List.map_set, List.map_set]
  rw [show ((fs.map fun f => Value.int .i64 f.u).set k (.int .i64 x.u)) = fs.map fun f => Value.int .i64 f.u from set_same (by rw [List.getElem?_map, hx]; rfl)]
  exact h2
theorem rp_grown {vD' vU' : Value} (h : Star w0 w (BlkA b 51 #[vD', vU', .int .i64 cap] :: RowA 22 1 vD' (fs.length + 1) (vs ++ [.slice none 0 0]) :: RowA 3 1 vU' (fs.length + 1) ((fs.map fun f => .int .i64 f.u) ++ [.int .i64 0]) :: RowsD 5 vs (fs.map fun f => bytesV f.d) :: S)) : Star w0 w (rp b vD' vU' (vs ++ [.slice none 0 0]) (fs ++ [⟨[], 0⟩]) cap S) := by
  have h1 := (h.nilRow 5 1).addRowD rfl 3 rfl
  simp only [List.set_cons_zero, List.set_cons_succ] at h1
  unfold rp
  rw [List.length_append, List.map_append, List.map_append]
  exact h1
end
end Go.Proofs.Ytllofdfldoaedaa.Pg
