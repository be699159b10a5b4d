/- An argument that is a slice of bytes, opened to a list that is read. -/
import Derived.Test.YtaiggfoeobehlaaArgs
namespace Go.Proofs.Ytaiggfoeobehlaa.Mem
open Go Go.RowKit Go.ChangeShapes Go.WideShapes Go.ChangeAt
set_option linter.unusedVariables false
def byteU (c : UInt8) : Value := .int .u8 (c.toNat : Int)
theorem u8_back {x : Int} (h : (Lit.int .u8 x).wf = true) : x = ((UInt8.ofNat x.toNat).toNat : Int) := by
  have h1 : 0 ≤ x ∧ x < 256 := by
    have h2 : IntKind.u8.min ≤ x ∧ x ≤ IntKind.u8.max := by simpa [Lit.wf] using h
    have h3 : IntKind.u8.min = 0 := by decide
    have h4 : IntKind.u8.max = 255 := by decide
    omega
  simp
  omega
section
variable {H : Type} {enc : TypeId × Value → H} {P : Program} {W : World} {v : Value} {d : DataW H} {p : List MemPlace}
theorem open_bytes_reads {r : Reach} {b0 : Nat} {t e : TypeId} (ht : P.underlying t = some (.slice e)) (he : P.underlying e = some (.int .u8)) (hc : P.cellsOf e = 1)
    (hval : Value.okWide P W r b0 t v) (h : DataW.Trod enc P W 0 (fun _ => true) true t v d p) (hlt : ∀ x ∈ p, x.block < W.heap.size) :
    ∃ A c, ∃ l : List UInt8, v = .slice A l.length c ∧ Reads W W.heap.size 1 A l.length (l.map byteU) ∧ l.length ≤ maxLen := by
  obtain ⟨a0, len, cap, rfl⟩ := okWide_slice ht hval
  obtain ⟨fuel, hf⟩ := h
  rcases open_ints ht he hc hf with ⟨hcs, hx⟩ | ⟨a, len', cap', zs, hcs, _, hl, hm, hz, hx, hcell, hwz⟩
  · simp [Value.cells] at hcs
    obtain ⟨rfl, rfl, rfl⟩ := hcs
    exact ⟨none, 0, [], rfl, Reads.none_, by simp [maxLen]⟩
  · simp [Value.cells] at hcs
    obtain ⟨rfl, rfl, rfl⟩ := hcs
    simp only [Prod.mk.injEq] at hx
    obtain ⟨rfl, rfl⟩ := hx
    simp only [if_true] at hz
    have hlen : ((zs.take len).map (fun x => UInt8.ofNat x.toNat)).length = len := by simp; omega
    refine ⟨some a, cap, (zs.take len).map (fun x => UInt8.ofNat x.toNat), by rw [hlen], ?_, by omega⟩
    rw [hlen]
    refine ⟨by simp; omega, fun hn => ⟨a, rfl, ?_, fun j u hu => ?_⟩⟩
    · obtain ⟨b, off, spot⟩ := a
      exact hlt (.cell b off) (MemPlace.mem_row.2 ⟨0, by omega, by simp⟩)
    · have hj : j < len := by
        have := (List.getElem?_eq_some_iff.1 hu).1
        simp at this
        omega
      rw [hcell j (by omega)]
      have hjz : j < zs.length := by omega
      have hw := hwz zs[j] (List.getElem_mem _)
      simp [hj, List.getElem?_eq_getElem hjz] at hu
      rw [← hu, List.getD_eq_getElem?_getD, List.getElem?_eq_getElem hjz]
      show some (Value.int .u8 zs[j]) = some (Value.int .u8 _)
      rw [← u8_back hw]
/-- .. the same at one cell: a struct's field. -/
theorem open_bytes_cell {t e : TypeId} {n : Nat} {u : Value} {y : DataW H × List MemPlace} (ht : P.underlying t = some (.slice e)) (he : P.underlying e = some (.int .u8)) (hc : P.cellsOf e = 1)
    (hf : DataW.trod enc P W 0 (fun _ => true) true n t [u] = some y) (hlt : ∀ x ∈ y.2, x.block < W.heap.size) :
    ∃ A c, ∃ l : List UInt8, u = .slice A l.length c ∧ Reads W W.heap.size 1 A l.length (l.map byteU) ∧ l.length ≤ maxLen := by
  rcases open_ints ht he hc hf with ⟨hcs, hx⟩ | ⟨a, len', cap', zs, hcs, _, hl, hm, hz, hx, hcell, hwz⟩
  · simp at hcs
    subst hcs
    exact ⟨none, 0, [], rfl, Reads.none_, by simp [maxLen]⟩
  · simp at hcs
    subst hcs
    subst hx
    simp only [if_true] at hz
    have hlen : ((zs.take len').map (fun x => UInt8.ofNat x.toNat)).length = len' := by simp; omega
    refine ⟨some a, cap', (zs.take len').map (fun x => UInt8.ofNat x.toNat), by rw [hlen], ?_, by omega⟩
    rw [hlen]
    refine ⟨by simp; omega, fun hn => ⟨a, rfl, ?_, fun j u hu => ?_⟩⟩
    · obtain ⟨b, off, spot⟩ := a
      exact hlt (.cell b off) (MemPlace.mem_row.2 ⟨0, by omega, by simp⟩)
    · have hj : j < len' := by
        have := (List.getElem?_eq_some_iff.1 hu).1
        simp at this
        omega
      rw [hcell j (by omega)]
      have hjz : j < zs.length := by omega
      have hw := hwz zs[j] (List.getElem_mem _)
      simp [hj, List.getElem?_eq_getElem hjz] at hu
      rw [← hu, List.getD_eq_getElem?_getD, List.getElem?_eq_getElem hjz]
      show some (Value.int .u8 zs[j]) = some (Value.int .u8 _)
      rw [← u8_back hw]
end
end Go.Proofs.Ytaiggfoeobehlaa.Mem
