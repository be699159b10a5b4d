/- An argument that is a slice of slices of bytes, opened to lists that are read. -/
import Derived.Test.YtfocbpnabgpmpaaArgsB
import Derived.Deep.Matrix
namespace Go.Proofs.Ytfocbpnabgpmpaa.Mem
open Go Go.RowKit Go.ChangeShapes Go.WideShapes Go.ChangeAt Go.Deep
set_option linter.unusedVariables false
/-- A slice of bytes among others. -/
structure BRw where
  A : Option Addr
  c : Nat
  d : List UInt8
def brV (r : BRw) : Value := .slice r.A r.d.length r.c
def brOk (w : World) (r : BRw) : Prop := Reads w w.heap.size 1 r.A r.d.length (r.d.map byteU) ∧ r.d.length ≤ maxLen ∧ r.d.length ≤ r.c
section
variable {H : Type} {enc : TypeId × Value → H} {P : Program} {W : World} {v : Value} {d : DataW H} {p : List MemPlace}
theorem open_brows {r : Reach} {b0 : Nat} {t e q : TypeId} (ht : P.underlying t = some (.slice e)) (he : P.underlying e = some (.slice q)) (hq : P.underlying q = some (.int .u8)) (ce : P.cellsOf e = 1) (cq : P.cellsOf q = 1)
    (hval : Value.okWide P W r b0 t v) (h : DataW.Trod enc P W 0 (fun _ => true) true t v d p) (hlt : ∀ x ∈ p, x.block < W.heap.size) :
    ∃ A c, ∃ l : List BRw, v = .slice A l.length c ∧ Reads W W.heap.size 1 A l.length (l.map brV) ∧ l.length ≤ maxLen ∧ (∀ r ∈ l, brOk W r) := by
  obtain ⟨a0, len, cap, rfl⟩ := okWide_slice ht hval
  obtain ⟨fuel, hf⟩ := h
  rcases open_int_rows ht he hq ce cq hf with ⟨hcs, hx⟩ | ⟨a, len', cap', A, L, C, Z, hcs, _, hl, hm, hx, hrow⟩
  · simp [Value.cells] at hcs
    obtain ⟨rfl, rfl, rfl⟩ := hcs
    exact ⟨none, 0, [], rfl, Reads.none_, by simp [maxLen], by simp⟩
  · simp [Value.cells] at hcs
    obtain ⟨rfl, rfl, rfl⟩ := hcs
    simp only [Prod.mk.injEq] at hx
    obtain ⟨rfl, rfl⟩ := hx
    let R : Nat → BRw := fun i => ⟨A i, C i, ((Z i).take (L i)).map fun x => UInt8.ofNat x.toNat⟩
    let l : List BRw := (List.range len).map R
    have hll : l.length = len := by simp [l]
    have hdl : ∀ i, i < len → (R i).d.length = L i := fun i hi => by
      obtain ⟨-, h1, -, h2, -⟩ := hrow i (by omega)
      simp [R]
      omega
    refine ⟨some a, cap, l, by rw [hll], ⟨by simp, fun hn => ⟨a, rfl, ?_, fun j u hu => ?_⟩⟩, by omega, fun r hr => ?_⟩
    · obtain ⟨b, off, spot⟩ := a
      exact hlt (.cell b off) (List.mem_append.2 (.inl (MemPlace.mem_row.2 ⟨0, by omega, by simp⟩)))
    · have hj : j < len := by
        have := (List.getElem?_eq_some_iff.1 hu).1
        simpa [l] using this
      simp [l, hj] at hu
      rw [(hrow j (by omega)).1, ← hu]
      show _ = some (Value.slice _ _ _)
      rw [hdl j hj]
    · simp only [l, List.mem_map, List.mem_range] at hr
      obtain ⟨i, hi, rfl⟩ := hr
      obtain ⟨h1, h2, h3, h4, h5, h6, h7⟩ := hrow i (by omega)
      have hdi := hdl i hi
      refine ⟨⟨by simp, fun hn => ?_⟩, by rw [hdi]; omega, by rw [hdi]; exact h2⟩
      rw [hdi] at hn
      cases hA : A i with
      | none => have := h6 hA; omega
      | some a' =>
        obtain ⟨-, h8⟩ := h7 a' hA
        refine ⟨a', hA, ?_, fun j u hu => ?_⟩
        · obtain ⟨b, off, spot⟩ := a'
          refine hlt (.cell b off) (List.mem_append.2 (.inr (List.mem_flatMap.2 ⟨i, List.mem_range.2 (by omega), ?_⟩)))
          rw [hA]
          exact MemPlace.mem_row.2 ⟨0, by omega, by simp⟩
        · have hj : j < L i := by
            have := (List.getElem?_eq_some_iff.1 hu).1
            rw [List.length_map, hdi] at this
            exact this
          have hjz : j < (Z i).length := by omega
          have hw := h5 (Z i)[j] (List.getElem_mem _)
          rw [h8 j (by omega)]
          simp [R, hj, List.getElem?_eq_getElem hjz] at hu
          rw [← hu, List.getD_eq_getElem?_getD, List.getElem?_eq_getElem hjz]
          show some (Value.int .u8 (Z i)[j]) = some (Value.int .u8 _)
          rw [← u8_back hw]
end
end Go.Proofs.Ytfocbpnabgpmpaa.Mem
