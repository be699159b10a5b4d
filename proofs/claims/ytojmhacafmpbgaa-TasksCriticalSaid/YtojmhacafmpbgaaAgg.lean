/- A slice of structs: an argument of it opened to rows that are read; a struct loaded from it, and boxed. -/
import Derived.Test.YtojmhacafmpbgaaFp
import Derived.Laws.Tables
import Derived.Laws.Rows
import Derived.Deep.Slices
import Derived.Deep.Fields
import Derived.ChangeSame
import Derived.ProofKit
namespace Go.Proofs.Ytojmhacafmpbgaa.Mem
open Go Go.RowKit Go.ChangeShapes Go.WideShapes Go.Deep
set_option linter.unusedVariables false
theorem flat_at : ∀ (l : List (List Value)) (n i j : Nat) (r : List Value) (hl : ∀ r ∈ l, r.length = n) (hr : l[i]? = some r) (hj : j < n), l.flatten[i * n + j]? = r[j]?
  | [], n, i, j, r, hl, hr, _ => by simp at hr
  | t :: l, n, 0, j, r, hl, hr, hj => by
    obtain rfl : t = r := by simpa using hr
    have := hl t (by simp)
    simp only [List.flatten_cons, Nat.zero_mul, Nat.zero_add]
    rw [List.getElem?_append_left (by omega)]
  | t :: l, n, i + 1, j, r, hl, hr, hj => by
    have h1 := flat_at l n i j r (fun r hr => hl r (by simp [hr])) (by simpa using hr) hj
    have := hl t (by simp)
    simp only [List.flatten_cons]
    rw [List.getElem?_append_right (by rw [this, Nat.succ_mul]; omega), show (i + 1) * n + j - t.length = i * n + j by rw [this, Nat.succ_mul]; omega]
    exact h1
theorem flat_len : ∀ (l : List (List Value)) (n : Nat) (hl : ∀ r ∈ l, r.length = n), l.flatten.length = l.length * n
  | [], n, _ => by simp
  | t :: l, n, hl => by
    have h1 := flat_len l n (fun r hr => hl r (by simp [hr]))
    have := hl t (by simp)
    simp only [List.flatten_cons, List.length_append, List.length_cons, h1, this, Nat.succ_mul]
    omega
/-- The k-th row of a slice of rows: its address, and its cells. -/
theorem Reads.row {w : World} {B n len : Nat} {A : Option Addr} {l : List (List Value)} (h : Reads w B n A len l.flatten) (hl : ∀ r ∈ l, r.length = n) {k : Nat} {r : List Value} (hk : k < len) (hr : l[k]? = some r) :
    ∃ ad, A = some ad ∧ ad.block < B ∧ ∀ j u, r[j]? = some u → w.cell? ((ad.add (k * n)).add j) = some u := by
  obtain ⟨ad, e, hb, hc⟩ := h.2 (by omega)
  refine ⟨ad, e, hb, fun j u hu => ?_⟩
  rw [add_of_add]
  refine hc _ u ?_
  have hj : j < n := by
    rw [← hl r (List.mem_of_getElem? hr)]
    exact (List.getElem?_eq_some_iff.1 hu).1
  rw [flat_at l n k j r hl hr hj]
  exact hu
section
variable {P : Program} {w : World}
theorem run_loadVar_add (w : World) (ad : Addr) (ty : TypeId) (cs : List Value) (d : TypeDesc) (hc : ∀ j v, cs[j]? = some v → w.cell? (ad.add j) = some v)
    (hu : P.underlying ty = some d) (hd : (match d with | .struct _ | .array _ _ => true | _ => false) = true) (hi : (P.info? ty).map (·.size) = some cs.length) :
    (loadVar ty ad).run P w = .ok (.agg cs.toArray) w := by
  have hl : (loadCells ad cs.length).run P w = .ok cs.toArray w := run_loadCells_list (P := P) w ad cs hc
  cases hq : P.info? ty with
  | none => simp [hq] at hi
  | some i =>
    have hs : i.size = cs.length := by simpa [hq] using hi
    have hagg : (isAgg ty).run P w = .ok true w := by
      unfold isAgg
      rw [Sem.run_bind, run_underlying hu w]
      cases d <;> simp_all
    simp [loadVar, Sem.run_bind, hagg, sizeOf, typeInfo, hq, hs, hl]
/-- A struct is loaded whole, wherever it lies. -/
theorem wpList_load_add {ops : Array Oper} {rest : List Oper} {op : Oper} {a : Act} {Q : Exit → Act → World → Prop} (hgd : op.guard = none) (ty : TypeId) (x : Operand) (ho : op.op = .load ty x)
    (ad : Addr) (hx : a.eval x = .pointer (some ad)) (cs : List Value) (d : TypeDesc) (hc : ∀ j v, cs[j]? = some v → w.cell? (ad.add j) = some v)
    (hu : P.underlying ty = some d) (hd : (match d with | .struct _ | .array _ _ => true | _ => false) = true) (hi : (P.info? ty).map (·.size) = some cs.length)
    (h : wpList P ops Q rest (a.put op.dst (.agg cs.toArray)) w) : wpList P ops Q (op :: rest) a w :=
  wpList_plain hgd fun _ hK => by
    unfold Oper.wp execOp
    simp only [ho, hx, Instr.loadAt, Instr.sureAddr, Sem.run_bind, Sem.run_pure, Result.andThen_ok, run_loadVar_add w ad ty cs d hc hu hd hi]
    exact hK _ _ h
/-- A struct is stored whole into a block that was made just now: the world behind it is one name. -/
theorem wpList_box {ops : Array Oper} {rest : List Oper} {o : Oper} {a : Act} {Q : Exit → Act → World → Prop} {W : World} {Z : Array Value} (hgd : o.guard = none) (ty : TypeId) (x y : Operand) (ho : o.op = .store ty x y)
    (cells : Array Value) (hx : a.eval x = .pointer (some ⟨W.heap.size, 0, none⟩)) (hy : a.eval y = .agg cells) (hi : (P.info? ty).map (·.size) = some cells.size)
    (hold : Z.size = cells.size) (h1 : cells.all (·.oneCell') = true)
    (h : ∀ W', Blk W' W.heap.size ty cells → Upd (fun _ => False) W W' → W'.heap.size = W.heap.size + 1 → wpList P ops Q rest (a.put o.dst undef) W') : wpList P ops Q (o :: rest) a (W.alloc (.cells Z ty)) := by
  refine wpList_store_row hgd ty x y ho W.heap.size cells hx hy ty Z (Blk.new W ty Z) hi hold h1 (h _ ((Blk.new W ty Z).row _) ?_ (by simp))
  have hb : Below W.heap.size W ((W.alloc (.cells Z ty)).setRow W.heap.size cells) := below_setRow ((Below.refl _ _).alloc (Nat.le_refl _) _) (Nat.le_refl _) _
  exact Upd.of_below hb _
end
section
variable {H : Type} {enc : TypeId × Value → H} {P : Program} {W : World} {v : Value} {d : DataW H} {p : List MemPlace}
theorem open_slice_fields {w : World} {base : Nat} {spare : Nat → Bool} {held : Bool} {t e : TypeId} {fs : Array Field} {fuel : Nat} {cs : List Value} {x : DataW H × List MemPlace} (ht : P.underlying t = some (.slice e)) (he : P.underlying e = some (.struct fs))
    (hone : oneCellFields P fs = true) (hC : P.cellsOf e = fs.size) (h : DataW.trod enc P w base spare held fuel t cs = some x) :
    (cs = [.slice none 0 0] ∧ x = (.nil, [])) ∨
    ∃ (a : Addr) (len cap m : Nat) (D : Nat → DataW H) (Pl : Nat → List MemPlace), cs = [.slice (some a) len cap] ∧ base ≤ a.block ∧ len ≤ cap ∧ cap ≤ maxLen ∧ m = (if spare a.block then cap else len) ∧
      x = (.slice ((List.range len).map D) ((List.range (m - len)).map fun j => D (len + j)), MemPlace.row a (m * fs.size) ++ (List.range m).flatMap Pl) ∧
      ∀ i, i < m → ∃ (ys : List (DataW H × List MemPlace)) (n : Nat), D i = .agg (ys.map (·.1)) ∧ Pl i = ys.flatMap (·.2) ∧ ys.length = fs.size ∧
        ∀ (j : Nat) (f : Field), fs[j]? = some f → ∃ (v : Value) (y : DataW H × List MemPlace), w.cell? (a.add (i * fs.size + j)) = some v ∧ ys[j]? = some y ∧ DataW.trod enc P w base spare held n f.type [v] = some y := by
  rcases open_slice ht h with h0 | ⟨a, len, cap, m, n, D, Pl, hcs, hb, hl, hm, hmm, hx, hi⟩
  · exact .inl h0
  · refine .inr ⟨a, len, cap, m, D, Pl, hcs, hb, hl, hm, hmm, by rw [hC] at hx; exact hx, fun i him => ?_⟩
    obtain ⟨cs', hc, ht'⟩ := hi i him
    rw [hC] at hc
    obtain ⟨ys, n', hn', hy, hlen, hyl, hf⟩ := DataW.trod_struct he ht'
    obtain ⟨_, hcl, hat⟩ := World.cells?_some hc
    simp only [Prod.mk.injEq] at hy
    refine ⟨ys, n', hy.1, hy.2, hyl, fun j f hj => ?_⟩
    obtain ⟨ho, hk⟩ := hone_of hone j f hj
    have hjl : j < fs.size := (Array.getElem?_eq_some_iff.1 hj).1
    have hcell := hat j hjl
    have hv : cs'[j]? = some (cs'[j]'(by omega)) := List.getElem?_eq_getElem (by omega)
    have h1 := hf j f hj
    rw [ho, hk] at h1
    have hone' : (cs'.drop j).take 1 = [cs'[j]'(by omega)] := by
      rw [List.drop_eq_getElem_cons (by omega)]
      rfl
    rw [hone'] at h1
    have hys : ys[j]? = some (ys[j]'(by omega)) := List.getElem?_eq_getElem (by omega)
    refine ⟨_, _, ?_, hys, h1.trans hys⟩
    rw [← Go.Deep.add_add, hcell, hv]
/-- What a field's cell is, told by its type and its places. -/
theorem open_rows {r : Reach} {b0 : Nat} {t e : TypeId} {fs : Array Field} (ht : P.underlying t = some (.slice e)) (he : P.underlying e = some (.struct fs)) (hone : oneCellFields P fs = true) (hC : P.cellsOf e = fs.size) (hfs : 0 < fs.size)
    (Pr : Nat → Value → Prop) (hP : ∀ j f u n (y : DataW H × List MemPlace), fs[j]? = some f → DataW.trod enc P W 0 (fun _ => true) true n f.type [u] = some y → (∀ x ∈ y.2, x.block < W.heap.size) → Pr j u)
    (hval : Value.okWide P W r b0 t v) (h : DataW.Trod enc P W 0 (fun _ => true) true t v d p) (hlt : ∀ x ∈ p, x.block < W.heap.size) :
    ∃ A c, ∃ l : List (List Value), v = .slice A l.length c ∧ Reads W W.heap.size fs.size A l.length l.flatten ∧ l.length ≤ maxLen ∧ (∀ r ∈ l, r.length = fs.size ∧ ∀ j u, r[j]? = some u → Pr j u) := by
  obtain ⟨a0, len, cap, rfl⟩ := okWide_slice ht hval
  obtain ⟨fuel, hf⟩ := h
  rcases open_slice_fields ht he hone hC hf with ⟨hcs, hx⟩ | ⟨a, len', cap', m, D, Pl, hcs, _, hl, hm, hmm, hx, hi⟩
  · simp [Value.cells] at hcs
    obtain ⟨rfl, rfl, rfl⟩ := hcs
    exact ⟨none, 0, [], rfl, Reads.none_, by simp [maxLen], by simp⟩
  · simp [Value.cells] at hcs
    obtain ⟨rfl, rfl, rfl⟩ := hcs
    simp only [Prod.mk.injEq] at hx
    obtain ⟨rfl, rfl⟩ := hx
    simp only [if_true] at hmm
    subst hmm
    let C : Nat → Nat → Value := fun i j => (W.cell? (a.add (i * fs.size + j))).getD undef
    let l : List (List Value) := (List.range len).map fun i => (List.range fs.size).map (C i)
    have hll : l.length = len := by simp [l]
    have hrl : ∀ r ∈ l, r.length = fs.size := fun r hr => by
      simp only [l, List.mem_map] at hr
      obtain ⟨i, _, rfl⟩ := hr
      simp
    have key : ∀ i j, i < len → j < fs.size → W.cell? (a.add (i * fs.size + j)) = some (C i j) ∧ Pr j (C i j) := fun i j hi1 hj1 => by
      obtain ⟨ys, n, hD, hPl, hyl, hfj⟩ := hi i (by omega)
      obtain ⟨u, y, hc, hy, htr⟩ := hfj j fs[j] (Array.getElem?_eq_getElem hj1)
      have hCu : C i j = u := by simp only [C, hc, Option.getD_some]
      have hpl : ∀ x ∈ y.2, x.block < W.heap.size := fun x hx => hlt x (List.mem_append.2 (.inr (List.mem_flatMap.2 ⟨i, List.mem_range.2 (by omega), by rw [hPl]; exact List.mem_flatMap.2 ⟨y, List.mem_of_getElem? hy, hx⟩⟩)))
      rw [hCu]
      exact ⟨hc, hP j fs[j] u n y (Array.getElem?_eq_getElem hj1) htr hpl⟩
    refine ⟨some a, m, l, by rw [hll], ⟨by rw [flat_len l fs.size hrl], fun hn => ⟨a, rfl, ?_, fun q u hu => ?_⟩⟩, by omega, fun r hr => ⟨hrl r hr, fun j u hu => ?_⟩⟩
    · obtain ⟨b, off, spot⟩ := a
      rw [hll] at hn
      exact hlt (.cell b off) (List.mem_append.2 (.inl (MemPlace.mem_row.2 ⟨0, Nat.mul_pos (by omega) hfs, by simp⟩)))
    · have hq : q < len * fs.size := by
        have := (List.getElem?_eq_some_iff.1 hu).1
        rw [flat_len l fs.size hrl, hll] at this
        exact this
      have hdm := Nat.div_add_mod q fs.size
      have hmod := Nat.mod_lt q hfs
      have hdiv : q / fs.size < len := Nat.div_lt_of_lt_mul (by rw [Nat.mul_comm]; exact hq)
      have e : q = q / fs.size * fs.size + q % fs.size := by rw [Nat.mul_comm]; omega
      rw [e] at hu ⊢
      rw [flat_at l fs.size (q / fs.size) (q % fs.size) ((List.range fs.size).map (C (q / fs.size))) hrl (by simp [l, hdiv]) hmod] at hu
      simp [hmod] at hu
      rw [← hu]
      exact (key _ _ hdiv hmod).1
    · simp only [l, List.mem_map, List.mem_range] at hr
      obtain ⟨i, hi1, rfl⟩ := hr
      have hj : j < fs.size := by
        have := (List.getElem?_eq_some_iff.1 hu).1
        simpa using this
      simp [hj] at hu
      rw [← hu]
      exact (key i j hi1 hj).2
def toI : Value → Int
  | .int _ x => x
  | _ => 0
/-- .. where all fields are whole numbers of 64 bits. -/
theorem open_rows_int {r : Reach} {b0 : Nat} {t e : TypeId} {fs : Array Field} (ht : P.underlying t = some (.slice e)) (he : P.underlying e = some (.struct fs)) (hone : oneCellFields P fs = true) (hC : P.cellsOf e = fs.size) (hfs : 0 < fs.size)
    (hint : ∀ (j : Nat) (f : Field), fs[j]? = some f → P.underlying f.type = some (.int .i64))
    (hval : Value.okWide P W r b0 t v) (h : DataW.Trod enc P W 0 (fun _ => true) true t v d p) (hlt : ∀ x ∈ p, x.block < W.heap.size) :
    ∃ A c, ∃ l : List (List Int), v = .slice A l.length c ∧ Reads W W.heap.size fs.size A l.length (l.map (·.map (Value.int .i64))).flatten ∧ l.length ≤ maxLen ∧ (∀ r ∈ l, r.length = fs.size ∧ ∀ x ∈ r, (Lit.int .i64 x).wf = true) := by
  obtain ⟨A, c, l, rfl, hr, hm, hw⟩ := open_rows ht he hone hC hfs (fun _ u => ∃ x : Int, u = .int .i64 x ∧ (Lit.int .i64 x).wf = true) (fun j f u n y hj htr _ => by
    obtain ⟨q, hq, _, hwf⟩ := DataW.trod_int (hint j f hj) htr
    simp at hq
    exact ⟨q, hq, hwf⟩) hval h hlt
  have e : (l.map (·.map toI)).map (·.map (Value.int .i64)) = l := by
    rw [List.map_map]
    conv => rhs; rw [← List.map_id l]
    refine List.map_congr_left fun r hr => ?_
    simp only [Function.comp, List.map_map, id]
    conv => rhs; rw [← List.map_id r]
    refine List.map_congr_left fun u hu => ?_
    obtain ⟨j, hj, rfl⟩ := List.getElem_of_mem hu
    obtain ⟨x, hx, _⟩ := (hw r hr).2 j _ (List.getElem?_eq_getElem hj)
    rw [hx]
    rfl
  refine ⟨A, c, l.map (·.map toI), by simp, by rw [e]; simpa using hr, by simpa using hm, fun r hr => ?_⟩
  obtain ⟨r0, hr0, rfl⟩ := List.mem_map.1 hr
  refine ⟨by simpa using (hw r0 hr0).1, fun x hx => ?_⟩
  obtain ⟨u, hu, rfl⟩ := List.mem_map.1 hx
  obtain ⟨j, hj, rfl⟩ := List.getElem_of_mem hu
  obtain ⟨x, hx, hwf⟩ := (hw r0 hr0).2 j _ (List.getElem?_eq_getElem hj)
  rw [hx]
  exact hwf
theorem all_ints {P : Program} {fs : Array Field} (h3 : P.underlying 3 = some (.int .i64)) (h : fs.all (fun (f : Field) => f.type == 3) = true) : ∀ (j : Nat) (f : Field), fs[j]? = some f → P.underlying f.type = some (.int .i64) := fun j f hj => by
  have := (Array.all_eq_true_iff_forall_mem.1 h) f (Array.mem_of_getElem? hj)
  rw [beq_iff_eq.1 this]
  exact h3
theorem three_of {r : List Int} (h : r.length = 3) : ∃ a b c, r = [a, b, c] := by
  match r, h with
  | [a, b, c], _ => exact ⟨a, b, c, rfl⟩
theorem four_of {r : List Int} (h : r.length = 4) : ∃ a b c d, r = [a, b, c, d] := by
  match r, h with
  | [a, b, c, d], _ => exact ⟨a, b, c, d, rfl⟩
end
end Go.Proofs.Ytojmhacafmpbgaa.Mem
