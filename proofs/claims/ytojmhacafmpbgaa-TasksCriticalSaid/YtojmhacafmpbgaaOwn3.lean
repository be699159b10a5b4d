/- Stores of whole structs into rows of one's own, copies into them, loads from them. -/
import Derived.Test.YtojmhacafmpbgaaSep
import Derived.Laws.CopyOwn
import Derived.Laws.CopyRow
import Derived.Great.BuildSlice
import Derived.Deep.MidRow
namespace Go.Proofs.Ytojmhacafmpbgaa.Mem
open Go Go.RowKit
set_option linter.unusedVariables false
theorem splice_at {α : Type} (L : List α) (off : Nat) (cs : List α) (h : off + cs.length ≤ L.length) (i : Nat) : (splice L off cs)[i]? = if i < off then L[i]? else if i < off + cs.length then cs[i - off]? else L[i]? := by
  unfold splice
  by_cases h1 : i < off
  · rw [if_pos h1, List.getElem?_append_left (by simp; omega), List.getElem?_take, if_pos h1]
  · rw [if_neg h1, List.getElem?_append_right (by simp; omega)]
    by_cases h2 : i < off + cs.length
    · rw [if_pos h2, List.getElem?_append_left (by simp; omega)]
      congr 1
      simp
      omega
    · rw [if_neg h2, List.getElem?_append_right (by simp; omega), List.getElem?_drop]
      congr 1
      simp
      omega
theorem splice_all {α : Type} (L cs : List α) (h : cs.length = L.length) : splice L 0 cs = cs := by
  unfold splice
  rw [h]
  simp
theorem splice_nil {α : Type} (L : List α) (off : Nat) : splice L off [] = L := by
  unfold splice
  simp
theorem splice_one {α : Type} (L : List α) (off : Nat) (u : α) (h : off < L.length) : splice L off [u] = L.set off u := by
  refine List.ext_getElem? fun i => ?_
  rw [splice_at _ _ _ (by simp; omega), List.getElem?_set]
  simp only [List.length_singleton]
  by_cases h1 : i < off
  · rw [if_pos h1, if_neg (by omega)]
  · rw [if_neg h1]
    by_cases h2 : i < off + 1
    · obtain rfl : i = off := by omega
      rw [if_pos h2, if_pos rfl, if_pos h, Nat.sub_self]
      rfl
    · rw [if_neg h2, if_neg (by omega)]
theorem splice_flat : ∀ (l : List (List Value)) (n i j : Nat) (r cs : List Value) (hl : ∀ r ∈ l, r.length = n) (hr : l[i]? = some r) (hj : j + cs.length ≤ n), splice l.flatten (i * n + j) cs = (l.set i (splice r j cs)).flatten
  | [], n, i, j, r, cs, hl, hr, _ => by simp at hr
  | t :: l, n, 0, j, r, cs, hl, hr, hj => by
    obtain rfl : t = r := by simpa using hr
    have ht := hl t (by simp)
    simp only [List.flatten_cons, Nat.zero_mul, Nat.zero_add, List.set_cons_zero, splice]
    rw [List.take_append_of_le_length (by omega), List.drop_append_of_le_length (by omega)]
    simp
  | t :: l, n, i + 1, j, r, cs, hl, hr, hj => by
    have h1 := splice_flat l n i j r cs (fun r hr => hl r (by simp [hr])) (by simpa using hr) hj
    have ht := hl t (by simp)
    simp only [List.flatten_cons, List.set_cons_succ]
    rw [← h1]
    unfold splice
    rw [show (i + 1) * n + j = t.length + (i * n + j) by rw [ht, Nat.succ_mul]; omega, List.take_length_add_append, show t.length + (i * n + j) + cs.length = t.length + (i * n + j + cs.length) by omega, List.drop_length_add_append]
    simp
theorem set_flat {l : List (List Value)} {n i j : Nat} {r : List Value} {u : Value} (hl : ∀ r ∈ l, r.length = n) (hr : l[i]? = some r) (hj : j < n) : l.flatten.set (i * n + j) u = (l.set i (r.set j u)).flatten := by
  have h := splice_flat l n i j r [u] hl hr (by simp; omega)
  have hrn := hl r (List.mem_of_getElem? hr)
  have hi : i < l.length := (List.getElem?_eq_some_iff.1 hr).1
  rw [splice_one r j u (by omega), splice_one _ _ _ (by
    rw [flat_len l n hl]
    calc i * n + j < i * n + n := by omega
      _ = (i + 1) * n := by rw [Nat.succ_mul]
      _ ≤ l.length * n := Nat.mul_le_mul_right _ (by omega))] at h
  exact h
section
variable {P : Program} {w w' : World} {base n cap g size : Nat} {e : TypeId} {xs : List Value}
theorem own_blk (h : w.ownsRow base e size (.slice (some ⟨g, 0, none⟩) n cap) n xs) : base ≤ g ∧ n ≤ cap ∧ cap ≤ maxLen ∧ ∃ cur : List Value, w.heap[g]? = some (.cells cur.toArray e (0, 0)) ∧ cur.length = cap * size ∧ cur.take (n * size) = xs := by
  rcases h.2 with ⟨h', _⟩ | ⟨g', cap', cur, h', hb, hg, hnc, hcm, hcs, htake⟩
  · simp at h'
  · simp only [Value.slice.injEq, Option.some.injEq, Addr.mk.injEq, and_true, true_and] at h'
    obtain ⟨rfl, rfl⟩ := h'
    exact ⟨hb, hnc, hcm, cur.toList, by simpa using hg, by simpa using hcs, htake⟩
/-- Another block for the row's: its cells turned. -/
theorem own_turn (h : w.ownsRow base e size (.slice (some ⟨g, 0, none⟩) n cap) n xs) {cur' : List Value} {xs' : List Value} (hg : w'.heap[g]? = some (.cells cur'.toArray e (0, 0))) (hl : cur'.length = cap * size) (hx : cur'.take (n * size) = xs') (hxl : xs'.length = n * size) :
    w'.ownsRow base e size (.slice (some ⟨g, 0, none⟩) n cap) n xs' := by
  obtain ⟨hb, hnc, hcm, _⟩ := own_blk h
  exact ⟨hxl, .inr ⟨g, cap, cur'.toArray, rfl, hb, hg, hnc, hcm, by simpa using hl, by simpa using hx⟩⟩
theorem own_splice (h : w.ownsRow base e size (.slice (some ⟨g, 0, none⟩) n cap) n xs) {cur : List Value} (hg : w.heap[g]? = some (.cells cur.toArray e (0, 0))) {vs : List Value} {off : Nat} (hfit : off + vs.length ≤ n * size)
    (hg' : w'.heap[g]? = some (.cells (splice cur off vs).toArray e (0, 0))) : w'.ownsRow base e size (.slice (some ⟨g, 0, none⟩) n cap) n (splice xs off vs) := by
  obtain ⟨hb, hnc, hcm, cur', hg2, hl, hx⟩ := own_blk h
  rw [hg] at hg2
  simp only [Option.some.injEq, Obj.cells.injEq, and_true] at hg2
  obtain rfl : cur = cur' := by simpa using hg2
  have hle : n * size ≤ cap * size := Nat.mul_le_mul_right _ hnc
  refine own_turn h hg' (by rw [length_splice _ _ _ (by omega)]; exact hl) ?_ (by rw [length_splice _ _ _ (by rw [h.1]; exact hfit)]; exact h.1)
  refine List.ext_getElem? fun i => ?_
  rw [← hx, List.getElem?_take, splice_at _ _ _ (by omega), splice_at _ _ _ (by simp; omega), List.getElem?_take]
  by_cases hi : i < n * size
  · rw [if_pos hi, if_pos hi]
  · rw [if_neg hi, if_neg (by omega), if_neg (by omega), if_neg hi]
theorem upd_setRow (w : World) (g : Nat) (cs : Array Value) : Upd (Just g) w (w.setRow g cs) := ⟨rfl, rfl, rfl, by simp, fun k _ hk => setRow_other w g k cs (fun e => hk e)⟩
theorem upd_set (w : World) (g o : Nat) (u : Value) : Upd (Just g) w (w.setCell ⟨g, o, none⟩ u) := (Upd.refl (Just g) w).setCell (p := ⟨g, o, none⟩) (fun _ => rfl) u
/-- A struct is stored whole into a row of one's own. -/
theorem run_store_own (h : w.ownsRow base e size (.slice (some ⟨g, 0, none⟩) n cap) n xs) {ty : TypeId} {off : Nat} {cells : Array Value} (hfit : off + cells.size ≤ n * size) (hi : (P.info? ty).map (·.size) = some cells.size) (h1 : cells.all (·.oneCell') = true) :
    ∃ w', (storeVar ty ⟨g, off, none⟩ (.agg cells)).run P w = .ok () w' ∧ w'.ownsRow base e size (.slice (some ⟨g, 0, none⟩) n cap) n (splice xs off cells.toList) ∧ Upd (Just g) w w' ∧ w'.heap.size = w.heap.size := by
  obtain ⟨hb, hnc, hcm, cur, hg, hl, hx⟩ := own_blk h
  have hle : n * size ≤ cap * size := Nat.mul_le_mul_right _ hnc
  have hst := run_storeCells_at P g off e cells.toList 0 cur.toArray w hg (by simp; omega) (fun v hv => (Array.all_eq_true_iff_forall_mem.1 h1) v (by simpa using hv))
  refine ⟨w.setRow g (splice cur off cells.toList).toArray, ?_, ?_, upd_setRow w g _, by simp⟩
  · cases hq : P.info? ty with
    | none => simp [hq] at hi
    | some i =>
      have hs : cells.size = i.size := by simp [hq] at hi; omega
      simp only [Nat.add_zero, List.append_assoc] at hst
      simp [storeVar, sizeOf, typeInfo, hq, Value.cells, hs, hst, splice]
  · exact own_splice h hg (by simpa using hfit) (setRow_heap w g _ _ e _ hg)
theorem wpList_store_own {ops : Array Oper} {rest : List Oper} {o : Oper} {a : Act} {Q : Exit → Act → World → Prop} (hgd : o.guard = none) (ty : TypeId) (x y : Operand) (ho : o.op = .store ty x y)
    (h : w.ownsRow base e size (.slice (some ⟨g, 0, none⟩) n cap) n xs) (off : Nat) (cells : Array Value) (hx : a.eval x = .pointer (some ⟨g, off, none⟩)) (hy : a.eval y = .agg cells) (hfit : off + cells.size ≤ n * size) (hi : (P.info? ty).map (·.size) = some cells.size) (h1 : cells.all (·.oneCell') = true)
    (k : ∀ w', w'.ownsRow base e size (.slice (some ⟨g, 0, none⟩) n cap) n (splice xs off cells.toList) → Upd (Just g) w w' → w'.heap.size = w.heap.size → wpList P ops Q rest (a.put o.dst undef) w') : wpList P ops Q (o :: rest) a w := by
  obtain ⟨w', hrun, h2, h3, h4⟩ := run_store_own (P := P) h hfit hi h1
  refine wpList_plain hgd fun _ hK => ?_
  unfold Oper.wp execOp
  simp only [ho, hx, hy, Instr.storeAt, Instr.sureAddr, Sem.run_bind, Sem.run_pure, Result.andThen_ok, hrun]
  exact hK _ _ (k w' h2 h3 h4)
/-- copy into a row of one's own. -/
theorem wpList_copy_in {ops : Array Oper} {rest : List Oper} {o : Oper} {a : Act} {Q : Exit → Act → World → Prop} (hgd : o.guard = none) (d s : Operand) (dT sT : TypeId)
    (ho : o.op = .call { callee := .builtin .copy, args := #[d, s], argTypes := #[dT, sT] }) (elem : TypeId) (hu : P.underlying dT = some (.slice elem)) (hsz : (P.info? elem).map (·.size) = some 1)
    (h : w.ownsRow base e size (.slice (some ⟨g, 0, none⟩) n cap) n xs) (dp : Option Addr) (dLen dCap off : Nat) (hd : a.eval d = .slice dp dLen dCap) (B : Nat) (A : Option Addr) (m c : Nat) (hs : a.eval s = .slice A m c) (vs : List Value) (hr : Reads w B 1 A m vs) (hm : m ≤ dLen)
    (hdp : 0 < m → dp = some ⟨g, off, none⟩) (hfit : off + m ≤ n * size) (h1 : ∀ u ∈ vs, u.oneCell' = true)
    (k : ∀ w', w'.ownsRow base e size (.slice (some ⟨g, 0, none⟩) n cap) n (splice xs off vs) → Upd (Just g) w w' → w'.heap.size = w.heap.size → wpList P ops Q rest (a.put o.dst (goInt m)) w') : wpList P ops Q (o :: rest) a w := by
  have hvl : vs.length = m := by have := hr.1; omega
  by_cases h0 : m = 0
  · subst h0
    obtain rfl : vs = [] := List.eq_nil_of_length_eq_zero hvl
    refine wpList_copy_nothing hgd d s dT sT ho elem hu hsz dp A dLen dCap 0 c hd hs (by simp) ?_
    exact k w (by rw [splice_nil]; exact h) (Upd.refl _ _) rfl
  · obtain ⟨ad, rfl, hb, hc⟩ := hr.2 (by omega)
    obtain rfl := hdp (by omega)
    obtain ⟨hb, hnc, hcm, cur, hg, hl, hx⟩ := own_blk h
    have hle : n * size ≤ cap * size := Nat.mul_le_mul_right _ hnc
    refine wpList_copy_own hgd d s dT sT ho elem hu hsz g off dLen dCap ad m c hd hs cur.toArray e hg vs (by rw [hvl]; exact (Nat.min_eq_left hm).symm) hc (by simp; omega) h1 ?_
    rw [hvl]
    exact k _ (own_splice h hg (by omega) (by rw [setRow_heap w g _ _ e _ hg]; simp [splice, hvl])) (upd_setRow w g _) (by simp)
end
theorem own_there {w : World} {base n cap g size : Nat} {e : TypeId} {xs : List Value} (h : w.ownsRow base e size (.slice (some ⟨g, 0, none⟩) n cap) n xs) {off m : Nat} (hfit : off + m ≤ n * size) : w.there g off m := fun j hj => by
  refine ⟨?_, h.frozenAt _⟩
  rw [h.cellAt (off + j) (by omega), List.getElem?_eq_getElem (by rw [h.1]; omega)]
  rfl
theorem own_setCells (P : Program) (ty : TypeId) {w : World} {base n cap g size : Nat} {e : TypeId} {xs : List Value} (h : w.ownsRow base e size (.slice (some ⟨g, 0, none⟩) n cap) n xs) {off : Nat} {cells : List Value} (hfit : off + cells.length ≤ n * size) (hi : (P.info? ty).map (·.size) = some cells.length) (h1 : ∀ u ∈ cells, u.oneCell' = true) :
    (w.setCells g off cells).ownsRow base e size (.slice (some ⟨g, 0, none⟩) n cap) n (splice xs off cells) ∧ Upd (Just g) w (w.setCells g off cells) ∧ (w.setCells g off cells).heap.size = w.heap.size := by
  obtain ⟨w', hrun, h2, h3, h4⟩ := run_store_own (P := P) (ty := ty) h (cells := cells.toArray) (by simpa using hfit) (by simpa using hi) (all_oneCell_toArray h1)
  have h5 := run_storeVar_mid (P := P) w g off ty cells.toArray (own_there h (by simpa using hfit)) (by simpa using hi) (all_oneCell_toArray h1)
  rw [hrun] at h5
  injection h5 with _ h5
  subst h5
  exact ⟨h2, h3, h4⟩
theorem fold_seg (off : Nat) : ∀ (l : List Value) (k : Nat) (C : Array Value), off + k + l.length ≤ C.size →
    ((l.zipIdx k).foldl (fun cs x => cs.setIfInBounds (off + x.2) x.1) C).size = C.size ∧ ∀ i, ((l.zipIdx k).foldl (fun cs x => cs.setIfInBounds (off + x.2) x.1) C)[i]? = if i < off + k then C[i]? else if i < off + k + l.length then l[i - (off + k)]? else C[i]?
  | [], k, C, h => ⟨rfl, fun i => by
    simp only [List.zipIdx_nil, List.foldl_nil, List.length_nil, Nat.add_zero]
    by_cases h1 : i < off + k
    · rw [if_pos h1]
    · rw [if_neg h1, if_neg h1]⟩
  | v :: l, k, C, h => by
    simp only [List.length_cons] at h
    obtain ⟨h1, h2⟩ := fold_seg off l (k + 1) (C.setIfInBounds (off + k) v) (by simp; omega)
    simp only [List.zipIdx_cons, List.foldl_cons]
    refine ⟨by rw [h1]; simp, fun i => ?_⟩
    rw [h2 i, Array.getElem?_setIfInBounds]
    simp only [List.length_cons]
    by_cases a1 : i < off + k
    · rw [if_pos (by omega), if_neg (by omega), if_pos a1]
    · by_cases a2 : i = off + k
      · subst a2
        rw [if_pos (by omega), if_pos rfl, if_pos (by omega), if_neg (by omega), if_pos (by omega), Nat.sub_self]
        rfl
      · rw [if_neg (by omega), if_neg a1]
        by_cases a3 : i < off + k + (l.length + 1)
        · rw [if_pos (by omega), if_pos a3, show i - (off + k) = (i - (off + (k + 1))) + 1 by omega]
          rfl
        · rw [if_neg (by omega), if_neg a3, if_neg (by omega)]
theorem fill_one {Z C : Array Value} (h : C.size = Z.size) : Instr.fill (fun i => some (i * Z.size, Z.size)) C [(0, .agg Z)] = some Z := by
  have e : (Value.agg Z).cells = Z := rfl
  simp only [Instr.fill, e, Nat.zero_mul, Nat.zero_add]
  rw [if_neg (by simp; omega)]
  congr 1
  rw [← Array.foldl_toList, Array.toList_zipIdx]
  obtain ⟨h1, h2⟩ := fold_seg 0 Z.toList 0 C (by simp; omega)
  simp only [Nat.zero_add] at h1 h2
  refine Array.ext_getElem? fun i => ?_
  rw [show (List.foldl (fun cs (x : Value × Nat) => match x with | (c, j) => cs.setIfInBounds j c) C (Z.toList.zipIdx 0))[i]? = _ from h2 i]
  rw [if_neg (by omega)]
  by_cases a : i < Z.toList.length
  · rw [if_pos a]; simp
  · rw [if_neg a]
    rw [Array.getElem?_eq_none (by simp at a; omega), Array.getElem?_eq_none (by simp at a; omega)]
/-- '[]T{x}' of a struct x, in a walk. -/
theorem wpList_slice1 {P : Program} {w : World} {ops : Array Oper} {rest : List Oper} {o : Oper} {a : Act} {Q : Exit → Act → World → Prop} (hg : o.guard = none) (t e : TypeId) (x : Operand) (ho : o.op = .buildSlice t 1 #[(0, x)])
    (cells : Array Value) (ie : TypeInfo) (z : Value) (hu : P.underlying t = some (.slice e)) (hie : P.info? e = some ie) (hz : ie.zero = some z) (hs : ie.size = cells.size) (h1 : 0 < cells.size) (h2 : cells.size ≤ 16777216)
    (hx : a.eval x = .agg cells) (h : wpList P ops Q rest (a.put o.dst (.slice (some ⟨w.heap.size, 0, none⟩) 1 1)) (w.alloc (.cells cells e))) : wpList P ops Q (o :: rest) a w :=
  wpList_buildSlice hg t e 1 #[(0, x)] ho cells ie z hu hie hz (by rw [hs]; omega) (by rw [hs]; omega) (by
    simp only [hs, Nat.one_mul]
    have := fill_one (Z := cells) (C := (Array.range cells.size).map (z.cells[· % z.cells.size]!)) (by simp)
    simpa [hx] using this) h
end Go.Proofs.Ytojmhacafmpbgaa.Mem
