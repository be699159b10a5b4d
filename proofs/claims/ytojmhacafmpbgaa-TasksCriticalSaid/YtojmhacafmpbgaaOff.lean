/- Rows of one's own that need not begin at their array's head ('s = s[k:]'): kept, cut, read, stored into, appended to; among objects side by side. -/
import Derived.Test.YtojmhacafmpbgaaPackD
import Derived.ArgAppend
namespace Go.Proofs.Ytojmhacafmpbgaa.Mem
open Go Go.RowKit
set_option linter.unusedVariables false
/-- The slice value v, of n elements, owns the cells xs, wherever in its array it begins. -/
def OwnO (w : World) (base : Nat) (e : TypeId) (size : Nat) (v : Value) (n : Nat) (xs : List Value) : Prop :=
  xs.length = n * size ∧
  ((v = .slice none 0 0 ∧ n = 0) ∨
   ∃ g off cap cur, v = .slice (some ⟨g, off, none⟩) n cap ∧ base ≤ g ∧ w.heap[g]? = some (.cells cur e (0, 0)) ∧ n ≤ cap ∧ cap ≤ maxLen ∧ off + cap * size ≤ cur.size ∧ (cur.toList.drop off).take (n * size) = xs)
section
variable {w w' : World} {base n cap g off size : Nat} {e : TypeId} {v : Value} {xs : List Value} {F : Blocks}
theorem OwnO.of_own (h : w.ownsRow base e size v n xs) : OwnO w base e size v n xs := by
  refine ⟨h.1, ?_⟩
  rcases h.2 with hn | ⟨g, cap, cur, rfl, hb, hg, hnc, hcm, hcs, ht⟩
  · exact .inl hn
  · exact .inr ⟨g, 0, cap, cur, rfl, hb, hg, hnc, hcm, by omega, by simpa using ht⟩
theorem OwnO.nil (w : World) (base : Nat) (e : TypeId) (size : Nat) : OwnO w base e size (.slice none 0 0) 0 [] := ⟨by simp, .inl ⟨rfl, rfl⟩⟩
theorem OwnO.len (h : OwnO w base e size v n xs) : ∃ A c, v = .slice A n c := by
  rcases h.2 with ⟨rfl, rfl⟩ | ⟨g, off, cap, cur, rfl, _⟩
  · exact ⟨_, _, rfl⟩
  · exact ⟨_, _, rfl⟩
theorem OwnO.form (h : OwnO w base e size v n xs) (hn : 0 < n) : ∃ g off cap, v = .slice (some ⟨g, off, none⟩) n cap ∧ base ≤ g ∧ g < w.heap.size ∧ n ≤ cap := by
  rcases h.2 with ⟨_, h0⟩ | ⟨g, off, cap, cur, rfl, hb, hg, hc, _⟩
  · omega
  · exact ⟨g, off, cap, rfl, hb, (Array.getElem?_eq_some_iff.1 hg).1, hc⟩
theorem OwnO.in_ (h : OwnO w base e size v n xs) : In base w (OwnB v) := fun k hk => by
  rcases h.2 with ⟨rfl, _⟩ | ⟨g, off, cap, cur, rfl, hb, hg, _⟩
  · simp [OwnB, Value.ownBlock] at hk
  · simp [OwnB, Value.ownBlock] at hk
    subst hk
    exact ⟨hb, (Array.getElem?_eq_some_iff.1 hg).1⟩
theorem OwnO.keep {G : Blocks} (h : OwnO w base e size v n xs) (hu : Upd G w w') (hd : Dis (OwnB v) G) : OwnO w' base e size v n xs := by
  refine ⟨h.1, ?_⟩
  rcases h.2 with hn | ⟨g, off, cap, cur, rfl, hb, hg, rest⟩
  · exact .inl hn
  · refine .inr ⟨g, off, cap, cur, rfl, hb, ?_, rest⟩
    rw [hu.block g (Array.getElem?_eq_some_iff.1 hg).1 (hd g (by simp [OwnB, Value.ownBlock]))]
    exact hg
theorem OwnO.mono {base' : Nat} (h : OwnO w base e size v n xs) (hb : base' ≤ base) : OwnO w base' e size v n xs := by
  refine ⟨h.1, ?_⟩
  rcases h.2 with hn | ⟨g, off, cap, cur, rfl, hb2, rest⟩
  · exact .inl hn
  · exact .inr ⟨g, off, cap, cur, rfl, by omega, rest⟩
theorem OwnO.blk (h : OwnO w base e size (.slice (some ⟨g, off, none⟩) n cap) n xs) : base ≤ g ∧ n ≤ cap ∧ cap ≤ maxLen ∧ ∃ cur : List Value, w.heap[g]? = some (.cells cur.toArray e (0, 0)) ∧ off + cap * size ≤ cur.length ∧ (cur.drop off).take (n * size) = xs := by
  rcases h.2 with ⟨h', _⟩ | ⟨g', off', cap', cur, h', hb, hg, hnc, hcm, hcs, htake⟩
  · simp at h'
  · simp only [Value.slice.injEq, Option.some.injEq, Addr.mk.injEq, and_true, true_and] at h'
    obtain ⟨⟨rfl, rfl⟩, rfl⟩ := h'
    exact ⟨hb, hnc, hcm, cur.toList, by simpa using hg, by simpa using hcs, htake⟩
theorem OwnO.turn (h : OwnO w base e size (.slice (some ⟨g, off, none⟩) n cap) n xs) {cur' : List Value} {xs' : List Value} (hg : w'.heap[g]? = some (.cells cur'.toArray e (0, 0))) (hl : off + cap * size ≤ cur'.length) (hx : (cur'.drop off).take (n * size) = xs') (hxl : xs'.length = n * size) :
    OwnO w' base e size (.slice (some ⟨g, off, none⟩) n cap) n xs' := by
  obtain ⟨hb, hnc, hcm, _⟩ := h.blk
  exact ⟨hxl, .inr ⟨g, off, cap, cur'.toArray, rfl, hb, hg, hnc, hcm, by simpa using hl, by simpa using hx⟩⟩
theorem OwnO.cellAt (h : OwnO w base e size (.slice (some ⟨g, off, none⟩) n cap) n xs) (j : Nat) (hj : j < n * size) : w.cell? ⟨g, off + j, none⟩ = xs[j]? := by
  obtain ⟨hb, hnc, hcm, cur, hg, hl, hx⟩ := h.blk
  rw [cell_of_row w g (off + j) _ e (0, 0) hg, ← hx, List.getElem?_take, if_pos hj, List.getElem?_drop]
  simp
theorem OwnO.frozenAt (h : OwnO w base e size (.slice (some ⟨g, off, none⟩) n cap) n xs) (j : Nat) : w.frozen? ⟨g, j, none⟩ = false := by
  obtain ⟨hb, hnc, hcm, cur, hg, hl, hx⟩ := h.blk
  exact frozen_of_row w g j _ e hg
theorem OwnO.reads {A : Option Addr} {c : Nat} (h : OwnO w base e size (.slice A n c) n xs) : Reads w w.heap.size size A n xs := by
  refine ⟨h.1, fun hn => ?_⟩
  obtain ⟨g, off, cap, hv, _, hlt, _⟩ := h.form hn
  simp only [Value.slice.injEq, true_and] at hv
  obtain ⟨rfl, rfl⟩ := hv
  refine ⟨_, rfl, hlt, fun j u hu => ?_⟩
  rw [Addr.add_lit, h.cellAt j (by rw [← h.1]; exact (List.getElem?_eq_some_iff.1 hu).1)]
  exact hu
/-- 's[k:]'. -/
theorem OwnO.cut {A : Option Addr} {c k : Nat} (h : OwnO w base e size (.slice A n c) n xs) (hk : k ≤ n) : OwnO w base e size (.slice (if c = k then A else A.map (·.add (k * size))) (n - k) (c - k)) (n - k) (xs.drop (k * size)) := by
  refine ⟨by rw [List.length_drop, h.1, Nat.sub_mul], ?_⟩
  rcases h.2 with ⟨h', h0⟩ | ⟨g, off, cap, cur, h', hb, hg, hnc, hcm, hcs, htake⟩
  · simp only [Value.slice.injEq] at h'
    obtain ⟨rfl, -, rfl⟩ := h'
    left
    obtain rfl : k = 0 := by omega
    subst h0
    simp
  · simp only [Value.slice.injEq, true_and] at h'
    obtain ⟨rfl, rfl⟩ := h'
    right
    by_cases he : c = k
    · rw [if_pos he]
      subst he
      obtain rfl : c = n := by omega
      exact ⟨g, off, 0, cur, by simp, hb, hg, by omega, by simp, by omega, by simp [h.1]⟩
    · rw [if_neg he]
      refine ⟨g, off + k * size, c - k, cur, ?_, hb, hg, by omega, by omega, ?_, ?_⟩
      · simp [Addr.add_lit]
      · rw [Nat.add_assoc, ← Nat.add_mul, show k + (c - k) = c by omega]
        exact hcs
      · rw [← htake, List.drop_take, List.drop_drop, Nat.sub_mul]
/-- 's[:k]'. -/
theorem OwnO.head {A : Option Addr} {c k : Nat} (h : OwnO w base e size (.slice A n c) n xs) (hk : k ≤ n) : OwnO w base e size (.slice A k c) k (xs.take (k * size)) := by
  have hle : k * size ≤ n * size := Nat.mul_le_mul_right _ hk
  refine ⟨by rw [List.length_take, h.1]; omega, ?_⟩
  rcases h.2 with ⟨h', h0⟩ | ⟨g, off, cap, cur, h', hb, hg, hnc, hcm, hcs, htake⟩
  · simp only [Value.slice.injEq] at h'
    obtain ⟨rfl, -, rfl⟩ := h'
    left
    obtain rfl : k = 0 := by omega
    simp
  · simp only [Value.slice.injEq, true_and] at h'
    obtain ⟨rfl, rfl⟩ := h'
    right
    refine ⟨g, off, c, cur, rfl, hb, hg, by omega, hcm, hcs, ?_⟩
    rw [← htake, List.take_take]
    congr 1
    omega
/-- The cells of the slice turned, at a place. -/
theorem OwnO.splice_ (h : OwnO w base e size (.slice (some ⟨g, off, none⟩) n cap) n xs) {cur : List Value} (hg : w.heap[g]? = some (.cells cur.toArray e (0, 0))) {vs : List Value} {j : Nat} (hfit : j + vs.length ≤ n * size)
    (hg' : w'.heap[g]? = some (.cells (splice cur (off + j) vs).toArray e (0, 0))) : OwnO w' base e size (.slice (some ⟨g, off, none⟩) n cap) n (splice xs j vs) := by
  obtain ⟨hb, hnc, hcm, cur', hg2, hl, hx⟩ := h.blk
  rw [hg] at hg2
  simp only [Option.some.injEq, Obj.cells.injEq, and_true] at hg2
  obtain rfl : cur = cur' := by simpa using hg2
  have hle : n * size ≤ cap * size := Nat.mul_le_mul_right _ hnc
  refine h.turn hg' (by rw [length_splice _ _ _ (by omega)]; exact hl) ?_ (by rw [length_splice _ _ _ (by rw [h.1]; exact hfit)]; exact h.1)
  refine List.ext_getElem? fun i => ?_
  rw [← hx, List.getElem?_take, List.getElem?_drop, splice_at _ _ _ (by omega), splice_at _ _ _ (by simp; omega), List.getElem?_take, List.getElem?_drop]
  by_cases hi : i < n * size
  · rw [if_pos hi, if_pos hi]
    by_cases h1 : i < j
    · rw [if_pos h1, if_pos (by omega)]
    · rw [if_neg h1, if_neg (by omega)]
      by_cases h2 : i < j + vs.length
      · rw [if_pos h2, if_pos (by omega)]
        congr 1
        omega
      · rw [if_neg h2, if_neg (by omega)]
  · rw [if_neg hi, if_neg (by omega), if_neg (by omega), if_neg hi]
theorem OwnO.stored (h : OwnO w base e size (.slice (some ⟨g, off, none⟩) n cap) n xs) (j : Nat) (hj : j < n * size) (u : Value) : OwnO (w.setCell ⟨g, off + j, none⟩ u) base e size (.slice (some ⟨g, off, none⟩) n cap) n (xs.set j u) := by
  obtain ⟨hb, hnc, hcm, cur, hg, hl, hx⟩ := h.blk
  have hle : n * size ≤ cap * size := Nat.mul_le_mul_right _ hnc
  rw [← splice_one xs j u (by rw [h.1]; exact hj)]
  refine h.splice_ hg (by simp; omega) ?_
  rw [splice_one _ _ _ (by omega)]
  have := heap_setCell_same w g (off + j) cur.toArray e u hg
  simpa using this
end
section
variable {P : Program} {w : World} {base n size : Nat} {e : TypeId} {v : Value} {xs : List Value}
theorem run_append_off (t ty : TypeId) (i : TypeInfo) (z : Value) (bytes : Nat) (ht : P.underlying t = some (.slice e)) (hi : P.info? e = some i) (hz : i.zero = some z)
    (hsize : i.size = size) (hby : i.bytes = bytes) (hzs : z.cells.size = size) (hsz : 0 < size) (h : OwnO w base e size v n xs)
    (B : Nat) (A : Option Addr) (m c : Nat) (news : List Value) (hr : Reads w B size A m news) (h1 : ∀ u ∈ news, u.oneCell' = true)
    (h63 : n + m ≤ maxLen) (hbytes : (n + m) * bytes ≤ 140737488355328) (hbase : base ≤ w.heap.size) :
    ∃ v' w', (Builtin.append_ #[t, t] ty #[v, .slice A m c]).run P w = .ok v' w' ∧ OwnO w' base e size v' (n + m) (xs ++ news) ∧ Upd (OwnB v) w w' ∧ Grow w (OwnB v) (OwnB v') := by
  rcases h.2 with ⟨rfl, rfl⟩ | ⟨g, off, cap, cur, rfl, hbg, hg, hnc, hcm, hcs, htake⟩
  · obtain rfl : xs = [] := List.eq_nil_of_length_eq_zero (by simpa using h.1)
    obtain ⟨v', w', a1, a2, a3, a4⟩ := run_append_any (P := P) w base t ty e i z size bytes ht hi hz hsize hby hzs hsz (.slice none 0 0) 0 [] (World.ownsRow_nil _ _ _ _) B A m c news hr h1 h63 hbytes hbase
    exact ⟨v', w', a1, OwnO.of_own a2, grown_upd a3, append_grow a4 (Nat.le_refl _)⟩
  · by_cases h0 : m = 0
    · subst h0
      obtain rfl : news = [] := List.eq_nil_of_length_eq_zero (by simpa using hr.1)
      refine ⟨_, w, ?_, by simpa using h, Upd.refl _ _, Grow.refl _ _⟩
      cases A <;> simp [Builtin.append_, run_underlying ht, sizeOf, typeInfo, hi, Builtin.lenOf, Builtin.firstCells, hnc, storeCells, loadCells, loadCellsFrom]
    · obtain ⟨ad, rfl, hadB, hc⟩ := hr.2 (by omega)
      obtain ⟨hb2, hn2, hc2, cl, hg2, hl2, hx2⟩ := h.blk
      have hle : n * size ≤ cap * size := Nat.mul_le_mul_right _ hnc
      have hlen : (xs ++ news).length = (n + m) * size := by rw [List.length_append, h.1, hr.1, Nat.add_mul]
      by_cases hroom : n + m ≤ cap
      · have hle2 : (n + m) * size ≤ cap * size := Nat.mul_le_mul_right _ hroom
        rw [Nat.add_mul, ← hr.1] at hle2
        have hth : ∀ j, j < news.length → (w.cell? ⟨g, off + n * size + j, none⟩).isSome = true ∧ w.frozen? ⟨g, off + n * size + j, none⟩ = false := fun j hj => by
          refine ⟨?_, frozen_of_row w g _ _ e hg2⟩
          rw [cell_of_row w g _ _ e (0, 0) hg2]
          simp
          omega
        have hrun := run_append_room_cells (P := P) w t ty e i ht hi g off n cap ad m c news (by rw [hr.1, hsize]) hc h1 hroom (fun j hj => by rw [hsize]; exact (hth j hj).1) (fun j hj => by rw [hsize]; exact (hth j hj).2)
        rw [hsize] at hrun
        have hsc := run_storeCells_cells (P := P) g (off + n * size) news 0 w (by simpa using fun j hj => (hth j hj).1) (by simpa using fun j hj => (hth j hj).2) h1
        have hst := run_storeCells_at P g (off + n * size) e news 0 cl.toArray w hg2 (by simp; omega) h1
        simp only [Nat.add_zero] at hsc hst
        rw [hst] at hsc
        injection hsc with _ hsc
        rw [← hsc] at hrun
        refine ⟨_, _, hrun, ?_, (upd_setRow w g _).mono (fun k _ hk => by rw [show k = g from hk]; rfl), fun k hk => .inl hk⟩
        refine ⟨hlen, .inr ⟨g, off, cap, _, rfl, hbg, setRow_heap w g _ _ e _ hg2, hroom, hcm, ?_, ?_⟩⟩
        · simp
          omega
        · refine List.ext_getElem? fun q => ?_
          have hsp : List.take (off + n * size) cl ++ news ++ List.drop (off + n * size + news.length) cl = splice cl (off + n * size) news := by simp [splice]
          rw [List.getElem?_take, List.getElem?_drop, ← hx2, hsp, splice_at _ _ _ (by omega), Nat.add_mul, ← hr.1]
          have hxl : ((cl.drop off).take (n * size)).length = n * size := by simp; omega
          by_cases a1 : q < n * size
          · rw [if_pos (by omega), if_pos (by omega), List.getElem?_append_left (by omega), List.getElem?_take, if_pos a1, List.getElem?_drop]
          · rw [List.getElem?_append_right (by omega), hxl]
            by_cases a2 : q < n * size + news.length
            · rw [if_pos a2, if_neg (by omega), if_pos (by omega)]
              congr 1
              omega
            · rw [if_neg a2, List.getElem?_eq_none (by omega)]
      · obtain ⟨v', w', a1, a2, a3⟩ := run_append_arg_grows (P := P) w t ty e i z size bytes ht hi hz hsize hby hzs hsz ⟨g, off, none⟩ n cap xs h.1 (fun j u hj => by rw [Addr.add_lit, h.cellAt j (by rw [← h.1]; exact (List.getElem?_eq_some_iff.1 hj).1)]; exact hj) ad m c news hr.1 hc (by omega) h63 hbytes
        exact ⟨v', w', a1, OwnO.of_own (own_mono a2 hbase), ⟨a3.os, a3.tape, a3.output, a3.size, fun k hk _ => a3.block k hk (by simp)⟩, fun k hk => .inr (own_in a2 k hk).1⟩
end
/-- A row of one's own, wherever it begins, among other objects. -/
def RowO (e : TypeId) (size : Nat) (v : Value) (n : Nat) (xs : List Value) : Asr := fun B F w => OwnO w B e size v n xs ∧ F = OwnB v
instance (e : TypeId) (size : Nat) (v : Value) (n : Nat) (xs : List Value) : (RowO e size v n xs).Ok where
  in_ := fun ⟨h, hF⟩ => by rw [hF]; exact h.in_
  keep := fun ⟨h, hF⟩ hu hd => ⟨h.keep hu (by rw [← hF]; exact hd), hF⟩
section
variable {P : Program} {w0 w w' : World} {L : List Asr} {n cap c g off size : Nat} {e : TypeId} {v : Value} {xs : List Value} {A : Option Addr}
theorem Star.rowO (h : Star w0 w L) (i : Nat) (hi : L[i]? = some (RowO e size v n xs)) : OwnO w w0.heap.size e size v n xs := (h.of i hi).elim fun _ hx => hx.1.1
theorem Star.toO (h : Star w0 w L) (i : Nat) (hi : L[i]? = some (RowA e size v n xs)) : Star w0 w (L.set i (RowO e size v n xs)) := by
  obtain ⟨F, ⟨ha, hF⟩, hin, hk⟩ := h.at_ i hi
  exact hk inferInstance ⟨OwnO.of_own ha, hF⟩ (Upd.refl _ _) (Grow.refl _ _)
theorem Star.newO (h : Star w0 w L) (ho : OwnO w' w.heap.size e size v n xs) (hb : Below w.heap.size w w') : Star w0 w' (RowO e size v n xs :: L) :=
  h.new (F := OwnB v) inferInstance ⟨ho.mono h.hb, rfl⟩ (Upd.of_below hb _) (fun k hk => (ho.in_ k hk).1)
theorem Star.nilO (h : Star w0 w L) (e : TypeId) (size : Nat) : Star w0 w (RowO e size (.slice none 0 0) 0 [] :: L) :=
  h.newO (OwnO.nil _ _ _ _) (Below.refl _ _)
theorem Star.readsO (h : Star w0 w L) (i : Nat) (hi : L[i]? = some (RowO e size (.slice A n c) n xs)) : Reads w w.heap.size size A n xs := (h.rowO i hi).reads
theorem Star.cutO {k : Nat} (h : Star w0 w L) (i : Nat) (hi : L[i]? = some (RowO e size (.slice A n c) n xs)) (hk : k ≤ n) : Star w0 w (L.set i (RowO e size (.slice (if c = k then A else A.map (·.add (k * size))) (n - k) (c - k)) (n - k) (xs.drop (k * size)))) := by
  obtain ⟨F, ⟨ha, hF⟩, hin, hkk⟩ := h.at_ i hi
  subst hF
  refine hkk (F' := OwnB (.slice (if c = k then A else A.map (·.add (k * size))) (n - k) (c - k))) inferInstance ⟨ha.cut hk, rfl⟩ (Upd.refl _ _) fun j hj => .inl ?_
  by_cases he : c = k
  · rw [if_pos he] at hj
    cases A with
    | none => simp [OwnB, Value.ownBlock] at hj
    | some a => exact hj
  · rw [if_neg he] at hj
    cases A with
    | none => simp [OwnB, Value.ownBlock] at hj
    | some a =>
      simp only [OwnB, Option.map_some, Value.ownBlock, block_of_add] at hj ⊢
      exact hj
/-- A row's cells turned, its block alone. -/
theorem Star.turnO {xs' : List Value} (h : Star w0 w L) (i : Nat) (hi : L[i]? = some (RowO e size (.slice (some ⟨g, off, none⟩) n cap) n xs)) (ho : OwnO w w0.heap.size e size (.slice (some ⟨g, off, none⟩) n cap) n xs → OwnO w' w0.heap.size e size (.slice (some ⟨g, off, none⟩) n cap) n xs') (hu : Upd (Just g) w w') :
    Star w0 w' (L.set i (RowO e size (.slice (some ⟨g, off, none⟩) n cap) n xs')) := by
  obtain ⟨F, ⟨ha, hF⟩, hin, hk⟩ := h.at_ i hi
  subst hF
  exact hk inferInstance ⟨ho ha, rfl⟩ (hu.mono fun j _ hj => by rw [show j = g from hj]; rfl) (Grow.refl _ _)
theorem Star.setO (h : Star w0 w L) (i : Nat) (hi : L[i]? = some (RowO e size (.slice (some ⟨g, off, none⟩) n cap) n xs)) (j : Nat) (hj : j < n * size) (u : Value) : Star w0 (w.setCell ⟨g, off + j, none⟩ u) (L.set i (RowO e size (.slice (some ⟨g, off, none⟩) n cap) n (xs.set j u))) :=
  h.turnO i hi (fun ho => ho.stored j hj u) (upd_set _ _ _ _)
variable {ops : Array Oper} {rest : List Oper} {o : Oper} {a : Act} {Q : Exit → Act → World → Prop}
theorem wp_append_so {K : Act → World → Prop} (s x : Operand) (t : TypeId) (ho : o.op = .call { callee := .builtin .append, args := #[s, x], argTypes := #[t, t] })
    (h : Star w0 w L) (j : Nat) (hj : L[j]? = some (RowO e size v n xs)) (i : TypeInfo) (z : Value) (bytes : Nat) (ht : P.underlying t = some (.slice e)) (hi : P.info? e = some i) (hz : i.zero = some z)
    (hsize : i.size = size) (hby : i.bytes = bytes) (hzs : z.cells.size = size) (hsz : 0 < size) (hs : a.eval s = v)
    (B : Nat) (A : Option Addr) (m c : Nat) (news : List Value) (hx : a.eval x = .slice A m c) (hr : Reads w B size A m news) (h1 : ∀ u ∈ news, u.oneCell' = true)
    (h63 : n + m ≤ maxLen) (hbytes : (n + m) * bytes ≤ 140737488355328)
    (k : ∀ v' w', Star w0 w' (L.set j (RowO e size v' (n + m) (xs ++ news))) → K (a.put o.dst v') w') : o.wp P a w K Q := by
  obtain ⟨F, ⟨ha, hF⟩, hin, hk⟩ := h.at_ j hj
  subst hF
  obtain ⟨v', w', hrun, h2, h3, h4⟩ := run_append_off (P := P) t o.type i z bytes ht hi hz hsize hby hzs hsz ha B A m c news hr h1 h63 hbytes h.hb
  unfold Oper.wp execOp
  simp only [ho, resolve, invoke, builtin, Sem.run_bind, Sem.run_pure, Result.andThen_ok, List.map_toArray, List.map_cons, List.map_nil, hs, hx, hrun]
  exact k v' w' (hk inferInstance ⟨h2, rfl⟩ h3 h4)
theorem wpList_append_so (hgd : o.guard = none) (s x : Operand) (t : TypeId) (ho : o.op = .call { callee := .builtin .append, args := #[s, x], argTypes := #[t, t] })
    (h : Star w0 w L) (j : Nat) (hj : L[j]? = some (RowO e size v n xs)) (i : TypeInfo) (z : Value) (bytes : Nat) (ht : P.underlying t = some (.slice e)) (hi : P.info? e = some i) (hz : i.zero = some z)
    (hsize : i.size = size) (hby : i.bytes = bytes) (hzs : z.cells.size = size) (hsz : 0 < size) (hs : a.eval s = v)
    (B : Nat) (A : Option Addr) (m c : Nat) (news : List Value) (hx : a.eval x = .slice A m c) (hr : Reads w B size A m news) (h1 : ∀ u ∈ news, u.oneCell' = true)
    (h63 : n + m ≤ maxLen) (hbytes : (n + m) * bytes ≤ 140737488355328)
    (k : ∀ v' w', Star w0 w' (L.set j (RowO e size v' (n + m) (xs ++ news))) → wpList P ops Q rest (a.put o.dst v') w') : wpList P ops Q (o :: rest) a w :=
  wpList_plain hgd fun _ hK => wp_append_so s x t ho h j hj i z bytes ht hi hz hsize hby hzs hsz hs B A m c news hx hr h1 h63 hbytes fun v' w' h2 => hK _ _ (k v' w' h2)
theorem step_append_so {K : Act → World → Prop} {E : Prop} (hgd : o.guard = none) (s x : Operand) (t : TypeId) (ho : o.op = .call { callee := .builtin .append, args := #[s, x], argTypes := #[t, t] })
    (h : Star w0 w L) (j : Nat) (hj : L[j]? = some (RowO e size v n xs)) (i : TypeInfo) (z : Value) (bytes : Nat) (ht : P.underlying t = some (.slice e)) (hi : P.info? e = some i) (hz : i.zero = some z)
    (hsize : i.size = size) (hby : i.bytes = bytes) (hzs : z.cells.size = size) (hsz : 0 < size) (hs : a.eval s = v)
    (B : Nat) (A : Option Addr) (m c : Nat) (news : List Value) (hx : a.eval x = .slice A m c) (hr : Reads w B size A m news) (h1 : ∀ u ∈ news, u.oneCell' = true)
    (h63 : n + m ≤ maxLen) (hbytes : (n + m) * bytes ≤ 140737488355328)
    (k : ∀ v' w', Star w0 w' (L.set j (RowO e size v' (n + m) (xs ++ news))) → K (a.put o.dst v') w') : if Region.wanted o (yielded ops a.tmps) = true then Oper.wp P o a w K Q else E := by
  have hw : Region.wanted o (yielded ops a.tmps) = true := by simp [Region.wanted, hgd]
  rw [if_pos hw]
  exact wp_append_so s x t ho h j hj i z bytes ht hi hz hsize hby hzs hsz hs B A m c news hx hr h1 h63 hbytes k
end
end Go.Proofs.Ytojmhacafmpbgaa.Mem
