/- Rows with an offset: append in place, clear behind the end; objects taken together as one; objects in another order. -/
import Derived.Test.YtojmhacafmpbgaaOff
import Derived.Lib.SliceRun
namespace Go.Proofs.Ytojmhacafmpbgaa.Mem
open Go Go.RowKit
set_option linter.unusedVariables false
section
variable {P : Program} {w : World} {base n size g off cap : Nat} {e : TypeId} {xs : List Value}
theorem run_append_in (t ty : TypeId) (i : TypeInfo) (ht : P.underlying t = some (.slice e)) (hi : P.info? e = some i) (hsize : i.size = size) (h : OwnO w base e size (.slice (some ⟨g, off, none⟩) n cap) n xs)
    (B : Nat) (A : Option Addr) (m c : Nat) (news : List Value) (hr : Reads w B size A m news) (h1 : ∀ u ∈ news, u.oneCell' = true) (hroom : n + m ≤ cap) :
    ∃ w', (Builtin.append_ #[t, t] ty #[.slice (some ⟨g, off, none⟩) n cap, .slice A m c]).run P w = .ok (.slice (some ⟨g, off, none⟩) (n + m) cap) w' ∧ OwnO w' base e size (.slice (some ⟨g, off, none⟩) (n + m) cap) (n + m) (xs ++ news) ∧ Upd (Just g) w w' ∧ w'.heap.size = w.heap.size := by
  obtain ⟨hbg, hnc, hcm, cl, hg2, hl2, hx2⟩ := h.blk
  by_cases h0 : m = 0
  · subst h0
    obtain rfl : news = [] := List.eq_nil_of_length_eq_zero (by simpa using hr.1)
    refine ⟨w, ?_, by simpa using h, Upd.refl _ _, rfl⟩
    cases A <;> simp [Builtin.append_, run_underlying ht, sizeOf, typeInfo, hi, Builtin.lenOf, Builtin.firstCells, hnc, storeCells, loadCells, loadCellsFrom]
  · obtain ⟨ad, rfl, hadB, hc⟩ := hr.2 (by omega)
    have hle : n * size ≤ cap * size := Nat.mul_le_mul_right _ hnc
    have hlen : (xs ++ news).length = (n + m) * size := by rw [List.length_append, h.1, hr.1, Nat.add_mul]
    have hle2 : (n + m) * size ≤ cap * size := Nat.mul_le_mul_right _ hroom
    rw [Nat.add_mul, ← hr.1] at hle2
    have hth : ∀ j, j < news.length → (w.cell? ⟨g, off + n * size + j, none⟩).isSome = true ∧ w.frozen? ⟨g, off + n * size + j, none⟩ = false := fun j hj => by
      refine ⟨?_, frozen_of_row w g _ _ e hg2⟩
      rw [cell_of_row w g _ _ e (0, 0) hg2]
      simp
      omega
    have hrun := run_append_room_cells (P := P) w t ty e i ht hi g off n cap ad m c news (by rw [hr.1, hsize]) hc h1 hroom (fun j hj => by rw [hsize]; exact (hth j hj).1) (fun j hj => by rw [hsize]; exact (hth j hj).2)
    rw [hsize] at hrun
    have hsc := run_storeCells_cells (P := P) g (off + n * size) news 0 w (by simpa using fun j hj => (hth j hj).1) (by simpa using fun j hj => (hth j hj).2) h1
    have hst := run_storeCells_at P g (off + n * size) e news 0 cl.toArray w hg2 (by simp; omega) h1
    simp only [Nat.add_zero] at hsc hst
    rw [hst] at hsc
    injection hsc with _ hsc
    rw [← hsc] at hrun
    refine ⟨_, hrun, ⟨hlen, .inr ⟨g, off, cap, _, rfl, hbg, setRow_heap w g _ _ e _ hg2, hroom, hcm, ?_, ?_⟩⟩, upd_setRow w g _, by simp⟩
    · simp
      omega
    · refine List.ext_getElem? fun q => ?_
      have hsp : List.take (off + n * size) cl ++ news ++ List.drop (off + n * size + news.length) cl = splice cl (off + n * size) news := by simp [splice]
      rw [List.getElem?_take, List.getElem?_drop, ← hx2, hsp, splice_at _ _ _ (by omega), Nat.add_mul, ← hr.1]
      have hxl : ((cl.drop off).take (n * size)).length = n * size := by simp; omega
      by_cases a1 : q < n * size
      · rw [if_pos (by omega), if_pos (by omega), List.getElem?_append_left (by omega), List.getElem?_take, if_pos a1, List.getElem?_drop]
      · rw [List.getElem?_append_right (by omega), hxl]
        by_cases a2 : q < n * size + news.length
        · rw [if_pos a2, if_neg (by omega), if_pos (by omega)]
          congr 1
          omega
        · rw [if_neg a2, List.getElem?_eq_none (by omega)]
/-- 'clear(s[n:m])': what is owned stays. -/
theorem run_clear_off (t ty : TypeId) (z : Value) (ht : P.underlying t = some (.slice e)) (hv : ∀ w, (zeroValue e).run P w = .ok z w) (hz : z.cells.size = size) (h1 : ∀ u ∈ z.cells.toList, u.oneCell' = true)
    (h : OwnO w base e size (.slice (some ⟨g, off, none⟩) n cap) n xs) (k c : Nat) (hk : n + k ≤ cap) :
    ∃ w', (Builtin.clear_ #[t] ty #[.slice (some ⟨g, off + n * size, none⟩) k c]).run P w = .ok (.tuple #[]) w' ∧ OwnO w' base e size (.slice (some ⟨g, off, none⟩) n cap) n xs ∧ Upd (Just g) w w' ∧ w'.heap.size = w.heap.size := by
  obtain ⟨hbg, hnc, hcm, cl, hg2, hl2, hx2⟩ := h.blk
  by_cases h0 : k = 0
  · subst h0
    exact ⟨w, by simp [Builtin.clear_, run_underlying ht], h, Upd.refl _ _, rfl⟩
  · obtain ⟨m, rfl⟩ : ∃ m, k = m + 1 := ⟨k - 1, by omega⟩
    let news := (Builtin.zeroCells z.cells (m + 1)).toList
    have hnl : news.length = (m + 1) * size := by simp [news, size_zeroCells, hz]
    have hn1 : ∀ u ∈ news, u.oneCell' = true := fun u hu => by
      have hu2 : u ∈ Builtin.zeroCells z.cells (m + 1) := by simpa [news] using hu
      rw [Builtin.zeroCells] at hu2
      simp only [Array.mem_map] at hu2
      obtain ⟨q, hq, rfl⟩ := hu2
      have hq2 : q < (m + 1) * z.cells.size := by simpa using hq
      have hs0 : 0 < z.cells.size := Nat.pos_of_ne_zero (fun e0 => by rw [e0] at hq2; simp at hq2)
      have hlt : q % z.cells.size < z.cells.size := Nat.mod_lt _ hs0
      refine h1 _ ?_
      rw [getElem!_pos z.cells (q % z.cells.size) hlt]
      simp
    have hle2 : (n + (m + 1)) * size ≤ cap * size := Nat.mul_le_mul_right _ hk
    rw [Nat.add_mul, ← hnl] at hle2
    have hst := run_storeCells_at P g (off + n * size) e news 0 cl.toArray w hg2 (by simp; omega) hn1
    simp only [Nat.add_zero] at hst
    refine ⟨_, by simp [Builtin.clear_, run_underlying ht, hv, ← show news = (Builtin.zeroCells z.cells (m + 1)).toList from rfl, hst]; rfl, ?_, upd_setRow w g _, by simp⟩
    refine ⟨h.1, .inr ⟨g, off, cap, _, rfl, hbg, setRow_heap w g _ _ e _ hg2, hnc, hcm, ?_, ?_⟩⟩
    · simp
      omega
    · refine List.ext_getElem? fun q => ?_
      have hsp : List.take (off + n * size) cl ++ news ++ List.drop (off + n * size + news.length) cl = splice cl (off + n * size) news := by simp [splice]
      simp only [List.append_assoc] at hsp
      rw [List.getElem?_take, List.getElem?_drop, ← hx2, hsp, splice_at _ _ _ (by omega), List.getElem?_take, List.getElem?_drop]
      by_cases a1 : q < n * size
      · rw [if_pos a1, if_pos a1, if_pos (by omega)]
      · rw [if_neg a1, if_neg a1]
end
section
variable {P : Program} {w0 w : World} {L : List Asr} {n c g off size : Nat} {e : TypeId} {xs : List Value}
variable {ops : Array Oper} {rest : List Oper} {o : Oper} {a : Act} {Q : Exit → Act → World → Prop}
theorem step_append_in {K : Act → World → Prop} {E : Prop} (hgd : o.guard = none) (s x : Operand) (t : TypeId) (ho : o.op = .call { callee := .builtin .append, args := #[s, x], argTypes := #[t, t] })
    (h : Star w0 w L) (j : Nat) (hj : L[j]? = some (RowO e size (.slice (some ⟨g, off, none⟩) n c) n xs)) (i : TypeInfo) (ht : P.underlying t = some (.slice e)) (hi : P.info? e = some i)
    (hsize : i.size = size) (k : Nat) (hk : k ≤ n) (hs : a.eval s = .slice (some ⟨g, off, none⟩) k c)
    (B : Nat) (A : Option Addr) (m c' : Nat) (news : List Value) (hx : a.eval x = .slice A m c') (hr : Reads w B size A m news) (h1 : ∀ u ∈ news, u.oneCell' = true) (hroom : k + m ≤ c)
    (hK : ∀ w', Star w0 w' (L.set j (RowO e size (.slice (some ⟨g, off, none⟩) (k + m) c) (k + m) (xs.take (k * size) ++ news))) → K (a.put o.dst (.slice (some ⟨g, off, none⟩) (k + m) c)) w') : if Region.wanted o (yielded ops a.tmps) = true then Oper.wp P o a w K Q else E := by
  have hw : Region.wanted o (yielded ops a.tmps) = true := by simp [Region.wanted, hgd]
  rw [if_pos hw]
  obtain ⟨F, ⟨ha, hF⟩, hin, hkk⟩ := h.at_ j hj
  subst hF
  obtain ⟨w', hrun, h2, h3, h4⟩ := run_append_in (P := P) t o.type i ht hi hsize (ha.head hk) B A m c' news hr h1 hroom
  unfold Oper.wp execOp
  simp only [ho, resolve, invoke, builtin, Sem.run_bind, Sem.run_pure, Result.andThen_ok, List.map_toArray, List.map_cons, List.map_nil, hs, hx, hrun]
  exact hK w' (hkk inferInstance ⟨h2, rfl⟩ (h3.mono fun q _ hq => by rw [show q = g from hq]; rfl) (Grow.refl _ _))
theorem wpList_clear_off (hgd : o.guard = none) (s : Operand) (t : TypeId) (ho : o.op = .call { callee := .builtin .clear, args := #[s], argTypes := #[t] })
    (h : Star w0 w L) (j : Nat) (hj : L[j]? = some (RowO e size (.slice (some ⟨g, off, none⟩) n c) n xs)) (z : Value) (ht : P.underlying t = some (.slice e)) (hv : ∀ w, (zeroValue e).run P w = .ok z w) (hz : z.cells.size = size) (h1 : ∀ u ∈ z.cells.toList, u.oneCell' = true)
    (p : Nat) (hp : p = off + n * size) (k c' : Nat) (hs : a.eval s = .slice (some ⟨g, p, none⟩) k c') (hk : n + k ≤ c)
    (hK : ∀ w', Star w0 w' L → wpList P ops Q rest (a.put o.dst (.tuple #[])) w') : wpList P ops Q (o :: rest) a w := by
  obtain ⟨F, ⟨ha, hF⟩, hin, hkk⟩ := h.at_ j hj
  subst hF
  subst hp
  obtain ⟨w', hrun, h2, h3, h4⟩ := run_clear_off (P := P) t o.type z ht hv hz h1 ha k c' hk
  refine wpList_plain hgd fun _ hK' => ?_
  unfold Oper.wp execOp
  simp only [ho, resolve, invoke, builtin, Sem.run_bind, Sem.run_pure, Result.andThen_ok, List.map_toArray, List.map_cons, List.map_nil, hs, hrun]
  have := hkk (A' := RowO e size (.slice (some ⟨g, off, none⟩) n c) n xs) inferInstance ⟨h2, rfl⟩ (h3.mono fun q _ hq => by rw [show q = g from hq]; rfl) (Grow.refl _ _)
  rw [show L.set j (RowO e size (.slice (some ⟨g, off, none⟩) n c) n xs) = L from by
    rw [← (List.getElem?_eq_some_iff.1 hj).2]
    exact List.set_getElem_self _] at this
  exact hK' _ _ (hK w' this)
end
theorem val_perm {B : Nat} {w : World} {L L' : List Asr} (hp : L.Perm L') : ∀ Fs : List Blocks, Fs.length = L.length → (∀ (i : Nat) (A : Asr) (F : Blocks), L[i]? = some A → Fs[i]? = some F → A.Ok ∧ A B F w) →
    ∃ Fs' : List Blocks, Fs'.length = L'.length ∧ (∀ (i : Nat) (A : Asr) (F : Blocks), L'[i]? = some A → Fs'[i]? = some F → A.Ok ∧ A B F w) ∧ Fs.Perm Fs' := by
  induction hp with
  | nil => exact fun Fs hl h => ⟨Fs, hl, h, List.Perm.refl _⟩
  | cons A hp ih =>
    intro Fs hl h
    match Fs, hl with
    | F :: Gs, hl =>
      obtain ⟨Gs', h1, h2, h3⟩ := ih Gs (by simpa using hl) (fun i X G hi hG => h (i + 1) X G (by simpa using hi) (by simpa using hG))
      refine ⟨F :: Gs', by simp [h1], fun i X G hi hG => ?_, h3.cons F⟩
      cases i with
      | zero => exact h 0 X G (by simpa using hi) (by simpa using hG)
      | succ i => exact h2 i X G (by simpa using hi) (by simpa using hG)
  | swap A A' L =>
    intro Fs hl h
    match Fs, hl with
    | F :: G :: Hs, hl =>
      refine ⟨G :: F :: Hs, by simpa using hl, fun i X H hi hH => ?_, List.Perm.swap _ _ _⟩
      match i with
      | 0 => exact h 1 X H (by simpa using hi) (by simpa using hH)
      | 1 => exact h 0 X H (by simpa using hi) (by simpa using hH)
      | i + 2 => exact h (i + 2) X H (by simpa using hi) (by simpa using hH)
  | trans _ _ ih1 ih2 =>
    intro Fs hl h
    obtain ⟨Gs, h1, h2, h3⟩ := ih1 Fs hl h
    obtain ⟨Hs, h4, h5, h6⟩ := ih2 Gs h1 h2
    exact ⟨Hs, h4, h5, h3.trans h6⟩
theorem Star.perm {w0 w : World} {L L' : List Asr} (h : Star w0 w L) (hp : L.Perm L') : Star w0 w L' := by
  obtain ⟨hb, Fs, hsep, hl, hA⟩ := h
  obtain ⟨Gs, h1, h2, h3⟩ := val_perm hp Fs hl hA
  exact ⟨hb, Gs, ⟨fun G hG => hsep.in_ G (h3.mem_iff.2 hG), (h3.pairwise_iff (fun h => h.symm)).1 hsep.pair⟩, h1, h2⟩
/-- The first one goes to the end. -/
theorem Star.last {w0 w : World} {L : List Asr} {A : Asr} (h : Star w0 w (A :: L)) : Star w0 w (L ++ [A]) := h.perm (List.perm_append_comm (l₁ := [A]))
/-- The last one falls away. -/
theorem Star.unlast {w0 w : World} {L : List Asr} {A : Asr} (h : Star w0 w (L ++ [A])) : Star w0 w L := (h.perm (List.perm_append_comm (l₂ := [A]))).tail
/-- These objects taken as one. -/
def Grp (L : List Asr) : Asr := fun B F w => ∃ Fs : List Blocks, Sep B w Fs ∧ Fs.length = L.length ∧ (∀ (i : Nat) (A : Asr) (G : Blocks), L[i]? = some A → Fs[i]? = some G → A.Ok ∧ A B G w) ∧ ∀ k, F k ↔ ∃ G ∈ Fs, G k
instance (L : List Asr) : (Grp L).Ok where
  in_ := fun {B F w} ⟨Fs, hs, hl, hA, hF⟩ k hk => by
    obtain ⟨G, hG, hk⟩ := (hF k).1 hk
    exact hs.in_ G hG k hk
  keep := fun {B F G w w'} ⟨Fs, hs, hl, hA, hF⟩ hu hd => ⟨Fs, hs.size hu.size, hl, fun i A H hi hH => ⟨(hA i A H hi hH).1, (hA i A H hi hH).1.keep (hA i A H hi hH).2 hu (fun k hk => hd k ((hF k).2 ⟨H, List.mem_of_getElem? hH, hk⟩))⟩, hF⟩
/-- Some object out of many. -/
def ExA {α : Type} (P : α → Asr) : Asr := fun B F w => ∃ a, P a B F w
instance {α : Type} (P : α → Asr) [h : ∀ a, (P a).Ok] : (ExA P).Ok where
  in_ := fun ⟨a, ha⟩ => (h a).in_ ha
  keep := fun ⟨a, ha⟩ hu hd => ⟨a, (h a).keep ha hu hd⟩
section
variable {w0 w : World} {L S : List Asr}
theorem Star.open1 (h : Star w0 w (Grp L :: S)) : Star w0 w (L ++ S) := by
  obtain ⟨hb, Fs, hsep, hl, hA⟩ := h
  match Fs, hl with
  | F :: Gs, hl =>
    simp only [List.length_cons, Nat.add_right_cancel_iff] at hl
    obtain ⟨-, Hs, h1, h2, h3, h4⟩ := hA 0 (Grp L) F rfl rfl
    refine ⟨hb, Hs ++ Gs, ⟨fun G hG => ?_, List.pairwise_append.2 ⟨h1.pair, hsep.tail.pair, fun G hG G' hG' k hk hk' => ?_⟩⟩, by simp [h2, hl], fun i A G hi hG => ?_⟩
    · rcases List.mem_append.1 hG with h5 | h5
      · exact h1.in_ G h5
      · exact hsep.tail.in_ G h5
    · obtain ⟨j, hj⟩ := List.getElem?_of_mem hG'
      exact hsep.dis 0 (j + 1) rfl (by simpa using hj) (by omega) k ((h4 k).2 ⟨G, hG, hk⟩) hk'
    · by_cases hil : i < L.length
      · rw [List.getElem?_append_left hil] at hi
        rw [List.getElem?_append_left (by omega)] at hG
        exact h3 i A G hi hG
      · rw [List.getElem?_append_right (by omega)] at hi
        rw [List.getElem?_append_right (by omega), h2] at hG
        exact hA (i - L.length + 1) A G (by simpa using hi) (by simpa using hG)
theorem Star.close1 (h : Star w0 w (L ++ S)) : Star w0 w (Grp L :: S) := by
  obtain ⟨hb, Fs, hsep, hl, hA⟩ := h
  have e : Fs = Fs.take L.length ++ Fs.drop L.length := (List.take_append_drop _ _).symm
  rw [List.length_append] at hl
  have hs1 : Sep w0.heap.size w (Fs.take L.length ++ Fs.drop L.length) := by rw [← e]; exact hsep
  have hp := List.pairwise_append.1 hs1.pair
  refine ⟨hb, (fun k => ∃ G ∈ Fs.take L.length, G k) :: Fs.drop L.length, ⟨fun G hG => ?_, List.pairwise_cons.2 ⟨fun G hG k ⟨H, hH, hk⟩ hk' => hp.2.2 H hH G hG k hk hk', hp.2.1⟩⟩, by simp; omega, fun i A G hi hG => ?_⟩
  · rcases List.mem_cons.1 hG with rfl | h5
    · exact fun k ⟨H, hH, hk⟩ => hsep.in_ H (List.mem_of_mem_take hH) k hk
    · exact hsep.in_ G (List.mem_of_mem_drop h5)
  · cases i with
    | zero =>
      simp only [List.getElem?_cons_zero, Option.some.injEq] at hi hG
      subst hi hG
      refine ⟨inferInstance, Fs.take L.length, ⟨fun G hG => hsep.in_ G (List.mem_of_mem_take hG), hp.1⟩, by simp; omega, fun i A G hi hG => ?_, fun k => Iff.rfl⟩
      have hil := (List.getElem?_eq_some_iff.1 hi).1
      rw [List.getElem?_take, if_pos hil] at hG
      exact hA i A G (by rw [List.getElem?_append_left hil]; exact hi) hG
    | succ i =>
      simp only [List.getElem?_cons_succ] at hi hG
      rw [List.getElem?_drop] at hG
      exact hA (L.length + i) A G (by rw [List.getElem?_append_right (by omega), Nat.add_sub_cancel_left]; exact hi) hG
theorem Star.front {A : Asr} (h : Star w0 w L) (i : Nat) (hi : L[i]? = some A) : Star w0 w (A :: (L.take i ++ L.drop (i + 1))) := by
  refine h.perm ?_
  have hlt := (List.getElem?_eq_some_iff.1 hi).1
  have e : L = L.take i ++ A :: L.drop (i + 1) := by rw [← (List.getElem?_eq_some_iff.1 hi).2, ← List.drop_eq_getElem_cons hlt, List.take_append_drop]
  conv => lhs; rw [e]
  exact List.perm_middle
theorem Star.back {A A' : Asr} (i : Nat) (hi : L[i]? = some A) {N : List Asr} (h : Star w0 w (N ++ A' :: (L.take i ++ L.drop (i + 1)))) : Star w0 w (N ++ L.set i A') := by
  refine h.perm (List.Perm.append_left N ?_)
  have hlt := (List.getElem?_eq_some_iff.1 hi).1
  rw [List.set_eq_take_append_cons_drop, if_pos hlt]
  exact List.perm_middle.symm
theorem Star.exOpen {α : Type} {Q : α → List Asr} (h : Star w0 w (ExA (fun a => Grp (Q a)) :: S)) : ∃ a, Star w0 w (Q a ++ S) := by
  obtain ⟨hb, Fs, hsep, hl, hA⟩ := h
  match Fs, hl with
  | F :: Gs, hl =>
    obtain ⟨-, a, ha⟩ := hA 0 (ExA fun a => Grp (Q a)) F rfl rfl
    refine ⟨a, Star.open1 ⟨hb, F :: Gs, hsep, by simpa using hl, fun i A G hi hG => ?_⟩⟩
    cases i with
    | zero =>
      simp only [List.getElem?_cons_zero, Option.some.injEq] at hi hG
      subst hi hG
      exact ⟨inferInstance, ha⟩
    | succ i => exact hA (i + 1) A G (by simpa using hi) (by simpa using hG)
theorem Star.exClose {α : Type} {Q : α → List Asr} (a : α) (h : Star w0 w (Q a ++ S)) : Star w0 w (ExA (fun a => Grp (Q a)) :: S) := by
  obtain ⟨hb, Fs, hsep, hl, hA⟩ := h.close1
  match Fs, hl with
  | F :: Gs, hl =>
    refine ⟨hb, F :: Gs, hsep, by simpa using hl, fun i A G hi hG => ?_⟩
    cases i with
    | zero =>
      simp only [List.getElem?_cons_zero, Option.some.injEq] at hi hG
      subst hi hG
      exact ⟨inferInstance, a, (hA 0 _ F rfl rfl).2⟩
    | succ i => exact hA (i + 1) A G (by simpa using hi) (by simpa using hG)
theorem Star.exCloseN {α : Type} {Q : α → List Asr} {N : List Asr} (a : α) (h : Star w0 w (N ++ (Q a ++ S))) : Star w0 w (N ++ ExA (fun a => Grp (Q a)) :: S) := by
  have h1 : Star w0 w (Q a ++ (N ++ S)) := h.perm (by
    rw [← List.append_assoc, ← List.append_assoc]
    exact List.Perm.append_right S List.perm_append_comm)
  exact (Star.exClose a h1).perm List.perm_middle.symm
end
/-- A call on one object among others; new ones come ahead. -/
theorem ex_call {P : Program} {f : FuncId} {args : Array Value} {w0 w : World} {L : List Asr} {α β : Type} {Q : α → List Asr} {Q' : β → List Asr} {R : Ending → List Asr → Prop} (h : Star w0 w L) (i : Nat) (hi : L[i]? = some (ExA fun a => Grp (Q a)))
    (hc : ∀ a S, Star w0 w (Q a ++ S) → Calls P f args w fun e w' => ∃ N b, R e N ∧ Star w0 w' (N ++ (Q' b ++ S))) :
    Calls P f args w fun e w' => ∃ N, R e N ∧ Star w0 w' (N ++ L.set i (ExA fun b => Grp (Q' b))) := by
  obtain ⟨a, ha⟩ := (h.front i hi).exOpen
  refine (hc a _ ha).mono ?_
  rintro e w' ⟨N, b, hr, hs⟩
  exact ⟨N, hr, Star.back i hi (Star.exCloseN b hs)⟩
theorem ex_open {w0 w : World} {L : List Asr} {α : Type} {Q : α → List Asr} (h : Star w0 w L) (i : Nat) (hi : L[i]? = some (ExA fun a => Grp (Q a))) : ∃ a S, Star w0 w (Q a ++ S) := by
  obtain ⟨a, ha⟩ := (h.front i hi).exOpen
  exact ⟨a, _, ha⟩
end Go.Proofs.Ytojmhacafmpbgaa.Mem
