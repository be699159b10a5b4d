/- Contracts of package lists: what lists are in memory; tie, join, check, Where, First, Len. -/
import Derived.Test.YtfahhjbbbimjfaaLiA
import Derived.Test.YtfahhjbbbimjfaaStar
import Derived.Test.YtfahhjbbbimjfaaProg
import Derived.Deep.QuietTactic
import Derived.BigQuiet
import Derived.ProofKit
import Derived.Outline
namespace Go.Proofs.Ytfahhjbbbimjfaa.Li
open Go Go.RowKit Go.Proofs.Ytfahhjbbbimjfaa.Mem
set_option linter.unusedVariables false
set_option linter.unusedSimpArgs false
def qC (x : Qn) : List Value := [.int .i64 x.f, .int .i64 x.l, .int .i64 x.c]
def lC (x : Lk) : List Value := [.int .i64 x.q, .int .i64 x.n, .int .i64 x.p]
def qCs (l : List Qn) : List Value := (l.map qC).flatten
def lCs (l : List Lk) : List Value := (l.map lC).flatten
theorem q_rows (l : List Qn) : ∀ r ∈ l.map qC, r.length = 3 := fun r hr => by obtain ⟨x, _, rfl⟩ := List.mem_map.1 hr; rfl
theorem l_rows (l : List Lk) : ∀ r ∈ l.map lC, r.length = 3 := fun r hr => by obtain ⟨x, _, rfl⟩ := List.mem_map.1 hr; rfl
/-- The lists behind the pointer b. -/
structure Lm (w : World) (B b gq gl : Nat) (qs : List Qn) (ls : List Lk) : Prop where
  base : B ≤ b
  blk : Blk w b 53 #[.slice (some ⟨gq, 0, none⟩) qs.length qs.length, .slice (some ⟨gl, 0, none⟩) ls.length ls.length]
  q : w.ownsRow B 55 3 (.slice (some ⟨gq, 0, none⟩) qs.length qs.length) qs.length (qCs qs)
  l : w.ownsRow B 57 3 (.slice (some ⟨gl, 0, none⟩) ls.length ls.length) ls.length (lCs ls)
def fl (b gq gl : Nat) (k : Nat) : Prop := k = b ∨ k = gq ∨ k = gl
section
variable {w w' : World} {B b gq gl : Nat} {qs : List Qn} {ls : List Lk}
theorem Lm.bq (h : Lm w B b gq gl qs ls) : gq ≠ b := fun e => own_blk_ne h.q h.blk (by decide) (by simp [Value.ownBlock, e])
theorem Lm.bl (h : Lm w B b gq gl qs ls) : gl ≠ b := fun e => own_blk_ne h.l h.blk (by decide) (by simp [Value.ownBlock, e])
theorem Lm.ql (h : Lm w B b gq gl qs ls) : gq ≠ gl := fun e => own_own_ne h.q h.l (by decide) (g := gq) (by simp [Value.ownBlock]) (by simp [Value.ownBlock, e])
theorem Lm.upd {F : Nat → Prop} (h : Lm w B b gq gl qs ls) (hu : Upd F w w') (hF : ∀ k, fl b gq gl k → ¬ F k) : Lm w' B b gq gl qs ls :=
  ⟨h.base, h.blk.upd hu (hF b (.inl rfl)), own_upd h.q hu (fun g hg => by
    have e : gq = g := by simpa [Value.ownBlock] using hg
    exact e ▸ hF gq (.inr (.inl rfl))), own_upd h.l hu (fun g hg => by
    have e : gl = g := by simpa [Value.ownBlock] using hg
    exact e ▸ hF gl (.inr (.inr rfl)))⟩
theorem Lm.below (h : Lm w B b gq gl qs ls) (hb : Below w.heap.size w w') : Lm w' B b gq gl qs ls := h.upd (Upd.of_below hb (fun _ => False)) (fun _ _ h => h)
theorem Lm.drewN (h : Lm w B b gq gl qs ls) (n : Nat) : Lm (w.drewN n) B b gq gl qs ls := ⟨h.base, h.blk, h.q, h.l⟩
theorem Lm.lt (h : Lm w B b gq gl qs ls) {k : Nat} (hk : fl b gq gl k) : B ≤ k ∧ k < w.heap.size := by
  rcases hk with rfl | rfl | rfl
  · exact ⟨h.base, h.blk.lt⟩
  · exact h.q.lt _ (by simp [Value.ownBlock])
  · exact h.l.lt _ (by simp [Value.ownBlock])
theorem Lm.qcell (h : Lm w B b gq gl qs ls) {q : Nat} {x : Qn} (hx : qs[q]? = some x) : w.cell? ⟨gq, q * 3, none⟩ = some (.int .i64 x.f) ∧ w.cell? ⟨gq, q * 3 + 1, none⟩ = some (.int .i64 x.l) ∧ w.cell? ⟨gq, q * 3 + 2, none⟩ = some (.int .i64 x.c) := by
  have hlt := (List.getElem?_eq_some_iff.1 hx).1
  have hc : ∀ j, j < 3 → w.cell? ⟨gq, q * 3 + j, none⟩ = (qC x)[j]? := fun j hj => by
    rw [h.q.cellAt _ (by omega)]
    exact flat_at (qs.map qC) 3 q j (qC x) (q_rows qs) (by simp [hx]) hj
  exact ⟨hc 0 (by omega), hc 1 (by omega), hc 2 (by omega)⟩
theorem Lm.lcell (h : Lm w B b gq gl qs ls) {q : Nat} {x : Lk} (hx : ls[q]? = some x) : w.cell? ⟨gl, q * 3, none⟩ = some (.int .i64 x.q) ∧ w.cell? ⟨gl, q * 3 + 1, none⟩ = some (.int .i64 x.n) ∧ w.cell? ⟨gl, q * 3 + 2, none⟩ = some (.int .i64 x.p) := by
  have hlt := (List.getElem?_eq_some_iff.1 hx).1
  have hc : ∀ j, j < 3 → w.cell? ⟨gl, q * 3 + j, none⟩ = (lC x)[j]? := fun j hj => by
    rw [h.l.cellAt _ (by omega)]
    exact flat_at (ls.map lC) 3 q j (lC x) (l_rows ls) (by simp [hx]) hj
  exact ⟨hc 0 (by omega), hc 1 (by omega), hc 2 (by omega)⟩
theorem Lm.setQ (h : Lm w B b gq gl qs ls) {q j : Nat} {x x' : Qn} (hx : qs[q]? = some x) (hj : j < 3) {u : Value} (hu : (qC x).set j u = qC x') : Lm (w.setCell ⟨gq, q * 3 + j, none⟩ u) B b gq gl (qs.set q x') ls := by
  have hlt := (List.getElem?_eq_some_iff.1 hx).1
  refine ⟨h.base, ?_, ?_, own_keep h.l (upd_set _ _ _ _) (fun k hk e => h.ql (by
    have : gl = k := by simpa [OwnB, Value.ownBlock] using hk
    rw [this, show k = gq from e]))⟩
  · rw [List.length_set]; exact h.blk.far (p := ⟨gq, q * 3 + j, none⟩) (fun e => h.bq e.symm) u
  · have := (h.q.stored (q * 3 + j) u).1
    rw [List.length_set]
    have e : (qCs qs).set (q * 3 + j) u = qCs (qs.set q x') := by
      unfold qCs
      rw [set_flat (q_rows qs) (r := qC x) (by simp [hx]) hj, hu, List.map_set]
    rw [e] at this
    exact this
theorem Lm.setL (h : Lm w B b gq gl qs ls) {q j : Nat} {x x' : Lk} (hx : ls[q]? = some x) (hj : j < 3) {u : Value} (hu : (lC x).set j u = lC x') : Lm (w.setCell ⟨gl, q * 3 + j, none⟩ u) B b gq gl qs (ls.set q x') := by
  have hlt := (List.getElem?_eq_some_iff.1 hx).1
  refine ⟨h.base, ?_, own_keep h.q (upd_set _ _ _ _) (fun k hk e => h.ql (by
    have : gq = k := by simpa [OwnB, Value.ownBlock] using hk
    rw [this, show k = gl from e])), ?_⟩
  · rw [List.length_set]; exact h.blk.far (p := ⟨gl, q * 3 + j, none⟩) (fun e => h.bl e.symm) u
  · have := (h.l.stored (q * 3 + j) u).1
    rw [List.length_set]
    have e : (lCs ls).set (q * 3 + j) u = lCs (ls.set q x') := by
      unfold lCs
      rw [set_flat (l_rows ls) (r := lC x) (by simp [hx]) hj, hu, List.map_set]
    rw [e] at this
    exact this
theorem Lm.turnL (h : Lm w B b gq gl qs ls) {q : Nat} {x x' : Lk} (hx : ls[q]? = some x) (ho : w'.ownsRow B 57 3 (.slice (some ⟨gl, 0, none⟩) ls.length ls.length) ls.length (splice (lCs ls) (q * 3) (lC x'))) (hu : Upd (Just gl) w w') : Lm w' B b gq gl qs (ls.set q x') := by
  refine ⟨h.base, ?_, own_keep h.q hu (fun k hk e => h.ql (by
    have : gq = k := by simpa [OwnB, Value.ownBlock] using hk
    rw [this, show k = gl from e])), ?_⟩
  · rw [List.length_set]; exact h.blk.upd hu (fun e => h.bl (by rw [show b = gl from e]))
  · rw [List.length_set]
    have e : splice (lCs ls) (q * 3) (lC x') = lCs (ls.set q x') := by
      unfold lCs
      have := splice_flat (ls.map lC) 3 q 0 (lC x) (lC x') (l_rows ls) (by simp [hx]) (by simp [lC])
      rw [Nat.add_zero, splice_all (lC x) (lC x') rfl] at this
      rw [this, List.map_set]
    rw [← e]
    exact ho
theorem Lm.turnQ (h : Lm w B b gq gl qs ls) {q : Nat} {x x' : Qn} (hx : qs[q]? = some x) (ho : w'.ownsRow B 55 3 (.slice (some ⟨gq, 0, none⟩) qs.length qs.length) qs.length (splice (qCs qs) (q * 3) (qC x'))) (hu : Upd (Just gq) w w') : Lm w' B b gq gl (qs.set q x') ls := by
  refine ⟨h.base, ?_, ?_, own_keep h.l hu (fun k hk e => h.ql (by
    have : gl = k := by simpa [OwnB, Value.ownBlock] using hk
    rw [this, show k = gq from e]))⟩
  · rw [List.length_set]; exact h.blk.upd hu (fun e => h.bq (by rw [show b = gq from e]))
  · rw [List.length_set]
    have e : splice (qCs qs) (q * 3) (qC x') = qCs (qs.set q x') := by
      unfold qCs
      have := splice_flat (qs.map qC) 3 q 0 (qC x) (qC x') (q_rows qs) (by simp [hx]) (by simp [qC])
      rw [Nat.add_zero, splice_all (qC x) (qC x') rfl] at this
      rw [this, List.map_set]
    rw [← e]
    exact ho
theorem upd_fl {g o : Nat} {u : Value} {W : World} (h : Upd (fl b gq gl) w W) (hg : fl b gq gl g) : Upd (fl b gq gl) w (W.setCell ⟨g, o, none⟩ u) := h.setCell (p := ⟨g, o, none⟩) (fun _ => hg) u
end
section
variable {w w' : World} {B b gq gl : Nat} {qs : List Qn} {ls : List Lk}
/-- The first store of a tie. -/
theorem Lm.nx (h : Lm w B b gq gl qs ls) {z : Nat} (hz : z < ls.length) (n : Int) : Lm (w.setCell ⟨gl, z * 3 + 1, none⟩ (.int .i64 n)) B b gq gl qs (setNx ls z n) := by
  have hx : ls[z]? = some ls[z] := List.getElem?_eq_getElem hz
  have := h.setL (j := 1) (u := .int .i64 n) (x' := ⟨(ls[z]).q, n, (ls[z]).p⟩) hx (by omega) rfl
  unfold setNx
  rw [gL_at hx, Int.toNat_natCast]
  exact this
theorem Lm.pv (h : Lm w B b gq gl qs ls) {z : Nat} (hz : z < ls.length) (n : Int) : Lm (w.setCell ⟨gl, z * 3 + 2, none⟩ (.int .i64 n)) B b gq gl qs (setPv ls z n) := by
  have hx : ls[z]? = some ls[z] := List.getElem?_eq_getElem hz
  have := h.setL (j := 2) (u := .int .i64 n) (x' := ⟨(ls[z]).q, (ls[z]).n, n⟩) hx (by omega) rfl
  unfold setPv
  rw [gL_at hx, Int.toNat_natCast]
  exact this
theorem Lm.ff (h : Lm w B b gq gl qs ls) {q : Nat} (hq : q < qs.length) (n : Int) : Lm (w.setCell ⟨gq, q * 3, none⟩ (.int .i64 n)) B b gq gl (setF qs q n) ls := by
  have hx : qs[q]? = some qs[q] := List.getElem?_eq_getElem hq
  have := h.setQ (j := 0) (u := .int .i64 n) (x' := ⟨n, (qs[q]).l, (qs[q]).c⟩) hx (by omega) rfl
  unfold setF
  rw [gQ_at hx]
  exact this
theorem Lm.la (h : Lm w B b gq gl qs ls) {q : Nat} (hq : q < qs.length) (n : Int) : Lm (w.setCell ⟨gq, q * 3 + 1, none⟩ (.int .i64 n)) B b gq gl (setLa qs q n) ls := by
  have hx : qs[q]? = some qs[q] := List.getElem?_eq_getElem hq
  have := h.setQ (j := 1) (u := .int .i64 n) (x' := ⟨(qs[q]).f, n, (qs[q]).c⟩) hx (by omega) rfl
  unfold setLa
  rw [gQ_at hx]
  exact this
theorem Lm.ac (h : Lm w B b gq gl qs ls) {q : Nat} (hq : q < qs.length) (d : Int) : Lm (w.setCell ⟨gq, q * 3 + 2, none⟩ (.int .i64 ((gQ qs q).c + d))) B b gq gl (addC qs q d) ls := by
  have hx : qs[q]? = some qs[q] := List.getElem?_eq_getElem hq
  have := h.setQ (j := 2) (u := .int .i64 ((qs[q]).c + d)) (x' := ⟨(qs[q]).f, (qs[q]).l, (qs[q]).c + d⟩) hx (by omega) rfl
  unfold addC
  rw [gQ_at hx]
  exact this
def inL (ls : List Lk) (z : Int) : Prop := z = -1 ∨ ∃ k : Nat, z = k ∧ k < ls.length
set_option maxHeartbeats 2000000 in
theorem tie_any (h : Lm w B b gq gl qs ls) {q : Nat} (hq : q < qs.length) {prev next : Int} (hp : inL ls prev) (hn : inL ls next) : Calls Try.prog 31 #[.pointer (some ⟨b, 0, none⟩), .int .i64 q, .int .i64 prev, .int .i64 next] w fun e w' =>
    (∃ v, e = .returned v) ∧ Lm w' B b gq gl (qsT qs q prev next) (lsT ls prev next) ∧ Upd (fl b gq gl) w w' ∧ w'.heap.size = w.heap.size := by
  unfold qsT lsT
  have c0 : w.cell? ⟨b, 0, none⟩ = some (.slice (some ⟨gq, 0, none⟩) qs.length qs.length) := h.blk.cellv rfl
  have c1 : w.cell? ⟨b, 1, none⟩ = some (.slice (some ⟨gl, 0, none⟩) ls.length ls.length) := h.blk.cellv rfl
  have hqi : (q : Int) < qs.length := by omega
  obtain ⟨k0, k1, k2⟩ := h.qcell (List.getElem?_eq_getElem hq)
  have f0 := fun o => h.q.frozenAt o
  have f1 := fun o => h.l.frozenAt o
  have hu0 := Upd.refl (fl b gq gl) w
  rcases hp with rfl | ⟨z, rfl, hz⟩
  · have h1 := h.ff hq next
    have hu1 := upd_fl (o := q * 3) (u := .int .i64 next) hu0 (.inr (.inl rfl))
    have d0 : (w.setCell ⟨gq, q * 3, none⟩ (.int .i64 next)).cell? ⟨b, 0, none⟩ = some (.slice (some ⟨gq, 0, none⟩) qs.length qs.length) := by have := h1.blk.cellv (i := 0) rfl; simpa [setF] using this
    have d1 : (w.setCell ⟨gq, q * 3, none⟩ (.int .i64 next)).cell? ⟨b, 1, none⟩ = some (.slice (some ⟨gl, 0, none⟩) ls.length ls.length) := h1.blk.cellv (i := 1) rfl
    have g0 := fun o => h1.q.frozenAt o
    have g1 := fun o => h1.l.frozenAt o
    have hq1 : q < (setF qs q next).length := by simpa [setF] using hq
    obtain ⟨-, m1, -⟩ := h1.qcell (List.getElem?_eq_getElem hq1)
    rcases hn with rfl | ⟨y, rfl, hy⟩
    · have HS := Lib.hid (h1.la hq1 (-1))
      have HU := Lib.hid (upd_fl (o := q * 3 + 1) (u := .int .i64 (-1)) hu1 (.inr (.inl rfl)))
      clear h h1 hu0 hu1
      simp only [if_true]
      go_enter Try.func31, Try.ntmps31
      go_wp2
      go_end0
      exact ⟨⟨_, rfl⟩, HS.out, HU.out, by simp⟩
    · have hyi : (y : Int) < ls.length := by omega
      have hyn : ((y : Int) == -1) = false := beq_eq_false_iff_ne.mpr (by omega)
      obtain ⟨-, -, n2⟩ := h1.lcell (List.getElem?_eq_getElem hy)
      have HS := Lib.hid (h1.pv hy (-1))
      have HU := Lib.hid (upd_fl (o := y * 3 + 2) (u := .int .i64 (-1)) hu1 (.inr (.inr rfl)))
      clear h h1 hu0 hu1
      simp only [if_true, if_neg (show ¬ (y : Int) = -1 by omega)]
      go_enter Try.func31, Try.ntmps31
      go_wp2
      go_end0
      exact ⟨⟨_, rfl⟩, HS.out, HU.out, by simp⟩
  · have hzi : (z : Int) < ls.length := by omega
    have hzn : ((z : Int) == -1) = false := beq_eq_false_iff_ne.mpr (by omega)
    obtain ⟨-, n1, -⟩ := h.lcell (List.getElem?_eq_getElem hz)
    have h1 := h.nx hz next
    have hu1 := upd_fl (o := z * 3 + 1) (u := .int .i64 next) hu0 (.inr (.inr rfl))
    have d0 : (w.setCell ⟨gl, z * 3 + 1, none⟩ (.int .i64 next)).cell? ⟨b, 0, none⟩ = some (.slice (some ⟨gq, 0, none⟩) qs.length qs.length) := h1.blk.cellv (i := 0) rfl
    have d1 : (w.setCell ⟨gl, z * 3 + 1, none⟩ (.int .i64 next)).cell? ⟨b, 1, none⟩ = some (.slice (some ⟨gl, 0, none⟩) ls.length ls.length) := by have := h1.blk.cellv (i := 1) rfl; simpa [setNx] using this
    have g0 := fun o => h1.q.frozenAt o
    have g1 := fun o => h1.l.frozenAt o
    obtain ⟨-, m1, -⟩ := h1.qcell (List.getElem?_eq_getElem hq)
    rcases hn with rfl | ⟨y, rfl, hy⟩
    · have HS := Lib.hid (h1.la hq z)
      have HU := Lib.hid (upd_fl (o := q * 3 + 1) (u := .int .i64 z) hu1 (.inr (.inl rfl)))
      clear h h1 hu0 hu1
      simp only [if_true, if_neg (show ¬ (z : Int) = -1 by omega)]
      go_enter Try.func31, Try.ntmps31
      go_wp2
      go_end0
      exact ⟨⟨_, rfl⟩, HS.out, HU.out, by simp⟩
    · have hyi : (y : Int) < ls.length := by omega
      have hyn : ((y : Int) == -1) = false := beq_eq_false_iff_ne.mpr (by omega)
      have hy1 : y < (setNx ls z y).length := by rw [len_setNx]; exact hy
      obtain ⟨-, -, n2⟩ := h1.lcell (List.getElem?_eq_getElem hy1)
      have HS := Lib.hid (h1.pv hy1 z)
      have HU := Lib.hid (upd_fl (o := y * 3 + 2) (u := .int .i64 z) hu1 (.inr (.inr rfl)))
      clear h h1 hu0 hu1
      simp only [if_neg (show ¬ (z : Int) = -1 by omega), if_neg (show ¬ (y : Int) = -1 by omega)]
      go_enter Try.func31, Try.ntmps31
      go_wp2
      go_end0
      exact ⟨⟨_, rfl⟩, HS.out, HU.out, by simp⟩
end
end Go.Proofs.Ytfahhjbbbimjfaa.Li
