/- The queue's iterator; List; Pop. -/
import Derived.RangeFuncNested
import Derived.RangeFuncBound
import Derived.RangeFuncCalls
import Derived.RangeFuncLeaves
import Derived.RangeFuncBox
import Derived.Shelf.Abstract
import Derived.Shelf.RegionOpen
import Derived.WalkKit
import Derived.OwnWalkIn
import Derived.TacticsInMore
import Derived.LoopNIn
import Derived.LoopIn
import Derived.Maps.AppendAt
import Derived.Test.YtfahhjbbbimjfaaLiF
namespace Go.Proofs.Ytfahhjbbbimjfaa.Li
open Go Go.RowKit Go.Shelf Go.Proofs.Ytfahhjbbbimjfaa.Mem
set_option linter.unusedVariables false
set_option linter.unusedSimpArgs false
attribute [local go_sem] Oper.semAt_some
theorem Lm.belowN {w w' : World} {B b gq gl n₀ : Nat} {qs : List Qn} {ls : List Lk} (h : Lm w B b gq gl qs ls) (hn : ∀ k, fl b gq gl k → k < n₀) (hb : Below n₀ w w') : Lm w' B b gq gl qs ls :=
  ⟨h.base, (hb.block b (hn b (.inl rfl))).trans h.blk, own_upd h.q (⟨hb.os, hb.tape, hb.output, hb.size, fun k hk hF => hb.block k (by
    have : k < n₀ := Decidable.byContradiction fun hx => hF (show n₀ ≤ k by omega)
    exact this)⟩ : Upd (fun k => n₀ ≤ k) w w') (fun g hg => by
    have e : gq = g := by simpa [Value.ownBlock] using hg
    have := hn gq (.inr (.inl rfl))
    show ¬ n₀ ≤ g
    omega), own_upd h.l (⟨hb.os, hb.tape, hb.output, hb.size, fun k hk hF => hb.block k (by
    have : k < n₀ := Decidable.byContradiction fun hx => hF (show n₀ ≤ k by omega)
    exact this)⟩ : Upd (fun k => n₀ ≤ k) w w') (fun g hg => by
    have e : gl = g := by simpa [Value.ownBlock] using hg
    have := hn gl (.inr (.inr rfl))
    show ¬ n₀ ≤ g
    omega)⟩
/-- What a round keeps: all below n₀, and block Bn. -/
def KpB (n₀ Bn : Nat) (w w' : World) : Prop := Below n₀ w w' ∧ w'.heap[Bn]? = w.heap[Bn]?
theorem KpB.t {n₀ Bn : Nat} {A B C : World} (h : KpB n₀ Bn A B) (k : KpB n₀ Bn B C) : KpB n₀ Bn A C := ⟨h.1.trans k.1, k.2.trans h.2⟩
theorem KpB.b {n₀ Bn : Nat} {w : World} (hn : n₀ ≤ w.heap.size) (hB : Bn < w.heap.size) (W : World) (l : Nat) (o o' : Obj) (hl : w.heap.size ≤ l) (h : W.heap[l]? = some o) (h1 : o.isCells = false) (h2 : o.isWalk = false) : KpB n₀ Bn W (W.putObj l o') :=
  ⟨belowK_b hn W l o o' hl h h1 h2, by
    have hlt := (Array.getElem?_eq_some_iff.1 h).1
    exact (grownBy_putObj' W l o').block Bn (by omega) (fun e => by cases e; omega)⟩
theorem KpB.cell {n₀ Bn : Nat} {w w' : World} (h : KpB n₀ Bn w w') (o : Nat) : w'.cell? ⟨Bn, o, none⟩ = w.cell? ⟨Bn, o, none⟩ := World.cell?_of_block h.2
def intsN (l : List Nat) : List Value := l.map (fun (x : Nat) => Value.int .i64 (x : Int))
theorem idx_mid : ∀ (a c : List Nat) (y : Nat), y ∉ a → (a ++ y :: c).idxOf y = a.length
  | [], c, y, _ => by simp
  | x :: a, c, y, h => by
    simp only [List.mem_cons, not_or] at h
    rw [List.cons_append, List.idxOf_cons, List.length_cons, idx_mid a c y h.2]
    have : (x == y) = false := beq_eq_false_iff_ne.mpr (fun e => h.1 e.symm)
    rw [this]
    rfl
def rem (l : List Nat) (i : Int) : Nat := if i = -1 then 0 else l.length - l.idxOf i.toNat
theorem rem_at {a c : List Nat} {y : Nat} (h : (a ++ y :: c).Nodup) : rem (a ++ y :: c) y = c.length + 1 := by
  unfold rem
  rw [if_neg (by omega), Int.toNat_natCast, idx_mid a c y (fun hm => (List.nodup_append.1 h).2.2 y hm y (by simp) rfl)]
  simp
theorem rem_hd {a c : List Nat} (h : (a ++ c).Nodup) : rem (a ++ c) (hdI c (-1)) = c.length := by
  cases c with
  | nil => rfl
  | cons y c => exact rem_at h
set_option maxRecDepth 100000 in
set_option maxHeartbeats 4000000 in
theorem items1_in (n : Nat) (hn : 1 ≤ n) (l Bn Bq n₀ B b gq gl : Nat) (qs : List Qn) (ls : List Lk) (q : Int) (lq : List Nat) (hfi : firstC qs q = hdI lq (-1)) (hsg : ∃ k, Seg ls k (-1) lq (-1)) (hnd : lq.Nodup) (J Jx : List Nat → World → Prop)
    (hY : ∀ pre (x : Nat) W, J pre W → pre.length < lq.length → YieldAt Fence.wide (n - 1) Try.prog l #[.int .i64 x] W fun e W' =>
      (e = .returned (.bool true) ∧ J (pre ++ [x]) W' ∧ KpB n₀ Bn W W') ∨ (e = .returned (.bool false) ∧ Jx (pre ++ [x]) W'))
    (W : World) (hBn : W.cell? ⟨Bn, 0, none⟩ = some (.pointer (some ⟨b, 0, none⟩))) (hBq : W.cell? ⟨Bq, 0, none⟩ = some (.int .i64 q)) (hL : Lm W B b gq gl qs ls) (hfl : ∀ k, fl b gq gl k → k < n₀) (h0 : J [] W) :
    CallsIn Fence.wide n Try.prog 33 #[.func (.yield l) #[] #[], .pointer (some ⟨Bn, 0, none⟩), .pointer (some ⟨Bq, 0, none⟩)] W fun e W' => (∃ v, e = .returned v) ∧
      ((∃ ys, ys = lq ∧ J ys W') ∨ (∃ pre, pre <+: lq ∧ Jx pre W')) := by
  obtain ⟨k, hsg⟩ := hsg
  have HF := Lib.hid (fun m => callsIn_wide (n := m).2 (first_any hL q))
  rw [hfi] at HF
  have HL := Lib.hid hL
  have h25 : Fence.wide.fn 25 := trivial
  clear hL hfi
  refine callsIn_of_wp Try.func33 rfl trivial ?_ rfl
  simp only [Try.ntmps33, List.size_toArray, List.length_cons, List.length_nil, Nat.reduceAdd, Nat.reduceSub, Array.replicate_succ, Array.replicate_zero, List.push_toArray, List.append_toArray, List.nil_append, List.cons_append]
  gi_wp2_with (gi_at_call 25; refine (HF.out _).mono ?_; rintro e w' ⟨rfl, rfl⟩)
  gi_loopw [4] (fun i wr => ∃ a c : List Nat, lq = a ++ c ∧ i = .int .i64 (hdI c (-1)) ∧ J a wr ∧ KpB n₀ Bn W wr) (fun i _ => rem lq (intOf i))
  case atStart => exact ⟨[], lq, rfl, rfl, h0, Below.refl _ _, rfl⟩
  case round =>
    obtain ⟨a, c, hlq, rfl, hJ, hnx⟩ := hrel
    have HLQ := Lib.hid hlq
    cases c with
    | nil =>
      clear hlq
      rw [show hdI ([] : List Nat) (-1) = -1 from rfl]
      gi_wp2
      go_end0
      exact ⟨⟨_, rfl⟩, .inl ⟨_, by rw [HLQ.out, List.append_nil], hJ⟩⟩
    | cons y c =>
      rw [show hdI (y :: c) (-1) = (y : Int) from rfl]
      have hyn : ((y : Int) == -1) = false := beq_eq_false_iff_ne.mpr (by omega)
      have hyl : a.length < lq.length := by rw [hlq]; simp
      obtain ⟨fn, tmps, assign, body, hy, hR⟩ := hY a y _ hJ hyl
      have hseg := hsg
      rw [hlq] at hseg
      have hx : ls[y]? = some ⟨k, hdI c (-1), lsI (-1) a⟩ := (seg_append.1 hseg).2.1
      have HX := Lib.hid hx
      have hyi : (y : Int) < ls.length := by have := (List.getElem?_eq_some_iff.1 hx).1; omega
      clear hlq hx hseg
      gi_wp2
      refine hR.mono ?_
      rintro e W3 (⟨rfl, hJ3, hk3⟩ | ⟨rfl, hJx3⟩)
      · have hW3 := hnx.t hk3
        have hL3 := HL.out.belowN hfl hW3.1
        have c1 : W3.cell? ⟨b, 1, none⟩ = some (.slice (some ⟨gl, 0, none⟩) ls.length ls.length) := hL3.blk.cellv rfl
        have d1 := (hL3.lcell HX.out).2.1
        simp only at d1
        have e1 : W3.cell? ⟨Bn, 0, none⟩ = some (.pointer (some ⟨b, 0, none⟩)) := (hW3.cell 0).trans hBn
        clear hL3
        gi_wp2
        go_roundw
        case rel => exact ⟨a ++ [y], c, by rw [HLQ.out]; simp, rfl, hJ3, hW3⟩
        case measure =>
          have h1 := HLQ.out
          have h2 : lq = (a ++ [y]) ++ c := by rw [h1]; simp
          have h3 := rem_at (a := a) (c := c) (y := y) (h1 ▸ hnd)
          have h4 := rem_hd (a := a ++ [y]) (c := c) (h2 ▸ hnd)
          rw [← h1] at h3
          rw [← h2] at h4
          simp only [intOf]
          omega
      · gi_wp2
        refine bodyPost_ret (results_none rfl _ _ _) rfl ?_
        exact ⟨⟨_, rfl⟩, .inr ⟨_, by rw [HLQ.out]; exact ⟨c, by simp⟩, hJx3⟩⟩
theorem items_in (n : Nat) (p : Option Addr) (q : Int) (w : World) :
    CallsIn Fence.wide n Try.prog 30 #[.pointer p, .int .i64 q] w fun e w' => e = .returned (.func (.func 33) #[] #[.pointer (some ⟨w.heap.size, 0, none⟩), .pointer (some ⟨w.heap.size + 1, 0, none⟩)]) ∧ w' = (w.alloc (.cells #[.pointer p] 22)).alloc (.cells #[.int .i64 q] 3) := by
  refine callsIn_of_wp Try.func30 rfl trivial ?_ rfl
  simp only [Try.ntmps30, List.size_toArray, List.length_cons, List.length_nil, Nat.reduceAdd, Nat.reduceSub, Array.replicate_succ, Array.replicate_zero, List.push_toArray, List.append_toArray, List.nil_append, List.cons_append]
  gi_wp2
  go_ret
  exact ⟨rfl, rfl⟩
theorem items_stops (n : Nat) (hn : 1 ≤ n) (Bn Bq n₀ B b gq gl : Nat) (qs : List Qn) (ls : List Lk) (q : Int) (lq : List Nat) (hfi : firstC qs q = hdI lq (-1)) (hsg : ∃ k, Seg ls k (-1) lq (-1)) (hnd : lq.Nodup) (w : World) (hBn : Bn < w.heap.size) (hBq : Bq < w.heap.size) (hn₀ : n₀ ≤ w.heap.size)
    (hc : w.cell? ⟨Bn, 0, none⟩ = some (.pointer (some ⟨b, 0, none⟩))) (hc2 : w.cell? ⟨Bq, 0, none⟩ = some (.int .i64 q)) (hL : Lm w B b gq gl qs ls) (hfl : ∀ k, fl b gq gl k → k < n₀) :
    SeqStopsK Fence.wide n Try.prog 33 #[.pointer (some ⟨Bn, 0, none⟩), .pointer (some ⟨Bq, 0, none⟩)] (fun x : Nat => #[Value.int .i64 (x : Int)]) (KpB n₀ Bn) (fun ys => ys = lq) (fun pre => pre <+: lq) lq.length w := fun l J Jx W hW hJ _ hY h0 =>
  items1_in n hn l Bn Bq n₀ B b gq gl qs ls q lq hfi hsg hnd J Jx hY W ((hW.cell (p := ⟨Bn, 0, none⟩) hBn).trans hc) ((hW.cell (p := ⟨Bq, 0, none⟩) hBq).trans hc2) (hL.below hW) hfl h0
theorem it_info : (Try.prog.info? 3).map (fun i => (i.zero, i.size, i.bytes)) = some (some (.int .i64 0), 1, 8) := by kernel_rfl
theorem boxed_own {β : Type} (B : Nat) (t : TypeId) (v : Value) : Own (fun (_ : β) W => Boxed W B t v) := fun s W W' row hs hg hr => hs.kept hg (fun e => by
  obtain ⟨o, ho, hoc⟩ := hr B e.symm
  have h1 : W.heap[B]? = _ := hs
  rw [h1] at ho
  injection ho with ho
  subst ho
  cases hoc)
set_option maxRecDepth 100000 in
set_option maxHeartbeats 2000000 in
theorem list_in (n : Nat) (hn : 3 ≤ n) (B b gq gl : Nat) (qs : List Qn) (ls : List Lk) (q : Int) (lq : List Nat) (hfi : firstC qs q = hdI lq (-1)) (hsg : ∃ k, Seg ls k (-1) lq (-1)) (hnd : lq.Nodup) (hll : lq.length ≤ 65536) (w : World) (hL : Lm w B b gq gl qs ls) :
    CallsIn Fence.wide n Try.prog 12 #[.pointer (some ⟨b, 0, none⟩), .int .i64 q] w fun e W' => ∃ v, e = .returned v ∧ W'.ownsRow w.heap.size 3 1 v lq.length (intsN lq) ∧ Below w.heap.size w W' := by
  have h1 : 1 ≤ n := by omega
  obtain ⟨i0, hi, hz0, hz1, hz2⟩ := info_parts it_info
  have h30 : Fence.wide.fn 30 := trivial
  have h33 : Fence.wide.fn 33 := trivial
  refine callsIn_of_wp_marks Try.func12 rfl trivial ?_ rfl
  simp only [Try.ntmps12, List.size_toArray, List.length_cons, List.length_nil, Nat.reduceAdd, Nat.reduceSub, Array.replicate_succ, Array.replicate_zero, List.push_toArray, List.append_toArray, List.nil_append, List.cons_append]
  gi_wp2_with (gi_at_call 30; refine (items_in (n - 1) _ _ _).mono ?_; rintro e w' ⟨rfl, rfl⟩)
  have bO := Boxed.new w 28 (.slice none 0 0)
  have bN := Boxed.new (w.alloc (.cells #[.slice none 0 0] 28)) 22 (.pointer (some ⟨b, 0, none⟩))
  have bQ := Boxed.new ((w.alloc (.cells #[.slice none 0 0] 28)).alloc (.cells #[.pointer (some ⟨b, 0, none⟩)] 22)) 3 (.int .i64 q)
  rw [World.size_alloc] at bN
  rw [World.size_alloc, World.size_alloc] at bQ
  have hB0 : Below w.heap.size w (((w.alloc (.cells #[.slice none 0 0] 28)).alloc (.cells #[.pointer (some ⟨b, 0, none⟩)] 22)).alloc (.cells #[.int .i64 q] 3)) := (((Below.refl _ w).alloc (Nat.le_refl _) _).alloc (by simp) _).alloc (by simp; omega) _
  have hL0 : Lm (((w.alloc (.cells #[.slice none 0 0] 28)).alloc (.cells #[.pointer (some ⟨b, 0, none⟩)] 22)).alloc (.cells #[.int .i64 q] 3)) B b gq gl qs ls := hL.below hB0
  refine wpIn_rangeFunc_ownG rfl h1 (gf := 33) (lb := #[.pointer (some ⟨w.heap.size + 1, 0, none⟩), .pointer (some ⟨w.heap.size + 1 + 1, 0, none⟩)]) rfl h33 (enters_of Try.func33 (by kernel_rfl) rfl)
    (items_stops (n - 1) (by omega) (w.heap.size + 1) (w.heap.size + 1 + 1) w.heap.size B b gq gl qs ls q lq hfi hsg hnd _ (by simp <;> omega) (by simp <;> omega) (by simp <;> omega) (bN.alloc _).cell bQ.cell hL0 (fun k hk => (hL.lt hk).2)) KpB.t (KpB.b (by simp <;> omega) (by simp <;> omega)) (Below.refl _ _) (fun _ => rfl)
    (fun pre W => ((∃ v, Boxed W w.heap.size 28 v ∧ W.ownsRow w.heap.size 3 1 v pre.length (intsN pre) ∧ (v = .slice none 0 0 ↔ pre = [])) ∧ Boxed W (w.heap.size + 1) 22 (.pointer (some ⟨b, 0, none⟩))) ∧ Below w.heap.size w W)
    (fun _ _ _ => False)
    (OwnFrom.and (OwnFrom.and (Own.from (holdsRow_own w.heap.size w.heap.size 28 3 1 (fun pre : List Nat => pre.length) (fun pre : List Nat => intsN pre) (fun pre v => v = .slice none 0 0 ↔ pre = [])) _) (Own.from (boxed_own _ _ _) _)) (ownFrom_below (Nat.le_refl _) (by simp; omega)))
    (fun _ _ _ _ _ hs _ _ => hs)
    ⟨⟨⟨_, (bO.alloc _).alloc _, World.ownsRow_nil _ _ _ _, by simp [intsN]⟩, bN.alloc _⟩, hB0⟩
    (fun x => { tmps := #[.pointer (some ⟨b, 0, none⟩), .int .i64 q, undef, undef, .slice none 0 0, .pointer (some ⟨w.heap.size, 0, none⟩), .int .i64 x, .pointer (some ⟨b, 0, none⟩), .int .i64 q, .func (.func 33) #[] #[.pointer (some ⟨w.heap.size + 1, 0, none⟩), .pointer (some ⟨w.heap.size + 1 + 1, 0, none⟩)], .int .i64 x, undef, undef, undef, undef, undef], defers := [] }) ?assign ?body ?done ?stop
  case assign =>
    intro l x W K hK
    gi_wp2
    exact hK
  case body =>
    rintro l pre x W ⟨⟨⟨v, hv, hrow, hnil⟩, hbn⟩, hB⟩ hlt
    have hc := hv.cell
    have HBn := Lib.hid hbn
    clear hbn
    gi_wp2_with (gi_at_builtin; refine wpListIn_append_own _ rfl _ _ 28 rfl w.heap.size 3 i0 (.int .i64 0) 1 8 Try.underlying28 hi hz0 hz1 hz2 rfl (by decide) _ _ _ rfl (hrow.alloc _) ⟨W.heap.size, 0, none⟩ 1 1 [.int .i64 x] rfl rfl (cell_one_new _ _ _) (by simp [Value.oneCell']) (by simp only [maxLen]; omega) (by omega) (by have := hB.size; simp; omega) ?_; intro v' w1 hown' hgrow _; obtain ⟨g', cap', rfl⟩ := ownsRow_succ hown'; have hnr := (HBn.out.alloc (.cells #[.int .i64 x] 3)).not_row (by decide) (hrow.alloc (.cells #[.int .i64 x] 3)); have HBm := Lib.hid ((HBn.out.alloc (.cells #[.int .i64 x] 3)).kept hgrow hnr); obtain ⟨hv1, hv2, hr2, hk2, hb2⟩ := hv.appended (by decide) hrow hB.size (Nat.le_refl _) hown' hgrow; have hc1 := hv1.cell; have hf1 := hv1.frozen)
    have hbz := HBm.out.kept (grownBy_setCell' w1 w.heap.size (.slice (some ⟨g', 0, none⟩) (pre.length + 1) cap')) (by simp)
    exact ⟨hk2.from _, ⟨hb2, hbz.trans HBn.out.symm⟩, ⟨⟨_, hv2, by simpa [intsN] using hr2, by simp⟩, hbz⟩, hB.trans hb2⟩
  case done =>
    rintro D ys W hD rfl ⟨⟨⟨v, hv, hrow, hnil⟩, hbn⟩, hB⟩ hK
    have hc := hv.cell
    gi_wp2
    refine ⟨by simp, .inl ⟨_, _, rfl, run_takeDeferred hK, ?_⟩⟩
    exact ⟨_, results_tmp rfl _ _ _, v, rfl, ownsRow_putObj hrow _ hK rfl, hB.trans (belowK_b (w := w) (Nat.le_refl _) W D _ _ (by simp at hD; omega) hK rfl rfl)⟩
  case stop =>
    rintro D c pre W _ _ h _
    exact h.elim
end Go.Proofs.Ytfahhjbbbimjfaa.Li
