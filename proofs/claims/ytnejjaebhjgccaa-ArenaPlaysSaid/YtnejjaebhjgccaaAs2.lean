/- The texts on Arena[int], turned to Arena[string] by arstr.py. -/
import Derived.Test.YtnejjaebhjgccaaAs1
namespace Go.Proofs.Ytnejjaebhjgccaa.As
open Go Go.RowKit Go.Shelf Go.Proofs.Ytnejjaebhjgccaa.Mem Go.Proofs.Ytnejjaebhjgccaa.Bits
open Go.Proofs.Ytnejjaebhjgccaa.Ar hiding slC slCs slCs_len slCs_at slCs_set slCs_snoc Arn ft findV find_any new_none new_some get_none get_some set_none set_some arn_more alloc_full alloc_more alloc_again free_none free_some free_end sl_info Arx Az new_az get_az alloc_az free_az all1_in all_in all_stops ids_in ids_az SlV
set_option linter.unusedVariables false
set_option linter.unusedSimpArgs false
attribute [local go_sem] Oper.semAt_some
/-- The arena behind b, in the abstract. -/
def Arx (w : World) (B b : Nat) (sl : List Sl) (fr : List Nat) (cap : Int) (sv fv : Value) : Prop := Arn w B b sl (nats fr) cap (cntN sl) sv fv
/-- The arena behind b, with its blocks F. -/
def Az (w : World) (B b : Nat) (F : Blocks) (sl : List Sl) (fr : List Nat) (cap : Int) : Prop := ∃ sv fv, Arx w B b sl fr cap sv fv ∧ ∀ k, F k ↔ ft b sv fv k
section
variable {w w' : World} {B b : Nat} {F G : Blocks} {sl : List Sl} {fr : List Nat} {cap : Int} {N : Nat}
theorem Az.in_ (h : Az w B b F sl fr cap) : In B w F := by
  obtain ⟨sv, fv, ha, hF⟩ := h
  exact fun k hk => Arn.ft_lt ha ((hF k).1 hk)
theorem Az.keep (h : Az w B b F sl fr cap) (hu : Upd G w w') (hd : Dis F G) : Az w' B b F sl fr cap := by
  obtain ⟨sv, fv, ha, hF⟩ := h
  exact ⟨sv, fv, Arn.upd ha hu (fun k hk => hd k ((hF k).2 hk)), hF⟩
theorem Az.drewN (h : Az w B b F sl fr cap) (n : Nat) : Az (w.drewN n) B b F sl fr cap := by
  obtain ⟨sv, fv, ha, hF⟩ := h
  exact ⟨sv, fv, Arn.drewN ha n, hF⟩
theorem new_az (c : Int) (h0 : 0 ≤ c) (h1 : c ≤ 65536) (w : World) (B : Nat) (hB : B ≤ w.heap.size) : Calls Try.prog 19 #[.int .i64 c] w fun e w' =>
    e = .returned (.pointer (some ⟨w.heap.size, 0, none⟩)) ∧ Az w' B w.heap.size (fun k => k = w.heap.size) [] [] c ∧ Below w.heap.size w w' := by
  refine (new_some c h0 h1 w B hB).mono ?_
  rintro e w1 ⟨he, ha, hb⟩
  refine ⟨he, ⟨_, _, ha, fun k => ?_⟩, hb⟩
  simp [ft, Value.ownBlock]
theorem get_az (h : Az w B b F sl fr cap) (id : Int) : Calls Try.prog 22 #[.pointer (some ⟨b, 0, none⟩), .int .i64 id] w fun e w' => e = .returned (.tuple #[.string (strV (getV sl id)), .bool (findN sl id).isSome]) ∧ ∃ n, w' = w.drewN n := by
  obtain ⟨sv, fv, ha, hF⟩ := h
  unfold getV
  cases hf : findN sl id with
  | none => exact get_none ha hf
  | some i =>
    obtain ⟨_, _, s, hs, _, _⟩ := findN_some hf
    have := get_some ha hf hs
    simpa [List.getD_eq_getElem?_getD, hs] using this
/-- Alloc: id and status as in the abstract; the arena in the abstract. -/
theorem alloc_az (h : Az w B b F sl fr cap) (hg : Ar.Good N sl fr cap) (hN : N ≤ 1073741823) (hB : B ≤ w.heap.size) (v : Int) : Calls Try.prog 20 #[.pointer (some ⟨b, 0, none⟩), .string (strV v)] w fun e w' =>
    e = .returned (.tuple #[.int .i64 (allocS sl fr cap v).1, .int .i64 (allocS sl fr cap v).2.1]) ∧ ∃ F', Az w' B b F' (allocS sl fr cap v).2.2.1 (allocS sl fr cap v).2.2.2 cap ∧ Upd F w w' ∧ Grow w F F' := by
  have hcn := cntN_le sl
  have hcap := hg.cap
  have hle := hg.len
  obtain ⟨sv, fv, ha, hF⟩ := h
  unfold allocS
  cases hl : fr.getLast? with
  | some k =>
    have hfr := getLast_some hl
    obtain ⟨s, hs, ht⟩ := hg.free k (by rw [hfr]; simp)
    have hgd : sl.getD k ⟨0, false, 0⟩ = s := by rw [List.getD_eq_getElem?_getD, hs]; rfl
    have hgs := hg.gens s (List.mem_of_getElem? hs)
    have hfl := hg.frlen
    unfold Arx at ha
    rw [hfr, nats_snoc] at ha
    have hdl : (nats fr.dropLast).length ≤ 65536 := by simp [nats]; omega
    simp only [hgd]
    refine (alloc_again ha hs (by omega) ⟨hgs.1, by omega⟩ hdl ⟨by omega, by omega⟩ v).mono ?_
    rintro e w1 ⟨he, fv', ha', hu, hn⟩
    refine ⟨he, ft b sv fv', ⟨sv, fv', ?_, fun _ => Iff.rfl⟩, hu.mono (fun i _ hi => (hF i).2 hi), fun i hi => .inl ((hF i).2 ?_)⟩
    · have := cntN_set sl k s ⟨s.gen + 1, true, v⟩ hs
      rw [ht] at this
      simp only [Bool.false_eq_true, if_false, if_true] at this
      unfold Arx
      rw [show ((cntN (sl.set k ⟨s.gen + 1, true, v⟩) : Nat) : Int) = (cntN sl : Int) + 1 by omega]
      exact ha'
    · rcases hi with h1 | h1 | h1
      · exact .inl h1
      · exact .inr (.inl h1)
      · exact .inr (.inr (hn i h1))
  | none =>
    have hnil : fr = [] := List.getLast?_eq_none_iff.mp hl
    subst hnil
    simp only
    by_cases hc : (sl.length : Int) = cap
    · rw [if_pos hc]
      refine (alloc_full ha (by omega) v).mono ?_
      rintro e w1 ⟨he, rfl⟩
      exact ⟨he, F, ⟨sv, fv, ha, hF⟩, Upd.refl _ _, Grow.refl _ _⟩
    · rw [if_neg hc]
      refine (alloc_more ha hB (by omega) (by omega) ⟨by omega, by omega⟩ v).mono ?_
      rintro e w1 ⟨he, sv', ha', hu, hn⟩
      refine ⟨he, ft b sv' fv, ⟨sv', fv, ?_, fun _ => Iff.rfl⟩, hu.mono (fun i _ hi => (hF i).2 hi), fun i hi => ?_⟩
      · have := cntN_snoc sl ⟨1, true, v⟩
        simp only [if_true] at this
        unfold Arx
        rw [show ((cntN (sl ++ [⟨1, true, v⟩]) : Nat) : Int) = (cntN sl : Int) + 1 by omega]
        exact ha'
      · rcases hi with h1 | h1 | h1
        · exact .inl ((hF i).2 (.inl h1))
        · rcases hn i h1 with h2 | h2
          · exact .inl ((hF i).2 (.inr (.inl h2)))
          · exact .inr h2
        · exact .inl ((hF i).2 (.inr (.inr h1)))
/-- Free: the status as in the abstract; the arena in the abstract. -/
theorem free_az (h : Az w B b F sl fr cap) (hg : Ar.Good N sl fr cap) (hN : N ≤ 1073741823) (hB : B ≤ w.heap.size) (id : Int) : Calls Try.prog 21 #[.pointer (some ⟨b, 0, none⟩), .int .i64 id] w fun e w' =>
    e = .returned (.int .i64 (freeS sl fr id).1) ∧ ∃ F', Az w' B b F' (freeS sl fr id).2.1 (freeS sl fr id).2.2 cap ∧ Upd F w w' ∧ Grow w F F' := by
  have hcn := cntN_le sl
  have hcap := hg.cap
  have hle := hg.len
  have hfl := hg.frlen
  obtain ⟨sv, fv, ha, hF⟩ := h
  unfold freeS
  cases hf : findN sl id with
  | none =>
    refine (free_none ha hf).mono ?_
    rintro e w1 ⟨he, n, rfl⟩
    exact ⟨he, F, ⟨sv, fv, Arn.drewN ha n, hF⟩, (Upd.refl _ _).drewN n, Grow.refl _ _⟩
  | some i =>
    obtain ⟨_, _, s, hs, ht, _⟩ := findN_some hf
    have hgd : sl.getD i ⟨0, false, 0⟩ = s := by rw [List.getD_eq_getElem?_getD, hs]; rfl
    have hgs := hg.gens s (List.mem_of_getElem? hs)
    simp only [hgd]
    refine (free_some ha hB hf hs ⟨hgs.1, by omega⟩ (by rw [nats_len]; omega) ⟨by omega, by omega⟩).mono ?_
    rintro e w1 ⟨he, fv', ha', hu, hn⟩
    refine ⟨he, ft b sv fv', ⟨sv, fv', ?_, fun _ => Iff.rfl⟩, hu.mono (fun i _ hi => (hF i).2 hi), fun j hj => ?_⟩
    · have := cntN_set sl i s ⟨s.gen, false, 0⟩ hs
      rw [ht] at this
      simp only [Bool.false_eq_true, if_false, if_true] at this
      unfold Arx
      rw [nats_snoc, show ((cntN (sl.set i ⟨s.gen, false, 0⟩) : Nat) : Int) = (cntN sl : Int) - 1 by omega]
      exact ha'
    · rcases hj with h1 | h1 | h1
      · exact .inl ((hF j).2 (.inl h1))
      · exact .inl ((hF j).2 (.inr (.inl h1)))
      · rcases hn j h1 with h2 | h2
        · exact .inl ((hF j).2 (.inr (.inr h2)))
        · exact .inr h2
end
attribute [local go_sem] Oper.semAt_some
/-- The slots' slice, read. -/
def SlV (n₀ : Nat) (W : World) (sv : Value) (sl : List Sl) : Prop := ∃ A c, sv = .slice A sl.length c ∧ (0 < sl.length → ∃ g, A = some ⟨g, 0, none⟩ ∧ g < n₀ ∧ ∀ k s, sl[k]? = some s → ∀ j, j < 3 → W.cell? ⟨g, k * 3 + j, none⟩ = (slC s)[j]?)
theorem SlV.below {n₀ : Nat} {W W' : World} {sv : Value} {sl : List Sl} (h : SlV n₀ W sv sl) (hb : Below n₀ W W') : SlV n₀ W' sv sl := by
  obtain ⟨A, c, rfl, h⟩ := h
  refine ⟨A, c, rfl, fun h0 => ?_⟩
  obtain ⟨g, rfl, hg, hc⟩ := h h0
  exact ⟨g, rfl, hg, fun k s hs j hj => (hb.cell (p := ⟨g, k * 3 + j, none⟩) hg).trans (hc k s hs j hj)⟩
set_option maxRecDepth 100000 in
set_option maxHeartbeats 4000000 in
theorem all1_in (F : Fence) (n : Nat) (h36 : F.fn 36) (hro : F.round = none) (hn : 1 ≤ n) (l Bn n₀ b : Nat) (sv : Value) (sl : List Sl) (hlen : sl.length ≤ 65536) (hgen : ∀ s ∈ sl, 0 ≤ s.gen ∧ s.gen ≤ 1073741824) (J Jx : List Int → World → Prop)
    (hJal : ∀ pre A o, J pre A → J pre (A.alloc o))
    (hY : ∀ pre x W, J pre W → pre.length < sl.length → YieldAt F (n - 1) Try.prog l #[.int .i64 x] W fun e W' =>
      (e = .returned (.bool true) ∧ J (pre ++ [x]) W' ∧ Below n₀ W W') ∨ (e = .returned (.bool false) ∧ Jx (pre ++ [x]) W'))
    (W : World) (hBn : W.cell? ⟨Bn, 0, none⟩ = some (.pointer (some ⟨b, 0, none⟩))) (hb : b < n₀) (hsv : W.cell? ⟨b, 0, none⟩ = some sv) (hR : SlV n₀ W sv sl) (hn0 : n₀ ≤ W.heap.size) (h0 : J [] W) :
    CallsIn F n Try.prog 36 #[.func (.yield l) #[] #[], .pointer (some ⟨Bn, 0, none⟩)] W fun e W' => (∃ v, e = .returned v) ∧
      ((∃ ys, ys = idsTo sl sl.length ∧ J ys W') ∨ (∃ pre, pre <+: idsTo sl sl.length ∧ Jx pre W')) := by
  obtain ⟨A, c, rfl, hR⟩ := hR
  refine callsIn_of_wp Try.func36 rfl h36 ?_ hro
  simp only [Try.ntmps36, List.size_toArray, List.length_cons, List.length_nil, Nat.reduceAdd, Nat.reduceSub, Array.replicate_succ, Array.replicate_zero, List.push_toArray, List.append_toArray, List.nil_append, List.cons_append]
  gi_wp2
  gi_loopw [10] (fun i wr => ∃ k : Nat, k ≤ sl.length ∧ i = .int .i64 k ∧ J (idsTo sl k) wr ∧ Below n₀ W wr) (fun i _ => sl.length - (intOf i).toNat)
  case atStart => exact ⟨0, Nat.zero_le _, rfl, h0, Below.refl _ _⟩
  case round =>
    obtain ⟨k, hk, rfl, hJs, hnx⟩ := hrel
    by_cases hlt : k < sl.length
    · obtain ⟨s, hs⟩ : ∃ s, sl[k]? = some s := ⟨_, List.getElem?_eq_getElem hlt⟩
      have hgd : sl.getD k sl0 = s := by rw [List.getD_eq_getElem?_getD, hs]; rfl
      obtain ⟨g, rfl, hg, hcell⟩ := hR (by omega)
      have hc := fun j (hj : j < 3) => (hnx.cell (p := ⟨g, k * 3 + j, none⟩) hg).trans (hcell k s hs j hj)
      obtain ⟨gen, tk, v⟩ := s
      have hgs := hgen _ (List.mem_of_getElem? hs)
      have d0 : wr.cell? ⟨g, k * 3, none⟩ = some (.int .i64 gen) := hc 0 (by omega)
      have d1 : wr.cell? ⟨g, k * 3 + 1, none⟩ = some (.bool tk) := hc 1 (by omega)
      have d2 : wr.cell? ⟨g, k * 3 + 2, none⟩ = some (.string (strV v)) := hc 2 (by omega)
      clear hc hcell
      simp only at hgs
      obtain ⟨x, rfl⟩ : ∃ x : Nat, gen = x := ⟨gen.toNat, by omega⟩
      have hor := or_low16 x k (by omega) (by omega)
      have hJ2 := hJal _ _ (.cells #[.int .i64 x, .bool tk, .string (strV v)] 67) hJs
      have hB2 := hnx.alloc (Nat.le_trans hn0 hnx.size) (.cells #[.int .i64 x, .bool tk, .string (strV v)] 67)
      cases tk
      · have hid := idsTo_no (sl := sl) (k := k) (by rw [hgd])
        gi_wp2
        refine ⟨fun _ h => (by cases h), ?_⟩
        gi_wp2
        go_roundw
        case rel => exact ⟨k + 1, by omega, by go_num, by rw [hid]; exact hJ2, hB2⟩
        case measure => simp [intOf]; omega
      · have hid := idsTo_yes (sl := sl) (k := k) (by rw [hgd])
        rw [hgd] at hid
        simp only at hid
        have hpl := idsTo_len sl k
        obtain ⟨fn, tmps, assign, body, hy, hR⟩ := hY _ ((x : Int) * 65536 + (k : Int)) _ hJ2 (by omega)
        gi_wp2
        refine hR.mono ?_
        rintro e W3 (⟨rfl, hJ3, hk3⟩ | ⟨rfl, hJx3⟩)
        · gi_wp2
          go_roundw
          case rel => exact ⟨k + 1, by omega, by go_num, by rw [hid]; exact hJ3, hB2.trans hk3⟩
          case measure => simp [intOf]; omega
        · gi_wp2
          refine bodyPost_ret (results_none rfl _ _ _) rfl ?_
          exact ⟨⟨_, rfl⟩, .inr ⟨_, by rw [← hid]; exact idsTo_pre sl sl.length (by omega), hJx3⟩⟩
    · obtain rfl : k = sl.length := by omega
      gi_wp2
      go_end0
      exact ⟨⟨_, rfl⟩, .inl ⟨_, rfl, hJs⟩⟩
theorem all_in (F : Fence) (n : Nat) (h34 : F.fn 34) (hro : F.round = none) (p : Option Addr) (w : World) :
    CallsIn F n Try.prog 34 #[.pointer p] w fun e w' => e = .returned (.func (.func 36) #[] #[.pointer (some ⟨w.heap.size, 0, none⟩)]) ∧ w' = w.alloc (.cells #[.pointer p] 44) := by
  refine callsIn_of_wp Try.func34 rfl h34 ?_ hro
  simp only [Try.ntmps34, List.size_toArray, List.length_cons, List.length_nil, Nat.reduceAdd, Nat.reduceSub, Array.replicate_succ, Array.replicate_zero, List.push_toArray, List.append_toArray, List.nil_append, List.cons_append]
  gi_wp2
  go_ret
  exact ⟨rfl, rfl⟩
theorem all_stops (F : Fence) (n : Nat) (h36 : F.fn 36) (hro : F.round = none) (hn : 1 ≤ n) (Bn n₀ b : Nat) (sv : Value) (sl : List Sl) (hlen : sl.length ≤ 65536) (hgen : ∀ s ∈ sl, 0 ≤ s.gen ∧ s.gen ≤ 1073741824) (w : World) (hBn : Bn < w.heap.size) (hn₀ : n₀ ≤ w.heap.size)
    (hc : w.cell? ⟨Bn, 0, none⟩ = some (.pointer (some ⟨b, 0, none⟩))) (hb : b < n₀) (hsv : w.cell? ⟨b, 0, none⟩ = some sv) (hR : SlV n₀ w sv sl) :
    SeqStopsK F n Try.prog 36 #[.pointer (some ⟨Bn, 0, none⟩)] (fun x : Int => #[Value.int .i64 x]) (Below n₀) (fun ys => ys = idsTo sl sl.length) (fun pre => pre <+: idsTo sl sl.length) sl.length w := fun l J Jx W hW hJ _ hY h0 =>
  all1_in F n h36 hro hn l Bn n₀ b sv sl hlen hgen J Jx (fun pre A o h => hJ pre A _ none h (World.grownBy_alloc A o none) (fun r e => by cases e)) hY W ((hW.cell (p := ⟨Bn, 0, none⟩) hBn).trans hc) hb ((hW.cell (p := ⟨b, 0, none⟩) (Nat.lt_of_lt_of_le hb hn₀)).trans hsv) (hR.below (hW.mono hn₀)) (Nat.le_trans hn₀ hW.size) h0
set_option maxRecDepth 100000 in
set_option maxHeartbeats 2000000 in
theorem ids_in (F : Fence) (n : Nat) (h25 : F.fn 25) (h34 : F.fn 34) (h36 : F.fn 36) (hro : F.round = none) (hn : 3 ≤ n) (b : Nat) (sv : Value) (sl : List Sl) (hlen : sl.length ≤ 65536) (hgen : ∀ s ∈ sl, 0 ≤ s.gen ∧ s.gen ≤ 1073741824) (w : World) (hb : b < w.heap.size) (hsv : w.cell? ⟨b, 0, none⟩ = some sv) (hR : SlV w.heap.size w sv sl) :
    CallsIn F n Try.prog 25 #[.pointer (some ⟨b, 0, none⟩)] w fun e W' => ∃ v, e = .returned v ∧ W'.ownsRow w.heap.size 3 1 v (idsTo sl sl.length).length ((idsTo sl sl.length).map (Value.int .i64)) ∧ Below w.heap.size w W' := by
  have h1 : 1 ≤ n := by omega
  have hil := idsTo_len sl sl.length
  obtain ⟨i0, hi, hz0, hz1, hz2⟩ := info_parts it_info
  refine callsIn_of_wp_marks Try.func25 rfl h25 ?_ hro
  simp only [Try.ntmps25, List.size_toArray, List.length_cons, List.length_nil, Nat.reduceAdd, Nat.reduceSub, Array.replicate_succ, Array.replicate_zero, List.push_toArray, List.append_toArray, List.nil_append, List.cons_append]
  gi_wp2_with (gi_at_call 34; refine (all_in F (n - 1) h34 hro _ _).mono ?_; rintro e w' ⟨rfl, rfl⟩)
  have bO := Boxed.new w 22 (.slice none 0 0)
  have bN := Boxed.new (w.alloc (.cells #[.slice none 0 0] 22)) 44 (.pointer (some ⟨b, 0, none⟩))
  rw [World.size_alloc] at bN
  have hB0 : Below w.heap.size w ((w.alloc (.cells #[.slice none 0 0] 22)).alloc (.cells #[.pointer (some ⟨b, 0, none⟩)] 44)) := ((Below.refl _ w).alloc (Nat.le_refl _) _).alloc (by simp) _
  refine wpIn_rangeFunc_ownG hro h1 (gf := 36) (lb := #[.pointer (some ⟨w.heap.size + 1, 0, none⟩)]) rfl h36 (enters_of Try.func36 (by kernel_rfl) rfl)
    (all_stops F (n - 1) h36 hro (by omega) (w.heap.size + 1) w.heap.size b sv sl hlen hgen _ (by simp) (by simp; omega) bN.cell hb ((hB0.cell (p := ⟨b, 0, none⟩) hb).trans hsv) (hR.below hB0)) belowK_t (belowK_b (by simp; omega)) (Below.refl _ _) (fun _ => rfl)
    (fun pre W => (∃ v, Boxed W w.heap.size 22 v ∧ W.ownsRow w.heap.size 3 1 v pre.length (pre.map (Value.int .i64)) ∧ (v = .slice none 0 0 ↔ pre = [])) ∧ Below w.heap.size w W)
    (fun _ _ _ => False)
    (OwnFrom.and (Own.from (holdsRow_own w.heap.size w.heap.size 22 3 1 (fun pre : List Int => pre.length) (fun pre : List Int => pre.map (Value.int .i64)) (fun pre v => v = .slice none 0 0 ↔ pre = [])) _) (ownFrom_below (Nat.le_refl _) (by simp; omega)))
    (fun _ _ _ _ _ hs _ _ => hs)
    ⟨⟨_, bO.alloc _, World.ownsRow_nil _ _ _ _, by simp⟩, hB0⟩
    (fun x => { tmps := #[.pointer (some ⟨b, 0, none⟩), undef, .slice none 0 0, .pointer (some ⟨w.heap.size, 0, none⟩), .int .i64 x, .pointer (some ⟨b, 0, none⟩), .func (.func 36) #[] #[.pointer (some ⟨w.heap.size + 1, 0, none⟩)], .int .i64 x, undef, undef, undef, undef, undef], defers := [] }) ?assign ?body ?done ?stop
  case assign =>
    intro l x W K hK
    gi_wp2
    exact hK
  case body =>
    rintro l pre x W ⟨⟨v, hv, hrow, hnil⟩, hB⟩ hlt
    have hc := hv.cell
    gi_wp2_with (gi_at_builtin; refine wpListIn_append_own _ rfl _ _ 22 rfl w.heap.size 3 i0 (.int .i64 0) 1 8 Try.underlying22 hi hz0 hz1 hz2 rfl (by decide) _ _ _ rfl (hrow.alloc _) ⟨W.heap.size, 0, none⟩ 1 1 [.int .i64 x] rfl rfl (cell_one_new _ _ _) (by simp [Value.oneCell']) (by simp only [maxLen]; omega) (by omega) (by have := hB.size; simp; omega) ?_; intro v' w1 hown' hgrow _; obtain ⟨g', cap', rfl⟩ := ownsRow_succ hown'; obtain ⟨hv1, hv2, hr2, hk2, hb2⟩ := hv.appended (by decide) hrow hB.size (Nat.le_refl _) hown' hgrow; have hc1 := hv1.cell; have hf1 := hv1.frozen)
    exact ⟨hk2.from _, hb2, ⟨_, hv2, by simpa using hr2, by simp⟩, hB.trans hb2⟩
  case done =>
    rintro D ys W hD rfl ⟨⟨v, hv, hrow, hnil⟩, hB⟩ hK
    have hc := hv.cell
    gi_wp2
    refine ⟨by simp, .inl ⟨_, _, rfl, run_takeDeferred hK, ?_⟩⟩
    exact ⟨_, results_tmp rfl _ _ _, v, rfl, ownsRow_putObj hrow _ hK rfl, hB.trans (belowK_b (w := w) (Nat.le_refl _) W D _ _ (by simp at hD; omega) hK rfl rfl)⟩
  case stop =>
    rintro D c pre W _ _ h _
    exact h.elim
/-- What IDs tells, over the abstract arena. -/
theorem ids_az {w : World} {B b : Nat} {G : Blocks} {sl : List Sl} {fr : List Nat} {cap : Int} {N : Nat} (h : Az w B b G sl fr cap) (hg : Ar.Good N sl fr cap) (hN : N ≤ 1073741823) : Calls Try.prog 25 #[.pointer (some ⟨b, 0, none⟩)] w fun e W' =>
    ∃ v, e = .returned v ∧ W'.ownsRow w.heap.size 3 1 v (idsTo sl sl.length).length (ints (idsTo sl sl.length)) ∧ Below w.heap.size w W' := by
  obtain ⟨sv, fv, ha, hF⟩ := h
  have hle := hg.len
  have hcap := hg.cap
  refine callsIn_wide.1 (ids_in Fence.wide 3 trivial trivial trivial rfl (by omega) b sv sl (by omega) (fun s hs => by have := hg.gens s hs; omega) w ha.blk.lt (ha.blk.cellv rfl) ?_)
  obtain ⟨A, c, hv⟩ := own_len ha.slots
  refine ⟨A, c, hv, fun h0 => ?_⟩
  obtain ⟨g, cp, hv2, hbg, hgl, hnc⟩ := own_form ha.slots h0
  rw [hv] at hv2
  injection hv2 with e1
  refine ⟨g, e1, hgl, fun k s hs j hj => ?_⟩
  have hl : k < sl.length := (List.getElem?_eq_some_iff.1 hs).1
  have hs2 := ha.slots
  rw [hv, e1] at hs2
  exact (hs2.cellAt (k * 3 + j) (by omega)).trans (slCs_at sl k j s hs hj)
end Go.Proofs.Ytnejjaebhjgccaa.As
