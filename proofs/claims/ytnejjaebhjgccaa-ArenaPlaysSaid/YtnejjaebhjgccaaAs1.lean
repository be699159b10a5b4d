/- The texts on Arena[int], turned to Arena[string] by arstr.py. -/
import Derived.Test.YtnejjaebhjgccaaArK
import Derived.Test.YtnejjaebhjgccaaArIt
namespace Go.Proofs.Ytnejjaebhjgccaa.As
open Go Go.RowKit Go.Shelf Go.Proofs.Ytnejjaebhjgccaa.Mem Go.Proofs.Ytnejjaebhjgccaa.Bits
open Go.Proofs.Ytnejjaebhjgccaa.Ar hiding slC slCs slCs_len slCs_at slCs_set slCs_snoc Arn ft findV find_any new_none new_some get_none get_some set_none set_some arn_more alloc_full alloc_more alloc_again free_none free_some free_end sl_info Arx Az new_az get_az alloc_az free_az all1_in all_in all_stops ids_in ids_az SlV
set_option linter.unusedVariables false
set_option linter.unusedSimpArgs false
/-- The two texts that are used. -/
def strV : Int → ByteArray
  | .ofNat 0 => ⟨#[]⟩
  | _ => ⟨#[120]⟩
def slC (s : Sl) : List Value := [.int .i64 s.gen, .bool s.tk, .string (strV s.v)]
def slCs (l : List Sl) : List Value := l.flatMap slC
theorem slCs_len : ∀ l : List Sl, (slCs l).length = l.length * 3
  | [] => rfl
  | s :: l => by
    have := slCs_len l
    simp only [slCs, List.flatMap_cons, List.length_append, List.length_cons] at *
    rw [this]
    simp [slC]
    omega
theorem slCs_at : ∀ (l : List Sl) (i j : Nat) (s : Sl) (hs : l[i]? = some s) (hj : j < 3), (slCs l)[i * 3 + j]? = (slC s)[j]?
  | [], i, j, s, hs, _ => by simp at hs
  | t :: l, 0, j, s, hs, hj => by
    obtain rfl : t = s := by simpa using hs
    simp only [slCs, List.flatMap_cons, Nat.zero_mul, Nat.zero_add]
    rw [List.getElem?_append_left (by simp [slC]; omega)]
  | t :: l, i + 1, j, s, hs, hj => by
    have := slCs_at l i j s (by simpa using hs) hj
    simp only [slCs, List.flatMap_cons] at *
    rw [List.getElem?_append_right (by simp [slC]; omega), show (i + 1) * 3 + j - (slC t).length = i * 3 + j by simp [slC]; omega]
    exact this
/-- The arena behind the pointer b: its slots, its free list, its bounds, and its two slices. -/
structure Arn (w : World) (B b : Nat) (sl : List Sl) (fr : List Int) (cap cnt : Int) (sv fv : Value) : Prop where
  base : B ≤ b
  blk : Blk w b 65 #[sv, fv, .int .i64 cap, .int .i64 cnt]
  slots : w.ownsRow B 67 3 sv sl.length (slCs sl)
  free : w.ownsRow B 3 1 fv fr.length (ints fr)
/-- Its blocks. -/
def ft (b : Nat) (sv fv : Value) (k : Nat) : Prop := k = b ∨ sv.ownBlock = some k ∨ fv.ownBlock = some k
def findV (sv : Value) : Option Nat → Value
  | some i => .pointer (some ⟨sv.ownBlock.getD 0, i * 3, none⟩)
  | none => .pointer none
set_option maxHeartbeats 2000000 in
theorem find_any {w : World} {B b : Nat} {sl : List Sl} {fr : List Int} {cap cnt : Int} {sv fv : Value} (h : Arn w B b sl fr cap cnt sv fv) (id : Int) :
    Calls Try.prog 32 #[.pointer (some ⟨b, 0, none⟩), .int .i64 id] w fun e w' => e = .returned (findV sv (findN sl id)) ∧ ∃ n, w' = w.drewN n := by
  have H1 := Lib.hid (slot_any id)
  have H2 := Lib.hid (gen_any id)
  have c0 : w.cell? ⟨b, 0, none⟩ = some sv := h.blk.cellv rfl
  by_cases hneg : id < 0
  · rw [show findN sl id = none from if_neg (by omega)]
    clear h
    go_enter Try.func32, Try.ntmps32
    go_wp2
    go_quiet ((first | (go_at_call 16; exact quiet_left (H1.out _)) | (go_at_call 17; exact quiet_left (H2.out _))))
    go_wp2
    go_ret
    exact ⟨rfl, _, rfl⟩
  · have h0 : 0 ≤ id := by omega
    rw [show slotN id = id % 65536 from if_neg hneg] at H1
    rw [show genN id = id / 65536 from if_neg hneg] at H2
    have hf : findN sl id = match sl[(id % 65536).toNat]? with
      | some s => if s.tk = true ∧ s.gen = id / 65536 then some (id % 65536).toNat else none
      | none => none := if_pos h0
    obtain ⟨k, hk⟩ : ∃ k : Nat, id % 65536 = k := ⟨(id % 65536).toNat, by omega⟩
    rw [hk] at H1 hf
    rw [Int.toNat_natCast] at hf
    clear hk
    generalize id / 65536 = gn at *
    by_cases hlt : k < sl.length
    · obtain ⟨g, cp, rfl, hbg, hgl, hnc⟩ := own_form h.slots (by omega)
      obtain ⟨s, hs⟩ : ∃ s, sl[k]? = some s := ⟨_, List.getElem?_eq_getElem hlt⟩
      have hc := fun j hj => (h.slots.cellAt (k * 3 + j) (by omega)).trans (slCs_at sl k j s hs hj)
      have d0 := hc 0 (by omega)
      have d1 := hc 1 (by omega)
      simp only [slC, Nat.add_zero, List.getElem?_cons_zero, List.getElem?_cons_succ] at d0 d1
      rw [hs] at hf
      simp only at hf
      clear hc hs h
      rw [hf]
      clear hf
      obtain ⟨gen, tk, v⟩ := s
      simp only at *
      cases tk
      · rw [if_neg (by simp)]
        go_enter Try.func32, Try.ntmps32
        go_wp2
        go_quiet ((first | (go_at_call 16; exact quiet_left (H1.out _)) | (go_at_call 17; exact quiet_left (H2.out _))))
        go_wp2
        replace c0 : (w.drewN nq).cell? ⟨b, 0, none⟩ = _ := c0
        replace d0 : (w.drewN nq).cell? ⟨g, k * 3, none⟩ = _ := d0
        replace d1 : (w.drewN nq).cell? ⟨g, k * 3 + 1, none⟩ = _ := d1
        generalize hW : w.drewN nq = W1 at *
        have HW := Lib.hid hW
        clear hW
        go_quiet ((first | (go_at_call 16; exact quiet_left (H1.out _)) | (go_at_call 17; exact quiet_left (H2.out _))))
        go_wp2
        replace c0 : (W1.drewN nq).cell? ⟨b, 0, none⟩ = _ := c0
        replace d0 : (W1.drewN nq).cell? ⟨g, k * 3, none⟩ = _ := d0
        replace d1 : (W1.drewN nq).cell? ⟨g, k * 3 + 1, none⟩ = _ := d1
        generalize hW : W1.drewN nq = W2 at *
        have HV := Lib.hid hW
        clear hW
        go_quiet ((first | (go_at_call 16; exact quiet_left (H1.out _)) | (go_at_call 17; exact quiet_left (H2.out _))))
        go_wp2
        go_ret
        exact ⟨rfl, _, by rw [← HV.out, ← HW.out, World.drewN_drewN, World.drewN_drewN]⟩
      · by_cases hg : gen = gn
        · have z1 : (gen == gn) = true := beq_iff_eq.mpr hg
          rw [if_pos ⟨rfl, hg⟩]
          clear hg
          go_enter Try.func32, Try.ntmps32
          go_wp2
          go_quiet ((first | (go_at_call 16; exact quiet_left (H1.out _)) | (go_at_call 17; exact quiet_left (H2.out _))))
          go_wp2
          replace c0 : (w.drewN nq).cell? ⟨b, 0, none⟩ = _ := c0
          replace d0 : (w.drewN nq).cell? ⟨g, k * 3, none⟩ = _ := d0
          replace d1 : (w.drewN nq).cell? ⟨g, k * 3 + 1, none⟩ = _ := d1
          generalize hW : w.drewN nq = W1 at *
          have HW := Lib.hid hW
          clear hW
          go_quiet ((first | (go_at_call 16; exact quiet_left (H1.out _)) | (go_at_call 17; exact quiet_left (H2.out _))))
          go_wp2
          replace c0 : (W1.drewN nq).cell? ⟨b, 0, none⟩ = _ := c0
          replace d0 : (W1.drewN nq).cell? ⟨g, k * 3, none⟩ = _ := d0
          replace d1 : (W1.drewN nq).cell? ⟨g, k * 3 + 1, none⟩ = _ := d1
          generalize hW : W1.drewN nq = W2 at *
          have HV := Lib.hid hW
          clear hW
          go_quiet ((first | (go_at_call 16; exact quiet_left (H1.out _)) | (go_at_call 17; exact quiet_left (H2.out _))))
          go_wp2
          go_ret
          exact ⟨rfl, _, by rw [← HV.out, ← HW.out, World.drewN_drewN, World.drewN_drewN]⟩
        · have z1 : (gen == gn) = false := beq_eq_false_iff_ne.mpr hg
          rw [if_neg (by simpa using hg)]
          clear hg
          go_enter Try.func32, Try.ntmps32
          go_wp2
          go_quiet ((first | (go_at_call 16; exact quiet_left (H1.out _)) | (go_at_call 17; exact quiet_left (H2.out _))))
          go_wp2
          replace c0 : (w.drewN nq).cell? ⟨b, 0, none⟩ = _ := c0
          replace d0 : (w.drewN nq).cell? ⟨g, k * 3, none⟩ = _ := d0
          replace d1 : (w.drewN nq).cell? ⟨g, k * 3 + 1, none⟩ = _ := d1
          generalize hW : w.drewN nq = W1 at *
          have HW := Lib.hid hW
          clear hW
          go_quiet ((first | (go_at_call 16; exact quiet_left (H1.out _)) | (go_at_call 17; exact quiet_left (H2.out _))))
          go_wp2
          replace c0 : (W1.drewN nq).cell? ⟨b, 0, none⟩ = _ := c0
          replace d0 : (W1.drewN nq).cell? ⟨g, k * 3, none⟩ = _ := d0
          replace d1 : (W1.drewN nq).cell? ⟨g, k * 3 + 1, none⟩ = _ := d1
          generalize hW : W1.drewN nq = W2 at *
          have HV := Lib.hid hW
          clear hW
          go_quiet ((first | (go_at_call 16; exact quiet_left (H1.out _)) | (go_at_call 17; exact quiet_left (H2.out _))))
          go_wp2
          go_ret
          exact ⟨rfl, _, by rw [← HV.out, ← HW.out, World.drewN_drewN, World.drewN_drewN]⟩
    · have e : sl[k]? = none := by simp; omega
      rw [e] at hf
      simp only at hf
      rw [hf]
      obtain ⟨A, c, rfl⟩ := own_len h.slots
      clear h hf e
      go_enter Try.func32, Try.ntmps32
      go_wp2
      go_quiet ((first | (go_at_call 16; exact quiet_left (H1.out _)) | (go_at_call 17; exact quiet_left (H2.out _))))
      go_wp2
      go_ret
      exact ⟨rfl, _, rfl⟩
section
variable {w w' : World} {B b : Nat} {sl : List Sl} {fr : List Int} {cap cnt : Int} {sv fv : Value}
theorem Arn.drewN (h : Arn w B b sl fr cap cnt sv fv) (n : Nat) : Arn (w.drewN n) B b sl fr cap cnt sv fv := ⟨h.base, h.blk, h.slots, h.free⟩
theorem Arn.upd {F : Nat → Prop} (h : Arn w B b sl fr cap cnt sv fv) (hu : Upd F w w') (hF : ∀ k, ft b sv fv k → ¬ F k) : Arn w' B b sl fr cap cnt sv fv :=
  ⟨h.base, h.blk.upd hu (hF b (.inl rfl)), own_upd h.slots hu (fun g hg => hF g (.inr (.inl hg))), own_upd h.free hu (fun g hg => hF g (.inr (.inr hg)))⟩
theorem Arn.ft_lt (h : Arn w B b sl fr cap cnt sv fv) {k : Nat} (hk : ft b sv fv k) : B ≤ k ∧ k < w.heap.size := by
  rcases hk with rfl | hk | hk
  · exact ⟨h.base, h.blk.lt⟩
  · exact h.slots.lt k hk
  · exact h.free.lt k hk
end
theorem new_none (c : Int) (hc : c < 0 ∨ 65536 < c) (w : World) : Calls Try.prog 19 #[.int .i64 c] w fun e w' => e = .returned (.pointer none) ∧ w = w' := by
  rcases hc with hc | hc
  all_goals
    go_enter Try.func19, Try.ntmps19
    go_wp2
    go_ret
    exact ⟨rfl, rfl⟩
theorem new_some (c : Int) (h0 : 0 ≤ c) (h1 : c ≤ 65536) (w : World) (B : Nat) (hB : B ≤ w.heap.size) : Calls Try.prog 19 #[.int .i64 c] w fun e w' =>
    e = .returned (.pointer (some ⟨w.heap.size, 0, none⟩)) ∧ Arn w' B w.heap.size [] [] c 0 (.slice none 0 0) (.slice none 0 0) ∧ Below w.heap.size w w' := by
  go_enter Try.func19, Try.ntmps19
  go_wp2
  go_ret
  exact ⟨rfl, ⟨hB, Blk.new _ _ _, World.ownsRow_nil _ _ _ _, World.ownsRow_nil _ _ _ _⟩, (Below.refl _ _).alloc (Nat.le_refl _) _⟩
section
variable {w : World} {B b : Nat} {sl : List Sl} {fr : List Int} {cap cnt : Int} {sv fv : Value}
theorem get_none (h : Arn w B b sl fr cap cnt sv fv) {id : Int} (hf : findN sl id = none) : Calls Try.prog 22 #[.pointer (some ⟨b, 0, none⟩), .int .i64 id] w fun e w' => e = .returned (.tuple #[.string (strV 0), .bool false]) ∧ ∃ n, w' = w.drewN n := by
  have H := Lib.hid (find_any h id)
  clear h
  rw [hf] at H
  simp only [findV] at H
  clear hf
  go_enter Try.func22, Try.ntmps22
  go_wp2_with (first | (go_at_call 32; (with_reducible refine H.out.mono ?_); rintro e w1 ⟨rfl, n, rfl⟩))
  go_ret2
  exact ⟨rfl, n, rfl⟩
theorem get_some (h : Arn w B b sl fr cap cnt sv fv) {id : Int} {i : Nat} {s : Sl} (hf : findN sl id = some i) (hs : sl[i]? = some s) : Calls Try.prog 22 #[.pointer (some ⟨b, 0, none⟩), .int .i64 id] w fun e w' => e = .returned (.tuple #[.string (strV s.v), .bool true]) ∧ ∃ n, w' = w.drewN n := by
  have hlt : i < sl.length := (List.getElem?_eq_some_iff.1 hs).1
  obtain ⟨g, cp, rfl, hbg, hgl, hnc⟩ := own_form h.slots (by omega)
  have d2 := (h.slots.cellAt (i * 3 + 2) (by omega)).trans (slCs_at sl i 2 s hs (by omega))
  simp only [slC, List.getElem?_cons_zero, List.getElem?_cons_succ] at d2
  have H := Lib.hid (find_any h id)
  clear h
  rw [hf] at H
  simp only [findV, Value.ownBlock, Option.getD_some] at H
  have D : ∀ n, (w.drewN n).cell? ⟨g, i * 3 + 2, none⟩ = some (.string (strV s.v)) := fun n => d2
  clear hf hs d2
  go_enter Try.func22, Try.ntmps22
  go_wp2_with (first | (go_at_call 32; (with_reducible refine H.out.mono ?_); rintro e w1 ⟨rfl, n, rfl⟩; have dn := D n))
  go_ret2
  exact ⟨rfl, n, rfl⟩
end
theorem slCs_set : ∀ (l : List Sl) (i j : Nat) (s s' : Sl) (u : Value) (hs : l[i]? = some s) (hj : j < 3) (h : (slC s).set j u = slC s'), (slCs l).set (i * 3 + j) u = slCs (l.set i s')
  | [], i, j, s, s', u, hs, _, _ => by simp at hs
  | t :: l, 0, j, s, s', u, hs, hj, h => by
    obtain rfl : t = s := by simpa using hs
    simp only [slCs, List.flatMap_cons, Nat.zero_mul, Nat.zero_add, List.set_cons_zero]
    rw [List.set_append_left _ _ (by simp [slC]; omega), h]
  | t :: l, i + 1, j, s, s', u, hs, hj, h => by
    have := slCs_set l i j s s' u (by simpa using hs) hj h
    simp only [slCs, List.flatMap_cons, List.set_cons_succ] at *
    rw [List.set_append_right _ _ (by simp [slC]; omega), show (i + 1) * 3 + j - (slC t).length = i * 3 + j by simp [slC]; omega, this]
section
variable {w : World} {B b : Nat} {sl : List Sl} {fr : List Int} {cap cnt : Int} {fv : Value} {g cp : Nat}
/-- A store into a slot. -/
theorem Arn.store (h : Arn w B b sl fr cap cnt (.slice (some ⟨g, 0, none⟩) sl.length cp) fv) {i j : Nat} {s s' : Sl} {u : Value} (hs : sl[i]? = some s) (hj : j < 3) (hu : (slC s).set j u = slC s') :
    Arn (w.setCell ⟨g, i * 3 + j, none⟩ u) B b (sl.set i s') fr cap cnt (.slice (some ⟨g, 0, none⟩) sl.length cp) fv := by
  have hgb : b ≠ g := fun e => own_blk_ne h.slots h.blk (by decide) (by simp [Value.ownBlock, e])
  refine ⟨h.base, h.blk.far (p := ⟨g, i * 3 + j, none⟩) hgb u, ?_, own_far h.free (p := ⟨g, i * 3 + j, none⟩) (fun e => own_own_ne h.free h.slots (by decide) e (by simp [Value.ownBlock])) u⟩
  have := (h.slots.stored (i * 3 + j) u).1
  rw [slCs_set sl i j s s' u hs hj hu] at this
  simpa using this
/-- A store into the struct's two counts, or its slices. -/
theorem Arn.cnt_ {sv : Value} (h : Arn w B b sl fr cap cnt sv fv) (c : Int) : Arn (w.setCell ⟨b, 3, none⟩ (.int .i64 c)) B b sl fr cap c sv fv :=
  ⟨h.base, h.blk.setv 3 _ rfl, own_far h.slots (p := ⟨b, 3, none⟩) (own_blk_ne h.slots h.blk (by decide)) _, own_far h.free (p := ⟨b, 3, none⟩) (own_blk_ne h.free h.blk (by decide)) _⟩
end
section
variable {w : World} {B b : Nat} {sl : List Sl} {fr : List Int} {cap cnt : Int} {sv fv : Value}
end
theorem sl_info : (Try.prog.info? 67).map (fun i => (i.zero, i.size, i.bytes)) = some (some (.agg #[.int .i64 0, .bool false, .string (strV 0)]), 3, 32) := by kernel_rfl
theorem slCs_snoc (l : List Sl) (s : Sl) : slCs l ++ slC s = slCs (l ++ [s]) := by simp [slCs]
/-- The struct's slice is stored behind an append. -/
theorem arn_more {w1 : World} {B b : Nat} {sl : List Sl} {fr : List Int} {cap cnt : Int} {sv fv v1 : Value} (hb : B ≤ b) (h : Blk w1 b 65 #[sv, fv, .int .i64 cap, .int .i64 cnt]) (ho : w1.ownsRow B 67 3 v1 (sl.length + 1) (slCs sl ++ [.int .i64 0, .bool false, .string (strV 0)]))
    (hf : w1.ownsRow B 3 1 fv fr.length (ints fr)) : Arn (w1.setCell ⟨b, 0, none⟩ v1) B b (sl ++ [⟨0, false, 0⟩]) fr cap cnt v1 fv := by
  have e : slCs sl ++ [.int .i64 0, .bool false, .string (strV 0)] = slCs (sl ++ [⟨0, false, 0⟩]) := slCs_snoc sl ⟨0, false, 0⟩
  rw [e] at ho
  refine ⟨hb, h.setv 0 _ rfl, ?_, own_far hf (p := ⟨b, 0, none⟩) (own_blk_ne hf h (by decide)) _⟩
  have := own_far ho (p := ⟨b, 0, none⟩) (own_blk_ne ho h (by decide)) v1
  simpa using this
theorem Arn.cells {W : World} {B b : Nat} {L : List Sl} {fr : List Int} {cap cnt : Int} {g cp : Nat} {fv : Value} (h : Arn W B b L fr cap cnt (.slice (some ⟨g, 0, none⟩) L.length cp) fv) {i : Nat} {s : Sl} (hs : L[i]? = some s) :
    W.cell? ⟨g, i * 3, none⟩ = some (.int .i64 s.gen) ∧ W.cell? ⟨g, i * 3 + 1, none⟩ = some (.bool s.tk) ∧ W.cell? ⟨g, i * 3 + 2, none⟩ = some (.string (strV s.v)) ∧ (∀ j, W.frozen? ⟨g, j, none⟩ = false) ∧ (∀ j, W.frozen? ⟨b, j, none⟩ = false) := by
  have hlt : i < L.length := (List.getElem?_eq_some_iff.1 hs).1
  have d0 := (h.slots.cellAt (i * 3 + 0) (by omega)).trans (slCs_at L i 0 s hs (by omega))
  have d1 := (h.slots.cellAt (i * 3 + 1) (by omega)).trans (slCs_at L i 1 s hs (by omega))
  have d2 := (h.slots.cellAt (i * 3 + 2) (by omega)).trans (slCs_at L i 2 s hs (by omega))
  simp only [slC, Nat.add_zero, List.getElem?_cons_zero, List.getElem?_cons_succ] at d0 d1 d2
  exact ⟨d0, d1, d2, fun j => h.slots.frozenAt j, fun j => h.blk.frozen j⟩
section
variable {w : World} {B b : Nat} {sl : List Sl} {fr : List Int} {cap cnt : Int} {sv fv : Value}
theorem alloc_full (h : Arn w B b sl [] cap cnt sv fv) (hc : (sl.length : Int) = cap) (v : Int) : Calls Try.prog 20 #[.pointer (some ⟨b, 0, none⟩), .string (strV v)] w fun e w' => e = .returned (.tuple #[.int .i64 0, .int .i64 (-4)]) ∧ w = w' := by
  have c0 : w.cell? ⟨b, 0, none⟩ = some sv := h.blk.cellv rfl
  have c1 : w.cell? ⟨b, 1, none⟩ = some fv := h.blk.cellv rfl
  have c2 : w.cell? ⟨b, 2, none⟩ = some (.int .i64 cap) := h.blk.cellv rfl
  obtain ⟨A, c, rfl⟩ := own_len h.slots
  obtain ⟨A2, c', rfl⟩ := own_len h.free
  subst hc
  clear h
  go_enter Try.func20, Try.ntmps20
  go_wp2
  go_ret2
  exact ⟨rfl, rfl⟩
set_option maxHeartbeats 2000000 in
theorem alloc_more (h : Arn w B b sl [] cap cnt sv fv) (hB : B ≤ w.heap.size) (hc : (sl.length : Int) < cap) (hcap : cap ≤ 65536) (hcnt : 0 ≤ cnt ∧ cnt ≤ 65536) (v : Int) : Calls Try.prog 20 #[.pointer (some ⟨b, 0, none⟩), .string (strV v)] w fun e w' =>
    e = .returned (.tuple #[.int .i64 (65536 + (sl.length : Int)), .int .i64 0]) ∧ ∃ sv', Arn w' B b (sl ++ [⟨1, true, v⟩]) [] cap (cnt + 1) sv' fv ∧ Upd (ft b sv fv) w w' ∧ (∀ k, sv'.ownBlock = some k → sv.ownBlock = some k ∨ w.heap.size ≤ k) := by
  have c0 : w.cell? ⟨b, 0, none⟩ = some sv := h.blk.cellv rfl
  have c1 : w.cell? ⟨b, 1, none⟩ = some fv := h.blk.cellv rfl
  have c2 : w.cell? ⟨b, 2, none⟩ = some (.int .i64 cap) := h.blk.cellv rfl
  have c3 : w.cell? ⟨b, 3, none⟩ = some (.int .i64 cnt) := h.blk.cellv rfl
  obtain ⟨i0, hi0, hz0, hz1, hz2⟩ := info_parts sl_info
  have hz3 : ((sl.length : Int) == cap) = false := beq_eq_false_iff_ne.mpr (by omega)
  obtain ⟨A, c, hsv⟩ := own_len h.slots
  obtain ⟨A2, c', hfv⟩ := own_len h.free
  have HH := Lib.hid h
  subst hsv hfv
  have hL : sl.length ≤ 65536 := by omega
  clear h
  go_enter Try.func20, Try.ntmps20
  go_upto_region 9 with (first
    | (at_builtin
       refine wpList_append_any _ rfl (.tmp 23) (.tmp 25) _ rfl B 67 i0 _ 3 32 Try.underlying63 hi0 hz0 hz1 hz2 rfl (by omega) (.slice A sl.length c) sl.length (slCs sl) rfl
         (HH.out.slots.alloc _) (w.heap.size + 1) (some ⟨w.heap.size, 0, none⟩) 1 1 [.int .i64 0, .bool false, .string (strV 0)] rfl (reads_new w 67 [.int .i64 0, .bool false, .string (strV 0)] 3 rfl) (by decide) (by simp only [maxLen]; omega) (by omega) (by simp; omega) ?_
       intro v1 w1 hown hg hat
       have hne : (some b : Option Nat) ≠ (Value.slice A sl.length c).ownBlock := fun e => own_blk_ne HH.out.slots HH.out.blk (by decide) e.symm
       have hB1 := (HH.out.blk.alloc _).grown hg hne
       have hF1 := (HH.out.free.alloc _).kept hg (by
         cases hb : (Value.slice A2 ([] : List Int).length c').ownBlock with
         | none => exact .inl rfl
         | some k => exact .inr (fun e => own_own_ne HH.out.free HH.out.slots (by decide) hb e.symm))
       obtain ⟨g1, cp1, rfl, hbg, hgl, hnc⟩ := own_form hown (by omega)
       have hA1 := arn_more HH.out.base hB1 hown hF1
       have hU1 := Upd.of_grown hg (F := ft b (Value.slice A sl.length c) (Value.slice A2 ([] : List Int).length c')) (fun i hi => .inr (.inl hi))
       have c0' := hB1.cellv (i := 0) rfl
       have f0' := hB1.frozen 0))
  have hG : g1 < w.heap.size → ft b (Value.slice A sl.length c) (Value.slice A2 ([] : List Int).length c') g1 := fun hlt => by
    rcases hat with e | e
    · exact .inr (.inl (by rw [← e]; rfl))
    · simp [Value.ownBlock] at e; omega
  have hN : ∀ k, (Value.slice (some ⟨g1, 0, none⟩) (sl.length + 1) cp1).ownBlock = some k → (Value.slice A sl.length c).ownBlock = some k ∨ w.heap.size ≤ k := fun k hk => by
    rcases hat with e | e
    · exact .inl (by rw [← e]; exact hk)
    · rw [e] at hk
      have : w.heap.size + 1 = k := by simpa using hk
      exact .inr (by omega)
  have hs0 : (sl ++ [(⟨0, false, 0⟩ : Sl)])[sl.length]? = some ⟨0, false, 0⟩ := by simp
  have hU2 := (((Upd.refl (ft b (Value.slice A sl.length c) (Value.slice A2 ([] : List Int).length c')) w).alloc _).trans hU1 (fun _ _ h => h)).setCell (p := ⟨b, 0, none⟩) (fun _ => .inl rfl) (Value.slice (some ⟨g1, 0, none⟩) (sl.length + 1) cp1)
  have hl1 : sl.length + 1 = (sl ++ [(⟨0, false, 0⟩ : Sl)]).length := by simp
  rw [hl1] at hA1 hU2 hN
  have HN := Lib.hid hN
  have HG := Lib.hid hG
  clear hB1 hF1 hU1 c0' f0' hown hg c0 c1 c2 c3 hN hG hat
  simp only [hl1]
  generalize World.setCell _ _ _ = W2 at *
  have hor : bits .or .i64 65536 (sl.length : Int) = 65536 + (sl.length : Int) := by have := or_low16 1 sl.length (by omega) (by omega); simpa using this
  have hnl : sl.length < (sl ++ [(⟨0, false, 0⟩ : Sl)]).length := by simp
  have hfin : ((sl ++ [(⟨0, false, 0⟩ : Sl)]).set sl.length ⟨1, false, 0⟩).set sl.length ⟨1, true, v⟩ = sl ++ [⟨1, true, v⟩] := by simp
  generalize (sl ++ [(⟨0, false, 0⟩ : Sl)]) = L at *
  have HU := Lib.hid hU2
  have HS := Lib.hid hs0
  have HFin := Lib.hid hfin
  have a0 : W2.cell? ⟨b, 0, none⟩ = some (.slice (some ⟨g1, 0, none⟩) L.length cp1) := hA1.blk.cellv rfl
  obtain ⟨p0, p1, p2, pf, pb⟩ := hA1.cells hs0
  clear hU2 hs0 hfin
  go_upto_region 11 with fail
  have hA2 : Arn (W2.setCell ⟨g1, sl.length * 3, none⟩ (.int .i64 1)) B b _ [] cap cnt _ _ := hA1.store (j := 0) (s' := ⟨1, false, 0⟩) HS.out (by omega) rfl
  have HU3 := Lib.hid (HU.out.setCell (p := ⟨g1, sl.length * 3, none⟩) HG.out (Value.int .i64 1))
  clear a0 p0 p1 p2 pf pb HU hA1
  generalize World.setCell _ _ _ = W3 at *
  have hL2 : (L.set sl.length ⟨1, false, 0⟩).length = L.length := by simp
  have hs1 : (L.set sl.length ⟨1, false, 0⟩)[sl.length]? = some ⟨1, false, 0⟩ := by simp [hnl]
  rw [← hL2] at hA2 HN
  simp only [← hL2]
  obtain ⟨p0, p1, p2, pf, pb⟩ := hA2.cells hs1
  have HS1 := Lib.hid hs1
  clear hs1
  go_upto_region 12 with fail
  have hL3 : ((L.set sl.length ⟨1, false, 0⟩).set sl.length ⟨1, true, 0⟩).length = (L.set sl.length ⟨1, false, 0⟩).length := by simp
  have hA3 := (hA2.store (j := 1) (u := .bool true) (s' := ⟨1, true, 0⟩) HS1.out (by omega) rfl)
  rw [← hL3] at hA3
  have hA4 := (hA3.store (i := sl.length) (j := 2) (u := .string (strV v)) (s := ⟨1, true, 0⟩) (s' := ⟨1, true, v⟩) (by simp [hnl]) (by omega) rfl)
  have HU4 := Lib.hid ((HU3.out.setCell (p := ⟨g1, sl.length * 3 + 1, none⟩) HG.out (Value.bool true)).setCell (p := ⟨g1, sl.length * 3 + 2, none⟩) HG.out (Value.string (strV v)))
  rw [List.set_set, HFin.out] at hA4
  have hL4 : ((L.set sl.length ⟨1, false, 0⟩).set sl.length ⟨1, true, 0⟩).length = (sl ++ [(⟨1, true, v⟩ : Sl)]).length := by simp [← HFin.out]
  rw [hL4] at hA4
  have hL5 : (L.set sl.length ⟨1, false, 0⟩).length = (sl ++ [(⟨1, true, v⟩ : Sl)]).length := by simp [← HFin.out]
  rw [hL5] at HN
  simp only [hL5]
  clear p0 p1 p2 pf pb HU3 hA2 hA3
  generalize World.setCell _ _ _ = W4 at *
  have a3 : W4.cell? ⟨b, 3, none⟩ = some (.int .i64 cnt) := hA4.blk.cellv rfl
  have pb : W4.frozen? ⟨b, 3, none⟩ = false := hA4.blk.frozen 3
  go_upto_region 13 with fail
  have hA5 := hA4.cnt_ (cnt + 1)
  have HU5 := Lib.hid (HU4.out.setCell (p := ⟨b, 3, none⟩) (fun _ => .inl rfl) (Value.int .i64 (cnt + 1)))
  clear a3 pb HU4 hA4
  generalize World.setCell _ _ _ = W5 at *
  obtain ⟨p0, -, -, -, -⟩ := hA5.cells (i := sl.length) (s := ⟨1, true, v⟩) (by simp)
  have HA5 := Lib.hid hA5
  clear hA5 hL2 hL3 hL4 hL5 hl1
  go_wp2
  go_ret2
  exact ⟨rfl, _, HA5.out, HU5.out, HN.out⟩
end
/-- The free list is cut by its last one. -/
theorem Arn.pop {w : World} {B b : Nat} {sl : List Sl} {fr : List Int} {x : Int} {cap cnt : Int} {sv : Value} {g cp : Nat} (h : Arn w B b sl (fr ++ [x]) cap cnt sv (.slice (some ⟨g, 0, none⟩) (fr ++ [x]).length cp)) :
    Arn (w.setCell ⟨b, 1, none⟩ (.slice (some ⟨g, 0, none⟩) fr.length cp)) B b sl fr cap cnt sv (.slice (some ⟨g, 0, none⟩) fr.length cp) := by
  have hc := own_cut h.free (k := fr.length) (by simp)
  have e : (ints (fr ++ [x])).take (fr.length * 1) = ints fr := by simp [ints]
  rw [e] at hc
  exact ⟨h.base, h.blk.setv 1 _ rfl, own_far h.slots (p := ⟨b, 1, none⟩) (own_blk_ne h.slots h.blk (by decide)) _, own_far hc (p := ⟨b, 1, none⟩) (own_blk_ne hc h.blk (by decide)) _⟩
section
variable {w : World} {B b : Nat} {sl : List Sl} {fr : List Int} {cap cnt : Int} {sv fv : Value}
set_option maxHeartbeats 2000000 in
theorem alloc_again {k : Nat} {s : Sl} (h : Arn w B b sl (fr ++ [(k : Int)]) cap cnt sv fv) (hs : sl[k]? = some s) (hsl : sl.length ≤ 65536) (hg0 : 0 ≤ s.gen ∧ s.gen ≤ 1073741824) (hfr : fr.length ≤ 65536) (hcnt : 0 ≤ cnt ∧ cnt ≤ 65536) (v : Int) : Calls Try.prog 20 #[.pointer (some ⟨b, 0, none⟩), .string (strV v)] w fun e w' =>
    e = .returned (.tuple #[.int .i64 ((s.gen + 1) * 65536 + (k : Int)), .int .i64 0]) ∧ ∃ fv', Arn w' B b (sl.set k ⟨s.gen + 1, true, v⟩) fr cap (cnt + 1) sv fv' ∧ Upd (ft b sv fv) w w' ∧ (∀ k, fv'.ownBlock = some k → fv.ownBlock = some k) := by
  have hkl : k < sl.length := (List.getElem?_eq_some_iff.1 hs).1
  have c0 : w.cell? ⟨b, 0, none⟩ = some sv := h.blk.cellv rfl
  have c1 : w.cell? ⟨b, 1, none⟩ = some fv := h.blk.cellv rfl
  obtain ⟨g, cp, rfl, hbg, hgl, hnc⟩ := own_form h.slots (by omega)
  obtain ⟨g2, cp2, rfl, hbg2, hgl2, hnc2⟩ := own_form h.free (by simp)
  have d1 : w.cell? ⟨g2, fr.length, none⟩ = some (.int .i64 k) := by
    rw [h.free.cellAt fr.length (by simp)]
    simp [ints]
  have f1 : w.frozen? ⟨b, 1, none⟩ = false := h.blk.frozen 1
  have hlen : (fr ++ [(k : Int)]).length = fr.length + 1 := by simp
  have hP := h.pop
  have HU := Lib.hid ((Upd.refl (ft b (.slice (some ⟨g, 0, none⟩) sl.length cp) (.slice (some ⟨g2, 0, none⟩) (fr ++ [(k : Int)]).length cp2)) w).setCell (p := ⟨b, 1, none⟩) (fun _ => .inl rfl) (Value.slice (some ⟨g2, 0, none⟩) fr.length cp2))
  have HP := Lib.hid hP
  have HS := Lib.hid hs
  rw [hlen] at c1 hnc2
  clear h hP hs hlen
  go_enter Try.func20, Try.ntmps20
  go_upto_region 9 with fail
  have hA1 := HP.out
  clear c0 c1 d1 f1 HP
  generalize World.setCell _ _ _ = W2 at *
  have HG : Hid (g < w.heap.size → ft b (.slice (some ⟨g, 0, none⟩) sl.length cp) (.slice (some ⟨g2, 0, none⟩) (fr ++ [(k : Int)]).length cp2) g) := Lib.hid (fun _ => .inr (.inl rfl))
  obtain ⟨gen, tk, vo⟩ := s
  simp only at hg0 ⊢
  obtain ⟨x, hx⟩ : ∃ x : Nat, gen + 1 = x := ⟨(gen + 1).toNat, by omega⟩
  have hor := or_low16 x k (by omega) (by omega)
  have hxb : (x : Int) ≤ 1073741825 := by omega
  have HX := Lib.hid hx
  have a0 : W2.cell? ⟨b, 0, none⟩ = some (.slice (some ⟨g, 0, none⟩) sl.length cp) := hA1.blk.cellv rfl
  obtain ⟨p0, p1, p2, pf, pb⟩ := hA1.cells HS.out
  simp only at p0 p1 p2
  go_upto_region 11 with fail
  have hA2 : Arn (W2.setCell ⟨g, k * 3, none⟩ (.int .i64 x)) B b _ fr cap cnt _ _ := hA1.store (j := 0) (s' := ⟨x, tk, vo⟩) HS.out (by omega) rfl
  have HU3 := Lib.hid (HU.out.setCell (p := ⟨g, k * 3, none⟩) HG.out (Value.int .i64 x))
  clear a0 p0 p1 p2 pf pb HU hA1
  generalize World.setCell _ _ _ = W3 at *
  have hL2 : (sl.set k ⟨x, tk, vo⟩).length = sl.length := by simp
  have hs1 : (sl.set k ⟨x, tk, vo⟩)[k]? = some ⟨x, tk, vo⟩ := by simp [hkl]
  rw [← hL2] at hA2
  obtain ⟨p0, p1, p2, pf, pb⟩ := hA2.cells hs1
  have hA3 := (hA2.store (j := 1) (u := .bool true) (s' := ⟨x, true, vo⟩) hs1 (by omega) rfl)
  have hL3 : ((sl.set k ⟨x, tk, vo⟩).set k ⟨x, true, vo⟩).length = (sl.set k ⟨x, tk, vo⟩).length := by simp
  rw [← hL3] at hA3
  have hA4 := (hA3.store (i := k) (j := 2) (u := .string (strV v)) (s := ⟨x, true, vo⟩) (s' := ⟨x, true, v⟩) (by simp [hkl]) (by omega) rfl)
  rw [List.set_set, List.set_set] at hA4
  have hL4 : ((sl.set k ⟨x, tk, vo⟩).set k ⟨x, true, vo⟩).length = (sl.set k ⟨x, true, v⟩).length := by simp
  rw [hL4] at hA4
  have HA4 := Lib.hid hA4
  clear hs1 hA2 hA3 hA4 hL2 hL3 hL4
  go_upto_region 12 with fail
  have hA4 := HA4.out
  have HU4 := Lib.hid ((HU3.out.setCell (p := ⟨g, k * 3 + 1, none⟩) HG.out (Value.bool true)).setCell (p := ⟨g, k * 3 + 2, none⟩) HG.out (Value.string (strV v)))
  clear p0 p1 p2 pf pb HU3 HA4
  generalize World.setCell _ _ _ = W4 at *
  have a3 : W4.cell? ⟨b, 3, none⟩ = some (.int .i64 cnt) := hA4.blk.cellv rfl
  have pb : W4.frozen? ⟨b, 3, none⟩ = false := hA4.blk.frozen 3
  go_upto_region 13 with fail
  have hA5 := hA4.cnt_ (cnt + 1)
  have HU5 := Lib.hid (HU4.out.setCell (p := ⟨b, 3, none⟩) (fun _ => .inl rfl) (Value.int .i64 (cnt + 1)))
  clear a3 pb HU4 hA4
  generalize World.setCell _ _ _ = W5 at *
  obtain ⟨p0, -, -, -, -⟩ := hA5.cells (i := k) (s := ⟨x, true, v⟩) (by simp [hkl])
  simp only at p0
  have hL5 : (sl.set k ⟨x, true, v⟩).length = sl.length := by simp
  rw [hL5] at hA5
  have HA5 := Lib.hid hA5
  clear hA5 hL5 hx
  go_wp2
  go_ret2
  exact ⟨by rw [HX.out]; rfl, .slice (some ⟨g2, 0, none⟩) fr.length cp2, by rw [HX.out]; exact HA5.out, HU5.out, fun k hk => hk⟩
end
section
variable {w : World} {B b : Nat} {sl : List Sl} {fr : List Int} {cap cnt : Int} {sv fv : Value}
theorem free_none (h : Arn w B b sl fr cap cnt sv fv) {id : Int} (hf : findN sl id = none) : Calls Try.prog 21 #[.pointer (some ⟨b, 0, none⟩), .int .i64 id] w fun e w' => e = .returned (.int .i64 (-25)) ∧ ∃ n, w' = w.drewN n := by
  have H := Lib.hid (find_any h id)
  clear h
  rw [hf] at H
  simp only [findV] at H
  clear hf
  go_enter Try.func21, Try.ntmps21
  go_wp2_with (first | (go_at_call 32; (with_reducible refine H.out.mono ?_); rintro e w1 ⟨rfl, n, rfl⟩))
  go_ret
  exact ⟨rfl, n, rfl⟩
theorem free_end {W5 w6 : World} {A2 : Option Addr} {c2 g6 cp6 : Nat} {x : Int} {o : Obj} (h : Arn W5 B b sl fr cap cnt sv (.slice A2 fr.length c2))
    (hown : w6.ownsRow B 3 1 (.slice (some ⟨g6, 0, none⟩) (fr.length + 1) cp6) (fr.length + 1) (ints fr ++ [.int .i64 x])) (hg : (W5.alloc o).drew.grownBy w6 (Value.slice A2 fr.length c2).ownBlock)
    (hB : Blk w6 b 65 #[sv, .slice A2 fr.length c2, .int .i64 cap, .int .i64 cnt]) :
    Arn (w6.setCell ⟨b, 1, none⟩ (.slice (some ⟨g6, 0, none⟩) (fr.length + 1) cp6)) B b sl (fr ++ [x]) cap cnt sv (.slice (some ⟨g6, 0, none⟩) (fr.length + 1) cp6) := by
  have hs : w6.ownsRow B 67 3 sv sl.length (slCs sl) := (h.slots.alloc o).drew.kept hg (by
    cases hb : sv.ownBlock with
    | none => exact .inl rfl
    | some k => exact .inr (fun e => own_own_ne h.slots h.free (by decide) hb e.symm))
  refine ⟨h.base, hB.setv 1 _ rfl, own_far hs (p := ⟨b, 1, none⟩) (own_blk_ne hs hB (by decide)) _, ?_⟩
  have := own_far hown (p := ⟨b, 1, none⟩) (own_blk_ne hown hB (by decide)) (.slice (some ⟨g6, 0, none⟩) (fr.length + 1) cp6)
  simpa [ints] using this
set_option maxHeartbeats 2000000 in
/-- A slot is freed: it goes to the end of the free list, as long as its generation may grow. -/
theorem free_some (h : Arn w B b sl fr cap cnt sv fv) (hB : B ≤ w.heap.size) {id : Int} {i : Nat} {s : Sl} (hf : findN sl id = some i) (hs : sl[i]? = some s) (hg : 0 ≤ s.gen ∧ s.gen < 1073741824) (hfr : fr.length ≤ 65536) (hcnt : 0 ≤ cnt ∧ cnt ≤ 65536) : Calls Try.prog 21 #[.pointer (some ⟨b, 0, none⟩), .int .i64 id] w fun e w' =>
    e = .returned (.int .i64 0) ∧ ∃ fv', Arn w' B b (sl.set i ⟨s.gen, false, 0⟩) (fr ++ [(i : Int)]) cap (cnt - 1) sv fv' ∧ Upd (ft b sv fv) w w' ∧ (∀ k, fv'.ownBlock = some k → fv.ownBlock = some k ∨ w.heap.size ≤ k) := by
  have hlt : i < sl.length := (List.getElem?_eq_some_iff.1 hs).1
  obtain ⟨g, cp, rfl, hbg, hgl, hnc⟩ := own_form h.slots (by omega)
  have H := Lib.hid (find_any h id)
  rw [hf] at H
  simp only [findV, Value.ownBlock, Option.getD_some] at H
  obtain ⟨hid0, hidx, _⟩ := findN_some hf
  have hslot : slotN id = (i : Int) := by unfold slotN; rw [if_neg (by omega)]; omega
  have HSl := Lib.hid (slot_any id)
  rw [hslot] at HSl
  have HH := Lib.hid h
  have HS := Lib.hid hs
  have HG : Hid (g < w.heap.size → ft b (.slice (some ⟨g, 0, none⟩) sl.length cp) fv g) := Lib.hid (fun _ => .inr (.inl rfl))
  obtain ⟨gen, tk, vo⟩ := s
  simp only at hg ⊢
  clear hf h hs hslot hidx
  go_enter Try.func21, Try.ntmps21
  go_upto_region 5 with (first | (go_at_call 32; (with_reducible refine H.out.mono ?_); rintro e w1 ⟨rfl, n, rfl⟩))
  have hA1 := HH.out.drewN n
  have HU := Lib.hid ((Upd.refl (ft b (.slice (some ⟨g, 0, none⟩) sl.length cp) fv) w).drewN n)
  generalize w.drewN n = W2 at *
  obtain ⟨p0, p1, p2, pf, pb⟩ := hA1.cells HS.out
  simp only at p0 p1 p2
  have hA3 := (hA1.store (j := 1) (u := .bool false) (s' := ⟨gen, false, vo⟩) HS.out (by omega) rfl)
  have hL3 : (sl.set i ⟨gen, false, vo⟩).length = sl.length := by simp
  rw [← hL3] at hA3
  have hA4 := (hA3.store (i := i) (j := 2) (u := .string ⟨#[]⟩) (s := ⟨gen, false, vo⟩) (s' := ⟨gen, false, 0⟩) (by simp [hlt]) (by omega) rfl)
  rw [List.set_set] at hA4
  have hL4 : (sl.set i ⟨gen, false, vo⟩).length = (sl.set i ⟨gen, false, 0⟩).length := by simp
  rw [hL4] at hA4
  have HA4 := Lib.hid hA4
  clear hA1 hA3 hA4 hL3 hL4
  go_upto_region 6 with fail
  have hA4 := HA4.out
  have HU4 := Lib.hid ((HU.out.setCell (p := ⟨g, i * 3 + 1, none⟩) HG.out (Value.bool false)).setCell (p := ⟨g, i * 3 + 2, none⟩) HG.out (Value.string ⟨#[]⟩))
  clear p0 p1 p2 pf pb HU HA4
  generalize World.setCell _ _ _ = W4 at *
  have a3 : W4.cell? ⟨b, 3, none⟩ = some (.int .i64 cnt) := hA4.blk.cellv rfl
  have pb : W4.frozen? ⟨b, 3, none⟩ = false := hA4.blk.frozen 3
  go_upto_region 7 with fail
  have hA5 := hA4.cnt_ (cnt - 1)
  have HU5 := Lib.hid (HU4.out.setCell (p := ⟨b, 3, none⟩) (fun _ => .inl rfl) (Value.int .i64 (cnt - 1)))
  clear a3 pb HU4 hA4
  generalize World.setCell _ _ _ = W5 at *
  obtain ⟨p0, -, -, -, -⟩ := hA5.cells (i := i) (s := ⟨gen, false, 0⟩) (by simp [hlt])
  simp only at p0
  have hL5 : (sl.set i ⟨gen, false, 0⟩).length = sl.length := by simp
  rw [hL5] at hA5
  have HA5 := Lib.hid hA5
  clear hA5 hL5
  go_wp2
  clear p0
  obtain ⟨A2, c2, rfl⟩ := own_len HA5.out.free
  have c1 : W5.cell? ⟨b, 1, none⟩ = some (.slice A2 fr.length c2) := HA5.out.blk.cellv rfl
  have f1 : W5.frozen? ⟨b, 1, none⟩ = false := HA5.out.blk.frozen 1
  obtain ⟨i0, hi0, hz0, hz1, hz2⟩ := info_parts fr_info
  have hw5 : w.heap.size ≤ W5.heap.size := HU5.out.size
  have Hr := fun (W : World) => reads_new W 3 [.int .i64 (i : Int)] 1 rfl
  have c1a : (W5.alloc (.cells #[.int .i64 (i : Int)] 3)).cell? ⟨b, 1, none⟩ = some (.slice A2 fr.length c2) := (HA5.out.blk.alloc _).cellv rfl
  clear H HS HG hlt
  go_region_law (first
    | (refine step_append_any _ (by rfl) (.tmp 35) (.tmp 38) _ (by rfl) B 3 i0 _ 1 8 Try.underlying22 hi0 hz0 hz1 hz2 rfl (by omega) (.slice A2 fr.length c2) fr.length (ints fr) (by rfl)
         (HA5.out.free.drew.alloc _) (W5.drew.heap.size + 1) (some ⟨W5.drew.heap.size, 0, none⟩) 1 1 [.int .i64 (i : Int)] (by rfl) (Hr W5.drew) (by simp [Value.oneCell']) (by simp only [maxLen]; omega) (by omega) (by simp; omega) ?_
       intro v6 w6 hown hg6 hat
       obtain ⟨g6, cp6, rfl, hbg6, hgl6, hnc6⟩ := own_form hown (by omega)
       have hB6 := (HA5.out.blk.drew.alloc _).grown hg6 (fun e => own_blk_ne HA5.out.free HA5.out.blk (by decide) e.symm)
       have c6 : w6.cell? ⟨b, 1, none⟩ = some (.slice A2 fr.length c2) := hB6.cellv rfl
       have f6 : w6.frozen? ⟨b, 1, none⟩ = false := hB6.frozen 1)
    | (go_simp; go_at_call 16; (with_reducible refine (HSl.out _).mono ?_); rintro e w1 ⟨rfl, rfl⟩))
  all_goals
    have hend := free_end HA5.out hown hg6 hB6
    have hupd := (HU5.out.trans (((Upd.refl (ft b (.slice (some ⟨g, 0, none⟩) sl.length cp) (.slice A2 fr.length c2)) W5).alloc (.cells #[.int .i64 (i : Int)] 3)).drew.trans (Upd.of_grown hg6 (F := ft b (.slice (some ⟨g, 0, none⟩) sl.length cp) (.slice A2 fr.length c2)) (fun j hj => .inr (.inr hj))) (fun _ _ h => h)) (fun _ _ h => h)).setCell (p := ⟨b, 1, none⟩) (fun _ => .inl rfl) (.slice (some ⟨g6, 0, none⟩) (fr.length + 1) cp6)
    have hnew : ∀ k, (Value.slice (some ⟨g6, 0, none⟩) (fr.length + 1) cp6).ownBlock = some k → (Value.slice A2 fr.length c2).ownBlock = some k ∨ w.heap.size ≤ k := fun k hk => by
      rcases hat with e | e
      · exact .inl (by rw [← e]; exact hk)
      · rw [e] at hk
        have : W5.heap.size + 1 = k := by simpa using hk
        exact .inr (by omega)
    have X1 := Lib.hid hend
    have X2 := Lib.hid hupd
    have X3 := Lib.hid hnew
    clear hend hupd hnew hat hown hg6 hB6 c6 f6 c1a c1 f1 Hr HSl HU5 HA5
    go_wp2
    go_ret
    exact ⟨rfl, _, X1.out, X2.out, X3.out⟩
end
end Go.Proofs.Ytnejjaebhjgccaa.As
