/- The walks of the statements over sums, products and rounding. -/
import Derived.Test.YtfdnbefeidpccaaBigD
import Derived.Test.YtfdnbefeidpccaaBigE
import Derived.Test.YtfdnbefeidpccaaNum2
import Derived.Deep.RegionHeld3
namespace Go.Proofs.Ytfdnbefeidpccaa.Big
open Go Go.RowKit Go.Proofs.Ytfdnbefeidpccaa.Mem
open Go.Proofs.Ytfdnbefeidpccaa.Num (fits mag okV okB tells tells_yes tells_no awake_any)
set_option linter.unusedVariables false
set_option linter.unusedSimpArgs false
theorem same_true {D : List Int} {m v : Int} (neg : Bool) (hV : V D m) (hv : sg neg m = v) (w : World) :
    Calls Try.prog 18 #[.int .i64 (okV v), .bool (okB v), .agg (bigA D neg)] w fun e w' => e = .returned (.bool true) ∧ Below w.heap.size w w' := by
  have HI := int_any neg hV
  rw [hv] at HI
  have H := Lib.hid HI
  have HL := Lib.hid hV.len
  clear HI hV hv
  unfold okV okB
  by_cases hf : fits v
  · simp only [if_pos hf, decide_eq_true hf] at H ⊢
    clear hf
    go_enter Try.func18, Try.ntmps18
    go_wp2_with (first
      | (with_reducible refine wpList_load_row rfl 30 (.tmp 5) rfl _ rfl 30 _ (0, 0) _ (Blk.newAt rfl).heap Try.underlying30 rfl (by rw [info30, bigA_size HL.out]) ?_)
      | (go_at_call 27; (with_reducible refine (H.out _).mono ?_); rintro e w1 ⟨rfl, hb1⟩))
    go_ret
    exact ⟨rfl, ((Below.refl _ _).alloc (Nat.le_refl _) _).trans (hb1.mono (by simp))⟩
  · simp only [if_neg hf, decide_eq_false hf] at H ⊢
    clear hf
    go_enter Try.func18, Try.ntmps18
    go_wp2_with (first
      | (with_reducible refine wpList_load_row rfl 30 (.tmp 5) rfl _ rfl 30 _ (0, 0) _ (Blk.newAt rfl).heap Try.underlying30 rfl (by rw [info30, bigA_size HL.out]) ?_)
      | (go_at_call 27; (with_reducible refine (H.out _).mono ?_); rintro e w1 ⟨rfl, hb1⟩))
    go_ret
    exact ⟨rfl, ((Below.refl _ _).alloc (Nat.le_refl _) _).trans (hb1.mono (by simp))⟩
theorem same_at {D : List Int} {m v : Int} {neg : Bool} (hV : V D m) (hv : sg neg m = v) {ov : Int} {ob : Bool} (hov : okV v = ov) (hob : okB v = ob) (w : World) :
    Calls Try.prog 18 #[.int .i64 ov, .bool ob, .agg (bigA D neg)] w fun e w' => e = .returned (.bool true) ∧ Below w.heap.size w w' := by
  subst hov hob
  exact same_true neg hV hv w
theorem sg_not (neg : Bool) (m : Int) : sg (!neg) m = -sg neg m := by cases neg <;> simp [sg]
theorem sg_mul (a b : Int) : sg (decide (a < 0) != decide (b < 0)) (mag a * mag b) = a * b := by
  unfold sg mag
  by_cases h1 : a < 0 <;> by_cases h2 : b < 0 <;> simp [h1, h2, Int.neg_mul, Int.mul_neg]
set_option maxHeartbeats 2000000 in
theorem products_walk (a b : Int) (ha : fits a) (hb : fits b) (w : World) :
    Calls Try.prog 10 #[.int .i64 a, .int .i64 b] w fun e w' => e = .returned (.bool true) ∧ Below w.heap.size w w' := by
  have H1 := Lib.hid (Num.mul_any a b ha hb)
  have H2 := Lib.hid (of_any a ha)
  have H3 := Lib.hid (of_any b hb)
  clear ha hb
  go_enter Try.func10, Try.ntmps10
  go_wp2_with (first
    | (go_at_call 28; (with_reducible refine (H1.out _).mono ?_); rintro e w1 ⟨rfl, rfl⟩; simp only [tells])
    | (go_at_call 15; (with_reducible refine (H2.out _).mono ?_); rintro e w1 ⟨A, rfl, vA, lA, hb1⟩)
    | (go_at_call 15; (with_reducible refine (H3.out _).mono ?_); rintro e w2 ⟨B, rfl, vB, lB, hb2⟩)
    | (go_at_call 29; refine (mul_any _ _ vA vB lA lB _).mono ?_; rintro e w3 ⟨D, rfl, vD, hb3⟩)
    | (go_at_call 18; refine (same_true _ vD (sg_mul a b) _).mono ?_; rintro e w4 ⟨rfl, hb4⟩)
    | (go_at_call 14; (with_reducible refine (awake_any _).mono ?_); rintro e w5 ⟨rfl, rfl⟩))
  all_goals go_ret
  all_goals exact ⟨rfl, ((hb1.trans (hb2.mono hb1.size)).trans (hb3.mono (Nat.le_trans hb1.size hb2.size))).trans (hb4.mono (Nat.le_trans hb1.size (Nat.le_trans hb2.size hb3.size)))⟩
theorem bigL_len {D : List Int} {neg : Bool} (h : D.length = 12) : (bigL D neg).length = 13 := by simp [bigL, h]
theorem big_range {w : World} {g : Nat} {D : List Int} {neg : Bool} (h : Blk w g 30 (bigA D neg)) : w.rangeAt g 0 (bigL D neg) := fun j v hv => by
  rw [Nat.zero_add]
  exact h.cellv (by simpa [bigA] using hv)
def Two (W : World) (g5 g6 : Nat) (w' : World) : Prop := Below W.heap.size W w' ∧ g5 < W.heap.size ∧ g6 < W.heap.size
theorem range_below {w w' : World} {g : Nat} {cs : List Value} {B : Nat} (h : w.rangeAt g 0 cs) (hb : Below B w w') (hg : g < B) : w'.rangeAt g 0 cs := fun j v hv => (hb.cell (p := ⟨g, 0 + j, none⟩) hg).trans (h j v hv)
section
variable {ops : Array Oper} {rest : List Oper} {o : Oper} {a : Act} {w : World} {Q : Exit → Act → World → Prop}
/-- A number goes whole into a variable of its type. -/
theorem store_big (hgd : o.guard = none) (x y : Operand) (ho : o.op = .store 30 x y) (g : Nat) (D : List Int) (neg : Bool) (hx : a.eval x = .pointer (some ⟨g, 0, none⟩)) (hy : a.eval y = .agg (bigA D neg))
    (hl : D.length = 12) (old : Array Value) (hb : Blk w g 30 old) (hold : old.size = 13) (h : wpList Try.prog ops Q rest (a.put o.dst undef) (w.setRow g (bigA D neg))) : wpList Try.prog ops Q (o :: rest) a w :=
  wpList_store_row hgd 30 x y ho g _ hx hy 30 old hb.heap (by rw [info30, bigA_size hl]) (by rw [hold, bigA_size hl]) (bigA_one _ _) h
theorem load_big (hgd : o.guard = none) (x : Operand) (ho : o.op = .load 30 x) (g : Nat) (D : List Int) (neg : Bool) (hx : a.eval x = .pointer (some ⟨g, 0, none⟩)) (hl : D.length = 12) (hb : Blk w g 30 (bigA D neg))
    (h : wpList Try.prog ops Q rest (a.put o.dst (.agg (bigA D neg))) w) : wpList Try.prog ops Q (o :: rest) a w :=
  wpList_load_row hgd 30 x ho g hx 30 _ (0, 0) _ hb.heap Try.underlying30 rfl (by rw [info30, bigA_size hl]) h
end
theorem ab5 (W : World) (cs : Array Value) (o : Obj) : Blk ((W.alloc (.cells cs 30)).alloc o) W.heap.size 30 cs := (Blk.newAt rfl).alloc _
theorem ab6 (W : World) (cs cs' : Array Value) (o : Obj) : Blk (((W.alloc o).alloc (.cells cs 30)).setRow W.heap.size cs') (W.heap.size + 1) 30 cs := (Blk.newAt (by simp)).rowfar (by simp) _
theorem two_news (W : World) (Z1 Z2 cs1 cs2 : Array Value) {C : World → Prop} (h : ∀ W', Blk W' W.heap.size 30 cs1 → Blk W' (W.heap.size + 1) 30 cs2 → Below W.heap.size W W' → W.heap.size + 1 < W'.heap.size → C W') :
    C ((((W.alloc (.cells Z1 30)).alloc (.cells Z2 30)).setRow W.heap.size cs1).setRow (W.heap.size + 1) cs2) :=
  h _ (((ab5 W Z1 _).row _).rowfar (by simp) _) ((ab6 W Z2 _ _).row _) (below_setRow (below_setRow (((Below.refl _ _).alloc (Nat.le_refl _) _).alloc (by simp) _) (Nat.le_refl _) _) (by omega) _) (by simp)
theorem fin2 {x y : Prop} {w W0 w' : World} (h : Below w.heap.size w W0) (hs : x ∧ y ∧ Below W0.heap.size W0 w') : Below w.heap.size w w' := h.trans (hs.2.2.mono h.size)
section
variable {w w1 W : World} {g g5 g6 : Nat} {v0 v1 v2 v3 v4 v5 v6 v7 v8 v9 v10 v11 v12 u0 u1 u2 u3 u4 u5 u6 u7 u8 u9 u10 u11 u12 : Value}
theorem c13_mk (h : w.rangeAt g 0 [v0, v1, v2, v3, v4, v5, v6, v7, v8, v9, v10, v11, v12]) : (w.cell? ⟨g, 0, none⟩ = some v0 ∧ w.cell? ⟨g, 1, none⟩ = some v1 ∧ w.cell? ⟨g, 2, none⟩ = some v2 ∧ w.cell? ⟨g, 3, none⟩ = some v3 ∧ w.cell? ⟨g, 4, none⟩ = some v4 ∧ w.cell? ⟨g, 5, none⟩ = some v5 ∧ w.cell? ⟨g, 6, none⟩ = some v6 ∧ w.cell? ⟨g, 7, none⟩ = some v7 ∧ w.cell? ⟨g, 8, none⟩ = some v8 ∧ w.cell? ⟨g, 9, none⟩ = some v9 ∧ w.cell? ⟨g, 10, none⟩ = some v10 ∧ w.cell? ⟨g, 11, none⟩ = some v11 ∧ w.cell? ⟨g, 12, none⟩ = some v12) := by
  exact ⟨h 0 _ rfl, h 1 _ rfl, h 2 _ rfl, h 3 _ rfl, h 4 _ rfl, h 5 _ rfl, h 6 _ rfl, h 7 _ rfl, h 8 _ rfl, h 9 _ rfl, h 10 _ rfl, h 11 _ rfl, h 12 _ rfl⟩
theorem c13_un (h : (w.cell? ⟨g, 0, none⟩ = some v0 ∧ w.cell? ⟨g, 1, none⟩ = some v1 ∧ w.cell? ⟨g, 2, none⟩ = some v2 ∧ w.cell? ⟨g, 3, none⟩ = some v3 ∧ w.cell? ⟨g, 4, none⟩ = some v4 ∧ w.cell? ⟨g, 5, none⟩ = some v5 ∧ w.cell? ⟨g, 6, none⟩ = some v6 ∧ w.cell? ⟨g, 7, none⟩ = some v7 ∧ w.cell? ⟨g, 8, none⟩ = some v8 ∧ w.cell? ⟨g, 9, none⟩ = some v9 ∧ w.cell? ⟨g, 10, none⟩ = some v10 ∧ w.cell? ⟨g, 11, none⟩ = some v11 ∧ w.cell? ⟨g, 12, none⟩ = some v12)) : w.rangeAt g 0 [v0, v1, v2, v3, v4, v5, v6, v7, v8, v9, v10, v11, v12] := by
  intro j v hv
  rw [Nat.zero_add]
  obtain ⟨h0, h1, h2, h3, h4, h5, h6, h7, h8, h9, h10, h11, h12⟩ := h
  match j, hv with
  | 0, hv => exact (show some v0 = some v from hv) ▸ h0
  | 1, hv => exact (show some v1 = some v from hv) ▸ h1
  | 2, hv => exact (show some v2 = some v from hv) ▸ h2
  | 3, hv => exact (show some v3 = some v from hv) ▸ h3
  | 4, hv => exact (show some v4 = some v from hv) ▸ h4
  | 5, hv => exact (show some v5 = some v from hv) ▸ h5
  | 6, hv => exact (show some v6 = some v from hv) ▸ h6
  | 7, hv => exact (show some v7 = some v from hv) ▸ h7
  | 8, hv => exact (show some v8 = some v from hv) ▸ h8
  | 9, hv => exact (show some v9 = some v from hv) ▸ h9
  | 10, hv => exact (show some v10 = some v from hv) ▸ h10
  | 11, hv => exact (show some v11 = some v from hv) ▸ h11
  | 12, hv => exact (show some v12 = some v from hv) ▸ h12
  | k + 13, hv => simp at hv
theorem c13_next (h : (w.cell? ⟨g, 0, none⟩ = some v0 ∧ w.cell? ⟨g, 1, none⟩ = some v1 ∧ w.cell? ⟨g, 2, none⟩ = some v2 ∧ w.cell? ⟨g, 3, none⟩ = some v3 ∧ w.cell? ⟨g, 4, none⟩ = some v4 ∧ w.cell? ⟨g, 5, none⟩ = some v5 ∧ w.cell? ⟨g, 6, none⟩ = some v6 ∧ w.cell? ⟨g, 7, none⟩ = some v7 ∧ w.cell? ⟨g, 8, none⟩ = some v8 ∧ w.cell? ⟨g, 9, none⟩ = some v9 ∧ w.cell? ⟨g, 10, none⟩ = some v10 ∧ w.cell? ⟨g, 11, none⟩ = some v11 ∧ w.cell? ⟨g, 12, none⟩ = some v12)) (hb : Below w.heap.size w w1) (hg : g < w.heap.size) : (w1.cell? ⟨g, 0, none⟩ = some v0 ∧ w1.cell? ⟨g, 1, none⟩ = some v1 ∧ w1.cell? ⟨g, 2, none⟩ = some v2 ∧ w1.cell? ⟨g, 3, none⟩ = some v3 ∧ w1.cell? ⟨g, 4, none⟩ = some v4 ∧ w1.cell? ⟨g, 5, none⟩ = some v5 ∧ w1.cell? ⟨g, 6, none⟩ = some v6 ∧ w1.cell? ⟨g, 7, none⟩ = some v7 ∧ w1.cell? ⟨g, 8, none⟩ = some v8 ∧ w1.cell? ⟨g, 9, none⟩ = some v9 ∧ w1.cell? ⟨g, 10, none⟩ = some v10 ∧ w1.cell? ⟨g, 11, none⟩ = some v11 ∧ w1.cell? ⟨g, 12, none⟩ = some v12) := c13_mk (range_below (c13_un h) hb hg)
theorem keep2 (h : (w.cell? ⟨g5, 0, none⟩ = some v0 ∧ w.cell? ⟨g5, 1, none⟩ = some v1 ∧ w.cell? ⟨g5, 2, none⟩ = some v2 ∧ w.cell? ⟨g5, 3, none⟩ = some v3 ∧ w.cell? ⟨g5, 4, none⟩ = some v4 ∧ w.cell? ⟨g5, 5, none⟩ = some v5 ∧ w.cell? ⟨g5, 6, none⟩ = some v6 ∧ w.cell? ⟨g5, 7, none⟩ = some v7 ∧ w.cell? ⟨g5, 8, none⟩ = some v8 ∧ w.cell? ⟨g5, 9, none⟩ = some v9 ∧ w.cell? ⟨g5, 10, none⟩ = some v10 ∧ w.cell? ⟨g5, 11, none⟩ = some v11 ∧ w.cell? ⟨g5, 12, none⟩ = some v12) ∧ (w.cell? ⟨g6, 0, none⟩ = some u0 ∧ w.cell? ⟨g6, 1, none⟩ = some u1 ∧ w.cell? ⟨g6, 2, none⟩ = some u2 ∧ w.cell? ⟨g6, 3, none⟩ = some u3 ∧ w.cell? ⟨g6, 4, none⟩ = some u4 ∧ w.cell? ⟨g6, 5, none⟩ = some u5 ∧ w.cell? ⟨g6, 6, none⟩ = some u6 ∧ w.cell? ⟨g6, 7, none⟩ = some u7 ∧ w.cell? ⟨g6, 8, none⟩ = some u8 ∧ w.cell? ⟨g6, 9, none⟩ = some u9 ∧ w.cell? ⟨g6, 10, none⟩ = some u10 ∧ w.cell? ⟨g6, 11, none⟩ = some u11 ∧ w.cell? ⟨g6, 12, none⟩ = some u12) ∧ Below W.heap.size W w) (h5 : g5 < W.heap.size) (h6 : g6 < W.heap.size) (hb : Below w.heap.size w w1) : (w1.cell? ⟨g5, 0, none⟩ = some v0 ∧ w1.cell? ⟨g5, 1, none⟩ = some v1 ∧ w1.cell? ⟨g5, 2, none⟩ = some v2 ∧ w1.cell? ⟨g5, 3, none⟩ = some v3 ∧ w1.cell? ⟨g5, 4, none⟩ = some v4 ∧ w1.cell? ⟨g5, 5, none⟩ = some v5 ∧ w1.cell? ⟨g5, 6, none⟩ = some v6 ∧ w1.cell? ⟨g5, 7, none⟩ = some v7 ∧ w1.cell? ⟨g5, 8, none⟩ = some v8 ∧ w1.cell? ⟨g5, 9, none⟩ = some v9 ∧ w1.cell? ⟨g5, 10, none⟩ = some v10 ∧ w1.cell? ⟨g5, 11, none⟩ = some v11 ∧ w1.cell? ⟨g5, 12, none⟩ = some v12) ∧ (w1.cell? ⟨g6, 0, none⟩ = some u0 ∧ w1.cell? ⟨g6, 1, none⟩ = some u1 ∧ w1.cell? ⟨g6, 2, none⟩ = some u2 ∧ w1.cell? ⟨g6, 3, none⟩ = some u3 ∧ w1.cell? ⟨g6, 4, none⟩ = some u4 ∧ w1.cell? ⟨g6, 5, none⟩ = some u5 ∧ w1.cell? ⟨g6, 6, none⟩ = some u6 ∧ w1.cell? ⟨g6, 7, none⟩ = some u7 ∧ w1.cell? ⟨g6, 8, none⟩ = some u8 ∧ w1.cell? ⟨g6, 9, none⟩ = some u9 ∧ w1.cell? ⟨g6, 10, none⟩ = some u10 ∧ w1.cell? ⟨g6, 11, none⟩ = some u11 ∧ w1.cell? ⟨g6, 12, none⟩ = some u12) ∧ Below W.heap.size W w1 :=
  ⟨c13_next h.1 hb (Nat.lt_of_lt_of_le h5 h.2.2.size), c13_next h.2.1 hb (Nat.lt_of_lt_of_le h6 h.2.2.size), h.2.2.trans (hb.mono h.2.2.size)⟩
theorem keep2_drew (h : (w.cell? ⟨g5, 0, none⟩ = some v0 ∧ w.cell? ⟨g5, 1, none⟩ = some v1 ∧ w.cell? ⟨g5, 2, none⟩ = some v2 ∧ w.cell? ⟨g5, 3, none⟩ = some v3 ∧ w.cell? ⟨g5, 4, none⟩ = some v4 ∧ w.cell? ⟨g5, 5, none⟩ = some v5 ∧ w.cell? ⟨g5, 6, none⟩ = some v6 ∧ w.cell? ⟨g5, 7, none⟩ = some v7 ∧ w.cell? ⟨g5, 8, none⟩ = some v8 ∧ w.cell? ⟨g5, 9, none⟩ = some v9 ∧ w.cell? ⟨g5, 10, none⟩ = some v10 ∧ w.cell? ⟨g5, 11, none⟩ = some v11 ∧ w.cell? ⟨g5, 12, none⟩ = some v12) ∧ (w.cell? ⟨g6, 0, none⟩ = some u0 ∧ w.cell? ⟨g6, 1, none⟩ = some u1 ∧ w.cell? ⟨g6, 2, none⟩ = some u2 ∧ w.cell? ⟨g6, 3, none⟩ = some u3 ∧ w.cell? ⟨g6, 4, none⟩ = some u4 ∧ w.cell? ⟨g6, 5, none⟩ = some u5 ∧ w.cell? ⟨g6, 6, none⟩ = some u6 ∧ w.cell? ⟨g6, 7, none⟩ = some u7 ∧ w.cell? ⟨g6, 8, none⟩ = some u8 ∧ w.cell? ⟨g6, 9, none⟩ = some u9 ∧ w.cell? ⟨g6, 10, none⟩ = some u10 ∧ w.cell? ⟨g6, 11, none⟩ = some u11 ∧ w.cell? ⟨g6, 12, none⟩ = some u12) ∧ Below W.heap.size W w) : (w.drew.cell? ⟨g5, 0, none⟩ = some v0 ∧ w.drew.cell? ⟨g5, 1, none⟩ = some v1 ∧ w.drew.cell? ⟨g5, 2, none⟩ = some v2 ∧ w.drew.cell? ⟨g5, 3, none⟩ = some v3 ∧ w.drew.cell? ⟨g5, 4, none⟩ = some v4 ∧ w.drew.cell? ⟨g5, 5, none⟩ = some v5 ∧ w.drew.cell? ⟨g5, 6, none⟩ = some v6 ∧ w.drew.cell? ⟨g5, 7, none⟩ = some v7 ∧ w.drew.cell? ⟨g5, 8, none⟩ = some v8 ∧ w.drew.cell? ⟨g5, 9, none⟩ = some v9 ∧ w.drew.cell? ⟨g5, 10, none⟩ = some v10 ∧ w.drew.cell? ⟨g5, 11, none⟩ = some v11 ∧ w.drew.cell? ⟨g5, 12, none⟩ = some v12) ∧ (w.drew.cell? ⟨g6, 0, none⟩ = some u0 ∧ w.drew.cell? ⟨g6, 1, none⟩ = some u1 ∧ w.drew.cell? ⟨g6, 2, none⟩ = some u2 ∧ w.drew.cell? ⟨g6, 3, none⟩ = some u3 ∧ w.drew.cell? ⟨g6, 4, none⟩ = some u4 ∧ w.drew.cell? ⟨g6, 5, none⟩ = some u5 ∧ w.drew.cell? ⟨g6, 6, none⟩ = some u6 ∧ w.drew.cell? ⟨g6, 7, none⟩ = some u7 ∧ w.drew.cell? ⟨g6, 8, none⟩ = some u8 ∧ w.drew.cell? ⟨g6, 9, none⟩ = some u9 ∧ w.drew.cell? ⟨g6, 10, none⟩ = some u10 ∧ w.drew.cell? ⟨g6, 11, none⟩ = some u11 ∧ w.drew.cell? ⟨g6, 12, none⟩ = some u12) ∧ Below W.heap.size W w.drew := ⟨h.1, h.2.1, h.2.2.drew⟩
end
theorem twelve {D : List Int} (h : D.length = 12) : ∃ d0 d1 d2 d3 d4 d5 d6 d7 d8 d9 d10 d11, D = [d0, d1, d2, d3, d4, d5, d6, d7, d8, d9, d10, d11] := by
  match D, h with
  | [d0, d1, d2, d3, d4, d5, d6, d7, d8, d9, d10, d11], _ => exact ⟨d0, d1, d2, d3, d4, d5, d6, d7, d8, d9, d10, d11, rfl⟩
set_option maxHeartbeats 2000000 in
theorem sums_walk (a b : Int) (ha : fits a) (hb : fits b) (w : World) :
    Calls Try.prog 5 #[.int .i64 a, .int .i64 b] w fun e w' => e = .returned (.bool true) ∧ Below w.heap.size w w' := by
  have H1 := Lib.hid (Num.add_any a b ha hb)
  have H4 := Lib.hid (Num.sub_any a b ha hb)
  have H2 := Lib.hid (of_any a ha)
  have H3 := Lib.hid (of_any b hb)
  have H0 := Lib.hid (And.intro ha hb)
  clear ha hb
  go_enter Try.func5, Try.ntmps5
  go_wp2_with (first
    | (go_at_call 15; (with_reducible refine (H2.out _).mono ?_); rintro e w1 ⟨A, rfl, vA, lA, hb1⟩)
    | (go_at_call 15; (with_reducible refine (H3.out _).mono ?_); rintro e w2 ⟨B, rfl, vB, lB, hb2⟩)
    | (with_reducible refine store_big rfl (.tmp 5) (.tmp 12) rfl _ A _ rfl rfl vA.len _ (ab5 w2 _ _) rfl ?_)
    | (with_reducible refine store_big rfl (.tmp 6) (.tmp 14) rfl _ B _ rfl rfl vB.len _ (ab6 w2 _ _ _) rfl ?_; refine two_news (C := fun W => wpList _ _ _ _ _ W) w2 _ _ _ _ ?_; intro W0 bA bB hb3 hsz)
    | (go_at_call 16; (with_reducible refine (H1.out _).mono ?_); rintro e w3 ⟨rfl, rfl⟩; simp only [tells])
    | (go_at_call 17; (with_reducible refine (H4.out _).mono ?_); rintro e w4 ⟨rfl, rfl⟩; simp only [tells]))
  have hA := big_range bA
  have hB := big_range bB
  have h5 : w2.heap.size < W0.heap.size := by omega
  have h6 : w2.heap.size + 1 < W0.heap.size := by omega
  have hbw : Below w.heap.size w W0 := (hb1.trans (hb2.mono hb1.size)).trans (hb3.mono (Nat.le_trans hb1.size hb2.size))
  generalize w2.heap.size = g5 at *
  generalize g5 + 1 = g6 at *
  clear hb1 hb2 hb3 hsz bA bB
  have EA := Lib.hid (sg_mag a)
  have EB := Lib.hid (sg_mag b)
  have MA := mag_le H0.out.1
  have MB := mag_le H0.out.2
  generalize decide (a < 0) = na at *
  generalize decide (b < 0) = nb at *
  generalize mag a = ma at *
  generalize mag b = mb at *
  obtain ⟨a0, a1, a2, a3, a4, a5, a6, a7, a8, a9, a10, a11, rfl⟩ := twelve vA.len
  obtain ⟨b0, b1, b2, b3, b4, b5, b6, b7, b8, b9, b10, b11, rfl⟩ := twelve vB.len
  have hS0 := And.intro (c13_mk hA) (And.intro (c13_mk hB) (Below.refl W0.heap.size W0))
  clear hA hB H1 H2 H3 H4
  have hs : ma + mb < 65536 ^ 12 := by have : (65536 : Int) ^ 12 = 6277101735386680763835789423207666416102355444464034512896 := by decide
                                       omega
  have HS := Lib.hid hs
  clear hs
  generalize hov : okV (a + b) = ov at *
  generalize hob : okB (a + b) = ob at *
  have HOV := Lib.hid hov
  have HOB := Lib.hid hob
  clear hov hob
  generalize hov2 : okV (a - b) = ov2 at *
  generalize hob2 : okB (a - b) = ob2 at *
  have HOV2 := Lib.hid hov2
  have HOB2 := Lib.hid hob2
  clear hov2 hob2
  have HAB : Hid (sg na ma + sg nb mb = a + b) := Lib.hid (by rw [EA.out, EB.out])
  have HAB2 : Hid (sg na ma + sg (!nb) mb = a - b) := Lib.hid (by rw [sg_not, EA.out, EB.out]; omega)
  have C1 : Hid (∀ W, Calls Try.prog 19 #[.agg #[.int .i64 a0, .int .i64 a1, .int .i64 a2, .int .i64 a3, .int .i64 a4, .int .i64 a5, .int .i64 a6, .int .i64 a7, .int .i64 a8, .int .i64 a9, .int .i64 a10, .int .i64 a11, .bool na], .agg #[.int .i64 b0, .int .i64 b1, .int .i64 b2, .int .i64 b3, .int .i64 b4, .int .i64 b5, .int .i64 b6, .int .i64 b7, .int .i64 b8, .int .i64 b9, .int .i64 b10, .int .i64 b11, .bool nb]] W (SBig (sg na ma + sg nb mb) (ma + mb) W)) := Lib.hid (fun W => add_any na nb vA vB HS.out W)
  have C2 : Hid (∀ W, Calls Try.prog 20 #[.agg #[.int .i64 b0, .int .i64 b1, .int .i64 b2, .int .i64 b3, .int .i64 b4, .int .i64 b5, .int .i64 b6, .int .i64 b7, .int .i64 b8, .int .i64 b9, .int .i64 b10, .int .i64 b11, .bool nb]] W fun e w' => e = .returned (.agg (bigA [b0, b1, b2, b3, b4, b5, b6, b7, b8, b9, b10, b11] !nb)) ∧ Below W.heap.size W w') := Lib.hid (fun W => turn_any nb vB W)
  have C3 : Hid (∀ W, Calls Try.prog 19 #[.agg #[.int .i64 a0, .int .i64 a1, .int .i64 a2, .int .i64 a3, .int .i64 a4, .int .i64 a5, .int .i64 a6, .int .i64 a7, .int .i64 a8, .int .i64 a9, .int .i64 a10, .int .i64 a11, .bool na], .agg (bigA [b0, b1, b2, b3, b4, b5, b6, b7, b8, b9, b10, b11] !nb)] W (SBig (sg na ma + sg (!nb) mb) (ma + mb) W)) := Lib.hid (fun W => add_any na (!nb) vA vB HS.out W)
  go_region_held3 (fun w' => (w'.cell? ⟨g5, 0, none⟩ = some (.int .i64 a0) ∧ w'.cell? ⟨g5, 1, none⟩ = some (.int .i64 a1) ∧ w'.cell? ⟨g5, 2, none⟩ = some (.int .i64 a2) ∧ w'.cell? ⟨g5, 3, none⟩ = some (.int .i64 a3) ∧ w'.cell? ⟨g5, 4, none⟩ = some (.int .i64 a4) ∧ w'.cell? ⟨g5, 5, none⟩ = some (.int .i64 a5) ∧ w'.cell? ⟨g5, 6, none⟩ = some (.int .i64 a6) ∧ w'.cell? ⟨g5, 7, none⟩ = some (.int .i64 a7) ∧ w'.cell? ⟨g5, 8, none⟩ = some (.int .i64 a8) ∧ w'.cell? ⟨g5, 9, none⟩ = some (.int .i64 a9) ∧ w'.cell? ⟨g5, 10, none⟩ = some (.int .i64 a10) ∧ w'.cell? ⟨g5, 11, none⟩ = some (.int .i64 a11) ∧ w'.cell? ⟨g5, 12, none⟩ = some (.bool na)) ∧ (w'.cell? ⟨g6, 0, none⟩ = some (.int .i64 b0) ∧ w'.cell? ⟨g6, 1, none⟩ = some (.int .i64 b1) ∧ w'.cell? ⟨g6, 2, none⟩ = some (.int .i64 b2) ∧ w'.cell? ⟨g6, 3, none⟩ = some (.int .i64 b3) ∧ w'.cell? ⟨g6, 4, none⟩ = some (.int .i64 b4) ∧ w'.cell? ⟨g6, 5, none⟩ = some (.int .i64 b5) ∧ w'.cell? ⟨g6, 6, none⟩ = some (.int .i64 b6) ∧ w'.cell? ⟨g6, 7, none⟩ = some (.int .i64 b7) ∧ w'.cell? ⟨g6, 8, none⟩ = some (.int .i64 b8) ∧ w'.cell? ⟨g6, 9, none⟩ = some (.int .i64 b9) ∧ w'.cell? ⟨g6, 10, none⟩ = some (.int .i64 b10) ∧ w'.cell? ⟨g6, 11, none⟩ = some (.int .i64 b11) ∧ w'.cell? ⟨g6, 12, none⟩ = some (.bool nb)) ∧ Below W0.heap.size W0 w') (first | assumption | exact keep2_drew hS0 | exact keep2 (by assumption) h5 h6 (by assumption))
    (first
      | (go_at_call 19; (with_reducible refine (C1.out _).mono ?_); rintro e w3 ⟨D, nd, md, rfl, vD, hsg, _, hb3⟩; have HD := Lib.hid hsg; clear hsg)
      | (go_at_call 18; (with_reducible refine (same_at vD (HD.out.trans HAB.out) HOV.out HOB.out _).mono ?_); rintro e w4 ⟨rfl, hb4⟩)
      | (go_at_call 20; (with_reducible refine (C2.out _).mono ?_); rintro e w5 ⟨rfl, hb5⟩)
      | (go_at_call 19; (with_reducible refine (C3.out _).mono ?_); rintro e w6 ⟨D2, nd2, md2, rfl, vD2, hsg2, _, hb6⟩; have HD2 := Lib.hid hsg2; clear hsg2)
      | (go_at_call 18; (with_reducible refine (same_at vD2 (HD2.out.trans HAB2.out) HOV2.out HOB2.out _).mono ?_); rintro e w7 ⟨rfl, hb7⟩)
      | (go_at_call 14; (with_reducible refine (awake_any _).mono ?_); rintro e w5 ⟨rfl, rfl⟩))
  go_wp2
  go_ret
  exact ⟨rfl, fin2 hbw (by assumption)⟩
end Go.Proofs.Ytfdnbefeidpccaa.Big
