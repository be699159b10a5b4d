/- Contracts of plus, minus, less and Turn (package jacinthref01). -/
import Derived.Test.YtfdnbefeidpccaaBig
namespace Go.Proofs.Ytfdnbefeidpccaa.Big
open Go Go.RowKit Go.Proofs.Ytfdnbefeidpccaa.Mem
set_option linter.unusedVariables false
theorem info30 : (Try.prog.info? 30).map (·.size) = some 13 := by kernel_rfl
def Gives (D m : Prop) : Prop := D ∧ m
def BigIs (neg : Bool) (m : Int) (w : World) (e : Ending) (w' : World) : Prop := ∃ D, e = .returned (.agg (bigA D neg)) ∧ V D m ∧ Below w.heap.size w w'
set_option maxHeartbeats 1000000 in
theorem plus_any {A B : List Int} {m n : Int} (na nb : Bool) (hA : V A m) (hB : V B n) (hs : m + n < 65536 ^ 12) (w : World) :
    Calls Try.prog 30 #[.agg (bigA A na), .agg (bigA B nb)] w (BigIs na (m + n) w) := by
  have eA := bigA_neg (neg := na) hA.len
  have HA := Lib.hid hA
  have HB := Lib.hid hB
  clear hA hB
  go_enter Try.func30, Try.ntmps30
  go_wp2
  go_loopw [6, 7] (fun c i wr => ∃ (k : Nat) (cc : Int) (O : List Int), k ≤ 12 ∧ i = .int .i64 k ∧ c = .int .i64 cc ∧ Blk wr w.heap.size 30 (bigA A na) ∧ Blk wr (w.heap.size + 1) 30 (bigA B nb) ∧ Blk wr (w.heap.size + 1 + 1) 30 (bigA (List.replicate 12 0) false) ∧ Blk wr (w.heap.size + 1 + 1 + 1) 30 (bigA O na) ∧ PlusAt A B O k cc ∧ Below w.heap.size w wr)
    (fun _ i _ => 12 - (intOf i).toNat)
  case atStart => 
    refine ⟨0, 0, List.replicate 12 0, by omega, rfl, rfl, ?_, ?_, ?_, ?_, PlusAt.start A B, ?_⟩
    · exact (((Blk.new _ _ _).alloc _).alloc _).alloc _
    · exact ((Blk.newAt (by simp)).alloc _).alloc _
    · exact (Blk.newAt (by simp)).alloc _
    · exact Blk.newAt (by simp)
    · exact ((((Below.refl _ _).alloc (Nat.le_refl _) _).alloc (by simp) _).alloc (by simp; omega) _).alloc (by simp; omega) _
  case round =>
    obtain ⟨k, cc, O, hk, rfl, rfl, bA, bB, bR, bO, hP, hb⟩ := hrel
    by_cases hlt : k < 12
    · have hA := HA.out
      have hB := HB.out
      have hPn := hP.next hA.dig hB.dig hlt
      have cA := bA.cellv (bigA_at (k := k) (by have := hA.len; omega))
      have cB := bB.cellv (bigA_at (k := k) (by have := hB.len; omega))
      have cO := bO.cellv (bigA_at (k := k) (by have := hP.len; omega))
      have fO := bO.frozen k
      have dA := hA.dig k
      have dB := hB.dig k
      have c0 := hP.c0
      have c1 := hP.c1
      have hOl := hP.len
      clear hA hB
      have HP := Lib.hid hP
      have HPn := Lib.hid hPn
      have HOl := Lib.hid hOl
      clear hP hPn hOl
      generalize hxA : A.getD k 0 = xA at cA dA
      generalize hxB : B.getD k 0 = xB at cB dB
      have HxA := Lib.hid hxA
      have HxB := Lib.hid hxB
      clear hxA hxB
      go_wp2
      go_quiet (fail)
      go_wp2
      go_roundw
      case rel =>
        refine ⟨k + 1, _, _, by omega, by go_num, rfl, bA.far (by simp; omega) _, bB.far (by simp) _, bR.far (by simp) _, bO.setv k _ (bigA_set (by rw [HOl.out]; exact hlt) _), ?_, ?_⟩
        · rw [← HxA.out, ← HxB.out]; exact HPn.out
        · exact (below_drewN hb _).setCell (by simp; omega) _
      case measure => simp [intOf]; omega
    · obtain rfl : k = 12 := by omega
      go_wp2_with (first | (with_reducible refine wpList_load_row rfl 30 (.tmp 5) rfl _ rfl 30 _ (0, 0) _ bO.heap Try.underlying30 rfl (by rw [info30, bigA_size hP.len]) ?_) | (with_reducible refine wpList_store_row rfl 30 (.tmp 4) (.tmp 34) rfl _ _ rfl rfl 30 _ bR.heap (by rw [info30, bigA_size hP.len]) (by rw [bigA_size hP.len, bigA_size rfl]) (bigA_one _ _) ?_))
      refine bodyPost_ret (v := .agg (bigA O na)) (results_cell_row rfl _ _ _ 30 _ (0, 0) _ rfl (bR.row _).heap Try.underlying30 rfl (by rw [info30, bigA_size hP.len])) rfl ⟨O, rfl, hP.done HA.out HB.out hs, below_setRow hb (by omega) _⟩
set_option maxHeartbeats 1000000 in
theorem minus_any {A B : List Int} {m n : Int} (na nb : Bool) (hA : V A m) (hB : V B n) (hs : n ≤ m) (w : World) :
    Calls Try.prog 32 #[.agg (bigA A na), .agg (bigA B nb)] w (BigIs na (m - n) w) := by
  have eA := bigA_neg (neg := na) hA.len
  have HA := Lib.hid hA
  have HB := Lib.hid hB
  clear hA hB
  go_enter Try.func32, Try.ntmps32
  go_wp2
  go_loopw [6, 7] (fun c i wr => ∃ (k : Nat) (cc : Int) (O : List Int), k ≤ 12 ∧ i = .int .i64 k ∧ c = .int .i64 cc ∧ Blk wr w.heap.size 30 (bigA A na) ∧ Blk wr (w.heap.size + 1) 30 (bigA B nb) ∧ Blk wr (w.heap.size + 1 + 1) 30 (bigA (List.replicate 12 0) false) ∧ Blk wr (w.heap.size + 1 + 1 + 1) 30 (bigA O na) ∧ MinusAt A B O k cc ∧ Below w.heap.size w wr)
    (fun _ i _ => 12 - (intOf i).toNat)
  case atStart => 
    refine ⟨0, 0, List.replicate 12 0, by omega, rfl, rfl, ?_, ?_, ?_, ?_, MinusAt.start A B, ?_⟩
    · exact (((Blk.new _ _ _).alloc _).alloc _).alloc _
    · exact ((Blk.newAt (by simp)).alloc _).alloc _
    · exact (Blk.newAt (by simp)).alloc _
    · exact Blk.newAt (by simp)
    · exact ((((Below.refl _ _).alloc (Nat.le_refl _) _).alloc (by simp) _).alloc (by simp; omega) _).alloc (by simp; omega) _
  case round =>
    obtain ⟨k, cc, O, hk, rfl, rfl, bA, bB, bR, bO, hP, hb⟩ := hrel
    by_cases hlt : k < 12
    · have hA := HA.out
      have hB := HB.out
      have hPn : ∀ s c' : Int, 0 ≤ s ∧ s < 65536 → 0 ≤ c' ∧ c' ≤ 1 → A.getD k 0 - B.getD k 0 - cc = s - c' * 65536 → MinusAt A B (O.set k s) (k + 1) c' := fun s c' => hP.next hA.dig hB.dig hlt
      have cA := bA.cellv (bigA_at (k := k) (by have := hA.len; omega))
      have cB := bB.cellv (bigA_at (k := k) (by have := hB.len; omega))
      have cO := bO.cellv (bigA_at (k := k) (by have := hP.len; omega))
      have fO := bO.frozen k
      have dA := hA.dig k
      have dB := hB.dig k
      have c0 := hP.c0
      have c1 := hP.c1
      have hOl := hP.len
      clear hA hB
      have HPn := Lib.hid hPn
      have HOl := Lib.hid hOl
      clear hP hPn hOl
      generalize hxA : A.getD k 0 = xA at cA dA HPn
      generalize hxB : B.getD k 0 = xB at cB dB HPn
      have HxA := Lib.hid hxA
      have HxB := Lib.hid hxB
      clear hxA hxB
      by_cases hneg : xA - xB - cc < 0
      all_goals
        go_wp2
        go_quiet (fail)
        go_wp2
        go_roundw
        case rel =>
          refine ⟨k + 1, _, _, by omega, by go_num, rfl, bA.far (by simp; omega) _, bB.far (by simp) _, bR.far (by simp) _, bO.setv k _ (bigA_set (by rw [HOl.out]; exact hlt) _), ?_, ?_⟩
          · exact HPn.out _ _ (by omega) (by omega) (by omega)
          · exact (below_drewN hb _).setCell (by simp; omega) _
        case measure => simp [intOf]; omega
    · obtain rfl : k = 12 := by omega
      go_wp2_with (first | (with_reducible refine wpList_load_row rfl 30 (.tmp 5) rfl _ rfl 30 _ (0, 0) _ bO.heap Try.underlying30 rfl (by rw [info30, bigA_size hP.len]) ?_) | (with_reducible refine wpList_store_row rfl 30 (.tmp 4) (.tmp 35) rfl _ _ rfl rfl 30 _ bR.heap (by rw [info30, bigA_size hP.len]) (by rw [bigA_size hP.len, bigA_size rfl]) (bigA_one _ _) ?_))
      refine bodyPost_ret (v := .agg (bigA O na)) (results_cell_row rfl _ _ _ 30 _ (0, 0) _ rfl (bR.row _).heap Try.underlying30 rfl (by rw [info30, bigA_size hP.len])) rfl ⟨O, rfl, hP.done HA.out HB.out hs, below_setRow hb (by omega) _⟩
set_option maxHeartbeats 1000000 in
theorem less_any {A B : List Int} {m n : Int} (na nb : Bool) (hA : V A m) (hB : V B n) (w : World) :
    Calls Try.prog 31 #[.agg (bigA A na), .agg (bigA B nb)] w fun e w' => e = .returned (.bool (decide (m < n))) ∧ Below w.heap.size w w' := by
  have HA := Lib.hid hA
  have HB := Lib.hid hB
  clear hA hB
  generalize hd : decide (m < n) = d
  have HD := Lib.hid hd
  clear hd
  go_enter Try.func31, Try.ntmps31
  go_wp2
  go_loopw [5] (fun i wr => ∃ (k : Nat), k ≤ 12 ∧ i = .int .i64 ((k : Int) - 1) ∧ Blk wr w.heap.size 30 (bigA A na) ∧ Blk wr (w.heap.size + 1) 30 (bigA B nb) ∧ Top A B k ∧ Below w.heap.size w wr)
    (fun i _ => (intOf i + 1).toNat)
  case atStart =>
    exact ⟨12, by omega, rfl, (Blk.new _ _ _).alloc _, Blk.newAt (by simp), Top.start A B, ((Below.refl _ _).alloc (Nat.le_refl _) _).alloc (by simp) _⟩
  case round =>
    obtain ⟨k, hk, rfl, bA, bB, hT, hb⟩ := hrel
    have hA := HA.out
    have hB := HB.out
    rcases k with _ | k
    · have e := hT.done hA hB
      rw [HD.out] at e
      subst e
      clear hA hB HD
      go_wp2
      go_ret
      exact ⟨rfl, hb⟩
    · have cA := bA.cellv (bigA_at (k := k) (by have := hA.len; omega))
      have cB := bB.cellv (bigA_at (k := k) (by have := hB.len; omega))
      have hpart := hT.parts hA hB
      have hnext := hT.next
      clear hA hB
      have HT := Lib.hid hT
      have HPart := Lib.hid hpart
      have HNext := Lib.hid hnext
      clear hT hpart hnext
      generalize hxA : A.getD k 0 = xA at cA HPart HNext
      generalize hxB : B.getD k 0 = xB at cB HPart HNext
      clear hxA hxB
      rw [show (((k + 1 : Nat) : Int) - 1) = (k : Int) by omega]
      by_cases he : xA = xB
      · subst he
        go_wp2
        go_quiet (fail)
        go_wp2
        go_roundw
        case rel => exact ⟨k, by omega, by go_num, bA, bB, HNext.out (by trivial), below_drewN hb _⟩
        case measure => simp [intOf]
      · have e := HPart.out he
        rw [HD.out] at e
        subst e
        clear HD HPart HNext
        have he1 : (xA == xB) = false := beq_eq_false_iff_ne.mpr he
        have he2 : (xA != xB) = true := bne_iff_ne.mpr he
        clear he
        go_wp2
        go_quiet (fail)
        go_wp2
        go_quiet (fail)
        go_wp2
        go_ret
        exact ⟨rfl, below_drewN (below_drewN hb _) _⟩
/-- A number with its sign. -/
def sg (neg : Bool) (m : Int) : Int := if neg then -m else m
/-- What a function of numbers gives: twelve right digits and a sign, together this number. -/
def SBig (v M : Int) (w : World) (e : Ending) (w' : World) : Prop := ∃ D neg m, e = .returned (.agg (bigA D neg)) ∧ V D m ∧ sg neg m = v ∧ m ≤ M ∧ Below w.heap.size w w'
theorem V.nonneg {D : List Int} {m : Int} (h : V D m) : 0 ≤ m := by have := (val_bound h.dig 12).1; rw [h.val] at this; exact this
theorem turn_any {A : List Int} {m : Int} (na : Bool) (hA : V A m) (w : World) :
    Calls Try.prog 20 #[.agg (bigA A na)] w fun e w' => e = .returned (.agg (bigA A !na)) ∧ Below w.heap.size w w' := by
  obtain ⟨hl, _, _⟩ := hA
  match A, hl with
  | [d0, d1, d2, d3, d4, d5, d6, d7, d8, d9, d10, d11], _ =>
    simp only [bigA, bigL, List.map_cons, List.map_nil, List.cons_append, List.nil_append]
    go_enter Try.func20, Try.ntmps20
    go_wp2
    refine bodyPost_ret (results_cell_row rfl _ _ _ 30 _ (0, 0) _ rfl (Blk.newAt (by simp)) Try.underlying30 rfl (by rw [info30]; rfl)) rfl ⟨rfl, ?_⟩
    exact ((Below.refl _ _).alloc (Nat.le_refl _) _).alloc (by simp) _
end Go.Proofs.Ytfdnbefeidpccaa.Big
