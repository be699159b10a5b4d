/- FifoSizes: a fifo can be made just of so many places and such sizes as the document lets, and has that size; it takes so many elements and no more. For all numbers. -/
import Derived.Test.YtaiggfoeobehlaaFfQ
namespace Go.Proofs.Ytaiggfoeobehlaa.Ff
open Go Go.RowKit Go.Shelf Go.Proofs.Ytaiggfoeobehlaa.Mem
set_option linter.unusedVariables false
set_option linter.unusedSimpArgs false
def zs (k : Nat) : List UInt8 := List.replicate k 0
def full (n z : Nat) : Fo := ⟨false, false, [], (List.range n).map (chunk (zs (n * z + z)) z), n, z⟩
theorem sizes_w1 (n z : Nat) (hz : 1 ≤ z) (hn : 1 ≤ n) : writeO (newO n z) 0 (zs (n * z + z)) = (((n : Int), 0), full n z) := by
  have h1 : (n * z + z) % z = 0 := by simp
  have h2 : (n * z + z) / z = n + 1 := by rw [show n * z + z = (n + 1) * z by rw [Nat.add_mul, Nat.one_mul], Nat.mul_div_cancel _ (by omega)]
  unfold writeO
  rw [show checkO (newO n z) 0 = 0 from rfl, if_neg (by simp), if_neg (by simp only [zs, List.length_replicate, newO]; omega), if_neg (by simp [toC, newO]), if_neg (by simp [toE, newO]; omega)]
  simp only [zs, List.length_replicate, newO, toE, ↓reduceIte, List.length_nil, Nat.sub_zero, h2, List.nil_append]
  rw [show min (n + 1) n = n by omega]
  rfl
theorem sizes_w2 (n z : Nat) (hz : 1 ≤ z) : writeO (full n z) 0 (zs z) = ((0, -22), full n z) := by
  unfold writeO
  rw [show checkO (full n z) 0 = 0 from rfl, if_neg (by simp), if_neg (by simp only [zs, List.length_replicate, full, Nat.mod_self]; omega), if_neg (by simp [toC, full]), if_pos (by simp [toE, full])]
set_option maxHeartbeats 4000000 in
theorem sizes_row (a : Int) (ha : (Lit.int .i64 a).wf = true) (b : Int) (hb : (Lit.int .i64 b).wf = true) (w : World) :
    Calls Try.prog 5 #[.int .i64 a, .int .i64 b] w fun e w' => e = .returned (.bool true) ∧ Below w.heap.size w w' := by
  have HR := Lib.hid (right_ref a b)
  have HA := Lib.hid awake_any
  by_cases hok : okN a b = true
  · have hok' := hok
    unfold okN at hok'
    rw [Bool.and_eq_true, decide_eq_true_eq] at hok'
    obtain ⟨⟨h1, h2, h3, h4, h5⟩, -⟩ := hok'
    obtain ⟨n, rfl⟩ : ∃ n : Nat, a = n := ⟨a.toNat, by omega⟩
    obtain ⟨z, rfl⟩ : ∃ z : Nat, b = z := ⟨b.toNat, by omega⟩
    have hnz : n * z ≤ 4096 := by
      have : ((n * z : Nat) : Int) ≤ 4096 := by rw [Int.natCast_mul]; exact h5
      omega
    have HN := Lib.hid (new_st (Star.nil w) n z hok)
    have HSz := Lib.hid (fun (W : World) (h : Star w W [FoA w.heap.size (newO n z)]) => size_st h 0 rfl)
    have HLn := Lib.hid (fun (W : World) (h : Star w W [FoA w.heap.size (newO n z)]) => len_st h 0 rfl 0)
    have HSh := Lib.hid (fun (W : World) (h : Star w W [FoA w.heap.size (newO n z)]) => shows_st h 0 rfl 0)
    have hsh : showsO (newO n z) 0 = 2 := by
      unfold showsO
      rw [show openO (newO n z) 0 = true from rfl, if_pos rfl, if_pos rfl]
      unfold showsE newO
      simp
      omega
    rw [hsh] at HSh
    rw [show lenO (newO n z) 0 = 0 from rfl] at HLn
    rw [show (newO n z).z = z from rfl] at HSz
    obtain ⟨q, eq⟩ : ∃ q, q = n * z + z := ⟨_, rfl⟩
    have hw1 : IntKind.i64.wrap ((n : Int) * z) = ((n * z : Nat) : Int) := by
      rw [IntKind.wrap_i64, ← Int.natCast_mul]
      omega
    have hw2 : ((n * z : Nat) : Int) + (z : Int) = (q : Int) := by omega
    have hq : q ≤ 4160 := by omega
    have HM1 := fun W => make_b q (by omega) W
    have HM2 := fun W => make_b z (by omega) W
    have HW1 := Lib.hid (fun (W : World) (h : Star w W [FoA w.heap.size (newO n z)]) => write_st ((h.litRow 5 1 (byV (List.replicate q 0)).toArray q (by simp only [maxLen]; omega) (by simp [byV])).toO 0 rfl) 1 rfl 0 (some ⟨W.heap.size, 0, none⟩) q q (List.replicate q 0) 0 rfl (by omega))
    have e1 := sizes_w1 n z (by omega) (by omega)
    unfold zs at e1
    rw [← eq] at e1
    rw [e1] at HW1
    have HW2 := Lib.hid (fun (W : World) (A : Asr) (h : Star w W [A, FoA w.heap.size (full n z)]) => write_st ((h.litRow 5 1 (byV (List.replicate z 0)).toArray z (by simp only [maxLen]; omega) (by simp [byV])).toO 0 rfl) 2 rfl 0 (some ⟨W.heap.size, 0, none⟩) z z (List.replicate z 0) 0 rfl (by omega))
    have e2 := sizes_w2 n z (by omega)
    unfold zs at e2
    rw [e2] at HW2
    have HL2 := Lib.hid (fun (W : World) (A B : Asr) (h : Star w W [A, B, FoA w.heap.size (full n z)]) => len_st h 2 rfl 1)
    rw [show lenO (full n z) 1 = n by simp [lenO, full]] at HL2
    rw [hok] at HR
    simp only [List.set_cons_zero, List.set_cons_succ] at HW1 HW2
    have hzi : (z : Int) ≤ 64 := by omega
    have hqi : (q : Int) ≤ 4160 := by omega
    generalize full n z = fu at *
    generalize newO n z = f0 at *
    generalize n * z = nz at *
    clear hok hnz e1 e2 eq hsh h5
    go_enter Try.func5, Try.ntmps5
    go_wp2_with (first
      | (go_at_call 8; (with_reducible refine HN.out.mono ?_); rintro e w1 ⟨rfl, hs1⟩; have HS1 := Lib.hid hs1; clear hs1)
      | (go_at_call 9; (with_reducible refine (HR.out _).mono ?_); rintro e w2 ⟨rfl, rfl⟩)
      | (go_at_call 17; (with_reducible refine (HSz.out _ HS1.out).mono ?_); rintro e w3 ⟨rfl, hs3⟩; have HS3 := Lib.hid hs3; clear hs3)
      | (go_at_call 15; (with_reducible refine (HLn.out _ HS3.out).mono ?_); rintro e w4 ⟨rfl, hs4⟩; have HS4 := Lib.hid hs4; clear hs4)
      | (go_at_call 18; (with_reducible refine (HSh.out _ HS4.out).mono ?_); rintro e w5 ⟨rfl, hs5⟩; have HS5 := Lib.hid hs5; clear hs5)
      | (go_at_call 12; (with_reducible refine (HW1.out _ HS5.out).mono ?_); rintro e w6 ⟨rfl, hs6⟩; have HS6 := Lib.hid hs6; clear hs6)
      | (go_at_call 12; (with_reducible refine (HW2.out _ _ HS6.out).mono ?_); rintro e w7 ⟨rfl, hs7⟩; have HS7 := Lib.hid hs7; clear hs7)
      | (go_at_call 15; (with_reducible refine (HL2.out _ _ _ HS7.out).mono ?_); rintro e w8 ⟨rfl, hs8⟩; have HS8 := Lib.hid hs8; clear hs8)
      | (go_at_call 10; (with_reducible refine (HA.out _).mono ?_); rintro e w9 ⟨rfl, hb9⟩))
    go_ret
    exact ⟨rfl, HS8.out.below.trans (hb9.mono HS8.out.hb)⟩
  · rw [Bool.eq_false_iff.2 hok] at HR
    have HN := Lib.hid (new_none a b (Bool.eq_false_iff.2 hok) w)
    clear hok
    go_enter Try.func5, Try.ntmps5
    go_wp2_with (first
      | (go_at_call 8; (with_reducible refine HN.out.mono ?_); rintro e w1 ⟨rfl, rfl⟩)
      | (go_at_call 9; (with_reducible refine (HR.out _).mono ?_); rintro e w2 ⟨rfl, rfl⟩)
      | (go_at_call 10; (with_reducible refine (HA.out _).mono ?_); rintro e w9 ⟨rfl, hb9⟩))
    go_ret
    exact ⟨rfl, hb9⟩
end Go.Proofs.Ytaiggfoeobehlaa.Ff
