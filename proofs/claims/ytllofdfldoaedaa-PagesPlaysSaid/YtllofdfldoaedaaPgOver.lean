/- The walk of PagesOver. -/
import Derived.Test.YtllofdfldoaedaaPgJ
namespace Go.Proofs.Ytllofdfldoaedaa.Pg
open Go Go.RowKit Go.Proofs.Ytllofdfldoaedaa.Mem
set_option linter.unusedVariables false
set_option linter.unusedSimpArgs false
theorem within_true {a n : Int} (h : 0 ≤ a ∧ 0 ≤ n ∧ a ≤ 64 ∧ n ≤ 64 - a) : withinN a n 64 = true := decide_eq_true h
theorem within_false {a n : Int} (h : ¬ (0 ≤ a ∧ 0 ≤ n ∧ a ≤ 64 ∧ n ≤ 64 - a)) : withinN a n 64 = false := decide_eq_false h
theorem write_one (d l : List UInt8) {a : Int} (h : withinN a l.length 64 = true) : writeS [⟨d, 1⟩] 0 a l = (0, [⟨splice d a.toNat l, 1⟩]) := by
  unfold writeS
  rw [if_neg (by show ¬ (1 : Int) = 0; omega), if_pos h, if_neg (by show ¬ (1 : Int) < 1; omega)]
  rfl
theorem write_bad (d l : List UInt8) {a : Int} (h : withinN a l.length 64 = false) : writeS [⟨d, 1⟩] 0 a l = (-14, [⟨d, 1⟩]) := by
  unfold writeS
  rw [if_neg (by show ¬ (1 : Int) = 0; omega), if_neg (by rw [h]; simp)]
theorem read_all {d : List UInt8} (h : d.length = 64) : readS [⟨d, 1⟩] 0 0 64 = (d, 0) := by
  unfold readS
  rw [if_neg (by show ¬ (1 : Int) = 0; omega), if_pos (within_true (by omega))]
  show (List.take 64 d, (0 : Int)) = (d, 0)
  rw [List.take_of_length_le (by omega)]
theorem gd_one (d : List UInt8) {cap : Int} (h : 1 ≤ cap ∧ cap ≤ 65536) : Gd 2 [⟨d, 1⟩] cap := ⟨by omega, h.2, by simp; omega, by simp⟩
def zero64 : List UInt8 := List.replicate 64 0
theorem make_run (W : World) : (Instr.makeSlice 22 (.int .i64 64) (.int .i64 64)).run Try.prog W = .ok (.slice (some ⟨W.heap.size, 0, none⟩) 64 64) (W.alloc (.cells (bytesV zero64).toArray 5)) := by kernel_rfl
set_option maxHeartbeats 4000000 in
theorem over_walk (A : Option Addr) (c : Nat) (la : List UInt8) (A' : Option Addr) (c' : Nat) (lb : List UInt8) (at_ : Int) (w : World) (hra : Reads w w.heap.size 1 A la.length (bytesV la)) (hrb : Reads w w.heap.size 1 A' lb.length (bytesV lb)) (hma : la.length ≤ maxLen) (hmb : lb.length ≤ maxLen) (hat : -9223372036854775808 ≤ at_ ∧ at_ ≤ 9223372036854775807) :
    Calls Try.prog 3 #[.slice A la.length c, .slice A' lb.length c', .int .i64 at_] w fun e w' => e = .returned (.bool true) ∧ Below w.heap.size w w' := by
  have HMb := Lib.hid hmb
  unfold maxLen at hma hmb
  have HA := Lib.hid awake_any
  have HN := Lib.hid (new_st (Star.nil w) (cap := 1) (by omega))
  by_cases hn : 64 < la.length
  · clear hra hrb
    generalize la.length = n at *
    go_enter Try.func3, Try.ntmps3
    go_wp2_with (first
      | (go_at_call 9; (with_reducible refine HN.out.mono ?_); rintro e w1 ⟨rfl, hs1⟩)
      | (go_at_call 10; (with_reducible refine (HA.out _).mono ?_); rintro e w2 ⟨rfl, hb2⟩))
    go_ret
    exact ⟨rfl, hs1.below.trans (hb2.mono hs1.below.size)⟩
  · have HRa := Lib.hid hra
    have HRb := Lib.hid hrb
    have e1 : allocS [] 1 = (0, 0, [newFr]) := rfl
    have HA1 := Lib.hid (fun (W : World) (h : Star w W [PzA w.heap.size [] 1]) => alloc_st (N := 1) h 0 rfl (gd_nil (by omega) 1))
    rw [e1] at HA1
    have HW1 := Lib.hid (fun (W : World) (h : Star w W [PzA w.heap.size [newFr] 1]) => write_st h 0 rfl (gd_one _ (by omega)) 0 0 (c := c) (hra.below h.below) (by unfold maxLen; omega))
    rw [show writeS [newFr] 0 0 la = (0, [⟨splice (List.replicate 64 0) (0 : Int).toNat la, 1⟩]) from write_one _ _ (within_true (by omega))] at HW1
    simp only [List.set_cons_zero] at HA1 HW1
    obtain ⟨d1, hd1⟩ : ∃ d1, d1 = splice (List.replicate 64 0) (0 : Int).toNat la := ⟨_, rfl⟩
    rw [← hd1] at HW1
    have HD1 := Lib.hid hd1
    have hn2 : la.length ≤ 64 := by omega
    clear hra hrb hd1 hn e1
    obtain ⟨n, hn⟩ : ∃ n, n = la.length := ⟨_, rfl⟩
    rw [← hn] at hn2 HRa HW1 ⊢
    have HNe := Lib.hid hn
    clear hn
    obtain ⟨ZZ, hZZ⟩ : ∃ ZZ, ZZ = (bytesV zero64).toArray := ⟨_, rfl⟩
    have hmk : ∀ W, (Instr.makeSlice 22 (.int .i64 64) (.int .i64 64)).run Try.prog W = .ok (.slice (some ⟨W.heap.size, 0, none⟩) 64 64) (W.alloc (.cells ZZ 5)) := fun W => by rw [hZZ]; exact make_run W
    have HZ := Lib.hid (show ZZ.toList = bytesV zero64 by rw [hZZ])
    have HZs := Lib.hid (show ZZ.size = 64 * 1 by rw [hZZ]; simp [bytesV_len, zero64])
    clear hZZ
    go_enter Try.func3, Try.ntmps3
    go_upto_region 8 with (first
      | (go_at_call 9; (with_reducible refine HN.out.mono ?_); rintro e w1 ⟨rfl, hs1⟩
         have HS1 := Lib.hid hs1
         clear hs1)
      | (go_at_call 11; (with_reducible refine (HA1.out _ HS1.out).mono ?_); rintro e w2 ⟨rfl, hs2⟩
         have HS2 := Lib.hid hs2
         clear hs2)
      | (go_at_call 12; (with_reducible refine (HW1.out _ HS2.out).mono ?_); rintro e w3 ⟨rfl, hs3⟩
         have HS3 := Lib.hid hs3
         clear hs3))
    have hs4 := HS3.out.litRow 5 1 ZZ 64 (by simp [maxLen]) HZs.out
    rw [HZ.out] at hs4
    have HS4 := Lib.hid hs4
    clear hs4 HS3 HS2 HS1 HZ HZs hmk HN HA1 HW1
    generalize w3.alloc _ = W4 at *
    generalize w3.heap.size = gw at *
    have HRa4 := Lib.hid (HRa.out.below HS4.out.below)
    have hdp : 0 < n → (some ⟨gw, 0, none⟩ : Option Addr) = some ⟨gw, 0, none⟩ := fun _ => rfl
    have hn64 : 0 + n ≤ 64 * 1 := by omega
    go_upto_region 9 with (first
      | (with_reducible refine wpList_copy_st rfl (.tmp 42) (.tmp 43) 22 22 rfl 5 Try.underlying22 (by kernel_rfl) HS4.out 0 rfl (some ⟨gw, 0, none⟩) 64 64 0 rfl w.heap.size A n c rfl (bytesV la) HRa4.out hn2 hdp hn64 (bytesV_one la) ?_
         intro w5 hs5))
    rw [bytesV_splice, show splice zero64 0 la = d1 from HD1.out.symm] at hs5
    simp only [List.set_cons_zero] at hs5
    have hd1 : d1.length = 64 := by rw [HD1.out, length_splice _ _ _ (by simp; rw [← HNe.out]; omega)]; simp
    have HD := Lib.hid hd1
    have HS5 := Lib.hid hs5
    have HG := Lib.hid (gd_one d1 (cap := 1) (by omega))
    clear hs5 HS4 HRa4 hdp hn64 HD1 HNe hd1 HRa
    obtain ⟨m, hm⟩ : ∃ m, m = lb.length := ⟨_, rfl⟩
    have HMe := Lib.hid hm
    rw [← hm] at HMb HRb hmb
    simp only [← hm]
    clear hm
    have HRb5 := Lib.hid (HRb.out.below HS5.out.below)
    by_cases hin : 0 ≤ at_ ∧ 0 ≤ (m : Int) ∧ at_ ≤ 64 ∧ (m : Int) ≤ 64 - at_
    · have hw := write_st HS5.out 1 rfl HG.out 0 at_ (c := c') HRb5.out HMb.out
      rw [write_one _ _ (by rw [← HMe.out]; exact within_true hin)] at hw
      simp only [List.set_cons_zero, List.set_cons_succ] at hw
      have HW := Lib.hid hw
      clear hw
      obtain ⟨a1, a2, a3, a4⟩ := hin
      obtain ⟨k, rfl⟩ : ∃ k : Nat, at_ = k := ⟨at_.toNat, by omega⟩
      rw [Int.toNat_natCast] at HW
      obtain ⟨d2, hd2⟩ : ∃ d2, d2 = splice d1 k lb := ⟨_, rfl⟩
      rw [← hd2] at HW
      have hd2l : d2.length = 64 := by rw [hd2, length_splice _ _ _ (by rw [HD.out, ← HMe.out]; omega), HD.out]
      have HD2 := Lib.hid hd2
      have HD2l := Lib.hid hd2l
      clear hd2 hd2l
      obtain ⟨a0, ha0⟩ : ∃ a0 : Addr, a0 = if (64 : Nat) = k then ⟨gw, 0, none⟩ else ⟨gw, k, none⟩ := ⟨_, rfl⟩
      have hsl : ∀ W, (Instr.slice 22 (.slice (some ⟨gw, 0, none⟩) 64 64) (some (.int .i64 k)) none none).run Try.prog W = .ok (.slice (some a0) (64 - k) (64 - k)) W := fun W => by
        have h1 := run_slice_l (P := Try.prog) W 22 (some ⟨gw, 0, none⟩) 64 64 Try.underlying22 .i64 k (by omega) (by omega)
        rw [h1]
        have h2 : (sizeOf (Try.prog.elem 22)).run Try.prog W = .ok 1 W := by kernel_rfl
        rw [h2]
        simp only [Result.andThen_ok, sliced, Int.toNat_natCast, ha0, Option.map_some]
        by_cases e : 64 = k
        · rw [if_pos e, if_pos e]
        · rw [if_neg e, if_neg e]
          unfold Addr.add
          split
          · rename_i h0; rw [show k = 0 by omega]
          · simp
      have HDP := Lib.hid (show 0 < m → some a0 = some ⟨gw, k, none⟩ from fun hp => by rw [ha0, if_neg (by omega)])
      have HFi := Lib.hid (show k + m ≤ 64 * 1 by omega)
      have HMi := Lib.hid (show m ≤ 64 - k by omega)
      clear ha0
      go_upto_region 16 with (first
        | (go_at_call 12; (with_reducible refine HW.out.mono ?_); rintro e w6 ⟨rfl, hs6⟩
           have HS6 := Lib.hid hs6
           have HRb6 := Lib.hid (HRb.out.below hs6.below)
           clear hs6)
        | (with_reducible refine wpList_copy_st rfl (.tmp 67) (.tmp 68) 22 22 rfl 5 Try.underlying22 (by kernel_rfl) HS6.out 0 rfl (some a0) (64 - k) (64 - k) k rfl w.heap.size A' m c' rfl (bytesV lb) HRb6.out HMi.out HDP.out HFi.out (bytesV_one lb) ?_
           intro w7 hs7))
      rw [bytesV_splice, ← HD2.out] at hs7
      simp only [List.set_cons_zero] at hs7
      have HS7 := Lib.hid hs7
      clear hs7 HS6
      have HRd := Lib.hid (fun (W : World) (h : Star w W [RowA 5 1 (.slice (some ⟨gw, 0, none⟩) 64 64) 64 (bytesV d2), PzA w.heap.size [⟨d2, 1⟩] 1]) => read_st h 1 rfl 0 0 64 (by omega))
      rw [read_all HD2l.out] at HRd
      simp only [HD2l.out] at HRd
      go_wp2_with (first
        | (go_at_call 12; (with_reducible refine HW.out.mono ?_); rintro e w6 ⟨rfl, hs6⟩
           have HS7 := Lib.hid hs6
           clear hs6)
        | (go_at_call 13; (with_reducible refine (HRd.out _ HS7.out).mono ?_); rintro e w8 ⟨v, rfl, hs8⟩
           obtain ⟨A9, c9, rfl⟩ := own_len (hs8.row 0 rfl)
           have HS8 := Lib.hid hs8
           clear hs8)
        | (go_at_call 14; (with_reducible refine (same_any (HS8.out.reads 0 rfl) (HS8.out.reads 1 rfl)).mono ?_); rintro e w9 ⟨rfl, rfl⟩)
        | (go_at_call 10; (with_reducible refine (HA.out _).mono ?_); rintro e w10 ⟨rfl, hb10⟩))
      go_ret
      exact ⟨by simp, HS8.out.below.trans (hb10.mono HS8.out.below.size)⟩
    · have hw := write_st HS5.out 1 rfl HG.out 0 at_ (c := c') HRb5.out HMb.out
      rw [write_bad _ _ (by rw [← HMe.out]; exact within_false hin)] at hw
      simp only [List.set_cons_zero, List.set_cons_succ] at hw
      have HW := Lib.hid hw
      clear hw
      have hcase : at_ < 0 ∨ (0 ≤ at_ ∧ 64 < at_) ∨ (0 ≤ at_ ∧ at_ ≤ 64 ∧ 64 - at_ < (m : Int)) := by omega
      clear hin
      rcases hcase with h1 | ⟨h1, h2⟩ | ⟨h1, h2, h3⟩
      all_goals
        have HRd := Lib.hid (fun (W : World) (h : Star w W [RowA 5 1 (.slice (some ⟨gw, 0, none⟩) 64 64) 64 (bytesV d1), PzA w.heap.size [⟨d1, 1⟩] 1]) => read_st h 1 rfl 0 0 64 (by omega))
        rw [read_all HD.out] at HRd
        simp only [HD.out] at HRd
        go_wp2_with (first
          | (go_at_call 12; (with_reducible refine HW.out.mono ?_); rintro e w6 ⟨rfl, hs6⟩
             have HS7 := Lib.hid hs6
             clear hs6)
          | (go_at_call 13; (with_reducible refine (HRd.out _ HS7.out).mono ?_); rintro e w8 ⟨v, rfl, hs8⟩
             obtain ⟨A9, c9, rfl⟩ := own_len (hs8.row 0 rfl)
             have HS8 := Lib.hid hs8
             clear hs8)
          | (go_at_call 14; (with_reducible refine (same_any (HS8.out.reads 0 rfl) (HS8.out.reads 1 rfl)).mono ?_); rintro e w9 ⟨rfl, rfl⟩)
          | (go_at_call 10; (with_reducible refine (HA.out _).mono ?_); rintro e w10 ⟨rfl, hb10⟩))
        go_ret
        exact ⟨by simp, HS8.out.below.trans (hb10.mono HS8.out.below.size)⟩
end Go.Proofs.Ytllofdfldoaedaa.Pg
