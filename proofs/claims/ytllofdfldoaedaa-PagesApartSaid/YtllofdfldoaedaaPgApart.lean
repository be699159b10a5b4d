/- The walk of PagesApart. -/
import Derived.Test.YtllofdfldoaedaaPgShared
namespace Go.Proofs.Ytllofdfldoaedaa.Pg
open Go Go.RowKit Go.Proofs.Ytllofdfldoaedaa.Mem
set_option linter.unusedVariables false
set_option linter.unusedSimpArgs false
theorem size_ad (w : World) (o : Obj) (n : Nat) : ((w.alloc o).drewN n).heap.size = w.heap.size + 1 := by simp
theorem back_read_at (d b : List UInt8) (k : Nat) (h : k + b.length ≤ d.length) : ((splice d k b).drop k).take b.length = b := by
  unfold splice
  rw [List.drop_append_of_le_length (by simp; omega)]
  rw [List.drop_of_length_le (by simp; omega)]
  simp
set_option maxRecDepth 8000 in
set_option maxHeartbeats 8000000 in
theorem apart_walk (A : Option Addr) (c : Nat) (la : List UInt8) (A' : Option Addr) (c' : Nat) (lb : List UInt8) (at_ more : Int) (hat : -9223372036854775808 ≤ at_ ∧ at_ ≤ 9223372036854775807) (hmo : -9223372036854775808 ≤ more ∧ more ≤ 9223372036854775807) (w : World)
    (hra : Reads w w.heap.size 1 A la.length (bytesV la)) (hma : la.length ≤ maxLen) (hrb : Reads w w.heap.size 1 A' lb.length (bytesV lb)) (hmb : lb.length ≤ maxLen) :
    Calls Try.prog 6 #[.agg #[.slice A la.length c, .slice A' lb.length c', .int .i64 at_, .int .i64 more]] w fun e w' => e = .returned (.bool true) ∧ Below w.heap.size w w' := by
  have HA := Lib.hid awake_any
  have HMb := Lib.hid hmb
  unfold maxLen at hma hmb
  have HN := Lib.hid (fun n => (new_st (((Star.nil w).alloc (.cells #[.slice A la.length c, .slice A' lb.length c', .int .i64 at_, .int .i64 more] 45)).drewN n) (cap := 8) (by omega) : Calls Try.prog 9 #[.int .i64 8] ((w.alloc (.cells #[.slice A la.length c, .slice A' lb.length c', .int .i64 at_, .int .i64 more] 45)).drewN n) fun e w' => e = .returned (.pointer (some ⟨((w.alloc (.cells #[.slice A la.length c, .slice A' lb.length c', .int .i64 at_, .int .i64 more] 45)).drewN n).heap.size, 0, none⟩)) ∧ Star w w' [PzA ((w.alloc (.cells #[.slice A la.length c, .slice A' lb.length c', .int .i64 at_, .int .i64 more] 45)).drewN n).heap.size [] 8]))
  simp only [size_ad] at HN
  by_cases hbad : 64 < la.length ∨ (la.length ≤ 64 ∧ at_ < 0) ∨ (la.length ≤ 64 ∧ 0 ≤ at_ ∧ 64 < at_) ∨ (la.length ≤ 64 ∧ 0 ≤ at_ ∧ at_ ≤ 64 ∧ 64 - at_ < lb.length) ∨ (la.length ≤ 64 ∧ 0 ≤ at_ ∧ at_ ≤ 64 ∧ lb.length ≤ 64 - at_ ∧ more < 0) ∨ (la.length ≤ 64 ∧ 0 ≤ at_ ∧ at_ ≤ 64 ∧ lb.length ≤ 64 - at_ ∧ 0 ≤ more ∧ 5 < more)
  · clear hra hrb HMb
    generalize la.length = n at *
    generalize lb.length = m at *
    rcases hbad with h1 | ⟨h1, h2⟩ | ⟨h1, h2, h3⟩ | ⟨h1, h2, h3, h4⟩ | ⟨h1, h2, h3, h4, h5⟩ | ⟨h1, h2, h3, h4, h5, h6⟩
    all_goals
      go_enter Try.func6, Try.ntmps6
      go_wp2
      go_quiet (fail)
      go_wp2_with (first
        | (go_at_call 9; (with_reducible refine (HN.out _).mono ?_); rintro e w1 ⟨rfl, hs1⟩)
        | (go_at_call 10; (with_reducible refine (HA.out _).mono ?_); rintro e w2 ⟨rfl, hb2⟩))
      go_ret
      exact ⟨rfl, hs1.below.trans (hb2.mono hs1.below.size)⟩
  · obtain ⟨k, rfl⟩ : ∃ k : Nat, at_ = k := ⟨at_.toNat, by omega⟩
    obtain ⟨q, rfl⟩ : ∃ q : Nat, more = q := ⟨more.toNat, by omega⟩
    have hn2 : la.length ≤ 64 := by omega
    have hk64 : k ≤ 64 := by omega
    have hkm : (lb.length : Int) ≤ 64 - (k : Int) := by omega
    have hq5 : q ≤ 5 := by omega
    have HRa := Lib.hid hra
    have HRb := Lib.hid hrb
    clear hbad hra hrb hat hmo
    obtain ⟨n, hn⟩ : ∃ n, n = la.length := ⟨_, rfl⟩
    obtain ⟨m, hm⟩ : ∃ m, m = lb.length := ⟨_, rfl⟩
    rw [← hn] at hn2 HRa HN hma
    rw [← hm] at hkm HRb HN hmb HMb
    simp only [← hn, ← hm]
    have HNe := Lib.hid hn
    have HMe := Lib.hid hm
    clear hn hm
    have HA1 := Lib.hid (fun (W : World) (h : Star w W [PzA (w.heap.size + 1) [] 8]) => alloc_st (N := 1) h 0 rfl (gd_nil (by omega) 1))
    rw [show allocS [] 8 = (0, 0, [newFr]) from rfl] at HA1
    have HW1 := Lib.hid (fun (W : World) (h : Star w W [PzA (w.heap.size + 1) [newFr] 8]) => write_st h 0 rfl (gd_one _ (by omega)) 0 0 (c := c) (HRa.out.below h.below) (by unfold maxLen; omega))
    rw [show writeS [newFr] 0 0 la = (0, [⟨splice (List.replicate 64 0) (0 : Int).toNat la, 1⟩]) from write_one _ _ (within_true (by rw [← HNe.out]; omega))] at HW1
    simp only [List.set_cons_zero] at HA1 HW1
    obtain ⟨d1, hd1⟩ : ∃ d1, d1 = splice (List.replicate 64 0) (0 : Int).toNat la := ⟨_, rfl⟩
    rw [← hd1] at HW1
    have hd1l : d1.length = 64 := by rw [hd1, length_splice _ _ _ (by simp; rw [← HNe.out]; omega)]; simp
    have HD := Lib.hid hd1l
    clear hd1 hd1l HNe
    go_enter Try.func6, Try.ntmps6
    go_wp2
    go_quiet (fail)
    go_wp2_with (first
      | (go_at_call 9; (with_reducible refine (HN.out _).mono ?_); rintro e w1 ⟨rfl, hs1⟩
         have HS1 := Lib.hid hs1
         clear hs1)
      | (go_at_call 11; (with_reducible refine (HA1.out _ HS1.out).mono ?_); rintro e w2 ⟨rfl, hs2⟩
         have HS2 := Lib.hid hs2
         clear hs2)
      | (go_at_call 12; (with_reducible refine (HW1.out _ HS2.out).mono ?_); rintro e w3 ⟨rfl, hs3⟩
         have HS3 := Lib.hid hs3
         clear hs3))
    clear HS1 HS2 HA1 HW1 HN
    go_loopw [79] (fun i wx => ∃ (j : Nat) (u : Int), i = .int .i64 j ∧ j ≤ q + 1 ∧ u = 1 + j ∧ Hid (Star w wx [PzA (w.heap.size + 1) (Fan u d1 []) 8])) (fun i _ => q + 1 - (intOf i).toNat)
    case atStart => exact ⟨0, 1, rfl, by omega, by simp, HS3⟩
    case round =>
      clear HS3
      obtain ⟨j, u, rfl, hjq, hu, HS⟩ := hrel
      have hu1 : 1 ≤ u := by omega
      have hu2 : u ≤ 15 := by omega
      have HU := Lib.hid hu
      clear hu
      have hbz := fan_busy (d := d1) (os := []) ⟨hu1, hu2⟩ (fun f hf => by simp at hf)
      have hgd := hbz.gd (cap := 8) (by omega) (by simp [Fan])
      have HG := Lib.hid hgd
      have HB := Lib.hid hbz
      clear hgd hbz
      by_cases hlt : (j : Int) < (q : Int) + 1
      · have hSh := share_st HS.out 0 rfl HG.out (by omega) 0
        rw [show shareS (Fan u d1 []) 0 = (0, Fan (u + 1) d1 []) from share_at (fs := Fan u d1 []) (k := 0) (x := ⟨d1, u⟩) rfl (show u ≠ 0 by omega)] at hSh
        simp only [List.set_cons_zero] at hSh
        have HSh := Lib.hid hSh
        clear hSh
        go_wp2_with (first
          | (go_at_call 15; (with_reducible refine HSh.out.mono ?_); rintro e w5 ⟨rfl, hs5⟩
             have HS5 := Lib.hid hs5
             clear hs5))
        go_roundw
        case rel => exact ⟨j + 1, u + 1, by go_num, by omega, by have := HU.out; omega, HS5⟩
        case measure => simp [intOf]; omega
      · have huq : u = (q : Int) + 2 := by have := HU.out; omega
        subst huq
        clear HU
        have hO := own_st HS.out 0 rfl HG.out (by omega) 0
        rw [show ownS (Fan ((q : Int) + 2) d1 []) 8 0 = (1, 0, [⟨d1, (q : Int) + 1⟩, ⟨d1, 1⟩]) from by
          have h2 := own_at HB.out (k := 0) (x := ⟨d1, (q : Int) + 2⟩) rfl (show (1 : Int) < (q : Int) + 2 by omega) (cap := 8) (by simp [Fan])
          rw [show (q : Int) + 2 - 1 = (q : Int) + 1 by omega] at h2
          exact h2] at hO
        simp only [List.set_cons_zero] at hO
        have HO := Lib.hid hO
        have hU0 := fun (W : World) (h : Star w W [PzA (w.heap.size + 1) [⟨d1, (q : Int) + 1⟩, ⟨d1, 1⟩] 8]) => users_st h 0 rfl 0
        rw [show usersN [⟨d1, (q : Int) + 1⟩, ⟨d1, 1⟩] 0 = (q : Int) + 1 from usersN_at (fs := [⟨d1, (q : Int) + 1⟩, ⟨d1, 1⟩]) (k := 0) rfl] at hU0
        have hU1 := fun (W : World) (h : Star w W [PzA (w.heap.size + 1) [⟨d1, (q : Int) + 1⟩, ⟨d1, 1⟩] 8]) => users_st h 0 rfl 1
        rw [show usersN [⟨d1, (q : Int) + 1⟩, ⟨d1, 1⟩] 1 = 1 from usersN_at (fs := [⟨d1, (q : Int) + 1⟩, ⟨d1, 1⟩]) (k := 1) rfl] at hU1
        have hB2 : Busy 15 [⟨d1, (q : Int) + 1⟩, ⟨d1, 1⟩] := fun f hf => by
          simp only [List.mem_cons, List.not_mem_nil, or_false] at hf
          rcases hf with rfl | rfl
          · show 1 ≤ (q : Int) + 1 ∧ (q : Int) + 1 ≤ ((15 : Nat) : Int); omega
          · show 1 ≤ (1 : Int) ∧ (1 : Int) ≤ ((15 : Nat) : Int); omega
        have hUd := fun (W : World) (h : Star w W [PzA (w.heap.size + 1) [⟨d1, (q : Int) + 1⟩, ⟨d1, 1⟩] 8]) => used_st h 0 rfl
        rw [hB2.used] at hUd
        have hR0 := fun (W : World) (L : List Asr) (i : Nat) (f1 : Fr) (h : Star w W L) (hi : L[i]? = some (PzA (w.heap.size + 1) [⟨d1, (q : Int) + 1⟩, f1] 8)) => read_st h i hi 0 0 64 (by omega)
        have hr0 : ∀ f1, readS [⟨d1, (q : Int) + 1⟩, f1] 0 0 64 = (d1, 0) := fun f1 => by
          have h2 := read_at (fs := [⟨d1, (q : Int) + 1⟩, f1]) (k := 0) (x := ⟨d1, (q : Int) + 1⟩) rfl (show (q : Int) + 1 ≠ 0 by omega) (a := 0) (n := 64) (within_true (by omega))
          rw [show (List.take (64 : Int).toNat (List.drop (0 : Int).toNat d1)) = d1 from List.take_of_length_le (by show (List.drop 0 d1).length ≤ 64; rw [List.drop_zero, HD.out]; omega)] at h2
          exact h2
        simp only [hr0, HD.out] at hR0
        have hR1 := fun (W : World) (L : List Asr) (i : Nat) (h : Star w W L) (hi : L[i]? = some (PzA (w.heap.size + 1) [⟨d1, (q : Int) + 1⟩, ⟨d1, 1⟩] 8)) => read_st h i hi 1 0 64 (by omega)
        have hr1 : readS [⟨d1, (q : Int) + 1⟩, ⟨d1, 1⟩] 1 0 64 = (d1, 0) := by
          have h2 := read_at (fs := [⟨d1, (q : Int) + 1⟩, ⟨d1, 1⟩]) (k := 1) (x := ⟨d1, 1⟩) rfl (show (1 : Int) ≠ 0 by omega) (a := 0) (n := 64) (within_true (by omega))
          rw [show (List.take (64 : Int).toNat (List.drop (0 : Int).toNat d1)) = d1 from List.take_of_length_le (by show (List.drop 0 d1).length ≤ 64; rw [List.drop_zero, HD.out]; omega)] at h2
          exact h2
        simp only [hr1, HD.out] at hR1
        obtain ⟨d2, hd2⟩ : ∃ d2, d2 = splice d1 k lb := ⟨_, rfl⟩
        have hw1 : writeS [⟨d1, (q : Int) + 1⟩, ⟨d1, 1⟩] 1 k lb = (0, [⟨d1, (q : Int) + 1⟩, ⟨d2, 1⟩]) := by
          have h2 := write_last [⟨d1, (q : Int) + 1⟩] d1 lb (a := (k : Int)) (within_true (by rw [← HMe.out]; omega))
          rw [Int.toNat_natCast, ← hd2] at h2
          exact h2
        have hW := fun (W : World) (L : List Asr) (i : Nat) (h : Star w W L) (hi : L[i]? = some (PzA (w.heap.size + 1) [⟨d1, (q : Int) + 1⟩, ⟨d1, 1⟩] 8)) => write_st h i hi (hB2.gd (by omega) (by simp)) 1 k (c := c') (HRb.out.below h.below) HMb.out
        rw [hw1] at hW
        have hR2 := fun (W : World) (L : List Asr) (i : Nat) (h : Star w W L) (hi : L[i]? = some (PzA (w.heap.size + 1) [⟨d1, (q : Int) + 1⟩, ⟨d2, 1⟩] 8)) => read_st h i hi 1 k m (by omega)
        have hr2 : readS [⟨d1, (q : Int) + 1⟩, ⟨d2, 1⟩] 1 k m = (lb, 0) := by
          have h2 := read_at (fs := [⟨d1, (q : Int) + 1⟩, ⟨d2, 1⟩]) (k := 1) (x := ⟨d2, 1⟩) rfl (show (1 : Int) ≠ 0 by omega) (a := k) (n := m) (within_true (by omega))
          simp only [Int.toNat_natCast] at h2
          rw [hd2, HMe.out, back_read_at d1 lb k (by rw [HD.out, ← HMe.out]; omega)] at h2
          rw [hd2, HMe.out]
          exact h2
        simp only [hr2, ← HMe.out] at hR2
        have HU0 := Lib.hid hU0
        have HU1 := Lib.hid hU1
        have HUd := Lib.hid hUd
        have HR0 := Lib.hid hR0
        have HR1 := Lib.hid hR1
        have HW := Lib.hid hW
        have HR2 := Lib.hid hR2
        clear hO hU0 hU1 hUd hR0 hR1 hW hR2 hr0 hr1 hr2 hw1 hd2 hB2 HB HG
        go_wp2_with (first
          | (go_at_call 20; (with_reducible refine HO.out.mono ?_); rintro e w7 ⟨rfl, hs7⟩
             have HS7 := Lib.hid hs7
             clear hs7)
          | (go_at_call 16; (with_reducible refine (HU0.out _ HS7.out).mono ?_); rintro e w7 ⟨rfl, rfl⟩)
          | (go_at_call 16; (with_reducible refine (HU1.out _ HS7.out).mono ?_); rintro e w7 ⟨rfl, rfl⟩)
          | (go_at_call 18; (with_reducible refine (HUd.out _ HS7.out).mono ?_); rintro e w7 ⟨rfl, rfl⟩)
          | (go_at_call 13; (with_reducible refine (HR0.out _ _ 0 _ HS7.out rfl).mono ?_); rintro e w8 ⟨v, rfl, hs8⟩
             obtain ⟨A8, c8, rfl⟩ := own_len (hs8.row 0 rfl)
             have HS8 := Lib.hid hs8
             clear hs8 HS7)
          | (go_at_call 13; (with_reducible refine (HR1.out _ _ 1 HS8.out rfl).mono ?_); rintro e w9 ⟨v, rfl, hs9⟩
             obtain ⟨A9, c9, rfl⟩ := own_len (hs9.row 0 rfl)
             have HS9 := Lib.hid hs9
             clear hs9 HS8)
          | (go_at_call 14; (with_reducible refine (same_any (HS9.out.reads 1 rfl) (HS9.out.reads 0 rfl)).mono ?_); rintro e wx ⟨rfl, rfl⟩)
          | (go_at_call 12; (with_reducible refine (HW.out _ _ 2 HS9.out rfl).mono ?_); rintro e w10 ⟨rfl, hs10⟩
             simp only [List.set_cons_zero, List.set_cons_succ] at hs10
             have HS10 := Lib.hid hs10
             clear hs10 HS9)
          | (go_at_call 13; (with_reducible refine (HR0.out _ _ 2 _ HS10.out rfl).mono ?_); rintro e w11 ⟨v, rfl, hs11⟩
             obtain ⟨A11, c11, rfl⟩ := own_len (hs11.row 0 rfl)
             have HS11 := Lib.hid hs11
             clear hs11 HS10)
          | (go_at_call 13; (with_reducible refine (HR2.out _ _ 3 HS11.out rfl).mono ?_); rintro e w12 ⟨v, rfl, hs12⟩
             obtain ⟨A12, c12, rfl⟩ := own_len (hs12.row 0 rfl)
             have HS12 := Lib.hid hs12
             have HRb12 := Lib.hid (HRb.out.below hs12.below)
             clear hs12 HS11)
          | (go_at_call 14; (with_reducible refine (same_any (HS12.out.reads 3 rfl) (HS12.out.reads 1 rfl)).mono ?_); rintro e wx ⟨rfl, rfl⟩)
          | (go_at_call 14; (with_reducible refine (same_any (HS12.out.reads 0 rfl) HRb12.out).mono ?_); rintro e wx ⟨rfl, rfl⟩)
          | (go_at_call 10; (with_reducible refine (HA.out _).mono ?_); rintro e w13 ⟨rfl, hb13⟩))
        go_ret
        exact ⟨by simp, HS12.out.below.trans (hb13.mono HS12.out.below.size)⟩
end Go.Proofs.Ytllofdfldoaedaa.Pg
