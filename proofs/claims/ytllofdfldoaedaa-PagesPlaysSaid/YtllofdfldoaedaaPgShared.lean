/- The walk of PagesShared. -/
import Derived.Test.YtllofdfldoaedaaPgRoom
namespace Go.Proofs.Ytllofdfldoaedaa.Pg
open Go Go.RowKit Go.Proofs.Ytllofdfldoaedaa.Mem
set_option linter.unusedVariables false
set_option linter.unusedSimpArgs false
theorem write_many {fs : List Fr} {k : Nat} {x : Fr} (hx : fs[k]? = some x) (hu : 1 < x.u) {a : Int} {l : List UInt8} (h : withinN a l.length 64 = true) : writeS fs (k : Int) a l = (-20, fs) := by
  unfold writeS
  rw [usersN_at hx, if_neg (by omega), if_pos h, if_pos hu]
theorem read_at {fs : List Fr} {k : Nat} {x : Fr} (hx : fs[k]? = some x) (hu : x.u ≠ 0) {a n : Int} (h : withinN a n 64 = true) : readS fs (k : Int) a n = ((x.d.drop a.toNat).take n.toNat, 0) := by
  unfold readS
  rw [usersN_at hx, getF_at hx, if_neg hu, if_pos h]
theorem own_at {N : Nat} {fs : List Fr} (hb : Busy N fs) {k : Nat} {x : Fr} (hx : fs[k]? = some x) (hu : 1 < x.u) {cap : Int} (hc : (fs.length : Int) ≠ cap) : ownS fs cap (k : Int) = ((fs.length : Int), (0 : Int), (fs.set k ⟨x.d, x.u - 1⟩) ++ [⟨x.d, 1⟩]) := by
  have hlt : k < fs.length := (List.getElem?_eq_some_iff.1 hx).1
  unfold ownS
  rw [usersN_at hx, getF_at hx, if_neg (by omega), if_neg (by omega), hb.used, if_neg hc]
  unfold allocN allocL
  rw [hb.free, Int.toNat_natCast]
  simp only [Option.getD_none]
  rw [List.set_append_right _ _ (Nat.le_refl _), Nat.sub_self, List.set_cons_zero, List.set_append_left _ _ hlt]
theorem own_sole {fs : List Fr} {k : Nat} {x : Fr} (hx : fs[k]? = some x) (hu : x.u = 1) {cap : Int} : ownS fs cap (k : Int) = ((k : Int), (0 : Int), fs) := by
  unfold ownS
  rw [usersN_at hx, hu, if_neg (by omega), if_pos rfl]
theorem share_at {fs : List Fr} {k : Nat} {x : Fr} (hx : fs[k]? = some x) (hu : x.u ≠ 0) : shareS fs (k : Int) = (0, fs.set k ⟨x.d, x.u + 1⟩) := by
  unfold shareS addU
  rw [usersN_at hx, getF_at hx, if_neg hu, Int.toNat_natCast]
theorem back_read (d b : List UInt8) (h : b.length ≤ d.length) : ((splice d 0 b).drop 0).take b.length = b := by
  unfold splice
  simp
/-- Several users of frame 0, one of each other. -/
def Fan (u : Int) (d : List UInt8) (os : List Fr) : List Fr := ⟨d, u⟩ :: os
theorem fan_busy {u : Int} {d : List UInt8} {os : List Fr} (hu : 1 ≤ u ∧ u ≤ 15) (h : Busy 15 os) : Busy 15 (Fan u d os) := fun f hf => by
  rcases List.mem_cons.1 hf with rfl | h1
  · exact hu
  · exact h f h1
theorem fan_own {u : Int} {d : List UInt8} {os : List Fr} (hu : 1 < u ∧ u ≤ 15) (h : Busy 15 os) (hl : os.length ≤ 15) : ownS (Fan u d os) 20 0 = (((os.length + 1 : Nat) : Int), 0, Fan (u - 1) d (os ++ [⟨d, 1⟩])) := by
  have h2 := own_at (fan_busy (d := d) ⟨by omega, hu.2⟩ h) (k := 0) (x := ⟨d, u⟩) rfl hu.1 (cap := 20) (by simp [Fan]; omega)
  have e : (Fan u d os).length = os.length + 1 := by simp [Fan]
  rw [e] at h2
  exact h2
theorem fan_write (u : Int) (d : List UInt8) (os : List Fr) (l : List UInt8) (h : l.length ≤ 64) : writeS (Fan u d (os ++ [⟨d, 1⟩])) ((os.length + 1 : Nat) : Int) 0 l = (0, Fan u d (os ++ [⟨splice d 0 l, 1⟩])) :=
  write_last (⟨d, u⟩ :: os) d l (within_true (by omega))
theorem byte_of (i : Nat) (h : i ≤ 15) : (Value.int .u8 (i : Int)) = byteV (UInt8.ofNat i) := by
  unfold byteV
  congr 1
  simp
  omega
set_option maxRecDepth 8000 in
set_option maxHeartbeats 8000000 in
theorem shared_walk (A : Option Addr) (c : Nat) (lb : List UInt8) (us : Int) (hus : -9223372036854775808 ≤ us ∧ us ≤ 9223372036854775807) (w : World) (hr : Reads w w.heap.size 1 A lb.length (bytesV lb)) (hm : lb.length ≤ maxLen) :
    Calls Try.prog 7 #[.slice A lb.length c, .int .i64 us] w fun e w' => e = .returned (.bool true) ∧ Below w.heap.size w w' := by
  have HA := Lib.hid awake_any
  unfold maxLen at hm
  have HN := Lib.hid (new_st (Star.nil w) (cap := 20) (by omega))
  by_cases hbad : 64 < lb.length ∨ (lb.length ≤ 64 ∧ us < 2) ∨ (lb.length ≤ 64 ∧ 2 ≤ us ∧ 15 < us)
  · clear hr
    generalize lb.length = n at *
    rcases hbad with h1 | ⟨h1, h2⟩ | ⟨h1, h2, h3⟩
    all_goals
      go_enter Try.func7, Try.ntmps7
      go_wp2_with (first
        | (go_at_call 9; (with_reducible refine HN.out.mono ?_); rintro e w1 ⟨rfl, hs1⟩)
        | (go_at_call 10; (with_reducible refine (HA.out _).mono ?_); rintro e w2 ⟨rfl, hb2⟩))
      go_ret
      exact ⟨rfl, hs1.below.trans (hb2.mono hs1.below.size)⟩
  · have hn2 : lb.length ≤ 64 := by omega
    obtain ⟨q, rfl, hq2, hq15⟩ : ∃ q : Nat, us = q ∧ 2 ≤ q ∧ q ≤ 15 := ⟨us.toNat, by omega, by omega, by omega⟩
    have HR := Lib.hid hr
    have HW1 := Lib.hid (fun (W : World) (h : Star w W [PzA w.heap.size [newFr] 20]) => write_st h 0 rfl (gd_one _ (by omega)) 0 0 (c := c) (hr.below h.below) (by unfold maxLen; omega))
    have e1 : allocS [] 20 = (0, 0, [newFr]) := rfl
    have HA1 := Lib.hid (fun (W : World) (h : Star w W [PzA w.heap.size [] 20]) => alloc_st (N := 1) h 0 rfl (gd_nil (by omega) 1))
    rw [e1] at HA1
    rw [show writeS [newFr] 0 0 lb = (0, [⟨splice (List.replicate 64 0) (0 : Int).toNat lb, 1⟩]) from write_one _ _ (within_true (by omega))] at HW1
    simp only [List.set_cons_zero] at HA1 HW1
    obtain ⟨d1, hd1⟩ : ∃ d1, d1 = splice (List.replicate 64 0) (0 : Int).toNat lb := ⟨_, rfl⟩
    rw [← hd1] at HW1
    have hbk : (d1.drop 0).take lb.length = lb := by rw [hd1]; exact back_read _ _ (by simp; omega)
    have HBk := Lib.hid hbk
    have HOne := Lib.hid (fun W : World => (reads_lit W 5 [1] (0, 0) : Reads (W.alloc (.cells #[.int .u8 1] 5)) (W.heap.size + 1) 1 (some ⟨W.heap.size, 0, none⟩) 1 (bytesV [1])))
    clear hr hbad hus hd1 e1 hbk
    obtain ⟨n, hn⟩ : ∃ n, n = lb.length := ⟨_, rfl⟩
    rw [← hn] at hn2 HR HW1 HBk ⊢
    have HNe := Lib.hid hn
    clear hn hm
    go_enter Try.func7, Try.ntmps7
    go_wp2_with (first
      | (go_at_call 9; (with_reducible refine HN.out.mono ?_); rintro e w1 ⟨rfl, hs1⟩
         have HS1 := Lib.hid hs1
         clear hs1)
      | (go_at_call 11; (with_reducible refine (HA1.out _ HS1.out).mono ?_); rintro e w2 ⟨rfl, hs2⟩
         have HS2 := Lib.hid hs2
         clear hs2)
      | (go_at_call 12; (with_reducible refine (HW1.out _ HS2.out).mono ?_); rintro e w3 ⟨rfl, hs3⟩
         have HS3 := Lib.hid hs3
         clear hs3))
    clear HS1 HS2 HA1 HW1 HN
    go_loopw [54] (fun i wx => ∃ (m : Nat) (u : Int), i = .int .i64 m ∧ m + 1 ≤ q ∧ u = 1 + m ∧ Hid (Star w wx [PzA w.heap.size (Fan u d1 []) 20])) (fun i _ => q - (intOf i).toNat)
    case atStart => exact ⟨0, 1, rfl, by omega, by simp, HS3⟩
    case round =>
      clear HS3
      obtain ⟨m, u, rfl, hmq, hu, HS⟩ := hrel
      have hu1 : 1 ≤ u := by omega
      have hu2 : u ≤ 15 := by omega
      have HU := Lib.hid hu
      clear hu
      by_cases hlt : m + 1 < q
      · have hSh := share_st HS.out 0 rfl ((fan_busy (d := d1) (os := []) ⟨hu1, hu2⟩ (fun f hf => by simp at hf)).gd (by omega) (by simp [Fan])) (by omega) 0
        rw [show shareS (Fan u d1 []) 0 = (0, Fan (u + 1) d1 []) from share_at (fs := Fan u d1 []) (k := 0) (x := ⟨d1, u⟩) rfl (show u ≠ 0 by omega)] at hSh
        simp only [List.set_cons_zero] at hSh
        have HSh := Lib.hid hSh
        clear hSh
        go_wp2_with (first
          | (go_at_call 15; (with_reducible refine HSh.out.mono ?_); rintro e w5 ⟨rfl, hs5⟩
             have HS5 := Lib.hid hs5
             clear hs5))
        go_roundw
        case rel => exact ⟨m + 1, u + 1, by go_num, by omega, by have := HU.out; omega, HS5⟩
        case measure => simp [intOf]; omega
      · have huq := HU.out
        obtain rfl : u = (q : Int) := by omega
        have hge : ¬ ((m : Int) < (q : Int) - 1) := by omega
        clear huq HU hlt
        go_wp2
        go_loopw [8] (fun i wx => ∃ (m : Nat) (os : List Fr), i = .int .i64 m ∧ 1 ≤ m ∧ m ≤ q ∧ os.length + m = q ∧ Hid (Busy 15 os) ∧ Hid (Star w wx [PzA w.heap.size (Fan m d1 os) 20])) (fun i _ => (intOf i).toNat)
        case atStart => exact ⟨q, [], rfl, by omega, by omega, by simp, Lib.hid (fun f hf => by simp at hf), HS⟩
        case round =>
          clear HS
          obtain ⟨m, os, rfl, hm1, hmq, hol, HB, HS⟩ := hrel
          by_cases hlt2 : 1 < m
          · have hbz := fan_busy (d := d1) (u := m) ⟨by omega, by omega⟩ HB.out
            have hgd := hbz.gd (cap := 20) (by omega) (by simp [Fan]; omega)
            have hU := users_st HS.out 0 rfl 0
            rw [show usersN (Fan m d1 os) 0 = (m : Int) from usersN_at (fs := Fan m d1 os) (k := 0) (x := ⟨d1, m⟩) rfl] at hU
            have hW := write_st (HS.out.alloc (.cells #[.int .u8 1] 5)) 0 rfl hgd 0 0 (m := 1) (c := 1) (HOne.out _) (by simp [maxLen])
            rw [show writeS (Fan m d1 os) 0 0 [1] = (-20, Fan m d1 os) from write_many (fs := Fan m d1 os) (k := 0) (x := ⟨d1, m⟩) rfl (show (1 : Int) < m by omega) (within_true (by simp))] at hW
            have hO := fun (W : World) (h : Star w W [PzA w.heap.size (Fan m d1 os) 20]) => own_st h 0 rfl hgd (by omega) 0
            rw [fan_own ⟨by omega, by omega⟩ HB.out (by omega)] at hO
            have hR := fun (W : World) (h : Star w W [PzA w.heap.size (Fan ((m : Int) - 1) d1 (os ++ [⟨d1, 1⟩])) 20]) => read_st h 0 rfl ((os.length + 1 : Nat) : Int) 0 n (by omega)
            have hlast : (Fan ((m : Int) - 1) d1 (os ++ [⟨d1, 1⟩]))[os.length + 1]? = some ⟨d1, 1⟩ := by simp [Fan]
            rw [read_at hlast (show (1 : Int) ≠ 0 by omega) (within_true (by omega))] at hR
            simp only [Int.toNat_natCast, show (0 : Int).toNat = 0 from rfl] at hR
            rw [HBk.out, ← HNe.out] at hR
            have hB3 : Busy 15 (Fan ((m : Int) - 1) d1 (os ++ [⟨d1, 1⟩])) := fan_busy ⟨by omega, by omega⟩ (HB.out.snoc (x := ⟨d1, 1⟩) (by simp))
            have hgd3 := hB3.gd (cap := 20) (by omega) (by simp [Fan]; omega)
            have hW2 := fun (W : World) (v : Value) (h : Star w W [RowA 5 1 v n (bytesV lb), PzA w.heap.size (Fan ((m : Int) - 1) d1 (os ++ [⟨d1, 1⟩])) 20]) => write_st (h.alloc (.cells #[.int .u8 m] 5)) 1 rfl hgd3 ((os.length + 1 : Nat) : Int) 0 (m := 1) (c := 1) (A := some ⟨W.heap.size, 0, none⟩) (Br := W.heap.size + 1) (l := [UInt8.ofNat m]) (by
              rw [byte_of m (by omega)]
              exact reads_lit W 5 [UInt8.ofNat m] (0, 0)) (by simp [maxLen])
            obtain ⟨d2, hd2⟩ : ∃ d2, writeS (Fan ((m : Int) - 1) d1 (os ++ [⟨d1, 1⟩])) ((os.length + 1 : Nat) : Int) 0 [UInt8.ofNat m] = (0, Fan ((m : Int) - 1) d1 (os ++ [⟨d2, 1⟩])) := ⟨_, fan_write _ _ _ _ (by simp)⟩
            rw [hd2] at hW2
            simp only [List.set_cons_zero, List.set_cons_succ] at hU hW hO hW2
            have HU := Lib.hid hU
            have HW := Lib.hid hW
            have HO := Lib.hid hO
            have HRd := Lib.hid hR
            have HW2 := Lib.hid hW2
            have HB4 := Lib.hid (HB.out.snoc (x := ⟨d2, 1⟩) (by simp))
            clear hbz hgd hU hW hO hR hlast hB3 hgd3 hW2 hd2
            have hz : (((os.length + 1 : Nat) : Int) == 0) = false := beq_eq_false_iff_ne.mpr (by omega)
            obtain ⟨g, hg⟩ : ∃ g : Nat, g = os.length + 1 := ⟨_, rfl⟩
            rw [← hg] at HO HRd HW2 hz
            clear hg
            have hz8 : IntKind.u8.wrap (m : Int) = m := by
              show (m : Int) % 256 = m
              omega
            go_wp2_with (first
              | (go_at_call 16; (with_reducible refine HU.out.mono ?_); rintro e w5 ⟨rfl, rfl⟩)
              | (go_at_call 12; (with_reducible refine HW.out.mono ?_); rintro e w6 ⟨rfl, hs6⟩
                 have HS6 := Lib.hid hs6
                 clear hs6)
              | (go_at_call 20; (with_reducible refine (HO.out _ HS6.out).mono ?_); rintro e w7 ⟨rfl, hs7⟩
                 have HS7 := Lib.hid hs7
                 clear hs7)
              | (go_at_call 13; (with_reducible refine (HRd.out _ HS7.out).mono ?_); rintro e w8 ⟨v, rfl, hs8⟩
                 obtain ⟨A8, c8, rfl⟩ := own_len (hs8.row 0 rfl)
                 have HS8 := Lib.hid hs8
                 have HR8 := Lib.hid (HR.out.below hs8.below)
                 clear hs8)
              | (go_at_call 14; (with_reducible refine (same_any (HS8.out.reads 0 rfl) HR8.out).mono ?_); rintro e w9 ⟨rfl, rfl⟩)
              | (go_at_call 12; (with_reducible refine (HW2.out _ _ HS8.out).mono ?_); rintro e w10 ⟨rfl, hs10⟩
                 have HS10 := Lib.hid hs10.tail
                 clear hs10))
            go_roundw
            case rel => exact ⟨m - 1, os ++ [⟨d2, 1⟩], by congr 1; omega, by omega, by omega, by simp; omega, HB4, by
              have h1 := HS10.out
              rw [show (m : Int) - 1 = ((m - 1 : Nat) : Int) by omega] at h1
              exact h1⟩
            case measure => simp [intOf]; omega
          · obtain rfl : m = 1 := by omega
            have hbz := fan_busy (d := d1) (u := (1 : Nat)) ⟨by omega, by omega⟩ HB.out
            have hgd := hbz.gd (cap := 20) (by omega) (by simp [Fan]; omega)
            have hO := own_st HS.out 0 rfl hgd (by omega) 0
            rw [show ownS (Fan (1 : Nat) d1 os) 20 0 = (0, 0, Fan (1 : Nat) d1 os) from own_sole (fs := Fan (1 : Nat) d1 os) (k := 0) (x := ⟨d1, (1 : Nat)⟩) rfl rfl] at hO
            have hR := fun (W : World) (h : Star w W [PzA w.heap.size (Fan (1 : Nat) d1 os) 20]) => read_st h 0 rfl 0 0 n (by omega)
            rw [show readS (Fan (1 : Nat) d1 os) 0 0 n = _ from read_at (fs := Fan (1 : Nat) d1 os) (k := 0) (x := ⟨d1, (1 : Nat)⟩) rfl (by simp) (within_true (by omega))] at hR
            simp only [Int.toNat_natCast, show (0 : Int).toNat = 0 from rfl] at hR
            rw [HBk.out, ← HNe.out] at hR
            have hU := fun (W : World) (v : Value) (h : Star w W [RowA 5 1 v n (bytesV lb), PzA w.heap.size (Fan (1 : Nat) d1 os) 20]) => used_st h 1 rfl
            rw [hbz.used, show (Fan (1 : Nat) d1 os).length = q by simp [Fan]; omega] at hU
            simp only [List.set_cons_zero, List.set_cons_succ] at hO
            have HO := Lib.hid hO
            have HRd := Lib.hid hR
            have HU := Lib.hid hU
            clear hO hR hU hbz hgd
            go_wp2_with (first
              | (go_at_call 20; (with_reducible refine HO.out.mono ?_); rintro e w7 ⟨rfl, hs7⟩
                 have HS7 := Lib.hid hs7
                 clear hs7)
              | (go_at_call 13; (with_reducible refine (HRd.out _ HS7.out).mono ?_); rintro e w8 ⟨v, rfl, hs8⟩
                 obtain ⟨A8, c8, rfl⟩ := own_len (hs8.row 0 rfl)
                 have HS8 := Lib.hid hs8
                 have HR8 := Lib.hid (HR.out.below hs8.below)
                 clear hs8)
              | (go_at_call 14; (with_reducible refine (same_any (HS8.out.reads 0 rfl) HR8.out).mono ?_); rintro e w9 ⟨rfl, rfl⟩)
              | (go_at_call 18; (with_reducible refine (HU.out _ _ HS8.out).mono ?_); rintro e w10 ⟨rfl, rfl⟩)
              | (go_at_call 10; (with_reducible refine (HA.out _).mono ?_); rintro e w11 ⟨rfl, hb11⟩))
            go_ret
            exact ⟨by simp, HS8.out.below.trans (hb11.mono HS8.out.below.size)⟩
end Go.Proofs.Ytllofdfldoaedaa.Pg
