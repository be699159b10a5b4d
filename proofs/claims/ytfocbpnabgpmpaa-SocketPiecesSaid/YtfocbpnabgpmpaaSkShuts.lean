/- The walk of SocketShuts. -/
import Derived.Test.YtfocbpnabgpmpaaSkH
import Derived.Test.YtfocbpnabgpmpaaSkRoom
import Derived.Test.YtfocbpnabgpmpaaArgsC
namespace Go.Proofs.Ytfocbpnabgpmpaa.Sk
open Go Go.RowKit Go.Proofs.Ytfocbpnabgpmpaa.Mem
set_option linter.unusedVariables false
set_option linter.unusedSimpArgs false
theorem put_all {y : Sd} (hb : y.b = []) (hp : y.p = []) (dg : Bool) (room : Nat) (l : List UInt8) (h1 : 1 ≤ l.length) (h2 : l.length ≤ room) : putS y dg room l = (((l.length : Nat) : Int), 0, { y with b := l, p := if dg then [l.length] else [] }) := by
  have h3 : min l.length (room - 0) = l.length := by omega
  unfold putS
  rw [if_neg (by omega), if_neg (by omega), if_neg (by omega), hb, hp]
  simp only [List.length_nil, List.nil_append]
  rw [if_neg (by omega), h3, List.take_length]
theorem take_all {x : Sd} (dg : Bool) (l : List UInt8) (hb : x.b = l) (hp : x.p = if dg then [l.length] else []) (n : Nat) (hn : l.length ≤ n) : takeS x n false = (l, { x with b := [], p := [] }) := by
  have hw : wholeN x n = l.length := by
    unfold wholeN
    rw [hp, hb]
    cases dg
    · simp; omega
    · rfl
  unfold takeS
  rw [hw, hb, hp]
  simp only [Bool.false_eq_true, if_false]
  rw [show min n l.length = l.length by omega, List.take_length, List.drop_length]
  cases dg <;> rfl
def YY (dg : Bool) (l : List UInt8) : Sd := ⟨false, false, false, l, if dg then [l.length] else []⟩
def XX (dg : Bool) (l : List UInt8) : Sd := ⟨false, true, false, l, if dg then [l.length] else []⟩
def X0 : Sd := ⟨false, true, false, [], []⟩
section
variable {dg : Bool} {lb lc : List UInt8} (hb1 : 1 ≤ lb.length) (hb2 : lb.length ≤ 400) (hc1 : 1 ≤ lc.length) (hc2 : lc.length ≤ 400)
include hb1 hb2 in
theorem sh_w1 : writeS sd0 sd0 dg 1000 0 lb = (((lb.length : Nat) : Int), 0, sd0, YY dg lb) := by
  rw [write_free0 Free.zero Free.zero, put_all rfl rfl dg 1000 lb hb1 (by omega)]
  rfl
theorem sh_s1 : shutS sd0 (YY dg lb) 0 true false = (0, X0, YY dg lb) := by rfl
theorem sh_w2 : writeS X0 (YY dg lb) dg 1000 0 lc = (0, -20, X0, YY dg lb) := by rfl
include hb1 hb2 in
theorem sh_r1 : readS X0 (YY dg lb) 1 1000 false = (lb, 0, sd0) := by
  have h := read_free1 (x := YY dg lb) (y := X0) rfl 1000 false (by intro h; have h2 : lb = [] := h; rw [h2] at hb1; simp at hb1)
  rw [take_all dg lb rfl rfl 1000 (by omega)] at h
  exact h
theorem sh_r2 : readS X0 sd0 1 1000 false = ([], -20, sd0) := by rfl
include hc1 hc2 in
theorem sh_w3 : writeS X0 sd0 dg 1000 1 lc = (((lc.length : Nat) : Int), 0, XX dg lc, sd0) := by
  unfold writeS
  rw [if_neg (by simp [chkS, sd, sd0]), if_neg (by simp [wayS, sd, ot, sd0, X0])]
  rw [show ot X0 sd0 1 = X0 from rfl, put_all rfl rfl dg 1000 lc hc1 (by omega)]
  rfl
include hc1 hc2 in
theorem sh_r3 : readS (XX dg lc) sd0 0 1000 false = (lc, 0, X0) := by
  have h := read_free0 (x := XX dg lc) (y := sd0) rfl 1000 false (by intro h; have h2 : lc = [] := h; rw [h2] at hc1; simp at hc1)
  rw [take_all dg lc rfl rfl 1000 (by omega)] at h
  exact h
end
set_option maxRecDepth 8000 in
set_option maxHeartbeats 8000000 in
theorem shuts_no (dg : Bool) (nb nc : Nat) (A A' : Option Addr) (c c' : Nat) (w : World) (h : nb < 1 ∨ 400 < nb ∨ nc < 1 ∨ 400 < nc) :
    Calls Try.prog 6 #[.bool dg, .slice A nb c, .slice A' nc c'] w fun e w' => e = .returned (.bool true) ∧ Below w.heap.size w w' := by
  have HA := Lib.hid awake_any
  have hN := new_any (Star.nil w) dg 1000 (by omega) (by omega)
  rw [show ((1000 : Nat) : Int) = 1000 from rfl] at hN
  have HN := Lib.hid hN
  clear hN
  have hnb : (0 : Int) ≤ nb := by omega
  have hcase : (nb : Int) < 1 ∨ (1 ≤ (nb : Int) ∧ 400 < (nb : Int)) ∨ (1 ≤ (nb : Int) ∧ (nb : Int) ≤ 400 ∧ (nc : Int) < 1) ∨ (1 ≤ (nb : Int) ∧ (nb : Int) ≤ 400 ∧ 1 ≤ (nc : Int) ∧ 400 < (nc : Int)) := by omega
  clear h
  rcases hcase with h1 | ⟨h1, h2⟩ | ⟨h1, h2, h3⟩ | ⟨h1, h2, h3, h4⟩
  all_goals
    go_enter Try.func6, Try.ntmps6
    go_wp2_with (first
      | (go_at_call 8; (with_reducible refine HN.out.mono ?_); rintro e w1 ⟨rfl, hs1⟩)
      | (go_at_call 9; (with_reducible refine (HA.out _).mono ?_); rintro e w2 ⟨rfl, hb2⟩))
    go_ret
    exact ⟨rfl, hs1.below.trans (hb2.mono hs1.below.size)⟩
set_option maxRecDepth 8000 in
set_option maxHeartbeats 8000000 in
theorem shuts_walk (dg : Bool) (A A' : Option Addr) (c c' : Nat) (lb lc : List UInt8) (w : World) (hr : Reads w w.heap.size 1 A lb.length (bytesV lb)) (hr' : Reads w w.heap.size 1 A' lc.length (bytesV lc)) (hcb : lb.length ≤ c) (hcc : lc.length ≤ c') (hb1 : 1 ≤ lb.length) (hb2 : lb.length ≤ 400) (hc1 : 1 ≤ lc.length) (hc2 : lc.length ≤ 400) :
    Calls Try.prog 6 #[.bool dg, .slice A lb.length c, .slice A' lc.length c'] w fun e w' => e = .returned (.bool true) ∧ Below w.heap.size w w' := by
  have HA := Lib.hid awake_any
  have hN := new_any (Star.nil w) dg 1000 (by omega) (by omega)
  rw [show ((1000 : Nat) : Int) = 1000 from rfl] at hN
  have HN := Lib.hid hN
  have k0 : Ok2 dg 1000 sd0 sd0 := Ok2.zero dg (by omega)
  have k1 := k0.write 0 lb
  have hW1 := fun (W : World) (h : Star w W [SkA w.heap.size sd0 sd0 dg 1000]) => write_st (c := c) h 0 rfl k0 0 (l := lb) rfl (by simp only [maxLen]; omega) hcb (hr.below h.below)
  rw [sh_w1 hb1 hb2] at hW1 k1
  have hS1 := fun (W : World) (h : Star w W [SkA w.heap.size sd0 (YY dg lb) dg 1000]) => shut_st h 0 rfl 0 true false
  have k2 := k1.shut 0 true false
  rw [sh_s1] at hS1
  simp only at k2
  rw [sh_s1] at k2
  have hW2 := fun (W : World) (h : Star w W [SkA w.heap.size X0 (YY dg lb) dg 1000]) => write_st (c := c') h 0 rfl k2 0 (l := lc) rfl (by simp only [maxLen]; omega) hcc (hr'.below h.below)
  rw [sh_w2] at hW2
  have hR1 := fun (W : World) (h : Star w W [SkA w.heap.size X0 (YY dg lb) dg 1000]) => read_st h 0 rfl k2 1 1000 (by omega) false
  have k3 := k2.read 1 1000 false
  simp only at k3
  rw [sh_r1 hb1 hb2] at hR1 k3
  rw [show putD X0 (YY dg lb) 1 sd0 = (X0, sd0) from rfl] at hR1 k3
  have hR2 := fun (W : World) (v : Value) (h : Star w W [RowA 5 1 v lb.length (bytesV lb), SkA w.heap.size X0 sd0 dg 1000]) => read_st h 1 rfl k3 1 1000 (by omega) false
  have k4 := k3
  rw [sh_r2] at hR2
  rw [show putD X0 sd0 1 sd0 = (X0, sd0) from rfl] at hR2
  have hW3 := fun (W : World) (v v' : Value) (h : Star w W [RowA 5 1 v' 0 (bytesV []), RowA 5 1 v lb.length (bytesV lb), SkA w.heap.size X0 sd0 dg 1000]) => write_st (c := c') h 2 rfl k4 1 (l := lc) rfl (by simp only [maxLen]; omega) hcc (hr'.below h.below)
  have k5 := k4.write 1 lc
  simp only at k5
  rw [sh_w3 hc1 hc2] at hW3 k5
  have hR3 := fun (W : World) (v v' : Value) (h : Star w W [RowA 5 1 v' 0 (bytesV []), RowA 5 1 v lb.length (bytesV lb), SkA w.heap.size (XX dg lc) sd0 dg 1000]) => read_st h 2 rfl k5 0 1000 (by omega) false
  rw [sh_r3 hc1 hc2] at hR3
  simp only [List.set_cons_zero, List.set_cons_succ, List.length_nil] at hW1 hS1 hW2 hR1 hR2 hW3 hR3
  have HSb := Lib.hid (fun (W : World) (A5 : Option Addr) (c5 : Nat) (r1 : Reads W W.heap.size 1 A5 lb.length (bytesV lb)) (hB : Below w.heap.size w W) => same_any (c := c5) (c' := c) r1 (hr.below hB))
  have HSc := Lib.hid (fun (W : World) (A5 : Option Addr) (c5 : Nat) (r1 : Reads W W.heap.size 1 A5 lc.length (bytesV lc)) (hB : Below w.heap.size w W) => same_any (c := c5) (c' := c') r1 (hr'.below hB))
  rw [show decide (lb = lb) = true from by simp] at HSb
  rw [show decide (lc = lc) = true from by simp] at HSc
  have HW1 := Lib.hid hW1
  have HS1' := Lib.hid hS1
  have HW2 := Lib.hid hW2
  have HR1 := Lib.hid hR1
  have HR2 := Lib.hid hR2
  have HW3 := Lib.hid hW3
  have HR3 := Lib.hid hR3
  have i1 : (1 : Int) ≤ lb.length := by omega
  have i2 : (lb.length : Int) ≤ 400 := by omega
  have i3 : (1 : Int) ≤ lc.length := by omega
  have i4 : (lc.length : Int) ≤ 400 := by omega
  have zb : ((lb.length : Int) != (lb.length : Int)) = false := by simp
  clear hN k0 k1 k2 k3 k4 k5 hW1 hS1 hW2 hR1 hR2 hW3 hR3 hr hr' hcb hcc hb1 hb2 hc1 hc2
  generalize lb.length = nb at *
  generalize lc.length = nc at *
  go_enter Try.func6, Try.ntmps6
  go_wp2_with (first
    | (go_at_call 8; (with_reducible refine HN.out.mono ?_); rintro e w1 ⟨rfl, hs1⟩
       have HT1 := Lib.hid hs1
       clear hs1)
    | (go_at_call 10; (with_reducible refine (HW1.out _ HT1.out).mono ?_); rintro e w2 ⟨rfl, hs2⟩
       have HT2 := Lib.hid hs2
       clear hs2)
    | (go_at_call 15; (with_reducible refine (HS1'.out _ HT2.out).mono ?_); rintro e w3 ⟨rfl, hs3⟩
       have HT3 := Lib.hid hs3
       clear hs3)
    | (go_at_call 10; (with_reducible refine (HW2.out _ HT3.out).mono ?_); rintro e w4 ⟨rfl, hs4⟩
       have HT4 := Lib.hid hs4
       clear hs4)
    | (go_at_call 11; (with_reducible refine (HR1.out _ HT4.out).mono ?_); rintro e w5 ⟨v5, rfl, hs5⟩
       obtain ⟨A5, c5, rfl⟩ := own_len (hs5.row 0 rfl)
       have HT5 := Lib.hid hs5
       clear hs5)
    | (go_at_call 11; (with_reducible refine (HR2.out _ _ HT5.out).mono ?_); rintro e w6 ⟨v6, rfl, hs6⟩
       have HT6 := Lib.hid hs6
       clear hs6)
    | (go_at_call 12; (with_reducible refine (HSb.out _ _ _ (HT6.out.reads 1 rfl) HT6.out.below).mono ?_); rintro e w7 ⟨rfl, rfl⟩)
    | (go_at_call 10; (with_reducible refine (HW3.out _ _ _ HT6.out).mono ?_); rintro e w8 ⟨rfl, hs8⟩
       have HT8 := Lib.hid hs8
       clear hs8)
    | (go_at_call 11; (with_reducible refine (HR3.out _ _ _ HT8.out).mono ?_); rintro e w9 ⟨v9, rfl, hs9⟩
       obtain ⟨A9, c9, rfl⟩ := own_len (hs9.row 0 rfl)
       have HT9 := Lib.hid hs9
       clear hs9)
    | (go_at_call 12; (with_reducible refine (HSc.out _ _ _ (HT9.out.reads 0 rfl) HT9.out.below).mono ?_); rintro e w10 ⟨rfl, rfl⟩)
    | (go_at_call 9; (with_reducible refine (HA.out _).mono ?_); rintro e w11 ⟨rfl, hb11⟩))
  go_ret
  exact ⟨rfl, HT9.out.below.trans (hb11.mono HT9.out.below.size)⟩
theorem shuts_row (dg : Bool) (A : Option Addr) (c : Nat) (lb : List UInt8) (A' : Option Addr) (c' : Nat) (lc : List UInt8) (w : World) (hr : Reads w w.heap.size 1 A lb.length (lb.map byteU)) (hm : lb.length ≤ maxLen) (hcb : lb.length ≤ c) (hr' : Reads w w.heap.size 1 A' lc.length (lc.map byteU)) (hm' : lc.length ≤ maxLen) (hcc : lc.length ≤ c') :
    Calls Try.prog 6 #[.bool dg, .slice A lb.length c, .slice A' lc.length c'] w fun e w' => e = .returned (.bool true) ∧ Below w.heap.size w w' := by
  by_cases h : lb.length < 1 ∨ 400 < lb.length ∨ lc.length < 1 ∨ 400 < lc.length
  · exact shuts_no dg _ _ A A' c c' w h
  · exact shuts_walk dg A A' c c' lb lc w hr hr' hcb hcc (by omega) (by omega) (by omega) (by omega)
end Go.Proofs.Ytfocbpnabgpmpaa.Sk
