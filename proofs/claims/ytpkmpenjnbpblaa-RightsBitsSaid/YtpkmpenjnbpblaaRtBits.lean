/- The contract of Count; the walk of RightsBits. -/
import Derived.Test.YtpkmpenjnbpblaaRtTexts
namespace Go.Proofs.Ytpkmpenjnbpblaa.Rt
open Go Go.RowKit Go.Proofs.Ytpkmpenjnbpblaa.Mem Go.Proofs.Ytpkmpenjnbpblaa.Bits
set_option linter.unusedVariables false
set_option linter.unusedSimpArgs false
def o1 (x : Int) : Int := IntKind.u64.wrap (bits .and .u64 (x / 2) 6148914691236517205 + bits .and .u64 x 6148914691236517205)
def o2 (x : Int) : Int := IntKind.u64.wrap (bits .and .u64 (o1 x / 4) 3689348814741910323 + bits .and .u64 (o1 x) 3689348814741910323)
def o3 (x : Int) : Int := bits .and .u64 (IntKind.u64.wrap (o2 x / 16 + o2 x)) 1085102592571150095
def o4 (x : Int) : Int := IntKind.u64.wrap (o3 x + o3 x / 256)
def o5 (x : Int) : Int := IntKind.u64.wrap (o4 x + o4 x / 65536)
def o6 (x : Int) : Int := IntKind.u64.wrap (o5 x + o5 x / 4294967296)
def oc (x : Int) : Int := bits .and .i64 (wrap64 (o6 x)) 127
def cntNat (x : Nat) : Nat → Nat
  | 0 => 0
  | k + 1 => cntNat x k + (if x.testBit k then 1 else 0)
theorem oc_all : ∀ a : Fin 64, ∀ b : Fin 64, oc ((a.val * 64 + b.val : Nat) : Int) = (cntNat (a.val * 64 + b.val) 12 : Int) := by decide +kernel
theorem oc_nat (x : Nat) (hx : x ≤ 4095) : oc (x : Int) = (cntNat x 12 : Int) := by
  have := oc_all ⟨x / 64, by omega⟩ ⟨x % 64, by omega⟩
  simp only at this
  rwa [show x / 64 * 64 + x % 64 = x by omega] at this
theorem ones_any (x : Nat) (hx : x ≤ 4095) (w : World) : Calls Try.prog 34 #[.int .u64 (x : Int)] w fun e w' => e = .returned (.int .i64 (cntNat x 12 : Int)) ∧ w = w' := by
  have HO := Lib.hid (oc_nat x hx)
  go_enter Try.func34, Try.ntmps34
  go_wp2
  go_ret
  exact ⟨by rw [← HO.out]; rfl, rfl⟩
theorem ones2_any (x : Nat) (hx : x ≤ 4095) (w : World) : Calls Try.prog 27 #[.int .u64 (x : Int)] w fun e w' => e = .returned (.int .i64 (cntNat x 12 : Int)) ∧ w = w' := by
  have H := Lib.hid (ones_any x hx)
  go_enter Try.func27, Try.ntmps27
  go_wp2_with (first | (go_at_call 34; (with_reducible refine (H.out _).mono ?_); rintro e w1 ⟨rfl, rfl⟩))
  go_ret
  exact ⟨rfl, rfl⟩
/-- How many of the first k bits. -/
def cntTo (a : Int) : Nat → Nat
  | 0 => 0
  | k + 1 => cntTo a k + (if tb a k then 1 else 0)
theorem cntTo_nat (a : Int) (x : Nat) (h : ∀ i, i < 12 → x.testBit i = tb a i) : ∀ k, k ≤ 12 → cntNat x k = cntTo a k
  | 0, _ => rfl
  | k + 1, hk => by
    simp only [cntNat, cntTo]
    rw [cntTo_nat a x h k (by omega), h k (by omega)]
theorem cntTo_le (a : Int) : ∀ k, cntTo a k ≤ k
  | 0 => by simp [cntTo]
  | k + 1 => by
    have := cntTo_le a k
    simp only [cntTo]
    split <;> omega
theorem count_any (a : Int) (w : World) : Calls Try.prog 19 #[.int .i64 a] w fun e w' => e = .returned (.int .i64 (cntTo a 12 : Int)) ∧ w = w' := by
  have hlow := and_low12 a
  obtain ⟨x, hx⟩ : ∃ x : Nat, a % 4096 = x := ⟨(a % 4096).toNat, by omega⟩
  have hxl : x ≤ 4095 := by omega
  have hc : cntNat x 12 = cntTo a 12 := cntTo_nat a x (fun i hi => by
    have h1 := tb_and a 4095 (show i < 64 by omega)
    rw [hlow, hx, tb_nat, tb4095 (by omega)] at h1
    rw [h1]
    simp [hi]) 12 (Nat.le_refl _)
  rw [hx] at hlow
  have h2 := ones2_any x hxl
  rw [hc] at h2
  have H := Lib.hid h2
  clear h2 hc hx
  go_enter Try.func19, Try.ntmps19
  go_wp2_with (first | (go_at_call 27; (with_reducible refine (H.out _).mono ?_); rintro e w1 ⟨rfl, rfl⟩))
  go_ret
  exact ⟨rfl, rfl⟩
/-- Has it no bits from 12 on, of the first k? -/
def rightTo (a : Int) : Nat → Bool
  | 0 => true
  | k + 1 => rightTo a k && (!tb a k || decide (k < 12))
theorem rightTo_iff (a : Int) : ∀ k, rightTo a k = true ↔ ∀ i, i < k → 12 ≤ i → tb a i = false
  | 0 => by simp [rightTo]
  | k + 1 => by
    have ih := rightTo_iff a k
    simp only [rightTo, Bool.and_eq_true, ih]
    constructor
    · rintro ⟨h1, h2⟩ i hi h12
      rcases Nat.lt_or_ge i k with h | h
      · exact h1 i h h12
      · obtain rfl : i = k := by omega
        cases ht : tb a i
        · rfl
        · rw [ht] at h2
          simp at h2
          omega
    · intro h
      refine ⟨fun i hi h12 => h i (by omega) h12, ?_⟩
      by_cases h12 : k < 12
      · simp [h12]
      · rw [h k (by omega) (by omega)]; rfl
theorem right_to (a : Int) (ha : in64 a) : rightN a = rightTo a 64 := by
  apply Bool.eq_iff_iff.2
  rw [rightTo_iff]
  constructor
  · intro h i hi h12
    unfold rightN at h
    rw [beq_iff_eq] at h
    have := tb_andNot a 4095 hi
    rw [h, tb_zero, tb4095 hi] at this
    cases ht : tb a i
    · rfl
    · rw [ht] at this
      simp at this
      omega
  · intro h
    exact low_right ⟨ha, fun i hi h12 => h i hi h12⟩
set_option maxRecDepth 8000 in
set_option maxHeartbeats 4000000 in
theorem bits_walk (a b : Int) (ha : in64 a) (hb : in64 b) (w : World) : Calls Try.prog 6 #[.int .i64 a, .int .i64 b] w fun e w' => e = .returned (.bool true) ∧ Below w.heap.size w w' := by
  have HA := Lib.hid awake_any
  have KM := Lib.hid (meet_any a b)
  have KW := Lib.hid (without_any a b)
  have hS := sub_any a b
  have hH := has_any a b
  have hN := need_any a b
  have hR := right_any a
  have hC := count_any a
  rw [has_sub hb] at hH hN
  rw [right_to a ha] at hR
  have HRh := Lib.hid rhas_any
  have HR := Lib.hid hR
  have HC := Lib.hid hC
  have HS := Lib.hid hS
  have HH := Lib.hid hH
  have HN := Lib.hid hN
  clear hS hH hN hR hC
  go_enter Try.func6, Try.ntmps6
  go_wp2
  go_loopw [7, 8, 16] (fun r n i wr => ∃ k : Nat, k ≤ 64 ∧ i = .int .i64 k ∧ r = .bool (rightTo a k) ∧ n = .int .i64 (cntTo a (min k 12) : Int) ∧ wr = w) (fun _ _ i _ => 64 - (intOf i).toNat)
  case atStart => exact ⟨0, by omega, rfl, rfl, rfl, rfl⟩
  case round =>
    obtain ⟨k, hk, rfl, rfl, rfl, rfl⟩ := hrel
    by_cases hlt : k < 64
    · have h1 := Lib.hid (HRh.out a k hlt)
      have h2 := Lib.hid (HRh.out b k hlt)
      have h3 := HRh.out (bits .and .i64 a b) k hlt
      have h4 := HRh.out (bits .andNot .i64 a b) k hlt
      rw [tb_and _ _ hlt] at h3
      rw [tb_andNot _ _ hlt] at h4
      have hr : rightTo a (k + 1) = (rightTo a k && (!tb a k || decide (k < 12))) := rfl
      have hn : cntTo a (min (k + 1) 12) = cntTo a (min k 12) + (if tb a k && decide (k < 12) then 1 else 0) := by
        by_cases h12 : k < 12
        · rw [show min (k + 1) 12 = k + 1 by omega, show min k 12 = k by omega]
          simp [cntTo, h12]
        · rw [show min (k + 1) 12 = 12 by omega, show min k 12 = 12 by omega]
          simp [h12]
      have hle := cntTo_le a (min k 12)
      have hle2 : cntTo a (min k 12) ≤ 12 := by omega
      clear hle
      generalize bits .and .i64 a b = m at *
      generalize bits .andNot .i64 a b = q at *
      generalize hrk : rightTo a k = rk at *
      generalize hnk : cntTo a (min k 12) = nk at *
      have HRK := Lib.hid hrk
      have HNK := Lib.hid hnk
      clear hrk hnk
      by_cases h12 : k < 12
      all_goals
        cases ha1 : tb a k <;> cases hb1 : tb b k <;> cases rk
      all_goals
        rw [ha1] at h1 h3 h4 hr hn
        rw [hb1] at h2 h3 h4
        simp only [h12, decide_true, decide_false, Bool.and_true, Bool.and_false, Bool.true_and, Bool.false_and, Bool.or_true, Bool.or_false, Bool.not_true, Bool.not_false, Bool.false_eq_true, if_true, if_false, Nat.add_zero, Bool.true_or, Bool.false_or] at h3 h4 hr hn
        have H3 := Lib.hid h3
        have H4 := Lib.hid h4
        have HR2 := Lib.hid hr
        have HN2 := Lib.hid hn
        clear h3 h4 hr hn ha1 hb1
        go_wp2_with (first
          | (go_at_call 18; (with_reducible refine (h1.out _).mono ?_); rintro e w1 ⟨rfl, rfl⟩)
          | (go_at_call 18; (with_reducible refine (h2.out _).mono ?_); rintro e w1 ⟨rfl, rfl⟩)
          | (go_at_call 18; (with_reducible refine (H3.out _).mono ?_); rintro e w1 ⟨rfl, rfl⟩)
          | (go_at_call 18; (with_reducible refine (H4.out _).mono ?_); rintro e w1 ⟨rfl, rfl⟩)
          | (go_at_call 11; (with_reducible refine (KM.out _).mono ?_); rintro e w1 ⟨rfl, rfl⟩)
          | (go_at_call 12; (with_reducible refine (KW.out _).mono ?_); rintro e w1 ⟨rfl, rfl⟩))
        go_roundw
        case rel => exact ⟨k + 1, by omega, by go_num, by first | (rw [HR2.out]; done) | (rw [HR2.out]; congr 1; simp only [decide_eq_true_eq, decide_eq_false_iff_not]; omega), by first | (rw [HN2.out]; done) | (rw [HN2.out]; simp; done) | (rw [HN2.out]; go_num) | (rw [HN2.out]; push_cast; go_num), by first | rfl | trivial⟩
        case measure => simp [intOf]; omega
    · obtain rfl : k = 64 := by omega
      rw [show min 64 12 = 12 from rfl]
      generalize rightTo a 64 = rb at *
      generalize (cntTo a 12 : Int) = nb at *
      have z1 : (nb == nb) = true := by simp
      cases hsb : subN a b 64
      all_goals
        rw [hsb] at HS HH HN
        cases rb
      all_goals
        go_wp2_with (first
          | (go_at_call 9; (with_reducible refine (HS.out _).mono ?_); rintro e w1 ⟨rfl, rfl⟩)
          | (go_at_call 17; (with_reducible refine (HR.out _).mono ?_); rintro e w1 ⟨rfl, rfl⟩)
          | (go_at_call 19; (with_reducible refine (HC.out _).mono ?_); rintro e w1 ⟨rfl, rfl⟩)
          | (go_at_call 10; (with_reducible refine (HH.out _).mono ?_); rintro e w1 ⟨rfl, rfl⟩)
          | (go_at_call 20; (with_reducible refine (HN.out _).mono ?_); rintro e w1 ⟨rfl, rfl⟩)
          | (go_at_call 8; (with_reducible refine (HA.out _).mono ?_); rintro e w2 ⟨rfl, hb2⟩))
        go_ret
        exact ⟨rfl, hb2⟩
theorem bits_row (a : Int) (ha : (Lit.int .i64 a).wf = true) (b : Int) (hb : (Lit.int .i64 b).wf = true) (w : World) :
    Calls Try.prog 6 #[.int .i64 a, .int .i64 b] w fun e w' => e = .returned (.bool true) ∧ Below w.heap.size w w' := bits_walk a b (in64_wf ha) (in64_wf hb) w
end Go.Proofs.Ytpkmpenjnbpblaa.Rt
