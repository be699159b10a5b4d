/- Contracts of the document's answer on signals (package jacinthref05). -/
import Derived.Test.YtdcdmbamloebfaaSig2
import Derived.Deep.QuietTactic
import Derived.BigQuiet
namespace Go.Proofs.Ytdcdmbamloebfaa.Sig
open Go Go.RowKit Go.Proofs.Ytdcdmbamloebfaa.Bits
set_option linter.unusedVariables false
set_option linter.unusedSimpArgs false
def nameR (k : Nat) : UInt8 := [114, 119, 112, 115, 116, 122, 0, 0, 48, 49, 50, 51, 52, 53, 54, 55].getD k 0
theorem name_any (k : Nat) (hk : k < 16) (w : World) : Calls Try.prog 30 #[.int .i64 k] w fun e w' => e = .returned (.int .u8 (nameR k).toNat) ∧ w' = w := by
  have h : k = 0 ∨ k = 1 ∨ k = 2 ∨ k = 3 ∨ k = 4 ∨ k = 5 ∨ k = 6 ∨ k = 7 ∨ k = 8 ∨ k = 9 ∨ k = 10 ∨ k = 11 ∨ k = 12 ∨ k = 13 ∨ k = 14 ∨ k = 15 := by omega
  rcases h with rfl | rfl | rfl | rfl | rfl | rfl | rfl | rfl | rfl | rfl | rfl | rfl | rfl | rfl | rfl | rfl
  all_goals
    go_enter Try.func30, Try.ntmps30
    go_wp2
    go_ret
    exact ⟨rfl, rfl⟩
def inB (l : List UInt8) (i : Nat) : Bool := l.any (· == nameR i)
theorem any_take_succ (s : ByteArray) (p : UInt8 → Bool) (k : Nat) (h : k < s.size) : (s.data.toList.take (k + 1)).any p = ((s.data.toList.take k).any p || p s[k]) := by
  rw [List.take_succ_eq_append_getElem (by simpa using h), List.any_append]
  simp
  rfl
set_option maxHeartbeats 1000000 in
theorem in_any (s : ByteArray) (hs : s.size ≤ 140737488355328) (i : Nat) (hi : i < 16) (w : World) : Calls Try.prog 26 #[.string s, .int .i64 i] w fun e w' => e = .returned (.bool (inB s.data.toList i)) ∧ ∃ n, w' = w.drewN n := by
  have H := Lib.hid (name_any i hi)
  go_enter Try.func26, Try.ntmps26
  go_wp2
  go_loopw [5] (fun j wr => ∃ k : Nat, k ≤ s.size ∧ j = .int .i64 k ∧ Hid ((s.data.toList.take k).any (· == nameR i) = false) ∧ ∃ n, wr = w.drewN n) (fun j _ => s.size - (intOf j).toNat)
  case atStart => exact ⟨0, by omega, rfl, Lib.hid (by simp), 0, rfl⟩
  case round =>
    obtain ⟨k, hk, rfl, hA, n, hw⟩ := hrel
    have HW := Lib.hid hw
    clear hw
    by_cases hlt : k < s.size
    · have hstep := any_take_succ s (· == nameR i) k hlt
      rw [hA.out] at hstep
      by_cases hc : s[k] = nameR i
      · have hr : inB s.data.toList i = true := by
          unfold inB
          rw [List.any_eq_true]
          exact ⟨s.data[k]'hlt, Array.mem_toList_iff.mpr (Array.getElem_mem hlt), by rw [show s.data[k]'hlt = nameR i from hc]; simp⟩
        have HR := Lib.hid hr
        have hcn : s[k].toNat = (nameR i).toNat := by rw [hc]
        clear hc hr hstep
        go_wp2
        go_quiet ((go_at_call 30; exact Calls.quiet_of_same (H.out _)))
        go_wp2
        go_ret
        exact ⟨by rw [HR.out]; rfl, _, by rw [HW.out, World.drewN_drewN]⟩
      · have hn : ¬ s[k].toNat = (nameR i).toNat := fun e => hc (UInt8.toNat_inj.mp e)
        have z1 : ((s[k].toNat : Int) == ((nameR i).toNat : Int)) = false := beq_eq_false_iff_ne.mpr (by omega)
        have hA2 : (s.data.toList.take (k + 1)).any (· == nameR i) = false := by rw [hstep]; simpa using hc
        have HA2 := Lib.hid hA2
        clear hc hn hstep hA2
        go_wp2
        go_quiet ((go_at_call 30; exact Calls.quiet_of_same (H.out _)))
        go_wp2
        go_roundw
        case rel => exact ⟨k + 1, by omega, by go_num, HA2, _, by rw [HW.out, World.drewN_drewN]⟩
        case measure => simp [intOf]; omega
    · obtain rfl : k = s.size := by omega
      have hr : inB s.data.toList i = false := by
        have := hA.out
        rwa [List.take_of_length_le (by simp)] at this
      have HR := Lib.hid hr
      clear hr
      go_wp2
      go_ret
      exact ⟨by rw [HR.out]; rfl, n, HW.out⟩
/-- The number of names: of the first k bits. -/
def bitsN (l : List UInt8) : Nat → Int
  | 0 => 0
  | k + 1 => bitsN l k + (if inB l k then 2 ^ k else 0)
theorem bitsN_le (l : List UInt8) : ∀ k, 0 ≤ bitsN l k ∧ bitsN l k < 2 ^ k
  | 0 => by simp [bitsN]
  | k + 1 => by
    have h := bitsN_le l k
    have hp := pow2_pos k
    simp only [bitsN]
    rw [Int.pow_succ]
    split <;> omega
theorem pow16 {k : Nat} (h : k ≤ 16) : (2 : Int) ^ k ≤ 65536 := by
  have h2 : (2 : Nat) ^ k ≤ 2 ^ 16 := Nat.pow_le_pow_right (by decide) h
  have h3 : ((2 ^ k : Nat) : Int) ≤ ((2 ^ 16 : Nat) : Int) := Int.ofNat_le.mpr h2
  simpa using h3
set_option maxHeartbeats 1000000 in
theorem bits_any (s : ByteArray) (hs : s.size ≤ 140737488355328) (w : World) : Calls Try.prog 10 #[.string s] w fun e w' => e = .returned (.int .i64 (bitsN s.data.toList 16)) ∧ ∃ n, w' = w.drewN n := by
  go_enter Try.func10, Try.ntmps10
  go_wp2
  go_loopw [3, 4, 5] (fun a m i wr => ∃ k : Nat, k ≤ 16 ∧ i = .int .i64 k ∧ m = .int .i64 (2 ^ k) ∧ a = .int .i64 (bitsN s.data.toList k) ∧ ∃ n, wr = w.drewN n) (fun _ _ i _ => 16 - (intOf i).toNat)
  case atStart => exact ⟨0, by omega, rfl, by simp, rfl, 0, rfl⟩
  case round =>
    obtain ⟨k, hk, rfl, rfl, rfl, n, rfl⟩ := hrel
    by_cases hlt : k < 16
    · have hI := in_any s hs k hlt
      have hsucc : bitsN s.data.toList (k + 1) = bitsN s.data.toList k + (if inB s.data.toList k then 2 ^ k else 0) := rfl
      have hle := bitsN_le s.data.toList k
      have hp := pow2_pos k
      have hq := pow16 (show k ≤ 16 by omega)
      have hps : (2 : Int) ^ (k + 1) = 2 ^ k * 2 := Int.pow_succ 2 k
      have HPS := Lib.hid hps
      clear hps
      generalize hpp : (2 : Int) ^ k = p at *
      cases hb : inB s.data.toList k
      all_goals
        rw [hb] at hI hsucc
        have H := Lib.hid hI
        have HS := Lib.hid hsucc
        have HPP := Lib.hid hpp
        clear hI hsucc hb hpp
        generalize bitsN s.data.toList k = q at *
        go_wp2_with (first | (go_at_call 26; (with_reducible refine (H.out _).mono ?_); rintro e w1 ⟨rfl, n1, rfl⟩))
        go_roundw
        case rel => exact ⟨k + 1, by omega, by go_num, by rw [HPS.out], by rw [HS.out]; simp, _, rfl⟩
        case measure => simp [intOf]; omega
    · obtain rfl : k = 16 := by omega
      go_wp2
      go_ret
      exact ⟨rfl, n, rfl⟩
/-- Are all bits of the second in the first? -/
def subN (n m : Int) (k : Nat) : Bool := decide (∀ i, i < k → tb m i = true → tb n i = true)
set_option maxHeartbeats 1000000 in
theorem sub_any (n m : Int) (w : World) : Calls Try.prog 12 #[.int .i64 n, .int .i64 m] w fun e w' => e = .returned (.bool (subN n m 64)) ∧ w = w' := by
  go_enter Try.func12, Try.ntmps12
  go_wp2
  go_loop [5] (fun i => ∃ k : Nat, k ≤ 64 ∧ i = .int .i64 k ∧ Hid (∀ i, i < k → tb m i = true → tb n i = true)) (fun i => 64 - (intOf i).toNat)
  case atStart => exact ⟨0, by omega, rfl, Lib.hid (fun i h => by omega)⟩
  case round =>
    obtain ⟨k, hk, rfl, hA⟩ := hrel
    by_cases hlt : k < 64
    · have ha := and_one (m / 2 ^ k)
      have hb := and_one (n / 2 ^ k)
      by_cases h1 : m / 2 ^ k % 2 = 1
      · have t1 : tb m k = true := decide_eq_true h1
        rw [h1] at ha
        by_cases h2 : n / 2 ^ k % 2 = 1
        · have t2 : tb n k = true := decide_eq_true h2
          rw [h2] at hb
          have HA : Hid (∀ i, i < k + 1 → tb m i = true → tb n i = true) := Lib.hid (fun i hi h => by
            rcases Nat.lt_or_ge i k with h' | h'
            · exact hA.out i h' h
            · obtain rfl : i = k := by omega
              exact t2)
          clear h1 h2 t1 t2
          go_wp2
          go_round
          case rel => exact ⟨k + 1, by omega, by go_num, HA⟩
          case measure => simp [intOf]; omega
        · have h3 : n / 2 ^ k % 2 = 0 := by omega
          have t2 : tb n k = false := decide_eq_false h2
          rw [h3] at hb
          have HR : Hid (subN n m 64 = false) := Lib.hid (decide_eq_false fun h => by have := h k hlt t1; rw [t2] at this; cases this)
          clear h1 h2 h3 t1 t2
          go_wp2
          go_ret
          exact ⟨by rw [HR.out]; rfl, rfl⟩
      · have h3 : m / 2 ^ k % 2 = 0 := by omega
        have t1 : tb m k = false := decide_eq_false h1
        rw [h3] at ha
        have HA : Hid (∀ i, i < k + 1 → tb m i = true → tb n i = true) := Lib.hid (fun i hi h => by
          rcases Nat.lt_or_ge i k with h' | h'
          · exact hA.out i h' h
          · obtain rfl : i = k := by omega
            rw [t1] at h; cases h)
        clear h1 h3 t1 hb
        go_wp2
        go_round
        case rel => exact ⟨k + 1, by omega, by go_num, HA⟩
        case measure => simp [intOf]; omega
    · obtain rfl : k = 64 := by omega
      have HR : Hid (subN n m 64 = true) := Lib.hid (decide_eq_true hA.out)
      go_wp2
      go_ret
      exact ⟨by rw [HR.out]; rfl, rfl⟩
end Go.Proofs.Ytdcdmbamloebfaa.Sig
