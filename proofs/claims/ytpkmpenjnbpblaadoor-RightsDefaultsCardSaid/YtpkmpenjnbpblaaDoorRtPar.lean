/- The contracts of the reference's Letters, Bit, Of, Text, and of Parse. -/
import Derived.Test.YtpkmpenjnbpblaaDoorRtRed
import Derived.Laws.IdiomStrings
import Derived.Lib.ConvBytes
import Derived.Lib.AtoiErrMem
import Derived.Deep.LoopGhost
import Derived.Lib.Fold
namespace Go.Proofs.YtpkmpenjnbpblaaDoor.Rt
open Go Go.RowKit Go.Proofs.YtpkmpenjnbpblaaDoor.Mem Go.Proofs.YtpkmpenjnbpblaaDoor.Bits
set_option linter.unusedVariables false
set_option linter.unusedSimpArgs false
theorem letters_fn (w : World) : Calls Tryd.prog 25 #[] w fun e w' => e = .returned (.string ⟨#[68, 84, 82, 87, 83, 80, 65, 73, 77, 75, 71, 89]⟩) ∧ w = w' := by
  go_enter Tryd.func25, Tryd.ntmps25
  go_wp2
  go_ret
  exact ⟨rfl, rfl⟩
theorem lit_at {k : Nat} (hk : k < 12) (h : k < (⟨#[68, 84, 82, 87, 83, 80, 65, 73, 77, 75, 71, 89]⟩ : ByteArray).size) : (⟨#[68, 84, 82, 87, 83, 80, 65, 73, 77, 75, 71, 89]⟩ : ByteArray)[k]'h = letterOf k := by
  have e : ∀ j : Fin 12, (⟨#[68, 84, 82, 87, 83, 80, 65, 73, 77, 75, 71, 89]⟩ : ByteArray).data[j.val]'(j.isLt) = letterOf j.val := by decide
  exact e ⟨k, hk⟩
theorem piece_eq {k : Nat} (hk : k < 12) : piece k = ⟨#[letterOf k]⟩ := by
  have h := piece_at hk
  exact ByteArray.ext (Array.toList_inj.mp (by rw [h]))
theorem run_piece1 {k : Nat} (hk : k < 12) (w : World) : (Instr.slice 9 (.string ⟨#[68, 84, 82, 87, 83, 80, 65, 73, 77, 75, 71, 89]⟩) (some (.int .i64 (k : Int))) (some (.int .i64 ((k : Int) + 1))) none).run Tryd.prog w = .ok (.string ⟨#[letterOf k]⟩) w := by
  rw [run_piece hk w, piece_eq hk]
theorem snoc_str (l : List UInt8) (c : UInt8) : (⟨l.toArray⟩ : ByteArray) ++ ⟨#[c]⟩ = ⟨(l ++ [c]).toArray⟩ := by
  apply ByteArray.ext
  simp
theorem letters_no {n : Int} {k : Nat} (h : tb n k = false) : letters n (k + 1) = letters n k := by
  conv => lhs; unfold letters
  rw [if_neg (by rw [h]; simp)]
theorem letters_yes {n : Int} {k : Nat} (h : tb n k = true) : letters n (k + 1) = letters n k ++ [letterOf k] := by
  conv => lhs; unfold letters
  rw [if_pos h]
/-- The bit of a letter, from bit i on. -/
def idxG (c : UInt8) : Nat → Nat → Option Nat
  | 0, _ => none
  | f + 1, i => if letterOf i = c then some i else idxG c f (i + 1)
def idx (c : UInt8) : Option Nat := idxG c 12 0
def bitN (c : UInt8) : Int :=
  match idx c with
  | some i => 2 ^ i
  | none => 0
theorem pow12 {k : Nat} (h : k ≤ 12) : (2 : Int) ^ k ≤ 4096 := by
  have h2 : (2 : Nat) ^ k ≤ 2 ^ 12 := Nat.pow_le_pow_right (by decide) h
  have h3 : ((2 ^ k : Nat) : Int) ≤ ((2 ^ 12 : Nat) : Int) := Int.ofNat_le.mpr h2
  simpa using h3
theorem idxG_lt (c : UInt8) : ∀ f i j, idxG c f i = some j → j < i + f
  | 0, i, j, h => by simp [idxG] at h
  | f + 1, i, j, h => by
    unfold idxG at h
    split at h
    · injection h with h; omega
    · have := idxG_lt c f (i + 1) j h; omega
theorem idx_lt {c : UInt8} {j : Nat} (h : idx c = some j) : j < 12 := by have := idxG_lt c 12 0 j h; omega
theorem bitN_range (c : UInt8) : 0 ≤ bitN c ∧ bitN c ≤ 4096 := by
  unfold bitN
  cases h : idx c with
  | none => simp
  | some i => exact ⟨Int.le_of_lt (pow2_pos i), pow12 (Nat.le_of_lt (idx_lt h))⟩
set_option maxHeartbeats 1000000 in
theorem bit_any (c : UInt8) (w : World) : Calls Tryd.prog 19 #[.int .u8 c.toNat] w fun e w' => e = .returned (.int .i64 (bitN c)) ∧ w = w' := by
  have HL0 := Lib.hid letters_fn
  go_enter Tryd.func19, Tryd.ntmps19
  go_wp2
  go_loopw [3, 4] (fun m i wr => ∃ k : Nat, k ≤ 12 ∧ i = .int .i64 k ∧ m = .int .i64 (2 ^ k) ∧ Hid (idxG c (12 - k) k = idx c) ∧ wr = w) (fun _ i _ => 12 - (intOf i).toNat)
  case atStart => exact ⟨0, by omega, rfl, by simp, Lib.hid rfl, rfl⟩
  case round =>
    obtain ⟨k, hk, rfl, rfl, HX, rfl⟩ := hrel
    by_cases hlt : k < 12
    · have hlit := fun h => lit_at hlt h
      obtain ⟨f, hf⟩ : ∃ f, 12 - k = f + 1 := ⟨11 - k, by omega⟩
      have hx := HX.out
      rw [hf, idxG] at hx
      by_cases hm : letterOf k = c
      · rw [if_pos hm] at hx
        have HB : Hid ((2 : Int) ^ k = bitN c) := Lib.hid (by unfold bitN; rw [← hx])
        subst hm
        clear hx HX hf
        go_wp2_with (first | (go_at_call 25; (with_reducible refine (HL0.out _).mono ?_); rintro e w1 ⟨rfl, rfl⟩))
        go_ret
        exact ⟨by rw [← HB.out]; rfl, rfl⟩
      · rw [if_neg hm] at hx
        have hn : ¬ (letterOf k).toNat = c.toNat := fun e => hm (UInt8.toNat_inj.mp e)
        have z1 : (((letterOf k).toNat : Int) == (c.toNat : Int)) = false := beq_eq_false_iff_ne.mpr (by omega)
        have HX2 : Hid (idxG c (12 - (k + 1)) (k + 1) = idx c) := Lib.hid (by rw [show 12 - (k + 1) = f by omega]; exact hx)
        have hps : (2 : Int) ^ (k + 1) = 2 ^ k * 2 := Int.pow_succ 2 k
        have HPS := Lib.hid hps
        have hp := pow2_pos k
        have hq := pow12 hk
        clear hps hx hm hn HX hf
        generalize hpp : (2 : Int) ^ k = p at *
        have HPP := Lib.hid hpp
        clear hpp
        go_wp2_with (first | (go_at_call 25; (with_reducible refine (HL0.out _).mono ?_); rintro e w1 ⟨rfl, rfl⟩))
        go_roundw
        case rel => exact ⟨k + 1, by omega, by go_num, by rw [HPS.out], HX2, by first | rfl | trivial⟩
        case measure => simp [intOf]; omega
    · obtain rfl : k = 12 := by omega
      have HB : Hid ((0 : Int) = bitN c) := Lib.hid (by
        have := HX.out
        unfold bitN
        rw [← this]
        rfl)
      clear HX
      go_wp2
      go_ret
      exact ⟨by rw [← HB.out]; rfl, rfl⟩
def ofN (l : List UInt8) : Nat → Int
  | 0 => 0
  | k + 1 => ofN l k + bitN (l.getD k 0)
theorem ofN_range (l : List UInt8) : ∀ k, 0 ≤ ofN l k ∧ ofN l k ≤ 4096 * k
  | 0 => by simp [ofN]
  | k + 1 => by
    have h := ofN_range l k
    have := bitN_range (l.getD k 0)
    simp only [ofN]
    omega
theorem str_at (t : ByteArray) {k : Nat} (h : k < t.size) : t[k]'h = t.data.toList.getD k 0 := by
  have hl : k < t.data.toList.length := by simpa using h
  rw [List.getD_eq_getElem?_getD, List.getElem?_eq_getElem hl]
  rfl
set_option maxHeartbeats 1000000 in
theorem of_any (t : ByteArray) (ht : t.size ≤ 500) (w : World) : Calls Tryd.prog 14 #[.string t] w fun e w' => e = .returned (.int .i64 (ofN t.data.toList t.size)) ∧ w = w' := by
  have HB := Lib.hid bit_any
  go_enter Tryd.func14, Tryd.ntmps14
  go_wp2
  go_loopw [3, 4] (fun m i wr => ∃ k : Nat, k ≤ t.size ∧ i = .int .i64 k ∧ m = .int .i64 (ofN t.data.toList k) ∧ wr = w) (fun _ i _ => t.size - (intOf i).toNat)
  case atStart => exact ⟨0, by omega, rfl, rfl, rfl⟩
  case round =>
    obtain ⟨k, hk, rfl, rfl, rfl⟩ := hrel
    by_cases hlt : k < t.size
    · have hat := fun h => str_at t (k := k) h
      have h1 := Lib.hid (HB.out (t.data.toList.getD k 0))
      have hs : ofN t.data.toList (k + 1) = ofN t.data.toList k + bitN (t.data.toList.getD k 0) := rfl
      have HS := Lib.hid hs
      have hr := ofN_range t.data.toList k
      have hb := bitN_range (t.data.toList.getD k 0)
      clear hs
      generalize t.data.toList.getD k 0 = c at *
      generalize hqq : ofN t.data.toList k = q at *
      have HQ := Lib.hid hqq
      clear hqq
      generalize bitN c = bc at *
      go_wp2_with (first | (go_at_call 19; (with_reducible refine (h1.out _).mono ?_); rintro e w1 ⟨rfl, rfl⟩))
      go_roundw
      case rel => exact ⟨k + 1, by omega, by go_num, by rw [HS.out], by first | rfl | trivial⟩
      case measure => simp [intOf]; omega
    · obtain rfl : k = t.size := by omega
      go_wp2
      go_ret
      exact ⟨rfl, rfl⟩
end Go.Proofs.YtpkmpenjnbpblaaDoor.Rt
