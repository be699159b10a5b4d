/- The contract of a set's Text. -/
import Derived.Test.YtdcdmbamloebfaaSb
import Derived.Test.YtdcdmbamloebfaaBits
import Derived.Test.YtdcdmbamloebfaaMem
import Derived.LoopTactic
import Derived.Outline
import Derived.WideLaws
import Derived.Lib.Hide
namespace Go.Proofs.Ytdcdmbamloebfaa.Sig
open Go Go.RowKit Go.Proofs.Ytdcdmbamloebfaa.Bits
set_option linter.unusedVariables false
set_option linter.unusedSimpArgs false
def names : List UInt8 := [114, 119, 112, 115, 116, 122, 32, 32, 48, 49, 50, 51, 52, 53, 54, 55]
/-- The name of a bit. -/
def nameOf (i : Nat) : UInt8 := names.getD i 32
/-- The names of the first k bits of a number. -/
def letters (n : Int) : Nat → List UInt8
  | 0 => []
  | k + 1 => letters n k ++ (if tb n k && nameOf k != 32 then [nameOf k] else [])
def txt (n : Int) : List UInt8 := if letters n 16 = [] then [45] else letters n 16
theorem letters_len (n : Int) : ∀ k, (letters n k).length ≤ k
  | 0 => Nat.le_refl 0
  | k + 1 => by
    have := letters_len n k
    simp only [letters, List.length_append]
    split <;> simp <;> omega
theorem lit_at {k : Nat} (hk : k < 16) (h : k < (⟨#[114, 119, 112, 115, 116, 122, 32, 32, 48, 49, 50, 51, 52, 53, 54, 55]⟩ : ByteArray).size) : (⟨#[114, 119, 112, 115, 116, 122, 32, 32, 48, 49, 50, 51, 52, 53, 54, 55]⟩ : ByteArray)[k]'h = nameOf k := by
  have e : ∀ j : Fin 16, (⟨#[114, 119, 112, 115, 116, 122, 32, 32, 48, 49, 50, 51, 52, 53, 54, 55]⟩ : ByteArray).data[j.val]'(j.isLt) = nameOf j.val := by decide
  exact e ⟨k, hk⟩
theorem byteCells_snoc (l : List UInt8) (c : UInt8) : Lib.byteCells l ++ [.int .u8 (c.toNat : Int)] = Lib.byteCells (l ++ [c]) := by
  simp [Lib.byteCells]
theorem byteCells_len (l : List UInt8) : (Lib.byteCells l).length = l.length := by simp [Lib.byteCells]
theorem letters_no {n : Int} {k : Nat} (h : tb n k = false ∨ nameOf k = 32) : letters n (k + 1) = letters n k := by
  rcases h with h | h <;> simp [letters, h]
theorem letters_yes {n : Int} {k : Nat} (h : tb n k = true) (h' : nameOf k ≠ 32) : letters n (k + 1) = letters n k ++ [nameOf k] := by
  simp [letters, h, h']
set_option maxHeartbeats 2000000 in
theorem text_any (n : Int) (w : World) : Calls Try.prog 23 #[.int .i64 n] w fun e w' => e = .returned (.string ⟨(txt n).toArray⟩) ∧ Below w.heap.size w w' := by
  go_enter Try.func23, Try.ntmps23
  go_wp2
  go_loopw [5] (fun i wr => ∃ k : Nat, k ≤ 16 ∧ i = .int .i64 k ∧ Lib.IsBuilder 46 5 w.heap.size w.heap.size (Lib.byteCells (letters n k)) wr ∧ Below w.heap.size w wr) (fun i _ => 16 - (intOf i).toNat)
  case atStart => exact ⟨0, by omega, rfl, Lib.fresh_isBuilder 46 5 w, (Below.refl _ _).alloc (Nat.le_refl _) _⟩
  case round =>
    obtain ⟨k, hk, rfl, hB, hb⟩ := hrel
    by_cases hlt : k < 16
    · have hand := and_one (n / 2 ^ k)
      by_cases hbit : n / 2 ^ k % 2 = 1
      · rw [hbit] at hand
        have ht : tb n k = true := decide_eq_true hbit
        have hlit := fun h => lit_at hlt h
        by_cases hch : nameOf k = 32
        · have HL := Lib.hid (letters_no (n := n) (.inr hch))
          have h32 : (nameOf k).toNat = 32 := by rw [hch]; rfl
          clear hbit ht hch
          go_wp2
          go_roundw
          case rel => exact ⟨k + 1, by omega, by go_num, by rw [HL.out]; exact hB, hb⟩
          case measure => simp [intOf]; omega
        · have HL := Lib.hid (letters_yes ht hch)
          have hn : ¬ (nameOf k).toNat = 32 := fun e => hch (UInt8.toNat_inj.mp e)
          have h1 : (((nameOf k).toNat : Int) == 32) = false := beq_eq_false_iff_ne.mpr (by omega)
          have h2 : (((nameOf k).toNat : Int) != 32) = true := bne_iff_ne.mpr (by omega)
          have hlen := letters_len n k
          have HLen : Hid ((Lib.byteCells (letters n k)).length + 1 ≤ 140737488355328) := Lib.hid (by rw [byteCells_len]; omega)
          clear hbit ht hch hn hlen
          go_wp2_with (first | (go_at_call 27; (with_reducible refine (Sb.writeByte_any w.heap.size w.heap.size _ _ _ hB HLen.out hb.size).mono ?_); rintro e w1 ⟨rfl, hB1, hb1⟩))
          go_roundw
          case rel => exact ⟨k + 1, by omega, by go_num, .inr (by rw [HL.out, ← byteCells_snoc]; exact hB1), hb.trans hb1⟩
          case measure => simp [intOf]; omega
      · have h0 : n / 2 ^ k % 2 = 0 := by omega
        rw [h0] at hand
        have HL := Lib.hid (letters_no (n := n) (k := k) (.inl (decide_eq_false hbit)))
        clear hbit h0
        go_wp2
        go_roundw
        case rel => exact ⟨k + 1, by omega, by go_num, by rw [HL.out]; exact hB, hb⟩
        case measure => simp [intOf]; omega
    · obtain rfl : k = 16 := by omega
      have hL := Try.Builder_Len _ _ _ wr hB
      have hS := Try.Builder_String_any _ _ _ wr hB hb.size
      rw [byteCells_len] at hL
      by_cases he : letters n 16 = []
      · have HT : Hid (txt n = [45]) := Lib.hid (if_pos he)
        rw [he] at hL
        have HL := Lib.hid hL
        clear he hL hS
        go_wp2_with (first | (go_at_call 28; (with_reducible refine (HL.out).mono ?_); rintro e w1 ⟨rfl, rfl⟩))
        go_ret
        exact ⟨by rw [HT.out]; rfl, hb⟩
      · have HT : Hid (txt n = letters n 16) := Lib.hid (if_neg he)
        have hpos : 0 < (letters n 16).length := List.length_pos_iff.mpr he
        have HS := Lib.hid hS
        have HL := Lib.hid hL
        generalize (letters n 16).length = m at *
        have z1 : ((m : Int) == 0) = false := beq_eq_false_iff_ne.mpr (by omega)
        clear he hL hS
        go_wp2_with (first | (go_at_call 28; (with_reducible refine (HL.out).mono ?_); rintro e w1 ⟨rfl, rfl⟩) | (go_at_call 29; (with_reducible refine (HS.out).mono ?_); rintro e w1 ⟨rfl, hb1⟩))
        go_ret
        exact ⟨by rw [HT.out]; rfl, hb.trans hb1⟩
end Go.Proofs.Ytdcdmbamloebfaa.Sig
