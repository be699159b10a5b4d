/- The contracts of the reference's Text and of Parse. -/
import Derived.Test.YtdcdmbamloebfaaSigRef
import Derived.Laws.IdiomStrings
import Derived.Lib.ConvBytes
namespace Go.Proofs.Ytdcdmbamloebfaa.Sig
open Go Go.RowKit Go.Proofs.Ytdcdmbamloebfaa.Bits
set_option linter.unusedVariables false
set_option linter.unusedSimpArgs false
theorem name_ref {k : Nat} (hk : k < 16) : (nameOf k = 32 ∧ nameR k = 0) ∨ (nameOf k ≠ 32 ∧ nameR k ≠ 0 ∧ nameR k = nameOf k) := by
  have e : ∀ j : Fin 16, (nameOf j.val = 32 ∧ nameR j.val = 0) ∨ (nameOf j.val ≠ 32 ∧ nameR j.val ≠ 0 ∧ nameR j.val = nameOf j.val) := by decide
  exact e ⟨k, hk⟩
theorem snoc_str (l : List UInt8) (c : UInt8) : (⟨l.toArray⟩ : ByteArray) ++ ⟨#[c]⟩ = ⟨(l ++ [c]).toArray⟩ := by
  apply ByteArray.ext
  simp
theorem cv_one (c : UInt8) (W : World) : (convert 44 9 (.slice (some ⟨W.heap.size, 0, none⟩) 1 1)).run Try.prog (W.alloc (.cells #[.int .u8 c.toNat] 5)) = .ok (.string ⟨#[c]⟩) (W.alloc (.cells #[.int .u8 c.toNat] 5)) :=
  run_convert_bytes_back _ 44 9 5 ⟨W.heap.size, 0, none⟩ 1 [c] Try.underlying44 Try.underlying5 Try.underlying9 (fun j hj => by
    obtain rfl : j = 0 := by simpa using hj
    show (W.alloc (.cells #[.int .u8 c.toNat] 5)).cell? ⟨W.heap.size, 0, none⟩ = _
    simp)
theorem name_any' (k : Nat) (hk : k < 16) (w : World) : Calls Try.prog 30 #[.int .i64 k] w fun e w' => e = .returned (.int .u8 (nameR k).toNat) ∧ w = w' :=
  (name_any k hk w).mono fun _ _ ⟨h1, h2⟩ => ⟨h1, h2.symm⟩
set_option maxHeartbeats 2000000 in
theorem refText_any (n : Int) (w : World) : Calls Try.prog 24 #[.int .i64 n] w fun e w' => e = .returned (.string ⟨(txt n).toArray⟩) ∧ Below w.heap.size w w' := by
  have H := Lib.hid name_any'
  go_enter Try.func24, Try.ntmps24
  go_wp2
  go_loopw [3, 4] (fun s i wr => ∃ k : Nat, k ≤ 16 ∧ i = .int .i64 k ∧ s = .string ⟨(letters n k).toArray⟩ ∧ Below w.heap.size w wr) (fun _ i _ => 16 - (intOf i).toNat)
  case atStart => exact ⟨0, by omega, rfl, rfl, Below.refl _ _⟩
  case round =>
    obtain ⟨k, hk, rfl, rfl, hb⟩ := hrel
    by_cases hlt : k < 16
    · have H1 := Lib.hid (H.out k hlt)
      have hand := and_one (n / 2 ^ k)
      by_cases hbit : n / 2 ^ k % 2 = 1
      · rw [hbit] at hand
        have ht : tb n k = true := decide_eq_true hbit
        rcases name_ref hlt with ⟨e1, e2⟩ | ⟨e1, e2, e3⟩
        · have HL := Lib.hid (letters_no (n := n) (.inr e1))
          rw [e2] at H1
          clear hbit ht e1 e2
          go_wp2_with (first | (go_at_call 30; (with_reducible refine (H1.out _).mono ?_); rintro e w1 ⟨rfl, rfl⟩))
          go_roundw
          case rel => exact ⟨k + 1, by omega, by go_num, by rw [HL.out], hb⟩
          case measure => simp [intOf]; omega
        · have HL := Lib.hid (letters_yes ht e1)
          rw [e3] at H1 e2
          have hn : ¬ (nameOf k).toNat = 0 := fun e => e2 (UInt8.toNat_inj.mp e)
          have h1 : (((nameOf k).toNat : Int) == 0) = false := beq_eq_false_iff_ne.mpr (by omega)
          have h2 : (((nameOf k).toNat : Int) != 0) = true := bne_iff_ne.mpr (by omega)
          have hcv := cv_one (nameOf k)
          have hlen := letters_len n k
          have hl2 : (letters n k).length + 1 ≤ 17 := by omega
          clear hlen
          clear hbit ht e1 e2 hn
          go_wp2_with (first | (go_at_call 30; (with_reducible refine (H1.out _).mono ?_); rintro e w1 ⟨rfl, rfl⟩))
          go_roundw
          case rel => exact ⟨k + 1, by omega, by go_num, by rw [HL.out, ← snoc_str], hb.alloc hb.size _⟩
          case measure => simp [intOf]; omega
      · have h0 : n / 2 ^ k % 2 = 0 := by omega
        rw [h0] at hand
        have HL := Lib.hid (letters_no (n := n) (k := k) (.inl (decide_eq_false hbit)))
        clear hbit h0
        go_wp2
        go_roundw
        case rel => exact ⟨k + 1, by omega, by go_num, by rw [HL.out], hb⟩
        case measure => simp [intOf]; omega
    · obtain rfl : k = 16 := by omega
      by_cases he : letters n 16 = []
      · have HT : Hid (txt n = [45]) := Lib.hid (if_pos he)
        rw [he]
        clear he
        go_wp2
        go_ret
        exact ⟨by rw [HT.out]; rfl, hb⟩
      · have HT : Hid (txt n = letters n 16) := Lib.hid (if_neg he)
        obtain ⟨c, l, hl⟩ := List.exists_cons_of_ne_nil he
        have hz := Lib.hid hl
        rw [hl]
        have z2 : ¬ (⟨(c :: l).toArray⟩ : ByteArray) = ⟨#[]⟩ := (fun e => by have := congrArg (fun b => b.data.toList) e; simp at this)
        clear he hl
        go_wp2
        go_ret
        exact ⟨by rw [HT.out, hz.out]; rfl, hb⟩
end Go.Proofs.Ytdcdmbamloebfaa.Sig
