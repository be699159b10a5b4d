/- The walk of the statement SignalTexts. -/
import Derived.Test.YtdcdmbamloebfaaSigPar2
import Derived.Test.YtdcdmbamloebfaaSig3
namespace Go.Proofs.Ytdcdmbamloebfaa.Sig
open Go Go.RowKit Go.Proofs.Ytdcdmbamloebfaa.Bits
set_option linter.unusedVariables false
set_option linter.unusedSimpArgs false
theorem idx_name {k : Nat} (hk : k < 16) (h : nameOf k ≠ 32) : idx (nameOf k) = some k := by
  have e : ∀ j : Fin 16, nameOf j.val ≠ 32 → idx (nameOf j.val) = some j.val := by decide
  exact e ⟨k, hk⟩ h
theorem pS_append : ∀ (l1 l2 : List UInt8) (s : Int), (∀ c ∈ l1, (idx c).isSome = true) → pS (l1 ++ l2) s = pS l2 (pS l1 s)
  | [], _, _, _ => rfl
  | c :: l, l2, s, h => by
    have hc := h c (by simp)
    obtain ⟨i, hi⟩ := Option.isSome_iff_exists.mp hc
    simp only [List.cons_append, pS, hi]
    exact pS_append l l2 _ (fun d hd => h d (by simp [hd]))
theorem letters_ok (n : Int) : ∀ k, k ≤ 16 → ∀ c ∈ letters n k, (idx c).isSome = true
  | 0, _, c, h => by simp [letters] at h
  | k + 1, hk, c, h => by
    simp only [letters, List.mem_append] at h
    rcases h with h | h
    · exact letters_ok n k (by omega) c h
    · split at h
      · rename_i hh
        obtain rfl : c = nameOf k := by simpa using h
        simp only [Bool.and_eq_true, bne_iff_ne] at hh
        rw [idx_name (by omega) hh.2]
        rfl
      · simp at h
theorem tb_pow (k i : Nat) : tb (2 ^ k) i = decide (k = i) := by
  have : ((2 : Int) ^ k) = ((2 ^ k : Nat) : Int) := by simp
  rw [this, tb_nat, Nat.testBit_two_pow]
theorem pN_bits (n : Int) {i : Nat} (hi : i < 64) : ∀ k, k ≤ 16 → tb (pN (letters n k)) i = (decide (i < k) && tb n i && nameOf i != 32)
  | 0, _ => by simp [letters, pN, pS, tb_zero]
  | k + 1, hk => by
    have ih := pN_bits n hi k (by omega)
    unfold pN at *
    simp only [letters]
    rw [pS_append _ _ _ (letters_ok n k (by omega))]
    by_cases hc : (tb n k && nameOf k != 32) = true
    · rw [if_pos hc]
      simp only [Bool.and_eq_true, bne_iff_ne] at hc
      simp only [pS, idx_name (show k < 16 by omega) hc.2]
      rw [tb_or _ _ hi, ih, tb_pow]
      by_cases hik : k = i
      · subst hik
        simp [hc.1, hc.2]
      · have : decide (i < k + 1) = decide (i < k) := decide_eq_decide.mpr (by omega)
        simp [this, hik]
    · rw [if_neg hc]
      simp only [pS]
      rw [ih]
      by_cases hik : k = i
      · subst hik
        have hc2 : (tb n k && nameOf k != 32) = false := by simpa using hc
        rw [Bool.and_assoc, Bool.and_assoc, hc2]
        simp
      · have : decide (i < k + 1) = decide (i < k) := decide_eq_decide.mpr (by omega)
        rw [this]
theorem letters_congr {n m : Int} : ∀ k, (∀ i, i < k → nameOf i ≠ 32 → tb n i = tb m i) → letters n k = letters m k
  | 0, _ => rfl
  | k + 1, h => by
    simp only [letters]
    rw [letters_congr k (fun i hi => h i (by omega))]
    by_cases hn : nameOf k = 32
    · simp [hn]
    · rw [h k (by omega) hn]
/-- What Text wrote is read. -/
theorem text_read (n : Int) : txt (pN (txt n)) = txt n ∧ subN n (pN (txt n)) 64 = true := by
  by_cases h : letters n 16 = []
  · have e : txt n = [45] := if_pos h
    rw [e, show pN [45] = 0 by decide]
    exact ⟨by decide, decide_eq_true fun i hi h => by rw [tb_zero] at h; cases h⟩
  · have e : txt n = letters n 16 := if_neg h
    rw [e]
    have hl : letters (pN (letters n 16)) 16 = letters n 16 := letters_congr 16 fun i hi hn => by
      rw [pN_bits n (show i < 64 by omega) 16 (by omega)]
      simp [hi, hn]
    refine ⟨?_, decide_eq_true fun i hi h1 => ?_⟩
    · unfold txt
      rw [hl, if_neg h]
    · rw [pN_bits n hi 16 (by omega)] at h1
      simp only [Bool.and_eq_true] at h1
      exact h1.1.2
theorem parse_text (n : Int) : valP (txt n) = pN (txt n) ∧ errP (txt n) = 0 := p_yes (text_read n).1
theorem not_read {t : List UInt8} (h : ¬ txt (pN t) = t) (m : Int) : ¬ txt m = t := fun e => h (by rw [← e]; exact (text_read m).1)
theorem _root_.Go.RowKit.Below.next {w a b : World} (h : Below w.heap.size w a) (k : Below a.heap.size a b) : Below w.heap.size w b := h.trans (k.mono h.size)
set_option maxHeartbeats 4000000 in
theorem texts_walk (n : Int) (t : ByteArray) (w : World) : Calls Try.prog 8 #[.int .i64 n, .string t] w fun e w' => e = .returned (.bool true) ∧ Below w.heap.size w w' := by
  have HA := Lib.hid awake_any
  by_cases hl : t.size ≤ 500
  · have H1 := Lib.hid (text_any n)
    have H2 := Lib.hid (refText_any n)
    have hlen : (txt n).length ≤ 16 := by
      unfold txt
      split
      · decide
      · exact letters_len n 16
    have h3 := parse_any ⟨(txt n).toArray⟩ (by show (txt n).toArray.size ≤ _; simp; omega)
    rw [show (⟨(txt n).toArray⟩ : ByteArray).data.toList = txt n by simp, (parse_text n).1, (parse_text n).2] at h3
    have H3 := Lib.hid h3
    have h4 := text_any (pN (txt n))
    rw [(text_read n).1] at h4
    have H4 := Lib.hid h4
    have h5 := sub_any n (pN (txt n))
    rw [(text_read n).2] at h5
    have H5 := Lib.hid h5
    have h6 := parse_any t (by omega)
    generalize hx : pN (txt n) = x at *
    clear hx hlen h3 h4 h5
    by_cases hok : txt (pN t.data.toList) = t.data.toList
    · rw [(p_yes hok).1, (p_yes hok).2] at h6
      have H6 := Lib.hid h6
      have h7 := text_any (pN t.data.toList)
      rw [hok, show (⟨t.data.toList.toArray⟩ : ByteArray) = t by simp] at h7
      have H7 := Lib.hid h7
      generalize pN t.data.toList = y at *
      generalize (⟨(txt n).toArray⟩ : ByteArray) = S at *
      clear h6 h7 hok
      go_enter Try.func8, Try.ntmps8
      go_wp2_with (first | (go_at_call 23; first | (with_reducible refine (H1.out _).mono ?_); rintro e w1 ⟨rfl, hb1⟩ | (with_reducible refine (H4.out _).mono ?_); rintro e w4 ⟨rfl, hb4⟩ | (with_reducible refine (H7.out _).mono ?_); rintro e w7 ⟨rfl, hb7⟩) | (go_at_call 24; (with_reducible refine (H2.out _).mono ?_); rintro e w2 ⟨rfl, hb2⟩) | (go_at_call 25; first | (with_reducible refine (H3.out _).mono ?_); rintro e w3 ⟨rfl, hb3⟩ | (with_reducible refine (H6.out _).mono ?_); rintro e w6 ⟨rfl, hb6⟩) | (go_at_call 12; (with_reducible refine (H5.out _).mono ?_); rintro e w5 ⟨rfl, rfl⟩) | (go_at_call 15; (with_reducible refine (HA.out _).mono ?_); rintro e w8 ⟨rfl, hb8⟩))
      go_ret
      exact ⟨rfl, ((((((hb1.next hb2).next hb3).next hb4).next hb6).next hb7).next hb8)⟩
    · rw [(p_no hok).1, (p_no hok).2] at h6
      have H6 := Lib.hid h6
      clear h6
      by_cases he : t = ⟨#[]⟩
      · subst he
        clear hok
        generalize (⟨(txt n).toArray⟩ : ByteArray) = S at *
        go_enter Try.func8, Try.ntmps8
        go_wp2_with (first | (go_at_call 23; first | (with_reducible refine (H1.out _).mono ?_); rintro e w1 ⟨rfl, hb1⟩ | (with_reducible refine (H4.out _).mono ?_); rintro e w4 ⟨rfl, hb4⟩) | (go_at_call 24; (with_reducible refine (H2.out _).mono ?_); rintro e w2 ⟨rfl, hb2⟩) | (go_at_call 25; first | (with_reducible refine (H3.out _).mono ?_); rintro e w3 ⟨rfl, hb3⟩ | (with_reducible refine (H6.out _).mono ?_); rintro e w6 ⟨rfl, hb6⟩) | (go_at_call 12; (with_reducible refine (H5.out _).mono ?_); rintro e w5 ⟨rfl, rfl⟩) | (go_at_call 15; (with_reducible refine (HA.out _).mono ?_); rintro e w8 ⟨rfl, hb8⟩))
        go_ret
        exact ⟨rfl, ((((hb1.next hb2).next hb3).next hb4).next hb6).next hb8⟩
      · have H8 := Lib.hid (bits_any t (by omega))
        have h9 := refText_any (bitsN t.data.toList 16)
        have hne := not_read hok (bitsN t.data.toList 16)
        have n1 : ¬ (⟨(txt (bitsN t.data.toList 16)).toArray⟩ : ByteArray) = t := fun e => hne (by have := congrArg (fun b => b.data.toList) e; simpa using this)
        generalize hS2 : (⟨(txt (bitsN t.data.toList 16)).toArray⟩ : ByteArray) = S2 at *
        clear hS2 hne
        have n2 : (S2.toList == t.toList) = false := beq_eq_false_iff_ne.mpr (fun e => n1 (by rw [Lib.toList_data, Lib.toList_data] at e; exact ByteArray.ext (Array.toList_inj.mp e)))
        have n3 : (t.toList == []) = false := beq_eq_false_iff_ne.mpr (fun e => he (by rw [Lib.toList_data] at e; exact ByteArray.ext (Array.toList_inj.mp (by simpa using e))))
        have H9 := Lib.hid h9
        generalize (⟨(txt n).toArray⟩ : ByteArray) = S at *
        generalize bitsN t.data.toList 16 = m at *
        clear hok h9
        go_enter Try.func8, Try.ntmps8
        go_wp2_with (first | (go_at_call 23; first | (with_reducible refine (H1.out _).mono ?_); rintro e w1 ⟨rfl, hb1⟩ | (with_reducible refine (H4.out _).mono ?_); rintro e w4 ⟨rfl, hb4⟩) | (go_at_call 24; first | (with_reducible refine (H2.out _).mono ?_); rintro e w2 ⟨rfl, hb2⟩ | (with_reducible refine (H9.out _).mono ?_); rintro e w9 ⟨rfl, hb9⟩) | (go_at_call 25; first | (with_reducible refine (H3.out _).mono ?_); rintro e w3 ⟨rfl, hb3⟩ | (with_reducible refine (H6.out _).mono ?_); rintro e w6 ⟨rfl, hb6⟩) | (go_at_call 12; (with_reducible refine (H5.out _).mono ?_); rintro e w5 ⟨rfl, rfl⟩) | (go_at_call 10; (with_reducible refine (H8.out _).mono ?_); rintro e w5 ⟨rfl, n5, rfl⟩) | (go_at_call 15; (with_reducible refine (HA.out _).mono ?_); rintro e w8 ⟨rfl, hb8⟩))
        go_ret
        exact ⟨rfl, ((below_drewN ((((hb1.next hb2).next hb3).next hb4).next hb6) n5).next hb9).next hb8⟩
  · have hl2 : 500 < t.size := by omega
    go_enter Try.func8, Try.ntmps8
    go_wp2_with (first | (go_at_call 15; (with_reducible refine (HA.out _).mono ?_); rintro e w8 ⟨rfl, hb8⟩))
    go_ret
    exact ⟨rfl, hb8⟩
theorem texts_row (n : Int) (hn : (Lit.int .i64 n).wf = true) (t : ByteArray) (w : World) :
    Calls Try.prog 8 #[.int .i64 n, .string t] w fun e w' => e = .returned (.bool true) ∧ Below w.heap.size w w' := texts_walk n t w
end Go.Proofs.Ytdcdmbamloebfaa.Sig
