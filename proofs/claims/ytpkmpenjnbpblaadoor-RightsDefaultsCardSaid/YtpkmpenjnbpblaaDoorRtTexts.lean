/- The contract of Parse; the walk of RightsTexts. -/
import Derived.Test.YtpkmpenjnbpblaaDoorRtPar
namespace Go.Proofs.YtpkmpenjnbpblaaDoor.Rt
open Go Go.RowKit Go.Proofs.YtpkmpenjnbpblaaDoor.Mem Go.Proofs.YtpkmpenjnbpblaaDoor.Bits
set_option linter.unusedVariables false
set_option linter.unusedSimpArgs false
/-- What Parse gathers. -/
def pS : List UInt8 → Int → Int
  | [], s => s
  | c :: l, s => match idx c with
    | some i => pS l (bits .or .i64 s (2 ^ i))
    | none => s
def pN (t : List UInt8) : Int := pS t 0
def okP (t : List UInt8) : Bool := decide (txt (pN t) = t)
def valP (t : List UInt8) : Int := if okP t then pN t else 0
def errP (t : List UInt8) : Int := if okP t then 0 else -10
theorem p_yes {t : List UInt8} (h : txt (pN t) = t) : valP t = pN t ∧ errP t = 0 := by
  have : okP t = true := decide_eq_true h
  simp [valP, errP, this]
theorem p_no {t : List UInt8} (h : ¬ txt (pN t) = t) : valP t = 0 ∧ errP t = -10 := by
  have : okP t = false := decide_eq_false h
  simp [valP, errP, this]
set_option maxHeartbeats 2000000 in
theorem parse_any (t : ByteArray) (ht : t.size ≤ 140737488355328) (w : World) : Calls Tryd.prog 11 #[.string t] w fun e w' => e = .returned (.tuple #[.int .i64 (valP t.data.toList), .int .i64 (errP t.data.toList)]) ∧ Below w.heap.size w w' := by
  have HT := Lib.hid (text_any (pN t.data.toList))
  have hcv := fun W => Lib.run_convert_string_bytes (P := Tryd.prog) W 9 39 5 t Tryd.underlying9 Tryd.underlying39 Tryd.underlying5
  have hcell := fun j hj => Lib.bytesWorld_cell w 5 t j hj
  have hbel := Lib.bytesWorld_below w 5 t
  go_enter Tryd.func11, Tryd.ntmps11
  go_wp2
  go_step3
  go_wp2
  go_step3
  go_wp2
  generalize Lib.bytesWorld w 5 t = W1 at *
  have HB := Lib.hid hbel
  clear hbel
  go_loopg [4, 11] t.size (fun g s i wx => ∃ (k : Nat) (v : Int), k + g = t.size ∧ i = .int .i64 k ∧ s = .int .i64 v ∧ Hid (pS (t.data.toList.drop k) v = pN t.data.toList) ∧ wx = W1)
  case atStart => exact ⟨0, 0, by omega, rfl, rfl, Lib.hid rfl, rfl⟩
  case round =>
    obtain ⟨k, v, hkg, rfl, rfl, HI, rfl⟩ := hrel
    cases gk with
    | zero =>
      have hkz : ¬ ((k : Int) < (t.size : Int)) := by omega
      have hv : v = pN t.data.toList := by
        have := HI.out
        rwa [List.drop_eq_nil_of_le (by simp; omega)] at this
      clear HI
      rw [hv] at *
      by_cases hok : txt (pN t.data.toList) = t.data.toList
      · have hS : (⟨(txt (pN t.data.toList)).toArray⟩ : ByteArray) = t := by rw [hok]
        have HV := Lib.hid (p_yes hok)
        clear hok hv
        generalize (⟨(txt (pN t.data.toList)).toArray⟩ : ByteArray) = S at *
        go_wp2_with (first | (go_at_call 12; (with_reducible refine (HT.out _).mono ?_); rintro e w1 ⟨rfl, hb1⟩))
        try rw [Exit.noGoto_ret]
        go_ret2
        exact ⟨by rw [HV.out.1, HV.out.2]; rfl, HB.out.trans (hb1.mono HB.out.size)⟩
      · have hS : ¬ (⟨(txt (pN t.data.toList)).toArray⟩ : ByteArray) = t := fun e => hok (by have := congrArg (fun b => b.data.toList) e; simpa using this)
        have hS2 : ((⟨(txt (pN t.data.toList)).toArray⟩ : ByteArray).toList == t.toList) = false := beq_eq_false_iff_ne.mpr (fun e => hS (by rw [Lib.toList_data, Lib.toList_data] at e; exact ByteArray.ext (Array.toList_inj.mp e)))
        have HV := Lib.hid (p_no hok)
        clear hok hv
        generalize (⟨(txt (pN t.data.toList)).toArray⟩ : ByteArray) = S at *
        go_wp2_with (first | (go_at_call 12; (with_reducible refine (HT.out _).mono ?_); rintro e w1 ⟨rfl, hb1⟩))
        try rw [Exit.noGoto_ret]
        go_ret2
        exact ⟨by rw [HV.out.1, HV.out.2]; rfl, HB.out.trans (hb1.mono HB.out.size)⟩
    | succ g =>
      have hlt : k < t.size := by omega
      have hck := hcell k hlt
      have hl : k < t.data.toList.length := by simpa using hlt
      have hd : t.data.toList.drop k = t.data.toList.getD k 0 :: t.data.toList.drop (k + 1) := by
        rw [List.drop_eq_getElem_cons hl, List.getD_eq_getElem?_getD, List.getElem?_eq_getElem hl]
        rfl
      have HI2 := HI.out
      rw [hd] at HI2
      have HJ := Lib.hid HI2
      clear HI HI2 hd hl hcell
      generalize t.data.toList.getD k 0 = c at *
      go_wp2
      go_loopg [4, 15] 12 (fun q s i wx => ∃ j : Nat, j + q = 12 ∧ i = .int .i64 j ∧ s = .int .i64 v ∧ Hid (idxG c q j = idx c) ∧ wx = wr)
      case atStart => exact ⟨0, by omega, rfl, rfl, Lib.hid rfl, rfl⟩
      case round =>
        obtain ⟨j, hj, rfl, rfl, HX, rfl⟩ := hrel
        cases gk with
        | zero =>
          obtain rfl : j = 12 := by omega
          have hx : idx c = none := HX.out.symm
          have hv : v = pN t.data.toList := by
            have := HJ.out
            simpa only [pS, hx] using this
          clear HX HJ hx
          rw [hv] at *
          by_cases hok : txt (pN t.data.toList) = t.data.toList
          · have hS : (⟨(txt (pN t.data.toList)).toArray⟩ : ByteArray) = t := by rw [hok]
            have HV := Lib.hid (p_yes hok)
            clear hok hv
            generalize (⟨(txt (pN t.data.toList)).toArray⟩ : ByteArray) = S at *
            go_wp2_with (first | (go_at_call 12; (with_reducible refine (HT.out _).mono ?_); rintro e w1 ⟨rfl, hb1⟩))
            try rw [Exit.noGoto_ret]
            go_ret2
            exact ⟨by rw [HV.out.1, HV.out.2]; rfl, HB.out.trans (hb1.mono HB.out.size)⟩
          · have hS : ¬ (⟨(txt (pN t.data.toList)).toArray⟩ : ByteArray) = t := fun e => hok (by have := congrArg (fun b => b.data.toList) e; simpa using this)
            have hS2 : ((⟨(txt (pN t.data.toList)).toArray⟩ : ByteArray).toList == t.toList) = false := beq_eq_false_iff_ne.mpr (fun e => hS (by rw [Lib.toList_data, Lib.toList_data] at e; exact ByteArray.ext (Array.toList_inj.mp e)))
            have HV := Lib.hid (p_no hok)
            clear hok hv
            generalize (⟨(txt (pN t.data.toList)).toArray⟩ : ByteArray) = S at *
            go_wp2_with (first | (go_at_call 12; (with_reducible refine (HT.out _).mono ?_); rintro e w1 ⟨rfl, hb1⟩))
            try rw [Exit.noGoto_ret]
            go_ret2
            exact ⟨by rw [HV.out.1, HV.out.2]; rfl, HB.out.trans (hb1.mono HB.out.size)⟩
        | succ q =>
          have hjl : j < 12 := by omega
          have hlit := fun h => lit_at hjl h
          by_cases m1 : letterOf j = c
          · have hx : idx c = some j := by
              have := HX.out
              rw [idxG, if_pos m1] at this
              exact this.symm
            have HJ2 : Hid (pS (t.data.toList.drop (k + 1)) (bits .or .i64 v (2 ^ j)) = pN t.data.toList) := Lib.hid (by
              have := HJ.out
              simpa only [pS, hx] using this)
            have hq := pow12 (show j ≤ 12 by omega)
            have hp := pow2_pos j
            subst m1
            clear HJ HX hx
            go_wp2
            go_roundg g
            case rel => exact ⟨k + 1, _, by omega, by go_num, rfl, HJ2, rfl⟩
            case measure => omega
          · have HX2 : Hid (idxG c q (j + 1) = idx c) := Lib.hid (by
              have := HX.out
              rwa [idxG, if_neg m1] at this)
            have hn : ¬ (letterOf j).toNat = c.toNat := fun e => m1 (UInt8.toNat_inj.mp e)
            have z1 : (((letterOf j).toNat : Int) == (c.toNat : Int)) = false := beq_eq_false_iff_ne.mpr (by omega)
            clear HX m1 hn
            go_wp2
            go_roundg q
            case rel => exact ⟨j + 1, by omega, by go_num, rfl, HX2, rfl⟩
            case measure => omega
/-! ### plain laws -/
theorem idx_letter {k : Nat} (hk : k < 12) : idx (letterOf k) = some k := by
  have e : ∀ j : Fin 12, idx (letterOf j.val) = some j.val := by decide
  exact e ⟨k, hk⟩
theorem pS_append : ∀ (l1 l2 : List UInt8) (s : Int), (∀ c ∈ l1, (idx c).isSome = true) → pS (l1 ++ l2) s = pS l2 (pS l1 s)
  | [], _, _, _ => rfl
  | c :: l, l2, s, h => by
    have hc := h c (by simp)
    obtain ⟨i, hi⟩ := Option.isSome_iff_exists.mp hc
    simp only [List.cons_append, pS, hi]
    exact pS_append l l2 _ (fun d hd => h d (by simp [hd]))
theorem letters_ok (n : Int) : ∀ k, k ≤ 12 → ∀ c ∈ letters n k, (idx c).isSome = true
  | 0, _, c, h => by simp [letters] at h
  | k + 1, hk, c, h => by
    cases ht : tb n k
    · rw [letters_no ht] at h
      exact letters_ok n k (by omega) c h
    · rw [letters_yes ht] at h
      rcases List.mem_append.1 h with h | h
      · exact letters_ok n k (by omega) c h
      · obtain rfl := List.mem_singleton.1 h
        rw [idx_letter (by omega)]; rfl
theorem tb_pow (k i : Nat) : tb (2 ^ k) i = decide (k = i) := by
  have : ((2 : Int) ^ k) = ((2 ^ k : Nat) : Int) := by simp
  rw [this, tb_nat, Nat.testBit_two_pow]
theorem pN_bits (n : Int) {i : Nat} (hi : i < 64) : ∀ k, k ≤ 12 → tb (pN (letters n k)) i = (decide (i < k) && tb n i)
  | 0, _ => by simp [letters, pN, pS, tb_zero]
  | k + 1, hk => by
    have ih := pN_bits n hi k (by omega)
    cases ht : tb n k
    · rw [letters_no ht, ih]
      by_cases hik : i = k
      · subst hik
        simp [ht]
      · have : decide (i < k + 1) = decide (i < k) := decide_eq_decide.mpr (by omega)
        rw [this]
    · rw [letters_yes ht]
      unfold pN at *
      rw [pS_append _ _ _ (letters_ok n k (by omega))]
      simp only [pS, idx_letter (show k < 12 by omega)]
      rw [tb_or _ _ hi, ih, tb_pow]
      by_cases hik : k = i
      · subst hik
        simp [ht]
      · have : decide (i < k + 1) = decide (i < k) := decide_eq_decide.mpr (by omega)
        simp [this, hik]
theorem letters_congr {n m : Int} : ∀ k, (∀ i, i < k → tb n i = tb m i) → letters n k = letters m k
  | 0, _ => rfl
  | k + 1, h => by
    have ih := letters_congr k (fun i hi => h i (by omega))
    have hk := h k (by omega)
    cases ht : tb n k
    · rw [letters_no ht, letters_no (hk ▸ ht), ih]
    · rw [letters_yes ht, letters_yes (hk ▸ ht), ih]
theorem tb4095 {i : Nat} (hi : i < 64) : tb 4095 i = decide (i < 12) := by
  have e : ∀ j : Fin 64, tb 4095 j.val = decide (j.val < 12) := by decide
  exact e ⟨i, hi⟩
/-- Parse's numbers have no other bits. -/
def Low (s : Int) : Prop := in64 s ∧ ∀ i, i < 64 → 12 ≤ i → tb s i = false
theorem pS_low : ∀ (l : List UInt8) (s : Int), Low s → Low (pS l s)
  | [], s, h => h
  | c :: l, s, h => by
    unfold pS
    cases hi : idx c with
    | none => exact h
    | some j =>
      refine pS_low l _ ⟨bits_range _ _ _, fun i hi64 h12 => ?_⟩
      have := idx_lt hi
      rw [tb_or _ _ hi64, h.2 i hi64 h12, tb_pow]
      simp
      omega
theorem low_zero : Low 0 := ⟨by unfold in64; decide, fun i _ _ => tb_zero i⟩
theorem low_right {s : Int} (h : Low s) : rightN s = true := by
  unfold rightN
  rw [beq_iff_eq]
  refine tb_ext (bits_range _ _ _) (by decide) fun i hi => ?_
  rw [tb_andNot _ _ hi, tb4095 hi, tb_zero]
  by_cases h12 : i < 12
  · simp [h12]
  · rw [h.2 i hi (by omega)]; rfl
theorem text_pN (n : Int) : pN (txt n) = bits .and .i64 n 4095 := by
  by_cases h : letters n 12 = []
  · have e : txt n = [45] := if_pos h
    have h0 : bits .and .i64 n 4095 = 0 := Classical.byContradiction fun hc => letters_some hc h
    rw [e, h0]; decide
  · have e : txt n = letters n 12 := if_neg h
    rw [e]
    refine tb_ext (pS_low _ _ low_zero).1 (bits_range _ _ _) fun i hi => ?_
    rw [pN_bits n hi 12 (by omega), tb_and _ _ hi, tb4095 hi, Bool.and_comm]
theorem txt_and (n : Int) : txt (bits .and .i64 n 4095) = txt n := by
  have : letters (bits .and .i64 n 4095) 12 = letters n 12 := letters_congr 12 fun i hi => by
    rw [tb_and _ _ (by omega), tb4095 (by omega)]
    simp [hi]
  unfold txt
  rw [this]
theorem text_read (n : Int) : txt (pN (txt n)) = txt n := by rw [text_pN, txt_and]
theorem parse_text (n : Int) : valP (txt n) = bits .and .i64 n 4095 ∧ errP (txt n) = 0 := by
  have := p_yes (text_read n)
  rw [text_pN] at this
  exact this
theorem not_read {t : List UInt8} (h : ¬ txt (pN t) = t) (m : Int) : ¬ txt m = t := fun e => h (by rw [← e]; exact text_read m)
theorem next {w a b : World} (h : Below w.heap.size w a) (k : Below a.heap.size a b) : Below w.heap.size w b := h.trans (k.mono h.size)
theorem txt_len (n : Int) : (txt n).length ≤ 12 := by
  unfold txt
  split
  · decide
  · exact letters_len n 12
end Go.Proofs.YtpkmpenjnbpblaaDoor.Rt
