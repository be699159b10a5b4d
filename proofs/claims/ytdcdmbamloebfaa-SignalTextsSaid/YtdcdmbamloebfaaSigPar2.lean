/- The contract of Parse. -/
import Derived.Test.YtdcdmbamloebfaaSigPar
import Derived.Lib.AtoiErrMem
import Derived.Deep.LoopGhost
import Derived.Lib.Fold
import Derived.WalkMore
namespace Go.Proofs.Ytdcdmbamloebfaa.Sig
open Go Go.RowKit Go.Proofs.Ytdcdmbamloebfaa.Bits
set_option linter.unusedVariables false
set_option linter.unusedSimpArgs false
/-- The bit of a letter, from bit i on. -/
def idxG (c : UInt8) : Nat → Nat → Option Nat
  | 0, _ => none
  | f + 1, i => if nameOf i = c ∧ c ≠ 32 then some i else idxG c f (i + 1)
def idx (c : UInt8) : Option Nat := idxG c 16 0
/-- What Parse gathers. -/
def pS : List UInt8 → Int → Int
  | [], s => s
  | c :: l, s => match idx c with
    | some i => pS l (bits .or .i64 s (2 ^ i))
    | none => s
def pN (t : List UInt8) : Int := pS t 0
def okP (t : List UInt8) : Bool := decide (txt (pN t) = t)
def valP (t : List UInt8) : Int := if okP t then pN t else 0
def errP (t : List UInt8) : Int := if okP t then 0 else -10
theorem p_yes {t : List UInt8} (h : txt (pN t) = t) : valP t = pN t ∧ errP t = 0 := by
  have : okP t = true := decide_eq_true h
  simp [valP, errP, this]
theorem p_no {t : List UInt8} (h : ¬ txt (pN t) = t) : valP t = 0 ∧ errP t = -10 := by
  have : okP t = false := decide_eq_false h
  simp [valP, errP, this]
set_option maxHeartbeats 2000000 in
theorem parse_any (t : ByteArray) (ht : t.size ≤ 140737488355328) (w : World) : Calls Try.prog 25 #[.string t] w fun e w' => e = .returned (.tuple #[.int .i64 (valP t.data.toList), .int .i64 (errP t.data.toList)]) ∧ Below w.heap.size w w' := by
  have HT := Lib.hid (text_any (pN t.data.toList))
  have hcv := fun W => Lib.run_convert_string_bytes (P := Try.prog) W 9 44 5 t Try.underlying9 Try.underlying44 Try.underlying5
  have hcell := fun j hj => Lib.bytesWorld_cell w 5 t j hj
  have hbel := Lib.bytesWorld_below w 5 t
  go_enter Try.func25, Try.ntmps25
  go_wp2
  go_step3
  go_wp2
  go_step3
  go_wp2
  generalize Lib.bytesWorld w 5 t = W1 at *
  have HB := Lib.hid hbel
  clear hbel
  go_loopg [4, 11] t.size (fun g s i wx => ∃ (k : Nat) (v : Int), k + g = t.size ∧ i = .int .i64 k ∧ s = .int .i64 v ∧ Hid (pS (t.data.toList.drop k) v = pN t.data.toList) ∧ wx = W1)
  case atStart => exact ⟨0, 0, by omega, rfl, rfl, Lib.hid rfl, rfl⟩
  case round =>
    obtain ⟨k, v, hkg, rfl, rfl, HI, rfl⟩ := hrel
    cases gk with
    | zero =>
      have hkz : ¬ ((k : Int) < (t.size : Int)) := by omega
      have hv : v = pN t.data.toList := by
        have := HI.out
        rwa [List.drop_eq_nil_of_le (by simp; omega)] at this
      clear HI
      rw [hv] at *
      by_cases hok : txt (pN t.data.toList) = t.data.toList
      · have hS : (⟨(txt (pN t.data.toList)).toArray⟩ : ByteArray) = t := by rw [hok]
        have HV := Lib.hid (p_yes hok)
        clear hok hv
        generalize (⟨(txt (pN t.data.toList)).toArray⟩ : ByteArray) = S at *
        go_wp2_with (first | (go_at_call 23; (with_reducible refine (HT.out _).mono ?_); rintro e w1 ⟨rfl, hb1⟩))
        try rw [Exit.noGoto_ret]
        go_ret2
        exact ⟨by rw [HV.out.1, HV.out.2]; rfl, HB.out.trans (hb1.mono HB.out.size)⟩
      · have hS : ¬ (⟨(txt (pN t.data.toList)).toArray⟩ : ByteArray) = t := fun e => hok (by have := congrArg (fun b => b.data.toList) e; simpa using this)
        have hS2 : ((⟨(txt (pN t.data.toList)).toArray⟩ : ByteArray).toList == t.toList) = false := beq_eq_false_iff_ne.mpr (fun e => hS (by rw [Lib.toList_data, Lib.toList_data] at e; exact ByteArray.ext (Array.toList_inj.mp e)))
        have HV := Lib.hid (p_no hok)
        clear hok hv
        generalize (⟨(txt (pN t.data.toList)).toArray⟩ : ByteArray) = S at *
        go_wp2_with (first | (go_at_call 23; (with_reducible refine (HT.out _).mono ?_); rintro e w1 ⟨rfl, hb1⟩))
        try rw [Exit.noGoto_ret]
        go_ret2
        exact ⟨by rw [HV.out.1, HV.out.2]; rfl, HB.out.trans (hb1.mono HB.out.size)⟩
    | succ g =>
      have hlt : k < t.size := by omega
      have hck := hcell k hlt
      have hl : k < t.data.toList.length := by simpa using hlt
      have hd : t.data.toList.drop k = t.data.toList.getD k 0 :: t.data.toList.drop (k + 1) := by
        rw [List.drop_eq_getElem_cons hl, List.getD_eq_getElem?_getD, List.getElem?_eq_getElem hl]
        rfl
      have HI2 := HI.out
      rw [hd] at HI2
      have HJ := Lib.hid HI2
      clear HI HI2 hd hl hcell
      generalize t.data.toList.getD k 0 = c at *
      go_wp2
      go_loopg [4, 15] 16 (fun q s i wx => ∃ j : Nat, j + q = 16 ∧ i = .int .i64 j ∧ s = .int .i64 v ∧ Hid (idxG c q j = idx c) ∧ wx = wr)
      case atStart => exact ⟨0, by omega, rfl, rfl, Lib.hid rfl, rfl⟩
      case round =>
        obtain ⟨j, hj, rfl, rfl, HX, rfl⟩ := hrel
        cases gk with
        | zero =>
          obtain rfl : j = 16 := by omega
          have hx : idx c = none := HX.out.symm
          have hv : v = pN t.data.toList := by
            have := HJ.out
            simpa only [pS, hx] using this
          clear HX HJ hx
          rw [hv] at *
          by_cases hok : txt (pN t.data.toList) = t.data.toList
          · have hS : (⟨(txt (pN t.data.toList)).toArray⟩ : ByteArray) = t := by rw [hok]
            have HV := Lib.hid (p_yes hok)
            clear hok hv
            generalize (⟨(txt (pN t.data.toList)).toArray⟩ : ByteArray) = S at *
            go_wp2_with (first | (go_at_call 23; (with_reducible refine (HT.out _).mono ?_); rintro e w1 ⟨rfl, hb1⟩))
            try rw [Exit.noGoto_ret]
            go_ret2
            exact ⟨by rw [HV.out.1, HV.out.2]; rfl, HB.out.trans (hb1.mono HB.out.size)⟩
          · have hS : ¬ (⟨(txt (pN t.data.toList)).toArray⟩ : ByteArray) = t := fun e => hok (by have := congrArg (fun b => b.data.toList) e; simpa using this)
            have hS2 : ((⟨(txt (pN t.data.toList)).toArray⟩ : ByteArray).toList == t.toList) = false := beq_eq_false_iff_ne.mpr (fun e => hS (by rw [Lib.toList_data, Lib.toList_data] at e; exact ByteArray.ext (Array.toList_inj.mp e)))
            have HV := Lib.hid (p_no hok)
            clear hok hv
            generalize (⟨(txt (pN t.data.toList)).toArray⟩ : ByteArray) = S at *
            go_wp2_with (first | (go_at_call 23; (with_reducible refine (HT.out _).mono ?_); rintro e w1 ⟨rfl, hb1⟩))
            try rw [Exit.noGoto_ret]
            go_ret2
            exact ⟨by rw [HV.out.1, HV.out.2]; rfl, HB.out.trans (hb1.mono HB.out.size)⟩

        | succ q =>
          have hjl : j < 16 := by omega
          have hlit := fun h => lit_at hjl h
          by_cases hm : nameOf j = c ∧ c ≠ 32
          · obtain ⟨m1, m2⟩ := hm
            have hx : idx c = some j := by
              have := HX.out
              rw [idxG, if_pos ⟨m1, m2⟩] at this
              exact this.symm
            have HJ2 : Hid (pS (t.data.toList.drop (k + 1)) (bits .or .i64 v (2 ^ j)) = pN t.data.toList) := Lib.hid (by
              have := HJ.out
              simpa only [pS, hx] using this)
            have hn : ¬ c.toNat = 32 := fun e => m2 (UInt8.toNat_inj.mp e)
            have z1 : ((c.toNat : Int) == 32) = false := beq_eq_false_iff_ne.mpr (by omega)
            have z2 : ((c.toNat : Int) != 32) = true := bne_iff_ne.mpr (by omega)
            have hq := pow16 (show j ≤ 16 by omega)
            have hp := pow2_pos j
            subst m1
            clear HJ HX hx m2 hn
            go_wp2
            go_roundg g
            case rel => exact ⟨k + 1, _, by omega, by go_num, rfl, HJ2, rfl⟩
            case measure => omega
          · have HX2 : Hid (idxG c q (j + 1) = idx c) := Lib.hid (by
              have := HX.out
              rwa [idxG, if_neg hm] at this)
            clear HX
            by_cases m1 : nameOf j = c
            · have m2 : c = 32 := Classical.byContradiction fun h => hm ⟨m1, h⟩
              subst m1
              have h32 : (nameOf j).toNat = 32 := by rw [m2]; rfl
              clear hm m2
              go_wp2
              go_roundg q
              case rel => exact ⟨j + 1, by omega, by go_num, rfl, HX2, rfl⟩
              case measure => omega
            · have hn : ¬ (nameOf j).toNat = c.toNat := fun e => m1 (UInt8.toNat_inj.mp e)
              have z1 : (((nameOf j).toNat : Int) == (c.toNat : Int)) = false := beq_eq_false_iff_ne.mpr (by omega)
              clear hm m1 hn
              go_wp2
              go_roundg q
              case rel => exact ⟨j + 1, by omega, by go_num, rfl, HX2, rfl⟩
              case measure => omega
end Go.Proofs.Ytdcdmbamloebfaa.Sig
