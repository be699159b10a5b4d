/- The fifo: Copy, Same, Right, awake. -/
import Derived.Test.YtaiggfoeobehlaaFfP
import Derived.Lib.SlBytesConst
import Derived.RegionTactic
import Derived.Deep.QuietTactic
import Derived.BigQuiet
import Derived.Deep.RegionHeld3
import Derived.Deep.RegionLaw
import Derived.Laws.IdiomStrings
import Derived.Lib.BufferRead
import Derived.Lib.AtoiErrMem
import Derived.WalkSpells
namespace Go.Proofs.Ytaiggfoeobehlaa.Ff
open Go Go.RowKit Go.Shelf Go.Proofs.Ytaiggfoeobehlaa.Mem
set_option linter.unusedVariables false
set_option linter.unusedSimpArgs false
theorem conv_by {A : Option Addr} {n c B : Nat} {l : List UInt8} {w : World} (hr : Reads w B 1 A n (byV l)) : (convert 27 9 (.slice A n c)).run Try.prog w = .ok (.string ⟨l.toArray⟩) w := by
  have hl : l.length = n := by have := hr.1; rw [byV_len] at this; omega
  cases A with
  | none =>
    have h0 : n = 0 := by
      rcases Nat.eq_zero_or_pos n with h | h
      · exact h
      · obtain ⟨ad, e, _⟩ := hr.2 h
        cases e
    subst h0
    obtain rfl : l = [] := List.eq_nil_of_length_eq_zero hl
    exact Lib.run_convert_nil_bytes w 27 9 5 c Try.underlying27 Try.underlying5 Try.underlying9
  | some a =>
    subst hl
    refine run_convert_bytes_back w 27 9 5 a c l Try.underlying27 Try.underlying5 Try.underlying9 fun j hj => ?_
    obtain ⟨ad, e, _, hc⟩ := hr.2 (by omega)
    injection e with e
    subst e
    exact hc j _ (by simp [byV, hj])
theorem same_any {A A' : Option Addr} {n n' c c' B B' : Nat} {l l' : List UInt8} {w : World} (hr : Reads w B 1 A n (byV l)) (hr' : Reads w B' 1 A' n' (byV l')) : Calls Try.prog 14 #[.slice A n c, .slice A' n' c'] w fun e w' => e = .returned (.bool (decide (l = l'))) ∧ w = w' := by
  have h1 := conv_by (c := c) hr
  have h2 := conv_by (c := c') hr'
  clear hr hr'
  have HE := Lib.hid (show ((ByteArray.mk l.toArray).toList == (ByteArray.mk l'.toArray).toList) = decide (l = l') by rw [Lib.toList_data, Lib.toList_data, Bool.eq_iff_iff]; simp)
  generalize ByteArray.mk l.toArray = s1 at *
  generalize ByteArray.mk l'.toArray = s2 at *
  go_enter Try.func14, Try.ntmps14
  go_wp2
  go_ret
  exact ⟨by rw [← HE.out]; rfl, rfl⟩
section
variable {w0 w : World} {S : List Asr}
set_option maxHeartbeats 1000000 in
theorem copy_any {A : Option Addr} {n c B : Nat} {d : List UInt8} (h : Star w0 w S) (hr : Reads w B 1 A n (byV d)) (hn : n ≤ 16777216) : Calls Try.prog 16 #[.slice A n c] w fun e w' => ∃ v, e = .returned v ∧ Star w0 w' (RowO 5 1 v n (byV d) :: S) := by
  obtain ⟨i0, hi0, hz0, hz1, hz2⟩ := info_parts by_info
  have HS := Lib.hid (h.nilO 5 1)
  have HR := Lib.hid hr
  have h1 := byV_one d
  clear h hr
  go_enter Try.func16, Try.ntmps16
  go_wp2_with (first
    | (at_builtin; refine wpList_append_so rfl (.tmp 4) (.tmp 5) 27 rfl HS.out 0 rfl i0 _ 1 Try.underlying27 hi0 hz0 hz1 hz2 rfl (by omega) rfl _ A n c (byV d) rfl HR.out h1 (by simp only [maxLen]; omega) (by omega) ?_
       intro v' w3 hs3
       have HS3 := Lib.hid hs3
       clear hs3))
  go_ret
  refine ⟨_, rfl, ?_⟩
  have := HS3.out
  simp only [List.set_cons_zero, Nat.zero_add, List.nil_append] at this
  exact this
end
theorem pow10_up {n k : Nat} (hk : k ≤ 11) (h1 : ∀ j, j < k → 2 ^ j < n) (h2 : ¬ 2 ^ k < n) (hn : n ≤ 1024) : (2 ^ k == n) = pow10 n := by
  have hmono : ∀ i j : Nat, i < j → 2 ^ i < 2 ^ j := fun i j h => Nat.pow_lt_pow_right (by omega) h
  rw [Bool.eq_iff_iff, beq_iff_eq]
  constructor
  · intro h
    unfold pow10
    rw [List.any_eq_true]
    refine ⟨k, List.mem_range.2 ?_, by simpa using h.symm⟩
    rcases Nat.lt_or_ge k 11 with h3 | h3
    · exact h3
    · obtain rfl : k = 11 := by omega
      omega
  · intro h
    obtain ⟨i, hi, rfl⟩ := pow10_spec h
    rcases Nat.lt_trichotomy i k with h3 | h3 | h3
    · have := h1 i h3
      omega
    · rw [h3]
    · have := hmono k i h3
      omega
set_option maxHeartbeats 2000000 in
theorem right_ref (n z : Int) (w : World) : Calls Try.prog 9 #[.int .i64 n, .int .i64 z] w fun r w' => r = .returned (.bool (okN n z)) ∧ w = w' := by
  by_cases hb : z < 1 ∨ 64 < z ∨ n < 1 ∨ 1024 < n
  · have hf : okN n z = false := by
      unfold okN
      rw [decide_eq_false (by omega), Bool.false_and]
    rw [hf]
    clear hf
    rcases (by omega : z < 1 ∨ (¬ z < 1 ∧ 64 < z) ∨ (¬ z < 1 ∧ ¬ 64 < z ∧ n < 1) ∨ (¬ z < 1 ∧ ¬ 64 < z ∧ ¬ n < 1 ∧ 1024 < n)) with h | ⟨h, h2⟩ | ⟨h, h2, h3⟩ | ⟨h, h2, h3, h4⟩
    all_goals
      clear hb
      go_enter Try.func9, Try.ntmps9
      go_wp2
      go_ret
      exact ⟨rfl, rfl⟩
  · obtain ⟨m, rfl⟩ : ∃ m : Nat, n = m := ⟨n.toNat, by omega⟩
    obtain ⟨y, rfl⟩ : ∃ y : Nat, z = y := ⟨z.toNat, by omega⟩
    have h1 : ¬ (y : Int) < 1 := by omega
    have h2 : ¬ 64 < (y : Int) := by omega
    have h3 : ¬ (m : Int) < 1 := by omega
    have h4 : ¬ 1024 < (m : Int) := by omega
    have hq2 : m * y ≤ 1024 * 64 := Nat.mul_le_mul (by omega) (by omega)
    have hok : okN m y = (pow10 m && decide (m * y ≤ 4096)) := by
      unfold okN
      rw [Int.toNat_natCast, Bool.and_comm]
      congr 1
      rw [decide_eq_decide]
      have : ((m * y : Nat) : Int) = (m : Int) * y := Int.natCast_mul m y
      omega
    obtain ⟨q, eq⟩ : ∃ q, q = m * y := ⟨_, rfl⟩
    have hw : IntKind.i64.wrap ((m : Int) * y) = (q : Int) := by
      rw [IntKind.wrap_i64, ← Int.natCast_mul]
      omega
    rw [hok, ← eq]
    have hm : m ≤ 1024 := by omega
    have HP := Lib.hid (fun k => pow10_up (n := m) (k := k))
    have hqz : (q : Int) ≤ 65536 := by omega
    clear hb hok eq hq2
    go_enter Try.func9, Try.ntmps9
    go_wp2
    go_loopw [5] (fun s5 wr => ∃ k : Nat, k ≤ 11 ∧ s5 = .int .i64 (2 ^ k : Nat) ∧ wr = w ∧ Hid (∀ j, j < k → 2 ^ j < m)) (fun s5 _ => 2048 - (intOf s5).toNat)
    case atStart => exact ⟨0, by omega, rfl, by trivial, Lib.hid (fun j hj => absurd hj (Nat.not_lt_zero _))⟩
    case round =>
      obtain ⟨k, hk, rfl, rfl, HJ⟩ := hrel
      have h2k : 2 ^ k ≤ 2 ^ 11 := Nat.pow_le_pow_right (by omega) hk
      have h1k : 1 ≤ 2 ^ k := Nat.one_le_two_pow
      by_cases hlt : 2 ^ k < m
      · have hk10 : k < 11 := by
          rcases Nat.lt_or_ge k 11 with h | h
          · exact h
          · obtain rfl : k = 11 := by omega
            omega
        have HJ2 : Hid (∀ j, j < k + 1 → 2 ^ j < m) := Lib.hid (fun j hj => by
          rcases Nat.lt_or_ge j k with h | h
          · exact HJ.out j h
          · obtain rfl : j = k := by omega
            exact hlt)
        have e2 : 2 ^ (k + 1) = 2 ^ k * 2 := Nat.pow_succ 2 k
        have E2 := Lib.hid e2
        clear e2
        generalize 2 ^ k = p at *
        have hpz : (p : Int) < m := by omega
        have hp2 : (p : Int) ≤ 2048 := by omega
        go_wp2
        go_roundw
        case rel =>
          refine ⟨k + 1, by omega, ?_, by trivial, HJ2⟩
          rw [E2.out]
          go_num
        case measure => simp [intOf]; omega
      · have HE := Lib.hid (HP.out k hk HJ.out hlt hm)
        generalize 2 ^ k = p at *
        have hpz : ¬ (p : Int) < m := by omega
        clear HP
        by_cases hpm : p = m
        · have hb1 : ((p : Int) == m) = true := by simp; omega
          have hE := HE.out
          rw [show (p == m) = true by simpa using hpm] at hE
          have HE3 := Lib.hid hE
          clear hE HE
          by_cases hq4 : q ≤ 4096
          · have hq5 : (q : Int) ≤ 4096 := by omega
            go_wp2
            go_ret
            exact ⟨by first | rfl | (rw [← HE3.out]; rfl) | (rw [← HE3.out, decide_eq_true hq4]; rfl), by first | rfl | trivial⟩
          · have hq5 : ¬ (q : Int) ≤ 4096 := by omega
            go_wp2
            go_ret
            exact ⟨by first | rfl | (rw [← HE3.out]; rfl) | (rw [← HE3.out, decide_eq_false hq4]; rfl), by first | rfl | trivial⟩
        · have hb1 : ((p : Int) == m) = false := by simp; omega
          have hE := HE.out
          rw [show (p == m) = false by simpa using hpm] at hE
          have HE3 := Lib.hid hE
          clear hE HE
          go_wp2
          go_ret
          exact ⟨by first | rfl | (rw [← HE3.out]; rfl) | (rw [← HE3.out]; rfl), by first | rfl | trivial⟩
theorem reads_obj {w : World} {g : Nat} {e : TypeId} {l : List UInt8} {fz : Nat × Nat} (h : w.heap[g]? = some (.cells (byV l).toArray e fz)) : Reads w (g + 1) 1 (some ⟨g, 0, none⟩) l.length (byV l) :=
  ⟨by rw [byV_len]; omega, fun _ => ⟨_, rfl, by show g < _; omega, fun j u hu => by
    rw [show ((⟨g, 0, none⟩ : Addr).add j) = ⟨g, j, none⟩ by rw [addr_at, Nat.zero_add], cell_of_row _ _ _ _ _ _ h]
    simpa using hu⟩⟩
def awL : List UInt8 := [97, 98, 99, 100, 101, 102, 103, 104, 105]
def awO : Fo := ⟨false, false, [], [[97, 98, 99], [100, 101, 102]], 2, 3⟩
theorem aw_w : writeO (newO 2 3) 0 awL = ((2, 0), awO) := by rfl
theorem aw_r : readO awO 1 1 = (([97, 98, 99], 0), ⟨false, false, [], [[100, 101, 102]], 2, 3⟩) := by rfl
theorem awC : (byV awL).toArray = #[.int .u8 97, .int .u8 98, .int .u8 99, .int .u8 100, .int .u8 101, .int .u8 102, .int .u8 103, .int .u8 104, .int .u8 105] := by rfl
set_option maxHeartbeats 2000000 in
theorem awake_any (w : World) : Calls Try.prog 10 #[] w fun e w' => e = .returned (.bool true) ∧ Below w.heap.size w w' := by
  have kc := fun (w : World) (C : Array Value) (n c : Nat) => Lib.run_convert_bytes_const (P := Try.prog) w 27 5 C n c Try.underlying27 Try.underlying5
  have hN := new_st (Star.nil w) 2 3 (by decide)
  rw [show ((2 : Nat) : Int) = 2 from rfl, show ((3 : Nat) : Int) = 3 from rfl] at hN
  have HN := Lib.hid hN
  clear hN
  have HW1 := Lib.hid (fun (W : World) (h : Star w W [FoA w.heap.size (newO 2 3)]) => write_sx (h.newObj (.cells (byV awL).toArray 5 (9, 10))) 1 rfl 0 (some ⟨W.heap.size, 0, none⟩) 9 9 awL _ 0 rfl (fun F W' hF => ⟨_, reads_obj hF.1⟩) (by omega) (by simp [maxLen]) (by omega))
  have HRd := Lib.hid (fun (W : World) (A : Asr) (h : Star w W [A, FoA w.heap.size awO]) => read_st h 1 rfl 1 1 (by omega))
  have HL := Lib.hid (fun (W : World) (A A' : Asr) (h : Star w W [A, A', FoA w.heap.size ⟨false, false, [], [[100, 101, 102]], 2, 3⟩]) => size_st h 2 rfl)
  rw [aw_w] at HW1
  rw [aw_r] at HRd
  simp only [List.set_cons_zero, List.set_cons_succ, awC] at HW1 HRd
  go_enter Try.func10, Try.ntmps10
  go_wp2_with (first
    | (go_at_call 8; (with_reducible refine HN.out.mono ?_); rintro e w1 ⟨rfl, hs1⟩
       have HS1 := Lib.hid hs1
       clear hs1)
    | (go_at_call 12; (with_reducible refine (HW1.out _ HS1.out).mono ?_); rintro e w2 ⟨rfl, hs2⟩
       have HS2 := Lib.hid hs2
       clear hs2)
    | (go_at_call 13; (with_reducible refine (HRd.out _ _ HS2.out).mono ?_); rintro e w3 ⟨v3, rfl, hs3⟩
       obtain ⟨A3, c3, rfl⟩ := (hs3.rowO 0 rfl).len
       have hcv : (convert 27 9 (.slice A3 3 c3)).run Try.prog w3 = .ok (.string ⟨#[97, 98, 99]⟩) w3 := conv_by (c := c3) (hs3.readsO 0 rfl)
       have HS3 := Lib.hid hs3
       clear hs3)
    | (go_at_call 17; (with_reducible refine (HL.out _ _ _ HS3.out).mono ?_); rintro e w5 ⟨rfl, hs5⟩))
  go_ret
  exact ⟨rfl, hs5.below⟩
end Go.Proofs.Ytaiggfoeobehlaa.Ff
