/- The walk of RightsDefaults. -/
import Derived.Test.YtpkmpenjnbpblaaDoorRtDefLaw
namespace Go.Proofs.YtpkmpenjnbpblaaDoor.Rt
open Go Go.RowKit Go.Proofs.YtpkmpenjnbpblaaDoor.Mem Go.Proofs.YtpkmpenjnbpblaaDoor.Bits
set_option linter.unusedVariables false
set_option linter.unusedSimpArgs false
theorem names_at (w : World) {i : Nat} (hi : i < 12) : (w.alloc (.cells #[Value.string ⟨#[]⟩, Value.string ⟨#[106, 111, 98]⟩, Value.string ⟨#[112, 114, 111, 99, 101, 115, 115]⟩, Value.string ⟨#[116, 104, 114, 101, 97, 100]⟩, Value.string ⟨#[99, 104, 97, 110, 110, 101, 108]⟩, Value.string ⟨#[115, 111, 99, 107, 101, 116]⟩, Value.string ⟨#[102, 105, 102, 111]⟩, Value.string ⟨#[101, 118, 101, 110, 116]⟩, Value.string ⟨#[101, 118, 101, 110, 116, 112, 97, 105, 114]⟩, Value.string ⟨#[112, 111, 114, 116]⟩, Value.string ⟨#[116, 105, 109, 101, 114]⟩, Value.string ⟨#[118, 109, 111]⟩] 9)).cell? ⟨w.heap.size, i, none⟩ = some (.string (nm i)) := by
  have hc : i = 0 ∨ i = 1 ∨ i = 2 ∨ i = 3 ∨ i = 4 ∨ i = 5 ∨ i = 6 ∨ i = 7 ∨ i = 8 ∨ i = 9 ∨ i = 10 ∨ i = 11 := by omega
  rcases hc with rfl | rfl | rfl | rfl | rfl | rfl | rfl | rfl | rfl | rfl | rfl | rfl
  all_goals
    simp
    rfl
set_option maxRecDepth 8000 in
set_option maxHeartbeats 2000000 in
theorem defaults_law (a : Int) {w : World} (hL : LaidN w) : Calls Tryd.prog 3 #[.int .i64 a] w fun e w' => e = .returned (.bool true) ∧ Below w.heap.size w w' := by
  have HA := Lib.hid awake_any
  have HL := Lib.hid hL
  have HD := Lib.hid (default_any a)
  have HR := Lib.hid (rdefault_any a)
  have h2 := right_any (dfl a)
  rw [dfl_right_any a] at h2
  have H2 := Lib.hid h2
  have HK : Hid (∀ W, LaidN W → Calls Tryd.prog 8 #[] W fun e w' => ∃ v, e = .returned v ∧ w'.ownsRow W.heap.size 3 1 v 11 (kv 11) ∧ Below W.heap.size W w') := Lib.hid fun W hW => kinds_any hW
  have hcase : a ≤ 0 ∨ 12 ≤ a ∨ ∃ i : Nat, a = i ∧ 0 < i ∧ i < 12 := by
    rcases Int.lt_or_le 0 a with h | h
    · rcases Int.lt_or_le a 12 with h2 | h2
      · exact .inr (.inr ⟨a.toNat, by omega, by omega, by omega⟩)
      · exact .inr (.inl h2)
    · exact .inl h
  generalize dfl a = d at *
  have z1 : (d != d) = false := by simp
  have hNM := fun W : World => Lib.hid (fun i hi => names_at W (i := i) hi)
  clear hL h2
  obtain ⟨S, HN, HS⟩ : ∃ S, Hid (∀ W, LaidN W → Calls Tryd.prog 9 #[.int .i64 a] W fun e w' => e = .returned (.string S) ∧ W = w') ∧ ((S = ⟨#[]⟩ ∧ (a ≤ 0 ∨ 12 ≤ a)) ∨ ∃ i : Nat, a = i ∧ 0 < i ∧ i < 12 ∧ S = nm i) := by
    rcases hcase with h | h | ⟨i, rfl, h0, h1⟩
    · by_cases hz : a = 0
      · subst hz
        exact ⟨⟨#[]⟩, Lib.hid fun W hW => name_in (i := 0) (by omega) hW, .inl ⟨rfl, .inl h⟩⟩
      · exact ⟨⟨#[]⟩, Lib.hid fun W hW => name_out (.inl (by omega)) W, .inl ⟨rfl, .inl h⟩⟩
    · exact ⟨⟨#[]⟩, Lib.hid fun W hW => name_out (.inr h) W, .inl ⟨rfl, .inr h⟩⟩
    · exact ⟨nm i, Lib.hid fun W hW => name_in h1 hW, .inr ⟨i, rfl, h0, h1, rfl⟩⟩
  have tail : ∀ (W : World), True := fun _ => trivial
  clear tail hcase
  rcases HS with ⟨rfl, hk | hk⟩ | ⟨i, rfl, h0, h1, rfl⟩
  · go_enter Tryd.func3, Tryd.ntmps3
    go_wp2_with (first
      | (go_at_call 5; (with_reducible refine (HD.out _).mono ?_); rintro e w1 ⟨rfl, rfl⟩)
      | (go_at_call 6; (with_reducible refine (HR.out _).mono ?_); rintro e w1 ⟨rfl, hb1⟩)
      | (go_at_call 7; (with_reducible refine (H2.out _).mono ?_); rintro e w2 ⟨rfl, rfl⟩)
      | (go_at_call 8; (with_reducible refine (HK.out _ (HL.out.below (hb1.alloc hb1.size _))).mono ?_); rintro e w3 ⟨v, rfl, ho, hb3⟩; obtain ⟨g, cp, rfl, hbg, hgl, hnc⟩ := own_form ho (by omega); have hb13 := next (hb1.alloc hb1.size _) hb3)
      | (go_at_call 9; (with_reducible refine (HN.out _ (HL.out.below hb13)).mono ?_); rintro e w4 ⟨rfl, rfl⟩)
      | (go_at_call 10; (with_reducible refine (HA.out _).mono ?_); rintro e w8 ⟨rfl, hb8⟩))
    have HC : Hid (∀ k, k < 11 → w3.cell? ⟨g, k, none⟩ = some (.int .i64 ((k : Int) + 1))) := Lib.hid (fun k hk => by rw [ho.cellAt k (by omega), kv_at hk])
    have HB4 := Lib.hid hb13
    go_loopw [45] (fun j wr => ∃ k : Nat, k ≤ 11 ∧ j = .int .i64 k ∧ wr = w3) (fun j _ => 11 - (intOf j).toNat)
    case atStart => exact ⟨0, by omega, rfl, rfl⟩
    case round =>
      obtain ⟨k, hk, rfl, rfl⟩ := hrel
      by_cases hlt : k < 11
      · have hck := HC.out k hlt
        have z2 : ((k : Int) + 1 != (k : Int) + 1) = false := by simp
        go_wp2
        go_roundw
        case rel => exact ⟨k + 1, by omega, by go_num, by first | rfl | trivial⟩
        case measure => simp [intOf]; omega
      · obtain rfl : k = 11 := by omega
        go_wp2_with (first | (go_at_call 10; (with_reducible refine (HA.out _).mono ?_); rintro e w8 ⟨rfl, hb8⟩))
        go_ret
        exact ⟨rfl, next HB4.out hb8⟩
  · go_enter Tryd.func3, Tryd.ntmps3
    go_wp2_with (first
      | (go_at_call 5; (with_reducible refine (HD.out _).mono ?_); rintro e w1 ⟨rfl, rfl⟩)
      | (go_at_call 6; (with_reducible refine (HR.out _).mono ?_); rintro e w1 ⟨rfl, hb1⟩)
      | (go_at_call 7; (with_reducible refine (H2.out _).mono ?_); rintro e w2 ⟨rfl, rfl⟩)
      | (go_at_call 8; (with_reducible refine (HK.out _ (HL.out.below (hb1.alloc hb1.size _))).mono ?_); rintro e w3 ⟨v, rfl, ho, hb3⟩; obtain ⟨g, cp, rfl, hbg, hgl, hnc⟩ := own_form ho (by omega); have hb13 := next (hb1.alloc hb1.size _) hb3)
      | (go_at_call 9; (with_reducible refine (HN.out _ (HL.out.below hb13)).mono ?_); rintro e w4 ⟨rfl, rfl⟩)
      | (go_at_call 10; (with_reducible refine (HA.out _).mono ?_); rintro e w8 ⟨rfl, hb8⟩))
    have HC : Hid (∀ k, k < 11 → w3.cell? ⟨g, k, none⟩ = some (.int .i64 ((k : Int) + 1))) := Lib.hid (fun k hk => by rw [ho.cellAt k (by omega), kv_at hk])
    have HB4 := Lib.hid hb13
    go_loopw [45] (fun j wr => ∃ k : Nat, k ≤ 11 ∧ j = .int .i64 k ∧ wr = w3) (fun j _ => 11 - (intOf j).toNat)
    case atStart => exact ⟨0, by omega, rfl, rfl⟩
    case round =>
      obtain ⟨k, hk, rfl, rfl⟩ := hrel
      by_cases hlt : k < 11
      · have hck := HC.out k hlt
        have z2 : ((k : Int) + 1 != (k : Int) + 1) = false := by simp
        go_wp2
        go_roundw
        case rel => exact ⟨k + 1, by omega, by go_num, by first | rfl | trivial⟩
        case measure => simp [intOf]; omega
      · obtain rfl : k = 11 := by omega
        go_wp2_with (first | (go_at_call 10; (with_reducible refine (HA.out _).mono ?_); rintro e w8 ⟨rfl, hb8⟩))
        go_ret
        exact ⟨rfl, next HB4.out hb8⟩
  · go_enter Tryd.func3, Tryd.ntmps3
    go_wp2_with (first
      | (go_at_call 5; (with_reducible refine (HD.out _).mono ?_); rintro e w1 ⟨rfl, rfl⟩)
      | (go_at_call 6; (with_reducible refine (HR.out _).mono ?_); rintro e w1 ⟨rfl, hb1⟩; have hc9 := names_at w1 h1; generalize nm i = S9 at *)
      | (go_at_call 7; (with_reducible refine (H2.out _).mono ?_); rintro e w2 ⟨rfl, rfl⟩)
      | (go_at_call 8; (with_reducible refine (HK.out _ (HL.out.below (hb1.alloc hb1.size _))).mono ?_); rintro e w3 ⟨v, rfl, ho, hb3⟩; obtain ⟨g, cp, rfl, hbg, hgl, hnc⟩ := own_form ho (by omega); have hb13 := next (hb1.alloc hb1.size _) hb3)
      | (go_at_call 9; (with_reducible refine (HN.out _ (HL.out.below hb13)).mono ?_); rintro e w4 ⟨rfl, rfl⟩)
      | (go_at_call 10; (with_reducible refine (HA.out _).mono ?_); rintro e w8 ⟨rfl, hb8⟩))
    have HC : Hid (∀ k, k < 11 → w3.cell? ⟨g, k, none⟩ = some (.int .i64 ((k : Int) + 1))) := Lib.hid (fun k hk => by rw [ho.cellAt k (by omega), kv_at hk])
    have HB4 := Lib.hid hb13
    go_loopw [45] (fun j wr => ∃ k : Nat, k ≤ 11 ∧ j = .int .i64 k ∧ wr = w3) (fun j _ => 11 - (intOf j).toNat)
    case atStart => exact ⟨0, by omega, rfl, rfl⟩
    case round =>
      obtain ⟨k, hk, rfl, rfl⟩ := hrel
      by_cases hlt : k < 11
      · have hck := HC.out k hlt
        have z2 : ((k : Int) + 1 != (k : Int) + 1) = false := by simp
        go_wp2
        go_roundw
        case rel => exact ⟨k + 1, by omega, by go_num, by first | rfl | trivial⟩
        case measure => simp [intOf]; omega
      · obtain rfl : k = 11 := by omega
        go_wp2_with (first | (go_at_call 10; (with_reducible refine (HA.out _).mono ?_); rintro e w8 ⟨rfl, hb8⟩))
        go_ret
        exact ⟨rfl, next HB4.out hb8⟩
end Go.Proofs.YtpkmpenjnbpblaaDoor.Rt
