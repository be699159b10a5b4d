/- The walk of RightsKinds. -/
import Derived.Test.YtpkmpenjnbpblaaDoorRtKinds
namespace Go.Proofs.YtpkmpenjnbpblaaDoor.Rt
open Go Go.RowKit Go.Proofs.YtpkmpenjnbpblaaDoor.Mem Go.Proofs.YtpkmpenjnbpblaaDoor.Bits
set_option linter.unusedVariables false
set_option linter.unusedSimpArgs false
theorem dfl_and {q : Nat} (hq : q < 11) : bits .and .i64 (dfl ((q : Int) + 1)) 4095 = dfl ((q : Int) + 1) := by
  have e : ∀ j : Fin 11, bits .and .i64 (dfl ((j.val : Int) + 1)) 4095 = dfl ((j.val : Int) + 1) := by decide
  exact e ⟨q, hq⟩
theorem dfl_has {q : Nat} (hq : q < 11) : hasN (dfl ((q : Int) + 1)) 195 = true := by
  have e : ∀ j : Fin 11, hasN (dfl ((j.val : Int) + 1)) 195 = true := by decide
  exact e ⟨q, hq⟩
theorem dfl_right {q : Nat} (hq : q < 11) : rightN (dfl ((q : Int) + 1)) = true := by
  have e : ∀ j : Fin 11, rightN (dfl ((j.val : Int) + 1)) = true := by decide
  exact e ⟨q, hq⟩
theorem kv_at {k q : Nat} (h : q < k) : (kv k)[q]? = some (.int .i64 ((q : Int) + 1)) := by simp [kv, h]
set_option maxRecDepth 8000 in
set_option maxHeartbeats 2000000 in
theorem kinds_law (a : Int) {w : World} (hL : LaidN w) : Calls Tryd.prog 4 #[.int .i64 a] w fun e w' => e = .returned (.bool true) ∧ Below w.heap.size w w' := by
  have HA := Lib.hid awake_any
  have HK := Lib.hid (kinds_any hL)
  have HL := Lib.hid hL
  have hcase : a < 0 ∨ 11 ≤ a ∨ ∃ q : Nat, a = q ∧ q < 11 := by
    rcases Int.lt_or_le a 0 with h | h
    · exact .inl h
    · rcases Int.lt_or_le a 11 with h2 | h2
      · exact .inr (.inr ⟨a.toNat, by omega, by omega⟩)
      · exact .inr (.inl h2)
  clear hL
  rcases hcase with h | h | ⟨q, rfl, hq⟩
  · go_enter Tryd.func4, Tryd.ntmps4
    go_wp2_with (first
      | (go_at_call 8; (with_reducible refine HK.out.mono ?_); rintro e w1 ⟨v, rfl, ho, hb1⟩; obtain ⟨g, cp, rfl, hbg, hgl, hnc⟩ := own_form ho (by omega))
      | (go_at_call 10; (with_reducible refine (HA.out _).mono ?_); rintro e w8 ⟨rfl, hb8⟩))
    go_ret
    exact ⟨rfl, next hb1 hb8⟩
  · go_enter Tryd.func4, Tryd.ntmps4
    go_wp2_with (first
      | (go_at_call 8; (with_reducible refine HK.out.mono ?_); rintro e w1 ⟨v, rfl, ho, hb1⟩; obtain ⟨g, cp, rfl, hbg, hgl, hnc⟩ := own_form ho (by omega))
      | (go_at_call 10; (with_reducible refine (HA.out _).mono ?_); rintro e w8 ⟨rfl, hb8⟩))
    go_ret
    exact ⟨rfl, next hb1 hb8⟩
  · have HD := Lib.hid (default_any ((q : Int) + 1))
    have h1 := has_any (dfl ((q : Int) + 1)) 195
    rw [dfl_has hq] at h1
    have h2 := right_any (dfl ((q : Int) + 1))
    rw [dfl_right hq] at h2
    have h3 := parse_any ⟨(txt (dfl ((q : Int) + 1))).toArray⟩ (by have := txt_len (dfl ((q : Int) + 1)); show (txt _).toArray.size ≤ _; simp; omega)
    rw [show (⟨(txt (dfl ((q : Int) + 1))).toArray⟩ : ByteArray).data.toList = txt (dfl ((q : Int) + 1)) by simp, (parse_text _).1, (parse_text _).2, dfl_and hq] at h3
    have H1 := Lib.hid h1
    have H2 := Lib.hid h2
    have H3 := Lib.hid h3
    have HT := Lib.hid (text_any (dfl ((q : Int) + 1)))
    have HN : Hid (∀ W, LaidN W → Calls Tryd.prog 9 #[.int .i64 ((q : Int) + 1)] W fun e w' => e = .returned (.string (nm (q + 1))) ∧ W = w') := Lib.hid (fun W hW => by
      have := name_in (i := q + 1) (by omega) hW
      rwa [show ((q + 1 : Nat) : Int) = (q : Int) + 1 by omega] at this)
    have hne := nm_len q hq
    have n1 : ¬ nm (q + 1) = ⟨#[]⟩ := fun e => hne (by rw [e]; rfl)
    have n3 : ((nm (q + 1)).toList == []) = false := beq_eq_false_iff_ne.mpr (fun e => n1 (by rw [Lib.toList_data] at e; exact ByteArray.ext (Array.toList_inj.mp (by simpa using e))))
    clear h1 h2 h3 hne
    generalize (⟨(txt (dfl ((q : Int) + 1))).toArray⟩ : ByteArray) = S at *
    generalize dfl ((q : Int) + 1) = d at *
    generalize nm (q + 1) = N at *
    have z1 : (d == d) = true := by simp
    go_enter Tryd.func4, Tryd.ntmps4
    go_wp2_with (first
      | (go_at_call 8; (with_reducible refine HK.out.mono ?_); rintro e w1 ⟨v, rfl, ho, hb1⟩; obtain ⟨g, cp, rfl, hbg, hgl, hnc⟩ := own_form ho (by omega)
         have hc1 : w1.cell? ⟨g, q, none⟩ = some (.int .i64 ((q : Int) + 1)) := by rw [ho.cellAt q (by omega), kv_at hq])
      | (go_at_call 5; (with_reducible refine (HD.out _).mono ?_); rintro e w2 ⟨rfl, rfl⟩)
      | (go_at_call 12; (with_reducible refine (HT.out _).mono ?_); rintro e w3 ⟨rfl, hb3⟩
         have hc3 := (hb3.cell (p := ⟨g, q, none⟩) hgl).trans hc1)
      | (go_at_call 11; (with_reducible refine (H3.out _).mono ?_); rintro e w4 ⟨rfl, hb4⟩
         have hc4 := (hb4.cell (p := ⟨g, q, none⟩) (by have := hb3.size; show g < _; omega)).trans hc3)
      | (go_at_call 13; (with_reducible refine (H1.out _).mono ?_); rintro e w5 ⟨rfl, rfl⟩)
      | (go_at_call 7; (with_reducible refine (H2.out _).mono ?_); rintro e w6 ⟨rfl, rfl⟩)
      | (go_at_call 9; (with_reducible refine (HN.out _ (HL.out.below (next (next hb1 hb3) hb4))).mono ?_); rintro e w7 ⟨rfl, rfl⟩)
      | (go_at_call 10; (with_reducible refine (HA.out _).mono ?_); rintro e w8 ⟨rfl, hb8⟩))
    go_ret
    exact ⟨rfl, next (next (next hb1 hb3) hb4) hb8⟩
end Go.Proofs.YtpkmpenjnbpblaaDoor.Rt
