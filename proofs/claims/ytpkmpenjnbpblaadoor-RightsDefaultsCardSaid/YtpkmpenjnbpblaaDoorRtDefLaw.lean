/- The reference's Default; the walk of RightsDefaults. -/
import Derived.Test.YtpkmpenjnbpblaaDoorRtKindsLaw
namespace Go.Proofs.YtpkmpenjnbpblaaDoor.Rt
open Go Go.RowKit Go.Proofs.YtpkmpenjnbpblaaDoor.Mem Go.Proofs.YtpkmpenjnbpblaaDoor.Bits
set_option linter.unusedVariables false
set_option linter.unusedSimpArgs false
theorem of_at (l : List UInt8) (v : Int) (hl : l.length ≤ 500) (hv : ofN l l.length = v) (w : World) : Calls Tryd.prog 14 #[.string ⟨l.toArray⟩] w fun e w' => e = .returned (.int .i64 v) ∧ w = w' := by
  have := of_any ⟨l.toArray⟩ (by show l.toArray.size ≤ _; simpa using hl) w
  rw [show (⟨l.toArray⟩ : ByteArray).data.toList = l by simp, show (⟨l.toArray⟩ : ByteArray).size = l.length from by simp [ByteArray.size], hv] at this
  exact this
theorem below_drewN {w a : World} (h : Below w.heap.size w a) (n : Nat) : Below w.heap.size w (a.drewN n) := ((Upd.of_below h (fun _ => False)).drewN n).below (Nat.le_refl _) (fun _ h => h.elim)
theorem of_DTAI (w : World) : Calls Tryd.prog 14 #[.string ⟨#[68, 84, 65, 73]⟩] w fun e w' => e = .returned (.int .i64 195) ∧ w = w' := of_at [68, 84, 65, 73] 195 (by decide) (by decide) w
theorem of_KG (w : World) : Calls Tryd.prog 14 #[.string ⟨#[75, 71]⟩] w fun e w' => e = .returned (.int .i64 1536) ∧ w = w' := of_at [75, 71] 1536 (by decide) (by decide) w
theorem of_KGY (w : World) : Calls Tryd.prog 14 #[.string ⟨#[75, 71, 89]⟩] w fun e w' => e = .returned (.int .i64 3584) ∧ w = w' := of_at [75, 71, 89] 3584 (by decide) (by decide) w
theorem of_RW (w : World) : Calls Tryd.prog 14 #[.string ⟨#[82, 87]⟩] w fun e w' => e = .returned (.int .i64 12) ∧ w = w' := of_at [82, 87] 12 (by decide) (by decide) w
theorem of_RWKG (w : World) : Calls Tryd.prog 14 #[.string ⟨#[82, 87, 75, 71]⟩] w fun e w' => e = .returned (.int .i64 1548) ∧ w = w' := of_at [82, 87, 75, 71] 1548 (by decide) (by decide) w
theorem of_RWMYS (w : World) : Calls Tryd.prog 14 #[.string ⟨#[82, 87, 77, 89, 83]⟩] w fun e w' => e = .returned (.int .i64 2332) ∧ w = w' := of_at [82, 87, 77, 89, 83] 2332 (by decide) (by decide) w
theorem of_RWSP (w : World) : Calls Tryd.prog 14 #[.string ⟨#[82, 87, 83, 80]⟩] w fun e w' => e = .returned (.int .i64 60) ∧ w = w' := of_at [82, 87, 83, 80] 60 (by decide) (by decide) w
theorem of_S (w : World) : Calls Tryd.prog 14 #[.string ⟨#[83]⟩] w fun e w' => e = .returned (.int .i64 16) ∧ w = w' := of_at [83] 16 (by decide) (by decide) w
theorem of_SP (w : World) : Calls Tryd.prog 14 #[.string ⟨#[83, 80]⟩] w fun e w' => e = .returned (.int .i64 48) ∧ w = w' := of_at [83, 80] 48 (by decide) (by decide) w
theorem of_WS (w : World) : Calls Tryd.prog 14 #[.string ⟨#[87, 83]⟩] w fun e w' => e = .returned (.int .i64 24) ∧ w = w' := of_at [87, 83] 24 (by decide) (by decide) w
set_option maxHeartbeats 1000000 in
theorem rdefault_1 (w : World) : Calls Tryd.prog 6 #[.int .i64 1] w fun e w' => e = .returned (.int .i64 3779) ∧ Below w.heap.size w w' := by
  have HD := Lib.hid of_DTAI
  have HM := Lib.hid of_KGY
  have hc : (w.alloc (.cells #[Value.string ⟨#[]⟩, Value.string ⟨#[75, 71, 89]⟩, Value.string ⟨#[82, 87, 75, 71]⟩, Value.string ⟨#[75, 71]⟩, Value.string ⟨#[82, 87, 83, 80]⟩, Value.string ⟨#[82, 87, 83, 80]⟩, Value.string ⟨#[82, 87, 83, 80]⟩, Value.string ⟨#[83]⟩, Value.string ⟨#[83, 80]⟩, Value.string ⟨#[82, 87]⟩, Value.string ⟨#[87, 83]⟩, Value.string ⟨#[82, 87, 77, 89, 83]⟩] 9)).cell? ⟨w.heap.size, 1, none⟩ = some (.string ⟨#[75, 71, 89]⟩) := by simp
  have HB := Lib.hid ((Below.refl _ w).alloc (Nat.le_refl _) (.cells #[Value.string ⟨#[]⟩, Value.string ⟨#[75, 71, 89]⟩, Value.string ⟨#[82, 87, 75, 71]⟩, Value.string ⟨#[75, 71]⟩, Value.string ⟨#[82, 87, 83, 80]⟩, Value.string ⟨#[82, 87, 83, 80]⟩, Value.string ⟨#[82, 87, 83, 80]⟩, Value.string ⟨#[83]⟩, Value.string ⟨#[83, 80]⟩, Value.string ⟨#[82, 87]⟩, Value.string ⟨#[87, 83]⟩, Value.string ⟨#[82, 87, 77, 89, 83]⟩] 9))
  go_enter Tryd.func6, Tryd.ntmps6
  go_wp2
  generalize w.alloc (.cells #[Value.string ⟨#[]⟩, Value.string ⟨#[75, 71, 89]⟩, Value.string ⟨#[82, 87, 75, 71]⟩, Value.string ⟨#[75, 71]⟩, Value.string ⟨#[82, 87, 83, 80]⟩, Value.string ⟨#[82, 87, 83, 80]⟩, Value.string ⟨#[82, 87, 83, 80]⟩, Value.string ⟨#[83]⟩, Value.string ⟨#[83, 80]⟩, Value.string ⟨#[82, 87]⟩, Value.string ⟨#[87, 83]⟩, Value.string ⟨#[82, 87, 77, 89, 83]⟩] 9) = W at *
  generalize (⟨#[68, 84, 65, 73]⟩ : ByteArray) = s1 at *
  generalize (⟨#[75, 71, 89]⟩ : ByteArray) = s2 at *
  go_quiet ((first | (go_at_call 14; with_reducible exact quiet_left (HD.out _)) | (go_at_call 14; with_reducible exact quiet_left (HM.out _))))
  go_wp2
  go_ret
  exact ⟨rfl, below_drewN HB.out _⟩
set_option maxHeartbeats 1000000 in
theorem rdefault_2 (w : World) : Calls Tryd.prog 6 #[.int .i64 2] w fun e w' => e = .returned (.int .i64 1743) ∧ Below w.heap.size w w' := by
  have HD := Lib.hid of_DTAI
  have HM := Lib.hid of_RWKG
  have hc : (w.alloc (.cells #[Value.string ⟨#[]⟩, Value.string ⟨#[75, 71, 89]⟩, Value.string ⟨#[82, 87, 75, 71]⟩, Value.string ⟨#[75, 71]⟩, Value.string ⟨#[82, 87, 83, 80]⟩, Value.string ⟨#[82, 87, 83, 80]⟩, Value.string ⟨#[82, 87, 83, 80]⟩, Value.string ⟨#[83]⟩, Value.string ⟨#[83, 80]⟩, Value.string ⟨#[82, 87]⟩, Value.string ⟨#[87, 83]⟩, Value.string ⟨#[82, 87, 77, 89, 83]⟩] 9)).cell? ⟨w.heap.size, 2, none⟩ = some (.string ⟨#[82, 87, 75, 71]⟩) := by simp
  have HB := Lib.hid ((Below.refl _ w).alloc (Nat.le_refl _) (.cells #[Value.string ⟨#[]⟩, Value.string ⟨#[75, 71, 89]⟩, Value.string ⟨#[82, 87, 75, 71]⟩, Value.string ⟨#[75, 71]⟩, Value.string ⟨#[82, 87, 83, 80]⟩, Value.string ⟨#[82, 87, 83, 80]⟩, Value.string ⟨#[82, 87, 83, 80]⟩, Value.string ⟨#[83]⟩, Value.string ⟨#[83, 80]⟩, Value.string ⟨#[82, 87]⟩, Value.string ⟨#[87, 83]⟩, Value.string ⟨#[82, 87, 77, 89, 83]⟩] 9))
  go_enter Tryd.func6, Tryd.ntmps6
  go_wp2
  generalize w.alloc (.cells #[Value.string ⟨#[]⟩, Value.string ⟨#[75, 71, 89]⟩, Value.string ⟨#[82, 87, 75, 71]⟩, Value.string ⟨#[75, 71]⟩, Value.string ⟨#[82, 87, 83, 80]⟩, Value.string ⟨#[82, 87, 83, 80]⟩, Value.string ⟨#[82, 87, 83, 80]⟩, Value.string ⟨#[83]⟩, Value.string ⟨#[83, 80]⟩, Value.string ⟨#[82, 87]⟩, Value.string ⟨#[87, 83]⟩, Value.string ⟨#[82, 87, 77, 89, 83]⟩] 9) = W at *
  generalize (⟨#[68, 84, 65, 73]⟩ : ByteArray) = s1 at *
  generalize (⟨#[82, 87, 75, 71]⟩ : ByteArray) = s2 at *
  go_quiet ((first | (go_at_call 14; with_reducible exact quiet_left (HD.out _)) | (go_at_call 14; with_reducible exact quiet_left (HM.out _))))
  go_wp2
  go_ret
  exact ⟨rfl, below_drewN HB.out _⟩
set_option maxHeartbeats 1000000 in
theorem rdefault_3 (w : World) : Calls Tryd.prog 6 #[.int .i64 3] w fun e w' => e = .returned (.int .i64 1731) ∧ Below w.heap.size w w' := by
  have HD := Lib.hid of_DTAI
  have HM := Lib.hid of_KG
  have hc : (w.alloc (.cells #[Value.string ⟨#[]⟩, Value.string ⟨#[75, 71, 89]⟩, Value.string ⟨#[82, 87, 75, 71]⟩, Value.string ⟨#[75, 71]⟩, Value.string ⟨#[82, 87, 83, 80]⟩, Value.string ⟨#[82, 87, 83, 80]⟩, Value.string ⟨#[82, 87, 83, 80]⟩, Value.string ⟨#[83]⟩, Value.string ⟨#[83, 80]⟩, Value.string ⟨#[82, 87]⟩, Value.string ⟨#[87, 83]⟩, Value.string ⟨#[82, 87, 77, 89, 83]⟩] 9)).cell? ⟨w.heap.size, 3, none⟩ = some (.string ⟨#[75, 71]⟩) := by simp
  have HB := Lib.hid ((Below.refl _ w).alloc (Nat.le_refl _) (.cells #[Value.string ⟨#[]⟩, Value.string ⟨#[75, 71, 89]⟩, Value.string ⟨#[82, 87, 75, 71]⟩, Value.string ⟨#[75, 71]⟩, Value.string ⟨#[82, 87, 83, 80]⟩, Value.string ⟨#[82, 87, 83, 80]⟩, Value.string ⟨#[82, 87, 83, 80]⟩, Value.string ⟨#[83]⟩, Value.string ⟨#[83, 80]⟩, Value.string ⟨#[82, 87]⟩, Value.string ⟨#[87, 83]⟩, Value.string ⟨#[82, 87, 77, 89, 83]⟩] 9))
  go_enter Tryd.func6, Tryd.ntmps6
  go_wp2
  generalize w.alloc (.cells #[Value.string ⟨#[]⟩, Value.string ⟨#[75, 71, 89]⟩, Value.string ⟨#[82, 87, 75, 71]⟩, Value.string ⟨#[75, 71]⟩, Value.string ⟨#[82, 87, 83, 80]⟩, Value.string ⟨#[82, 87, 83, 80]⟩, Value.string ⟨#[82, 87, 83, 80]⟩, Value.string ⟨#[83]⟩, Value.string ⟨#[83, 80]⟩, Value.string ⟨#[82, 87]⟩, Value.string ⟨#[87, 83]⟩, Value.string ⟨#[82, 87, 77, 89, 83]⟩] 9) = W at *
  generalize (⟨#[68, 84, 65, 73]⟩ : ByteArray) = s1 at *
  generalize (⟨#[75, 71]⟩ : ByteArray) = s2 at *
  go_quiet ((first | (go_at_call 14; with_reducible exact quiet_left (HD.out _)) | (go_at_call 14; with_reducible exact quiet_left (HM.out _))))
  go_wp2
  go_ret
  exact ⟨rfl, below_drewN HB.out _⟩
set_option maxHeartbeats 1000000 in
theorem rdefault_4 (w : World) : Calls Tryd.prog 6 #[.int .i64 4] w fun e w' => e = .returned (.int .i64 255) ∧ Below w.heap.size w w' := by
  have HD := Lib.hid of_DTAI
  have HM := Lib.hid of_RWSP
  have hc : (w.alloc (.cells #[Value.string ⟨#[]⟩, Value.string ⟨#[75, 71, 89]⟩, Value.string ⟨#[82, 87, 75, 71]⟩, Value.string ⟨#[75, 71]⟩, Value.string ⟨#[82, 87, 83, 80]⟩, Value.string ⟨#[82, 87, 83, 80]⟩, Value.string ⟨#[82, 87, 83, 80]⟩, Value.string ⟨#[83]⟩, Value.string ⟨#[83, 80]⟩, Value.string ⟨#[82, 87]⟩, Value.string ⟨#[87, 83]⟩, Value.string ⟨#[82, 87, 77, 89, 83]⟩] 9)).cell? ⟨w.heap.size, 4, none⟩ = some (.string ⟨#[82, 87, 83, 80]⟩) := by simp
  have HB := Lib.hid ((Below.refl _ w).alloc (Nat.le_refl _) (.cells #[Value.string ⟨#[]⟩, Value.string ⟨#[75, 71, 89]⟩, Value.string ⟨#[82, 87, 75, 71]⟩, Value.string ⟨#[75, 71]⟩, Value.string ⟨#[82, 87, 83, 80]⟩, Value.string ⟨#[82, 87, 83, 80]⟩, Value.string ⟨#[82, 87, 83, 80]⟩, Value.string ⟨#[83]⟩, Value.string ⟨#[83, 80]⟩, Value.string ⟨#[82, 87]⟩, Value.string ⟨#[87, 83]⟩, Value.string ⟨#[82, 87, 77, 89, 83]⟩] 9))
  go_enter Tryd.func6, Tryd.ntmps6
  go_wp2
  generalize w.alloc (.cells #[Value.string ⟨#[]⟩, Value.string ⟨#[75, 71, 89]⟩, Value.string ⟨#[82, 87, 75, 71]⟩, Value.string ⟨#[75, 71]⟩, Value.string ⟨#[82, 87, 83, 80]⟩, Value.string ⟨#[82, 87, 83, 80]⟩, Value.string ⟨#[82, 87, 83, 80]⟩, Value.string ⟨#[83]⟩, Value.string ⟨#[83, 80]⟩, Value.string ⟨#[82, 87]⟩, Value.string ⟨#[87, 83]⟩, Value.string ⟨#[82, 87, 77, 89, 83]⟩] 9) = W at *
  generalize (⟨#[68, 84, 65, 73]⟩ : ByteArray) = s1 at *
  generalize (⟨#[82, 87, 83, 80]⟩ : ByteArray) = s2 at *
  go_quiet ((first | (go_at_call 14; with_reducible exact quiet_left (HD.out _)) | (go_at_call 14; with_reducible exact quiet_left (HM.out _))))
  go_wp2
  go_ret
  exact ⟨rfl, below_drewN HB.out _⟩
set_option maxHeartbeats 1000000 in
theorem rdefault_5 (w : World) : Calls Tryd.prog 6 #[.int .i64 5] w fun e w' => e = .returned (.int .i64 255) ∧ Below w.heap.size w w' := by
  have HD := Lib.hid of_DTAI
  have HM := Lib.hid of_RWSP
  have hc : (w.alloc (.cells #[Value.string ⟨#[]⟩, Value.string ⟨#[75, 71, 89]⟩, Value.string ⟨#[82, 87, 75, 71]⟩, Value.string ⟨#[75, 71]⟩, Value.string ⟨#[82, 87, 83, 80]⟩, Value.string ⟨#[82, 87, 83, 80]⟩, Value.string ⟨#[82, 87, 83, 80]⟩, Value.string ⟨#[83]⟩, Value.string ⟨#[83, 80]⟩, Value.string ⟨#[82, 87]⟩, Value.string ⟨#[87, 83]⟩, Value.string ⟨#[82, 87, 77, 89, 83]⟩] 9)).cell? ⟨w.heap.size, 5, none⟩ = some (.string ⟨#[82, 87, 83, 80]⟩) := by simp
  have HB := Lib.hid ((Below.refl _ w).alloc (Nat.le_refl _) (.cells #[Value.string ⟨#[]⟩, Value.string ⟨#[75, 71, 89]⟩, Value.string ⟨#[82, 87, 75, 71]⟩, Value.string ⟨#[75, 71]⟩, Value.string ⟨#[82, 87, 83, 80]⟩, Value.string ⟨#[82, 87, 83, 80]⟩, Value.string ⟨#[82, 87, 83, 80]⟩, Value.string ⟨#[83]⟩, Value.string ⟨#[83, 80]⟩, Value.string ⟨#[82, 87]⟩, Value.string ⟨#[87, 83]⟩, Value.string ⟨#[82, 87, 77, 89, 83]⟩] 9))
  go_enter Tryd.func6, Tryd.ntmps6
  go_wp2
  generalize w.alloc (.cells #[Value.string ⟨#[]⟩, Value.string ⟨#[75, 71, 89]⟩, Value.string ⟨#[82, 87, 75, 71]⟩, Value.string ⟨#[75, 71]⟩, Value.string ⟨#[82, 87, 83, 80]⟩, Value.string ⟨#[82, 87, 83, 80]⟩, Value.string ⟨#[82, 87, 83, 80]⟩, Value.string ⟨#[83]⟩, Value.string ⟨#[83, 80]⟩, Value.string ⟨#[82, 87]⟩, Value.string ⟨#[87, 83]⟩, Value.string ⟨#[82, 87, 77, 89, 83]⟩] 9) = W at *
  generalize (⟨#[68, 84, 65, 73]⟩ : ByteArray) = s1 at *
  generalize (⟨#[82, 87, 83, 80]⟩ : ByteArray) = s2 at *
  go_quiet ((first | (go_at_call 14; with_reducible exact quiet_left (HD.out _)) | (go_at_call 14; with_reducible exact quiet_left (HM.out _))))
  go_wp2
  go_ret
  exact ⟨rfl, below_drewN HB.out _⟩
set_option maxHeartbeats 1000000 in
theorem rdefault_6 (w : World) : Calls Tryd.prog 6 #[.int .i64 6] w fun e w' => e = .returned (.int .i64 255) ∧ Below w.heap.size w w' := by
  have HD := Lib.hid of_DTAI
  have HM := Lib.hid of_RWSP
  have hc : (w.alloc (.cells #[Value.string ⟨#[]⟩, Value.string ⟨#[75, 71, 89]⟩, Value.string ⟨#[82, 87, 75, 71]⟩, Value.string ⟨#[75, 71]⟩, Value.string ⟨#[82, 87, 83, 80]⟩, Value.string ⟨#[82, 87, 83, 80]⟩, Value.string ⟨#[82, 87, 83, 80]⟩, Value.string ⟨#[83]⟩, Value.string ⟨#[83, 80]⟩, Value.string ⟨#[82, 87]⟩, Value.string ⟨#[87, 83]⟩, Value.string ⟨#[82, 87, 77, 89, 83]⟩] 9)).cell? ⟨w.heap.size, 6, none⟩ = some (.string ⟨#[82, 87, 83, 80]⟩) := by simp
  have HB := Lib.hid ((Below.refl _ w).alloc (Nat.le_refl _) (.cells #[Value.string ⟨#[]⟩, Value.string ⟨#[75, 71, 89]⟩, Value.string ⟨#[82, 87, 75, 71]⟩, Value.string ⟨#[75, 71]⟩, Value.string ⟨#[82, 87, 83, 80]⟩, Value.string ⟨#[82, 87, 83, 80]⟩, Value.string ⟨#[82, 87, 83, 80]⟩, Value.string ⟨#[83]⟩, Value.string ⟨#[83, 80]⟩, Value.string ⟨#[82, 87]⟩, Value.string ⟨#[87, 83]⟩, Value.string ⟨#[82, 87, 77, 89, 83]⟩] 9))
  go_enter Tryd.func6, Tryd.ntmps6
  go_wp2
  generalize w.alloc (.cells #[Value.string ⟨#[]⟩, Value.string ⟨#[75, 71, 89]⟩, Value.string ⟨#[82, 87, 75, 71]⟩, Value.string ⟨#[75, 71]⟩, Value.string ⟨#[82, 87, 83, 80]⟩, Value.string ⟨#[82, 87, 83, 80]⟩, Value.string ⟨#[82, 87, 83, 80]⟩, Value.string ⟨#[83]⟩, Value.string ⟨#[83, 80]⟩, Value.string ⟨#[82, 87]⟩, Value.string ⟨#[87, 83]⟩, Value.string ⟨#[82, 87, 77, 89, 83]⟩] 9) = W at *
  generalize (⟨#[68, 84, 65, 73]⟩ : ByteArray) = s1 at *
  generalize (⟨#[82, 87, 83, 80]⟩ : ByteArray) = s2 at *
  go_quiet ((first | (go_at_call 14; with_reducible exact quiet_left (HD.out _)) | (go_at_call 14; with_reducible exact quiet_left (HM.out _))))
  go_wp2
  go_ret
  exact ⟨rfl, below_drewN HB.out _⟩
set_option maxHeartbeats 1000000 in
theorem rdefault_7 (w : World) : Calls Tryd.prog 6 #[.int .i64 7] w fun e w' => e = .returned (.int .i64 211) ∧ Below w.heap.size w w' := by
  have HD := Lib.hid of_DTAI
  have HM := Lib.hid of_S
  have hc : (w.alloc (.cells #[Value.string ⟨#[]⟩, Value.string ⟨#[75, 71, 89]⟩, Value.string ⟨#[82, 87, 75, 71]⟩, Value.string ⟨#[75, 71]⟩, Value.string ⟨#[82, 87, 83, 80]⟩, Value.string ⟨#[82, 87, 83, 80]⟩, Value.string ⟨#[82, 87, 83, 80]⟩, Value.string ⟨#[83]⟩, Value.string ⟨#[83, 80]⟩, Value.string ⟨#[82, 87]⟩, Value.string ⟨#[87, 83]⟩, Value.string ⟨#[82, 87, 77, 89, 83]⟩] 9)).cell? ⟨w.heap.size, 7, none⟩ = some (.string ⟨#[83]⟩) := by simp
  have HB := Lib.hid ((Below.refl _ w).alloc (Nat.le_refl _) (.cells #[Value.string ⟨#[]⟩, Value.string ⟨#[75, 71, 89]⟩, Value.string ⟨#[82, 87, 75, 71]⟩, Value.string ⟨#[75, 71]⟩, Value.string ⟨#[82, 87, 83, 80]⟩, Value.string ⟨#[82, 87, 83, 80]⟩, Value.string ⟨#[82, 87, 83, 80]⟩, Value.string ⟨#[83]⟩, Value.string ⟨#[83, 80]⟩, Value.string ⟨#[82, 87]⟩, Value.string ⟨#[87, 83]⟩, Value.string ⟨#[82, 87, 77, 89, 83]⟩] 9))
  go_enter Tryd.func6, Tryd.ntmps6
  go_wp2
  generalize w.alloc (.cells #[Value.string ⟨#[]⟩, Value.string ⟨#[75, 71, 89]⟩, Value.string ⟨#[82, 87, 75, 71]⟩, Value.string ⟨#[75, 71]⟩, Value.string ⟨#[82, 87, 83, 80]⟩, Value.string ⟨#[82, 87, 83, 80]⟩, Value.string ⟨#[82, 87, 83, 80]⟩, Value.string ⟨#[83]⟩, Value.string ⟨#[83, 80]⟩, Value.string ⟨#[82, 87]⟩, Value.string ⟨#[87, 83]⟩, Value.string ⟨#[82, 87, 77, 89, 83]⟩] 9) = W at *
  generalize (⟨#[68, 84, 65, 73]⟩ : ByteArray) = s1 at *
  generalize (⟨#[83]⟩ : ByteArray) = s2 at *
  go_quiet ((first | (go_at_call 14; with_reducible exact quiet_left (HD.out _)) | (go_at_call 14; with_reducible exact quiet_left (HM.out _))))
  go_wp2
  go_ret
  exact ⟨rfl, below_drewN HB.out _⟩
set_option maxHeartbeats 1000000 in
theorem rdefault_8 (w : World) : Calls Tryd.prog 6 #[.int .i64 8] w fun e w' => e = .returned (.int .i64 243) ∧ Below w.heap.size w w' := by
  have HD := Lib.hid of_DTAI
  have HM := Lib.hid of_SP
  have hc : (w.alloc (.cells #[Value.string ⟨#[]⟩, Value.string ⟨#[75, 71, 89]⟩, Value.string ⟨#[82, 87, 75, 71]⟩, Value.string ⟨#[75, 71]⟩, Value.string ⟨#[82, 87, 83, 80]⟩, Value.string ⟨#[82, 87, 83, 80]⟩, Value.string ⟨#[82, 87, 83, 80]⟩, Value.string ⟨#[83]⟩, Value.string ⟨#[83, 80]⟩, Value.string ⟨#[82, 87]⟩, Value.string ⟨#[87, 83]⟩, Value.string ⟨#[82, 87, 77, 89, 83]⟩] 9)).cell? ⟨w.heap.size, 8, none⟩ = some (.string ⟨#[83, 80]⟩) := by simp
  have HB := Lib.hid ((Below.refl _ w).alloc (Nat.le_refl _) (.cells #[Value.string ⟨#[]⟩, Value.string ⟨#[75, 71, 89]⟩, Value.string ⟨#[82, 87, 75, 71]⟩, Value.string ⟨#[75, 71]⟩, Value.string ⟨#[82, 87, 83, 80]⟩, Value.string ⟨#[82, 87, 83, 80]⟩, Value.string ⟨#[82, 87, 83, 80]⟩, Value.string ⟨#[83]⟩, Value.string ⟨#[83, 80]⟩, Value.string ⟨#[82, 87]⟩, Value.string ⟨#[87, 83]⟩, Value.string ⟨#[82, 87, 77, 89, 83]⟩] 9))
  go_enter Tryd.func6, Tryd.ntmps6
  go_wp2
  generalize w.alloc (.cells #[Value.string ⟨#[]⟩, Value.string ⟨#[75, 71, 89]⟩, Value.string ⟨#[82, 87, 75, 71]⟩, Value.string ⟨#[75, 71]⟩, Value.string ⟨#[82, 87, 83, 80]⟩, Value.string ⟨#[82, 87, 83, 80]⟩, Value.string ⟨#[82, 87, 83, 80]⟩, Value.string ⟨#[83]⟩, Value.string ⟨#[83, 80]⟩, Value.string ⟨#[82, 87]⟩, Value.string ⟨#[87, 83]⟩, Value.string ⟨#[82, 87, 77, 89, 83]⟩] 9) = W at *
  generalize (⟨#[68, 84, 65, 73]⟩ : ByteArray) = s1 at *
  generalize (⟨#[83, 80]⟩ : ByteArray) = s2 at *
  go_quiet ((first | (go_at_call 14; with_reducible exact quiet_left (HD.out _)) | (go_at_call 14; with_reducible exact quiet_left (HM.out _))))
  go_wp2
  go_ret
  exact ⟨rfl, below_drewN HB.out _⟩
set_option maxHeartbeats 1000000 in
theorem rdefault_9 (w : World) : Calls Tryd.prog 6 #[.int .i64 9] w fun e w' => e = .returned (.int .i64 207) ∧ Below w.heap.size w w' := by
  have HD := Lib.hid of_DTAI
  have HM := Lib.hid of_RW
  have hc : (w.alloc (.cells #[Value.string ⟨#[]⟩, Value.string ⟨#[75, 71, 89]⟩, Value.string ⟨#[82, 87, 75, 71]⟩, Value.string ⟨#[75, 71]⟩, Value.string ⟨#[82, 87, 83, 80]⟩, Value.string ⟨#[82, 87, 83, 80]⟩, Value.string ⟨#[82, 87, 83, 80]⟩, Value.string ⟨#[83]⟩, Value.string ⟨#[83, 80]⟩, Value.string ⟨#[82, 87]⟩, Value.string ⟨#[87, 83]⟩, Value.string ⟨#[82, 87, 77, 89, 83]⟩] 9)).cell? ⟨w.heap.size, 9, none⟩ = some (.string ⟨#[82, 87]⟩) := by simp
  have HB := Lib.hid ((Below.refl _ w).alloc (Nat.le_refl _) (.cells #[Value.string ⟨#[]⟩, Value.string ⟨#[75, 71, 89]⟩, Value.string ⟨#[82, 87, 75, 71]⟩, Value.string ⟨#[75, 71]⟩, Value.string ⟨#[82, 87, 83, 80]⟩, Value.string ⟨#[82, 87, 83, 80]⟩, Value.string ⟨#[82, 87, 83, 80]⟩, Value.string ⟨#[83]⟩, Value.string ⟨#[83, 80]⟩, Value.string ⟨#[82, 87]⟩, Value.string ⟨#[87, 83]⟩, Value.string ⟨#[82, 87, 77, 89, 83]⟩] 9))
  go_enter Tryd.func6, Tryd.ntmps6
  go_wp2
  generalize w.alloc (.cells #[Value.string ⟨#[]⟩, Value.string ⟨#[75, 71, 89]⟩, Value.string ⟨#[82, 87, 75, 71]⟩, Value.string ⟨#[75, 71]⟩, Value.string ⟨#[82, 87, 83, 80]⟩, Value.string ⟨#[82, 87, 83, 80]⟩, Value.string ⟨#[82, 87, 83, 80]⟩, Value.string ⟨#[83]⟩, Value.string ⟨#[83, 80]⟩, Value.string ⟨#[82, 87]⟩, Value.string ⟨#[87, 83]⟩, Value.string ⟨#[82, 87, 77, 89, 83]⟩] 9) = W at *
  generalize (⟨#[68, 84, 65, 73]⟩ : ByteArray) = s1 at *
  generalize (⟨#[82, 87]⟩ : ByteArray) = s2 at *
  go_quiet ((first | (go_at_call 14; with_reducible exact quiet_left (HD.out _)) | (go_at_call 14; with_reducible exact quiet_left (HM.out _))))
  go_wp2
  go_ret
  exact ⟨rfl, below_drewN HB.out _⟩
set_option maxHeartbeats 1000000 in
theorem rdefault_10 (w : World) : Calls Tryd.prog 6 #[.int .i64 10] w fun e w' => e = .returned (.int .i64 219) ∧ Below w.heap.size w w' := by
  have HD := Lib.hid of_DTAI
  have HM := Lib.hid of_WS
  have hc : (w.alloc (.cells #[Value.string ⟨#[]⟩, Value.string ⟨#[75, 71, 89]⟩, Value.string ⟨#[82, 87, 75, 71]⟩, Value.string ⟨#[75, 71]⟩, Value.string ⟨#[82, 87, 83, 80]⟩, Value.string ⟨#[82, 87, 83, 80]⟩, Value.string ⟨#[82, 87, 83, 80]⟩, Value.string ⟨#[83]⟩, Value.string ⟨#[83, 80]⟩, Value.string ⟨#[82, 87]⟩, Value.string ⟨#[87, 83]⟩, Value.string ⟨#[82, 87, 77, 89, 83]⟩] 9)).cell? ⟨w.heap.size, 10, none⟩ = some (.string ⟨#[87, 83]⟩) := by simp
  have HB := Lib.hid ((Below.refl _ w).alloc (Nat.le_refl _) (.cells #[Value.string ⟨#[]⟩, Value.string ⟨#[75, 71, 89]⟩, Value.string ⟨#[82, 87, 75, 71]⟩, Value.string ⟨#[75, 71]⟩, Value.string ⟨#[82, 87, 83, 80]⟩, Value.string ⟨#[82, 87, 83, 80]⟩, Value.string ⟨#[82, 87, 83, 80]⟩, Value.string ⟨#[83]⟩, Value.string ⟨#[83, 80]⟩, Value.string ⟨#[82, 87]⟩, Value.string ⟨#[87, 83]⟩, Value.string ⟨#[82, 87, 77, 89, 83]⟩] 9))
  go_enter Tryd.func6, Tryd.ntmps6
  go_wp2
  generalize w.alloc (.cells #[Value.string ⟨#[]⟩, Value.string ⟨#[75, 71, 89]⟩, Value.string ⟨#[82, 87, 75, 71]⟩, Value.string ⟨#[75, 71]⟩, Value.string ⟨#[82, 87, 83, 80]⟩, Value.string ⟨#[82, 87, 83, 80]⟩, Value.string ⟨#[82, 87, 83, 80]⟩, Value.string ⟨#[83]⟩, Value.string ⟨#[83, 80]⟩, Value.string ⟨#[82, 87]⟩, Value.string ⟨#[87, 83]⟩, Value.string ⟨#[82, 87, 77, 89, 83]⟩] 9) = W at *
  generalize (⟨#[68, 84, 65, 73]⟩ : ByteArray) = s1 at *
  generalize (⟨#[87, 83]⟩ : ByteArray) = s2 at *
  go_quiet ((first | (go_at_call 14; with_reducible exact quiet_left (HD.out _)) | (go_at_call 14; with_reducible exact quiet_left (HM.out _))))
  go_wp2
  go_ret
  exact ⟨rfl, below_drewN HB.out _⟩
set_option maxHeartbeats 1000000 in
theorem rdefault_11 (w : World) : Calls Tryd.prog 6 #[.int .i64 11] w fun e w' => e = .returned (.int .i64 2527) ∧ Below w.heap.size w w' := by
  have HD := Lib.hid of_DTAI
  have HM := Lib.hid of_RWMYS
  have hc : (w.alloc (.cells #[Value.string ⟨#[]⟩, Value.string ⟨#[75, 71, 89]⟩, Value.string ⟨#[82, 87, 75, 71]⟩, Value.string ⟨#[75, 71]⟩, Value.string ⟨#[82, 87, 83, 80]⟩, Value.string ⟨#[82, 87, 83, 80]⟩, Value.string ⟨#[82, 87, 83, 80]⟩, Value.string ⟨#[83]⟩, Value.string ⟨#[83, 80]⟩, Value.string ⟨#[82, 87]⟩, Value.string ⟨#[87, 83]⟩, Value.string ⟨#[82, 87, 77, 89, 83]⟩] 9)).cell? ⟨w.heap.size, 11, none⟩ = some (.string ⟨#[82, 87, 77, 89, 83]⟩) := by simp
  have HB := Lib.hid ((Below.refl _ w).alloc (Nat.le_refl _) (.cells #[Value.string ⟨#[]⟩, Value.string ⟨#[75, 71, 89]⟩, Value.string ⟨#[82, 87, 75, 71]⟩, Value.string ⟨#[75, 71]⟩, Value.string ⟨#[82, 87, 83, 80]⟩, Value.string ⟨#[82, 87, 83, 80]⟩, Value.string ⟨#[82, 87, 83, 80]⟩, Value.string ⟨#[83]⟩, Value.string ⟨#[83, 80]⟩, Value.string ⟨#[82, 87]⟩, Value.string ⟨#[87, 83]⟩, Value.string ⟨#[82, 87, 77, 89, 83]⟩] 9))
  go_enter Tryd.func6, Tryd.ntmps6
  go_wp2
  generalize w.alloc (.cells #[Value.string ⟨#[]⟩, Value.string ⟨#[75, 71, 89]⟩, Value.string ⟨#[82, 87, 75, 71]⟩, Value.string ⟨#[75, 71]⟩, Value.string ⟨#[82, 87, 83, 80]⟩, Value.string ⟨#[82, 87, 83, 80]⟩, Value.string ⟨#[82, 87, 83, 80]⟩, Value.string ⟨#[83]⟩, Value.string ⟨#[83, 80]⟩, Value.string ⟨#[82, 87]⟩, Value.string ⟨#[87, 83]⟩, Value.string ⟨#[82, 87, 77, 89, 83]⟩] 9) = W at *
  generalize (⟨#[68, 84, 65, 73]⟩ : ByteArray) = s1 at *
  generalize (⟨#[82, 87, 77, 89, 83]⟩ : ByteArray) = s2 at *
  go_quiet ((first | (go_at_call 14; with_reducible exact quiet_left (HD.out _)) | (go_at_call 14; with_reducible exact quiet_left (HM.out _))))
  go_wp2
  go_ret
  exact ⟨rfl, below_drewN HB.out _⟩
theorem rdefault_any (k : Int) (w : World) : Calls Tryd.prog 6 #[.int .i64 k] w fun e w' => e = .returned (.int .i64 (dfl k)) ∧ Below w.heap.size w w' := by
  by_cases h : 1 ≤ k ∧ k ≤ 11
  · obtain ⟨h1, h2⟩ := h
    have hc : k = 1 ∨ k = 2 ∨ k = 3 ∨ k = 4 ∨ k = 5 ∨ k = 6 ∨ k = 7 ∨ k = 8 ∨ k = 9 ∨ k = 10 ∨ k = 11 := by omega
    rcases hc with rfl | rfl | rfl | rfl | rfl | rfl | rfl | rfl | rfl | rfl | rfl
    · exact rdefault_1 w
    · exact rdefault_2 w
    · exact rdefault_3 w
    · exact rdefault_4 w
    · exact rdefault_5 w
    · exact rdefault_6 w
    · exact rdefault_7 w
    · exact rdefault_8 w
    · exact rdefault_9 w
    · exact rdefault_10 w
    · exact rdefault_11 w
  · have hz : dfl k = 0 := if_neg h
    rw [hz]
    have hk : k < 1 ∨ 11 < k := by omega
    clear h hz
    rcases hk with h | h
    all_goals
      go_enter Tryd.func6, Tryd.ntmps6
      go_wp2
      go_ret
      exact ⟨rfl, (Below.refl _ w).alloc (Nat.le_refl _) _⟩
theorem dfl_right_any (k : Int) : rightN (dfl k) = true := by
  by_cases h : 1 ≤ k ∧ k ≤ 11
  · have := dfl_right (q := (k - 1).toNat) (by omega)
    rwa [show (((k - 1).toNat : Nat) : Int) + 1 = k by omega] at this
  · rw [show dfl k = 0 from if_neg h]; decide
end Go.Proofs.YtpkmpenjnbpblaaDoor.Rt
