/- The socket: awake. -/
import Derived.Test.YtfocbpnabgpmpaaSkF
import Derived.Lib.SlBytesConst
namespace Go.Proofs.Ytfocbpnabgpmpaa.Sk
open Go Go.RowKit Go.Proofs.Ytfocbpnabgpmpaa.Mem
set_option linter.unusedVariables false
set_option linter.unusedSimpArgs false
theorem reads_lit (w : World) (e : TypeId) (l : List UInt8) (fz : Nat × Nat) : Reads (w.alloc (.cells (bytesV l).toArray e fz)) (w.heap.size + 1) 1 (some ⟨w.heap.size, 0, none⟩) l.length (bytesV l) :=
  ⟨by rw [bytesV_len]; omega, fun _ => ⟨_, rfl, by show w.heap.size < _; omega, fun j u hu => by
    have e1 : ((⟨w.heap.size, 0, none⟩ : Addr).add j) = ⟨w.heap.size, j, none⟩ := by unfold Addr.add; split <;> simp_all
    have hb : (w.alloc (.cells (bytesV l).toArray e fz)).heap[w.heap.size]? = some (.cells (bytesV l).toArray e fz) := heap_alloc_new w _
    rw [e1, cell_of_row _ _ _ _ _ _ hb]
    simpa using hu⟩⟩
def aw1 : Sd := ⟨false, false, false, [97, 98, 99, 100], []⟩
def awL : Array Value := #[.int .u8 97, .int .u8 98, .int .u8 99, .int .u8 100, .int .u8 101, .int .u8 102]
theorem aw_w : writeS sd0 sd0 false 4 0 [97, 98, 99, 100, 101, 102] = (4, 0, sd0, aw1) := by rfl
theorem aw_r : readS sd0 aw1 1 3 true = ([97, 98, 99], 0, aw1) := by rfl
theorem aw_ok : Ok2 false 4 sd0 aw1 := ⟨SdOk.zero _ _, ⟨by simp [aw1], by simp, by simp [aw1], by simp [aw1]⟩, by omega⟩
set_option maxHeartbeats 2000000 in
theorem awake_any (w : World) : Calls Try.prog 9 #[] w fun e w' => e = .returned (.bool true) ∧ Below w.heap.size w w' := by
  have kc := fun (w : World) (C : Array Value) (n c : Nat) => Lib.run_convert_bytes_const (P := Try.prog) w 27 5 C n c Try.underlying27 Try.underlying5
  have HR1 := Lib.hid (fun W : World => (reads_lit W 5 [97, 98, 99, 100, 101, 102] (6, 7) : Reads (W.alloc (.cells #[.int .u8 97, .int .u8 98, .int .u8 99, .int .u8 100, .int .u8 101, .int .u8 102] 5 (6, 7))) (W.heap.size + 1) 1 (some ⟨W.heap.size, 0, none⟩) 6 (bytesV [97, 98, 99, 100, 101, 102])))
  have hN := new_any (Star.nil w) false 4 (by omega) (by omega)
  rw [show ((4 : Nat) : Int) = 4 from rfl] at hN
  have HN := Lib.hid hN
  clear hN
  have HW1 := Lib.hid (fun (W : World) (h : Star w W [SkA w.heap.size sd0 sd0 false 4]) => write_st (h.alloc (.cells #[.int .u8 97, .int .u8 98, .int .u8 99, .int .u8 100, .int .u8 101, .int .u8 102] 5 (6, 7))) 0 rfl (Ok2.zero false (by omega)) 0 (m := 6) (c := 6) rfl (by simp [maxLen]) (Nat.le_refl _) (HR1.out W))
  have HRd := Lib.hid (fun (W : World) (h : Star w W [SkA w.heap.size sd0 aw1 false 4]) => read_st h 0 rfl aw_ok 1 3 (by omega) true)
  have HL := Lib.hid (fun (W : World) (v : Value) (h : Star w W [RowA 5 1 v 3 (bytesV [97, 98, 99]), SkA w.heap.size sd0 aw1 false 4]) => len_st h 1 rfl 1)
  rw [aw_w] at HW1
  rw [aw_r] at HRd
  rw [show putD sd0 aw1 1 aw1 = (sd0, aw1) from rfl] at HRd
  rw [show lenS sd0 aw1 1 = 4 from rfl, show ((4 : Nat) : Int) = 4 from rfl] at HL
  simp only [List.set_cons_zero] at HW1 HRd
  go_enter Try.func9, Try.ntmps9
  go_wp2_with (first
    | (go_at_call 8; (with_reducible refine HN.out.mono ?_); rintro e w1 ⟨rfl, hs1⟩
       have HS1 := Lib.hid hs1
       clear hs1)
    | (go_at_call 10; (with_reducible refine (HW1.out _ HS1.out).mono ?_); rintro e w2 ⟨rfl, hs2⟩
       have HS2 := Lib.hid hs2
       clear hs2)
    | (go_at_call 11; (with_reducible refine (HRd.out _ HS2.out).mono ?_); rintro e w3 ⟨vo, rfl, hs3⟩
       obtain ⟨A3, c3, rfl⟩ := own_len (hs3.row 0 rfl)
       have hcv : (convert 27 9 (.slice A3 3 c3)).run Try.prog w3 = .ok (.string ⟨#[97, 98, 99]⟩) w3 := conv_bytes (c := c3) (hs3.reads 0 rfl)
       have HS3 := Lib.hid hs3
       clear hs3)
    | (go_at_call 13; (with_reducible refine (HL.out _ _ HS3.out).mono ?_); rintro e w5 ⟨rfl, rfl⟩))
  go_ret
  exact ⟨rfl, HS3.out.below⟩
end Go.Proofs.Ytfocbpnabgpmpaa.Sk
