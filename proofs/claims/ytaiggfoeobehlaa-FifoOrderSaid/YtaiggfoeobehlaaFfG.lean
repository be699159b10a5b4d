/- The fifo: New. -/
import Derived.Test.YtaiggfoeobehlaaFfE
namespace Go.Proofs.Ytaiggfoeobehlaa.Ff
open Go Go.RowKit Go.Proofs.Ytaiggfoeobehlaa.Mem
set_option linter.unusedVariables false
set_option linter.unusedSimpArgs false
theorem made_one (z : Value) (n : Nat) : madeCells #[z] n = (List.replicate n z).toArray := by
  refine Array.ext_getElem? fun i => ?_
  by_cases hi : i < n
  · rw [show (madeCells #[z] n)[i]? = some z from by simp [madeCells, hi, Nat.mod_one]]
    simp [hi]
  · rw [show (madeCells #[z] n)[i]? = none from by simp [madeCells]; omega]
    simp [hi]
theorem by_info : (Try.prog.info? 5).map (fun i => (i.zero, i.size, i.bytes)) = some (some (.int .u8 0), 1, 1) := by kernel_rfl
theorem make_b (n : Nat) (hn : n ≤ 65536) (W : World) : (Instr.makeSlice 27 (.int .i64 n) (.int .i64 n)).run Try.prog W = .ok (.slice (some ⟨W.heap.size, 0, none⟩) n n) (W.alloc (.cells (byV (List.replicate n 0)).toArray 5)) := by
  obtain ⟨i0, hi0, hz0, hz1, hz2⟩ := info_parts by_info
  have h := run_make (P := Try.prog) W 27 5 i0 _ Try.underlying27 hi0 hz0 .i64 .i64 n n (by omega) (Int.le_refl _) (by rw [hz2]; omega) (by omega)
  rw [h]
  simp only [Int.toNat_natCast, hz1, Nat.mul_one]
  show Result.ok _ (W.alloc (.cells (madeCells #[.int .u8 0] n) 5)) = _
  rw [made_one]
  simp [byV]
theorem row_at1 {w0 w : World} {A : Asr} {S : List Asr} {l l' : List UInt8} {v : Value} {q : Nat} (h : Star w0 w (A :: RowO 5 1 v q (byV l) :: S)) (hq : q = l'.length) (hl : l = l') : Star w0 w (A :: RowO 5 1 v l'.length (byV l') :: S) := by
  subst hq hl
  exact h
theorem row_at2 {w0 w : World} {A B : Asr} {S : List Asr} {l l' : List UInt8} {v : Value} {q : Nat} (h : Star w0 w (A :: B :: RowO 5 1 v q (byV l) :: S)) (hq : q = l'.length) (hl : l = l') : Star w0 w (A :: B :: RowO 5 1 v l'.length (byV l') :: S) := by
  subst hq hl
  exact h
def zR (n z k j : Nat) : Ring := ⟨false, if j < k then List.replicate (n * z) 0 else [], 0, []⟩
def newK (n z k : Nat) : Fi := ⟨zR n z k 0, zR n z k 1, n, z⟩
set_option maxHeartbeats 2000000 in
theorem new_any {w0 w : World} {L : List Asr} (h : Star w0 w L) (n z : Nat) (hp : pow10 n = true) (hn : n ≤ 1024) (hz : 1 ≤ z) (hz2 : z ≤ 64) (hnz : n * z ≤ 4096) :
    Calls Try.prog 8 #[.int .i64 n, .int .i64 z] w fun r w' => r = .returned (.pointer (some ⟨w.heap.size, 0, none⟩)) ∧ Star w0 w' (FfA w.heap.size (newK n z 2) :: L) := by
  have hoc := oc_pow n (by omega)
  rw [hp] at hoc
  have hoc2 : (oc n != 1) = false := by simpa using hoc
  have HO := Lib.hid (ones n hn)
  have hn1 : 1 ≤ n := by
    rcases Nat.eq_zero_or_pos n with h0 | h0
    · subst h0
      exact absurd hp (by decide)
    · exact h0
  have h5 := ((h.nilO 5 1).nilO 5 1).newBlk 65 (ffC (newK n z 0) (.slice none 0 0, .slice none 0 0))
  have HS := Lib.hid (show Star w0 _ (ff w.heap.size (newK n z 0) (.slice none 0 0, .slice none 0 0) ++ L) from h5)
  obtain ⟨q, eq⟩ : ∃ q, q = n * z := ⟨_, rfl⟩
  have EQ := Lib.hid eq
  have hw : IntKind.i64.wrap ((n : Int) * z) = (q : Int) := by
    rw [IntKind.wrap_i64, ← Int.natCast_mul]
    omega
  have hq : q ≤ 4096 := by omega
  have b1 : (1 : Int) ≤ n := by omega
  have b2 : (n : Int) ≤ 1024 := by omega
  have b3 : (1 : Int) ≤ z := by omega
  have b4 : (z : Int) ≤ 64 := by omega
  have b5 : (q : Int) ≤ 4096 := by omega
  have HM := fun W => make_b q (by omega) W
  generalize oc n = v at *
  clear h h5 hp hoc hnz eq
  go_enter Try.func8, Try.ntmps8
  go_wp2_with (first | (go_at_call 24; (with_reducible refine (HO.out _).mono ?_); rintro e w1 ⟨rfl, rfl⟩))
  go_loopw [37] (fun i wr => ∃ (k : Nat) (t : Value × Value), k ≤ 2 ∧ i = .int .i64 k ∧ Hid (Star w0 wr (ff w.heap.size (newK n z k) t ++ L))) (fun i _ => 2 - (intOf i).toNat)
  case atStart => exact ⟨0, _, by omega, rfl, HS⟩
  case round =>
    clear HS
    obtain ⟨k, t, hk, rfl, HS⟩ := hrel
    have h1 := HS.out.litRow 5 1 (byV (List.replicate q 0)).toArray q (by simp only [maxLen]; omega) (by simp [byV])
    have f1 := (h1.blk 1 rfl).frozen 1
    have f5 := (h1.blk 1 rfl).frozen 5
    have k1 := (h1.blk 1 rfl).cellv (i := 1) rfl
    have k5 := (h1.blk 1 rfl).cellv (i := 5) rfl
    have HL := Lib.hid h1
    clear h1
    have HQ : Hid (byV (List.replicate q 0) = byV (List.replicate (n * z) 0)) := Lib.hid (by rw [EQ.out])
    rcases (by omega : k = 0 ∨ k = 1 ∨ k = 2) with rfl | rfl | rfl
    · have h6 := HL.out.setBlk 1 rfl 1 (.slice (some ⟨wr.heap.size, 0, none⟩) q q)
      have HE := Lib.hid h6
      clear h6
      go_wp2
      go_region
      go_wp2
      go_roundw
      case rel =>
        refine ⟨1, (.slice (some ⟨wr.heap.size, 0, none⟩) q q, t.2), by omega, by go_num, Lib.hid ?_⟩
        have h9 : Star w0 _ (BlkA w.heap.size 65 (ffC (newK n z 1) (.slice (some ⟨wr.heap.size, 0, none⟩) q q, t.2)) :: RowO 5 1 (.slice (some ⟨wr.heap.size, 0, none⟩) q q) q (byV (List.replicate q 0)) :: RowO 5 1 t.2 0 [] :: L) := ((HE.out.pick 2 rfl).tail.pick 1 rfl).toO 1 rfl
        exact star_dr (row_at1 (l' := List.replicate (n * z) 0) h9 (by simp [EQ.out]) (by rw [EQ.out]))
      case measure => simp [intOf]
    · have h6 := HL.out.setBlk 1 rfl 5 (.slice (some ⟨wr.heap.size, 0, none⟩) q q)
      have HE := Lib.hid h6
      clear h6
      go_wp2
      go_region
      go_wp2
      go_roundw
      case rel =>
        refine ⟨2, (t.1, .slice (some ⟨wr.heap.size, 0, none⟩) q q), by omega, by go_num, Lib.hid ?_⟩
        have h9 : Star w0 _ (BlkA w.heap.size 65 (ffC (newK n z 2) (t.1, .slice (some ⟨wr.heap.size, 0, none⟩) q q)) :: RowO 5 1 t.1 (List.replicate (n * z) (0 : UInt8)).length (byV (List.replicate (n * z) 0)) :: RowO 5 1 (.slice (some ⟨wr.heap.size, 0, none⟩) q q) q (byV (List.replicate q 0)) :: L) := (((HE.out.pick 3 rfl).tail.pick 2 rfl).pick 2 rfl).toO 2 rfl
        exact star_dr (row_at2 (l' := List.replicate (n * z) 0) h9 (by simp [EQ.out]) (by rw [EQ.out]))
      case measure => simp [intOf]
    · clear HL HQ
      go_wp2
      go_ret
      exact ⟨rfl, Star.exClose t HS.out⟩
end Go.Proofs.Ytaiggfoeobehlaa.Ff
