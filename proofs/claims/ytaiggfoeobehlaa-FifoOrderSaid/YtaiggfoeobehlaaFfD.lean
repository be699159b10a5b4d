/- The fifo: the bytes of a place (at). -/
import Derived.Test.YtaiggfoeobehlaaFfC
namespace Go.Proofs.Ytaiggfoeobehlaa.Ff
open Go Go.RowKit Go.Proofs.Ytaiggfoeobehlaa.Mem
set_option linter.unusedVariables false
set_option linter.unusedSimpArgs false
/-- A number's low bits are its rest. -/
theorem and_low (x k : Nat) (hx : x < 4611686018427387904) (hk : k ≤ 10) : bits .and .i64 (x : Int) ((2 ^ k : Nat) - 1 : Int) = ((x % 2 ^ k : Nat) : Int) := by
  have h2 : 2 ^ k ≤ 2 ^ 10 := Nat.pow_le_pow_right (by omega) hk
  have h1 : 1 ≤ 2 ^ k := Nat.one_le_two_pow
  have hm : x % 2 ^ k < 2 ^ k := Nat.mod_lt _ (by omega)
  generalize hy : 2 ^ k = y at *
  have e1 : ((y : Int) - 1) = ((y - 1 : Nat) : Int) := by omega
  rw [e1]
  show IntKind.i64.wrap ((BitVec.ofInt 64 (x : Int) &&& BitVec.ofInt 64 ((y - 1 : Nat) : Int)).toNat : Int) = _
  have t1 : (BitVec.ofInt 64 (x : Int)).toNat = x := by rw [BitVec.toNat_ofInt]; omega
  have t2 : (BitVec.ofInt 64 ((y - 1 : Nat) : Int)).toNat = y - 1 := by rw [BitVec.toNat_ofInt]; omega
  rw [BitVec.toNat_and, t1, t2, ← hy, Nat.and_two_pow_sub_one_eq_mod, IntKind.wrap_i64, hy]
  omega
section
variable {w : World}
set_option maxHeartbeats 2000000 in
theorem at_core {bs r g off c fi n z m : Nat} (i k : Nat) (k1 : w.cell? ⟨bs, r + 1, none⟩ = some (.slice (some ⟨g, off, none⟩) m c)) (k2 : w.cell? ⟨bs, r + 2, none⟩ = some (.int .i64 fi)) (k8 : w.cell? ⟨bs, 8, none⟩ = some (.int .i64 n)) (k9 : w.cell? ⟨bs, 9, none⟩ = some (.int .i64 z))
    (hn : n = 2 ^ k) (hk : k ≤ 10) (hz : z ≤ 64) (hz0 : 1 ≤ z) (hm : m = n * z) (hc : m ≤ c) (hf : fi ≤ 100000) (hi : i ≤ 100000) :
    Calls Try.prog 27 #[.pointer (some ⟨bs, 0, none⟩), .pointer (some ⟨bs, r, none⟩), .int .i64 i] w fun e w' => e = .returned (.slice (some ⟨g, off + (fi + i) % n * z, none⟩) z z) ∧ ∃ d, w' = w.drewN d := by
  have ha := and_low (fi + i) k (by omega) hk
  have h2 : 2 ^ k ≤ 2 ^ 10 := Nat.pow_le_pow_right (by omega) hk
  have h1 : 1 ≤ 2 ^ k := Nat.one_le_two_pow
  rw [← hn] at ha h2 h1
  have hmod : (fi + i) % n < n := Nat.mod_lt _ (by omega)
  generalize (fi + i) % n = p at *
  have hpz : (p + 1) * z ≤ n * z := Nat.mul_le_mul_right _ (by omega)
  have hpz2 : p * z ≤ 1024 * 64 := Nat.mul_le_mul (by omega) hz
  rw [Nat.add_mul, Nat.one_mul, ← hm] at hpz
  have ea : ((fi + i : Nat) : Int) = (fi : Int) + i := by omega
  rw [ea] at ha
  have hw : IntKind.i64.wrap ((p : Int) * z) = ((p * z : Nat) : Int) := by
    rw [IntKind.wrap_i64, ← Int.natCast_mul]
    omega
  generalize p * z = q at *
  have b1 : (fi : Int) ≤ 100000 := by omega
  have b2 : (i : Int) ≤ 100000 := by omega
  have b3 : (1 : Int) ≤ n := by omega
  have b4 : (n : Int) ≤ 1024 := by omega
  have b5 : (q : Int) + z ≤ c := by omega
  have b6 : (z : Int) ≤ 64 := by omega
  have b7 : (q : Int) ≤ 65536 := by omega
  have b8 : q + z ≤ c := by omega
  have b9 : q ≤ q + z := by omega
  have HM := Lib.hid hm
  clear hn hm ea hmod h2 hpz2
  go_enter Try.func27, Try.ntmps27
  go_wp2
  go_quiet (fail)
  go_wp2
  obtain ⟨W1, hW1⟩ : ∃ W1, W1 = w.drewN nq := ⟨_, rfl⟩
  have HW1 := Lib.hid hW1
  have k1' : W1.cell? ⟨bs, r + 1, none⟩ = some (.slice (some ⟨g, off, none⟩) m c) := by rw [hW1]; exact k1
  have k9' : W1.cell? ⟨bs, 9, none⟩ = some (.int .i64 z) := by rw [hW1]; exact k9
  rw [← hW1]
  clear hW1
  go_quiet (fail)
  go_wp2
  go_ret
  refine ⟨?_, _, by rw [HW1.out]; exact World.drewN_drewN _ _ _⟩
  show Ending.returned (.slice (some ⟨g, off + q, none⟩) (q + z - q) (q + z - q)) = _
  rw [show q + z - q = z by omega]
end
end Go.Proofs.Ytaiggfoeobehlaa.Ff
