/- The fifo: OnesCount. -/
import Derived.Test.YtaiggfoeobehlaaFfD
namespace Go.Proofs.Ytaiggfoeobehlaa.Ff
open Go Go.RowKit Go.Proofs.Ytaiggfoeobehlaa.Mem
set_option linter.unusedVariables false
set_option linter.unusedSimpArgs false
/-- How many bits are set, as the library reckons it. -/
def oc (n : Int) : Int :=
  let x1 := IntKind.u64.wrap (bits .and .u64 (n / 2) 6148914691236517205 + bits .and .u64 n 6148914691236517205)
  let x2 := IntKind.u64.wrap (bits .and .u64 (x1 / 4) 3689348814741910323 + bits .and .u64 x1 3689348814741910323)
  let x3 := bits .and .u64 (IntKind.u64.wrap (x2 / 16 + x2)) 1085102592571150095
  let x4 := IntKind.u64.wrap (x3 + x3 / 256)
  let x5 := IntKind.u64.wrap (x4 + x4 / 65536)
  let x6 := IntKind.u64.wrap (x5 + x5 / 4294967296)
  bits .and .i64 (wrap64 x6) 127
def pow10 (n : Nat) : Bool := (List.range 11).any fun k => n == 2 ^ k
set_option maxRecDepth 100000 in
theorem oc_pow : ∀ n : Nat, n < 1025 → (oc n == 1) = pow10 n := by
  have h : (List.range 1025).all (fun n => (oc n == 1) == pow10 n) = true := by decide +kernel
  intro n hn
  have := List.all_eq_true.1 h n (List.mem_range.2 hn)
  simpa using this
set_option maxHeartbeats 1000000 in
theorem ones64 (n : Nat) (h : n ≤ 1024) (w : World) : Calls Try.prog 31 #[.int .u64 n] w fun e w' => e = .returned (.int .i64 (oc n)) ∧ w = w' := by
  have h1 : (n : Int) ≤ 1024 := by omega
  go_enter Try.func31, Try.ntmps31
  go_wp2
  go_ret
  exact ⟨rfl, rfl⟩
set_option maxHeartbeats 1000000 in
theorem ones (n : Nat) (h : n ≤ 1024) (w : World) : Calls Try.prog 24 #[.int .u64 n] w fun e w' => e = .returned (.int .i64 (oc n)) ∧ w = w' := by
  have H := Lib.hid (ones64 n h)
  have h1 : (n : Int) ≤ 1024 := by omega
  generalize oc n = v at *
  go_enter Try.func24, Try.ntmps24
  go_wp2_with (first | (go_at_call 31; (with_reducible refine (H.out _).mono ?_); rintro e w1 ⟨rfl, rfl⟩))
  go_ret
  exact ⟨rfl, rfl⟩
end Go.Proofs.Ytaiggfoeobehlaa.Ff
