/- Contracts of package arena (Arena[int]): Slot, Generation; what an arena is. -/
import Derived.Test.YtnejjaebhjgccaaOwn
import Derived.Test.YtnejjaebhjgccaaBits
import Derived.Test.YtnejjaebhjgccaaProg
import Derived.Deep.QuietTactic
import Derived.BigQuiet
import Derived.ProofKit
namespace Go.Proofs.Ytnejjaebhjgccaa.Ar
open Go Go.RowKit Go.Proofs.Ytnejjaebhjgccaa.Mem Go.Proofs.Ytnejjaebhjgccaa.Bits
set_option linter.unusedVariables false
set_option linter.unusedSimpArgs false
theorem and_low16 (x : Int) : bits .and .i64 x 65535 = x % 65536 := by
  have h16 : (BitVec.ofInt 64 65535).toNat = 2 ^ 16 - 1 := by decide
  have key : (BitVec.ofInt 64 x &&& BitVec.ofInt 64 65535).toNat = (x % ((2 ^ 64 : Nat) : Int)).toNat % 2 ^ 16 := by
    rw [BitVec.toNat_and, BitVec.toNat_ofInt, h16, Nat.and_two_pow_sub_one_eq_mod]
  show IntKind.i64.wrap ((BitVec.ofInt 64 x &&& BitVec.ofInt 64 65535).toNat : Nat) = x % 65536
  rw [key, IntKind.wrap_i64]
  omega
def slotN (id : Int) : Int := if id < 0 then -1 else id % 65536
def genN (id : Int) : Int := if id < 0 then -1 else id / 65536
theorem slot_any (id : Int) (w : World) : Calls Try.prog 16 #[.int .i64 id] w fun e w' => e = .returned (.int .i64 (slotN id)) ∧ w = w' := by
  unfold slotN
  by_cases h : id < 0
  · rw [if_pos h]
    go_enter Try.func16, Try.ntmps16
    go_wp2
    go_ret
    exact ⟨rfl, rfl⟩
  · rw [if_neg h]
    have ha := and_low16 id
    go_enter Try.func16, Try.ntmps16
    go_wp2
    go_ret
    exact ⟨rfl, rfl⟩
theorem gen_any (id : Int) (w : World) : Calls Try.prog 17 #[.int .i64 id] w fun e w' => e = .returned (.int .i64 (genN id)) ∧ w = w' := by
  unfold genN
  by_cases h : id < 0
  · rw [if_pos h]
    go_enter Try.func17, Try.ntmps17
    go_wp2
    go_ret
    exact ⟨rfl, rfl⟩
  · rw [if_neg h]
    go_enter Try.func17, Try.ntmps17
    go_wp2
    go_ret
    exact ⟨rfl, rfl⟩
/-- A slot: its generation, whether it is taken, its value. -/
structure Sl where
  gen : Int
  tk : Bool
  v : Int
def slC (s : Sl) : List Value := [.int .i64 s.gen, .bool s.tk, .int .i64 s.v]
def slCs (l : List Sl) : List Value := l.flatMap slC
theorem slCs_len : ∀ l : List Sl, (slCs l).length = l.length * 3
  | [] => rfl
  | s :: l => by
    have := slCs_len l
    simp only [slCs, List.flatMap_cons, List.length_append, List.length_cons] at *
    rw [this]
    simp [slC]
    omega
theorem slCs_at : ∀ (l : List Sl) (i j : Nat) (s : Sl) (hs : l[i]? = some s) (hj : j < 3), (slCs l)[i * 3 + j]? = (slC s)[j]?
  | [], i, j, s, hs, _ => by simp at hs
  | t :: l, 0, j, s, hs, hj => by
    obtain rfl : t = s := by simpa using hs
    simp only [slCs, List.flatMap_cons, Nat.zero_mul, Nat.zero_add]
    rw [List.getElem?_append_left (by simp [slC]; omega)]
  | t :: l, i + 1, j, s, hs, hj => by
    have := slCs_at l i j s (by simpa using hs) hj
    simp only [slCs, List.flatMap_cons] at *
    rw [List.getElem?_append_right (by simp [slC]; omega), show (i + 1) * 3 + j - (slC t).length = i * 3 + j by simp [slC]; omega]
    exact this
def ints (l : List Int) : List Value := l.map (.int .i64)
/-- The arena behind the pointer b: its slots, its free list, its bounds, and its two slices. -/
structure Arn (w : World) (B b : Nat) (sl : List Sl) (fr : List Int) (cap cnt : Int) (sv fv : Value) : Prop where
  base : B ≤ b
  blk : Blk w b 57 #[sv, fv, .int .i64 cap, .int .i64 cnt]
  slots : w.ownsRow B 59 3 sv sl.length (slCs sl)
  free : w.ownsRow B 3 1 fv fr.length (ints fr)
/-- Its blocks. -/
def ft (b : Nat) (sv fv : Value) (k : Nat) : Prop := k = b ∨ sv.ownBlock = some k ∨ fv.ownBlock = some k
end Go.Proofs.Ytnejjaebhjgccaa.Ar
