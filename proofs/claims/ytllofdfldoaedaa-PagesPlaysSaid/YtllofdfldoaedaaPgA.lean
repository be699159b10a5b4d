/- Contracts of package pages: what a pool is; Within, New, Used, Room. -/
import Derived.Test.YtllofdfldoaedaaOwn2
import Derived.Test.YtllofdfldoaedaaFp
import Derived.Test.YtllofdfldoaedaaAgg
import Derived.Test.YtllofdfldoaedaaProg
import Derived.Deep.QuietTactic
import Derived.BigQuiet
import Derived.ProofKit
namespace Go.Proofs.Ytllofdfldoaedaa.Pg
open Go Go.RowKit Go.Proofs.Ytllofdfldoaedaa.Mem
set_option linter.unusedVariables false
set_option linter.unusedSimpArgs false
/-- A frame: its bytes, its users. -/
structure Fr where
  d : List UInt8
  u : Int
def byteV (c : UInt8) : Value := .int .u8 (c.toNat : Int)
def frC (f : Fr) : List Value := f.d.map byteV ++ [.int .i64 f.u]
def frCs (l : List Fr) : List Value := (l.map frC).flatten
def FrOk (f : Fr) : Prop := f.d.length = 64
theorem frC_len {f : Fr} (h : FrOk f) : (frC f).length = 65 := by simp [frC, show f.d.length = 64 from h]
theorem frC_user {f : Fr} (h : FrOk f) : (frC f)[64]? = some (.int .i64 f.u) := by
  have h64 : f.d.length = 64 := h
  simp [frC, List.getElem?_append, h64]
theorem frC_byte {f : Fr} (h : FrOk f) {j : Nat} (hj : j < 64) : (frC f)[j]? = some (byteV (f.d.getD j 0)) := by
  have h64 : f.d.length = 64 := h
  simp [frC, List.getElem?_append, h64, hj, List.getD]
theorem frCs_len {l : List Fr} (h : ∀ f ∈ l, FrOk f) : (frCs l).length = l.length * 65 := by
  have := flat_len (l.map frC) 65 (by
    intro r hr
    obtain ⟨f, hf, rfl⟩ := List.mem_map.1 hr
    exact frC_len (h f hf))
  simpa [frCs] using this
theorem frCs_at {l : List Fr} (h : ∀ f ∈ l, FrOk f) {i j : Nat} {f : Fr} (hf : l[i]? = some f) (hj : j < 65) : (frCs l)[i * 65 + j]? = (frC f)[j]? :=
  flat_at (l.map frC) 65 i j (frC f) (by
    intro r hr
    obtain ⟨f, hf, rfl⟩ := List.mem_map.1 hr
    exact frC_len (h f hf)) (by simp [hf]) hj
/-- The pool behind the pointer b. -/
structure Pl (w : World) (B b : Nat) (fs : List Fr) (cap used : Int) (sv : Value) : Prop where
  base : B ≤ b
  blk : Blk w b 62 #[sv, .int .i64 cap, .int .i64 used]
  row : w.ownsRow B 66 65 sv fs.length (frCs fs)
  ok : ∀ f ∈ fs, FrOk f
def ft (b : Nat) (sv : Value) (k : Nat) : Prop := k = b ∨ sv.ownBlock = some k
def withinN (at_ n size : Int) : Bool := decide (0 ≤ at_ ∧ 0 ≤ n ∧ at_ ≤ size ∧ n ≤ size - at_)
set_option maxHeartbeats 1000000 in
theorem within_any (at_ n : Int) (hn : -9223372036854775808 ≤ n ∧ n ≤ 9223372036854775807) (w : World) : Calls Try.prog 31 #[.int .i64 at_, .int .i64 n, .int .i64 64] w fun e w' => e = .returned (.bool (withinN at_ n 64)) ∧ w = w' := by
  by_cases h1 : 0 ≤ at_
  · by_cases h2 : 0 ≤ n
    · by_cases h3 : at_ ≤ 64
      · by_cases h4 : n ≤ 64 - at_
        · have HT : Hid (withinN at_ n 64 = true) := Lib.hid (decide_eq_true ⟨h1, h2, h3, h4⟩)
          go_enter Try.func31, Try.ntmps31
          go_wp2
          go_ret
          exact ⟨by rw [HT.out]; rfl, rfl⟩
        · have HT : Hid (withinN at_ n 64 = false) := Lib.hid (decide_eq_false (by omega))
          go_enter Try.func31, Try.ntmps31
          go_wp2
          go_ret
          exact ⟨by rw [HT.out]; rfl, rfl⟩
      · have HT : Hid (withinN at_ n 64 = false) := Lib.hid (decide_eq_false (by omega))
        go_enter Try.func31, Try.ntmps31
        go_wp2
        go_ret
        exact ⟨by rw [HT.out]; rfl, rfl⟩
    · have HT : Hid (withinN at_ n 64 = false) := Lib.hid (decide_eq_false (by omega))
      go_enter Try.func31, Try.ntmps31
      go_wp2
      go_ret
      exact ⟨by rw [HT.out]; rfl, rfl⟩
  · have HT : Hid (withinN at_ n 64 = false) := Lib.hid (decide_eq_false (by omega))
    go_enter Try.func31, Try.ntmps31
    go_wp2
    go_ret
    exact ⟨by rw [HT.out]; rfl, rfl⟩
theorem new_no {cap : Int} (h : cap < 0 ∨ 65536 < cap) (w : World) : Calls Try.prog 9 #[.int .i64 cap] w fun e w' => e = .returned (.pointer none) ∧ w = w' := by
  rcases h with h | h
  all_goals
    go_enter Try.func9, Try.ntmps9
    go_wp2
    go_ret
    exact ⟨rfl, rfl⟩
theorem new_any {cap : Int} (h : 0 ≤ cap ∧ cap ≤ 65536) (w : World) : Calls Try.prog 9 #[.int .i64 cap] w fun e w' => e = .returned (.pointer (some ⟨w.heap.size, 0, none⟩)) ∧ Pl w' w.heap.size w.heap.size [] cap 0 (.slice none 0 0) ∧ Below w.heap.size w w' := by
  obtain ⟨h1, h2⟩ := h
  go_enter Try.func9, Try.ntmps9
  go_wp2
  go_ret
  exact ⟨rfl, ⟨Nat.le_refl _, Blk.new _ _ _, World.ownsRow_nil _ _ _ _, by simp⟩, (Below.refl _ _).alloc (Nat.le_refl _) _⟩
section
variable {w : World} {B b : Nat} {fs : List Fr} {cap used : Int} {sv : Value}
theorem used_any (h : Pl w B b fs cap used sv) : Calls Try.prog 18 #[.pointer (some ⟨b, 0, none⟩)] w fun e w' => e = .returned (.int .i64 used) ∧ w = w' := by
  have c2 : w.cell? ⟨b, 2, none⟩ = some (.int .i64 used) := h.blk.cellv rfl
  clear h
  go_enter Try.func18, Try.ntmps18
  go_wp2
  go_ret
  exact ⟨rfl, rfl⟩
theorem room_any (h : Pl w B b fs cap used sv) (hr : 0 ≤ used ∧ used ≤ cap ∧ cap ≤ 65536) : Calls Try.prog 19 #[.pointer (some ⟨b, 0, none⟩)] w fun e w' => e = .returned (.int .i64 (cap - used)) ∧ ∃ n, w' = w.drewN n := by
  have c1 : w.cell? ⟨b, 1, none⟩ = some (.int .i64 cap) := h.blk.cellv rfl
  have c2 : w.cell? ⟨b, 2, none⟩ = some (.int .i64 used) := h.blk.cellv rfl
  obtain ⟨h1, h2, h3⟩ := hr
  clear h
  go_enter Try.func19, Try.ntmps19
  go_wp2
  go_quiet (fail)
  go_wp2
  go_ret
  exact ⟨rfl, _, rfl⟩
end
end Go.Proofs.Ytllofdfldoaedaa.Pg
