/- Contracts of New, Count, Cap, Get, Has, Set. -/
import Derived.Test.YtnejjaebhjgccaaArB
namespace Go.Proofs.Ytnejjaebhjgccaa.Ar
open Go Go.RowKit Go.Proofs.Ytnejjaebhjgccaa.Mem Go.Proofs.Ytnejjaebhjgccaa.Bits
set_option linter.unusedVariables false
set_option linter.unusedSimpArgs false
theorem findN_some {sl : List Sl} {id : Int} {i : Nat} (h : findN sl id = some i) : 0 ≤ id ∧ i = (id % 65536).toNat ∧ ∃ s, sl[i]? = some s ∧ s.tk = true ∧ s.gen = id / 65536 := by
  unfold findN at h
  split at h
  · split at h
    · rename_i s hs
      split at h
      · rename_i h2
        obtain rfl : (id % 65536).toNat = i := by simpa using h
        exact ⟨by assumption, rfl, s, hs, h2.1, h2.2⟩
      · cases h
    · cases h
  · cases h
section
variable {w w' : World} {B b : Nat} {sl : List Sl} {fr : List Int} {cap cnt : Int} {sv fv : Value}
theorem Arn.drewN (h : Arn w B b sl fr cap cnt sv fv) (n : Nat) : Arn (w.drewN n) B b sl fr cap cnt sv fv := ⟨h.base, h.blk, h.slots, h.free⟩
theorem Arn.upd {F : Nat → Prop} (h : Arn w B b sl fr cap cnt sv fv) (hu : Upd F w w') (hF : ∀ k, ft b sv fv k → ¬ F k) : Arn w' B b sl fr cap cnt sv fv :=
  ⟨h.base, h.blk.upd hu (hF b (.inl rfl)), own_upd h.slots hu (fun g hg => hF g (.inr (.inl hg))), own_upd h.free hu (fun g hg => hF g (.inr (.inr hg)))⟩
theorem Arn.ft_lt (h : Arn w B b sl fr cap cnt sv fv) {k : Nat} (hk : ft b sv fv k) : B ≤ k ∧ k < w.heap.size := by
  rcases hk with rfl | hk | hk
  · exact ⟨h.base, h.blk.lt⟩
  · exact h.slots.lt k hk
  · exact h.free.lt k hk
end
theorem new_none (c : Int) (hc : c < 0 ∨ 65536 < c) (w : World) : Calls Try.prog 9 #[.int .i64 c] w fun e w' => e = .returned (.pointer none) ∧ w = w' := by
  rcases hc with hc | hc
  all_goals
    go_enter Try.func9, Try.ntmps9
    go_wp2
    go_ret
    exact ⟨rfl, rfl⟩
theorem new_some (c : Int) (h0 : 0 ≤ c) (h1 : c ≤ 65536) (w : World) (B : Nat) (hB : B ≤ w.heap.size) : Calls Try.prog 9 #[.int .i64 c] w fun e w' =>
    e = .returned (.pointer (some ⟨w.heap.size, 0, none⟩)) ∧ Arn w' B w.heap.size [] [] c 0 (.slice none 0 0) (.slice none 0 0) ∧ Below w.heap.size w w' := by
  go_enter Try.func9, Try.ntmps9
  go_wp2
  go_ret
  exact ⟨rfl, ⟨hB, Blk.new _ _ _, World.ownsRow_nil _ _ _ _, World.ownsRow_nil _ _ _ _⟩, (Below.refl _ _).alloc (Nat.le_refl _) _⟩
section
variable {w : World} {B b : Nat} {sl : List Sl} {fr : List Int} {cap cnt : Int} {sv fv : Value}
theorem count_any (h : Arn w B b sl fr cap cnt sv fv) : Calls Try.prog 14 #[.pointer (some ⟨b, 0, none⟩)] w fun e w' => e = .returned (.int .i64 cnt) ∧ w = w' := by
  have c0 : w.cell? ⟨b, 3, none⟩ = some (.int .i64 cnt) := h.blk.cellv rfl
  clear h
  go_enter Try.func14, Try.ntmps14
  go_wp2
  go_ret
  exact ⟨rfl, rfl⟩
theorem cap_any (h : Arn w B b sl fr cap cnt sv fv) : Calls Try.prog 30 #[.pointer (some ⟨b, 0, none⟩)] w fun e w' => e = .returned (.int .i64 cap) ∧ w = w' := by
  have c0 : w.cell? ⟨b, 2, none⟩ = some (.int .i64 cap) := h.blk.cellv rfl
  clear h
  go_enter Try.func30, Try.ntmps30
  go_wp2
  go_ret
  exact ⟨rfl, rfl⟩
theorem has_any (h : Arn w B b sl fr cap cnt sv fv) (id : Int) : Calls Try.prog 18 #[.pointer (some ⟨b, 0, none⟩), .int .i64 id] w fun e w' => e = .returned (.bool (findN sl id).isSome) ∧ ∃ n, w' = w.drewN n := by
  have H := Lib.hid (find_any h id)
  clear h
  cases hf : findN sl id
  all_goals
    rw [hf] at H
    simp only [findV] at H
    clear hf
    go_enter Try.func18, Try.ntmps18
    go_wp2_with (first | (go_at_call 31; (with_reducible refine H.out.mono ?_); rintro e w1 ⟨rfl, n, rfl⟩))
    go_ret
    exact ⟨rfl, n, rfl⟩
theorem get_none (h : Arn w B b sl fr cap cnt sv fv) {id : Int} (hf : findN sl id = none) : Calls Try.prog 13 #[.pointer (some ⟨b, 0, none⟩), .int .i64 id] w fun e w' => e = .returned (.tuple #[.int .i64 0, .bool false]) ∧ ∃ n, w' = w.drewN n := by
  have H := Lib.hid (find_any h id)
  clear h
  rw [hf] at H
  simp only [findV] at H
  clear hf
  go_enter Try.func13, Try.ntmps13
  go_wp2_with (first | (go_at_call 31; (with_reducible refine H.out.mono ?_); rintro e w1 ⟨rfl, n, rfl⟩))
  go_ret2
  exact ⟨rfl, n, rfl⟩
theorem get_some (h : Arn w B b sl fr cap cnt sv fv) {id : Int} {i : Nat} {s : Sl} (hf : findN sl id = some i) (hs : sl[i]? = some s) : Calls Try.prog 13 #[.pointer (some ⟨b, 0, none⟩), .int .i64 id] w fun e w' => e = .returned (.tuple #[.int .i64 s.v, .bool true]) ∧ ∃ n, w' = w.drewN n := by
  have hlt : i < sl.length := (List.getElem?_eq_some_iff.1 hs).1
  obtain ⟨g, cp, rfl, hbg, hgl, hnc⟩ := own_form h.slots (by omega)
  have d2 := (h.slots.cellAt (i * 3 + 2) (by omega)).trans (slCs_at sl i 2 s hs (by omega))
  simp only [slC, List.getElem?_cons_zero, List.getElem?_cons_succ] at d2
  have H := Lib.hid (find_any h id)
  clear h
  rw [hf] at H
  simp only [findV, Value.ownBlock, Option.getD_some] at H
  have D : ∀ n, (w.drewN n).cell? ⟨g, i * 3 + 2, none⟩ = some (.int .i64 s.v) := fun n => d2
  clear hf hs d2
  go_enter Try.func13, Try.ntmps13
  go_wp2_with (first | (go_at_call 31; (with_reducible refine H.out.mono ?_); rintro e w1 ⟨rfl, n, rfl⟩; have dn := D n))
  go_ret2
  exact ⟨rfl, n, rfl⟩
end
end Go.Proofs.Ytnejjaebhjgccaa.Ar
