/- Contracts of Set and Free. -/
import Derived.Test.YtnejjaebhjgccaaArC
namespace Go.Proofs.Ytnejjaebhjgccaa.Ar
open Go Go.RowKit Go.Proofs.Ytnejjaebhjgccaa.Mem Go.Proofs.Ytnejjaebhjgccaa.Bits
set_option linter.unusedVariables false
set_option linter.unusedSimpArgs false
theorem slCs_set : ∀ (l : List Sl) (i j : Nat) (s s' : Sl) (u : Value) (hs : l[i]? = some s) (hj : j < 3) (h : (slC s).set j u = slC s'), (slCs l).set (i * 3 + j) u = slCs (l.set i s')
  | [], i, j, s, s', u, hs, _, _ => by simp at hs
  | t :: l, 0, j, s, s', u, hs, hj, h => by
    obtain rfl : t = s := by simpa using hs
    simp only [slCs, List.flatMap_cons, Nat.zero_mul, Nat.zero_add, List.set_cons_zero]
    rw [List.set_append_left _ _ (by simp [slC]; omega), h]
  | t :: l, i + 1, j, s, s', u, hs, hj, h => by
    have := slCs_set l i j s s' u (by simpa using hs) hj h
    simp only [slCs, List.flatMap_cons, List.set_cons_succ] at *
    rw [List.set_append_right _ _ (by simp [slC]; omega), show (i + 1) * 3 + j - (slC t).length = i * 3 + j by simp [slC]; omega, this]
theorem own_far {w : World} {base : Nat} {e : TypeId} {size n : Nat} {v : Value} {xs : List Value} (h : w.ownsRow base e size v n xs) {p : Addr} (hp : v.ownBlock ≠ some p.block) (u : Value) : (w.setCell p u).ownsRow base e size v n xs :=
  own_upd h ((Upd.refl (fun k => k = p.block) w).setCell (fun _ => rfl) u) (fun g hg e => hp (by rw [hg, e]))
section
variable {w : World} {B b : Nat} {sl : List Sl} {fr : List Int} {cap cnt : Int} {fv : Value} {g cp : Nat}
/-- A store into a slot. -/
theorem Arn.store (h : Arn w B b sl fr cap cnt (.slice (some ⟨g, 0, none⟩) sl.length cp) fv) {i j : Nat} {s s' : Sl} {u : Value} (hs : sl[i]? = some s) (hj : j < 3) (hu : (slC s).set j u = slC s') :
    Arn (w.setCell ⟨g, i * 3 + j, none⟩ u) B b (sl.set i s') fr cap cnt (.slice (some ⟨g, 0, none⟩) sl.length cp) fv := by
  have hgb : b ≠ g := fun e => own_blk_ne h.slots h.blk (by decide) (by simp [Value.ownBlock, e])
  refine ⟨h.base, h.blk.far (p := ⟨g, i * 3 + j, none⟩) hgb u, ?_, own_far h.free (p := ⟨g, i * 3 + j, none⟩) (fun e => own_own_ne h.free h.slots (by decide) e (by simp [Value.ownBlock])) u⟩
  have := (h.slots.stored (i * 3 + j) u).1
  rw [slCs_set sl i j s s' u hs hj hu] at this
  simpa using this
/-- A store into the struct's two counts, or its slices. -/
theorem Arn.cnt_ {sv : Value} (h : Arn w B b sl fr cap cnt sv fv) (c : Int) : Arn (w.setCell ⟨b, 3, none⟩ (.int .i64 c)) B b sl fr cap c sv fv :=
  ⟨h.base, h.blk.setv 3 _ rfl, own_far h.slots (p := ⟨b, 3, none⟩) (own_blk_ne h.slots h.blk (by decide)) _, own_far h.free (p := ⟨b, 3, none⟩) (own_blk_ne h.free h.blk (by decide)) _⟩
end
section
variable {w : World} {B b : Nat} {sl : List Sl} {fr : List Int} {cap cnt : Int} {sv fv : Value}
theorem set_none (h : Arn w B b sl fr cap cnt sv fv) {id : Int} (v : Int) (hf : findN sl id = none) : Calls Try.prog 12 #[.pointer (some ⟨b, 0, none⟩), .int .i64 id, .int .i64 v] w fun e w' => e = .returned (.int .i64 (-25)) ∧ ∃ n, w' = w.drewN n := by
  have H := Lib.hid (find_any h id)
  clear h
  rw [hf] at H
  simp only [findV] at H
  clear hf
  go_enter Try.func12, Try.ntmps12
  go_wp2_with (first | (go_at_call 31; (with_reducible refine H.out.mono ?_); rintro e w1 ⟨rfl, n, rfl⟩))
  go_ret
  exact ⟨rfl, n, rfl⟩
theorem set_some (h : Arn w B b sl fr cap cnt sv fv) {id : Int} {i : Nat} {s : Sl} (v : Int) (hf : findN sl id = some i) (hs : sl[i]? = some s) : Calls Try.prog 12 #[.pointer (some ⟨b, 0, none⟩), .int .i64 id, .int .i64 v] w fun e w' =>
    e = .returned (.int .i64 0) ∧ Arn w' B b (sl.set i ⟨s.gen, s.tk, v⟩) fr cap cnt sv fv ∧ Upd (ft b sv fv) w w' := by
  have hlt : i < sl.length := (List.getElem?_eq_some_iff.1 hs).1
  obtain ⟨g, cp, rfl, hbg, hgl, hnc⟩ := own_form h.slots (by omega)
  have d2 := (h.slots.cellAt (i * 3 + 2) (by omega)).trans (slCs_at sl i 2 s hs (by omega))
  simp only [slC, List.getElem?_cons_zero, List.getElem?_cons_succ] at d2
  have H := Lib.hid (find_any h id)
  rw [hf] at H
  simp only [findV, Value.ownBlock, Option.getD_some] at H
  have D : ∀ n, (w.drewN n).cell? ⟨g, i * 3 + 2, none⟩ = some (.int .i64 s.v) := fun n => d2
  have E : ∀ n, (w.drewN n).frozen? ⟨g, i * 3 + 2, none⟩ = false := fun n => h.slots.frozenAt _
  have HS := Lib.hid (fun n => (h.drewN n).store (s' := ⟨s.gen, s.tk, v⟩) hs (j := 2) (by omega) (u := .int .i64 v) rfl)
  clear hf hs d2 h
  go_enter Try.func12, Try.ntmps12
  go_wp2_with (first | (go_at_call 31; (with_reducible refine H.out.mono ?_); rintro e w1 ⟨rfl, n, rfl⟩; have dn := D n; have en := E n))
  go_ret
  exact ⟨rfl, HS.out n, ((Upd.refl _ _).drewN n).setCell (fun _ => .inr (.inl rfl)) _⟩
end
end Go.Proofs.Ytnejjaebhjgccaa.Ar
