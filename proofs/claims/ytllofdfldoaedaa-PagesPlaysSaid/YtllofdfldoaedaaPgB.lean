/- Contracts of package pages: find, Users. -/
import Derived.Test.YtllofdfldoaedaaPgA
namespace Go.Proofs.Ytllofdfldoaedaa.Pg
open Go Go.RowKit Go.Proofs.Ytllofdfldoaedaa.Mem
set_option linter.unusedVariables false
set_option linter.unusedSimpArgs false
section
variable {w : World} {B b : Nat} {fs : List Fr} {cap used : Int} {sv : Value}
/-- The users of a frame; 0: it is none. -/
def usersN (fs : List Fr) (f : Int) : Int := if 0 ≤ f then (fs[f.toNat]?).elim 0 (·.u) else 0
theorem Pl.user {g cp : Nat} (h : Pl w B b fs cap used (.slice (some ⟨g, 0, none⟩) fs.length cp)) {k : Nat} {x : Fr} (hx : fs[k]? = some x) : w.cell? ⟨g, k * 65 + 64, none⟩ = some (.int .i64 x.u) := by
  have hlt : k < fs.length := (List.getElem?_eq_some_iff.1 hx).1
  rw [h.row.cellAt (k * 65 + 64) (by omega), frCs_at h.ok hx (by omega), frC_user (h.ok x (List.mem_of_getElem? hx))]
set_option maxHeartbeats 1000000 in
theorem find_none (h : Pl w B b fs cap used sv) {f : Int} (hn : usersN fs f = 0) : Calls Try.prog 30 #[.pointer (some ⟨b, 0, none⟩), .int .i64 f] w fun e w' => e = .returned (.pointer none) ∧ w = w' := by
  have c0 : w.cell? ⟨b, 0, none⟩ = some sv := h.blk.cellv rfl
  obtain ⟨A, c, hsv⟩ := own_len h.row
  by_cases h0 : f < 0
  · subst hsv
    clear h hn
    go_enter Try.func30, Try.ntmps30
    go_wp2
    go_ret
    exact ⟨rfl, rfl⟩
  · obtain ⟨k, rfl⟩ : ∃ k : Nat, f = k := ⟨f.toNat, by omega⟩
    by_cases hlt : k < fs.length
    · obtain ⟨g, cp, rfl, hbg, hgl, hnc⟩ := own_form h.row (by omega)
      obtain ⟨x, hx⟩ : ∃ x, fs[k]? = some x := ⟨_, List.getElem?_eq_getElem hlt⟩
      have hu : x.u = 0 := by
        unfold usersN at hn
        rw [if_pos (by omega), Int.toNat_natCast, hx] at hn
        exact hn
      have hc := h.user hx
      rw [hu] at hc
      clear h hn hu hx hsv
      go_enter Try.func30, Try.ntmps30
      go_wp2
      go_ret
      exact ⟨rfl, rfl⟩
    · subst hsv
      clear h hn
      go_enter Try.func30, Try.ntmps30
      go_wp2
      go_ret
      exact ⟨rfl, rfl⟩
set_option maxHeartbeats 1000000 in
theorem find_some {g cp : Nat} (h : Pl w B b fs cap used (.slice (some ⟨g, 0, none⟩) fs.length cp)) {k : Nat} {x : Fr} (hx : fs[k]? = some x) (hu : x.u ≠ 0) : Calls Try.prog 30 #[.pointer (some ⟨b, 0, none⟩), .int .i64 k] w fun e w' => e = .returned (.pointer (some ⟨g, k * 65, none⟩)) ∧ w = w' := by
  have c0 : w.cell? ⟨b, 0, none⟩ = some (.slice (some ⟨g, 0, none⟩) fs.length cp) := h.blk.cellv rfl
  have hlt : k < fs.length := (List.getElem?_eq_some_iff.1 hx).1
  have hc := h.user hx
  have z1 : (x.u == 0) = false := beq_eq_false_iff_ne.mpr hu
  clear h hx hu
  generalize x.u = u at *
  go_enter Try.func30, Try.ntmps30
  go_wp2
  go_ret
  exact ⟨rfl, rfl⟩
end
end Go.Proofs.Ytllofdfldoaedaa.Pg
