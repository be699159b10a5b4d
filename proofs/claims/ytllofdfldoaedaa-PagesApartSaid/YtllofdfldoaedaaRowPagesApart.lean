/- The statement PagesApart: for every input the law returns true, and each argument reads behind the call as it read before. No condition. -/
import Derived.Test.YtllofdfldoaedaaRows
import Derived.Test.YtllofdfldoaedaaPgRows4
import Derived.WalkKit
import Derived.ProofKit
import Derived.OpenShut
import Derived.ShutString
import Derived.ChangeMaps5
import Derived.ChangeOld
import Derived.Below
import Derived.SizedLaws
import Derived.Lib.SmallJoins
import Derived.Test.YtllofdfldoaedaaArgsB
namespace Go.Proofs.Ytllofdfldoaedaa.pagesApart
open Go.ChangeShapes Go.WideShapes Go.ChangeAt Go.RowKit
open Go.ChangeMaps (open_string shut_string)
set_option linter.unusedVariables false
theorem own : ownKnob Try.prog.godebug = none := by kernel_rfl
theorem laid : laidOutB Try.prog = true := by kernel_rfl
set_option maxRecDepth 100000 in
theorem lifted (os : Os) (started : os.Started) (H : Type) (enc : TypeId × Value → H) :
    ReturnsInHanded {} Try.checked os 6 .any (Rows.pagesApartSpec.pre6 enc Try.prog Try.f6 Rows.pagesApartRow.domain false) (Rows.pagesApartSpec.post enc Try.prog Try.f6 false true false false) := by
  refine returnsInHanded_of_change_sized (C := Try.checked) own started (by kernel_rfl) Try.func6
    (ChangeSpec.witness6 (enc := enc) (C := Try.checked) false ⟨#[], #[.agg #[.slice none 0 0, .slice none 0 0, .int .i64 0, .int .i64 0]], []⟩ 8 (by kernel_rfl) (by kernel_rfl) (by kernel_rfl) (by kernel_rfl)) ?_
  intro W base args ds gs before hval0 hW hcnd hsz0 _
  have hsz : (DataW.weightsEach Try.prog (Try.f6.params.toList ++ Rows.pagesApartSpec.plain.varTypes Try.prog) (ds ++ gs)).all (· ≤ reachBytes) = true := hsz0
  have hval : ∀ (j : Nat) t v, Try.f6.params[j]? = some t → args[j]? = some v → Value.okWide Try.prog W .any base t v := hval0
  have hW' := hW
  obtain ⟨p, q, hA0, hV, rfl, hfz, hnd⟩ := hW
  have hA : DataW.TrodAll enc Try.prog W 0 (fun _ => true) true Try.f6.params.toList args.toList ds p := hA0
  rw [Try.params6] at hA hval hsz
  obtain ⟨v0, vs0, d0, ds0, p_0, q0, hargs, rfl, rfl, h0, r0⟩ := trodAll_cons hA
  obtain ⟨rfl, rfl, rfl⟩ := trodAll_nil r0
  obtain rfl : args = #[v0] := by cases args; simp_all
  obtain ⟨rfl, rfl⟩ := trodVars_none hV
  have hk0 := h0
  have hlt0 : ∀ x ∈ p_0, x.block < W.heap.size := fun x hx => by have := hW'.lt x (by simp [hx]); simpa using this
  obtain ⟨c0, c1, c2, c3, y0, y1, y2, y3, m, rfl, rfl, rfl, hy0, hy1, hy2, hy3⟩ := Go.Joins.open_agg4 Try.underlying45 (by kernel_rfl) (by kernel_rfl : Try.prog.cellsOf 45 = 4) (hval 0 45 v0 rfl rfl) h0
  obtain ⟨A0_0, c0_0, l0_0, rfl, r0_0, m0_0⟩ := Mem.open_bytes_cell Try.underlying22 Try.underlying5 (by kernel_rfl) hy0 (fun x hx => hlt0 x (by simp [hx]))
  obtain ⟨A0_1, c0_1, l0_1, rfl, r0_1, m0_1⟩ := Mem.open_bytes_cell Try.underlying22 Try.underlying5 (by kernel_rfl) hy1 (fun x hx => hlt0 x (by simp [hx]))
  obtain ⟨p2, e2, rfl, u2⟩ := DataW.trod_int Try.underlying3 hy2
  simp at e2
  subst e2
  obtain ⟨p3, e3, rfl, u3⟩ := DataW.trod_int Try.underlying3 hy3
  simp at e3
  subst e3
  clear hA0 hval0 hsz0 hsz
  refine (Pg.apart_row A0_0 c0_0 l0_0 A0_1 c0_1 l0_1 p2 u2 p3 u3 W r0_0 m0_0 r0_1 m0_1).mono fun e W' ⟨he, bel⟩ => ?_
  subst he
  exact ⟨_, rfl, _, _, _, [], _, [], hW', trodAll_mk1 (shut_bool Try.underlying4 _), (trodAll_cons_mk (Below.trod laid (by kernel_rfl) (of_decide_eq_true (by kernel_rfl)) hk0 bel hlt0) trodAll_mk0), rfl, bel.frame _, fun h => by cases h⟩
theorem over : Rows.pagesApartRow.holds Try.pinned (OpenSpec.ofChange Rows.pagesApartSpec) :=
  OpenClaim.holds_of_wide 6 Try.f6 rfl rfl rfl rfl rfl rfl rfl ⟨rfl, rfl, rfl, rfl, rfl⟩ rfl rfl rfl rfl rfl (by kernel_rfl) Try.func6 (by kernel_rfl)
    (of_decide_eq_true (by kernel_rfl)) (by unfold Func.isWrapper; first | (rw [if_pos (by decide +kernel)]; kernel_rfl) | (rw [if_neg (by decide +kernel)]; exact ⟨rfl, rfl⟩))
    (fun os started H enc _ => lifted os started H enc)
theorem proved : Rows.PagesApartSaid := over
#print axioms proved
end Go.Proofs.Ytllofdfldoaedaa.pagesApart
namespace Go.Proofs.Ytllofdfldoaedaa
/-- The row, under a short name, for the claim. -/
theorem pagesApart_holds : Rows.PagesApartSaid := pagesApart.proved
end Go.Proofs.Ytllofdfldoaedaa
