/- The statement TasksCritical: for every input the law returns true, and each argument reads behind the call as it read before. No condition. -/
import Derived.Test.YtojmhacafmpbgaaRows
import Derived.Test.YtojmhacafmpbgaaTkCrit
import Derived.WalkKit
import Derived.ProofKit
import Derived.OpenShut
import Derived.ShutString
import Derived.ChangeMaps5
import Derived.ChangeOld
import Derived.Below
import Derived.SizedLaws
import Derived.Lib.SmallJoins
namespace Go.Proofs.Ytojmhacafmpbgaa.tasksCritical
open Go.ChangeShapes Go.WideShapes Go.ChangeAt Go.RowKit
open Go.ChangeMaps (open_string shut_string)
set_option linter.unusedVariables false
theorem own : ownKnob Try.prog.godebug = none := by kernel_rfl
set_option maxRecDepth 100000 in
theorem lifted (os : Os) (started : os.Started) (H : Type) (enc : TypeId × Value → H) :
    ReturnsInHanded {} Try.checked os 4 .any (Rows.tasksCriticalSpec.pre6 enc Try.prog Try.f4 Rows.tasksCriticalRow.domain false) (Rows.tasksCriticalSpec.post enc Try.prog Try.f4 false true false false) := by
  refine returnsInHanded_of_change_sized (C := Try.checked) own started (by kernel_rfl) Try.func4
    (ChangeSpec.witness6 (enc := enc) (C := Try.checked) false ⟨#[], #[.agg #[.int .i64 0, .int .i64 0, .int .i64 0, .bool false]], []⟩ 8 (by kernel_rfl) (by kernel_rfl) (by kernel_rfl) (by kernel_rfl)) ?_
  intro W base args ds gs before hval0 hW hcnd hsz0 _
  have hsz : (DataW.weightsEach Try.prog (Try.f4.params.toList ++ Rows.tasksCriticalSpec.plain.varTypes Try.prog) (ds ++ gs)).all (· ≤ reachBytes) = true := hsz0
  have hval : ∀ (j : Nat) t v, Try.f4.params[j]? = some t → args[j]? = some v → Value.okWide Try.prog W .any base t v := hval0
  have hW' := hW
  obtain ⟨p, q, hA0, hV, rfl, hfz, hnd⟩ := hW
  have hA : DataW.TrodAll enc Try.prog W 0 (fun _ => true) true Try.f4.params.toList args.toList ds p := hA0
  rw [Try.params4] at hA hval hsz
  obtain ⟨v0, vs0, d0, ds0, p_0, q0, hargs, rfl, rfl, h0, r0⟩ := trodAll_cons hA
  obtain ⟨rfl, rfl, rfl⟩ := trodAll_nil r0
  obtain rfl : args = #[v0] := by cases args; simp_all
  obtain ⟨rfl, rfl⟩ := trodVars_none hV
  obtain ⟨c0, c1, c2, c3, y0, y1, y2, y3, m, rfl, rfl, rfl, hy0, hy1, hy2, hy3⟩ := Go.Joins.open_agg4 Try.underlying34 (by kernel_rfl) (by kernel_rfl : Try.prog.cellsOf 34 = 4) (hval 0 34 v0 rfl rfl) h0
  obtain ⟨p0, e0, rfl, u0⟩ := DataW.trod_int Try.underlying3 hy0
  simp at e0
  subst e0
  obtain ⟨p1, e1, rfl, u1⟩ := DataW.trod_int Try.underlying3 hy1
  simp at e1
  subst e1
  obtain ⟨p2, e2, rfl, u2⟩ := DataW.trod_int Try.underlying3 hy2
  simp at e2
  subst e2
  obtain ⟨p3, e3, rfl⟩ := DataW.trod_bool Try.underlying4 hy3
  simp at e3
  subst e3
  have st0 : ∀ (W' : World) (sp : Nat → Bool), DataW.Trod enc Try.prog W' 0 sp true 34 (.agg #[.int .i64 p0, .int .i64 p1, .int .i64 p2, .bool p3]) (.agg [.lit (.int .i64 p0), .lit (.int .i64 p1), .lit (.int .i64 p2), .lit (.bool p3)]) [] := fun W' sp =>
    Go.Joins.shut_agg4 (y0 := (.lit (.int .i64 p0), [])) (y1 := (.lit (.int .i64 p1), [])) (y2 := (.lit (.int .i64 p2), [])) (y3 := (.lit (.bool p3), [])) Try.underlying34 (by kernel_rfl) (by kernel_rfl) ⟨1, by simp [DataW.trod, Try.underlying3, u0]⟩ ⟨1, by simp [DataW.trod, Try.underlying3, u1]⟩ ⟨1, by simp [DataW.trod, Try.underlying3, u2]⟩ ⟨1, by simp [DataW.trod, Try.underlying4]⟩
  clear hA0 hval0 hsz0 hsz
  refine (Tk.crit_row p0 p1 p2 p3 W ).mono fun e W' ⟨he, bel⟩ => ?_
  subst he
  exact ⟨_, rfl, _, _, _, [], _, [], hW', trodAll_mk1 (shut_bool Try.underlying4 _), (trodAll_cons_mk (st0 _ _) trodAll_mk0), rfl, bel.frame _, fun h => by cases h⟩
theorem over : Rows.tasksCriticalRow.holds Try.pinned (OpenSpec.ofChange Rows.tasksCriticalSpec) :=
  OpenClaim.holds_of_wide 4 Try.f4 rfl rfl rfl rfl rfl rfl rfl ⟨rfl, rfl, rfl, rfl, rfl⟩ rfl rfl rfl rfl rfl (by kernel_rfl) Try.func4 (by kernel_rfl)
    (of_decide_eq_true (by kernel_rfl)) (by unfold Func.isWrapper; first | (rw [if_pos (by decide +kernel)]; kernel_rfl) | (rw [if_neg (by decide +kernel)]; exact ⟨rfl, rfl⟩))
    (fun os started H enc _ => lifted os started H enc)
theorem proved : Rows.TasksCriticalSaid := over
#print axioms proved
end Go.Proofs.Ytojmhacafmpbgaa.tasksCritical
namespace Go.Proofs.Ytojmhacafmpbgaa
/-- The row, under a short name, for the claim. -/
theorem tasksCritical_holds : Rows.TasksCriticalSaid := tasksCritical.proved
end Go.Proofs.Ytojmhacafmpbgaa
