/- The statement SignalChanges: for every input the law returns true, and each argument reads behind the call as it read before. No condition. -/
import Derived.Test.YtdcdmbamloebfaaRows
import Derived.Test.YtdcdmbamloebfaaSigRowC
import Derived.WalkKit
import Derived.ProofKit
import Derived.OpenShut
import Derived.ShutString
import Derived.ChangeOld
import Derived.Below
import Derived.SizedLaws
import Derived.Lib.SmallJoins
namespace Go.Proofs.Ytdcdmbamloebfaa.signalChanges
open Go.ChangeShapes Go.WideShapes Go.ChangeAt Go.RowKit
open Go.ChangeMaps (open_string shut_string)
set_option linter.unusedVariables false
theorem own : ownKnob Try.prog.godebug = none := by kernel_rfl
set_option maxRecDepth 100000 in
theorem lifted (os : Os) (started : os.Started) (H : Type) (enc : TypeId × Value → H) :
    ReturnsInHanded {} Try.checked os 3 .any (Rows.signalChangesSpec.pre6 enc Try.prog Try.f3 Rows.signalChangesRow.domain false) (Rows.signalChangesSpec.post enc Try.prog Try.f3 false true false false) := by
  refine returnsInHanded_of_change_sized (C := Try.checked) own started (by kernel_rfl) Try.func3
    (ChangeSpec.witness6 (enc := enc) (C := Try.checked) false ⟨#[], #[.agg #[.int .i64 0, .int .i64 0, .int .i64 0, .int .i64 0]], []⟩ 8 (by kernel_rfl) (by kernel_rfl) (by kernel_rfl) (by kernel_rfl)) ?_
  intro W base args ds gs before hval0 hW hcnd hsz0 _
  have hsz : (DataW.weightsEach Try.prog (Try.f3.params.toList ++ Rows.signalChangesSpec.plain.varTypes Try.prog) (ds ++ gs)).all (· ≤ reachBytes) = true := hsz0
  have hval : ∀ (j : Nat) t v, Try.f3.params[j]? = some t → args[j]? = some v → Value.okWide Try.prog W .any base t v := hval0
  have hW' := hW
  obtain ⟨p, q, hA0, hV, rfl, hfz, hnd⟩ := hW
  have hA : DataW.TrodAll enc Try.prog W 0 (fun _ => true) true Try.f3.params.toList args.toList ds p := hA0
  rw [Try.params3] at hA hval hsz
  obtain ⟨v0, vs0, d0, ds0, p_0, q0, hargs, rfl, rfl, h0, r0⟩ := trodAll_cons hA
  obtain ⟨rfl, rfl, rfl⟩ := trodAll_nil r0
  obtain rfl : args = #[v0] := by cases args; simp_all
  obtain ⟨rfl, rfl⟩ := trodVars_none hV
  obtain ⟨c0, c1, c2, c3, y0, y1, y2, y3, m, rfl, rfl, rfl, hy0, hy1, hy2, hy3⟩ := Go.Joins.open_agg4 Try.underlying23 (by kernel_rfl) (by kernel_rfl : Try.prog.cellsOf 23 = 4) (hval 0 23 v0 rfl rfl) h0
  obtain ⟨p0, e0, rfl, u0⟩ := DataW.trod_int Try.underlying3 hy0
  simp at e0
  subst e0
  obtain ⟨p1, e1, rfl, u1⟩ := DataW.trod_int Try.underlying3 hy1
  simp at e1
  subst e1
  obtain ⟨p2, e2, rfl, u2⟩ := DataW.trod_int Try.underlying3 hy2
  simp at e2
  subst e2
  obtain ⟨p3, e3, rfl, u3⟩ := DataW.trod_int Try.underlying3 hy3
  simp at e3
  subst e3
  have st0 : ∀ (W' : World) (sp : Nat → Bool), DataW.Trod enc Try.prog W' 0 sp true 23 (.agg #[.int .i64 p0, .int .i64 p1, .int .i64 p2, .int .i64 p3]) (.agg [.lit (.int .i64 p0), .lit (.int .i64 p1), .lit (.int .i64 p2), .lit (.int .i64 p3)]) [] := fun W' sp =>
    Go.Joins.shut_agg4 (y0 := (.lit (.int .i64 p0), [])) (y1 := (.lit (.int .i64 p1), [])) (y2 := (.lit (.int .i64 p2), [])) (y3 := (.lit (.int .i64 p3), [])) Try.underlying23 (by kernel_rfl) (by kernel_rfl) ⟨1, by simp [DataW.trod, Try.underlying3, u0]⟩ ⟨1, by simp [DataW.trod, Try.underlying3, u1]⟩ ⟨1, by simp [DataW.trod, Try.underlying3, u2]⟩ ⟨1, by simp [DataW.trod, Try.underlying3, u3]⟩
  clear hA0 hval0 hsz0 hsz
  refine (Sig.changes_row p0 p1 p2 p3 u0 u1 u2 u3 W).mono fun e W' ⟨he, bel⟩ => ?_
  subst he
  exact ⟨_, rfl, _, _, _, [], _, [], hW', trodAll_mk1 (shut_bool Try.underlying4 _), (trodAll_cons_mk (st0 _ _) trodAll_mk0), rfl, bel.frame _, fun h => by cases h⟩
theorem over : Rows.signalChangesRow.holds Try.pinned (OpenSpec.ofChange Rows.signalChangesSpec) :=
  OpenClaim.holds_of_wide 3 Try.f3 rfl rfl rfl rfl rfl rfl rfl ⟨rfl, rfl, rfl, rfl, rfl⟩ rfl rfl rfl rfl rfl (by kernel_rfl) Try.func3 (by kernel_rfl)
    (of_decide_eq_true (by kernel_rfl)) (by unfold Func.isWrapper; first | (rw [if_pos (by decide +kernel)]; kernel_rfl) | (rw [if_neg (by decide +kernel)]; exact ⟨rfl, rfl⟩))
    (fun os started H enc _ => lifted os started H enc)
theorem proved : Rows.SignalChangesSaid := over
#print axioms proved
end Go.Proofs.Ytdcdmbamloebfaa.signalChanges
namespace Go.Proofs.Ytdcdmbamloebfaa
/-- The row, under a short name, for the claim. -/
theorem signalChanges_holds : Rows.SignalChangesSaid := signalChanges.proved
end Go.Proofs.Ytdcdmbamloebfaa
