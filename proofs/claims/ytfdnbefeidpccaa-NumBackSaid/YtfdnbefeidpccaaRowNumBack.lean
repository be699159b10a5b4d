/- The statement NumBack: for every input the law returns true, and each argument reads behind the call as it read before. No condition. -/
import Derived.Test.YtfdnbefeidpccaaRows
import Derived.Test.YtfdnbefeidpccaaNumBack
import Derived.WalkKit
import Derived.ProofKit
import Derived.OpenShut
import Derived.ShutString
import Derived.ChangeOld
import Derived.Below
import Derived.SizedLaws
import Derived.Lib.SmallJoins
namespace Go.Proofs.Ytfdnbefeidpccaa.numBack
open Go.ChangeShapes Go.WideShapes Go.ChangeAt Go.RowKit
open Go.ChangeMaps (open_string shut_string)
set_option linter.unusedVariables false
theorem own : ownKnob Try.prog.godebug = none := by kernel_rfl
set_option maxRecDepth 100000 in
theorem lifted (os : Os) (started : os.Started) (H : Type) (enc : TypeId × Value → H) :
    ReturnsInHanded {} Try.checked os 12 .any (Rows.numBackSpec.pre6 enc Try.prog Try.f12 Rows.numBackRow.domain false) (Rows.numBackSpec.post enc Try.prog Try.f12 false true false false) := by
  refine returnsInHanded_of_change_sized (C := Try.checked) own started (by kernel_rfl) Try.func12
    (ChangeSpec.witness6 (enc := enc) (C := Try.checked) false ⟨#[], #[.int .i64 0, .int .i64 0, .agg #[.int .i64 0, .int .i64 0, .int .i64 0, .int .i64 0]], []⟩ 8 (by kernel_rfl) (by kernel_rfl) (by kernel_rfl) (by kernel_rfl)) ?_
  intro W base args ds gs before hval0 hW hcnd hsz0 _
  have hsz : (DataW.weightsEach Try.prog (Try.f12.params.toList ++ Rows.numBackSpec.plain.varTypes Try.prog) (ds ++ gs)).all (· ≤ reachBytes) = true := hsz0
  have hval : ∀ (j : Nat) t v, Try.f12.params[j]? = some t → args[j]? = some v → Value.okWide Try.prog W .any base t v := hval0
  have hW' := hW
  obtain ⟨p, q, hA0, hV, rfl, hfz, hnd⟩ := hW
  have hA : DataW.TrodAll enc Try.prog W 0 (fun _ => true) true Try.f12.params.toList args.toList ds p := hA0
  rw [Try.params12] at hA hval hsz
  obtain ⟨v0, vs0, d0, ds0, p_0, q0, hargs, rfl, rfl, h0, r0⟩ := trodAll_cons hA
  obtain ⟨v1, vs1, d1, ds1, p_1, q1, rfl, rfl, rfl, h1, r1⟩ := trodAll_cons r0
  obtain ⟨v2, vs2, d2, ds2, p_2, q2, rfl, rfl, rfl, h2, r2⟩ := trodAll_cons r1
  obtain ⟨rfl, rfl, rfl⟩ := trodAll_nil r2
  obtain rfl : args = #[v0, v1, v2] := by cases args; simp_all
  obtain ⟨rfl, rfl⟩ := trodVars_none hV
  obtain ⟨a0, rfl, rfl, rfl, w0⟩ := open_int Try.underlying3 (hval 0 3 v0 rfl rfl) h0
  obtain ⟨a1, rfl, rfl, rfl, w1⟩ := open_int Try.underlying3 (hval 1 3 v1 rfl rfl) h1
  obtain ⟨c0, c1, c2, c3, y0, y1, y2, y3, m, rfl, rfl, rfl, hy0, hy1, hy2, hy3⟩ := Go.Joins.open_agg4 Try.underlying41 (by kernel_rfl) (by kernel_rfl : Try.prog.cellsOf 41 = 4) (hval 2 41 v2 rfl rfl) h2
  obtain ⟨p0, e0, rfl, u0⟩ := DataW.trod_int Try.underlying3 hy0
  simp at e0
  subst e0
  obtain ⟨p1, e1, rfl, u1⟩ := DataW.trod_int Try.underlying3 hy1
  simp at e1
  subst e1
  obtain ⟨p2, e2, rfl, u2⟩ := DataW.trod_int Try.underlying3 hy2
  simp at e2
  subst e2
  obtain ⟨p3, e3, rfl, u3⟩ := DataW.trod_int Try.underlying3 hy3
  simp at e3
  subst e3
  have st2 : ∀ (W' : World) (sp : Nat → Bool), DataW.Trod enc Try.prog W' 0 sp true 41 (.agg #[.int .i64 p0, .int .i64 p1, .int .i64 p2, .int .i64 p3]) (.agg [.lit (.int .i64 p0), .lit (.int .i64 p1), .lit (.int .i64 p2), .lit (.int .i64 p3)]) [] := fun W' sp =>
    Go.Joins.shut_agg4 (y0 := (.lit (.int .i64 p0), [])) (y1 := (.lit (.int .i64 p1), [])) (y2 := (.lit (.int .i64 p2), [])) (y3 := (.lit (.int .i64 p3), [])) Try.underlying41 (by kernel_rfl) (by kernel_rfl) ⟨1, by simp [DataW.trod, Try.underlying3, u0]⟩ ⟨1, by simp [DataW.trod, Try.underlying3, u1]⟩ ⟨1, by simp [DataW.trod, Try.underlying3, u2]⟩ ⟨1, by simp [DataW.trod, Try.underlying3, u3]⟩
  clear hA0 hval0 hsz0 hsz
  refine (Num.back_row a0 w0 a1 w1 p0 p1 p2 p3 u0 u1 u2 u3 W).mono fun e W' ⟨he, bel⟩ => ?_
  subst he
  exact ⟨_, rfl, _, _, _, [], _, [], hW', trodAll_mk1 (shut_bool Try.underlying4 _), (trodAll_cons_mk (shut_int Try.underlying3 w0) (trodAll_cons_mk (shut_int Try.underlying3 w1) (trodAll_cons_mk (st2 _ _) trodAll_mk0))), rfl, bel.frame _, fun h => by cases h⟩
theorem over : Rows.numBackRow.holds Try.pinned (OpenSpec.ofChange Rows.numBackSpec) :=
  OpenClaim.holds_of_wide 12 Try.f12 rfl rfl rfl rfl rfl rfl rfl ⟨rfl, rfl, rfl, rfl, rfl⟩ rfl rfl rfl rfl rfl (by kernel_rfl) Try.func12 (by kernel_rfl)
    (of_decide_eq_true (by kernel_rfl)) (by unfold Func.isWrapper; first | (rw [if_pos (by decide +kernel)]; kernel_rfl) | (rw [if_neg (by decide +kernel)]; exact ⟨rfl, rfl⟩))
    (fun os started H enc _ => lifted os started H enc)
theorem proved : Rows.NumBackSaid := over
#print axioms proved
end Go.Proofs.Ytfdnbefeidpccaa.numBack
namespace Go.Proofs.Ytfdnbefeidpccaa
/-- The row, under a short name, for the claim. -/
theorem numBack_holds : Rows.NumBackSaid := numBack.proved
end Go.Proofs.Ytfdnbefeidpccaa
