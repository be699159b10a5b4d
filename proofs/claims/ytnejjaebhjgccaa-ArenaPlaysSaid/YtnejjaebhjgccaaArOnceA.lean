/- The plain law of ArenaOnce: the map and the arena. -/
import Derived.Test.YtnejjaebhjgccaaArK
import Derived.Test.YtnejjaebhjgccaaSep
namespace Go.Proofs.Ytnejjaebhjgccaa.Ar
open Go Go.RowKit Go.Maps Go.Proofs.Ytnejjaebhjgccaa.Mem Go.Proofs.Ytnejjaebhjgccaa.Bits
set_option linter.unusedVariables false
set_option linter.unusedSimpArgs false
/-- The map holds what the arena holds. -/
structure Tied (D : DataW Unit) (sl : List Sl) : Prop where
  tidy : Tidy D
  has : ∀ x : Int, Maps.has D (.int .i64 x) = (findN sl x).isSome
  atk : ∀ x : Int, D.atKey (.int .i64 x) (.lit (.int .i64 0)) = .lit (.int .i64 (getV sl x))
  size : Maps.size D = cntN sl
theorem ikey (x : Int) : WideAt.IsKeyLit (.int .i64 x) := trivial
theorem ine {x y : Int} (h : x ≠ y) : Lit.int .i64 x ≠ Lit.int .i64 y := fun e => h (by injection e)
theorem tied_nil : Tied (.map []) [] := ⟨tidy_empty, fun x => by simp [Maps.has, findN], fun x => by
  have e : Maps.has (DataW.map [] : DataW Unit) (.int .i64 x) = false := rfl
  rw [atKey_of_not_has e]
  simp [getV, findN], rfl⟩
theorem Tied.took {D : DataW Unit} {sl sl' : List Sl} {id v : Int} {k : Nat} (h : Tied D sl) (t : Took sl sl' id v k) : Tied (D.put (.int .i64 id) (.lit (.int .i64 v))) sl' := by
  refine ⟨h.tidy.put (ikey id) _, fun x => ?_, fun x => ?_, ?_⟩
  · rw [t.find x]
    by_cases e : x = id
    · subst e
      rw [has_put_same h.tidy.isMap (ikey x), if_pos rfl]; rfl
    · rw [has_put_other (ine e), if_neg e, h.has]
  · rw [t.val x]
    by_cases e : x = id
    · subst e
      rw [atKey_put_same h.tidy.isMap (ikey x), if_pos rfl]
    · rw [atKey_put_other (ine e), if_neg e, h.atk]
  · rw [size_put h.tidy, h.has, t.fresh, h.size, t.cnt]
    rfl
theorem Tied.freed {D : DataW Unit} {sl sl' : List Sl} {id : Int} (h : Tied D sl) (hf : (findN sl id).isSome = true) (h1 : ∀ x, findN sl' x = if x = id then none else findN sl x) (h2 : ∀ x, getV sl' x = if x = id then 0 else getV sl x) (h3 : cntN sl' + 1 = cntN sl) : Tied (D.del (.int .i64 id)) sl' := by
  refine ⟨h.tidy.del _, fun x => ?_, fun x => ?_, ?_⟩
  · rw [h1 x]
    by_cases e : x = id
    · subst e
      rw [has_del_same, if_pos rfl]; rfl
    · rw [has_del_other (ine e), if_neg e, h.has]
  · rw [h2 x]
    by_cases e : x = id
    · subst e
      rw [atKey_del_same, if_pos rfl]
    · rw [atKey_del_other (ine e), if_neg e, h.atk]
  · have := size_del (k := .int .i64 id) h.tidy
    rw [h.has, hf, h.size] at this
    simp only [if_true] at this
    omega
theorem Tied.gone {D : DataW Unit} {sl : List Sl} {id : Int} (h : Tied D sl) (hf : findN sl id = none) : Tied (D.del (.int .i64 id)) sl := by
  rw [del_of_not_has (by rw [h.has, hf]; rfl)]
  exact h
end Go.Proofs.Ytnejjaebhjgccaa.Ar
