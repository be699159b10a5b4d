/- A range over a function: its contract at this very loop (nothing said of what the iterator keeps); a round of it. -/
import Derived.RangeFuncNested
import Derived.OrdersIn
import Derived.OrdersHeld
import Derived.Deep.Quiet
import Derived.Deep.RegionHeld
namespace Go.Proofs.Ytojmhacafmpbgaa.Mem
open Go Go.RowKit
set_option linter.unusedVariables false
/-- A range over a function, nothing said of what the iterator keeps: its contract at this very loop. -/
theorem wpIn_rangeFunc_here {P : Program} {F : Fence} {n : Nat} {g : Operand} {ps : Array Tmp} {assign body : Code} {Q : Exit → Act → World → Prop} {a : Act} {w : World} {gf : Nat} {lb : Array Value}
    (hro : F.round = none) (hdp : F.depth.isSome = true → 1 ≤ n) (hF : F.fn gf) (hg : a.eval g = .func (.func gf) #[] lb) (eg : ∀ args w, (callFunc gf args).run P w = .ok (.enter gf args) w)
    (h : ∀ (rec : Loop) W1, rec.state = .ready → rec.pending = none → rec.params = ps → rec.tmps = a.tmps → rec.assign = assign → rec.body = body → W1 = (w.alloc (.deferred (some []))).alloc (.loop rec) → CallsIn F (n - 1) P gf (#[.func (.yield (w.heap.size + 1)) #[] #[]] ++ lb) W1 (rangePost F n P (w.heap.size + 1) Q { a with defers := [{ target := .collected w.heap.size, args := #[] }] ++ a.defers })) :
    (Code.rangeFunc g ps assign body).wpIn F n P Q a w := by
  refine wpIn_rangeFunc ?_
  intro fn hfn
  rw [hro]
  have h2 := run_enterLoop_outer (P := P) (w := w) fn a.tmps ps assign body
  have h1 := h _ _ rfl rfl rfl rfl rfl rfl (rfl : (w.alloc (.deferred (some []))).alloc (.loop { state := .ready, pending := none, fn, tmps := a.tmps, params := ps, assign, body, defers := w.heap.size }) = _)
  generalize (w.alloc (.deferred (some []))).alloc (.loop { state := .ready, pending := none, fn, tmps := a.tmps, params := ps, assign, body, defers := w.heap.size }) = W1 at h1 h2
  clear h
  generalize ha : #[Value.func (.yield (w.heap.size + 1)) #[] #[]] ++ lb = args at h1
  refine ⟨w.heap.size + 1, [{ target := .collected w.heap.size, args := #[] }], W1, { target := .fn (.func gf) lb, args := #[.func (.yield (w.heap.size + 1)) #[] #[]] }, W1, gf, args, W1, h2, ?_, ?_, ?_, hdp, h1⟩
  · simp only [resolve, hg]
    simp [go_sem]
  · intro f' hf'
    simp [Target.leads] at hf'
    subst hf'
    exact hF
  · rw [← ha]
    simp [invoke, go_sem, eg]
/-- A round of it: the record is ready; the loop's body is walked while it is busy. -/
theorem yield_here {P : Program} {n l : Nat} {r : Loop} {args : Array Value} {W : World} {R : Ending → World → Prop} (hl : W.heap[l]? = some (.loop r)) (hs : args.size = r.params.size) (hr : r.state = .ready)
    (h : r.assign.wpIn (Fence.wide.inRound l) (n - 1) P (Exit.then (fun a₁ w₁ => ∃ w₂, (Instr.beginRound l).run P w₁ = .ok () w₂ ∧ r.body.wpIn (Fence.wide.inRound l) (n - 1) P (roundPost P l R) a₁ w₂) (fun _ _ _ => False))
      { tmps := ((r.params.zip args).foldl (fun tmps (t, a) => tmps.setIfInBounds t a) r.tmps), defers := [] } W) : YieldAt Fence.wide (n - 1) P l args W R :=
  ⟨r.fn, _, r.assign, r.body, run_yield hl hs, roundIn_of_wpIn trivial h⟩
/-- One operation, in a round's frame. -/
theorem oper_round {P : Program} {n l : Nat} {o : Oper} {a : Act} {w : World} {K : Act → World → Prop} {Q : Exit → Act → World → Prop} (hnd : ∀ c, o.op ≠ .defer c) (h : o.wp P a w K Q) : o.wpIn (Fence.wide.inRound l) n P a w K Q := by
  refine ⟨fun _ _ => trivial, ?_⟩
  rw [Oper.semAt_eq _ _ _ hnd]
  unfold Oper.wp at h
  generalize (execOp a.eval o).run P w = r at *
  cases r with
  | ok x w' =>
    cases x <;> simp only [Oper.upon, Oper.uponIn] at h ⊢
    case enter f args => exact ⟨fun h => (by cases h), CallsIn.inRound l (callsIn_wide.2 h)⟩
    case row r args => exact ⟨fun h => (by cases h), fun c cs _ => (h c cs).elim fun v hv => hv.elim fun w' hw => ⟨v, w', hw.1, stepsIn_wide.2 hw.2⟩⟩
    all_goals first | exact h | exact h.elim
  | halt x w' => cases x <;> simp only [Oper.upon, Oper.uponIn] at h ⊢ <;> first | exact h | exact h.elim
theorem any_round {P : Program} {n l : Nat} {md : Region.Mode} {ops : Array Oper} {Q : Exit → Act → World → Prop} (hnd : ∀ o ∈ ops.toList, ∀ c, o.op ≠ .defer c) (hlo : ¬ LetsOut Q) :
    ∀ (fuel : Nat) (listed : Array Bool) (a : Act) (w : World), wpAny P md ops Q fuel listed a w → wpAnyIn (Fence.wide.inRound l) n P md ops Q fuel listed a w
  | 0, _, _, _, h => h
  | fuel + 1, listed, a, w, h => by
    refine ⟨h.1, fun i hi => ?_⟩
    have h2 := h.2 i hi
    unfold wpOp at h2
    unfold wpOpIn
    cases ho : ops[i]? with
    | none =>
      simp only [ho] at h2
      exact any_round hnd hlo fuel _ _ _ h2
    | some o =>
      simp only [ho] at h2
      have hm : o ∈ ops.toList := by
        have := Array.mem_of_getElem? ho
        simpa using this
      simp only
      by_cases hw : Region.wanted o (yielded ops a.tmps) = true
      · rw [if_pos hw] at h2 ⊢
        rcases h2 with h2 | h2
        · exact Oper.wpIn_mono (fun a w h => any_round hnd hlo fuel _ a w h) (oper_round (hnd o hm) h2)
        · exact (hlo h2.2).elim
      · rw [if_neg hw] at h2 ⊢
        exact ⟨fun _ _ => trivial, any_round hnd hlo fuel _ _ _ h2⟩
/-- Is no operation a defer statement? -/
def noDefer (l : List Oper) : Bool := l.all fun o => match o.op with | .defer _ => false | _ => true
theorem noDefer_spec {l : List Oper} (h : noDefer l = true) : ∀ o ∈ l, ∀ c, o.op ≠ .defer c := fun o ho c e => by
  have := List.all_eq_true.1 h o ho
  rw [e] at this
  cases this
/-- A region that draws, in a round's frame. -/
theorem region_round {P : Program} {id n l : Nat} {L : List Oper} {Q : Exit → Act → World → Prop} {a : Act} {w : World} (hm : P.follows .mixedOrders = true) (hnd : noDefer L = true) (hlo : ¬ LetsOut Q)
    (h : wpAny P .any L.toArray Q L.toArray.size (Array.replicate L.toArray.size false) a w.drew) : (Code.region id L.toArray true).wpIn (Fence.wide.inRound l) n P Q a w :=
  wpIn_region_any hm (any_round (by simpa using noDefer_spec hnd) hlo _ _ _ _ h)
/-- .. whose operations read alone. -/
theorem region_round_quiet {P : Program} {id n l : Nat} {L : List Oper} {Q : Exit → Act → World → Prop} {a : Act} {w : World} (hm : P.follows .mixedOrders = true) (hnd : noDefer L = true) (hlo : ¬ LetsOut Q) (hB : Region.lexB .any L.toArray = true)
    (h : wpQuiet P L.toArray (fun w' => ∃ n, w' = w.drewN n) (fun a' => ∀ w', (∃ n, w' = w.drewN n) → Q .normal a' w') L a) : (Code.region id L.toArray true).wpIn (Fence.wide.inRound l) n P Q a w := by
  simp only [Region.lexB, Bool.and_eq_true] at hB
  refine region_round hm hnd hlo (wpAny_of_quiet (C := fun w' => ∃ n, w' = w.drewN n) (Q := fun a' => ∀ w', (∃ n, w' = w.drewN n) → Q .normal a' w') (fun _ w' hw' h => h w' hw') _ _ _ _ ⟨1, rfl⟩ ?_)
  have := wpAnyQ_lex (C := fun w' => ∃ n, w' = w.drewN n) (md := .any) hB.1 L.toArray.toList 0 (Array.replicate L.toArray.size false) a (by simp) (by simpa using hB.2) (by simpa using h)
  simpa using this
/-- .. with what S holds. -/
theorem region_round_held {P : Program} {id n l : Nat} {L : List Oper} {Q : Exit → Act → World → Prop} {a : Act} {w : World} (S : World → Prop) (hm : P.follows .mixedOrders = true) (hnd : noDefer L = true) (hlo : ¬ LetsOut Q)
    (h : wpAnyH P .any L.toArray Q S L.toArray.size (Array.replicate L.toArray.size false) a w.drew) : (Code.region id L.toArray true).wpIn (Fence.wide.inRound l) n P Q a w :=
  region_round hm hnd hlo (wpAny_of_held _ _ _ _ h)
end Go.Proofs.Ytojmhacafmpbgaa.Mem
