/- The tree of tasks as one object: its methods in the star. -/
import Derived.Test.YtojmhacafmpbgaaTkP
import Derived.Test.YtojmhacafmpbgaaTkI2
import Derived.Test.YtojmhacafmpbgaaTkW3
namespace Go.Proofs.Ytojmhacafmpbgaa.Tk
open Go Go.RowKit Go.Proofs.Ytojmhacafmpbgaa.Mem
set_option linter.unusedVariables false
set_option linter.unusedSimpArgs false
/-- The tree as one object. -/
def TT (b : Nat) (s : Tr) : Asr := ExA fun t : Value × List (Nat × Value) => Grp (tr b s t.1 t.2)
section
variable {w0 w : World} {L : List Asr} {b : Nat} {s : Tr}
theorem erase_take {α : Type} (L : List α) (i : Nat) : L.take i ++ L.drop (i + 1) = L.eraseIdx i := by rw [List.eraseIdx_eq_take_drop_succ]
theorem Star.ttOpen {S : List Asr} (h : Star w0 w (TT b s :: S)) : ∃ t : Value × List (Nat × Value), Star w0 w (tr b s t.1 t.2 ++ S) := Star.exOpen (Q := fun t : Value × List (Nat × Value) => tr b s t.1 t.2) h
theorem Star.ttClose {S : List Asr} (t : Value × List (Nat × Value)) (h : Star w0 w (tr b s t.1 t.2 ++ S)) : Star w0 w (TT b s :: S) :=
  Star.exClose (Q := fun t : Value × List (Nat × Value) => tr b s t.1 t.2) t h
/-- A call on the tree among other objects; new ones may come ahead. -/
theorem tt_call {P : Program} {f : FuncId} {args : Array Value} {R : Ending → List Asr → Tr → Prop} (h : Star w0 w L) (i : Nat) (hi : L[i]? = some (TT b s))
    (hc : ∀ t : Value × List (Nat × Value), Star w0 w (tr b s t.1 t.2 ++ L.eraseIdx i) → Calls P f args w fun e w' => ∃ N s', ∃ t' : Value × List (Nat × Value), R e N s' ∧ Star w0 w' (N ++ (tr b s' t'.1 t'.2 ++ L.eraseIdx i))) :
    Calls P f args w fun e w' => ∃ N s', R e N s' ∧ Star w0 w' (N ++ L.set i (TT b s')) := by
  have h1 := h.front i hi
  rw [erase_take] at h1
  obtain ⟨t, hs⟩ := Star.ttOpen h1
  refine (hc t hs).mono ?_
  rintro e w' ⟨N, s', t', hr, hs'⟩
  refine ⟨N, s', hr, Star.back i hi ?_⟩
  rw [erase_take]
  have h2 : Star w0 w' (tr b s' t'.1 t'.2 ++ (N ++ L.eraseIdx i)) := star_swap hs'
  exact (Star.ttClose t' h2).perm List.perm_middle.symm
theorem tt_same {P : Program} {f : FuncId} {args : Array Value} {R : Ending → Prop} (h : Star w0 w L) (i : Nat) (hi : L[i]? = some (TT b s))
    (hc : ∀ t : Value × List (Nat × Value), Star w0 w (tr b s t.1 t.2 ++ L.eraseIdx i) → Calls P f args w fun e w' => R e ∧ Star w0 w' (tr b s t.1 t.2 ++ L.eraseIdx i)) :
    Calls P f args w fun e w' => R e ∧ Star w0 w' L := by
  refine (tt_call (R := fun e N s' => R e ∧ N = [] ∧ s' = s) h i hi fun t hs => (hc t hs).mono ?_).mono ?_
  · rintro e w' ⟨hr, hs'⟩
    exact ⟨[], s, t, ⟨hr, rfl, rfl⟩, hs'⟩
  · rintro e w' ⟨N, s', ⟨hr, rfl, rfl⟩, hs⟩
    rw [List.nil_append, show L.set i (TT b s') = L from by
      rw [← (List.getElem?_eq_some_iff.1 hi).2]
      exact List.set_getElem_self _] at hs
    exact ⟨hr, hs⟩
theorem new_st (h : Star w0 w L) (most : Nat) (h1 : 1 ≤ most) (h2 : most ≤ 65536) : Calls Try.prog 9 #[.int .i64 most] w fun r w' => r = .returned (.pointer (some ⟨w.heap.size + 1 + 1, 0, none⟩)) ∧ Star w0 w' (TT (w.heap.size + 1 + 1) (newT most) :: L) :=
  (new_any h most h1 h2).mono fun e w' ⟨he, hs⟩ => ⟨he, Star.ttClose (_, _) hs⟩
theorem live_st (h : Star w0 w L) (i : Nat) (hi : L[i]? = some (TT b s)) : Calls Try.prog 13 #[.pointer (some ⟨b, 0, none⟩)] w fun r w' => r = .returned (.int .i64 s.live) ∧ Star w0 w' L :=
  tt_same h i hi fun t hs => (live_any hs).mono fun e w' ⟨he, hw⟩ => ⟨he, hw ▸ hs⟩
theorem count_st (h : Star w0 w L) (i : Nat) (hi : L[i]? = some (TT b s)) : Calls Try.prog 14 #[.pointer (some ⟨b, 0, none⟩)] w fun r w' => r = .returned (.int .i64 s.ts.length) ∧ Star w0 w' L :=
  tt_same h i hi fun t hs => (count_any hs).mono fun e w' ⟨he, hw⟩ => ⟨he, hw ▸ hs⟩
theorem alive_st (h : Star w0 w L) (i : Nat) (hi : L[i]? = some (TT b s)) (id : Int) : Calls Try.prog 16 #[.pointer (some ⟨b, 0, none⟩), .int .i64 id] w fun r w' => r = .returned (.bool (aliveT s id)) ∧ Star w0 w' L :=
  tt_same h i hi fun t hs => (alive_any hs id).mono fun e w' ⟨he, hw⟩ => ⟨he, hw ▸ hs⟩
theorem under_st (h : Star w0 w L) (i : Nat) (hi : L[i]? = some (TT b s)) (hw : WfT s) (id top : Int) : Calls Try.prog 21 #[.pointer (some ⟨b, 0, none⟩), .int .i64 id, .int .i64 top] w fun r w' => r = .returned (.bool (underT s id top)) ∧ Star w0 w' L :=
  tt_same h i hi fun t hs => (under_any hs hw.up id top).mono fun e w' ⟨he, hw⟩ => ⟨he, hw ▸ hs⟩
theorem info_st (h : Star w0 w L) (i : Nat) (hi : L[i]? = some (TT b s)) (id : Int) : Calls Try.prog 19 #[.pointer (some ⟨b, 0, none⟩), .int .i64 id] w fun r w' => r = .returned (.tuple #[.agg (infoC (taskAt s id)), .bool (taskAt s id).isSome]) ∧ Star w0 w' L :=
  tt_same h i hi fun t hs => info_any hs id
theorem below_st (h : Star w0 w L) (i : Nat) (hi : L[i]? = some (TT b s)) (hw : WfT s) (hN : s.ts.length ≤ 1000) (id : Int) : Calls Try.prog 29 #[.pointer (some ⟨b, 0, none⟩), .int .i64 id] w fun r w' => ∃ u, r = .returned u ∧ Star w0 w' (RowO 3 1 u (belowT s id).length (nV (belowT s id)) :: L) := by
  have hl : (belowT s id).length ≤ 65536 := by
    unfold belowT
    cases ht : taskAt s id with
    | none => simp
    | some x =>
      have := hw.blLe (taskAt_get ht)
      simp only
      omega
  refine (tt_call (R := fun e N s' => ∃ u, e = .returned u ∧ N = [RowO 3 1 u (belowT s id).length (nV (belowT s id))] ∧ s' = s) h i hi fun t hs => (below_any hs id hl).mono ?_).mono ?_
  · rintro e w' ⟨u, rfl, hs'⟩
    exact ⟨[_], s, t, ⟨u, rfl, rfl, rfl⟩, hs'⟩
  · rintro e w' ⟨N, s', ⟨u, rfl, rfl, rfl⟩, hs⟩
    rw [show L.set i (TT b s') = L from by
      rw [← (List.getElem?_eq_some_iff.1 hi).2]
      exact List.set_getElem_self _] at hs
    exact ⟨u, rfl, hs⟩
theorem start_st (h : Star w0 w L) (i : Nat) (hi : L[i]? = some (TT b s)) (hw : WfT s) (id : Int) : Calls Try.prog 17 #[.pointer (some ⟨b, 0, none⟩), .int .i64 id] w fun r w' => r = .returned (.int .i64 (startC s id).1) ∧ Star w0 w' (L.set i (TT b (startC s id).2)) := by
  refine (tt_call (R := fun e N s' => e = .returned (.int .i64 (startC s id).1) ∧ N = [] ∧ s' = (startC s id).2) h i hi fun t hs => (start_any hs id (fun x hx h3 => hw.parOf hx (by omega))).mono ?_).mono ?_
  · rintro e w' ⟨rfl, hs'⟩
    exact ⟨[], _, t, ⟨rfl, rfl, rfl⟩, hs'⟩
  · rintro e w' ⟨N, s', ⟨rfl, rfl, rfl⟩, hs⟩
    exact ⟨rfl, hs⟩
theorem make_any {S : List Asr} {t : Value × List (Nat × Value)} (h : Star w0 w (tr b s t.1 t.2 ++ S)) (hw : WfT s) (hN : s.ts.length ≤ 1000) (k parent : Int) : Calls Try.prog 11 #[.pointer (some ⟨b, 0, none⟩), .int .i64 k, .int .i64 parent] w fun r w' => r = .returned (.tuple #[.int .i64 (makeC s k parent).1.1, .int .i64 (makeC s k parent).1.2]) ∧ ∃ t' : Value × List (Nat × Value), Star w0 w' (tr b (makeC s k parent).2 t'.1 t'.2 ++ S) := by
  unfold makeC
  cases ht : taskAt s parent with
  | none => exact (make_none h k parent ht).mono fun e w' ⟨he, hs⟩ => ⟨he, t, hs⟩
  | some x =>
    simp only
    by_cases hm : makeSt s x k = 0
    · rw [if_pos hm]
      obtain ⟨i, rfl, h1, h2, hx⟩ := taskAt_pos ht
      obtain ⟨m1, -⟩ := make_facts hm
      unfold fitsT at m1
      rw [decide_eq_true_eq] at m1
      have hll := hw.liveLe
      have hbl := hw.blLe hx
      have ei : (i : Int) = ((i - 1 : Nat) : Int) + 1 := by omega
      rw [Int.toNat_natCast]
      rcases (by omega : k = 2 ∧ x.kd = 1 ∨ k = 1 ∧ x.kd = 1 ∨ k = 3 ∧ x.kd = 2) with ⟨rfl, hk⟩ | ⟨rfl, hk⟩ | ⟨rfl, hk⟩
      · rw [ei]
        exact (make_ok2 h (i - 1) hx hk hm (by omega) (by omega) (by omega)).mono fun e w' ⟨he, v', ps', hs⟩ => ⟨he, (v', ps'), hs⟩
      · rw [ei]
        exact (make_ok1 h (i - 1) hx hk hm (by omega) (by omega) (by omega)).mono fun e w' ⟨he, v', ps', hs⟩ => ⟨he, (v', ps'), hs⟩
      · obtain ⟨y, hy⟩ := hw.parOf ht (by omega)
        rw [ei]
        exact (make_ok3 h (i - 1) hx hk hy hm (by omega) (by omega) (by omega)).mono fun e w' ⟨he, v', ps', hs⟩ => ⟨he, (v', ps'), hs⟩
    · rw [if_neg hm]
      by_cases hk : x.kd = 2
      · obtain ⟨y, hy⟩ := hw.parOf ht (by omega)
        exact (make_bad2 h k parent ht hk hy hm).mono fun e w' ⟨he, hs⟩ => ⟨he, t, hs⟩
      · exact (make_bad1 h k parent ht hk hm).mono fun e w' ⟨he, hs⟩ => ⟨he, t, hs⟩
theorem make_st (h : Star w0 w L) (i : Nat) (hi : L[i]? = some (TT b s)) (hw : WfT s) (hN : s.ts.length ≤ 1000) (k parent : Int) : Calls Try.prog 11 #[.pointer (some ⟨b, 0, none⟩), .int .i64 k, .int .i64 parent] w fun r w' => r = .returned (.tuple #[.int .i64 (makeC s k parent).1.1, .int .i64 (makeC s k parent).1.2]) ∧ Star w0 w' (L.set i (TT b (makeC s k parent).2)) := by
  refine (tt_call (R := fun e N s' => e = .returned (.tuple #[.int .i64 (makeC s k parent).1.1, .int .i64 (makeC s k parent).1.2]) ∧ N = [] ∧ s' = (makeC s k parent).2) h i hi fun t hs => (make_any hs hw hN k parent).mono ?_).mono ?_
  · rintro e w' ⟨rfl, t', hs'⟩
    exact ⟨[], _, t', ⟨rfl, rfl, rfl⟩, hs'⟩
  · rintro e w' ⟨N, s', ⟨rfl, rfl, rfl⟩, hs⟩
    exact ⟨rfl, hs⟩
/-- Kill: who dies, the tree behind it. -/
def KillR (s : Tr) (id code : Int) (R : Tr × List Nat) : Prop := if killSt s id = 0 then ∃ i : Nat, id = i ∧ ∃ g o, g ≤ 10000000 ∧ dieF code g s [i] [] = some R ∧ Dies code s [i] [] R o else R = (s, [])
theorem kill_runs {s : Tr} (hw : WfT s) (hN : s.ts.length ≤ 1000) (id code : Int) : ∃ R, KillR s id code R := by
  unfold KillR
  by_cases h : killSt s id = 0
  · simp only [if_pos h]
    cases ht : taskAt s id with
    | none =>
      unfold killSt at h
      rw [ht] at h
      cases h
    | some x =>
      obtain ⟨i, rfl, h1, h2, hx⟩ := taskAt_pos ht
      obtain ⟨g, R, o, hg, hR, hD⟩ := die_runs hw hN i h1 h2 code
      exact ⟨R, i, rfl, g, o, hg, hR, hD⟩
  · simp only [if_neg h]
    exact ⟨_, rfl⟩
theorem KillR.wf {s : Tr} {id code : Int} {R : Tr × List Nat} (h : KillR s id code R) (hw : WfT s) : WfT R.1 := by
  unfold KillR at h
  by_cases hk : killSt s id = 0
  · rw [if_pos hk] at h
    obtain ⟨i, -, g, o, -, -, hD⟩ := h
    exact hD.wf
  · rw [if_neg hk] at h
    rw [h]
    exact hw
theorem KillR.len {s : Tr} {id code : Int} {R : Tr × List Nat} (h : KillR s id code R) : R.1.ts.length = s.ts.length := by
  unfold KillR at h
  by_cases hk : killSt s id = 0
  · rw [if_pos hk] at h
    obtain ⟨i, -, g, o, -, -, hD⟩ := h
    rw [hD.ts]
    exact markL_len _ _ _
  · rw [if_neg hk] at h
    rw [h]
def KillM (s : Tr) (id code : Int) (R : Tr × List Nat) : Prop := if killSt s id = 0 then ∃ i : Nat, id = i ∧ ∃ g, g ≤ 10000000 ∧ dieF code g s [i] [] = some R else R = (s, [])
theorem KillR.mem {s : Tr} {id code : Int} {R : Tr × List Nat} (h : KillR s id code R) : KillM s id code R := by
  unfold KillR at h
  unfold KillM
  by_cases hk : killSt s id = 0
  · rw [if_pos hk] at h ⊢
    obtain ⟨i, hi, g, o, hg, hR, -⟩ := h
    exact ⟨i, hi, g, hg, hR⟩
  · rw [if_neg hk] at h ⊢
    exact h
theorem kill_st (h : Star w0 w L) (i : Nat) (hi : L[i]? = some (TT b s)) (id code : Int) (R : Tr × List Nat) (hR : KillM s id code R) : Calls Try.prog 12 #[.pointer (some ⟨b, 0, none⟩), .int .i64 id, .int .i64 code] w fun r w' => ∃ u, r = .returned (.tuple #[u, .int .i64 (killSt s id)]) ∧ Star w0 w' (RowO 3 1 u R.2.length (nV R.2) :: L.set i (TT b R.1)) := by
  refine (tt_call (R := fun e N s' => ∃ u, e = .returned (.tuple #[u, .int .i64 (killSt s id)]) ∧ N = [RowO 3 1 u R.2.length (nV R.2)] ∧ s' = R.1) h i hi fun t hs => ?_).mono ?_
  · unfold KillM at hR
    by_cases hk : killSt s id = 0
    · rw [if_pos hk] at hR
      obtain ⟨j, rfl, g, hg, hR⟩ := hR
      rw [hk]
      refine (kill_ok hs j code hk R g hg hR).mono ?_
      rintro e w' ⟨u, rfl, hs'⟩
      exact ⟨[_], _, t, ⟨u, rfl, rfl, rfl⟩, hs'⟩
    · rw [if_neg hk] at hR
      subst hR
      refine (kill_bad hs id code hk).mono ?_
      rintro e w' ⟨rfl, rfl⟩
      exact ⟨[_], s, t, ⟨_, rfl, rfl, rfl⟩, hs.nilO 3 1⟩
  · rintro e w' ⟨N, s', ⟨u, rfl, rfl, rfl⟩, hs⟩
    exact ⟨u, rfl, hs⟩
theorem crit_st (h : Star w0 w L) (i : Nat) (hi : L[i]? = some (TT b s)) (hw : WfT s) (process job : Int) : Calls Try.prog 15 #[.pointer (some ⟨b, 0, none⟩), .int .i64 process, .int .i64 job] w fun r w' => r = .returned (.int .i64 (critC s process job).1) ∧ Star w0 w' (L.set i (TT b (critC s process job).2)) := by
  refine (tt_call (R := fun e N s' => e = .returned (.int .i64 (critC s process job).1) ∧ N = [] ∧ s' = (critC s process job).2) h i hi fun t hs => ?_).mono ?_
  · cases hp : taskAt s process with
    | none =>
      have hc : critC s process job = (-25, s) := by unfold critC; rw [hp]
      rw [hc]
      refine (crit_none hs process job (.inl hp)).mono ?_
      rintro e w' ⟨rfl, rfl⟩
      exact ⟨[], s, t, ⟨rfl, rfl, rfl⟩, hs⟩
    | some x =>
      cases hj : taskAt s job with
      | none =>
        have hc : critC s process job = (-25, s) := by unfold critC; rw [hp, hj]
        rw [hc]
        refine (crit_none hs process job (.inr hj)).mono ?_
        rintro e w' ⟨rfl, rfl⟩
        exact ⟨[], s, t, ⟨rfl, rfl, rfl⟩, hs⟩
      | some j =>
        have hpos := (taskAt_up hw.up hj).2
        refine (crit_some hs hw.up process job hp hj (by omega)).mono ?_
        rintro e w' ⟨rfl, hs'⟩
        exact ⟨[], _, t, ⟨rfl, rfl, rfl⟩, hs'⟩
  · rintro e w' ⟨N, s', ⟨rfl, rfl, rfl⟩, hs⟩
    exact ⟨rfl, hs⟩
end
end Go.Proofs.Ytojmhacafmpbgaa.Tk
