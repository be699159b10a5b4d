/- The tree of tasks as one object: Exit, SetPolicy. -/
import Derived.Test.YtojmhacafmpbgaaTkRoom
namespace Go.Proofs.Ytojmhacafmpbgaa.Tk
open Go Go.RowKit Go.Proofs.Ytojmhacafmpbgaa.Mem
set_option linter.unusedVariables false
set_option linter.unusedSimpArgs false
/-- Exit: who dies, the tree behind it. -/
def ExitR (s : Tr) (id code : Int) (R : Tr × List Nat) : Prop := if exitSt s id = 0 then
    ∃ i x R1 o1 y, id = (i : Nat) ∧ taskAt s id = some x ∧ (∃ g, g ≤ 10000000 ∧ dieF code g s [i] [] = some R1) ∧ Dies code s [i] [] R1 o1 ∧ taskAt R1.1 x.pa = some y ∧
      (((firstT R1.1 y.bl).isSome = true ∧ R = R1) ∨ (firstT R1.1 y.bl = none ∧ ∃ R2 o2, (∃ g, g ≤ 10000000 ∧ dieF code g R1.1 [x.pa] [] = some R2) ∧ Dies code R1.1 [x.pa] [] R2 o2 ∧ R = (R2.1, R1.2 ++ R2.2)))
  else R = (s, [])
theorem exit_zero {s : Tr} {id : Int} (h : exitSt s id = 0) : ∃ x, taskAt s id = some x ∧ x.kd = 3 ∧ x.st = 1 := by
  unfold exitSt at h
  cases ht : taskAt s id with
  | none => rw [ht] at h; cases h
  | some x =>
    rw [ht] at h
    simp only at h
    by_cases c1 : x.kd ≠ 3
    · rw [if_pos c1] at h
      cases h
    rw [if_neg c1] at h
    by_cases c2 : x.st ≠ 1
    · rw [if_pos c2] at h
      cases h
    exact ⟨x, rfl, by omega, by omega⟩
theorem exit_runs {s : Tr} (hw : WfT s) (hN : s.ts.length ≤ 1000) (id code : Int) : ∃ R, ExitR s id code R := by
  unfold ExitR
  by_cases h : exitSt s id = 0
  · simp only [if_pos h]
    obtain ⟨x, ht, hk, hst⟩ := exit_zero h
    obtain ⟨i, rfl, h1, h2, hx⟩ := taskAt_pos ht
    obtain ⟨g, R1, o1, hg, hR, hD⟩ := die_runs hw hN i h1 h2 code
    obtain ⟨y0, hy0⟩ := hw.parOf ht (by omega)
    obtain ⟨j, hj, j1, j2, hyj⟩ := taskAt_pos hy0
    have hl : R1.1.ts.length = s.ts.length := by rw [hD.ts]; exact markL_len _ _ _
    obtain ⟨y, hy⟩ : ∃ y, taskAt R1.1 x.pa = some y := by
      rw [hj, taskAt_nat j1]
      exact ⟨_, List.getElem?_eq_getElem (by omega)⟩
    cases hf : firstT R1.1 y.bl with
    | some z => exact ⟨R1, i, x, R1, o1, y, rfl, ht, ⟨g, hg, hR⟩, hD, hy, .inl ⟨by rw [hf]; rfl, rfl⟩⟩
    | none =>
      obtain ⟨g2, R2, o2, hg2, hR2, hD2⟩ := die_runs hD.wf (by omega) x.pa (by omega) (by omega) code
      exact ⟨_, i, x, R1, o1, y, rfl, ht, ⟨g, hg, hR⟩, hD, hy, .inr ⟨hf, R2, o2, ⟨g2, hg2, hR2⟩, hD2, rfl⟩⟩
  · simp only [if_neg h]
    exact ⟨_, rfl⟩
theorem ExitR.wf {s : Tr} {id code : Int} {R : Tr × List Nat} (h : ExitR s id code R) (hw : WfT s) : WfT R.1 := by
  unfold ExitR at h
  by_cases hk : exitSt s id = 0
  · rw [if_pos hk] at h
    obtain ⟨i, x, R1, o1, y, -, -, -, hD, -, ⟨-, rfl⟩ | ⟨-, R2, o2, -, hD2, rfl⟩⟩ := h
    · exact hD.wf
    · exact hD2.wf
  · rw [if_neg hk] at h
    rw [h]
    exact hw
theorem ExitR.len {s : Tr} {id code : Int} {R : Tr × List Nat} (h : ExitR s id code R) : R.1.ts.length = s.ts.length := by
  unfold ExitR at h
  by_cases hk : exitSt s id = 0
  · rw [if_pos hk] at h
    obtain ⟨i, x, R1, o1, y, -, -, -, hD, -, ⟨-, rfl⟩ | ⟨-, R2, o2, -, hD2, rfl⟩⟩ := h
    · rw [hD.ts]
      exact markL_len _ _ _
    · show R2.1.ts.length = _
      rw [hD2.ts]
      refine (markL_len _ _ _).trans ?_
      rw [hD.ts]
      exact markL_len _ _ _
  · rw [if_neg hk] at h
    rw [h]
def porT (a : Nat) (b : Int) : Nat := a ||| b.toNat
theorem or_small : ∀ a : Nat, a ≤ 15 → ∀ b : Nat, b ≤ 15 → bits .or .i64 (a : Int) (b : Int) = ((a ||| b : Nat) : Int) ∧ a ||| b ≤ 15 := by
  have h : ∀ a : Fin 16, ∀ b : Fin 16, bits .or .i64 (a.val : Int) (b.val : Int) = ((a.val ||| b.val : Nat) : Int) ∧ a.val ||| b.val ≤ 15 := by decide +kernel
  intro a ha b hb
  exact h ⟨a, by omega⟩ ⟨b, by omega⟩
def polC (s : Tr) (job bs : Int) : Int × Tr := match taskAt s job with
  | none => (polSt s job bs, s)
  | some x => if polSt s job bs = 0 then (0, { s with ts := s.ts.set (job - 1).toNat { x with po := porT x.po bs } }) else (polSt s job bs, s)
theorem pol_zero {s : Tr} {job bs : Int} {x : Tk} (hx : taskAt s job = some x) (h : polSt s job bs = 0) : x.kd = 1 ∧ 0 ≤ bs ∧ bs ≤ 15 ∧ x.st ≠ 2 ∧ firstT s x.bl = none := by
  unfold polSt at h
  rw [hx] at h
  simp only at h
  by_cases c1 : x.kd ≠ 1
  · rw [if_pos c1] at h
    cases h
  rw [if_neg c1] at h
  by_cases c2 : bs < 0 ∨ 15 < bs
  · rw [if_pos c2] at h
    cases h
  rw [if_neg c2] at h
  by_cases c3 : x.st = 2
  · rw [if_pos c3] at h
    cases h
  rw [if_neg c3] at h
  cases hf : firstT s x.bl with
  | some y => rw [hf] at h; cases h
  | none => exact ⟨by omega, by omega, by omega, c3, rfl⟩
theorem WfT.pol {s : Tr} (h : WfT s) (job bs : Int) : WfT (polC s job bs).2 := by
  unfold polC
  cases ht : taskAt s job with
  | none => exact h
  | some x =>
    simp only
    by_cases hp : polSt s job bs = 0
    · rw [if_pos hp]
      obtain ⟨c1, c2, c3, c4, c5⟩ := pol_zero ht hp
      have hx := taskAt_get ht
      obtain ⟨a1, a2, a3, a4, a5, a6, a7, a8⟩ := h.task _ x hx
      refine h.set_ (x' := { x with po := porT x.po bs }) hx rfl rfl rfl rfl Iff.rfl a3 a4 a5 a6 ?_
      obtain ⟨n, rfl⟩ : ∃ n : Nat, bs = n := ⟨bs.toNat, by omega⟩
      exact (or_small x.po a7 n (by omega)).2
    · rw [if_neg hp]
      exact h
section
variable {w0 w : World} {L : List Asr} {b : Nat} {s : Tr}
theorem exit_st (h : Star w0 w L) (i : Nat) (hi : L[i]? = some (TT b s)) (hw : WfT s) (hN : s.ts.length ≤ 1000) (id code : Int) (R : Tr × List Nat) (hR : ExitR s id code R) : Calls Try.prog 18 #[.pointer (some ⟨b, 0, none⟩), .int .i64 id, .int .i64 code] w fun r w' => ∃ u, r = .returned (.tuple #[u, .int .i64 (exitSt s id)]) ∧ Star w0 w' (RowO 3 1 u R.2.length (nV R.2) :: L.set i (TT b R.1)) := by
  refine (tt_call (R := fun e N s' => ∃ u, e = .returned (.tuple #[u, .int .i64 (exitSt s id)]) ∧ N = [RowO 3 1 u R.2.length (nV R.2)] ∧ s' = R.1) h i hi fun t hs => ?_).mono ?_
  · unfold ExitR at hR
    by_cases hk : exitSt s id = 0
    · rw [if_pos hk] at hR
      obtain ⟨j, x, R1, o1, y, rfl, hx, ⟨g1, hg1, hR1⟩, hD, hy, hcase⟩ := hR
      rw [hk]
      obtain ⟨x', hx', k3, k1⟩ := exit_zero hk
      rw [hx] at hx'
      injection hx' with hx'
      subst hx'
      obtain ⟨j', hj', j1, j2, hxi⟩ := taskAt_pos hx
      obtain rfl : j' = j := by omega
      have hll := hw.liveLe
      have hl1 := hD.live
      have ho1 : R1.2.length ≤ 65536 := by rw [hD.tell]; simp only [List.nil_append]; omega
      have hlen1 : R1.1.ts.length = s.ts.length := by rw [hD.ts]; exact markL_len _ _ _
      obtain ⟨x1, hx1, e1, e2, e3⟩ := mark_get' (o := o1) (code := code) hxi
      rw [← hD.ts] at hx1
      have hb := hD.wf.blLe (taskAt_get hy)
      rcases hcase with ⟨hf, rfl⟩ | ⟨hf, R2, o2, ⟨g2, hg2, hR2⟩, hD2, rfl⟩
      · refine (callsIn_wide.1 (exit_in hs j' code hx k3 k1 R g1 hg1 hR1 (x1 := x1) (by rw [taskAt_nat j1]; exact hx1) e3 hy (by omega) R g1 hg1 (fun hn => by rw [hn] at hf; cases hf) ho1 ho1)).mono ?_
        rintro e w' ⟨u, rfl, ⟨-, hs'⟩ | ⟨hn, -⟩⟩
        · exact ⟨[_], _, t, ⟨u, rfl, rfl, rfl⟩, hs'⟩
        · rw [hn] at hf
          cases hf
      · have hl2 := hD2.live
        have hll2 := hD.wf.liveLe
        have ho2 : R2.2.length ≤ 65536 := by rw [hD2.tell]; simp only [List.nil_append]; omega
        refine (callsIn_wide.1 (exit_in hs j' code hx k3 k1 R1 g1 hg1 hR1 (x1 := x1) (by rw [taskAt_nat j1]; exact hx1) e3 hy (by omega) R2 g2 hg2 (fun _ => hR2) ho1 ho2)).mono ?_
        rintro e w' ⟨u, rfl, ⟨hn, -⟩ | ⟨-, hs'⟩⟩
        · rw [hf] at hn
          cases hn
        · refine ⟨[_], _, t, ⟨u, rfl, rfl, rfl⟩, ?_⟩
          show Star w0 w' (RowO 3 1 u (R1.2 ++ R2.2).length (nV (R1.2 ++ R2.2)) :: _)
          rw [nV_app, List.length_append]
          exact hs'
    · rw [if_neg hk] at hR
      subst hR
      refine (exit_bad hs id code hk).mono ?_
      rintro e w' ⟨rfl, hs'⟩
      exact ⟨[_], s, t, ⟨_, rfl, rfl, rfl⟩, hs'.nilO 3 1⟩
  · rintro e w' ⟨N, s', ⟨u, rfl, rfl, rfl⟩, hs⟩
    exact ⟨u, rfl, hs⟩
theorem pol_st (h : Star w0 w L) (i : Nat) (hi : L[i]? = some (TT b s)) (hw : WfT s) (hN : s.ts.length ≤ 1000) (job bs : Int) : Calls Try.prog 20 #[.pointer (some ⟨b, 0, none⟩), .int .i64 job, .int .i64 bs] w fun r w' => r = .returned (.int .i64 (polC s job bs).1) ∧ Star w0 w' (L.set i (TT b (polC s job bs).2)) := by
  refine (tt_call (R := fun e N s' => e = .returned (.int .i64 (polC s job bs).1) ∧ N = [] ∧ s' = (polC s job bs).2) h i hi fun t hs => ?_).mono ?_
  · by_cases hc : ∃ x, taskAt s job = some x ∧ x.kd = 1 ∧ 0 ≤ bs ∧ bs ≤ 15 ∧ x.st ≠ 2
    · obtain ⟨x, hx, c1, c2, c3, c4⟩ := hc
      obtain ⟨n, rfl⟩ : ∃ n : Nat, bs = n := ⟨bs.toNat, by omega⟩
      have hpo := (hw.task _ x (taskAt_get hx)).2.2.2.2.2.2.1
      have hor := (or_small x.po hpo n (by omega)).1
      have hbl := hw.blLe (taskAt_get hx)
      have hst : polSt s job n = (if (firstT s x.bl).isSome = true then -20 else 0) := by
        unfold polSt
        rw [hx]
        simp only
        rw [if_neg (by omega), if_neg (by omega), if_neg c4]
        cases firstT s x.bl <;> rfl
      refine (callsIn_wide.1 (pol_in hs job n hx c1 c2 c3 c4 (by omega) _ hor)).mono ?_
      rintro e w' (⟨hf, rfl, hs'⟩ | ⟨hf, rfl, hs'⟩)
      · cases hff : firstT s x.bl with
        | none => rw [hff] at hf; cases hf
        | some y =>
          rw [hff, if_pos (by simp)] at hst
          have e : polC s job n = (-20, s) := by
            unfold polC
            rw [hx]
            simp only
            rw [if_neg (by rw [hst]; decide), hst]
          rw [e]
          exact ⟨[], s, t, ⟨rfl, rfl, rfl⟩, hs'⟩
      · rw [hf, if_neg (by simp)] at hst
        have e : polC s job n = (0, { s with ts := s.ts.set (job - 1).toNat { x with po := porT x.po n } }) := by
          unfold polC
          rw [hx]
          simp only
          rw [if_pos hst]
        rw [e]
        exact ⟨[], _, t, ⟨rfl, rfl, rfl⟩, hs'⟩
    · have hno : ∀ x, taskAt s job = some x → x.kd = 1 → 0 ≤ bs → bs ≤ 15 → x.st ≠ 2 → False := fun x h1 h2 h3 h4 h5 => hc ⟨x, h1, h2, h3, h4, h5⟩
      have e : polC s job bs = (polSt s job bs, s) := by
        unfold polC
        cases hx : taskAt s job with
        | none => rfl
        | some x =>
          simp only
          by_cases hz : polSt s job bs = 0
          · obtain ⟨c1, c2, c3, c4, -⟩ := pol_zero hx hz
            exact (hno x hx c1 c2 c3 c4).elim
          · rw [if_neg hz]
      rw [e]
      refine (pol_bad hs job bs hno).mono ?_
      rintro r w' ⟨rfl, hs'⟩
      exact ⟨[], s, t, ⟨rfl, rfl, rfl⟩, hs'⟩
  · rintro e w' ⟨N, s', ⟨rfl, rfl, rfl⟩, hs⟩
    exact ⟨rfl, hs⟩
end
end Go.Proofs.Ytojmhacafmpbgaa.Tk
