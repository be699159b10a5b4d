/- The tree of tasks in the plain: die ends; who has died. -/
import Derived.Test.YtojmhacafmpbgaaTkW
namespace Go.Proofs.Ytojmhacafmpbgaa.Tk
open Go
set_option linter.unusedVariables false
set_option linter.unusedSimpArgs false
theorem mark_alive {s : Tr} {o : List Nat} {code : Int} {i : Nat} : aliveT (markT s o code) i = true ↔ aliveT s i = true ∧ i ∉ o := by
  rw [alive_nat, alive_nat]
  constructor
  · rintro ⟨x, h1, h2, h3⟩
    have h2' : (markL s.ts o code)[i - 1]? = some x := h2
    rw [markL_get] at h2'
    cases hz : s.ts[i - 1]? with
    | none => rw [hz] at h2'; cases h2'
    | some z =>
      rw [hz, Option.map_some, show i - 1 + 1 = i by omega] at h2'
      injection h2' with h2'
      by_cases hm : i ∈ o
      · rw [if_pos hm] at h2'
        subst h2'
        exact absurd rfl h3
      · rw [if_neg hm] at h2'
        subst h2'
        exact ⟨⟨_, h1, rfl, h3⟩, hm⟩
  · rintro ⟨⟨x, h1, h2, h3⟩, hm⟩
    refine ⟨x, h1, ?_, h3⟩
    show (markL s.ts o code)[i - 1]? = some x
    rw [markL_get, h2, Option.map_some, show i - 1 + 1 = i by omega, if_neg hm]
theorem mark_dead {s : Tr} {o : List Nat} {code : Int} {i : Nat} (h : aliveT s i = false) : aliveT (markT s o code) i = false := by
  cases hh : aliveT (markT s o code) i with
  | false => rfl
  | true => rw [(mark_alive.1 hh).1] at h; cases h
theorem mark_get {s : Tr} {o : List Nat} {code : Int} {i : Nat} {x : Tk} (h : (markT s o code).ts[i]? = some x) : ∃ z, s.ts[i]? = some z ∧ x.bl = z.bl ∧ x.cr = z.cr ∧ x.pa = z.pa := by
  have h' : (markL s.ts o code)[i]? = some x := h
  rw [markL_get] at h'
  cases hz : s.ts[i]? with
  | none => rw [hz] at h'; cases h'
  | some z =>
    rw [hz, Option.map_some] at h'
    injection h' with h'
    subst h'
    refine ⟨z, rfl, ?_, ?_, ?_⟩ <;> (split <;> rfl)
theorem mark_get' {s : Tr} {o : List Nat} {code : Int} {i : Nat} {z : Tk} (h : s.ts[i]? = some z) : ∃ x, (markT s o code).ts[i]? = some x ∧ x.bl = z.bl ∧ x.cr = z.cr ∧ x.pa = z.pa := by
  refine ⟨if i + 1 ∈ o then { z with st := 2, co := code } else z, ?_, ?_, ?_, ?_⟩
  · show (markL s.ts o code)[i]? = _
    rw [markL_get, h]
    rfl
  all_goals (split <;> rfl)
/-- A set of tasks that holds with each what stands below it, and to what it is critical. -/
def Clo (s : Tr) (D : Nat → Prop) : Prop := ∀ i x, 1 ≤ i → s.ts[i - 1]? = some x → D i → (∀ c ∈ x.bl, D c) ∧ (x.cr ≠ 0 → D x.cr)
theorem Clo.mark {s : Tr} {D : Nat → Prop} (h : Clo s D) (o : List Nat) (code : Int) : Clo (markT s o code) D := fun i x h1 hx hD => by
  obtain ⟨z, hz, e1, e2, -⟩ := mark_get hx
  rw [e1, e2]
  exact h i z h1 hz hD
structure Dies (code : Int) (s : Tr) (stk out : List Nat) (R : Tr × List Nat) (o : List Nat) : Prop where
  tell : R.2 = out ++ o
  ts : R.1 = markT s o code
  wf : WfT R.1
  nd : o.Nodup
  al : ∀ i ∈ o, aliveT s (i : Nat) = true
  gone : ∀ i ∈ stk, aliveT R.1 (i : Nat) = false
  clo : ∀ D, Clo s D → (∀ i ∈ stk, D i) → ∀ i ∈ o, D i
  cr : ∀ i ∈ o, ∀ x, s.ts[i - 1]? = some x → x.cr ≠ 0 → aliveT R.1 (x.cr : Nat) = false
  ord : o.Pairwise fun a c => ∀ y, s.ts[c - 1]? = some y → y.pa ≠ a
  live : R.1.live + o.length = s.live
def pot (s : Tr) (stk : List Nat) : Nat := (2 * s.ts.length + 5) * s.live + stk.length + (match stk with
  | [] => 0
  | i :: _ => if aliveT s (i : Nat) = true then 2 * (s.ts.length + 1 - i) else 2 * (s.ts.length + 1) + 1)
theorem first_mem {s : Tr} {l : List Nat} {y : Nat} (h : firstT s l = some y) : y ∈ l ∧ aliveT s (y : Nat) = true := by
  unfold firstT at h
  exact ⟨List.mem_of_find?_eq_some h, by simpa using List.find?_some h⟩
theorem first_none {s : Tr} {l : List Nat} (h : firstT s l = none) : ∀ y ∈ l, aliveT s (y : Nat) = false := by
  unfold firstT at h
  rw [List.find?_eq_none] at h
  intro y hy
  simpa using h y hy
theorem top_le (s : Tr) (stk : List Nat) : (match stk with
  | [] => 0
  | i :: _ => if aliveT s (i : Nat) = true then 2 * (s.ts.length + 1 - i) else 2 * (s.ts.length + 1) + 1) ≤ 2 * (s.ts.length + 1) + 1 := by
  cases stk with
  | nil => exact Nat.zero_le _
  | cons i stk =>
    simp only
    split <;> omega
theorem die_total (code : Int) : ∀ (V : Nat) (s : Tr) (stk out : List Nat), WfT s → s.ts.length ≤ 65536 → (∀ i ∈ stk, 1 ≤ i ∧ i ≤ s.ts.length) → pot s stk ≤ V → ∃ R o, dieF code (V + 1) s stk out = some R ∧ Dies code s stk out R o
  | V, s, [], out, hw, hN, hs, hp => by
    refine ⟨(s, out), [], rfl, ⟨by simp, (mark_nil s code).symm, hw, List.nodup_nil, ?_, ?_, ?_, ?_, List.Pairwise.nil, by simp⟩⟩
    all_goals simp
  | 0, s, i :: stk, out, hw, hN, hs, hp => by
    unfold pot at hp
    simp only [List.length_cons] at hp
    omega
  | V + 1, s, i :: stk, out, hw, hN, hs, hp => by
    obtain ⟨h1, h2⟩ := hs i (by simp)
    obtain ⟨x, hx⟩ : ∃ x, s.ts[i - 1]? = some x := ⟨_, List.getElem?_eq_getElem (by omega)⟩
    have ht : taskAt s (i : Int) = some x := by rw [taskAt_nat h1, hx]
    have hstk : ∀ j ∈ stk, 1 ≤ j ∧ j ≤ s.ts.length := fun j hj => hs j (by simp [hj])
    have htop := top_le s stk
    rw [show V + 1 + 1 = (V + 1) + 1 from rfl]
    unfold dieF
    rw [ht]
    simp only
    unfold pot at hp
    simp only [List.length_cons] at hp
    by_cases hd : x.st = 2
    · rw [if_pos hd]
      have ha : aliveT s (i : Nat) = false := by
        cases hh : aliveT s (i : Nat) with
        | false => rfl
        | true =>
          obtain ⟨z, -, hz, hz2⟩ := alive_nat.1 hh
          rw [hx] at hz
          injection hz with hz
          subst hz
          exact absurd hd hz2
      rw [ha, if_neg (by decide)] at hp
      obtain ⟨R, o, hR, hD⟩ := die_total code V s stk out hw hN hstk (by unfold pot; omega)
      refine ⟨R, o, hR, { hD with gone := ?_, clo := fun D hc hs => hD.clo D hc (fun j hj => hs j (by simp [hj])) }⟩
      intro j hj
      rcases List.mem_cons.1 hj with rfl | hj
      · rw [hD.ts]
        exact mark_dead ha
      · exact hD.gone j hj
    · rw [if_neg hd]
      have ha : aliveT s (i : Nat) = true := alive_nat.2 ⟨x, h1, hx, hd⟩
      have hlive : 0 < s.live := by
        rw [hw.live, List.countP_pos_iff]
        exact ⟨x, List.mem_of_getElem? hx, by simp [alv, hd]⟩
      have hll := hw.liveLe
      have hbl := hw.blLe hx
      rw [if_neg (by omega)]
      rw [ha, if_pos rfl] at hp
      cases hf : firstT s x.bl with
      | some y =>
        obtain ⟨hy, hya⟩ := first_mem hf
        rw [hw.bl _ _ hx, kids_mem] at hy
        obtain ⟨j, z, hz, hzp, rfl⟩ := hy
        have hjl := (List.getElem?_eq_some_iff.1 hz).1
        have hup := (hw.task j z hz).1
        obtain ⟨R, o, hR, hD⟩ := die_total code V s ((j + 1) :: i :: stk) out hw hN (fun k hk => by
          rcases List.mem_cons.1 hk with rfl | hk
          · omega
          · exact hs k hk) (by
            unfold pot
            simp only [List.length_cons]
            rw [hya, if_pos rfl]
            omega)
        refine ⟨R, o, hR, { hD with gone := fun k hk => hD.gone k (List.mem_cons_of_mem _ hk), clo := fun D hc hs => hD.clo D hc (fun k hk => ?_) }⟩
        rcases List.mem_cons.1 hk with rfl | hk
        · refine (hc i x h1 hx (hs i (by simp))).1 _ ?_
          rw [hw.bl _ _ hx, kids_mem]
          exact ⟨j, z, hz, hzp, rfl⟩
        · exact hs k hk
      | none =>
        have hno := first_none hf
        have hw1 := hw.dead h1 hx hd hno code
        rw [dead_mark h1 hx]
        have hN1 : (markT s [i] code).ts.length = s.ts.length := markL_len _ _ _
        have hl1 : (markT s [i] code).live = s.live - 1 := rfl
        have hmul : (2 * s.ts.length + 5) * (s.live - 1) + (2 * s.ts.length + 5) = (2 * s.ts.length + 5) * s.live := by
          rw [← Nat.mul_succ, show (s.live - 1).succ = s.live by omega]
        have hi1 : aliveT (markT s [i] code) (i : Nat) = false := by
          cases hh : aliveT (markT s [i] code) (i : Nat) with
          | false => rfl
          | true => exact absurd (by simp) (mark_alive.1 hh).2
        -- what the rest gives
        have key : ∀ (stk' : List Nat), (∀ k ∈ stk', k ∈ stk ∨ (x.cr ≠ 0 ∧ k = x.cr)) → stk'.length ≤ stk.length + 1 → (∀ k ∈ stk, k ∈ stk') → (x.cr ≠ 0 → aliveT (markT s [i] code) (x.cr : Nat) = true → x.cr ∈ stk') →
            ∃ R o, dieF code (V + 1) (markT s [i] code) stk' (out ++ [i]) = some R ∧ Dies code s (i :: stk) out R o := by
          intro stk' hin hlen hsub hcr
          have hrng : ∀ k ∈ stk', 1 ≤ k ∧ k ≤ s.ts.length := fun k hk => by
            rcases hin k hk with h | ⟨h3, rfl⟩
            · exact hstk k h
            · have := (hw.task _ _ hx).2.2.2.2.1
              omega
          have htop' := top_le (markT s [i] code) stk'
          rw [hN1] at htop'
          obtain ⟨R, o, hR, hD⟩ := die_total code V (markT s [i] code) stk' (out ++ [i]) hw1 (by rw [hN1]; exact hN) (by rw [hN1]; exact hrng) (by
            unfold pot
            rw [hN1, hl1]
            omega)
          have hni : i ∉ o := fun hm => by
            have := hD.al i hm
            rw [hi1] at this
            cases this
          refine ⟨R, i :: o, hR, ⟨?_, ?_, hD.wf, List.nodup_cons.2 ⟨hni, hD.nd⟩, ?_, ?_, ?_, ?_, ?_, ?_⟩⟩
          · rw [hD.tell]
            simp
          · rw [hD.ts, mark_mark]
            rfl
          · intro k hk
            rcases List.mem_cons.1 hk with rfl | hk
            · exact ha
            · exact (mark_alive.1 (hD.al k hk)).1
          · intro k hk
            rcases List.mem_cons.1 hk with rfl | hk
            · rw [hD.ts]
              exact mark_dead hi1
            · exact hD.gone k (hsub k hk)
          · intro D hc hs k hk
            have hDi := hs i (by simp)
            rcases List.mem_cons.1 hk with rfl | hk
            · exact hDi
            · refine hD.clo D (hc.mark _ _) (fun q hq => ?_) k hk
              rcases hin q hq with h | ⟨h3, rfl⟩
              · exact hs q (by simp [h])
              · exact (hc i x h1 hx hDi).2 h3
          · intro k hk z hz hz0
            rcases List.mem_cons.1 hk with rfl | hk
            · rw [hx] at hz
              injection hz with hz
              subst hz
              cases hh : aliveT (markT s [k] code) (x.cr : Nat) with
              | true => exact hD.gone _ (hcr hz0 hh)
              | false =>
                rw [hD.ts]
                exact mark_dead hh
            · obtain ⟨z', hz', -, e2, -⟩ := mark_get' (o := [i]) (code := code) hz
              rw [← e2]
              exact hD.cr k hk z' hz' (by rw [e2]; exact hz0)
          · refine List.Pairwise.cons ?_ ?_
            · intro c hc y hy hpa
              have hca := hD.al c hc
              obtain ⟨hca1, hca2⟩ := mark_alive.1 hca
              obtain ⟨y', hc1, hy', hy2⟩ := alive_nat.1 hca
              obtain ⟨y0, hy0, -, -, e3⟩ := mark_get hy'
              rw [hy] at hy0
              injection hy0 with hy0
              subst hy0
              have hup := (hw.task _ _ hy).1
              obtain ⟨q, hq, -, hq3, -⟩ := hw1.par (c - 1) y' hy' (by omega)
              rw [e3, hpa] at hq
              have hq' : (markL s.ts [i] code)[i - 1]? = some q := hq
              rw [markL_get, hx, Option.map_some, if_pos (by simp; omega)] at hq'
              injection hq' with hq'
              exact hy2 (hq3 (by rw [← hq']))
            · refine hD.ord.imp ?_
              intro a c hac y hy
              obtain ⟨y', hy', -, -, e3⟩ := mark_get' (o := [i]) (code := code) hy
              rw [← e3]
              exact hac y' hy'
          · have := hD.live
            rw [hl1] at this
            simp only [List.length_cons]
            omega
        simp only
        by_cases hc : x.cr ≠ 0 ∧ aliveT (markT s [i] code) (x.cr : Nat) = true
        · rw [if_pos hc]
          exact key (x.cr :: stk) (fun k hk => by
            rcases List.mem_cons.1 hk with rfl | hk
            · exact .inr ⟨hc.1, rfl⟩
            · exact .inl hk) (by simp) (fun k hk => by simp [hk]) (fun _ _ => by simp)
        · rw [if_neg hc]
          exact key stk (fun k hk => .inl hk) (by omega) (fun k hk => hk) (fun h0 h3 => absurd ⟨h0, h3⟩ hc)
/-- die of one task that is there. -/
theorem die_runs {s : Tr} (hw : WfT s) (hN : s.ts.length ≤ 1000) (id : Nat) (h1 : 1 ≤ id) (h2 : id ≤ s.ts.length) (code : Int) : ∃ g R o, g ≤ 10000000 ∧ dieF code g s [id] [] = some R ∧ Dies code s [id] [] R o := by
  have hp : pot s [id] ≤ 9000000 := by
    have ht := top_le s [id]
    have hl := hw.liveLe
    have hm : (2 * s.ts.length + 5) * s.live ≤ 2005 * 1000 := Nat.mul_le_mul (by omega) (by omega)
    unfold pot
    simp only [List.length_cons, List.length_nil] at ht ⊢
    omega
  obtain ⟨R, o, hR, hD⟩ := die_total code 9000000 s [id] [] hw (by omega) (fun i hi => by
    rw [List.mem_singleton] at hi
    omega) hp
  exact ⟨9000001, R, o, by omega, hR, hD⟩
end Go.Proofs.Ytojmhacafmpbgaa.Tk
