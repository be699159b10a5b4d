/- TasksCritical: the plain law. -/
import Derived.Test.YtojmhacafmpbgaaTkPoA
namespace Go.Proofs.Ytojmhacafmpbgaa.Tk
open Go
set_option linter.unusedVariables false
set_option linter.unusedSimpArgs false
/-- A chain of jobs: number i + 1 stands below number i. -/
structure CrI (d : Nat) (s : Tr) : Prop where
  wf : WfT s
  mo : s.most = 100
  le : s.ts.length = 1 + d
  li : s.live = 1 + d
  jo : ∀ i, i ≤ d → ∃ x, s.ts[i]? = some x ∧ x.kd = 1 ∧ x.st = 1 ∧ x.po = 0 ∧ x.dp = i + 1 ∧ x.pa = i ∧ x.cr = 0
theorem cr_new : CrI 0 (newT 100) := by
  refine ⟨wf_new 100, rfl, rfl, rfl, fun i hi => ?_⟩
  obtain rfl : i = 0 := by omega
  exact ⟨rootT, rfl, rfl, rfl, rfl, rfl, rfl, rfl⟩
theorem cr_task {d : Nat} {s : Tr} (h : CrI d s) {i : Nat} (hi : i ≤ d) : ∃ x, taskAt s ((i : Int) + 1) = some x ∧ s.ts[i]? = some x ∧ x.kd = 1 ∧ x.st = 1 ∧ x.po = 0 ∧ x.dp = i + 1 ∧ x.pa = i ∧ x.cr = 0 := by
  obtain ⟨x, x1, x2⟩ := h.jo i hi
  refine ⟨x, ?_, x1, x2⟩
  rw [show (i : Int) + 1 = ((i + 1 : Nat) : Int) by omega, taskAt_nat (by omega)]
  exact x1
theorem cr_job {d : Nat} {s : Tr} (h : CrI d s) (hd : d < 10) : (makeC s 1 ((d : Int) + 1)).1 = ((d : Int) + 2, 0) ∧ CrI (d + 1) (makeC s 1 ((d : Int) + 1)).2 := by
  obtain ⟨x, x0, x1, x2, x3, x4, x5, x6, x7⟩ := cr_task h (Nat.le_refl d)
  have hm : makeSt s x 1 = 0 := by
    unfold makeSt
    have hj : jobOf s x = x := by unfold jobOf; rw [if_neg (by omega)]
    rw [hj, x2, x4, show fitsT 1 ((1 : Nat) : Int) = true by decide, if_neg (by decide), if_neg (by omega), show forbidsT 1 = 2 by decide, if_neg (by decide +kernel), x5, if_neg (by omega), h.mo, h.li, if_neg (by omega)]
  have e : makeC s 1 ((d : Int) + 1) = (((s.ts.length : Int) + 1, 0), addT s d x 1) := by
    unfold makeC
    rw [x0]
    simp only
    rw [if_pos hm, show ((d : Int) + 1).toNat - 1 = d by omega]
    rfl
  have hw := h.wf.make 1 ((d : Int) + 1)
  have hl := (List.getElem?_eq_some_iff.1 x1).1
  have hle := h.le
  have hln : (s.ts.set d { x with bl := x.bl ++ [s.ts.length + 1] }).length = s.ts.length := List.length_set
  rw [e] at hw ⊢
  refine ⟨by rw [h.le]; simp; omega, ⟨hw, h.mo, by simp [addT, h.le]; omega, by have := h.li; show s.live + 1 = _; omega, fun i hi => ?_⟩⟩
  by_cases hid : i = d + 1
  · subst hid
    refine ⟨newY 1 (d + 1) x, ?_, rfl, rfl, x4, by show x.dp + 1 = _; omega, rfl, rfl⟩
    show (s.ts.set d { x with bl := x.bl ++ [s.ts.length + 1] } ++ [newY 1 (d + 1) x])[d + 1]? = _
    rw [List.getElem?_append_right (by omega), hln, hle, show d + 1 - (1 + d) = 0 by omega]
    rfl
  · by_cases hi2 : i = d
    · subst hi2
      refine ⟨{ x with bl := x.bl ++ [s.ts.length + 1] }, ?_, x2, x3, x4, x5, x6, x7⟩
      show (s.ts.set i { x with bl := x.bl ++ [s.ts.length + 1] } ++ [newY 1 (i + 1) x])[i]? = _
      rw [List.getElem?_append_left (by omega), List.getElem?_set_self hl]
    · obtain ⟨y, y1, y2⟩ := h.jo i (by omega)
      refine ⟨y, ?_, y2⟩
      show (s.ts.set d { x with bl := x.bl ++ [s.ts.length + 1] } ++ [newY 1 (d + 1) x])[i]? = _
      rw [List.getElem?_append_left (by omega), List.getElem?_set_ne (by omega), y1]
/-- .. and n processes more, whose parents are told. -/
structure CrP (d : Nat) (l : List Nat) (s : Tr) : Prop where
  wf : WfT s
  mo : s.most = 100
  le : s.ts.length = 1 + d + l.length
  li : s.live = 1 + d + l.length
  jo : ∀ i, i ≤ d → ∃ x, s.ts[i]? = some x ∧ x.kd = 1 ∧ x.st = 1 ∧ x.po = 0 ∧ x.pa = i ∧ x.cr = 0
  pr : ∀ k a, l[k]? = some a → ∃ x, s.ts[1 + d + k]? = some x ∧ x.kd = 2 ∧ x.st = 0 ∧ x.po = 0 ∧ x.pa = a + 1 ∧ x.cr = 0
theorem CrI.crp {d : Nat} {s : Tr} (h : CrI d s) : CrP d [] s :=
  ⟨h.wf, h.mo, by rw [h.le]; rfl, by rw [h.li]; rfl, fun i hi => by
    obtain ⟨x, x1, x2, x3, x4, x5, x6, x7⟩ := h.jo i hi
    exact ⟨x, x1, x2, x3, x4, x6, x7⟩, fun k a h => by simp at h⟩
theorem cr_proc {d a : Nat} {l : List Nat} {s : Tr} (h : CrP d l s) (ha : a ≤ d) (hd : d ≤ 10) (hl2 : l.length ≤ 3) : (makeC s 2 ((a : Int) + 1)).1 = ((d : Int) + l.length + 2, 0) ∧ CrP d (l ++ [a]) (makeC s 2 ((a : Int) + 1)).2 := by
  obtain ⟨x, x1, x2, x3, x4, x6, x7⟩ := h.jo a ha
  have x0 : taskAt s ((a : Int) + 1) = some x := by
    rw [show (a : Int) + 1 = ((a + 1 : Nat) : Int) by omega, taskAt_nat (by omega)]
    exact x1
  have hm : makeSt s x 2 = 0 := by
    unfold makeSt
    have hj : jobOf s x = x := by unfold jobOf; rw [if_neg (by omega)]
    rw [hj, x2, x4, show fitsT 2 ((1 : Nat) : Int) = true by decide, if_neg (by decide), if_neg (by omega), show forbidsT 2 = 1 by decide, if_neg (by decide +kernel), if_neg (by omega), h.mo, h.li, if_neg (by omega)]
  have e : makeC s 2 ((a : Int) + 1) = (((s.ts.length : Int) + 1, 0), addT s a x 2) := by
    unfold makeC
    rw [x0]
    simp only
    rw [if_pos hm, show ((a : Int) + 1).toNat - 1 = a by omega]
    rfl
  have hw := h.wf.make 2 ((a : Int) + 1)
  have hl := (List.getElem?_eq_some_iff.1 x1).1
  have hle := h.le
  have hln : (s.ts.set a { x with bl := x.bl ++ [s.ts.length + 1] }).length = s.ts.length := List.length_set
  rw [e] at hw ⊢
  refine ⟨by rw [h.le]; simp; omega, ⟨hw, h.mo, by simp [addT, h.le]; omega, by have := h.li; show s.live + 1 = _; simp; omega, fun i hi => ?_, fun k b hb => ?_⟩⟩
  · by_cases hi2 : i = a
    · subst hi2
      refine ⟨{ x with bl := x.bl ++ [s.ts.length + 1] }, ?_, x2, x3, x4, x6, x7⟩
      show (s.ts.set i { x with bl := x.bl ++ [s.ts.length + 1] } ++ [newY 2 (i + 1) x])[i]? = _
      rw [List.getElem?_append_left (by omega), List.getElem?_set_self hl]
    · obtain ⟨y, y1, y2⟩ := h.jo i hi
      refine ⟨y, ?_, y2⟩
      show (s.ts.set a { x with bl := x.bl ++ [s.ts.length + 1] } ++ [newY 2 (a + 1) x])[i]? = _
      have := (List.getElem?_eq_some_iff.1 y1).1
      rw [List.getElem?_append_left (by omega), List.getElem?_set_ne (by omega), y1]
  · by_cases hk : k < l.length
    · rw [List.getElem?_append_left hk] at hb
      obtain ⟨y, y1, y2⟩ := h.pr k b hb
      refine ⟨y, ?_, y2⟩
      show (s.ts.set a { x with bl := x.bl ++ [s.ts.length + 1] } ++ [newY 2 (a + 1) x])[1 + d + k]? = _
      rw [List.getElem?_append_left (by omega), List.getElem?_set_ne (by omega), y1]
    · have h3 := (List.getElem?_eq_some_iff.1 hb).1
      rw [List.length_append, List.length_singleton] at h3
      obtain rfl : k = l.length := by omega
      simp only [List.getElem?_concat_length, Option.some.injEq] at hb
      subst hb
      refine ⟨newY 2 (a + 1) x, ?_, rfl, rfl, rfl, rfl, rfl⟩
      show (s.ts.set a { x with bl := x.bl ++ [s.ts.length + 1] } ++ [newY 2 (a + 1) x])[1 + d + l.length]? = _
      rw [List.getElem?_append_right (by omega), hln, hle, Nat.sub_self]
      rfl
/-- die's first step at a task with nothing below it tells that one first. -/
theorem die_ext (code : Int) : ∀ (g : Nat) (s : Tr) (stk out : List Nat) (R : Tr × List Nat), dieF code g s stk out = some R → ∃ o, R.2 = out ++ o
  | 0, _, _, _, _, h => by simp [dieF] at h
  | g + 1, s, [], out, R, h => by
    simp only [dieF, Option.some.injEq] at h
    subst h
    exact ⟨[], by simp⟩
  | g + 1, s, i :: stk, out, R, h => by
    unfold dieF at h
    cases ht : taskAt s (i : Int) with
    | none => rw [ht] at h; cases h
    | some x =>
      rw [ht] at h
      simp only at h
      by_cases h1 : x.st = 2
      · rw [if_pos h1] at h
        exact die_ext code g _ _ _ _ h
      rw [if_neg h1] at h
      by_cases h2 : 65536 < x.bl.length ∨ s.live = 0 ∨ 65536 < s.live
      · rw [if_pos h2] at h
        cases h
      rw [if_neg h2] at h
      cases hf : firstT s x.bl with
      | some y =>
        rw [hf] at h
        exact die_ext code g _ _ _ _ h
      | none =>
        rw [hf] at h
        simp only at h
        split at h
        · obtain ⟨o, ho⟩ := die_ext code g _ _ _ _ h
          exact ⟨[i] ++ o, by rw [ho, List.append_assoc]⟩
        · obtain ⟨o, ho⟩ := die_ext code g _ _ _ _ h
          exact ⟨[i] ++ o, by rw [ho, List.append_assoc]⟩
theorem die_head {code : Int} {g : Nat} {s : Tr} {id : Nat} {x : Tk} {R : Tr × List Nat} (h : dieF code g s [id] [] = some R) (hx : taskAt s (id : Int) = some x) (hs : x.st ≠ 2) (hb : x.bl = []) : ∃ o, R.2 = id :: o := by
  cases g with
  | zero => simp [dieF] at h
  | succ g =>
    unfold dieF at h
    rw [hx] at h
    simp only at h
    rw [if_neg hs] at h
    by_cases h2 : 65536 < x.bl.length ∨ s.live = 0 ∨ 65536 < s.live
    · rw [if_pos h2] at h
      cases h
    rw [if_neg h2, hb] at h
    simp only [firstT, List.find?_nil] at h
    split at h
    · obtain ⟨o, ho⟩ := die_ext code g _ _ _ _ h
      exact ⟨o, by rw [ho]; rfl⟩
    · obtain ⟨o, ho⟩ := die_ext code g _ _ _ _ h
      exact ⟨o, by rw [ho]; rfl⟩
/-- The process that is not critical dies alone; with one that is, the job and all below it dies. -/
theorem cr_set {d a : Nat} {s : Tr} (h : CrP d [d, a] s) (ha : a ≤ d) : ∃ x, taskAt s ((d : Int) + 2) = some x ∧ s.ts[d + 1]? = some x ∧ x.kd = 2 ∧ x.st = 0 ∧ x.pa = d + 1 ∧ x.cr = 0 ∧ x.bl = [] ∧
    critC s ((d : Int) + 2) ((a : Int) + 1) = (0, { s with ts := s.ts.set (d + 1) { x with cr := a + 1 } }) := by
  obtain ⟨x, x1, x2, x3, x4, x5, x6⟩ := h.pr 0 d rfl
  rw [show 1 + d + 0 = d + 1 by omega] at x1
  have x0 : taskAt s ((d : Int) + 2) = some x := by
    rw [show (d : Int) + 2 = ((d + 2 : Nat) : Int) by omega, taskAt_nat (by omega)]
    exact x1
  have hle := h.le
  simp only [List.length_cons, List.length_nil] at hle
  have hb : x.bl = [] := by
    rw [h.wf.bl _ _ x1, List.eq_nil_iff_forall_not_mem]
    intro c hc
    obtain ⟨i, y, hy, hp, rfl⟩ := kids_mem.1 hc
    have hl := (List.getElem?_eq_some_iff.1 hy).1
    have hu := (h.wf.task i y hy).1
    obtain rfl : i = 1 + d + 1 := by omega
    obtain ⟨z, z1, z2, z3, z4, z5, -⟩ := h.pr 1 a rfl
    rw [hy] at z1
    injection z1 with z1
    subst z1
    omega
  refine ⟨x, x0, x1, x2, x3, x5, x6, hb, ?_⟩
  obtain ⟨j, j1, j2, j3, j4, j5, j6⟩ := h.jo a ha
  have j0 : taskAt s ((a : Int) + 1) = some j := by
    rw [show (a : Int) + 1 = ((a + 1 : Nat) : Int) by omega, taskAt_nat (by omega)]
    exact j1
  -- each job up from d stands below number a + 1
  have hun : ∀ n i : Nat, i ≤ n → a ≤ i → i ≤ d → underT s ((i : Int) + 1) ((a : Int) + 1) = true := by
    intro n
    induction n with
    | zero =>
      intro i h1 h2 h3
      obtain rfl : i = 0 := by omega
      obtain rfl : a = 0 := by omega
      rw [under_some h.wf.up j0, if_pos rfl]
    | succ n ih =>
      intro i h1 h2 h3
      obtain ⟨y, y1, y2, y3, y4, y5, y6⟩ := h.jo i h3
      have y0 : taskAt s ((i : Int) + 1) = some y := by
        rw [show (i : Int) + 1 = ((i + 1 : Nat) : Int) by omega, taskAt_nat (by omega)]
        exact y1
      rw [under_some h.wf.up y0]
      by_cases he : (i : Int) + 1 = (a : Int) + 1
      · rw [if_pos he]
      · rw [if_neg he, y5]
        have := ih (i - 1) (by omega) (by omega) (by omega)
        rwa [show ((i - 1 : Nat) : Int) + 1 = (i : Int) by omega] at this
  have hu : underT s ((d : Int) + 2) ((a : Int) + 1) = true := by
    rw [under_some h.wf.up x0, if_neg (by omega), x5]
    have := hun d d (Nat.le_refl _) ha (Nat.le_refl _)
    rwa [show (d : Int) + 1 = ((d + 1 : Nat) : Int) by omega] at this
  have hall : ∀ (i : Nat) (y : Tk), s.ts[i]? = some y → y.po = 0 := fun i y hy => by
    have hl := (List.getElem?_eq_some_iff.1 hy).1
    by_cases hi : i ≤ d
    · obtain ⟨z, z1, z2, z3, z4, -⟩ := h.jo i hi
      rw [hy] at z1
      injection z1 with z1
      subst z1
      exact z4
    · rcases (by omega : i = 1 + d + 0 ∨ i = 1 + d + 1) with rfl | rfl
      · obtain ⟨z, z1, z2, z3, z4, -⟩ := h.pr 0 d rfl
        rw [hy] at z1
        injection z1 with z1
        subst z1
        exact z4
      · obtain ⟨z, z1, z2, z3, z4, -⟩ := h.pr 1 a rfl
        rw [hy] at z1
        injection z1 with z1
        subst z1
        exact z4
  have hc : critSt s x j ((d : Int) + 2) ((a : Int) + 1) = 0 := by
    unfold critSt
    rw [if_neg (by omega), hu, if_neg (by decide), if_neg (by omega), if_neg]
    exact bar_no (fun i y hy => by rw [hall i y hy]; decide +kernel) _ _
  unfold critC
  rw [x0, j0]
  simp only
  rw [if_pos hc, show ((d : Int) + 2 - 1).toNat = d + 1 by omega, show ((a : Int) + 1).toNat = a + 1 by omega]
theorem cr_kill {d a : Nat} {s s1 : Tr} (h : CrP d [d, a] s) (ha : a ≤ d) (hd : d ≤ 10) (kill : Bool) (hs1 : s1 = if kill then (critC s ((d : Int) + 2) ((a : Int) + 1)).2 else s) {code : Int} {R : Tr × List Nat} (hR : KillR s1 ((d : Int) + 2) code R) :
    killSt s1 ((d : Int) + 2) = 0 ∧ (∃ o, R.2 = (d + 2) :: o) ∧ (∀ i : Nat, i ≤ d → aliveT R.1 ((i : Int) + 1) = !(kill && decide (a ≤ i))) ∧ aliveT R.1 ((d : Int) + 3) = !kill := by
  obtain ⟨x, x0, x1, x2, x3, x5, x6, hb, hcr⟩ := cr_set h ha
  have hl := (List.getElem?_eq_some_iff.1 x1).1
  have hle := h.le
  simp only [List.length_cons, List.length_nil] at hle
  have hwf : WfT s1 := by
    rw [hs1]
    split
    · exact h.wf.crit _ _
    · exact h.wf
  -- the tasks of s1
  have hts : s1.ts = s.ts.set (d + 1) { x with cr := if kill then a + 1 else 0 } := by
    rw [hs1]
    cases kill with
    | true => rw [if_pos rfl, hcr]; rfl
    | false =>
      rw [if_neg (by decide)]
      refine (List.ext_getElem? fun i => ?_).symm
      rw [List.getElem?_set]
      by_cases hi : d + 1 = i
      · subst hi
        rw [if_pos rfl, if_pos hl, x1]
        congr 1
        cases x
        simp only at x6
        subst x6
        rfl
      · rw [if_neg hi]
  have hx' : s1.ts[d + 1]? = some { x with cr := if kill then a + 1 else 0 } := by rw [hts, List.getElem?_set_self hl]
  have hot : ∀ i, i ≠ d + 1 → s1.ts[i]? = s.ts[i]? := fun i hi => by rw [hts, List.getElem?_set_ne (fun e => hi e.symm)]
  have ht1 : taskAt s1 ((d : Int) + 2) = some { x with cr := if kill then a + 1 else 0 } := by
    rw [show (d : Int) + 2 = ((d + 2 : Nat) : Int) by omega, taskAt_nat (by omega)]
    exact hx'
  have hk : killSt s1 ((d : Int) + 2) = 0 := by
    unfold killSt
    rw [ht1]
    simp only
    rw [if_neg (by omega)]
  unfold KillR at hR
  rw [if_pos hk] at hR
  obtain ⟨i, hi, g, o, hg, hR, hD⟩ := hR
  obtain rfl : i = d + 2 := by omega
  refine ⟨hk, die_head hR (x := { x with cr := if kill then a + 1 else 0 }) (by rw [← hi]; exact ht1) (by show x.st ≠ 2; omega) hb, ?_, ?_⟩
  all_goals
    have hal0 : ∀ i : Nat, i ≤ d + 2 → aliveT s1 ((i + 1 : Nat) : Int) = true := fun i hi2 => by
      rw [alive_nat]
      by_cases h1 : i ≤ d
      · obtain ⟨y, y1, y2, y3, -⟩ := h.jo i h1
        exact ⟨y, by omega, by rw [Nat.add_sub_cancel, hot i (by omega)]; exact y1, by omega⟩
      · by_cases h2 : i = d + 1
        · subst h2
          exact ⟨_, by omega, by rw [Nat.add_sub_cancel]; exact hx', by show x.st ≠ 2; omega⟩
        · obtain rfl : i = 1 + d + 1 := by omega
          obtain ⟨y, y1, y2, y3, -⟩ := h.pr 1 a rfl
          exact ⟨y, by omega, by rw [Nat.add_sub_cancel, hot _ (by omega)]; exact y1, by omega⟩
    have hup : ∀ (i : Nat) y, s1.ts[i]? = some y → 0 < i → aliveT R.1 (y.pa : Nat) = false → aliveT R.1 ((i + 1 : Nat) : Int) = false := fun i y hy h0 hpd => by
      cases hh : aliveT R.1 ((i + 1 : Nat) : Int) with
      | false => rfl
      | true =>
        obtain ⟨z, -, z1, z2⟩ := alive_nat.1 hh
        rw [Nat.add_sub_cancel] at z1
        obtain ⟨q, q1, -, q2, -⟩ := hD.wf.par i z z1 h0
        rw [hD.ts] at z1
        obtain ⟨y', y1, -, -, y2⟩ := mark_get z1
        rw [hy] at y1
        injection y1 with y1
        subst y1
        have hp1 := (hwf.task i y hy).2.1 h0
        by_cases hq : q.st = 2
        · exact absurd (q2 hq) z2
        · rw [alive_nat.2 ⟨q, hp1, by rw [← y2]; exact q1, hq⟩] at hpd
          cases hpd
    cases kill with
    | false =>
      have e := dies_one hD (hal0 (d + 1) (by omega)) (fun i => i = d + 2) (fun i y hi1 hy hii => by
        subst hii
        rw [show d + 2 - 1 = d + 1 by omega, hx'] at hy
        injection hy with hy
        subst hy
        exact ⟨by show ∀ c ∈ x.bl, _; rw [hb]; simp, fun h => absurd rfl h⟩) rfl (fun i h _ => h)
      subst e
      have hst : ∀ i : Nat, i ≤ d + 2 → i ≠ d + 1 → aliveT (markT s1 [d + 2] code) ((i + 1 : Nat) : Int) = true := fun i h1 h2 => mark_alive.2 ⟨hal0 i h1, by simp; omega⟩
      first
        | (intro i hi2
           have := hst i (by omega) (by omega)
           rw [show ((i + 1 : Nat) : Int) = (i : Int) + 1 by omega] at this
           simpa using this)
        | (have := hst (d + 2) (by omega) (by omega)
           rw [show ((d + 2 + 1 : Nat) : Int) = (d : Int) + 3 by omega] at this
           simpa using this)
    | true =>
      have hin : d + 2 ∈ o := by
        have hg2 := hD.gone (d + 2) (by simp)
        rw [hD.ts] at hg2
        by_cases hm : d + 2 ∈ o
        · exact hm
        · rw [mark_alive.2 ⟨hal0 (d + 1) (by omega), hm⟩] at hg2
          cases hg2
      have hjd : aliveT R.1 ((a + 1 : Nat) : Int) = false := hD.cr (d + 2) hin { x with cr := a + 1 } (by rw [show d + 2 - 1 = d + 1 by omega]; exact hx') (by simp)
      have hdown : ∀ n i : Nat, i ≤ n → a ≤ i → i ≤ d → aliveT R.1 ((i + 1 : Nat) : Int) = false := by
        intro n
        induction n with
        | zero =>
          intro i h1 h2 h3
          obtain rfl : i = a := by omega
          exact hjd
        | succ n ih =>
          intro i h1 h2 h3
          by_cases he : i = a
          · subst he
            exact hjd
          · obtain ⟨y, y1, y2, y3, y4, y5, -⟩ := h.jo i h3
            refine hup i y (by rw [hot i (by omega)]; exact y1) (by omega) ?_
            rw [y5]
            have := ih (i - 1) (by omega) (by omega) (by omega)
            rwa [show i - 1 + 1 = i by omega] at this
      have hstay : ∀ i : Nat, i < a → aliveT R.1 ((i + 1 : Nat) : Int) = true := fun i hia => by
        rw [hD.ts]
        refine mark_alive.2 ⟨hal0 i (by omega), fun hm => ?_⟩
        have := hD.clo (fun k => a + 1 ≤ k) (fun k y hk1 hy hDk => by
          refine ⟨fun c hc => ?_, fun hc => ?_⟩
          · rw [hwf.bl _ _ hy] at hc
            obtain ⟨q, z, hz, hzp, rfl⟩ := kids_mem.1 hc
            have := (hwf.task q z hz).1
            show a + 1 ≤ q + 1
            omega
          · by_cases hkd : k - 1 = d + 1
            · rw [hkd, hx'] at hy
              injection hy with hy
              subst hy
              exact Nat.le_refl _
            · exfalso
              rw [hot _ hkd] at hy
              have hkl := (List.getElem?_eq_some_iff.1 hy).1
              by_cases h1 : k - 1 ≤ d
              · obtain ⟨z, z1, z2, z3, z4, z5, z6⟩ := h.jo _ h1
                rw [hy] at z1
                injection z1 with z1
                subst z1
                exact hc z6
              · have h2 : k - 1 = 1 + d + 1 := by omega
                obtain ⟨z, z1, z2, z3, z4, z5, z6⟩ := h.pr 1 a rfl
                rw [h2] at hy
                rw [hy] at z1
                injection z1 with z1
                subst z1
                exact hc z6) (fun k hk => by rw [List.mem_singleton] at hk; omega) (i + 1) hm
        omega
      first
        | (intro i hi2
           by_cases hia : a ≤ i
           · have := hdown d i hi2 hia hi2
             rw [show ((i + 1 : Nat) : Int) = (i : Int) + 1 by omega] at this
             rw [this, decide_eq_true hia]
             rfl
           · have := hstay i (by omega)
             rw [show ((i + 1 : Nat) : Int) = (i : Int) + 1 by omega] at this
             rw [this, decide_eq_false hia]
             rfl)
        | (obtain ⟨z, z1, z2, z3, z4, z5, z6⟩ := h.pr 1 a rfl
           have := hup (1 + d + 1) z (by rw [hot _ (by omega)]; exact z1) (by omega) (by rw [z5]; exact hjd)
           rw [show ((1 + d + 1 + 1 : Nat) : Int) = (d : Int) + 3 by omega] at this
           rw [this]
           rfl)
end Go.Proofs.Ytojmhacafmpbgaa.Tk
