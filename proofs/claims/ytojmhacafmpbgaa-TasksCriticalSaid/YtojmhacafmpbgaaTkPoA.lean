/- TasksPolicy: the plain law. -/
import Derived.Test.YtojmhacafmpbgaaTkExA
namespace Go.Proofs.Ytojmhacafmpbgaa.Tk
open Go
set_option linter.unusedVariables false
set_option linter.unusedSimpArgs false
def andI (nb : Nat) (m : Int) : Int := bits .and .i64 (nb : Int) m
structure PoI (nb d : Nat) (s : Tr) : Prop where
  wf : WfT s
  mo : s.most = 100
  le : s.ts.length = 2 + d
  li : s.live = 2 + d
  ro : ∃ x, s.ts[0]? = some x ∧ x.kd = 1 ∧ x.st ≠ 2 ∧ x.po = 0
  jo : ∀ i, 1 ≤ i → i < 2 + d → ∃ x, s.ts[i]? = some x ∧ x.kd = 1 ∧ x.st = 1 ∧ x.po = nb ∧ x.dp = i + 1
def poS1 : Tr := addT (newT 100) 0 rootT 1
theorem po_make : makeC (newT 100) 1 1 = ((2, 0), poS1) := by
  have h : makeSt (newT 100) rootT 1 = 0 := by decide +kernel
  have ht : taskAt (newT 100) 1 = some rootT := rfl
  unfold makeC
  rw [ht]
  simp only
  rw [if_pos h]
  rfl
theorem po_wf : WfT poS1 := by
  have h1 := (wf_new 100).make 1 1
  rw [po_make] at h1
  exact h1
theorem po_pol (nb : Nat) (h : nb ≤ 15) : (polC poS1 2 (nb : Int)).1 = 0 ∧ PoI nb 0 (polC poS1 2 (nb : Int)).2 := by
  have ht : taskAt poS1 2 = some (newY 1 1 rootT) := rfl
  have hst : polSt poS1 2 (nb : Int) = 0 := by
    unfold polSt
    rw [ht]
    simp only
    rw [if_neg (by decide), if_neg (by omega), if_neg (by decide)]
    rfl
  have e : polC poS1 2 (nb : Int) = (0, { poS1 with ts := poS1.ts.set 1 { newY 1 1 rootT with po := porT 0 nb } }) := by
    unfold polC
    rw [ht]
    simp only
    rw [if_pos hst]
    rfl
  have hw := po_wf.pol 2 (nb : Int)
  rw [e] at hw ⊢
  have hp : porT 0 (nb : Int) = nb := by simp [porT]
  rw [hp] at hw ⊢
  refine ⟨rfl, ⟨hw, rfl, rfl, rfl, ⟨_, rfl, rfl, by decide, rfl⟩, ?_⟩⟩
  intro i h1 h2
  obtain rfl : i = 1 := by omega
  exact ⟨_, rfl, rfl, rfl, rfl, rfl⟩
theorem po_last {nb d : Nat} {s : Tr} (h : PoI nb d s) : ∃ x, taskAt s ((d : Int) + 2) = some x ∧ s.ts[d + 1]? = some x ∧ x.kd = 1 ∧ x.st = 1 ∧ x.po = nb ∧ x.dp = d + 2 := by
  obtain ⟨x, x1, x2, x3, x4, x5⟩ := h.jo (d + 1) (by omega) (by omega)
  refine ⟨x, ?_, x1, x2, x3, x4, by omega⟩
  rw [show (d : Int) + 2 = ((d + 2 : Nat) : Int) by omega, taskAt_nat (by omega)]
  exact x1
/-- A job is made below the last one, or forbidden. -/
theorem po_job {nb d : Nat} {s : Tr} (h : PoI nb d s) (hd : d ≤ 10) : (andI nb 2 ≠ 0 → makeC s 1 ((d : Int) + 2) = ((0, -30), s)) ∧
    (andI nb 2 = 0 → d < 10 → (makeC s 1 ((d : Int) + 2)).1 = ((d : Int) + 3, 0) ∧ PoI nb (d + 1) (makeC s 1 ((d : Int) + 2)).2) := by
  obtain ⟨x, x0, x1, x2, x3, x4, x5⟩ := po_last h
  have hm : makeSt s x 1 = if andI nb 2 ≠ 0 then -30 else if 16 ≤ d + 2 then -14 else 0 := by
    unfold makeSt andI
    have hj : jobOf s x = x := by unfold jobOf; rw [if_neg (by omega)]
    rw [hj, x2, x4, show fitsT 1 ((1 : Nat) : Int) = true by decide, if_neg (by decide), if_neg (by omega), show forbidsT 1 = 2 by decide, x5, h.mo, h.li]
    by_cases h2 : bits .and .i64 (nb : Int) 2 ≠ 0
    · rw [if_pos h2, if_pos h2]
    · rw [if_neg h2, if_neg h2]
      by_cases h3 : 16 ≤ d + 2
      · omega
      · rw [if_neg (fun e => h3 e.2), if_neg (by omega), if_neg h3]
  constructor
  · intro h2
    rw [if_pos h2] at hm
    unfold makeC
    rw [x0]
    simp only
    rw [if_neg (by rw [hm]; decide), hm]
  · intro h2 hd2
    rw [if_neg (by simpa using h2), if_neg (by omega)] at hm
    have e : makeC s 1 ((d : Int) + 2) = (((s.ts.length : Int) + 1, 0), addT s (d + 1) x 1) := by
      unfold makeC
      rw [x0]
      simp only
      rw [if_pos hm, show ((d : Int) + 2).toNat - 1 = d + 1 by omega]
      rfl
    have hw := h.wf.make 1 ((d : Int) + 2)
    have hl := (List.getElem?_eq_some_iff.1 x1).1
    have hle := h.le
    have hln : (s.ts.set (d + 1) { x with bl := x.bl ++ [s.ts.length + 1] }).length = s.ts.length := List.length_set
    rw [e] at hw ⊢
    refine ⟨by rw [h.le]; simp; omega, ⟨hw, h.mo, by simp [addT, h.le]; omega, by have := h.li; show s.live + 1 = _; omega, ?_, ?_⟩⟩
    · obtain ⟨r, r1, r2, r3, r4⟩ := h.ro
      refine ⟨r, ?_, r2, r3, r4⟩
      show (s.ts.set (d + 1) { x with bl := x.bl ++ [s.ts.length + 1] } ++ [newY 1 (d + 1 + 1) x])[0]? = _
      rw [List.getElem?_append_left (by omega), List.getElem?_set_ne (by omega), r1]
    · intro i i1 i2
      by_cases hi : i = d + 2
      · subst hi
        refine ⟨newY 1 (d + 1 + 1) x, ?_, rfl, rfl, x4, by show x.dp + 1 = _; omega⟩
        show (s.ts.set (d + 1) { x with bl := x.bl ++ [s.ts.length + 1] } ++ [newY 1 (d + 1 + 1) x])[d + 2]? = _
        rw [List.getElem?_append_right (by omega), hln, hle, show d + 2 - (2 + d) = 0 by omega]
        rfl
      · by_cases hi2 : i = d + 1
        · subst hi2
          refine ⟨{ x with bl := x.bl ++ [s.ts.length + 1] }, ?_, x2, x3, x4, by show x.dp = _; omega⟩
          show (s.ts.set (d + 1) { x with bl := x.bl ++ [s.ts.length + 1] } ++ [newY 1 (d + 1 + 1) x])[d + 1]? = _
          rw [List.getElem?_append_left (by omega), List.getElem?_set_self hl]
        · obtain ⟨y, y1, y2⟩ := h.jo i i1 (by omega)
          refine ⟨y, ?_, y2⟩
          show (s.ts.set (d + 1) { x with bl := x.bl ++ [s.ts.length + 1] } ++ [newY 1 (d + 1 + 1) x])[i]? = _
          rw [List.getElem?_append_left (by omega), List.getElem?_set_ne (by omega), y1]
/-- With a process below the last job. -/
structure PrI (nb d : Nat) (s : Tr) : Prop where
  wf : WfT s
  mo : s.most = 100
  li : s.live < 100
  le : s.ts.length ≤ 100
  ro : ∃ x, s.ts[0]? = some x ∧ x.kd = 1 ∧ x.st ≠ 2
  jo : ∃ x, s.ts[d + 1]? = some x ∧ x.kd = 1 ∧ x.po = nb
  pr : ∃ x, s.ts[d + 2]? = some x ∧ x.kd = 2 ∧ x.pa = d + 2 ∧ x.st = 0 ∧ x.cr = 0
  al : ∀ (i : Nat) (x : Tk), s.ts[i]? = some x → x.po = 0 ∨ x.po = nb
theorem po_proc {nb d : Nat} {s : Tr} (h : PoI nb d s) (hd : d ≤ 10) : (andI nb 1 ≠ 0 → makeC s 2 ((d : Int) + 2) = ((0, -30), s)) ∧
    (andI nb 1 = 0 → (makeC s 2 ((d : Int) + 2)).1 = ((d : Int) + 3, 0) ∧ PrI nb d (makeC s 2 ((d : Int) + 2)).2) := by
  obtain ⟨x, x0, x1, x2, x3, x4, x5⟩ := po_last h
  have hm : makeSt s x 2 = if andI nb 1 ≠ 0 then -30 else 0 := by
    unfold makeSt andI
    have hj : jobOf s x = x := by unfold jobOf; rw [if_neg (by omega)]
    rw [hj, x2, x4, show fitsT 2 ((1 : Nat) : Int) = true by decide, if_neg (by decide), if_neg (by omega), show forbidsT 2 = 1 by decide, h.mo, h.li]
    by_cases h2 : bits .and .i64 (nb : Int) 1 ≠ 0
    · rw [if_pos h2, if_pos h2]
    · rw [if_neg h2, if_neg h2, if_neg (by omega), if_neg (by omega)]
  constructor
  · intro h2
    rw [if_pos h2] at hm
    unfold makeC
    rw [x0]
    simp only
    rw [if_neg (by rw [hm]; decide), hm]
  · intro h2
    rw [if_neg (by simpa using h2)] at hm
    have e : makeC s 2 ((d : Int) + 2) = (((s.ts.length : Int) + 1, 0), addT s (d + 1) x 2) := by
      unfold makeC
      rw [x0]
      simp only
      rw [if_pos hm, show ((d : Int) + 2).toNat - 1 = d + 1 by omega]
      rfl
    have hw := h.wf.make 2 ((d : Int) + 2)
    have hl := (List.getElem?_eq_some_iff.1 x1).1
    have hle := h.le
    have hln : (s.ts.set (d + 1) { x with bl := x.bl ++ [s.ts.length + 1] }).length = s.ts.length := List.length_set
    have hat : ∀ i, (addT s (d + 1) x 2).ts[i]? = if i = d + 2 then some (newY 2 (d + 1 + 1) x) else if i = d + 1 then some { x with bl := x.bl ++ [s.ts.length + 1] } else s.ts[i]? := fun i => by
      show (s.ts.set (d + 1) { x with bl := x.bl ++ [s.ts.length + 1] } ++ [newY 2 (d + 1 + 1) x])[i]? = _
      by_cases hi : i = d + 2
      · subst hi
        rw [if_pos rfl, List.getElem?_append_right (by omega), hln, hle, show d + 2 - (2 + d) = 0 by omega]
        rfl
      · rw [if_neg hi]
        by_cases hi2 : i = d + 1
        · subst hi2
          rw [if_pos rfl, List.getElem?_append_left (by omega), List.getElem?_set_self hl]
        · rw [if_neg hi2]
          by_cases hi3 : i < d + 2
          · rw [List.getElem?_append_left (by omega), List.getElem?_set_ne (by omega)]
          · rw [List.getElem?_eq_none (by rw [List.length_append, hln]; simp; omega), List.getElem?_eq_none (by omega)]
    rw [e] at hw ⊢
    refine ⟨by rw [h.le]; simp; omega, ⟨hw, h.mo, by have := h.li; show s.live + 1 < _; omega, by simp [addT, h.le]; omega, ?_, ?_, ?_, ?_⟩⟩
    · obtain ⟨r, r1, r2, r3, r4⟩ := h.ro
      exact ⟨r, by rw [hat, if_neg (by omega), if_neg (by omega), r1], r2, r3⟩
    · exact ⟨{ x with bl := x.bl ++ [s.ts.length + 1] }, by rw [hat, if_neg (by omega), if_pos rfl], x2, x4⟩
    · exact ⟨newY 2 (d + 1 + 1) x, by rw [hat, if_pos rfl], rfl, rfl, rfl, rfl⟩
    · intro i y hy
      rw [hat] at hy
      by_cases hi : i = d + 2
      · rw [if_pos hi] at hy
        injection hy with hy
        subst hy
        exact .inl rfl
      · rw [if_neg hi] at hy
        by_cases hi2 : i = d + 1
        · rw [if_pos hi2] at hy
          injection hy with hy
          subst hy
          exact .inr x4
        · rw [if_neg hi2] at hy
          have hli := (List.getElem?_eq_some_iff.1 hy).1
          rcases Nat.eq_zero_or_pos i with rfl | hp
          · obtain ⟨r, r1, r2, r3, r4⟩ := h.ro
            rw [hy] at r1
            injection r1 with r1
            subst r1
            exact .inl r4
          · obtain ⟨z, z1, z2, z3, z4, z5⟩ := h.jo i hp (by omega)
            rw [hy] at z1
            injection z1 with z1
            subst z1
            exact .inr z4
theorem pr_thread {nb d : Nat} {s : Tr} (h : PrI nb d s) : (andI nb 4 ≠ 0 → makeC s 3 ((d : Int) + 3) = ((0, -30), s)) ∧
    (andI nb 4 = 0 → ∃ n, (makeC s 3 ((d : Int) + 3)).1 = (n, 0)) ∧ (makeC s 3 ((d : Int) + 3)).2.ts.length ≤ 101 ∧ WfT (makeC s 3 ((d : Int) + 3)).2 ∧ 
    (∃ x, (makeC s 3 ((d : Int) + 3)).2.ts[0]? = some x ∧ x.kd = 1 ∧ x.st ≠ 2) ∧ (∃ x, (makeC s 3 ((d : Int) + 3)).2.ts[d + 1]? = some x ∧ x.po = nb) ∧ (∃ x, (makeC s 3 ((d : Int) + 3)).2.ts[d + 2]? = some x ∧ x.kd = 2 ∧ x.pa = d + 2 ∧ x.st = 0 ∧ x.cr = 0) ∧ (∀ (i : Nat) (x : Tk), (makeC s 3 ((d : Int) + 3)).2.ts[i]? = some x → x.po = 0 ∨ x.po = nb) := by
  obtain ⟨p, p1, p2, p3, p4, p5⟩ := h.pr
  obtain ⟨j, j1, j2, j3⟩ := h.jo
  have ht : taskAt s ((d : Int) + 3) = some p := by rw [show (d : Int) + 3 = ((d + 3 : Nat) : Int) by omega, taskAt_nat (by omega)]; exact p1
  have htj : taskAt s (p.pa : Int) = some j := by rw [p3, taskAt_nat (by omega)]; exact j1
  have hm : makeSt s p 3 = if andI nb 4 ≠ 0 then -30 else 0 := by
    unfold makeSt andI
    have hj : jobOf s p = j := by unfold jobOf; rw [if_pos p2, htj]; rfl
    have hli := h.li
    rw [hj, p2, j3, show fitsT 3 ((2 : Nat) : Int) = true by decide, if_neg (by decide), if_neg (by omega), show forbidsT 3 = 4 by decide, h.mo]
    by_cases h2 : bits .and .i64 (nb : Int) 4 ≠ 0
    · rw [if_pos h2, if_pos h2]
    · rw [if_neg h2, if_neg h2, if_neg (by omega), if_neg (by omega)]
  have hle := h.le
  by_cases h2 : andI nb 4 ≠ 0
  · rw [if_pos h2] at hm
    have e : makeC s 3 ((d : Int) + 3) = ((0, -30), s) := by
      unfold makeC
      rw [ht]
      simp only
      rw [if_neg (by rw [hm]; decide), hm]
    rw [e]
    exact ⟨fun _ => rfl, fun h3 => absurd h3 h2, by show s.ts.length ≤ 101; omega, h.wf, h.ro, ⟨j, j1, j3⟩, ⟨p, p1, p2, p3, p4, p5⟩, h.al⟩
  · rw [if_neg h2] at hm
    have e : makeC s 3 ((d : Int) + 3) = (((s.ts.length : Int) + 1, 0), addT s (d + 2) p 3) := by
      unfold makeC
      rw [ht]
      simp only
      rw [if_pos hm, show ((d : Int) + 3).toNat - 1 = d + 2 by omega]
      rfl
    have hw := h.wf.make 3 ((d : Int) + 3)
    have hl := (List.getElem?_eq_some_iff.1 p1).1
    have hln : (s.ts.set (d + 2) { p with bl := p.bl ++ [s.ts.length + 1] }).length = s.ts.length := List.length_set
    have hat : ∀ i, i < s.ts.length → (addT s (d + 2) p 3).ts[i]? = if i = d + 2 then some { p with bl := p.bl ++ [s.ts.length + 1] } else s.ts[i]? := fun i hi => by
      show (s.ts.set (d + 2) { p with bl := p.bl ++ [s.ts.length + 1] } ++ [newY 3 (d + 2 + 1) p])[i]? = _
      rw [List.getElem?_append_left (by omega)]
      by_cases hi2 : i = d + 2
      · subst hi2
        rw [if_pos rfl, List.getElem?_set_self hl]
      · rw [if_neg hi2, List.getElem?_set_ne (by omega)]
    rw [e] at hw ⊢
    refine ⟨fun h3 => absurd h3 h2, fun _ => ⟨_, rfl⟩, by simp [addT]; omega, hw, ?_, ?_, ?_, ?_⟩
    · obtain ⟨r, r1, r2, r3⟩ := h.ro
      exact ⟨r, by rw [hat 0 (by omega), if_neg (by omega), r1], r2, r3⟩
    · exact ⟨j, by rw [hat _ (by omega), if_neg (by omega), j1], j3⟩
    · exact ⟨{ p with bl := p.bl ++ [s.ts.length + 1] }, by rw [hat _ (by omega), if_pos rfl], p2, p3, p4, p5⟩
    · intro i y hy
      have hyl := (List.getElem?_eq_some_iff.1 hy).1
      by_cases hi : i < s.ts.length
      · rw [hat i hi] at hy
        by_cases hi2 : i = d + 2
        · rw [if_pos hi2] at hy
          injection hy with hy
          subst hy
          exact h.al _ p p1
        · rw [if_neg hi2] at hy
          exact h.al i y hy
      · have hy' : (s.ts.set (d + 2) { p with bl := p.bl ++ [s.ts.length + 1] } ++ [newY 3 (d + 2 + 1) p])[i]? = some y := hy
        rw [List.getElem?_append_right (by omega)] at hy'
        have h3 := (List.getElem?_eq_some_iff.1 hy').1
        simp only [List.length_singleton] at h3
        rw [show i - (s.ts.set (d + 2) { p with bl := p.bl ++ [s.ts.length + 1] }).length = 0 by omega] at hy'
        simp only [List.getElem?_cons_zero, Option.some.injEq] at hy'
        subst hy'
        exact .inl rfl
/-- All stand below the root. -/
theorem under_root {s : Tr} (hw : WfT s) : ∀ (n : Nat) (i : Nat), i ≤ n → 1 ≤ i → i ≤ s.ts.length → underT s (i : Int) 1 = true
  | 0, i, h1, h2, _ => by omega
  | n + 1, i, h1, h2, h3 => by
    obtain ⟨x, hx⟩ : ∃ x, s.ts[i - 1]? = some x := ⟨_, List.getElem?_eq_getElem (by omega)⟩
    rw [under_some hw.up (x := x) (by rw [taskAt_nat h2]; exact hx)]
    by_cases hi : (i : Int) = 1
    · rw [if_pos hi]
    · rw [if_neg hi]
      have hp := hw.task _ x hx
      exact under_root hw n x.pa (by omega) (hp.2.1 (by omega)) (by omega)
theorem bar_no {s : Tr} {job : Int} (h : ∀ (i : Nat) (x : Tk), s.ts[i]? = some x → bits .and .i64 (x.po : Int) 8 = 0) : ∀ (n : Nat) (i : Int), barT s job n i ≠ some true
  | 0, _ => by simp [barT]
  | n + 1, i => by
    unfold barT
    cases ht : taskAt s i with
    | none => simp
    | some x =>
      simp only
      rw [if_neg (by rw [h _ x (taskAt_get ht)]; simp)]
      by_cases hj : i = job
      · rw [if_pos hj]
        simp
      · rw [if_neg hj]
        exact bar_no h n x.pa
theorem pr_crit {nb d : Nat} {s : Tr} (hw : WfT s) (hr : ∃ x, s.ts[0]? = some x ∧ x.kd = 1 ∧ x.st ≠ 2) (hj : ∃ x, s.ts[d + 1]? = some x ∧ x.po = nb) (hp : ∃ x, s.ts[d + 2]? = some x ∧ x.kd = 2 ∧ x.pa = d + 2 ∧ x.st = 0 ∧ x.cr = 0) (ha : ∀ (i : Nat) (x : Tk), s.ts[i]? = some x → x.po = 0 ∨ x.po = nb) :
    (critC s ((d : Int) + 3) 1).1 = if andI nb 8 ≠ 0 then -30 else 0 := by
  obtain ⟨r, r1, r2, r3⟩ := hr
  obtain ⟨j, j1, j2⟩ := hj
  obtain ⟨p, p1, p2, p3, p4, p5⟩ := hp
  have ht : taskAt s ((d : Int) + 3) = some p := by rw [show (d : Int) + 3 = ((d + 3 : Nat) : Int) by omega, taskAt_nat (by omega)]; exact p1
  have htr : taskAt s 1 = some r := by rw [show (1 : Int) = ((1 : Nat) : Int) from rfl, taskAt_nat (by omega)]; exact r1
  have hl := (List.getElem?_eq_some_iff.1 p1).1
  have hu : underT s ((d : Int) + 3) 1 = true := by
    have := under_root hw (d + 3) (d + 3) (Nat.le_refl _) (by omega) (by omega)
    rwa [show ((d + 3 : Nat) : Int) = (d : Int) + 3 by omega] at this
  have hc : critSt s p r ((d : Int) + 3) 1 = if andI nb 8 ≠ 0 then -30 else 0 := by
    unfold critSt
    rw [if_neg (by omega), hu, if_neg (by decide), if_neg (by omega)]
    by_cases h8 : andI nb 8 ≠ 0
    · rw [if_pos h8]
      have htj : taskAt s (p.pa : Int) = some j := by rw [p3, taskAt_nat (by omega)]; exact j1
      rw [if_pos]
      unfold barT
      rw [htj]
      simp only
      rw [j2]
      unfold andI at h8
      rw [if_pos h8]
    · rw [if_neg h8]
      have h80 : andI nb 8 = 0 := by simpa using h8
      rw [if_neg]
      refine bar_no (fun i x hx => ?_) _ _
      rcases ha i x hx with h0 | h0
      · rw [h0]
        decide +kernel
      · rw [h0]
        exact h80
  unfold critC
  rw [ht, htr]
  simp only
  by_cases hz : critSt s p r ((d : Int) + 3) 1 = 0
  · rw [if_pos hz, ← hc, hz]
  · rw [if_neg hz]
    exact hc
end Go.Proofs.Ytojmhacafmpbgaa.Tk
