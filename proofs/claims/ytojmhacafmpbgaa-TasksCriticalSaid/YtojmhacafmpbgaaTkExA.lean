/- TasksExits: the plain law. -/
import Derived.Test.YtojmhacafmpbgaaTkS
namespace Go.Proofs.Ytojmhacafmpbgaa.Tk
open Go
set_option linter.unusedVariables false
set_option linter.unusedSimpArgs false
/-- A process with m threads, of which the first r were started and the first q have left. -/
structure ExI (m r q : Nat) (s : Tr) : Prop where
  wf : WfT s
  mo : s.most = 100
  le : s.ts.length = 2 + m
  li : s.live + q = 2 + m
  ro : ∃ x, s.ts[0]? = some x ∧ x.kd = 1 ∧ x.pa = 0 ∧ x.st ≠ 2 ∧ x.po = 0 ∧ x.cr = 0
  pr : ∃ x, s.ts[1]? = some x ∧ x.kd = 2 ∧ x.pa = 1 ∧ x.st = 1 ∧ x.cr = 0
  th : ∀ j, j < m → ∃ x, s.ts[2 + j]? = some x ∧ x.kd = 3 ∧ x.pa = 2 ∧ x.cr = 0 ∧ x.st = if j < q then 2 else if j < r then 1 else 0
def exS1 : Tr := addT (newT 100) 0 rootT 2
def exS2 : Tr := ⟨exS1.ts.set 1 { newY 2 1 rootT with st := 1 }, 100, 2⟩
theorem ex_make : makeC (newT 100) 2 1 = ((2, 0), exS1) := by
  have h : makeSt (newT 100) rootT 2 = 0 := by decide +kernel
  have ht : taskAt (newT 100) 1 = some rootT := rfl
  unfold makeC
  rw [ht]
  simp only
  rw [if_pos h]
  rfl
theorem ex_start : startC exS1 2 = (0, exS2) := by
  have ht : taskAt exS1 2 = some (newY 2 1 rootT) := rfl
  unfold startC
  rw [ht]
  simp only
  rw [if_neg (by decide), if_neg (by decide)]
  rfl
theorem ex_zero : ExI 0 0 0 exS2 := by
  have h1 := (wf_new 100).make 2 1
  rw [ex_make] at h1
  have h2 := h1.start 2
  rw [ex_start] at h2
  exact ⟨h2, rfl, rfl, rfl, ⟨_, rfl, rfl, rfl, by decide, rfl, rfl⟩, ⟨_, rfl, rfl, rfl, rfl, rfl⟩, fun j hj => absurd hj (by omega)⟩
theorem ex_thread {m : Nat} {s : Tr} (h : ExI m 0 0 s) (hm : m < 30) : (makeC s 3 2).1 = ((m : Int) + 3, 0) ∧ ExI (m + 1) 0 0 (makeC s 3 2).2 := by
  obtain ⟨p, p1, p2, p3, p4, p5⟩ := h.pr
  obtain ⟨r, r1, r2, r3, r4, r5, r6⟩ := h.ro
  have ht : taskAt s 2 = some p := by rw [show (2 : Int) = ((2 : Nat) : Int) from rfl, taskAt_nat (by omega)]; exact p1
  have ht1 : taskAt s ((1 : Nat) : Int) = some r := by rw [taskAt_nat (by omega)]; exact r1
  have hms : makeSt s p 3 = 0 := by
    unfold makeSt
    have hj : jobOf s p = r := by unfold jobOf; rw [if_pos p2, p3, ht1]; rfl
    have hli := h.li
    rw [hj, p2, r5, show fitsT 3 ((2 : Nat) : Int) = true by decide, if_neg (by decide), if_neg (by omega), show forbidsT 3 = 4 by decide, if_neg (by decide +kernel), if_neg (by omega), if_neg (by rw [h.mo]; omega)]
  have e : makeC s 3 2 = (((s.ts.length : Int) + 1, 0), addT s 1 p 3) := by
    unfold makeC
    rw [ht]
    simp only
    rw [if_pos hms]
    rfl
  have hw := h.wf.make 3 2
  have hl := (List.getElem?_eq_some_iff.1 p1).1
  have hln : (s.ts.set 1 { p with bl := p.bl ++ [s.ts.length + 1] }).length = s.ts.length := List.length_set
  have hle := h.le
  rw [e] at hw ⊢
  refine ⟨by rw [h.le]; simp; omega, ⟨hw, h.mo, by simp [addT, h.le]; omega, by have := h.li; show s.live + 1 + 0 = _; omega, ?_, ?_, ?_⟩⟩
  · refine ⟨r, ?_, r2, r3, r4, r5, r6⟩
    show (s.ts.set 1 { p with bl := p.bl ++ [s.ts.length + 1] } ++ [newY 3 (1 + 1) p])[0]? = _
    rw [List.getElem?_append_left (by omega), List.getElem?_set_ne (by omega), r1]
  · refine ⟨{ p with bl := p.bl ++ [s.ts.length + 1] }, ?_, p2, p3, p4, p5⟩
    show (s.ts.set 1 { p with bl := p.bl ++ [s.ts.length + 1] } ++ [newY 3 (1 + 1) p])[1]? = _
    rw [List.getElem?_append_left (by omega), List.getElem?_set_self hl]
  · intro j hj
    by_cases hjm : j < m
    · obtain ⟨x, x1, x2, x3, x4, x5⟩ := h.th j hjm
      refine ⟨x, ?_, x2, x3, x4, x5⟩
      show (s.ts.set 1 { p with bl := p.bl ++ [s.ts.length + 1] } ++ [newY 3 (1 + 1) p])[2 + j]? = _
      rw [List.getElem?_append_left (by omega), List.getElem?_set_ne (by omega), x1]
    · obtain rfl : j = m := by omega
      refine ⟨newY 3 (1 + 1) p, ?_, rfl, rfl, rfl, rfl⟩
      show (s.ts.set 1 { p with bl := p.bl ++ [s.ts.length + 1] } ++ [newY 3 (1 + 1) p])[2 + j]? = _
      rw [List.getElem?_append_right (by omega), hln, hle, Nat.sub_self]
      rfl
theorem ex_run {m r : Nat} {s : Tr} (h : ExI m r 0 s) (hr : r < m) : (startC s ((r : Int) + 3)).1 = 0 ∧ ExI m (r + 1) 0 (startC s ((r : Int) + 3)).2 := by
  obtain ⟨x, x1, x2, x3, x4, x5⟩ := h.th r hr
  obtain ⟨p, p1, p2, p3, p4, p5⟩ := h.pr
  obtain ⟨q, q1, q2, q3, q4, q5, q6⟩ := h.ro
  rw [if_neg (by omega), if_neg (by omega)] at x5
  have eid : ((r : Int) + 3) = ((r + 3 : Nat) : Int) := by omega
  have ht : taskAt s ((r : Int) + 3) = some x := by rw [eid, taskAt_nat (by omega), show r + 3 - 1 = 2 + r by omega]; exact x1
  have hst : stOf s ((2 : Nat) : Int) = 1 := by
    unfold stOf
    rw [taskAt_nat (by omega), show s.ts[2 - 1]? = some p from p1]
    exact p4
  have e : startC s ((r : Int) + 3) = (0, { s with ts := s.ts.set (2 + r) { x with st := 1 } }) := by
    unfold startC
    rw [ht]
    simp only
    rw [if_neg (by omega), if_neg (by rw [x3, hst, x5]; simp), show ((r : Int) + 3 - 1).toNat = 2 + r by omega]
  have hw := h.wf.start ((r : Int) + 3)
  have hl := (List.getElem?_eq_some_iff.1 x1).1
  rw [e] at hw ⊢
  refine ⟨rfl, ⟨hw, h.mo, by simp [h.le], h.li, ?_, ?_, ?_⟩⟩
  · exact ⟨q, by show (s.ts.set (2 + r) _)[0]? = _; rw [List.getElem?_set_ne (by omega), q1], q2, q3, q4, q5, q6⟩
  · exact ⟨p, by show (s.ts.set (2 + r) _)[1]? = _; rw [List.getElem?_set_ne (by omega), p1], p2, p3, p4, p5⟩
  · intro j hj
    by_cases hjr : j = r
    · subst hjr
      refine ⟨{ x with st := 1 }, ?_, x2, x3, x4, ?_⟩
      · show (s.ts.set (2 + j) _)[2 + j]? = _
        rw [List.getElem?_set_self hl]
      · rw [if_neg (by omega), if_pos (by omega)]
    · obtain ⟨y, y1, y2, y3, y4, y5⟩ := h.th j hj
      refine ⟨y, ?_, y2, y3, y4, ?_⟩
      · show (s.ts.set (2 + r) _)[2 + j]? = _
        rw [List.getElem?_set_ne (by omega), y1]
      · rw [y5]
        by_cases h1 : j < r
        · rw [if_neg (by omega), if_pos h1, if_neg (by omega), if_pos (by omega)]
        · rw [if_neg (by omega), if_neg h1, if_neg (by omega), if_neg (by omega)]
/-- What stands below the process are its threads. -/
theorem ex_kids {m r q : Nat} {s : Tr} (h : ExI m r q s) {c : Nat} : c ∈ kids s.ts 2 ↔ ∃ j, j < m ∧ c = j + 3 := by
  rw [kids_mem]
  constructor
  · rintro ⟨i, x, hx, hp, rfl⟩
    have hl := (List.getElem?_eq_some_iff.1 hx).1
    have hle := h.le
    rcases (by omega : i = 0 ∨ i = 1 ∨ 2 ≤ i) with rfl | rfl | h2
    · obtain ⟨y, y1, y2, y3, -⟩ := h.ro
      rw [hx] at y1
      injection y1 with y1
      subst y1
      omega
    · obtain ⟨y, y1, y2, y3, -⟩ := h.pr
      rw [hx] at y1
      injection y1 with y1
      subst y1
      omega
    · exact ⟨i - 2, by omega, by omega⟩
  · rintro ⟨j, hj, rfl⟩
    obtain ⟨x, x1, x2, x3, x4, x5⟩ := h.th j hj
    exact ⟨2 + j, x, x1, x3, by omega⟩
/-- A thread has nothing below it. -/
theorem ex_leaf {m r q : Nat} {s : Tr} (h : ExI m r q s) {j : Nat} {x : Tk} (hx : s.ts[2 + j]? = some x) : x.bl = [] := by
  rw [h.wf.bl _ _ hx, List.eq_nil_iff_forall_not_mem]
  intro c hc
  obtain ⟨i, y, hy, hp, rfl⟩ := kids_mem.1 hc
  have hl := (List.getElem?_eq_some_iff.1 hy).1
  have hle := h.le
  have hu := (h.wf.task i y hy).1
  obtain ⟨z, z1, z2, z3, -⟩ := h.th (i - 2) (by omega)
  rw [show 2 + (i - 2) = i by omega, hy] at z1
  injection z1 with z1
  subst z1
  omega
theorem ex_st {m r q : Nat} {s : Tr} (h : ExI m r q s) (hq : q < m) : exitSt s ((q : Int) + 3) = if q < r then 0 else -20 := by
  obtain ⟨x, x1, x2, x3, x4, x5⟩ := h.th q hq
  have ht : taskAt s ((q : Int) + 3) = some x := by rw [show ((q : Int) + 3) = ((q + 3 : Nat) : Int) by omega, taskAt_nat (by omega), show q + 3 - 1 = 2 + q by omega]; exact x1
  rw [if_neg (Nat.lt_irrefl q)] at x5
  unfold exitSt
  rw [ht]
  simp only
  rw [if_neg (show ¬ x.kd ≠ 3 by omega)]
  by_cases hr : q < r
  · rw [if_pos hr] at x5
    rw [if_pos hr, if_neg (by omega)]
  · rw [if_neg hr] at x5
    rw [if_neg hr, if_pos (by omega)]
theorem ex_alive {m r q : Nat} {s : Tr} (h : ExI m r q s) : aliveT s 2 = true := by
  obtain ⟨p, p1, p2, p3, p4, p5⟩ := h.pr
  have := (alive_nat (s := s) (i := 2)).2 ⟨p, by omega, p1, by omega⟩
  exact this
theorem ex_exit {m r q : Nat} {s : Tr} (h : ExI m r q s) (hq : q < r) (hr : r ≤ m) (hm : m ≤ 30) {c : Int} {R : Tr × List Nat} (hR : ExitR s ((q : Int) + 3) c R) :
    (q + 1 < m ∧ R.2 = [q + 3] ∧ ExI m r (q + 1) R.1) ∨ (q + 1 = m ∧ R.2 = [q + 3, 2] ∧ aliveT R.1 2 = false ∧ R.1.live = 1 ∧ ∃ x, taskAt R.1 2 = some x ∧ x.co = c) := by
  obtain ⟨x, x1, x2, x3, x4, x5⟩ := h.th q (by omega)
  rw [if_neg (by omega), if_pos hq] at x5
  have hz : exitSt s ((q : Int) + 3) = 0 := by rw [ex_st h (by omega), if_pos hq]
  unfold ExitR at hR
  rw [if_pos hz] at hR
  obtain ⟨i, x', R1, o1, y, hi, hx', ⟨g, hg, hR1⟩, hD, hy, hcase⟩ := hR
  obtain rfl : i = q + 3 := by omega
  rw [hi, taskAt_nat (by omega), show q + 3 - 1 = 2 + q by omega, x1] at hx'
  injection hx' with hx'
  subst hx'
  have hal : aliveT s ((q + 3 : Nat) : Int) = true := alive_nat.2 ⟨x, by omega, by rw [show q + 3 - 1 = 2 + q by omega]; exact x1, by omega⟩
  have e1 := dies_one hD hal (fun i => i = q + 3) (fun i z hi1 hz hii => by
    subst hii
    rw [show q + 3 - 1 = 2 + q by omega, x1] at hz
    injection hz with hz
    subst hz
    exact ⟨by rw [ex_leaf h x1]; simp, fun h => absurd x4 h⟩) rfl (fun i h _ => h)
  subst e1
  -- the tree behind the thread's end
  have hmk : ∀ k, (markT s [q + 3] c).ts[k]? = (s.ts[k]?).map fun x => if k + 1 ∈ [q + 3] then { x with st := 2, co := c } else x := fun k => markL_get _ _ _ _
  have hI : ExI m r (q + 1) (markT s [q + 3] c) := by
    refine ⟨hD.wf, h.mo, by rw [show (markT s [q + 3] c).ts.length = s.ts.length from markL_len _ _ _, h.le], ?_, ?_, ?_, ?_⟩
    · have := h.li
      show s.live - 1 + (q + 1) = _
      omega
    · obtain ⟨z, z1, z2⟩ := h.ro
      refine ⟨z, ?_, z2⟩
      rw [hmk, z1, Option.map_some, if_neg (by simp)]
    · obtain ⟨z, z1, z2⟩ := h.pr
      refine ⟨z, ?_, z2⟩
      rw [hmk, z1, Option.map_some, if_neg (by simp)]
    · intro j hj
      obtain ⟨z, z1, z2, z3, z4, z5⟩ := h.th j hj
      rw [hmk, z1, Option.map_some]
      by_cases hjq : j = q
      · subst hjq
        rw [if_pos (by simp; omega)]
        exact ⟨_, rfl, z2, z3, z4, by rw [if_pos (by omega)]⟩
      · rw [if_neg (by simp; omega)]
        refine ⟨_, rfl, z2, z3, z4, ?_⟩
        rw [z5]
        by_cases h1 : j < q
        · rw [if_pos h1, if_pos (by omega)]
        · rw [if_neg h1, if_neg (show ¬ j < q + 1 by omega)]
  rw [x3] at hy hcase
  simp only at hy hcase
  obtain ⟨p, p1, p2, p3, p4, p5⟩ := hI.pr
  rw [taskAt_nat (by omega), show (markT s [q + 3] c).ts[2 - 1]? = some p from p1] at hy
  injection hy with hy
  subst hy
  have hbl := hI.wf.bl 1 p p1
  by_cases hlast : q + 1 < m
  · refine .inl ⟨hlast, ?_⟩
    rcases hcase with ⟨hf, rfl⟩ | ⟨hf, -⟩
    · exact ⟨rfl, hI⟩
    · exfalso
      have hn := first_none hf (q + 1 + 3) (by rw [hbl, ex_kids hI]; exact ⟨q + 1, hlast, rfl⟩)
      obtain ⟨z, z1, z2, z3, z4, z5⟩ := hI.th (q + 1) hlast
      rw [if_neg (by omega)] at z5
      rw [alive_nat.2 ⟨z, by omega, by rw [show q + 1 + 3 - 1 = 2 + (q + 1) by omega]; exact z1, by rw [z5]; split <;> simp⟩] at hn
      cases hn
  · obtain rfl : q + 1 = m := by omega
    refine .inr ⟨rfl, ?_⟩
    have hdead : ∀ k ∈ p.bl, aliveT (markT s [q + 3] c) (k : Nat) = false := by
      intro k hk
      rw [hbl, ex_kids hI] at hk
      obtain ⟨j, hj, rfl⟩ := hk
      obtain ⟨z, z1, z2, z3, z4, z5⟩ := hI.th j hj
      rw [if_pos hj] at z5
      cases hh : aliveT (markT s [q + 3] c) ((j + 3 : Nat) : Int) with
      | false => rfl
      | true =>
        obtain ⟨y, -, y1, y2⟩ := alive_nat.1 hh
        rw [show j + 3 - 1 = 2 + j by omega, z1] at y1
        injection y1 with y1
        subst y1
        exact absurd z5 y2
    rcases hcase with ⟨hf, -⟩ | ⟨hf, R2, o2, ⟨g2, hg2, hR2⟩, hD2, rfl⟩
    · exfalso
      cases hff : firstT (markT s [q + 3] c) p.bl with
      | none => rw [hff] at hf; cases hf
      | some k =>
        obtain ⟨k1, k2⟩ := first_mem hff
        rw [hdead k k1] at k2
        cases k2
    · have hal2 := ex_alive hI
      have e2 := dies_one hD2 hal2 (fun i => i = 2 ∨ i ∈ p.bl) (fun i z hi1 hz hii => by
        rcases hii with rfl | hii
        · rw [show (markT s [q + 3] c).ts[2 - 1]? = some p from p1] at hz
          injection hz with hz
          subst hz
          exact ⟨fun k hk => .inr hk, fun h => absurd p5 h⟩
        · rw [hbl, ex_kids hI] at hii
          obtain ⟨j, hj, rfl⟩ := hii
          obtain ⟨y, y1, y2, y3, y4, y5⟩ := hI.th j hj
          rw [show j + 3 - 1 = 2 + j by omega, y1] at hz
          injection hz with hz
          subst hz
          exact ⟨by rw [ex_leaf hI y1]; simp, fun h => absurd y4 h⟩) (.inl rfl) (fun i hii ha => by
        rcases hii with rfl | hii
        · rfl
        · rw [hdead i hii] at ha
          cases ha)
      subst e2
      refine ⟨rfl, ?_, ?_, ?_⟩
      · have := hD2.gone 2 (by simp)
        exact this
      · have := hI.li
        show (markT s [q + 3] c).live - 1 = 1
        omega
      · refine ⟨{ p with st := 2, co := c }, ?_, rfl⟩
        show taskAt (markT (markT s [q + 3] c) [2] c) ((2 : Nat) : Int) = _
        rw [taskAt_nat (by omega)]
        show (markL (markT s [q + 3] c).ts [2] c)[1]? = _
        rw [markL_get, p1, Option.map_some, if_pos (by simp)]
end Go.Proofs.Ytojmhacafmpbgaa.Tk
