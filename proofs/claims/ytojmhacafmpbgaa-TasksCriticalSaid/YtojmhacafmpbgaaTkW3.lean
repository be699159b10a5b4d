/- The tree of tasks in the plain: what holds of a tree holds behind each call. -/
import Derived.Test.YtojmhacafmpbgaaTkW2
namespace Go.Proofs.Ytojmhacafmpbgaa.Tk
open Go
set_option linter.unusedVariables false
set_option linter.unusedSimpArgs false
theorem wf_new (most : Nat) : WfT (newT most) := by
  refine ⟨⟨rootT, rfl, rfl, rfl, rfl⟩, ?_, ?_, ?_, rfl⟩
  · intro i x hx
    have hi := (List.getElem?_eq_some_iff.1 hx).1
    have : i = 0 := by simp [newT] at hi; omega
    subst this
    simp only [newT, List.getElem?_cons_zero, Option.some.injEq] at hx
    subst hx
    simp [rootT]
  · intro i x hx h0
    have hi := (List.getElem?_eq_some_iff.1 hx).1
    simp [newT] at hi
    omega
  · intro i x hx
    have hi := (List.getElem?_eq_some_iff.1 hx).1
    have : i = 0 := by simp [newT] at hi; omega
    subst this
    simp only [newT, List.getElem?_cons_zero, Option.some.injEq] at hx
    subst hx
    rfl
theorem kids_set {ts : List Tk} {i : Nat} {x x' : Tk} (hx : ts[i]? = some x) (hp : x'.pa = x.pa) (p : Nat) : kids (ts.set i x') p = kids ts p := by
  unfold kids
  rw [List.length_set]
  congr 1
  refine List.filter_congr fun j _ => ?_
  rw [List.getElem?_set]
  by_cases hj : i = j
  · subst hj
    rw [if_pos rfl, if_pos (List.getElem?_eq_some_iff.1 hx).1, hx, Option.map_some, Option.map_some, hp]
  · rw [if_neg hj]
theorem countP_same {l : List Tk} {i : Nat} {x y : Tk} (h : l[i]? = some x) (hy : alv y = alv x) : (l.set i y).countP alv = l.countP alv := by
  induction l generalizing i with
  | nil => simp at h
  | cons a l ih =>
    cases i with
    | zero =>
      simp only [List.getElem?_cons_zero, Option.some.injEq] at h
      subst h
      simp [List.countP_cons, hy]
    | succ i =>
      have := ih (i := i) (by simpa using h)
      simp only [List.set_cons_succ, List.countP_cons, this]
theorem WfT.set_ {s : Tr} (h : WfT s) {i : Nat} {x x' : Tk} (hx : s.ts[i]? = some x) (hk : x'.kd = x.kd) (hp : x'.pa = x.pa) (hb : x'.bl = x.bl) (hd : x'.dp = x.dp) (hst : x'.st = 2 ↔ x.st = 2) (hs2 : x'.st ≤ 2) (hk1 : x.kd = 1 → x'.st ≠ 0) (hc : x'.cr ≤ i) (hc2 : x'.cr ≠ 0 → x.kd = 2) (hpo : x'.po ≤ 15) : WfT { s with ts := s.ts.set i x' } := by
  have hl := (List.getElem?_eq_some_iff.1 hx).1
  have hget : ∀ j y, (s.ts.set i x')[j]? = some y → (j = i ∧ y = x') ∨ (j ≠ i ∧ s.ts[j]? = some y) := fun j y hy => by
    rw [List.getElem?_set] at hy
    by_cases hj : i = j
    · rw [if_pos hj, if_pos (by omega)] at hy
      injection hy with hy
      exact .inl ⟨hj.symm, hy.symm⟩
    · rw [if_neg hj] at hy
      exact .inr ⟨fun e => hj e.symm, hy⟩
  refine ⟨?_, ?_, ?_, ?_, ?_⟩
  · obtain ⟨r, h1, h2, h3, h4⟩ := h.root
    show ∃ y, (s.ts.set i x')[0]? = some y ∧ _
    rw [List.getElem?_set]
    by_cases hi : i = 0
    · subst hi
      rw [h1] at hx
      injection hx with hx
      subst hx
      exact ⟨x', by rw [if_pos rfl, if_pos hl], by rw [hk, h2], by rw [hp, h3], by rw [hd, h4]⟩
    · exact ⟨r, by rw [if_neg hi]; exact h1, h2, h3, h4⟩
  · intro j y hy
    rcases hget j y hy with ⟨rfl, rfl⟩ | ⟨hj, hy⟩
    · obtain ⟨a1, a2, a3, a4, a5, a6, a7, a8⟩ := h.task j x hx
      rw [hp, hk, hd]
      exact ⟨a1, a2, hs2, hk1, hc, hc2, hpo, a8⟩
    · exact h.task j y hy
  · intro j y hy h0
    show ∃ q, (s.ts.set i x')[y.pa - 1]? = some q ∧ _
    have hsame : ∀ z q, (if i = z then (if z < s.ts.length then some x' else none) else s.ts[z]?) = some q → True := fun _ _ _ => trivial
    have par : ∀ pa q, s.ts[pa - 1]? = some q → ∃ q', (s.ts.set i x')[pa - 1]? = some q' ∧ q'.kd = q.kd ∧ (q'.st = 2 ↔ q.st = 2) ∧ q'.dp = q.dp := fun pa q hq => by
      rw [List.getElem?_set]
      by_cases hi : i = pa - 1
      · subst hi
        rw [hx] at hq
        injection hq with hq
        subst hq
        exact ⟨x', by rw [if_pos rfl, if_pos hl], hk, hst, hd⟩
      · exact ⟨q, by rw [if_neg hi]; exact hq, rfl, Iff.rfl, rfl⟩
    rcases hget j y hy with ⟨rfl, rfl⟩ | ⟨hj, hy⟩
    · obtain ⟨q, b1, b2, b3, b4⟩ := h.par j x hx h0
      obtain ⟨q', c1, c2, c3, c4⟩ := par _ q b1
      refine ⟨q', by rw [hp]; exact c1, by rw [hk, c2]; exact b2, fun hq => hst.2 (b3 (c3.1 hq)), fun hkk => by rw [hd, c4]; exact b4 (by rw [← hk]; exact hkk)⟩
    · obtain ⟨q, b1, b2, b3, b4⟩ := h.par j y hy h0
      obtain ⟨q', c1, c2, c3, c4⟩ := par _ q b1
      exact ⟨q', c1, by rw [c2]; exact b2, fun hq => b3 (c3.1 hq), fun hkk => by rw [c4]; exact b4 hkk⟩
  · intro j y hy
    show y.bl = kids (s.ts.set i x') (j + 1)
    rw [kids_set hx hp]
    rcases hget j y hy with ⟨rfl, rfl⟩ | ⟨hj, hy⟩
    · rw [hb]
      exact h.bl j x hx
    · exact h.bl j y hy
  · show s.live = (s.ts.set i x').countP alv
    rw [countP_same hx (by simp [alv, hst]), h.live]
/-- What Make does. -/
def makeC (s : Tr) (k parent : Int) : (Int × Int) × Tr := match taskAt s parent with
  | none => ((0, -25), s)
  | some x => if makeSt s x k = 0 then (((s.ts.length : Int) + 1, 0), addT s (parent.toNat - 1) x k.toNat) else ((0, makeSt s x k), s)
theorem kids_add {ts : List Tk} {y : Tk} (p : Nat) : kids (ts ++ [y]) p = kids ts p ++ (if y.pa = p then [ts.length + 1] else []) := by
  unfold kids
  rw [List.length_append, List.length_singleton, List.range_succ, List.filter_append, List.map_append]
  congr 1
  · congr 1
    refine List.filter_congr fun i hi => ?_
    rw [List.getElem?_append_left (List.mem_range.1 hi)]
  · by_cases h : y.pa = p
    · simp [h]
    · simp [h]
theorem fits_iff {k p : Nat} : fitsT k p = true ↔ (k = 1 ∨ k = 2) ∧ p = 1 ∨ k = 3 ∧ p = 2 := by
  unfold fitsT
  rw [decide_eq_true_eq]
  omega
theorem make_facts {s : Tr} {x : Tk} {k : Int} (h : makeSt s x k = 0) : fitsT k x.kd = true ∧ x.st ≠ 2 ∧ (k = 1 → x.dp < 16) ∧ s.live < s.most := by
  unfold makeSt at h
  by_cases c1 : fitsT k x.kd = false
  · rw [if_pos c1] at h
    cases h
  rw [if_neg c1] at h
  by_cases c2 : x.st = 2
  · rw [if_pos c2] at h
    cases h
  rw [if_neg c2] at h
  by_cases c3 : bits .and .i64 ((jobOf s x).po : Int) (forbidsT k) ≠ 0
  · rw [if_pos c3] at h
    cases h
  rw [if_neg c3] at h
  by_cases c4 : k = 1 ∧ 16 ≤ x.dp
  · rw [if_pos c4] at h
    cases h
  rw [if_neg c4] at h
  by_cases c5 : s.most ≤ s.live
  · rw [if_pos c5] at h
    cases h
  exact ⟨by simpa using c1, c2, fun hk => by
    rcases Nat.lt_or_ge x.dp 16 with h | h
    · exact h
    · exact absurd ⟨hk, h⟩ c4, by omega⟩
theorem WfT.add {s : Tr} (h : WfT s) {i : Nat} {x : Tk} {k : Nat} (hx : s.ts[i]? = some x) (hm : makeSt s x (k : Int) = 0) : WfT (addT s i x k) := by
  obtain ⟨m1, m2, m3, m4⟩ := make_facts hm
  rw [fits_iff] at m1
  have hl := (List.getElem?_eq_some_iff.1 hx).1
  have hyp : (newY k (i + 1) x).pa = i + 1 := by unfold newY; split <;> rfl
  have hyk : (newY k (i + 1) x).kd = k := by unfold newY; split <;> simp_all
  have hyb : (newY k (i + 1) x).bl = [] := by unfold newY; split <;> rfl
  have hys : (newY k (i + 1) x).st ≤ 1 := by unfold newY; split <;> simp
  have hyc : (newY k (i + 1) x).cr = 0 := by unfold newY; split <;> rfl
  have hln : (s.ts.set i { x with bl := x.bl ++ [s.ts.length + 1] }).length = s.ts.length := List.length_set
  have hts : (addT s i x k).ts = s.ts.set i { x with bl := x.bl ++ [s.ts.length + 1] } ++ [newY k (i + 1) x] := rfl
  have hget : ∀ j y, (addT s i x k).ts[j]? = some y → (j = s.ts.length ∧ y = newY k (i + 1) x) ∨ (∃ z, s.ts[j]? = some z ∧ y = (if j = i then { x with bl := x.bl ++ [s.ts.length + 1] } else z) ∧ (j = i → z = x)) := fun j y hy => by
    rw [hts] at hy
    by_cases hj : j < s.ts.length
    · rw [List.getElem?_append_left (by omega), List.getElem?_set] at hy
      by_cases hij : i = j
      · subst hij
        rw [if_pos rfl, if_pos hl] at hy
        injection hy with hy
        exact .inr ⟨x, hx, by rw [if_pos rfl]; exact hy.symm, fun _ => rfl⟩
      · rw [if_neg hij] at hy
        exact .inr ⟨y, hy, by rw [if_neg (fun e => hij e.symm)], fun e => absurd e.symm hij⟩
    · rw [List.getElem?_append_right (by omega), hln] at hy
      have h2 := (List.getElem?_eq_some_iff.1 hy).1
      simp only [List.length_singleton] at h2
      have h3 : j = s.ts.length := by omega
      subst h3
      simp only [Nat.sub_self, List.getElem?_cons_zero, Option.some.injEq] at hy
      exact .inl ⟨rfl, hy.symm⟩
  have hold : ∀ (j : Nat) (z : Tk), s.ts[j]? = some z → ∃ q : Tk, (addT s i x k).ts[j]? = some q ∧ q.kd = z.kd ∧ q.st = z.st ∧ q.dp = z.dp ∧ q.pa = z.pa := fun j z hz => by
    have hj := (List.getElem?_eq_some_iff.1 hz).1
    have e : (addT s i x k).ts[j]? = (s.ts.set i { x with bl := x.bl ++ [s.ts.length + 1] })[j]? := by rw [hts, List.getElem?_append_left (by omega)]
    rw [e, List.getElem?_set]
    by_cases hij : i = j
    · subst hij
      rw [hx] at hz
      injection hz with hz
      subst hz
      exact ⟨{ x with bl := x.bl ++ [s.ts.length + 1] }, by rw [if_pos rfl, if_pos hl], rfl, rfl, rfl, rfl⟩
    · exact ⟨z, by rw [if_neg hij]; exact hz, rfl, rfl, rfl, rfl⟩
  have hkids : ∀ p, kids (addT s i x k).ts p = kids s.ts p ++ (if i + 1 = p then [s.ts.length + 1] else []) := fun p => by
    rw [hts, kids_add, kids_set hx (by rfl), hln, hyp]
  refine ⟨?_, ?_, ?_, ?_, ?_⟩
  · obtain ⟨r, h1, h2, h3, h4⟩ := h.root
    obtain ⟨q, c1, c2, c3, c4, c5⟩ := hold 0 r h1
    exact ⟨q, c1, by rw [c2, h2], by rw [c5, h3], by rw [c4, h4]⟩
  · intro j y hy
    rcases hget j y hy with ⟨rfl, rfl⟩ | ⟨z, hz, rfl, hzi⟩
    · refine ⟨by rw [hyp]; omega, fun _ => by rw [hyp]; omega, by omega, ?_, by rw [hyc]; omega, fun hc => absurd hyc hc, ?_, ?_⟩
      · intro hk1
        rw [hyk] at hk1
        unfold newY
        rw [if_pos hk1]
        simp
      · have := (h.task i x hx).2.2.2.2.2.2.1
        unfold newY
        split
        · exact this
        · exact Nat.zero_le _
      · intro hk1
        rw [hyk] at hk1
        have := m3 (by omega)
        unfold newY
        rw [if_pos hk1]
        show x.dp + 1 ≤ 16
        omega
    · obtain ⟨a1, a2, a3, a4, a5, a6, a7, a8⟩ := h.task j z hz
      by_cases hj : j = i
      · obtain rfl := hzi hj
        rw [if_pos hj]
        exact ⟨a1, a2, a3, a4, a5, a6, a7, a8⟩
      · rw [if_neg hj]
        exact ⟨a1, a2, a3, a4, a5, a6, a7, a8⟩
  · intro j y hy h0
    rcases hget j y hy with ⟨rfl, rfl⟩ | ⟨z, hz, rfl, hzi⟩
    · obtain ⟨q, c1, c2, c3, c4, c5⟩ := hold i x hx
      refine ⟨q, by rw [hyp]; exact c1, by rw [hyk, c2]; exact m1, fun hq => absurd (c3 ▸ hq) m2, fun hk1 => ?_⟩
      rw [hyk] at hk1
      rw [c4]
      unfold newY
      rw [if_pos hk1]
    · obtain ⟨q, b1, b2, b3, b4⟩ := h.par j z hz h0
      obtain ⟨q', c1, c2, c3, c4, c5⟩ := hold _ q b1
      have e1 : (if j = i then { x with bl := x.bl ++ [s.ts.length + 1] } else z).pa = z.pa := by
        by_cases hj : j = i
        · obtain rfl := hzi hj
          rw [if_pos hj]
        · rw [if_neg hj]
      have e2 : (if j = i then { x with bl := x.bl ++ [s.ts.length + 1] } else z).kd = z.kd := by
        by_cases hj : j = i
        · obtain rfl := hzi hj
          rw [if_pos hj]
        · rw [if_neg hj]
      have e3 : (if j = i then { x with bl := x.bl ++ [s.ts.length + 1] } else z).st = z.st := by
        by_cases hj : j = i
        · obtain rfl := hzi hj
          rw [if_pos hj]
        · rw [if_neg hj]
      have e4 : (if j = i then { x with bl := x.bl ++ [s.ts.length + 1] } else z).dp = z.dp := by
        by_cases hj : j = i
        · obtain rfl := hzi hj
          rw [if_pos hj]
        · rw [if_neg hj]
      rw [e1, e2, e3, e4]
      exact ⟨q', c1, by rw [c2]; exact b2, fun hq => b3 (c3 ▸ hq), fun hkk => by rw [c4]; exact b4 hkk⟩
  · intro j y hy
    rw [hkids]
    rcases hget j y hy with ⟨rfl, rfl⟩ | ⟨z, hz, rfl, hzi⟩
    · rw [hyb, if_neg (by omega), List.append_nil]
      symm
      rw [List.eq_nil_iff_forall_not_mem]
      intro c hc
      obtain ⟨q, z, hz, hzp, -⟩ := kids_mem.1 hc
      have h1 := (h.task q z hz).1
      have h2 := (List.getElem?_eq_some_iff.1 hz).1
      omega
    · by_cases hj : j = i
      · obtain rfl := hzi hj
        subst hj
        rw [if_pos rfl, if_pos rfl]
        show z.bl ++ [s.ts.length + 1] = _
        rw [h.bl _ z hz]
      · rw [if_neg hj, if_neg (by omega), List.append_nil]
        exact h.bl j z hz
  · rw [hts, List.countP_append, countP_same hx (by rfl), List.countP_singleton, ← h.live]
    have : alv (newY k (i + 1) x) = true := by simp [alv]; omega
    rw [if_pos this]
    rfl
theorem WfT.make {s : Tr} (h : WfT s) (k parent : Int) : WfT (makeC s k parent).2 := by
  unfold makeC
  cases ht : taskAt s parent with
  | none => exact h
  | some x =>
    simp only
    by_cases hm : makeSt s x k = 0
    · rw [if_pos hm]
      obtain ⟨i, rfl, h1, h2, hx⟩ := taskAt_pos ht
      obtain ⟨m1, -⟩ := make_facts hm
      unfold fitsT at m1
      rw [decide_eq_true_eq] at m1
      have hk : ((k.toNat : Nat) : Int) = k := by omega
      exact h.add (k := k.toNat) (by simpa using hx) (by rw [hk]; exact hm)
    · rw [if_neg hm]
      exact h
theorem WfT.start {s : Tr} (h : WfT s) (id : Int) : WfT (startC s id).2 := by
  unfold startC
  cases ht : taskAt s id with
  | none => exact h
  | some x =>
    simp only
    by_cases h1 : x.kd = 1
    · rw [if_pos h1]
      exact h
    rw [if_neg h1]
    by_cases h2 : x.st ≠ 0 ∨ x.kd = 3 ∧ stOf s x.pa ≠ 1
    · rw [if_pos h2]
      exact h
    rw [if_neg h2]
    have hx := taskAt_get ht
    obtain ⟨a1, a2, a3, a4, a5, a6, a7, a8⟩ := h.task _ x hx
    exact h.set_ (x' := { x with st := 1 }) hx rfl rfl rfl rfl (by simp; omega) (by simp) (fun hk => absurd hk h1) a5 a6 a7
theorem under_le {s : Tr} (h : WfT s) {top : Int} : ∀ (n : Nat) (id : Int), underF s top n id = true → top ≤ id
  | 0, _, hu => by simp [underF] at hu
  | n + 1, id, hu => by
    unfold underF at hu
    cases ht : taskAt s id with
    | none => simp [ht] at hu
    | some x =>
      simp only [ht] at hu
      by_cases hi : id = top
      · omega
      · rw [if_neg hi] at hu
        have h1 := under_le h n x.pa hu
        have h2 := (taskAt_up h.up ht).1
        omega
theorem crit_zero {s : Tr} {x j : Tk} {process job : Int} (h : critSt s x j process job = 0) : x.kd = 2 ∧ j.kd = 1 ∧ underT s process job = true ∧ x.st ≠ 2 ∧ j.st ≠ 2 ∧ x.cr = 0 := by
  unfold critSt at h
  by_cases c1 : x.kd ≠ 2 ∨ j.kd ≠ 1
  · rw [if_pos c1] at h
    cases h
  rw [if_neg c1] at h
  by_cases c2 : underT s process job = false
  · rw [if_pos c2] at h
    cases h
  rw [if_neg c2] at h
  by_cases c3 : x.st = 2 ∨ j.st = 2 ∨ x.cr ≠ 0
  · rw [if_pos c3] at h
    cases h
  exact ⟨by omega, by omega, by simpa using c2, by omega, by omega, by omega⟩
theorem WfT.crit {s : Tr} (h : WfT s) (process job : Int) : WfT (critC s process job).2 := by
  unfold critC
  cases ht : taskAt s process with
  | none => exact h
  | some x =>
    cases hj : taskAt s job with
    | none => exact h
    | some j =>
      simp only
      by_cases hc : critSt s x j process job = 0
      · rw [if_pos hc]
        obtain ⟨c1, c2, c3, c4, c5, c6⟩ := crit_zero hc
        have hx := taskAt_get ht
        obtain ⟨a1, a2, a3, a4, a5, a6, a7, a8⟩ := h.task _ x hx
        have hle := under_le h _ _ c3
        have hne : process ≠ job := fun e => by
          subst e
          rw [ht] at hj
          injection hj with hj
          subst hj
          omega
        have hpos := (taskAt_up h.up ht).2
        exact h.set_ (x' := { x with cr := job.toNat }) hx rfl rfl rfl rfl Iff.rfl a3 a4 (by show job.toNat ≤ _; omega) (fun _ => c1) a7
      · rw [if_neg hc]
        exact h
/-- What a memory's law of Make asks. -/
theorem WfT.parOf {s : Tr} (h : WfT s) {id : Int} {x : Tk} (hx : taskAt s id = some x) (h1 : x.kd ≠ 1) : ∃ y, taskAt s x.pa = some y := by
  obtain ⟨i, rfl, h2, h3, hx'⟩ := taskAt_pos hx
  have h0 : 0 < i - 1 := by
    rcases Nat.eq_zero_or_pos (i - 1) with h0 | h0
    · obtain ⟨r, r1, r2, -⟩ := h.root
      rw [h0, r1] at hx'
      injection hx' with hx'
      subst hx'
      exact absurd r2 h1
    · exact h0
  obtain ⟨y, hy, -⟩ := h.par _ x hx' h0
  have hp := (h.task _ x hx').2.1 h0
  exact ⟨y, by rw [taskAt_nat hp]; exact hy⟩
end Go.Proofs.Ytojmhacafmpbgaa.Tk
