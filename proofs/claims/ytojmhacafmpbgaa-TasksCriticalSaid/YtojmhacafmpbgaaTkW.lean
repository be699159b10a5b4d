/- The tree of tasks in the plain: what holds of a tree; what die does. -/
import Derived.Test.YtojmhacafmpbgaaTkK
namespace Go.Proofs.Ytojmhacafmpbgaa.Tk
open Go
set_option linter.unusedVariables false
set_option linter.unusedSimpArgs false
/-- The numbers of the tasks whose parent is p. -/
def kids (ts : List Tk) (p : Nat) : List Nat := ((List.range ts.length).filter fun i => (ts[i]?).map (·.pa) == some p).map (· + 1)
theorem kids_mem {ts : List Tk} {p c : Nat} : c ∈ kids ts p ↔ ∃ i x, ts[i]? = some x ∧ x.pa = p ∧ c = i + 1 := by
  unfold kids
  simp only [List.mem_map, List.mem_filter, List.mem_range, beq_iff_eq, Option.map_eq_some_iff]
  constructor
  · rintro ⟨i, ⟨-, x, hx, hp⟩, rfl⟩
    exact ⟨i, x, hx, hp, rfl⟩
  · rintro ⟨i, x, hx, hp, rfl⟩
    exact ⟨i, ⟨(List.getElem?_eq_some_iff.1 hx).1, x, hx, hp⟩, rfl⟩
/-- Is it alive? -/
def alv (x : Tk) : Bool := decide (x.st ≠ 2)
structure WfT (s : Tr) : Prop where
  root : ∃ x, s.ts[0]? = some x ∧ x.kd = 1 ∧ x.pa = 0 ∧ x.dp = 1
  task : ∀ i x, s.ts[i]? = some x → x.pa ≤ i ∧ (0 < i → 1 ≤ x.pa) ∧ x.st ≤ 2 ∧ (x.kd = 1 → x.st ≠ 0) ∧ x.cr ≤ i ∧ (x.cr ≠ 0 → x.kd = 2) ∧ x.po ≤ 15 ∧ (x.kd = 1 → x.dp ≤ 16)
  par : ∀ i x, s.ts[i]? = some x → 0 < i → ∃ y, s.ts[x.pa - 1]? = some y ∧ ((x.kd = 1 ∨ x.kd = 2) ∧ y.kd = 1 ∨ x.kd = 3 ∧ y.kd = 2) ∧ (y.st = 2 → x.st = 2) ∧ (x.kd = 1 → x.dp = y.dp + 1)
  bl : ∀ i x, s.ts[i]? = some x → x.bl = kids s.ts (i + 1)
  live : s.live = s.ts.countP alv
theorem WfT.up {s : Tr} (h : WfT s) : UpT s := fun i x hx => (h.task i x hx).1
theorem WfT.len {s : Tr} (h : WfT s) : 1 ≤ s.ts.length := by
  obtain ⟨x, hx, -⟩ := h.root
  have := (List.getElem?_eq_some_iff.1 hx).1
  omega
theorem WfT.liveLe {s : Tr} (h : WfT s) : s.live ≤ s.ts.length := by
  rw [h.live]
  exact List.countP_le_length
theorem kids_len (ts : List Tk) (p : Nat) : (kids ts p).length ≤ ts.length := by
  unfold kids
  rw [List.length_map]
  exact Nat.le_trans (List.length_filter_le _ _) (by simp)
theorem WfT.blLe {s : Tr} (h : WfT s) {i : Nat} {x : Tk} (hx : s.ts[i]? = some x) : x.bl.length ≤ s.ts.length := by
  rw [h.bl i x hx]
  exact kids_len _ _
theorem taskAt_nat {s : Tr} {i : Nat} (h : 1 ≤ i) : taskAt s (i : Int) = s.ts[i - 1]? := by
  unfold taskAt
  rw [if_neg (by omega), show ((i : Int) - 1).toNat = i - 1 by omega]
theorem taskAt_pos {s : Tr} {id : Int} {x : Tk} (h : taskAt s id = some x) : ∃ i : Nat, id = i ∧ 1 ≤ i ∧ i ≤ s.ts.length ∧ s.ts[i - 1]? = some x := by
  unfold taskAt at h
  by_cases h1 : id < 1
  · rw [if_pos h1] at h
    cases h
  · rw [if_neg h1] at h
    have hl := (List.getElem?_eq_some_iff.1 h).1
    refine ⟨id.toNat, by omega, by omega, by omega, ?_⟩
    rw [show id.toNat - 1 = (id - 1).toNat by omega]
    exact h
/-- These have died. -/
def markL (ts : List Tk) (o : List Nat) (code : Int) : List Tk := ts.mapIdx fun i x => if i + 1 ∈ o then { x with st := 2, co := code } else x
def markT (s : Tr) (o : List Nat) (code : Int) : Tr := ⟨markL s.ts o code, s.most, s.live - o.length⟩
theorem markL_get (ts : List Tk) (o : List Nat) (code : Int) (i : Nat) : (markL ts o code)[i]? = (ts[i]?).map fun x => if i + 1 ∈ o then { x with st := 2, co := code } else x := by
  unfold markL
  rw [List.getElem?_mapIdx]
theorem markL_len (ts : List Tk) (o : List Nat) (code : Int) : (markL ts o code).length = ts.length := by simp [markL]
theorem mark_nil (s : Tr) (code : Int) : markT s [] code = s := by
  have : markL s.ts [] code = s.ts := List.ext_getElem? fun i => by rw [markL_get]; simp
  unfold markT
  rw [this]
  rfl
theorem mark_mark (s : Tr) (o o' : List Nat) (code : Int) : markT (markT s o code) o' code = markT s (o ++ o') code := by
  have : markL (markL s.ts o code) o' code = markL s.ts (o ++ o') code := List.ext_getElem? fun i => by
    rw [markL_get, markL_get, markL_get]
    cases s.ts[i]? with
    | none => rfl
    | some x =>
      simp only [Option.map_some, List.mem_append]
      by_cases h1 : i + 1 ∈ o' <;> by_cases h2 : i + 1 ∈ o <;> simp [h1, h2]
  unfold markT
  simp only [this, List.length_append, Nat.sub_sub]
theorem dead_mark {s : Tr} {i : Nat} {x : Tk} (hi : 1 ≤ i) (hx : s.ts[i - 1]? = some x) (code : Int) : deadT s (i - 1) x code = markT s [i] code := by
  have : s.ts.set (i - 1) { x with st := 2, co := code } = markL s.ts [i] code := List.ext_getElem? fun j => by
    rw [markL_get, List.getElem?_set]
    by_cases hj : i - 1 = j
    · subst hj
      have hl := (List.getElem?_eq_some_iff.1 hx).1
      rw [if_pos rfl, if_pos hl, hx, Option.map_some, if_pos (by simp; omega)]
    · rw [if_neg hj]
      cases s.ts[j]? with
      | none => rfl
      | some y =>
        rw [Option.map_some, if_neg (by simp; omega)]
  unfold deadT markT
  rw [this]
  rfl
theorem kids_mark (ts : List Tk) (o : List Nat) (code : Int) (p : Nat) : kids (markL ts o code) p = kids ts p := by
  unfold kids
  rw [markL_len]
  congr 1
  refine List.filter_congr fun i _ => ?_
  rw [markL_get]
  cases ts[i]? with
  | none => rfl
  | some x =>
    simp only [Option.map_some]
    split <;> rfl
theorem alive_nat {s : Tr} {i : Nat} : aliveT s (i : Int) = true ↔ ∃ x, 1 ≤ i ∧ s.ts[i - 1]? = some x ∧ x.st ≠ 2 := by
  unfold aliveT
  cases h : taskAt s (i : Int) with
  | none =>
    simp only [Bool.false_eq_true, false_iff]
    rintro ⟨x, h1, h2, -⟩
    rw [taskAt_nat h1, h2] at h
    cases h
  | some x =>
    obtain ⟨j, hj, h1, -, h2⟩ := taskAt_pos h
    obtain rfl : i = j := by omega
    simp only [decide_eq_true_eq]
    constructor
    · intro hs
      exact ⟨x, h1, h2, hs⟩
    · rintro ⟨y, -, h3, h4⟩
      rw [h2] at h3
      injection h3 with h3
      subst h3
      exact h4
theorem countP_set {l : List Tk} {i : Nat} {x y : Tk} (h : l[i]? = some x) (hx : alv x = true) (hy : alv y = false) : (l.set i y).countP alv + 1 = l.countP alv := by
  induction l generalizing i with
  | nil => simp at h
  | cons a l ih =>
    cases i with
    | zero =>
      simp only [List.getElem?_cons_zero, Option.some.injEq] at h
      subst h
      simp [List.countP_cons, hx, hy]
    | succ i =>
      have := ih (i := i) (by simpa using h)
      simp only [List.set_cons_succ, List.countP_cons]
      omega
/-- A living task with no living child dies: what holds of a tree holds still. -/
theorem WfT.dead {s : Tr} (h : WfT s) {i : Nat} {x : Tk} (hi : 1 ≤ i) (hx : s.ts[i - 1]? = some x) (ha : x.st ≠ 2) (hno : ∀ c ∈ x.bl, aliveT s (c : Int) = false) (code : Int) : WfT (markT s [i] code) := by
  have hget : ∀ j y, (markT s [i] code).ts[j]? = some y → ∃ z, s.ts[j]? = some z ∧ y = if j + 1 ∈ [i] then { z with st := 2, co := code } else z := fun j y hy => by
    have hy' : (markL s.ts [i] code)[j]? = some y := hy
    rw [markL_get] at hy'
    cases hz : s.ts[j]? with
    | none => rw [hz] at hy'; cases hy'
    | some z =>
      rw [hz] at hy'
      injection hy' with hy'
      exact ⟨z, rfl, hy'.symm⟩
  refine ⟨?_, ?_, ?_, ?_, ?_⟩
  · obtain ⟨r, h1, h2, h3, h4⟩ := h.root
    refine ⟨if 0 + 1 ∈ [i] then { r with st := 2, co := code } else r, ?_, ?_, ?_, ?_⟩
    · show (markL s.ts [i] code)[0]? = _
      rw [markL_get, h1]
      rfl
    · split <;> exact h2
    · split <;> exact h3
    · split <;> exact h4
  · intro j y hy
    obtain ⟨z, hz, rfl⟩ := hget j y hy
    obtain ⟨a1, a2, a3, a4, a5, a6, a7, a8⟩ := h.task j z hz
    split
    · exact ⟨a1, a2, Nat.le_refl _, fun _ => by simp, a5, a6, a7, a8⟩
    · exact ⟨a1, a2, a3, a4, a5, a6, a7, a8⟩
  · intro j y hy hj
    obtain ⟨z, hz, rfl⟩ := hget j y hy
    obtain ⟨q, h1, h2, h3, h4⟩ := h.par j z hz hj
    have hp : (if j + 1 ∈ [i] then { z with st := 2, co := code } else z).pa = z.pa := by split <;> rfl
    have hk : (if j + 1 ∈ [i] then { z with st := 2, co := code } else z).kd = z.kd := by split <;> rfl
    have hd : (if j + 1 ∈ [i] then { z with st := 2, co := code } else z).dp = z.dp := by split <;> rfl
    have hpos := (h.task j z hz).2.1 hj
    refine ⟨if z.pa - 1 + 1 ∈ [i] then { q with st := 2, co := code } else q, ?_, ?_, ?_, ?_⟩
    · rw [hp]
      show (markL s.ts [i] code)[z.pa - 1]? = _
      rw [markL_get, h1]
      rfl
    · rw [hk]
      split <;> exact h2
    · intro hq
      by_cases hm : j + 1 ∈ [i]
      · rw [if_pos hm]
      · rw [if_neg hm]
        by_cases hm2 : z.pa - 1 + 1 ∈ [i]
        · have e : z.pa = i := by simp at hm2; omega
          have hc := hno (j + 1) (by rw [h.bl _ _ hx, kids_mem]; exact ⟨j, z, hz, by omega, rfl⟩)
          by_cases hzs : z.st = 2
          · exact hzs
          · have := alive_nat (s := s) (i := j + 1) |>.2 ⟨z, by omega, hz, hzs⟩
            rw [this] at hc
            cases hc
        · rw [if_neg hm2] at hq
          exact h3 hq
    · rw [hk, hd]
      intro hkk
      rw [h4 hkk]
      split <;> rfl
  · intro j y hy
    obtain ⟨z, hz, rfl⟩ := hget j y hy
    have hb : (if j + 1 ∈ [i] then { z with st := 2, co := code } else z).bl = z.bl := by split <;> rfl
    rw [hb, h.bl j z hz]
    exact (kids_mark _ _ _ _).symm
  · have e := dead_mark hi hx code
    have h1 : (markT s [i] code).ts = s.ts.set (i - 1) { x with st := 2, co := code } := by rw [← e]; rfl
    have h2 := countP_set (y := { x with st := 2, co := code }) hx (by simp [alv, ha]) (by simp [alv])
    rw [h1]
    show s.live - 1 = _
    rw [h.live]
    omega
end Go.Proofs.Ytojmhacafmpbgaa.Tk
