/- The tree of tasks: its objects in memory; find, Alive, Live, Count. -/
import Derived.Test.YtojmhacafmpbgaaPick
import Derived.RegionTactic
import Derived.Deep.QuietTactic
import Derived.BigQuiet
import Derived.Deep.RegionHeld3
import Derived.Deep.RegionLaw
import Derived.Deep.CutBlock
import Derived.Deep.CutRange
import Derived.Deep.DeepCutAuto
import Derived.WalkSpells
import Derived.Test.YtojmhacafmpbgaaProg
namespace Go.Proofs.Ytojmhacafmpbgaa.Tk
open Go Go.RowKit Go.Proofs.Ytojmhacafmpbgaa.Mem
set_option linter.unusedVariables false
set_option linter.unusedSimpArgs false
def nV (l : List Nat) : List Value := l.map fun (x : Nat) => Value.int .i64 (x : Int)
theorem nV_len (l : List Nat) : (nV l).length = l.length := by simp [nV]
/-- A task: kind, parent, state, code, policy, to which job it is critical; what stands below; its depth. -/
structure Tk where
  kd : Nat
  pa : Nat
  st : Nat
  co : Int
  po : Nat
  cr : Nat
  bl : List Nat
  dp : Nat
structure Tr where
  ts : List Tk
  most : Nat
  live : Nat
def tkC (x : Tk) (v : Value) : Array Value := #[.int .i64 x.kd, .int .i64 x.pa, .int .i64 x.st, .int .i64 x.co, .int .i64 x.po, .int .i64 x.cr, v, .int .i64 x.dp]
/-- The tasks' blocks and what stands below each. -/
def tkP : List Tk → List (Nat × Value) → List Asr
  | x :: xs, p :: ps => BlkA p.1 61 (tkC x p.2) :: RowO 3 1 p.2 x.bl.length (nV x.bl) :: tkP xs ps
  | _, _ => []
def ptrs (ps : List (Nat × Value)) : List Value := ps.map fun p => Value.pointer (some ⟨p.1, 0, none⟩)
abbrev tr (b : Nat) (s : Tr) (v : Value) (ps : List (Nat × Value)) : List Asr := BlkA b 64 #[v, .int .i64 s.most, .int .i64 s.live] :: RowO 59 1 v s.ts.length (ptrs ps) :: tkP s.ts ps
theorem tkP_blk : ∀ {xs : List Tk} {ps : List (Nat × Value)} {i : Nat} {x : Tk} {p : Nat × Value}, xs[i]? = some x → ps[i]? = some p → (tkP xs ps)[2 * i]? = some (BlkA p.1 61 (tkC x p.2))
  | [], _, _, _, _, h, _ => by simp at h
  | _ :: _, [], _, _, _, _, h => by simp at h
  | a :: xs, q :: ps, 0, x, p, h, h' => by
    simp only [List.getElem?_cons_zero, Option.some.injEq] at h h'
    subst h h'
    rfl
  | a :: xs, q :: ps, i + 1, x, p, h, h' => by
    rw [show 2 * (i + 1) = 2 * i + 1 + 1 by omega]
    exact tkP_blk (xs := xs) (ps := ps) (by simpa using h) (by simpa using h')
theorem tkP_row : ∀ {xs : List Tk} {ps : List (Nat × Value)} {i : Nat} {x : Tk} {p : Nat × Value}, xs[i]? = some x → ps[i]? = some p → (tkP xs ps)[2 * i + 1]? = some (RowO 3 1 p.2 x.bl.length (nV x.bl))
  | [], _, _, _, _, h, _ => by simp at h
  | _ :: _, [], _, _, _, _, h => by simp at h
  | a :: xs, q :: ps, 0, x, p, h, h' => by
    simp only [List.getElem?_cons_zero, Option.some.injEq] at h h'
    subst h h'
    rfl
  | a :: xs, q :: ps, i + 1, x, p, h, h' => by
    rw [show 2 * (i + 1) + 1 = 2 * i + 1 + 1 + 1 by omega]
    exact tkP_row (xs := xs) (ps := ps) (by simpa using h) (by simpa using h')
/-- A task's cells turned. -/
theorem tkP_set : ∀ {xs : List Tk} {ps : List (Nat × Value)} {i : Nat} {x x' : Tk} {p : Nat × Value}, xs[i]? = some x → ps[i]? = some p → x'.bl = x.bl → (tkP xs ps).set (2 * i) (BlkA p.1 61 (tkC x' p.2)) = tkP (xs.set i x') ps
  | [], _, _, _, _, _, h, _, _ => by simp at h
  | _ :: _, [], _, _, _, _, _, h, _ => by simp at h
  | a :: xs, q :: ps, 0, x, x', p, h, h', hb => by
    simp only [List.getElem?_cons_zero, Option.some.injEq] at h h'
    subst h h'
    simp [tkP, hb]
  | a :: xs, q :: ps, i + 1, x, x', p, h, h', hb => by
    rw [show 2 * (i + 1) = 2 * i + 1 + 1 by omega]
    simp only [tkP, List.set_cons_succ]
    rw [tkP_set (xs := xs) (ps := ps) (x := x) (by simpa using h) (by simpa using h') hb]
theorem tkP_len : ∀ {xs : List Tk} {ps : List (Nat × Value)}, xs.length = ps.length → (tkP xs ps).length = 2 * xs.length
  | [], [], _ => rfl
  | [], _ :: _, h => by simp at h
  | _ :: _, [], h => by simp at h
  | a :: xs, q :: ps, h => by
    have := tkP_len (xs := xs) (ps := ps) (by simpa using h)
    simp only [tkP, List.length_cons, this]
    omega
theorem tkP_snoc : ∀ {xs : List Tk} {ps : List (Nat × Value)} {x : Tk} {p : Nat × Value}, xs.length = ps.length → tkP (xs ++ [x]) (ps ++ [p]) = tkP xs ps ++ [BlkA p.1 61 (tkC x p.2), RowO 3 1 p.2 x.bl.length (nV x.bl)]
  | [], [], _, _, _ => rfl
  | [], _ :: _, _, _, h => by simp at h
  | _ :: _, [], _, _, h => by simp at h
  | a :: xs, q :: ps, x, p, h => by
    have := tkP_snoc (xs := xs) (ps := ps) (x := x) (p := p) (by simpa using h)
    simp only [List.cons_append, tkP, this]
section
variable {w0 w : World} {S : List Asr} {b : Nat} {s : Tr} {v : Value} {ps : List (Nat × Value)}
theorem tr_len (h : Star w0 w (tr b s v ps ++ S)) : ps.length = s.ts.length := by
  have := (h.rowO 1 rfl).1
  simpa [ptrs] using this
theorem tr_task (h : Star w0 w (tr b s v ps ++ S)) {i : Nat} {x : Tk} (hx : s.ts[i]? = some x) : ∃ p, ps[i]? = some p ∧ Blk w p.1 61 (tkC x p.2) ∧ OwnO w w0.heap.size 3 1 p.2 x.bl.length (nV x.bl) := by
  have hl := tr_len h
  have hi := (List.getElem?_eq_some_iff.1 hx).1
  obtain ⟨p, hp⟩ : ∃ p, ps[i]? = some p := ⟨_, List.getElem?_eq_getElem (by omega)⟩
  have hL := tkP_len (xs := s.ts) (ps := ps) hl.symm
  refine ⟨p, hp, h.blk (2 * i + 2) ?_, h.rowO (2 * i + 1 + 2) ?_⟩
  · have := tkP_blk hx hp
    show (tkP s.ts ps ++ S)[2 * i]? = _
    rw [List.getElem?_append_left (by omega)]
    exact this
  · have := tkP_row hx hp
    show (tkP s.ts ps ++ S)[2 * i + 1]? = _
    rw [List.getElem?_append_left (by omega)]
    exact this
/-- Where a task stands in memory: none, or its block. -/
def findV (ps : List (Nat × Value)) (id : Int) : Value := if id < 1 then .pointer none else if ps.length < id then .pointer none else (ptrs ps)[(id - 1).toNat]?.getD (.pointer none)
set_option maxHeartbeats 1000000 in
theorem find_any (h : Star w0 w (tr b s v ps ++ S)) (id : Int) : Calls Try.prog 31 #[.pointer (some ⟨b, 0, none⟩), .int .i64 id] w fun r w' => r = .returned (findV ps id) ∧ w = w' := by
  have k0 := (h.blk 0 rfl).cellv (i := 0) rfl
  have hl := tr_len h
  have ho := h.rowO 1 rfl
  obtain ⟨A, c, hv⟩ := ho.len
  subst hv
  unfold findV
  by_cases h1 : id < 1
  · rw [if_pos h1]
    clear h hl ho
    go_enter Try.func31, Try.ntmps31
    go_wp2
    go_ret
    exact ⟨rfl, rfl⟩
  · rw [if_neg h1, hl]
    by_cases h2 : (s.ts.length : Int) < id
    · rw [if_pos h2]
      clear h hl ho
      generalize s.ts.length = n at *
      go_enter Try.func31, Try.ntmps31
      go_wp2
      go_ret
      exact ⟨rfl, rfl⟩
    · rw [if_neg h2]
      obtain ⟨m, hm⟩ : ∃ m : Nat, id = m + 1 := ⟨(id - 1).toNat, by omega⟩
      have hmn : m < s.ts.length := by omega
      obtain ⟨g, off, c', hv, -, -, -⟩ := ho.form (by omega)
      simp only [Value.slice.injEq, true_and] at hv
      obtain ⟨rfl, rfl⟩ := hv
      obtain ⟨p, hp⟩ : ∃ p : Nat × Value, (ptrs ps)[m]? = some (.pointer (some ⟨p.1, 0, none⟩)) := ⟨ps[m]'(by omega), by simp [ptrs, List.getElem?_eq_getElem (show m < ps.length by omega)]⟩
      have d1 := ho.cellAt m (by omega)
      rw [hp] at d1
      have hsub : id - 1 = (m : Int) := by omega
      rw [show (id - 1).toNat = m by omega, hp, Option.getD_some]
      have hmi : (m : Int) < s.ts.length := by omega
      have hmx := ho.blk.2.2.1
      have hmy := ho.blk.2.1
      have hw64 : wrap64 (m : Int) = (m : Int) := by
        simp only [maxLen] at hmx
        unfold wrap64
        omega
      clear h hl ho hp hm hmx hmy
      generalize s.ts.length = n at *
      go_enter Try.func31, Try.ntmps31
      go_wp2
      go_ret
      exact ⟨rfl, rfl⟩
theorem live_any (h : Star w0 w (tr b s v ps ++ S)) : Calls Try.prog 13 #[.pointer (some ⟨b, 0, none⟩)] w fun r w' => r = .returned (.int .i64 s.live) ∧ w = w' := by
  have k0 := (h.blk 0 rfl).cellv (i := 2) rfl
  clear h
  go_enter Try.func13, Try.ntmps13
  go_wp2
  go_ret
  exact ⟨rfl, rfl⟩
theorem count_any (h : Star w0 w (tr b s v ps ++ S)) : Calls Try.prog 14 #[.pointer (some ⟨b, 0, none⟩)] w fun r w' => r = .returned (.int .i64 s.ts.length) ∧ w = w' := by
  have k0 := (h.blk 0 rfl).cellv (i := 0) rfl
  obtain ⟨A, c, hv⟩ := (h.rowO 1 rfl).len
  subst hv
  clear h
  go_enter Try.func14, Try.ntmps14
  go_wp2
  go_ret
  exact ⟨rfl, rfl⟩
end
end Go.Proofs.Ytojmhacafmpbgaa.Tk
