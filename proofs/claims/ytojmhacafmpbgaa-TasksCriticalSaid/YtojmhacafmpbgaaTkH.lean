/- The tree of tasks: Make: its objects put in their places. -/
import Derived.Test.YtojmhacafmpbgaaTkG2
namespace Go.Proofs.Ytojmhacafmpbgaa.Mem
open Go Go.RowKit
theorem reads_fresh_at (w : World) (e : TypeId) (cs : List Value) (n size B : Nat) (h : cs.length = n * size) (hB : w.heap.size = B) : Reads (w.alloc (.cells cs.toArray e)) (B + 1) size (some ⟨B, 0, none⟩) n cs := by
  subst hB
  exact reads_fresh w e cs n size h
end Go.Proofs.Ytojmhacafmpbgaa.Mem
namespace Go.Proofs.Ytojmhacafmpbgaa.Tk
open Go Go.RowKit Go.Proofs.Ytojmhacafmpbgaa.Mem
set_option linter.unusedVariables false
set_option linter.unusedSimpArgs false
def newY (k parent : Nat) (x : Tk) : Tk := if k = 1 then ⟨k, parent, 1, 0, x.po, 0, [], x.dp + 1⟩ else ⟨k, parent, 0, 0, 0, 0, [], 0⟩
/-- The tree with a task more below task number i + 1. -/
def addT (s : Tr) (i : Nat) (x : Tk) (k : Nat) : Tr := ⟨s.ts.set i { x with bl := x.bl ++ [s.ts.length + 1] } ++ [newY k (i + 1) x], s.most, s.live + 1⟩
theorem ptr_info : (Try.prog.info? 59).map (fun i => (i.zero, i.size, i.bytes)) = some (some (.pointer none), 1, 8) := by kernel_rfl
theorem tkP_set2 : ∀ {xs : List Tk} {ps : List (Nat × Value)} {i : Nat} {x x' : Tk} {p p' : Nat × Value}, xs[i]? = some x → ps[i]? = some p → ((tkP xs ps).set (2 * i + 1) (RowO 3 1 p'.2 x'.bl.length (nV x'.bl))).set (2 * i) (BlkA p'.1 61 (tkC x' p'.2)) = tkP (xs.set i x') (ps.set i p')
  | [], _, _, _, _, _, _, h, _ => by simp at h
  | _ :: _, [], _, _, _, _, _, _, h => by simp at h
  | a :: xs, q :: ps, 0, x, x', p, p', h, h' => by simp [tkP]
  | a :: xs, q :: ps, i + 1, x, x', p, p', h, h' => by
    rw [show 2 * (i + 1) = 2 * i + 1 + 1 by omega]
    simp only [tkP, List.set_cons_succ]
    rw [tkP_set2 (xs := xs) (ps := ps) (x := x) (p := p) (by simpa using h) (by simpa using h')]
theorem nV_app (l l' : List Nat) : nV (l ++ l') = nV l ++ nV l' := by simp [nV]
theorem ptrs_app (l l' : List (Nat × Value)) : ptrs (l ++ l') = ptrs l ++ ptrs l' := by simp [ptrs]
theorem ptrs_set {l : List (Nat × Value)} {i : Nat} {p : Nat × Value} (h : l[i]? = some p) (v : Value) : ptrs (l.set i (p.1, v)) = ptrs l := by
  unfold ptrs
  rw [List.map_set]
  apply List.ext_getElem?
  intro k
  rw [List.getElem?_set]
  by_cases hk : i = k
  · subst hk
    simp only [List.length_map, List.getElem?_map, h, if_true, Option.map_some]
    rw [if_pos (List.getElem?_eq_some_iff.1 h).1]
  · rw [if_neg hk]
/-- The objects behind a Make, put in their places. -/
theorem add_star {w0 w : World} {S : List Asr} {b g : Nat} {s : Tr} {v3 v6 : Value} {ps : List (Nat × Value)} {i : Nat} {x : Tk} {p : Nat × Value} {k : Nat} (hl : ps.length = s.ts.length) (hx : s.ts[i]? = some x) (hp : ps[i]? = some p)
    (h : Star w0 w (((BlkA g 61 (tkC (newY k (i + 1) x) (.slice none 0 0)) :: BlkA b 64 #[v3, .int .i64 s.most, .int .i64 ((s.live : Int) + 1)] :: RowO 59 1 v3 (s.ts.length + 1) (ptrs ps ++ [.pointer (some ⟨g, 0, none⟩)]) :: (tkP s.ts ps ++ S)).set (2 * i + 1 + 1 + 1 + 1) (RowO 3 1 v6 (x.bl.length + 1) (nV x.bl ++ [.int .i64 ((s.ts.length : Int) + 1)]))).set (2 * i + 1 + 1 + 1) (BlkA p.1 61 (tkC x v6)))) :
    Star w0 w (tr b (addT s i x k) v3 (ps.set i (p.1, v6) ++ [(g, .slice none 0 0)]) ++ S) := by
  simp only [List.set_cons_succ] at h
  have hL := tkP_len (xs := s.ts) (ps := ps) hl.symm
  have hi := (List.getElem?_eq_some_iff.1 hx).1
  rw [List.set_append_left _ _ (by omega), List.set_append_left _ _ (by rw [List.length_set]; omega)] at h
  have e := tkP_set2 (x' := { x with bl := x.bl ++ [s.ts.length + 1] }) (p' := (p.1, v6)) hx hp
  rw [show (x.bl ++ [s.ts.length + 1]).length = x.bl.length + 1 by simp, show nV (x.bl ++ [s.ts.length + 1]) = nV x.bl ++ [.int .i64 ((s.ts.length : Int) + 1)] by rw [nV_app]; simp [nV]] at e
  rw [show tkC x v6 = tkC { x with bl := x.bl ++ [s.ts.length + 1] } v6 from rfl, e] at h
  have h2 : Star w0 w (((BlkA b 64 #[v3, .int .i64 s.most, .int .i64 ((s.live : Int) + 1)] :: RowO 59 1 v3 (s.ts.length + 1) (ptrs ps ++ [.pointer (some ⟨g, 0, none⟩)]) :: tkP (s.ts.set i { x with bl := x.bl ++ [s.ts.length + 1] }) (ps.set i (p.1, v6))) ++ [BlkA g 61 (tkC (newY k (i + 1) x) (.slice none 0 0)), RowO 3 1 (.slice none 0 0) 0 []]) ++ S) := by
    refine (h.nilO 3 1).perm ?_
    refine (List.Perm.swap _ _ _).trans ?_
    simp only [List.append_assoc]
    refine List.Perm.trans ?_ (List.Perm.append_left _ (List.perm_append_comm (l₁ := S)))
    rw [← List.append_assoc]
    exact List.perm_append_comm (l₁ := [BlkA g 61 (tkC (newY k (i + 1) x) (.slice none 0 0)), RowO 3 1 (.slice none 0 0) 0 []])
  have hbl : (newY k (i + 1) x).bl = [] := by unfold newY; split <;> rfl
  have e2 : tkP (s.ts.set i { x with bl := x.bl ++ [s.ts.length + 1] } ++ [newY k (i + 1) x]) (ps.set i (p.1, v6) ++ [(g, .slice none 0 0)]) = tkP (s.ts.set i { x with bl := x.bl ++ [s.ts.length + 1] }) (ps.set i (p.1, v6)) ++ [BlkA g 61 (tkC (newY k (i + 1) x) (.slice none 0 0)), RowO 3 1 (.slice none 0 0) 0 []] := by
    rw [tkP_snoc (by simp [hl]), hbl]
    rfl
  simp only [List.cons_append] at h2
  rw [← e2] at h2
  have e3 : ptrs (ps.set i (p.1, v6) ++ [(g, .slice none 0 0)]) = ptrs ps ++ [.pointer (some ⟨g, 0, none⟩)] := by rw [ptrs_app, ptrs_set hp]; rfl
  show Star w0 w (BlkA b 64 #[v3, .int .i64 s.most, .int .i64 ((s.live : Int) + 1)] :: RowO 59 1 v3 (addT s i x k).ts.length (ptrs (ps.set i (p.1, v6) ++ [(g, .slice none 0 0)])) :: tkP (s.ts.set i { x with bl := x.bl ++ [s.ts.length + 1] } ++ [newY k (i + 1) x]) (ps.set i (p.1, v6) ++ [(g, .slice none 0 0)]) ++ S)
  rw [e3, show (addT s i x k).ts.length = s.ts.length + 1 by simp [addT]]
  exact h2
end Go.Proofs.Ytojmhacafmpbgaa.Tk
