/- The tree of tasks: New, Start. -/
import Derived.Test.YtojmhacafmpbgaaTkC
namespace Go.Proofs.Ytojmhacafmpbgaa.Tk
open Go Go.RowKit Go.Proofs.Ytojmhacafmpbgaa.Mem
set_option linter.unusedVariables false
set_option linter.unusedSimpArgs false
def rootT : Tk := ⟨1, 0, 1, 0, 0, 0, [], 1⟩
def newT (most : Nat) : Tr := ⟨[rootT], most, 1⟩
section
variable {w0 w : World} {L S : List Asr} {b : Nat} {s : Tr} {v : Value} {ps : List (Nat × Value)}
theorem new_any (h : Star w0 w L) (most : Nat) (h1 : 1 ≤ most) (h2 : most ≤ 65536) : Calls Try.prog 9 #[.int .i64 most] w fun r w' => r = .returned (.pointer (some ⟨w.heap.size + 1 + 1, 0, none⟩)) ∧ Star w0 w' (tr (w.heap.size + 1 + 1) (newT most) (.slice (some ⟨w.heap.size + 1, 0, none⟩) 1 1) [(w.heap.size, .slice none 0 0)] ++ L) := by
  have h5 := (((h.nilO 3 1).newBlk 61 (tkC rootT (.slice none 0 0))).litRow 59 1 #[.pointer (some ⟨w.heap.size, 0, none⟩)] 1 (by simp [maxLen]) rfl).newBlk 64 #[.slice (some ⟨w.heap.size + 1, 0, none⟩) 1 1, .int .i64 most, .int .i64 1]
  have h6 := (h5.toO 1 (by rw [World.size_alloc]; rfl))
  simp only [World.size_alloc, List.set_cons_zero, List.set_cons_succ] at h6
  have HE := Lib.hid h6
  have i1 : (1 : Int) ≤ most := by omega
  have i2 : (most : Int) ≤ 65536 := by omega
  clear h h5 h6
  go_enter Try.func9, Try.ntmps9
  go_wp2
  go_ret
  exact ⟨rfl, HE.out⟩
theorem new_none (most : Int) (h : most < 1 ∨ 65536 < most) (w : World) : Calls Try.prog 9 #[.int .i64 most] w fun r w' => r = .returned (.pointer none) ∧ w = w' := by
  rcases (by omega : most < 1 ∨ (¬ most < 1 ∧ 65536 < most)) with h1 | ⟨h1, h2⟩
  all_goals
    clear h
    go_enter Try.func9, Try.ntmps9
    go_wp2
    go_ret
    exact ⟨rfl, rfl⟩
/-- A task's cells turned: the tree behind it. -/
theorem tr_set (h : Star w0 w (tr b s v ps ++ S)) {i : Nat} {x x' : Tk} {p : Nat × Value} (hx : s.ts[i]? = some x) (hp : ps[i]? = some p) (o : Nat) (u : Value) (hc : (tkC x p.2).setIfInBounds o u = tkC x' p.2) (hb : x'.bl = x.bl) :
    Star w0 (w.setCell ⟨p.1, o, none⟩ u) (tr b { s with ts := s.ts.set i x' } v ps ++ S) := by
  have hl := tr_len h
  have hi := (List.getElem?_eq_some_iff.1 hx).1
  have hL := tkP_len (xs := s.ts) (ps := ps) hl.symm
  have hk : (tr b s v ps ++ S)[2 * i + 1 + 1]? = some (BlkA p.1 61 (tkC x p.2)) := by
    have := tkP_blk hx hp
    show (tkP s.ts ps ++ S)[2 * i]? = _
    rw [List.getElem?_append_left (by omega)]
    exact this
  have h2 := h.setBlk (2 * i + 1 + 1) hk o u
  rw [hc] at h2
  have e : (tr b s v ps ++ S).set (2 * i + 1 + 1) (BlkA p.1 61 (tkC x' p.2)) = tr b { s with ts := s.ts.set i x' } v ps ++ S := by
    show BlkA b 64 _ :: RowO 59 1 v s.ts.length (ptrs ps) :: (tkP s.ts ps ++ S).set (2 * i) _ = _
    rw [List.set_append_left _ _ (by omega), tkP_set hx hp hb]
    show _ = BlkA b 64 _ :: RowO 59 1 v (s.ts.set i x').length (ptrs ps) :: (tkP (s.ts.set i x') ps ++ S)
    rw [List.length_set]
  rw [e] at h2
  exact h2
def stOf (s : Tr) (id : Int) : Nat := match taskAt s id with | none => 9 | some y => y.st
def startC (s : Tr) (id : Int) : Int × Tr :=
  match taskAt s id with
  | none => (-25, s)
  | some x => if x.kd = 1 then (-12, s)
    else if x.st ≠ 0 ∨ (x.kd = 3 ∧ stOf s x.pa ≠ 1) then (-20, s)
    else (0, { s with ts := s.ts.set (id - 1).toNat { x with st := 1 } })
theorem taskAt_get {s : Tr} {id : Int} {x : Tk} (h : taskAt s id = some x) : s.ts[(id - 1).toNat]? = some x := by
  unfold taskAt at h
  by_cases h1 : id < 1
  · rw [if_pos h1] at h
    cases h
  · rw [if_neg h1] at h
    exact h
set_option maxHeartbeats 2000000 in
theorem start_any (h : Star w0 w (tr b s v ps ++ S)) (id : Int) (hpar : ∀ x, taskAt s id = some x → x.kd = 3 → ∃ y, taskAt s x.pa = some y) : Calls Try.prog 17 #[.pointer (some ⟨b, 0, none⟩), .int .i64 id] w fun r w' => r = .returned (.int .i64 (startC s id).1) ∧ Star w0 w' (tr b (startC s id).2 v ps ++ S) := by
  have hf := find_any h id
  have HS := Lib.hid h
  unfold startC
  rcases find_two h id with ⟨h1, h2⟩ | ⟨x, p, h1, hp, h2, hb⟩
  · rw [h1]
    rw [h2] at hf
    have HF := Lib.hid hf
    clear h hf h1 h2 hpar
    go_enter Try.func17, Try.ntmps17
    go_wp2_with (first | (go_at_call 31; (with_reducible refine HF.out.mono ?_); rintro e w1 ⟨rfl, rfl⟩))
    go_ret
    exact ⟨rfl, HS.out⟩
  · rw [h1]
    rw [h2] at hf
    have HF := Lib.hid hf
    obtain ⟨k0, k1, k2, -, -, -, -, -⟩ := tk_cells hb
    have f2 := hb.frozen 2
    simp only
    by_cases hk1 : x.kd = 1
    · rw [hk1] at k0
      simp only [if_pos hk1]
      clear h hf h1 h2 hb hpar hk1
      go_enter Try.func17, Try.ntmps17
      go_wp2_with (first | (go_at_call 31; (with_reducible refine HF.out.mono ?_); rintro e w1 ⟨rfl, rfl⟩))
      go_ret
      exact ⟨rfl, HS.out⟩
    · simp only [if_neg hk1]
      have z1 : ((x.kd : Int) == 1) = false := by simp; omega
      by_cases hs0 : x.st = 0
      · rw [hs0] at k2
        by_cases hk3 : x.kd = 3
        · obtain ⟨y, hy⟩ := hpar x h1 hk3
          have hf2 := find_any h x.pa
          rcases find_two h x.pa with ⟨h3, -⟩ | ⟨y', q, h3, -, h4, hb2⟩
          · rw [hy] at h3
            cases h3
          · rw [h4] at hf2
            have HF2 := Lib.hid hf2
            obtain ⟨-, -, j2, -, -, -, -, -⟩ := tk_cells hb2
            have hst : stOf s x.pa = y'.st := by unfold stOf; rw [h3]
            rw [hst, hs0]
            rw [hk3] at k0
            by_cases hy1 : y'.st = 1
            · rw [hy1] at j2
              simp only [if_neg (show ¬ ((0 : Nat) ≠ 0 ∨ x.kd = 3 ∧ y'.st ≠ 1) by omega)]
              have HE := Lib.hid (tr_set h (taskAt_get h1) hp 2 (.int .i64 1) (x' := { x with st := 1 }) rfl rfl)
              clear h hf hf2 h1 h2 hb hb2 hpar hk1 z1 h3 h4 hst hy hs0 hk3 hy1 hp
              generalize x.pa = pa at *
              go_enter Try.func17, Try.ntmps17
              go_wp2_with (first
                | (go_at_call 31; (with_reducible refine HF.out.mono ?_); rintro e w1 ⟨rfl, rfl⟩)
                | (go_at_call 31; (with_reducible refine HF2.out.mono ?_); rintro e w1 ⟨rfl, rfl⟩))
              go_ret
              exact ⟨rfl, HE.out⟩
            · have z2 : ((y'.st : Int) != 1) = true := by simp; omega
              simp only [if_pos (show (0 : Nat) ≠ 0 ∨ x.kd = 3 ∧ y'.st ≠ 1 from .inr ⟨hk3, hy1⟩)]
              clear h hf hf2 h1 h2 hb hb2 hpar hk1 z1 h3 h4 hst hy hs0 hk3 hy1 hp
              generalize x.pa = pa at *
              generalize y'.st = ys at *
              go_enter Try.func17, Try.ntmps17
              go_wp2_with (first
                | (go_at_call 31; (with_reducible refine HF.out.mono ?_); rintro e w1 ⟨rfl, rfl⟩)
                | (go_at_call 31; (with_reducible refine HF2.out.mono ?_); rintro e w1 ⟨rfl, rfl⟩))
              go_ret
              exact ⟨rfl, HS.out⟩
        · have z3 : ((x.kd : Int) == 3) = false := by simp; omega
          simp only [if_neg (show ¬ (x.st ≠ 0 ∨ x.kd = 3 ∧ stOf s x.pa ≠ 1) by omega)]
          have HE := Lib.hid (tr_set h (taskAt_get h1) hp 2 (.int .i64 1) (x' := { x with st := 1 }) rfl rfl)
          clear h hf h1 h2 hb hpar hk1 hs0 hk3 hp
          generalize x.kd = kd at *
          go_enter Try.func17, Try.ntmps17
          go_wp2_with (first
            | (go_at_call 31; (with_reducible refine HF.out.mono ?_); rintro e w1 ⟨rfl, rfl⟩))
          go_ret
          exact ⟨rfl, HE.out⟩
      · have z2 : ((x.st : Int) != 0) = true := by simp; omega
        simp only [if_pos (show x.st ≠ 0 ∨ x.kd = 3 ∧ stOf s x.pa ≠ 1 from .inl hs0)]
        clear h hf h1 h2 hb hpar hk1 hs0
        generalize x.st = st at *
        generalize x.kd = kd at *
        go_enter Try.func17, Try.ntmps17
        go_wp2_with (first
          | (go_at_call 31; (with_reducible refine HF.out.mono ?_); rintro e w1 ⟨rfl, rfl⟩))
        go_ret
        exact ⟨rfl, HS.out⟩
end
end Go.Proofs.Ytojmhacafmpbgaa.Tk
