/- The tree of tasks: Make of a job. -/
import Derived.Test.YtojmhacafmpbgaaTkI
namespace Go.Proofs.Ytojmhacafmpbgaa.Tk
open Go Go.RowKit Go.Proofs.Ytojmhacafmpbgaa.Mem
set_option linter.unusedVariables false
set_option linter.unusedSimpArgs false
theorem drewN_set (W : World) (n : Nat) (a : Addr) (u : Value) : (W.drewN n).setCell a u = (W.setCell a u).drewN n := by
  simp [World.drewN, World.setCell]
section
variable {w0 w : World} {S : List Asr} {b : Nat} {s : Tr} {v : Value} {ps : List (Nat × Value)}
set_option maxHeartbeats 4000000 in
theorem make_ok1 (h : Star w0 w (tr b s v ps ++ S)) (i : Nat) {x : Tk} (hx : s.ts[i]? = some x) (hk2 : x.kd = 1) (hok : makeSt s x 1 = 0) (hn : s.ts.length ≤ 65536) (hlv : s.live ≤ 65536) (hbl : x.bl.length ≤ 65536) : Calls Try.prog 11 #[.pointer (some ⟨b, 0, none⟩), .int .i64 1, .int .i64 ((i : Int) + 1)] w fun r w' => r = .returned (.tuple #[.int .i64 ((s.ts.length : Int) + 1), .int .i64 0]) ∧ ∃ v' ps', Star w0 w' (tr b (addT s i x 1) v' ps' ++ S) := by
  have hxt : taskAt s ((i : Int) + 1) = some x := by
    unfold taskAt
    rw [if_neg (by omega), show ((i : Int) + 1 - 1).toNat = i by omega]
    exact hx
  have hl := tr_len h
  have hf := find_any h ((i : Int) + 1)
  have HFi := Lib.hid (fun W => fits_any 1 1 W)
  have HFo := Lib.hid (fun W => forbids_any 1 W)
  have t1 : w.cell? ⟨b, 1, none⟩ = some (.int .i64 s.most) := (h.blk 0 rfl).cellv (i := 1) rfl
  have t2 : w.cell? ⟨b, 2, none⟩ = some (.int .i64 s.live) := (h.blk 0 rfl).cellv (i := 2) rfl
  obtain ⟨i0, hi0, hz0, hz1, hz2⟩ := info_parts ptr_info
  obtain ⟨i1, hi1, hy0, hy1, hy2⟩ := info_parts int_info
  rw [show fitsT 1 1 = true by decide] at HFi
  rw [show forbidsT 1 = 2 by decide] at HFo
  rcases find_two h ((i : Int) + 1) with ⟨h1, h2⟩ | ⟨x', p, h1, hp, h2, hb⟩
  · rw [hxt] at h1
    cases h1
  · rw [hxt] at h1
    injection h1 with h1
    subst h1
    rw [show ((i : Int) + 1 - 1).toNat = i by omega] at hp
    rw [h2] at hf
    have HF := Lib.hid hf
    obtain ⟨k0, -, k2, -, k4, -, -, k7⟩ := tk_cells hb
    rw [hk2] at k0
    have hj : jobOf s x = x := by unfold jobOf; rw [if_neg (by omega)]
    unfold makeSt at hok
    rw [hj, hk2, show fitsT 1 ((1 : Nat) : Int) = true by decide, if_neg (by decide), show forbidsT 1 = 2 by decide] at hok
    by_cases c2 : x.st = 2
    · rw [if_pos c2] at hok
      cases hok
    rw [if_neg c2] at hok
    obtain ⟨pv, epv⟩ : ∃ pv, bits .and .i64 (x.po : Int) 2 = pv := ⟨_, rfl⟩
    rw [epv] at hok
    by_cases c3 : pv ≠ 0
    · rw [if_pos c3] at hok
      cases hok
    rw [if_neg c3] at hok
    by_cases c4 : (1 : Int) = 1 ∧ 16 ≤ x.dp
    · rw [if_pos c4] at hok
      cases hok
    rw [if_neg c4] at hok
    have hdi : ¬ (16 : Int) ≤ x.dp := by
      intro h
      exact c4 ⟨rfl, by omega⟩
    have hdu : (x.dp : Int) ≤ 16 := by omega
    by_cases c5 : s.most ≤ s.live
    · rw [if_pos c5] at hok
      cases hok
    have z3 : ((x.st : Int) == 2) = false := by simp; omega
    have z4 : (pv != 0) = false := by simpa using c3
    have hml : ¬ (s.most : Int) ≤ s.live := by omega
    obtain ⟨A, c, rfl⟩ := (h.rowO 1 rfl).len
    have hL := tkP_len (xs := s.ts) (ps := ps) hl.symm
    have hii := (List.getElem?_eq_some_iff.1 hx).1
    obtain ⟨A6, c6, e6⟩ : ∃ A6 c6, p.2 = .slice A6 x.bl.length c6 := by
      obtain ⟨q, hq, -, ho⟩ := tr_task h hx
      rw [hp] at hq
      injection hq with hq
      subst hq
      exact ho.len
    have hin : ∀ (G Y Z : Asr), (G :: Y :: Z :: (tkP s.ts ps ++ S))[2 * i + 1 + 1 + 1]? = some (BlkA p.1 61 (tkC x (.slice A6 x.bl.length c6))) ∧ (G :: Y :: Z :: (tkP s.ts ps ++ S))[2 * i + 1 + 1 + 1 + 1]? = some (RowO 3 1 (.slice A6 x.bl.length c6) x.bl.length (nV x.bl)) := by
      intro G Y Z
      simp only [List.getElem?_cons_succ]
      rw [List.getElem?_append_left (by omega), List.getElem?_append_left (by omega), tkP_blk hx hp, tkP_row hx hp, e6]
      exact ⟨rfl, rfl⟩
    have HIN := Lib.hid hin
    have HADD := Lib.hid (fun (W : World) (g : Nat) (v3 v6 : Value) h => add_star (w0 := w0) (w := W) (S := S) (b := b) (g := g) (v3 := v3) (v6 := v6) (k := 1) hl hx hp h)
    obtain ⟨W1, e1⟩ : ∃ W1, w.alloc (.cells #[.int .i64 1, .int .i64 ((i : Int) + 1), .int .i64 0, .int .i64 0, .int .i64 0, .int .i64 0, .slice none 0 0, .int .i64 0] 61) = W1 := ⟨_, rfl⟩
    have hs1 : Star w0 W1 (BlkA w.heap.size 61 #[.int .i64 1, .int .i64 ((i : Int) + 1), .int .i64 0, .int .i64 0, .int .i64 0, .int .i64 0, .slice none 0 0, .int .i64 0] :: (tr b s (.slice A s.ts.length c) ps ++ S)) := by
      rw [← e1]
      exact h.newBlk 61 #[.int .i64 1, .int .i64 ((i : Int) + 1), .int .i64 0, .int .i64 0, .int .i64 0, .int .i64 0, .slice none 0 0, .int .i64 0]
    have g0 : ∀ n : Nat, (w.drewN n).alloc (.cells #[.int .i64 1, .int .i64 ((i : Int) + 1), .int .i64 0, .int .i64 0, .int .i64 0, .int .i64 0, .slice none 0 0, .int .i64 0] 61) = W1.drewN n := fun n => by
      rw [← e1]
      first
        | rfl
        | (induction n with | zero => rfl | succ n ih => rfl)
    have hb1 := hs1.blk (2 * i + 1 + 1 + 1) (HIN.out _ _ _).1
    obtain ⟨-, -, -, -, m4, -, -, m7⟩ := tk_cells hb1
    have n2 := (hs1.blk 0 rfl).cellv (i := 2) rfl
    have n4 := (hs1.blk 0 rfl).cellv (i := 4) rfl
    have n7 := (hs1.blk 0 rfl).cellv (i := 7) rfl
    have fr := fun o => (hs1.blk 0 rfl).frozen o
    have fr2 := fr 2
    have fr4 := fr 4
    have fr7 := fr 7
    have hs2 := ((hs1.setBlk 0 rfl 2 (.int .i64 1)).setBlk 0 rfl 4 (.int .i64 x.po)).setBlk 0 rfl 7 (.int .i64 ((x.dp : Int) + 1))
    obtain ⟨W2, e2⟩ : ∃ W2, ((W1.setCell ⟨w.heap.size, 2, none⟩ (.int .i64 1)).setCell ⟨w.heap.size, 4, none⟩ (.int .i64 x.po)).setCell ⟨w.heap.size, 7, none⟩ (.int .i64 ((x.dp : Int) + 1)) = W2 := ⟨_, rfl⟩
    rw [e2] at hs2
    have q0 : W2.cell? ⟨b, 0, none⟩ = some (.slice A s.ts.length c) := (hs2.blk 1 rfl).cellv (i := 0) rfl
    have HS2 : Hid (Star w0 W2 (BlkA w.heap.size 61 #[.int .i64 1, .int .i64 ((i : Int) + 1), .int .i64 1, .int .i64 0, .int .i64 x.po, .int .i64 0, .slice none 0 0, .int .i64 ((x.dp : Int) + 1)] :: (tr b s (.slice A s.ts.length c) ps ++ S))) := Lib.hid hs2
    have G2 : Hid (∀ n : Nat, (((W1.drewN n).setCell ⟨w.heap.size, 2, none⟩ (.int .i64 1)).setCell ⟨w.heap.size, 4, none⟩ (.int .i64 x.po)).setCell ⟨w.heap.size, 7, none⟩ (.int .i64 ((x.dp : Int) + 1)) = W2.drewN n) := Lib.hid (fun n => by rw [← e2]; simp only [drewN_set])
    have HS := Lib.hid h
    have EN := Lib.hid (show tkC (newY 1 (i + 1) x) (.slice none 0 0) = #[.int .i64 1, .int .i64 ((i : Int) + 1), .int .i64 1, .int .i64 0, .int .i64 x.po, .int .i64 0, .slice none 0 0, .int .i64 ((x.dp : Int) + 1)] by simp [tkC, newY])
    have hli : (s.live : Int) ≤ 65536 := by omega
    have hni : (s.ts.length : Int) ≤ 65536 := by omega
    have hbi : (x.bl.length : Int) ≤ 65536 := by omega
    clear h hf h2 hb hj hok c2 c3 c5 hk2 hin hxt hL hii e6 e1 e2 hs1 hs2 hb1 fr c4 hn hlv hbl hl hx hp
    generalize x.po = po at *
    generalize x.st = st at *
    generalize x.dp = dp at *
    go_enter Try.func11, Try.ntmps11
    go_wp2_with (first
      | (go_at_call 31; (with_reducible refine HF.out.mono ?_); rintro e w1 ⟨rfl, rfl⟩)
      | (go_at_call 32; (with_reducible refine (HFi.out _).mono ?_); rintro e w1 ⟨rfl, rfl⟩))
    go_quiet (first | (go_at_call 33; with_reducible exact quiet_left' HFo.out))
    go_wp2
    go_quiet (fail)
    go_wp2
    go_region
    rw [G2.out]
    clear g0 n2 n4 n7 fr2 fr4 fr7 m4 m7
    go_wp2_with (first
      | (at_builtin; refine wpList_append_so rfl (.tmp 108) (.tmp 110) 62 rfl ((HS2.out.drewN _).alloc _) 2 rfl i0 _ 8 Try.underlying62 hi0 hz0 hz1 hz2 rfl (by omega) rfl _ (some ⟨W2.heap.size, 0, none⟩) 1 1 [.pointer (some ⟨w.heap.size, 0, none⟩)] rfl (reads_fresh_at _ 59 [.pointer (some ⟨w.heap.size, 0, none⟩)] 1 1 W2.heap.size rfl (by rfl)) (by intro x hx; cases hx with | head => rfl | tail _ h => cases h) (by simp only [maxLen]; omega) (by omega) ?_
         intro v3 w3 hs3
         simp only [List.cons_append, List.nil_append, List.set_cons_zero, List.set_cons_succ] at hs3
         obtain ⟨A3, c3, rfl⟩ := (hs3.rowO 2 rfl).len
         have hs4 := hs3.setBlk 1 rfl 0 (.slice A3 (s.ts.length + 1) c3)
         simp only [List.set_cons_zero, List.set_cons_succ] at hs4
         have f0 := (hs3.blk 1 rfl).frozen 0
         have q1 := (hs3.blk 1 rfl).cellv (i := 0) rfl
         have q2 := (hs4.blk 1 rfl).cellv (i := 2) rfl
         have f2 := (hs4.blk 1 rfl).frozen 2
         have HS4 := Lib.hid hs4
         clear hs3 hs4))
    obtain ⟨W4, e4⟩ : ∃ W4, (w3.setCell ⟨b, 0, none⟩ (.slice A3 (s.ts.length + 1) c3)).setCell ⟨b, 2, none⟩ (.int .i64 ((s.live : Int) + 1)) = W4 := ⟨_, rfl⟩
    rw [e4]
    have hs5 : Star w0 W4 (BlkA w.heap.size 61 #[.int .i64 1, .int .i64 ((i : Int) + 1), .int .i64 1, .int .i64 0, .int .i64 po, .int .i64 0, .slice none 0 0, .int .i64 ((dp : Int) + 1)] :: BlkA b 64 #[.slice A3 (s.ts.length + 1) c3, .int .i64 s.most, .int .i64 ((s.live : Int) + 1)] :: RowO 59 1 (.slice A3 (s.ts.length + 1) c3) (s.ts.length + 1) (ptrs ps ++ [.pointer (some ⟨w.heap.size, 0, none⟩)]) :: (tkP s.ts ps ++ S)) := by
      rw [← e4]
      exact HS4.out.setBlk 1 rfl 2 (.int .i64 ((s.live : Int) + 1))
    have u6 : W4.cell? ⟨p.1, 6, none⟩ = some (.slice A6 x.bl.length c6) := (hs5.blk (2 * i + 1 + 1 + 1) (HIN.out _ _ _).1).cellv (i := 6) rfl
    have u0 : W4.cell? ⟨b, 0, none⟩ = some (.slice A3 (s.ts.length + 1) c3) := (hs5.blk 1 rfl).cellv (i := 0) rfl
    have u6' : (W4.alloc (.cells #[.int .i64 ((s.ts.length : Int) + 1)] 3)).cell? ⟨p.1, 6, none⟩ = some (.slice A6 x.bl.length c6) := ((hs5.alloc _).blk (2 * i + 1 + 1 + 1) (HIN.out _ _ _).1).cellv (i := 6) rfl
    have HS5 := Lib.hid hs5
    clear hs5 HS4 e4 q0 q1 q2 f0 f2 HS2 t1 t2 k0 k2 k4 k7 HS HF
    have e0 : ((s.ts.length + 1 : Nat) : Int) = (s.ts.length : Int) + 1 := by omega
    go_region_law (first
      | (refine step_append_so (by rfl) (.tmp 125) (.tmp 131) 28 (by rfl) ((star_dr HS5.out).alloc _) (2 * i + 1 + 1 + 1 + 1) (HIN.out _ _ _).2 i1 _ 8 Try.underlying28 hi1 hy0 hy1 hy2 rfl (by omega) (by rfl) _ (some ⟨W4.heap.size, 0, none⟩) 1 1 [.int .i64 ((s.ts.length : Int) + 1)] (by rfl) (reads_fresh_at _ 3 [.int .i64 ((s.ts.length : Int) + 1)] 1 1 W4.heap.size rfl (by simp)) (by intro x hx; cases hx with | head => rfl | tail _ h => cases h) (by simp only [maxLen]; omega) (by omega) ?_
         intro v6 w6 hs6
         obtain ⟨A7, c7, rfl⟩ := (rowO_set hs6 (HIN.out _ _ _).2).len
         have hk6 := set_ne_at (A' := RowO 3 1 (.slice A7 (x.bl.length + 1) c7) (x.bl.length + 1) (nV x.bl ++ [.int .i64 ((s.ts.length : Int) + 1)])) (HIN.out (BlkA w.heap.size 61 #[.int .i64 1, .int .i64 ((i : Int) + 1), .int .i64 1, .int .i64 0, .int .i64 po, .int .i64 0, .slice none 0 0, .int .i64 ((dp : Int) + 1)]) (BlkA b 64 #[.slice A3 (s.ts.length + 1) c3, .int .i64 s.most, .int .i64 ((s.live : Int) + 1)]) (RowO 59 1 (.slice A3 (s.ts.length + 1) c3) (s.ts.length + 1) (ptrs ps ++ [.pointer (some ⟨w.heap.size, 0, none⟩)]))).1 (show 2 * i + 1 + 1 + 1 + 1 ≠ 2 * i + 1 + 1 + 1 by omega)
         have hs7 := hs6.setBlk (2 * i + 1 + 1 + 1) hk6 6 (.slice A7 (x.bl.length + 1) c7)
         have f6 := (hs6.blk (2 * i + 1 + 1 + 1) hk6).frozen 6
         have r6 : w6.cell? ⟨p.1, 6, none⟩ = some (.slice A6 x.bl.length c6) := (hs6.blk (2 * i + 1 + 1 + 1) hk6).cellv (i := 6) rfl
         have u7 : (w6.setCell ⟨p.1, 6, none⟩ (.slice A7 (x.bl.length + 1) c7)).cell? ⟨b, 0, none⟩ = some (.slice A3 (s.ts.length + 1) c3) := (hs7.blk 1 rfl).cellv (i := 0) rfl
         have HS7 := Lib.hid hs7
         clear hs6 hs7 hk6))
    all_goals
      go_wp2
      go_ret2
      refine ⟨rfl, _, _, HADD.out _ w.heap.size (.slice A3 (s.ts.length + 1) c3) (.slice A7 (x.bl.length + 1) c7) ?_⟩
      rw [EN.out]
      exact HS7.out
end
end Go.Proofs.Ytojmhacafmpbgaa.Tk
