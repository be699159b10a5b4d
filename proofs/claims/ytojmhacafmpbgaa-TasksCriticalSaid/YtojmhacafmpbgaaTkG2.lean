/- The tree of tasks: Make refused below a process (printed by tkg2.py out of TkG). -/
import Derived.Test.YtojmhacafmpbgaaTkG
namespace Go.Proofs.Ytojmhacafmpbgaa.Tk
open Go Go.RowKit Go.Proofs.Ytojmhacafmpbgaa.Mem
set_option linter.unusedVariables false
set_option linter.unusedSimpArgs false
section
variable {w0 w : World} {S : List Asr} {b : Nat} {s : Tr} {v : Value} {ps : List (Nat × Value)}
set_option maxHeartbeats 4000000 in
/-- Below a process: its job's policy counts. -/
theorem make_bad2 (h : Star w0 w (tr b s v ps ++ S)) (k parent : Int) {x : Tk} (hx : taskAt s parent = some x) (hk2 : x.kd = 2) {y : Tk} (hy : taskAt s x.pa = some y) (hbad : makeSt s x k ≠ 0) : Calls Try.prog 11 #[.pointer (some ⟨b, 0, none⟩), .int .i64 k, .int .i64 parent] w fun r w' => r = .returned (.tuple #[.int .i64 0, .int .i64 (makeSt s x k)]) ∧ Star w0 w' (tr b s v ps ++ S) := by
  have hf := find_any h parent
  have HS := Lib.hid h
  have HFi := Lib.hid (fun W => fits_any k x.kd W)
  have HFo := Lib.hid (fun W => forbids_any k W)
  have t1 := (h.blk 0 rfl).cellv (i := 1) rfl
  have t2 := (h.blk 0 rfl).cellv (i := 2) rfl
  rcases find_two h parent with ⟨h1, h2⟩ | ⟨x', p, h1, -, h2, hb⟩
  · rw [hx] at h1
    cases h1
  · rw [hx] at h1
    injection h1 with h1
    subst h1
    rw [h2] at hf
    have HF := Lib.hid hf
    obtain ⟨k0, k1, k2, -, -, -, -, k7⟩ := tk_cells hb
    have hf2 := find_any h x.pa
    rcases find_two h x.pa with ⟨h3, -⟩ | ⟨y', q, h3, -, h4, hb2⟩
    · rw [hy] at h3
      cases h3
    rw [hy] at h3
    injection h3 with h3
    subst h3
    rw [h4] at hf2
    have HF2 := Lib.hid hf2
    obtain ⟨-, -, -, -, k4, -, -, -⟩ := tk_cells hb2
    have hj : jobOf s x = y := by unfold jobOf; rw [if_pos hk2, hy]; rfl
    rw [hk2, show ((2 : Nat) : Int) = 2 from rfl] at k0 HFi
    unfold makeSt at hbad ⊢
    rw [hj] at hbad ⊢
    rw [hk2, show ((2 : Nat) : Int) = 2 from rfl] at hbad ⊢
    clear h hf hf2 h2 hb hb2 hx hk2 hj hy h4
    generalize x.pa = pa at *
    by_cases c1 : fitsT k 2 = false
    · rw [if_pos c1]
      rw [c1] at HFi
      clear hbad c1
      go_enter Try.func11, Try.ntmps11
      go_wp2_with (first
        | (go_at_call 31; (with_reducible refine HF.out.mono ?_); rintro e w1 ⟨rfl, rfl⟩)
        | (go_at_call 31; (with_reducible refine HF2.out.mono ?_); rintro e w1 ⟨rfl, rfl⟩)
        | (go_at_call 32; (with_reducible refine (HFi.out _).mono ?_); rintro e w1 ⟨rfl, rfl⟩))
      go_ret2
      exact ⟨rfl, HS.out⟩
    · rw [if_neg c1] at hbad ⊢
      rw [show fitsT k 2 = true by simpa using c1] at HFi
      by_cases c2 : x.st = 2
      · rw [if_pos c2]
        rw [c2] at k2
        clear hbad c1 c2
        go_enter Try.func11, Try.ntmps11
        go_wp2_with (first
          | (go_at_call 31; (with_reducible refine HF.out.mono ?_); rintro e w1 ⟨rfl, rfl⟩)
          | (go_at_call 31; (with_reducible refine HF2.out.mono ?_); rintro e w1 ⟨rfl, rfl⟩)
          | (go_at_call 32; (with_reducible refine (HFi.out _).mono ?_); rintro e w1 ⟨rfl, rfl⟩))
        go_ret2
        exact ⟨rfl, HS.out⟩
      · rw [if_neg c2] at hbad ⊢
        have z3 : ((x.st : Int) == 2) = false := by simp; omega
        obtain ⟨pv, epv⟩ : ∃ pv, bits .and .i64 (y.po : Int) (forbidsT k) = pv := ⟨_, rfl⟩
        rw [epv] at hbad ⊢
        by_cases c3 : pv ≠ 0
        · rw [if_pos c3]
          have z4 : (pv != 0) = true := by simpa using c3
          clear hbad c1 c2 c3
          generalize y.po = po at *
          generalize x.st = st at *
          generalize forbidsT k = fo at *
          go_enter Try.func11, Try.ntmps11
          go_wp2_with (first
            | (go_at_call 31; (with_reducible refine HF.out.mono ?_); rintro e w1 ⟨rfl, rfl⟩)
            | (go_at_call 31; (with_reducible refine HF2.out.mono ?_); rintro e w1 ⟨rfl, rfl⟩)
            | (go_at_call 32; (with_reducible refine (HFi.out _).mono ?_); rintro e w1 ⟨rfl, rfl⟩))
          go_quiet (first | (go_at_call 33; with_reducible exact quiet_left' HFo.out))
          go_wp2
          go_ret2
          exact ⟨rfl, HS.out.drewN _⟩
        · rw [if_neg c3] at hbad ⊢
          have z4 : (pv != 0) = false := by simpa using c3
          by_cases c4 : k = 1 ∧ 16 ≤ x.dp
          · rw [if_pos c4]
            obtain ⟨rfl, hd⟩ := c4
            have hdi : (16 : Int) ≤ x.dp := by omega
            clear hbad c1 c2 c3 hd
            generalize y.po = po at *
            generalize x.st = st at *
            generalize x.dp = dp at *
            generalize forbidsT 1 = fo at *
            go_enter Try.func11, Try.ntmps11
            go_wp2_with (first
              | (go_at_call 31; (with_reducible refine HF.out.mono ?_); rintro e w1 ⟨rfl, rfl⟩)
              | (go_at_call 31; (with_reducible refine HF2.out.mono ?_); rintro e w1 ⟨rfl, rfl⟩)
              | (go_at_call 32; (with_reducible refine (HFi.out _).mono ?_); rintro e w1 ⟨rfl, rfl⟩))
            go_quiet (first | (go_at_call 33; with_reducible exact quiet_left' HFo.out))
            go_wp2
            go_ret2
            exact ⟨rfl, HS.out.drewN _⟩
          · rw [if_neg c4] at hbad ⊢
            by_cases c5 : s.most ≤ s.live
            · rw [if_pos c5]
              have hml : (s.most : Int) ≤ s.live := by omega
              by_cases hk1 : k = 1
              · subst hk1
                have hdi : ¬ (16 : Int) ≤ x.dp := by
                  intro h
                  exact c4 ⟨rfl, by omega⟩
                clear hbad c1 c2 c3 c4 c5
                generalize y.po = po at *
                generalize x.st = st at *
                generalize x.dp = dp at *
                generalize forbidsT 1 = fo at *
                go_enter Try.func11, Try.ntmps11
                go_wp2_with (first
                  | (go_at_call 31; (with_reducible refine HF.out.mono ?_); rintro e w1 ⟨rfl, rfl⟩)
                  | (go_at_call 31; (with_reducible refine HF2.out.mono ?_); rintro e w1 ⟨rfl, rfl⟩)
                  | (go_at_call 32; (with_reducible refine (HFi.out _).mono ?_); rintro e w1 ⟨rfl, rfl⟩))
                go_quiet (first | (go_at_call 33; with_reducible exact quiet_left' HFo.out))
                go_wp2
                go_quiet (fail)
                go_wp2
                go_ret2
                exact ⟨rfl, (HS.out.drewN _).drewN _⟩
              · have zk : (k == 1) = false := beq_eq_false_iff_ne.mpr hk1
                clear hbad c1 c2 c3 c4 c5 hk1
                generalize y.po = po at *
                generalize x.st = st at *
                generalize x.dp = dp at *
                generalize forbidsT k = fo at *
                go_enter Try.func11, Try.ntmps11
                go_wp2_with (first
                  | (go_at_call 31; (with_reducible refine HF.out.mono ?_); rintro e w1 ⟨rfl, rfl⟩)
                  | (go_at_call 31; (with_reducible refine HF2.out.mono ?_); rintro e w1 ⟨rfl, rfl⟩)
                  | (go_at_call 32; (with_reducible refine (HFi.out _).mono ?_); rintro e w1 ⟨rfl, rfl⟩))
                go_quiet (first | (go_at_call 33; with_reducible exact quiet_left' HFo.out))
                go_wp2
                go_quiet (fail)
                go_wp2
                go_ret2
                exact ⟨rfl, (HS.out.drewN _).drewN _⟩
            · rw [if_neg c5] at hbad
              exact absurd rfl hbad
end
end Go.Proofs.Ytojmhacafmpbgaa.Tk
