/- TasksPolicy: what a job's policy forbids can't be made below it, nor below jobs that were made in it; what was made ahead stays. For all numbers. (Printed by tkpol.py.) -/
import Derived.Test.YtojmhacafmpbgaaTkPoA
namespace Go.Proofs.Ytojmhacafmpbgaa.Tk
open Go Go.RowKit Go.Proofs.Ytojmhacafmpbgaa.Mem
set_option linter.unusedVariables false
set_option linter.unusedSimpArgs false
set_option maxRecDepth 100000 in
set_option maxHeartbeats 1000000 in
theorem pol_no (a b : Int) (w : World) (h : a < 0 ∨ 15 < a ∨ b < 0 ∨ 10 < b) :
    Calls Try.prog 6 #[.int .i64 a, .int .i64 b] w fun e w' => e = .returned (.bool true) ∧ Below w.heap.size w w' := by
  have HA := Lib.hid awake_any
  have HN := Lib.hid (new_st (Star.nil w) 100 (by omega) (by omega))
  rw [show ((100 : Nat) : Int) = 100 from rfl] at HN
  rcases (by omega : a < 0 ∨ (¬ a < 0 ∧ 15 < a) ∨ (¬ a < 0 ∧ ¬ 15 < a ∧ b < 0) ∨ (¬ a < 0 ∧ ¬ 15 < a ∧ ¬ b < 0 ∧ 10 < b)) with h1 | ⟨h1, h2⟩ | ⟨h1, h2, h3⟩ | ⟨h1, h2, h3, h4⟩
  all_goals
    clear h
    go_enter Try.func6, Try.ntmps6
    go_wp2_with (first
      | (go_at_call 9; (with_reducible refine HN.out.mono ?_); rintro e w1 ⟨rfl, hs1⟩; have HS1 := Lib.hid hs1; clear hs1)
      | (go_at_call 10; (with_reducible refine (HA.out _).mono ?_); rintro e w9 ⟨rfl, hb9⟩))
    go_ret
    exact ⟨rfl, HS1.out.below.trans (hb9.mono HS1.out.hb)⟩
set_option maxRecDepth 100000 in
set_option maxHeartbeats 8000000 in
theorem pol_yes (nb dp : Nat) (w : World) (h1 : nb ≤ 15) (h2 : dp ≤ 10) :
    Calls Try.prog 6 #[.int .i64 nb, .int .i64 dp] w fun e w' => e = .returned (.bool true) ∧ Below w.heap.size w w' := by
  have HA := Lib.hid awake_any
  have HN := Lib.hid (new_st (Star.nil w) 100 (by omega) (by omega))
  rw [show ((100 : Nat) : Int) = 100 from rfl] at HN
  obtain ⟨bt, ebt⟩ : ∃ bt, bt = w.heap.size + 1 + 1 := ⟨_, rfl⟩
  rw [← ebt] at HN
  have HMa := Lib.hid (fun W (h : Star w W [TT bt (newT 100)]) => make_st h 0 rfl (wf_new 100) (by simp [newT]) 1 1)
  rw [po_make] at HMa
  obtain ⟨g1, g2⟩ := po_pol nb h1
  have HP := Lib.hid (fun W (h : Star w W [TT bt poS1]) => pol_st h 0 rfl po_wf (by simp [poS1, addT, newT]) 2 (nb : Int))
  rw [g1] at HP
  simp only [List.set_cons_zero] at HMa HP
  have HI0 := Lib.hid g2
  generalize (polC poS1 2 (nb : Int)).2 = s0 at *
  have z1 : ¬ (nb : Int) < 0 := by omega
  have z2 : ¬ (15 : Int) < nb := by omega
  have z3 : ¬ (dp : Int) < 0 := by omega
  have z4 : ¬ (10 : Int) < dp := by omega
  obtain ⟨a2, e2⟩ : ∃ a2, bits .and .i64 (nb : Int) 2 = a2 := ⟨_, rfl⟩
  clear ebt g1 g2
  go_enter Try.func6, Try.ntmps6
  go_wp2_with (first
    | (go_at_call 9; (with_reducible refine HN.out.mono ?_); rintro e w1 ⟨rfl, hs1⟩; have HS1 := Lib.hid hs1; clear hs1)
    | (go_at_call 11; (with_reducible refine (HMa.out _ HS1.out).mono ?_); rintro e w2 ⟨rfl, hs2⟩; have HS2 := Lib.hid hs2; clear hs2)
    | (go_at_call 20; (with_reducible refine (HP.out _ HS2.out).mono ?_); rintro e w3 ⟨rfl, hs3⟩; have HS3 := Lib.hid hs3; clear hs3))
  clear HN HMa HP HS1 HS2
  by_cases c2 : andI nb 2 ≠ 0
  · have c2' := c2
    unfold andI at c2'
    rw [e2] at c2'
    have y2 : (a2 != 0) = true := by simpa using c2'
    clear c2'
    have C2 := Lib.hid c2
    clear c2
    go_loopg [6, 56] dp (fun g s6 s56 wr => ∃ (d : Nat) (s : Tr), d = 0 ∧ s6 = .int .i64 ((d : Int) + 2) ∧ s56 = .int .i64 0 ∧ Hid (PoI nb d s) ∧ Hid (Star w wr [TT bt s]))
    case atStart => exact ⟨0, s0, rfl, rfl, rfl, HI0, HS3⟩
    case round =>
      clear HS3 HI0
      obtain ⟨d, s, hd0, rfl, rfl, HI, HS⟩ := hrel
      have hdn := hd0
      have hd10 : d ≤ 10 := by omega
      clear hd0
      by_cases hlt : 0 < dp
      · have hlz : (0 : Int) < dp := by omega
        have hM0 := make_st HS.out 0 rfl HI.out.wf (by have := HI.out.le; omega) 1 ((d : Int) + 2)
        rw [(po_job HI.out hd10).1 C2.out] at hM0
        simp only [List.set_cons_zero] at hM0
        have HM0 := Lib.hid hM0
        clear hM0
        obtain ⟨pa1, pa2⟩ := po_proc HI.out hd10
        have hM := fun W (h : Star w W [TT bt s]) => make_st h 0 rfl HI.out.wf (by have := HI.out.le; omega) 2 ((d : Int) + 2)
        have hdz : (d : Int) ≤ 10 := by omega
        obtain ⟨a1, e1⟩ : ∃ a1, bits .and .i64 (nb : Int) 1 = a1 := ⟨_, rfl⟩
        by_cases c1 : andI nb 1 ≠ 0
        · rw [pa1 c1] at hM
          simp only [List.set_cons_zero] at hM
          have HM := Lib.hid hM
          unfold andI at c1
          rw [e1] at c1
          have z1 : (a1 != 0) = true := by simpa using c1
          have z1' : (a1 == 0) = false := by simpa using c1
          clear hM pa1 pa2 c1 HI hdn
          go_wp2_with (first
            | (go_at_call 11; (with_reducible refine (HM.out _ HSQ.out).mono ?_); rintro e w4 ⟨rfl, hs4⟩; have HS4 := Lib.hid hs4; clear hs4) | (go_at_call 11; (with_reducible refine HM0.out.mono ?_); rintro e w3 ⟨rfl, hsq⟩; have HSQ := Lib.hid hsq; clear hsq)
            | (go_at_call 10; (with_reducible refine (HA.out _).mono ?_); rintro e w9 ⟨rfl, hb9⟩))
          go_ret
          exact ⟨rfl, HS4.out.below.trans (hb9.mono HS4.out.hb)⟩
        · have c1' : andI nb 1 = 0 := by simpa using c1
          obtain ⟨q1, q2⟩ := pa2 c1'
          rw [q1] at hM
          simp only [List.set_cons_zero] at hM
          have HM := Lib.hid hM
          generalize (makeC s 2 ((d : Int) + 2)).2 = s2 at *
          unfold andI at c1'
          rw [e1] at c1'
          subst c1'
          obtain ⟨t1, t2, t3, t4, t5, t6, t7, t8⟩ := pr_thread q2
          have hM2 := fun W (h : Star w W [TT bt s2]) => make_st h 0 rfl q2.wf (by have := q2.le; omega) 3 ((d : Int) + 3)
          have hC := pr_crit t4 t5 t6 t7 t8
          have hM3 := fun W (h : Star w W [TT bt (makeC s2 3 ((d : Int) + 3)).2]) => crit_st h 0 rfl t4 ((d : Int) + 3) 1
          rw [hC] at hM3
          simp only [List.set_cons_zero] at hM2 hM3
          obtain ⟨a4, e4⟩ : ∃ a4, bits .and .i64 (nb : Int) 4 = a4 := ⟨_, rfl⟩
          obtain ⟨a8, e8⟩ : ∃ a8, bits .and .i64 (nb : Int) 8 = a8 := ⟨_, rfl⟩
          obtain ⟨n4, v4, h4⟩ : ∃ n4 v4, (makeC s2 3 ((d : Int) + 3)).1 = (n4, v4) ∧ ((v4 == -30) = (a4 != 0)) := by
            by_cases c4 : andI nb 4 ≠ 0
            · refine ⟨0, -30, by rw [t1 c4], ?_⟩
              unfold andI at c4
              rw [e4] at c4
              have : (a4 != 0) = true := by simpa using c4
              rw [this]
              rfl
            · have c4' : andI nb 4 = 0 := by simpa using c4
              obtain ⟨n, hn⟩ := t2 c4'
              refine ⟨n, 0, hn, ?_⟩
              unfold andI at c4'
              rw [e4] at c4'
              subst c4'
              rfl
          obtain ⟨h4a, h4b⟩ := h4
          rw [h4a] at hM2
          obtain ⟨v8, ev8, h8, h80⟩ : ∃ v8 : Int, (if andI nb 8 ≠ 0 then (-30 : Int) else 0) = v8 ∧ ((v8 == -30) = (a8 != 0)) ∧ ((v8 == 0) = (a8 == 0)) := by
            refine ⟨_, rfl, ?_, ?_⟩
            · unfold andI
              rw [e8]
              by_cases c8 : a8 = 0
              · subst c8
                rfl
              · have : (a8 != 0) = true := by simpa using c8
                rw [this, if_pos c8]
                rfl
            · unfold andI
              rw [e8]
              by_cases c8 : a8 = 0
              · subst c8
                rfl
              · have : (a8 == 0) = false := by simpa using c8
                rw [this, if_pos c8]
                rfl
          rw [ev8] at hM3
          have HM2 := Lib.hid hM2
          have HM3 := Lib.hid hM3
          generalize (critC (makeC s2 3 ((d : Int) + 3)).2 ((d : Int) + 3) 1).2 = s4 at *
          generalize (makeC s2 3 ((d : Int) + 3)).2 = s3 at *
          clear hM hM2 hM3 pa1 pa2 c1 q1 q2 t1 t2 t3 t4 t5 t6 t7 t8 hC h4a ev8 HI hdn
          cases hb4 : (a4 != 0) <;> cases hb8 : (a8 == 0)
          all_goals
            rw [hb4] at h4b
            have hb8' : (a8 != 0) = !(a8 == 0) := rfl
            rw [hb8'] at h8
            rw [hb8] at h8 h80 hb8'
            simp only [Bool.not_true, Bool.not_false] at h8 hb8'
            go_wp2_with (first
              | (go_at_call 11; (with_reducible refine (HM.out _ HSQ.out).mono ?_); rintro e w4 ⟨rfl, hs4⟩; have HS4 := Lib.hid hs4; clear hs4) | (go_at_call 11; (with_reducible refine HM0.out.mono ?_); rintro e w3 ⟨rfl, hsq⟩; have HSQ := Lib.hid hsq; clear hsq)
              | (go_at_call 11; (with_reducible refine (HM2.out _ HS4.out).mono ?_); rintro e w5 ⟨rfl, hs5⟩; have HS5 := Lib.hid hs5; clear hs5)
              | (go_at_call 15; (with_reducible refine (HM3.out _ HS5.out).mono ?_); rintro e w6 ⟨rfl, hs6⟩; have HS6 := Lib.hid hs6; clear hs6)
              | (go_at_call 10; (with_reducible refine (HA.out _).mono ?_); rintro e w9 ⟨rfl, hb9⟩))
            go_ret
            exact ⟨rfl, HS6.out.below.trans (hb9.mono HS6.out.hb)⟩
      · have hlz : ¬ (0 : Int) < dp := by omega
        clear hlt
        have HSQ := HS
        clear HS
        obtain ⟨pa1, pa2⟩ := po_proc HI.out hd10
        have hM := fun W (h : Star w W [TT bt s]) => make_st h 0 rfl HI.out.wf (by have := HI.out.le; omega) 2 ((d : Int) + 2)
        have hdz : (d : Int) ≤ 10 := by omega
        obtain ⟨a1, e1⟩ : ∃ a1, bits .and .i64 (nb : Int) 1 = a1 := ⟨_, rfl⟩
        by_cases c1 : andI nb 1 ≠ 0
        · rw [pa1 c1] at hM
          simp only [List.set_cons_zero] at hM
          have HM := Lib.hid hM
          unfold andI at c1
          rw [e1] at c1
          have z1 : (a1 != 0) = true := by simpa using c1
          have z1' : (a1 == 0) = false := by simpa using c1
          clear hM pa1 pa2 c1 HI hdn
          go_wp2_with (first
            | (go_at_call 11; (with_reducible refine (HM.out _ HSQ.out).mono ?_); rintro e w4 ⟨rfl, hs4⟩; have HS4 := Lib.hid hs4; clear hs4)
            | (go_at_call 10; (with_reducible refine (HA.out _).mono ?_); rintro e w9 ⟨rfl, hb9⟩))
          go_ret
          exact ⟨rfl, HS4.out.below.trans (hb9.mono HS4.out.hb)⟩
        · have c1' : andI nb 1 = 0 := by simpa using c1
          obtain ⟨q1, q2⟩ := pa2 c1'
          rw [q1] at hM
          simp only [List.set_cons_zero] at hM
          have HM := Lib.hid hM
          generalize (makeC s 2 ((d : Int) + 2)).2 = s2 at *
          unfold andI at c1'
          rw [e1] at c1'
          subst c1'
          obtain ⟨t1, t2, t3, t4, t5, t6, t7, t8⟩ := pr_thread q2
          have hM2 := fun W (h : Star w W [TT bt s2]) => make_st h 0 rfl q2.wf (by have := q2.le; omega) 3 ((d : Int) + 3)
          have hC := pr_crit t4 t5 t6 t7 t8
          have hM3 := fun W (h : Star w W [TT bt (makeC s2 3 ((d : Int) + 3)).2]) => crit_st h 0 rfl t4 ((d : Int) + 3) 1
          rw [hC] at hM3
          simp only [List.set_cons_zero] at hM2 hM3
          obtain ⟨a4, e4⟩ : ∃ a4, bits .and .i64 (nb : Int) 4 = a4 := ⟨_, rfl⟩
          obtain ⟨a8, e8⟩ : ∃ a8, bits .and .i64 (nb : Int) 8 = a8 := ⟨_, rfl⟩
          obtain ⟨n4, v4, h4⟩ : ∃ n4 v4, (makeC s2 3 ((d : Int) + 3)).1 = (n4, v4) ∧ ((v4 == -30) = (a4 != 0)) := by
            by_cases c4 : andI nb 4 ≠ 0
            · refine ⟨0, -30, by rw [t1 c4], ?_⟩
              unfold andI at c4
              rw [e4] at c4
              have : (a4 != 0) = true := by simpa using c4
              rw [this]
              rfl
            · have c4' : andI nb 4 = 0 := by simpa using c4
              obtain ⟨n, hn⟩ := t2 c4'
              refine ⟨n, 0, hn, ?_⟩
              unfold andI at c4'
              rw [e4] at c4'
              subst c4'
              rfl
          obtain ⟨h4a, h4b⟩ := h4
          rw [h4a] at hM2
          obtain ⟨v8, ev8, h8, h80⟩ : ∃ v8 : Int, (if andI nb 8 ≠ 0 then (-30 : Int) else 0) = v8 ∧ ((v8 == -30) = (a8 != 0)) ∧ ((v8 == 0) = (a8 == 0)) := by
            refine ⟨_, rfl, ?_, ?_⟩
            · unfold andI
              rw [e8]
              by_cases c8 : a8 = 0
              · subst c8
                rfl
              · have : (a8 != 0) = true := by simpa using c8
                rw [this, if_pos c8]
                rfl
            · unfold andI
              rw [e8]
              by_cases c8 : a8 = 0
              · subst c8
                rfl
              · have : (a8 == 0) = false := by simpa using c8
                rw [this, if_pos c8]
                rfl
          rw [ev8] at hM3
          have HM2 := Lib.hid hM2
          have HM3 := Lib.hid hM3
          generalize (critC (makeC s2 3 ((d : Int) + 3)).2 ((d : Int) + 3) 1).2 = s4 at *
          generalize (makeC s2 3 ((d : Int) + 3)).2 = s3 at *
          clear hM hM2 hM3 pa1 pa2 c1 q1 q2 t1 t2 t3 t4 t5 t6 t7 t8 hC h4a ev8 HI hdn
          cases hb4 : (a4 != 0) <;> cases hb8 : (a8 == 0)
          all_goals
            rw [hb4] at h4b
            have hb8' : (a8 != 0) = !(a8 == 0) := rfl
            rw [hb8'] at h8
            rw [hb8] at h8 h80 hb8'
            simp only [Bool.not_true, Bool.not_false] at h8 hb8'
            go_wp2_with (first
              | (go_at_call 11; (with_reducible refine (HM.out _ HSQ.out).mono ?_); rintro e w4 ⟨rfl, hs4⟩; have HS4 := Lib.hid hs4; clear hs4)
              | (go_at_call 11; (with_reducible refine (HM2.out _ HS4.out).mono ?_); rintro e w5 ⟨rfl, hs5⟩; have HS5 := Lib.hid hs5; clear hs5)
              | (go_at_call 15; (with_reducible refine (HM3.out _ HS5.out).mono ?_); rintro e w6 ⟨rfl, hs6⟩; have HS6 := Lib.hid hs6; clear hs6)
              | (go_at_call 10; (with_reducible refine (HA.out _).mono ?_); rintro e w9 ⟨rfl, hb9⟩))
            go_ret
            exact ⟨rfl, HS6.out.below.trans (hb9.mono HS6.out.hb)⟩
  · have c2' : andI nb 2 = 0 := by simpa using c2
    have C2 := Lib.hid c2'
    unfold andI at c2'
    rw [e2] at c2'
    subst c2'
    clear c2
    go_loopg [6, 56] dp (fun g s6 s56 wr => ∃ (d : Nat) (s : Tr), d + g = dp ∧ s6 = .int .i64 ((d : Int) + 2) ∧ s56 = .int .i64 d ∧ Hid (PoI nb d s) ∧ Hid (Star w wr [TT bt s]))
    case atStart => exact ⟨0, s0, by omega, rfl, rfl, HI0, HS3⟩
    case round =>
      clear HS3 HI0
      obtain ⟨d, s, hdn, rfl, rfl, HI, HS⟩ := hrel
      have hd10 : d ≤ 10 := by omega
      by_cases hlt : d < dp
      · have hlz : (d : Int) < dp := by omega
        have hdz : (d : Int) ≤ 10 := by omega
        obtain ⟨g1, g2⟩ := (po_job HI.out hd10).2 C2.out (by omega)
        have hM0 := make_st HS.out 0 rfl HI.out.wf (by have := HI.out.le; omega) 1 ((d : Int) + 2)
        rw [g1] at hM0
        simp only [List.set_cons_zero] at hM0
        have HM0 := Lib.hid hM0
        generalize (makeC s 1 ((d : Int) + 2)).2 = s2 at *
        obtain ⟨x, x0, x1, x2, x3, x4, x5⟩ := po_last g2
        have HIn := Lib.hid (fun W (h : Star w W [TT bt s2]) => info_st h 0 rfl ((d : Int) + 3))
        rw [show (d : Int) + 3 = ((d + 1 : Nat) : Int) + 2 by omega, x0] at HIn
        simp only [infoC] at HIn
        rw [x4, show ((d + 1 : Nat) : Int) + 2 = (d : Int) + 3 by omega] at HIn
        have HI2 := Lib.hid g2
        clear hM0 g1 g2 x0 x1 x2 x3 x4 x5 HI HS
        go_wp2_with (first
          | (go_at_call 11; (with_reducible refine HM0.out.mono ?_); rintro e w4 ⟨rfl, hs4⟩; have HS4 := Lib.hid hs4; clear hs4)
          | (go_at_call 19; (with_reducible refine (HIn.out _ HS4.out).mono ?_); rintro e w5 ⟨rfl, hs5⟩; have HS5 := Lib.hid hs5; clear hs5))
        go_roundg (gk - 1)
        case rel => exact ⟨d + 1, s2, by omega, by go_num, by go_num, HI2, Lib.hid (HS5.out.alloc _)⟩
        case measure => omega
      · have hlz : ¬ (d : Int) < dp := by omega
        obtain rfl : d = dp := by omega
        clear hlt
        have HSQ := HS
        clear HS
        obtain ⟨pa1, pa2⟩ := po_proc HI.out hd10
        have hM := fun W (h : Star w W [TT bt s]) => make_st h 0 rfl HI.out.wf (by have := HI.out.le; omega) 2 ((d : Int) + 2)
        have hdz : (d : Int) ≤ 10 := by omega
        obtain ⟨a1, e1⟩ : ∃ a1, bits .and .i64 (nb : Int) 1 = a1 := ⟨_, rfl⟩
        by_cases c1 : andI nb 1 ≠ 0
        · rw [pa1 c1] at hM
          simp only [List.set_cons_zero] at hM
          have HM := Lib.hid hM
          unfold andI at c1
          rw [e1] at c1
          have z1 : (a1 != 0) = true := by simpa using c1
          have z1' : (a1 == 0) = false := by simpa using c1
          clear hM pa1 pa2 c1 HI hdn
          go_wp2_with (first
            | (go_at_call 11; (with_reducible refine (HM.out _ HSQ.out).mono ?_); rintro e w4 ⟨rfl, hs4⟩; have HS4 := Lib.hid hs4; clear hs4)
            | (go_at_call 10; (with_reducible refine (HA.out _).mono ?_); rintro e w9 ⟨rfl, hb9⟩))
          go_ret
          exact ⟨rfl, HS4.out.below.trans (hb9.mono HS4.out.hb)⟩
        · have c1' : andI nb 1 = 0 := by simpa using c1
          obtain ⟨q1, q2⟩ := pa2 c1'
          rw [q1] at hM
          simp only [List.set_cons_zero] at hM
          have HM := Lib.hid hM
          generalize (makeC s 2 ((d : Int) + 2)).2 = s2 at *
          unfold andI at c1'
          rw [e1] at c1'
          subst c1'
          obtain ⟨t1, t2, t3, t4, t5, t6, t7, t8⟩ := pr_thread q2
          have hM2 := fun W (h : Star w W [TT bt s2]) => make_st h 0 rfl q2.wf (by have := q2.le; omega) 3 ((d : Int) + 3)
          have hC := pr_crit t4 t5 t6 t7 t8
          have hM3 := fun W (h : Star w W [TT bt (makeC s2 3 ((d : Int) + 3)).2]) => crit_st h 0 rfl t4 ((d : Int) + 3) 1
          rw [hC] at hM3
          simp only [List.set_cons_zero] at hM2 hM3
          obtain ⟨a4, e4⟩ : ∃ a4, bits .and .i64 (nb : Int) 4 = a4 := ⟨_, rfl⟩
          obtain ⟨a8, e8⟩ : ∃ a8, bits .and .i64 (nb : Int) 8 = a8 := ⟨_, rfl⟩
          obtain ⟨n4, v4, h4⟩ : ∃ n4 v4, (makeC s2 3 ((d : Int) + 3)).1 = (n4, v4) ∧ ((v4 == -30) = (a4 != 0)) := by
            by_cases c4 : andI nb 4 ≠ 0
            · refine ⟨0, -30, by rw [t1 c4], ?_⟩
              unfold andI at c4
              rw [e4] at c4
              have : (a4 != 0) = true := by simpa using c4
              rw [this]
              rfl
            · have c4' : andI nb 4 = 0 := by simpa using c4
              obtain ⟨n, hn⟩ := t2 c4'
              refine ⟨n, 0, hn, ?_⟩
              unfold andI at c4'
              rw [e4] at c4'
              subst c4'
              rfl
          obtain ⟨h4a, h4b⟩ := h4
          rw [h4a] at hM2
          obtain ⟨v8, ev8, h8, h80⟩ : ∃ v8 : Int, (if andI nb 8 ≠ 0 then (-30 : Int) else 0) = v8 ∧ ((v8 == -30) = (a8 != 0)) ∧ ((v8 == 0) = (a8 == 0)) := by
            refine ⟨_, rfl, ?_, ?_⟩
            · unfold andI
              rw [e8]
              by_cases c8 : a8 = 0
              · subst c8
                rfl
              · have : (a8 != 0) = true := by simpa using c8
                rw [this, if_pos c8]
                rfl
            · unfold andI
              rw [e8]
              by_cases c8 : a8 = 0
              · subst c8
                rfl
              · have : (a8 == 0) = false := by simpa using c8
                rw [this, if_pos c8]
                rfl
          rw [ev8] at hM3
          have HM2 := Lib.hid hM2
          have HM3 := Lib.hid hM3
          generalize (critC (makeC s2 3 ((d : Int) + 3)).2 ((d : Int) + 3) 1).2 = s4 at *
          generalize (makeC s2 3 ((d : Int) + 3)).2 = s3 at *
          clear hM hM2 hM3 pa1 pa2 c1 q1 q2 t1 t2 t3 t4 t5 t6 t7 t8 hC h4a ev8 HI hdn
          cases hb4 : (a4 != 0) <;> cases hb8 : (a8 == 0)
          all_goals
            rw [hb4] at h4b
            have hb8' : (a8 != 0) = !(a8 == 0) := rfl
            rw [hb8'] at h8
            rw [hb8] at h8 h80 hb8'
            simp only [Bool.not_true, Bool.not_false] at h8 hb8'
            go_wp2_with (first
              | (go_at_call 11; (with_reducible refine (HM.out _ HSQ.out).mono ?_); rintro e w4 ⟨rfl, hs4⟩; have HS4 := Lib.hid hs4; clear hs4)
              | (go_at_call 11; (with_reducible refine (HM2.out _ HS4.out).mono ?_); rintro e w5 ⟨rfl, hs5⟩; have HS5 := Lib.hid hs5; clear hs5)
              | (go_at_call 15; (with_reducible refine (HM3.out _ HS5.out).mono ?_); rintro e w6 ⟨rfl, hs6⟩; have HS6 := Lib.hid hs6; clear hs6)
              | (go_at_call 10; (with_reducible refine (HA.out _).mono ?_); rintro e w9 ⟨rfl, hb9⟩))
            go_ret
            exact ⟨rfl, HS6.out.below.trans (hb9.mono HS6.out.hb)⟩
theorem policy_row (a : Int) (ha : (Lit.int .i64 a).wf = true) (b : Int) (hb : (Lit.int .i64 b).wf = true) (w : World) :
    Calls Try.prog 6 #[.int .i64 a, .int .i64 b] w fun e w' => e = .returned (.bool true) ∧ Below w.heap.size w w' := by
  by_cases h : a < 0 ∨ 15 < a ∨ b < 0 ∨ 10 < b
  · exact pol_no a b w h
  · obtain ⟨nb, rfl⟩ : ∃ n : Nat, a = n := ⟨a.toNat, by omega⟩
    obtain ⟨dp, rfl⟩ : ∃ n : Nat, b = n := ⟨b.toNat, by omega⟩
    exact pol_yes nb dp w (by omega) (by omega)
end Go.Proofs.Ytojmhacafmpbgaa.Tk
