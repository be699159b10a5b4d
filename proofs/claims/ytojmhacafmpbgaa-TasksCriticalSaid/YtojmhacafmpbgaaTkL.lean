/- The tree of tasks: SetCritical. -/
import Derived.Test.YtojmhacafmpbgaaTkK
namespace Go.Proofs.Ytojmhacafmpbgaa.Tk
open Go Go.RowKit Go.Proofs.Ytojmhacafmpbgaa.Mem
set_option linter.unusedVariables false
set_option linter.unusedSimpArgs false
theorem bar_some {s : Tr} {job : Int} : ∀ (n : Nat) (i : Int), underF s job n i = true → ∃ r, barT s job n i = some r
  | 0, _, h => by simp [underF] at h
  | n + 1, i, h => by
    unfold underF at h
    unfold barT
    cases ht : taskAt s i with
    | none => simp [ht] at h
    | some x =>
      simp only [ht] at h ⊢
      by_cases hb : bits .and .i64 (x.po : Int) 8 ≠ 0
      · exact ⟨true, by rw [if_pos hb]⟩
      · rw [if_neg hb]
        by_cases hj : i = job
        · exact ⟨false, by rw [if_pos hj]⟩
        · rw [if_neg hj] at h ⊢
          exact bar_some n x.pa h
section
variable {w0 w : World} {S : List Asr} {b : Nat} {s : Tr} {v : Value} {ps : List (Nat × Value)}
theorem crit_none (h : Star w0 w (tr b s v ps ++ S)) (process job : Int) (hn : taskAt s process = none ∨ taskAt s job = none) : Calls Try.prog 15 #[.pointer (some ⟨b, 0, none⟩), .int .i64 process, .int .i64 job] w fun r w' => r = .returned (.int .i64 (-25)) ∧ w = w' := by
  have hf := find_any h process
  have hf2 := find_any h job
  rcases find_two h process with ⟨h1, h2⟩ | ⟨x, p, h1, -, h2, -⟩
  · rw [h2] at hf
    have HF := Lib.hid hf
    have HF2 := Lib.hid hf2
    clear h hf hf2 h1 h2 hn
    generalize findV ps job = vj at *
    go_enter Try.func15, Try.ntmps15
    go_wp2_with (first
        | (go_at_call 31; (with_reducible refine HF.out.mono ?_); rintro e w1 ⟨rfl, rfl⟩)
        | (go_at_call 31; (with_reducible refine HF2.out.mono ?_); rintro e w1 ⟨rfl, rfl⟩)
        | (go_at_call 21; (with_reducible refine HU.out.mono ?_); rintro e w1 ⟨rfl, rfl⟩))
    go_ret
    exact ⟨rfl, rfl⟩
  · rcases find_two h job with ⟨h3, h4⟩ | ⟨y, q, h3, -⟩
    · rw [h2] at hf
      rw [h4] at hf2
      have HF := Lib.hid hf
      have HF2 := Lib.hid hf2
      clear h hf hf2 h1 h2 h3 h4 hn
      go_enter Try.func15, Try.ntmps15
      go_wp2_with (first
        | (go_at_call 31; (with_reducible refine HF.out.mono ?_); rintro e w1 ⟨rfl, rfl⟩)
        | (go_at_call 31; (with_reducible refine HF2.out.mono ?_); rintro e w1 ⟨rfl, rfl⟩)
        | (go_at_call 21; (with_reducible refine HU.out.mono ?_); rintro e w1 ⟨rfl, rfl⟩))
      go_ret
      exact ⟨rfl, rfl⟩
    · rw [h1, h3] at hn
      rcases hn with hn | hn <;> cases hn
set_option maxHeartbeats 4000000 in
theorem crit_some (h : Star w0 w (tr b s v ps ++ S)) (hu : UpT s) (process job : Int) {x j : Tk} (hx : taskAt s process = some x) (hj : taskAt s job = some j) (hjn : job.toNat = job) : Calls Try.prog 15 #[.pointer (some ⟨b, 0, none⟩), .int .i64 process, .int .i64 job] w fun r w' => r = .returned (.int .i64 (critC s process job).1) ∧ Star w0 w' (tr b (critC s process job).2 v ps ++ S) := by
  have hf := find_any h process
  have hf2 := find_any h job
  have hun := under_any h hu process job
  have HS := Lib.hid h
  rcases find_two h process with ⟨h1, -⟩ | ⟨x', p, h1, hp, h2, hb⟩
  · rw [hx] at h1
    cases h1
  rw [hx] at h1
  injection h1 with h1
  subst h1
  rcases find_two h job with ⟨h3, -⟩ | ⟨y', q, h3, -, h4, hb2⟩
  · rw [hj] at h3
    cases h3
  rw [hj] at h3
  injection h3 with h3
  subst h3
  rw [h2] at hf
  rw [h4] at hf2
  have HF := Lib.hid hf
  have HF2 := Lib.hid hf2
  obtain ⟨k0, k1, k2, -, -, k5, -, -⟩ := tk_cells hb
  obtain ⟨j0, -, j2, -, -, -, -, -⟩ := tk_cells hb2
  have f5 := hb.frozen 5
  have hC : critC s process job = if critSt s x j process job = 0 then (0, { s with ts := s.ts.set (process - 1).toNat { x with cr := job.toNat } }) else (critSt s x j process job, s) := by
    unfold critC
    rw [hx, hj]
  rw [hC]
  unfold critSt
  clear hC h2 h4 hf hf2
  by_cases c1 : x.kd ≠ 2 ∨ j.kd ≠ 1
  · simp only [if_pos c1]
    rw [if_neg (show ¬ (-12 : Int) = 0 by decide)]
    have HU := Lib.hid hun
    by_cases c2 : x.kd = 2
    · have z1 : ((j.kd : Int) != 1) = true := by simp; omega
      rw [c2] at k0
      clear h hun hb hb2 c1 c2 hx hj hp
      generalize j.kd = jk at *
      go_enter Try.func15, Try.ntmps15
      go_wp2_with (first
        | (go_at_call 31; (with_reducible refine HF.out.mono ?_); rintro e w1 ⟨rfl, rfl⟩)
        | (go_at_call 31; (with_reducible refine HF2.out.mono ?_); rintro e w1 ⟨rfl, rfl⟩)
        | (go_at_call 21; (with_reducible refine HU.out.mono ?_); rintro e w1 ⟨rfl, rfl⟩))
      go_ret
      exact ⟨rfl, HS.out⟩
    · have z1 : ((x.kd : Int) != 2) = true := by simp; omega
      clear h hun hb hb2 c1 c2 hx hj hp
      generalize x.kd = xk at *
      go_enter Try.func15, Try.ntmps15
      go_wp2_with (first
        | (go_at_call 31; (with_reducible refine HF.out.mono ?_); rintro e w1 ⟨rfl, rfl⟩)
        | (go_at_call 31; (with_reducible refine HF2.out.mono ?_); rintro e w1 ⟨rfl, rfl⟩)
        | (go_at_call 21; (with_reducible refine HU.out.mono ?_); rintro e w1 ⟨rfl, rfl⟩))
      go_ret
      exact ⟨rfl, HS.out⟩
  simp only [if_neg c1]
  have c2 : x.kd = 2 := by omega
  have c3 : j.kd = 1 := by omega
  rw [c2] at k0
  rw [c3] at j0
  by_cases c4 : underT s process job = false
  · simp only [if_pos c4]
    rw [if_neg (show ¬ (-10 : Int) = 0 by decide)]
    rw [c4] at hun
    have HU := Lib.hid hun
    clear h hun hb hb2 c1 c2 c3 c4 hx hj hp
    go_enter Try.func15, Try.ntmps15
    go_wp2_with (first
        | (go_at_call 31; (with_reducible refine HF.out.mono ?_); rintro e w1 ⟨rfl, rfl⟩)
        | (go_at_call 31; (with_reducible refine HF2.out.mono ?_); rintro e w1 ⟨rfl, rfl⟩)
        | (go_at_call 21; (with_reducible refine HU.out.mono ?_); rintro e w1 ⟨rfl, rfl⟩))
    go_ret
    exact ⟨rfl, HS.out⟩
  simp only [if_neg c4]
  have c5 : underT s process job = true := by simpa using c4
  rw [c5] at hun
  have HU := Lib.hid hun
  by_cases c6 : x.st = 2 ∨ j.st = 2 ∨ x.cr ≠ 0
  · simp only [if_pos c6]
    rw [if_neg (show ¬ (-20 : Int) = 0 by decide)]
    by_cases c7 : x.st = 2
    · rw [c7] at k2
      clear h hun hb hb2 c1 c2 c3 c4 c5 c6 c7 hx hj hp
      go_enter Try.func15, Try.ntmps15
      go_wp2_with (first
        | (go_at_call 31; (with_reducible refine HF.out.mono ?_); rintro e w1 ⟨rfl, rfl⟩)
        | (go_at_call 31; (with_reducible refine HF2.out.mono ?_); rintro e w1 ⟨rfl, rfl⟩)
        | (go_at_call 21; (with_reducible refine HU.out.mono ?_); rintro e w1 ⟨rfl, rfl⟩))
      go_ret
      exact ⟨rfl, HS.out⟩
    · have z2 : ((x.st : Int) == 2) = false := by simp; omega
      by_cases c8 : j.st = 2
      · rw [c8] at j2
        clear h hun hb hb2 c1 c2 c3 c4 c5 c6 c7 c8 hx hj hp
        generalize x.st = xs at *
        go_enter Try.func15, Try.ntmps15
        go_wp2_with (first
        | (go_at_call 31; (with_reducible refine HF.out.mono ?_); rintro e w1 ⟨rfl, rfl⟩)
        | (go_at_call 31; (with_reducible refine HF2.out.mono ?_); rintro e w1 ⟨rfl, rfl⟩)
        | (go_at_call 21; (with_reducible refine HU.out.mono ?_); rintro e w1 ⟨rfl, rfl⟩))
        go_ret
        exact ⟨rfl, HS.out⟩
      · have z3 : ((j.st : Int) == 2) = false := by simp; omega
        have z4 : ((x.cr : Int) != 0) = true := by simp; omega
        clear h hun hb hb2 c1 c2 c3 c4 c5 c6 c7 c8 hx hj hp
        generalize x.st = xs at *
        generalize j.st = js at *
        generalize x.cr = xc at *
        go_enter Try.func15, Try.ntmps15
        go_wp2_with (first
        | (go_at_call 31; (with_reducible refine HF.out.mono ?_); rintro e w1 ⟨rfl, rfl⟩)
        | (go_at_call 31; (with_reducible refine HF2.out.mono ?_); rintro e w1 ⟨rfl, rfl⟩)
        | (go_at_call 21; (with_reducible refine HU.out.mono ?_); rintro e w1 ⟨rfl, rfl⟩))
        go_ret
        exact ⟨rfl, HS.out⟩
  simp only [if_neg c6]
  have z2 : ((x.st : Int) == 2) = false := by simp; omega
  have z3 : ((j.st : Int) == 2) = false := by simp; omega
  have c9 : x.cr = 0 := by omega
  rw [c9] at k5
  obtain ⟨r, hr⟩ : ∃ r, barT s job (x.pa + 1) x.pa = some r := by
    have := under_some hu (top := job) hx
    rw [c5] at this
    by_cases he : process = job
    · subst he
      rw [hx] at hj
      injection hj with hj
      subst hj
      omega
    · rw [if_neg he] at this
      have h2 : underF s job ((x.pa : Int).toNat + 1) x.pa = true := this.symm
      rw [show (x.pa : Int).toNat = x.pa by omega] at h2
      exact bar_some _ _ h2
  have HR := Lib.hid hr
  rw [hr]
  have HE := Lib.hid (tr_set h (taskAt_get hx) hp 5 (.int .i64 job) (x' := { x with cr := job.toNat }) (by rw [show tkC { x with cr := job.toNat } p.2 = #[.int .i64 x.kd, .int .i64 x.pa, .int .i64 x.st, .int .i64 x.co, .int .i64 x.po, .int .i64 (job.toNat : Nat), p.2, .int .i64 x.dp] from rfl, hjn]; rfl) rfl)
  have HFA := Lib.hid (fun i => find_any h i)
  have HT := Lib.hid (fun i => find_two h i)
  obtain ⟨F, hF⟩ : ∃ F : Int × Tr, F = if (if some r = some true then (-30 : Int) else 0) = 0 then (0, { s with ts := s.ts.set (process - 1).toNat { x with cr := job.toNat } }) else (if some r = some true then -30 else 0, s) := ⟨_, rfl⟩
  rw [← hF]
  have HFF := Lib.hid hF
  clear hF h hun hb hb2 c1 c2 c3 c4 c5 c6 c9 hx hj hp hr
  generalize x.st = xs at *
  generalize j.st = js at *
  obtain ⟨xp, hxp⟩ : ∃ xp, xp = x.pa := ⟨_, rfl⟩
  rw [← hxp] at k1 HR
  clear hxp
  go_enter Try.func15, Try.ntmps15
  go_wp2_with (first
        | (go_at_call 31; (with_reducible refine HF.out.mono ?_); rintro e w1 ⟨rfl, rfl⟩)
        | (go_at_call 31; (with_reducible refine HF2.out.mono ?_); rintro e w1 ⟨rfl, rfl⟩)
        | (go_at_call 21; (with_reducible refine HU.out.mono ?_); rintro e w1 ⟨rfl, rfl⟩))
  go_loopg [9] (xp + 1) (fun g at_ wr => ∃ i : Int, at_ = .int .i64 i ∧ wr = w ∧ Hid (barT s job g i = some r))
  case atStart => exact ⟨_, rfl, by trivial, HR⟩
  case round =>
    obtain ⟨i, rfl, rfl, HB⟩ := hrel
    have hB := HB.out
    cases gk with
    | zero => simp [barT] at hB
    | succ g =>
      unfold barT at hB
      rcases HT.out i with ⟨h1, h2⟩ | ⟨y, pq, h1, -, h2, hbq⟩
      · rw [h1] at hB
        cases hB
      rw [h1] at hB
      simp only at hB
      have hfi := HFA.out i
      rw [h2] at hfi
      have HF3 := Lib.hid hfi
      obtain ⟨-, m1, -, -, m4, -, -, -⟩ := tk_cells hbq
      obtain ⟨pv, epv⟩ : ∃ pv, bits .and .i64 (y.po : Int) 8 = pv := ⟨_, rfl⟩
      rw [epv] at hB
      by_cases hpv : pv ≠ 0
      · rw [if_pos hpv] at hB
        injection hB with hB
        subst hB
        have z7 : (pv != 0) = true := by simpa using hpv
        have hF := HFF.out
        simp at hF
        have HFX := Lib.hid hF
        clear hF hpv h1 h2 hbq hfi HB HT HFA HFF HF HF2 HU k0 k1 k2 k5 j0 j2 z2 z3 f5 HE
        generalize y.po = yp at *
        go_wp2_with (first | (go_at_call 31; (with_reducible refine HF3.out.mono ?_); rintro e w1 ⟨rfl, rfl⟩))
        go_ret
        rw [HFX.out]
        exact ⟨rfl, HS.out⟩
      · rw [if_neg hpv] at hB
        have z7 : (pv != 0) = false := by simpa using hpv
        by_cases hij : i = job
        · rw [if_pos hij] at hB
          injection hB with hB
          subst hB
          subst hij
          have hF := HFF.out
          simp only [if_neg (show ¬ (some false = some true) by decide), if_true] at hF
          have HFX := Lib.hid hF
          clear hF hpv h1 h2 hbq hfi HB HT HFA HFF HF HF2 HU k0 k1 k2 j0 j2 z2 z3
          generalize y.po = yp at *
          go_wp2_with (first | (go_at_call 31; (with_reducible refine HF3.out.mono ?_); rintro e w1 ⟨rfl, rfl⟩))
          go_ret
          rw [HFX.out]
          exact ⟨rfl, HE.out⟩
        · rw [if_neg hij] at hB
          have HB2 := Lib.hid hB
          have z8 : (i == job) = false := beq_eq_false_iff_ne.mpr hij
          clear hB hpv h1 h2 hbq hfi HB HT HFA HFF HF HF2 HU k0 k1 k2 k5 j0 j2 z2 z3 f5 HE hij
          generalize y.po = yp at *
          generalize y.pa = yq at *
          go_wp2_with (first | (go_at_call 31; (with_reducible refine HF3.out.mono ?_); rintro e w1 ⟨rfl, rfl⟩))
          go_roundg g
          case rel => exact ⟨_, rfl, by trivial, HB2⟩
          case measure => omega
end
end Go.Proofs.Ytojmhacafmpbgaa.Tk
