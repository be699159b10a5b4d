/- TasksExits: a process dies with its last thread, and with that one's code; as long as another one is alive it lives; threads that never ran count as alive. For all numbers and codes. -/
import Derived.Test.YtojmhacafmpbgaaTkExA
namespace Go.Proofs.Ytojmhacafmpbgaa.Tk
open Go Go.RowKit Go.Proofs.Ytojmhacafmpbgaa.Mem
set_option linter.unusedVariables false
set_option linter.unusedSimpArgs false
theorem reads_get {w : World} {B n : Nat} {ad : Addr} {xs : List Value} {k : Nat} {u : Value} (h : Reads w B 1 (some ad) n xs) (hk : xs[k]? = some u) : w.cell? (ad.add k) = some u := by
  have hl := (List.getElem?_eq_some_iff.1 hk).1
  have := h.1
  obtain ⟨ad', e, -, hc⟩ := h.2 (by omega)
  injection e with e
  subst e
  exact hc k u hk
set_option maxRecDepth 100000 in
theorem exits_no (a b : Int) (A : Option Addr) (n c : Nat) (w : World) (h : a < 1 ∨ 30 < a ∨ b < 0 ∨ a < b ∨ (n : Int) < a) :
    Calls Try.prog 5 #[.int .i64 a, .int .i64 b, .slice A n c] w fun e w' => e = .returned (.bool true) ∧ Below w.heap.size w w' := by
  have HA := Lib.hid awake_any
  have HN := Lib.hid (new_st (Star.nil w) 100 (by omega) (by omega))
  rw [show ((100 : Nat) : Int) = 100 from rfl] at HN
  rcases (by omega : a < 1 ∨ (¬ a < 1 ∧ 30 < a) ∨ (¬ a < 1 ∧ ¬ 30 < a ∧ b < 0) ∨ (¬ a < 1 ∧ ¬ 30 < a ∧ ¬ b < 0 ∧ a < b) ∨ (¬ a < 1 ∧ ¬ 30 < a ∧ ¬ b < 0 ∧ ¬ a < b ∧ (n : Int) < a)) with h1 | ⟨h1, h2⟩ | ⟨h1, h2, h3⟩ | ⟨h1, h2, h3, h4⟩ | ⟨h1, h2, h3, h4, h5⟩
  all_goals
    clear h
    go_enter Try.func5, Try.ntmps5
    go_wp2_with (first
      | (go_at_call 9; (with_reducible refine HN.out.mono ?_); rintro e w1 ⟨rfl, hs1⟩; have HS1 := Lib.hid hs1; clear hs1)
      | (go_at_call 10; (with_reducible refine (HA.out _).mono ?_); rintro e w9 ⟨rfl, hb9⟩))
    go_ret
    exact ⟨rfl, HS1.out.below.trans (hb9.mono HS1.out.hb)⟩
set_option maxRecDepth 100000 in
set_option maxHeartbeats 8000000 in
theorem exits_yes (th ru : Nat) (A : Option Addr) (c : Nat) (l : List Int) (w : World) (h1 : 1 ≤ th) (h2 : th ≤ 30) (h3 : ru ≤ th) (h4 : th ≤ l.length) (hr : Reads w w.heap.size 1 A l.length (l.map (Value.int .i64))) :
    Calls Try.prog 5 #[.int .i64 th, .int .i64 ru, .slice A l.length c] w fun e w' => e = .returned (.bool true) ∧ Below w.heap.size w w' := by
  have HA := Lib.hid awake_any
  have HN := Lib.hid (new_st (Star.nil w) 100 (by omega) (by omega))
  rw [show ((100 : Nat) : Int) = 100 from rfl] at HN
  obtain ⟨bt, ebt⟩ : ∃ bt, bt = w.heap.size + 1 + 1 := ⟨_, rfl⟩
  rw [← ebt] at HN
  have HM := Lib.hid (fun W (h : Star w W [TT bt (newT 100)]) => make_st h 0 rfl (wf_new 100) (by simp [newT]) 2 1)
  rw [ex_make] at HM
  have HSt := Lib.hid (fun W (h : Star w W [TT bt exS1]) => start_st h 0 rfl (by have := (wf_new 100).make 2 1; rw [ex_make] at this; exact this) 2)
  rw [ex_start] at HSt
  simp only [List.set_cons_zero] at HM HSt
  have HR := Lib.hid hr
  have z1 : ¬ (th : Int) < 1 := by omega
  have z2 : ¬ (30 : Int) < th := by omega
  have z3 : ¬ (ru : Int) < 0 := by omega
  have z4 : ¬ (th : Int) < ru := by omega
  have z5 : ¬ (l.length : Int) < th := by omega
  have z6 : (th : Int) ≤ 30 := by omega
  clear ebt hr
  go_enter Try.func5, Try.ntmps5
  go_wp2_with (first
    | (go_at_call 9; (with_reducible refine HN.out.mono ?_); rintro e w1 ⟨rfl, hs1⟩; have HS1 := Lib.hid hs1; clear hs1)
    | (go_at_call 11; (with_reducible refine (HM.out _ HS1.out).mono ?_); rintro e w2 ⟨rfl, hs2⟩; have HS2 := Lib.hid hs2; clear hs2)
    | (go_at_call 17; (with_reducible refine (HSt.out _ HS2.out).mono ?_); rintro e w3 ⟨rfl, hs3⟩; have HS3 := Lib.hid hs3; clear hs3))
  clear HN HM HSt HS1 HS2
  go_loopg [64] th (fun g s64 wr => ∃ (j : Nat) (s : Tr), j + g = th ∧ s64 = .int .i64 j ∧ Hid (ExI j 0 0 s) ∧ Hid (Star w wr [TT bt s]))
  case atStart => exact ⟨0, exS2, by omega, rfl, Lib.hid ex_zero, HS3⟩
  case round =>
    clear HS3
    obtain ⟨j, s, hj, rfl, HI, HS⟩ := hrel
    by_cases hlt : j < th
    · have hjz : (j : Int) < th := by omega
      obtain ⟨e1, e2⟩ := ex_thread HI.out (by omega)
      have hM := make_st HS.out 0 rfl HI.out.wf (by have := HI.out.le; omega) 3 2
      rw [e1] at hM
      simp only [List.set_cons_zero] at hM
      have HM := Lib.hid hM
      have HI2 := Lib.hid e2
      generalize (makeC s 3 2).2 = s2 at *
      clear hM e1 e2 HI HS
      go_wp2_with (first
        | (go_at_call 11; (with_reducible refine HM.out.mono ?_); rintro e w2 ⟨rfl, hs2⟩; have HS2 := Lib.hid hs2; clear hs2))
      go_roundg (gk - 1)
      case rel => exact ⟨j + 1, s2, by omega, by go_num, HI2, HS2⟩
      case measure => omega
    · obtain rfl : j = th := by omega
      clear hj
      go_wp2
      go_loopg [76] ru (fun g s76 wr => ∃ (r : Nat) (s : Tr), r + g = ru ∧ s76 = .int .i64 r ∧ Hid (ExI j r 0 s) ∧ Hid (Star w wr [TT bt s]))
      case atStart => exact ⟨0, s, by omega, rfl, HI, HS⟩
      case round =>
        clear HS HI
        obtain ⟨r, s, hrr, rfl, HI, HS⟩ := hrel
        by_cases hlt2 : r < ru
        · have hrz : (r : Int) < ru := by omega
          have hru : (ru : Int) ≤ 30 := by omega
          obtain ⟨e1, e2⟩ := ex_run HI.out (by omega)
          have hM := start_st HS.out 0 rfl HI.out.wf ((r : Int) + 3)
          rw [e1] at hM
          simp only [List.set_cons_zero] at hM
          have HI2 := Lib.hid e2
          generalize (startC s ((r : Int) + 3)).2 = s2 at *
          rw [show (r : Int) + 3 = 3 + r by omega] at hM
          have HM := Lib.hid hM
          clear hM e1 e2 HI HS
          go_wp2_with (first
            | (go_at_call 17; (with_reducible refine HM.out.mono ?_); rintro e w2 ⟨rfl, hs2⟩; have HS2 := Lib.hid hs2; clear hs2))
          go_roundg (gk - 1)
          case rel => exact ⟨r + 1, s2, by omega, by go_num, HI2, HS2⟩
          case measure => omega
        · obtain rfl : r = ru := by omega
          clear hrr
          go_wp2
          go_loopg [88] j (fun g s88 wr => ∃ (q : Nat) (s : Tr), q + g = j ∧ s88 = .int .i64 q ∧ Hid ((q < j ∧ ExI j r q s) ∨ (q = j ∧ s.live = 1)) ∧ Hid (Star w wr [TT bt s]))
          case atStart => exact ⟨0, s, by omega, rfl, Lib.hid (.inl ⟨by omega, HI.out⟩), HS⟩
          case round =>
            clear HS HI
            obtain ⟨q, s, hqq, rfl, HI, HS⟩ := hrel
            by_cases hlt3 : q < j
            · have hI : ExI j r q s := by
                rcases HI.out with h | h
                · exact h.2
                · omega
              have hqz : (q : Int) < j := by omega
              have hlen : s.ts.length ≤ 1000 := by have := hI.le; omega
              have hql : q < l.length := by omega
              obtain ⟨ad, u, rfl, had, hxq, hcl⟩ := (HR.out.below HS.out.below).at_ hql
              obtain ⟨cd, hcd⟩ : ∃ cd, l[q]? = some cd := ⟨_, List.getElem?_eq_getElem hql⟩
              obtain rfl : u = .int .i64 cd := by
                rw [List.getElem?_map, hcd, Option.map_some] at hxq
                injection hxq with hxq
                exact hxq.symm
              have hqlz : (q : Int) < l.length := by omega
              obtain ⟨R, hR⟩ := exit_runs hI.wf hlen ((q : Int) + 3) cd
              have hE := exit_st HS.out 0 rfl hI.wf hlen ((q : Int) + 3) cd R hR
              rw [ex_st hI hlt3] at hE
              simp only [List.set_cons_zero] at hE
              by_cases hqr : q < r
              · rw [if_pos hqr] at hE
                have hqrz : (q : Int) < r := by omega
                have hwR := hR.wf hI.wf
                rcases ex_exit hI hqr (by omega) h2 hR with ⟨hlast, e2, hI2⟩ | ⟨hlast, e2, e3, e4, x, e5, e6⟩
                · rw [e2, show (q : Int) + 3 = 3 + q by omega] at hE
                  obtain ⟨R1, R2⟩ := R
                  simp only at e2 hI2 hE hwR
                  obtain ⟨x, x1, x2⟩ := hI2.pr
                  have ht : taskAt R1 2 = some x := by rw [show (2 : Int) = ((2 : Nat) : Int) from rfl, taskAt_nat (by omega)]; exact x1
                  have HE := Lib.hid hE
                  have HAl := Lib.hid (fun W (B : Asr) (h : Star w W [B, TT bt R1]) => alive_st h 1 rfl 2)
                  rw [ex_alive hI2] at HAl
                  have HIn := Lib.hid (fun W (B : Asr) (h : Star w W [B, TT bt R1]) => info_st h 1 rfl 2)
                  rw [ht] at HIn
                  simp only [infoC] at HIn
                  have HI2 := Lib.hid hI2
                  have HR2 : Hid (nV [q + 3] = [.int .i64 (3 + (q : Int))]) := Lib.hid (by simp [nV]; omega)
                  have hlf : ((q : Int) == (j : Int) - 1) = false := by simp; omega
                  have HLT := Lib.hid hlast
                  clear hE hI hI2 hR hwR ht x1 x2 e2 HI HS hcd hxq hlast
                  go_wp2_with (first
                    | (go_at_call 18; (with_reducible refine HE.out.mono ?_); rintro e w4 ⟨v4, rfl, hs4⟩
                       rw [HR2.out] at hs4
                       obtain ⟨g4, o4, c4, rfl, -, -, -⟩ := (hs4.rowO 0 rfl).form (by simp)
                       have d0 : w4.cell? ⟨g4, o4 + 0, none⟩ = some (.int .i64 (3 + (q : Int))) := (hs4.rowO 0 rfl).cellAt 0 (by simp)
                       rw [Nat.add_zero] at d0
                       have HS4 := Lib.hid hs4
                       clear hs4)
                    | (go_at_call 16; (with_reducible refine (HAl.out _ _ HS4.out).mono ?_); rintro e w5 ⟨rfl, hs5⟩; have HS5 := Lib.hid hs5; clear hs5)
                    | (go_at_call 19; (with_reducible refine (HIn.out _ _ HS5.out).mono ?_); rintro e w6 ⟨rfl, hs6⟩; have HS6 := Lib.hid hs6; clear hs6))
                  go_quiet (fail)
                  go_wp2
                  go_roundg (gk - 1)
                  case rel => exact ⟨q + 1, R1, by omega, by go_num, Lib.hid (.inl ⟨HLT.out, HI2.out⟩), Lib.hid ((HS6.out.alloc _).drewN _).tail⟩
                  case measure => omega
                · rw [e2, show (q : Int) + 3 = 3 + q by omega] at hE
                  obtain ⟨R1, R2⟩ := R
                  simp only at e2 e3 e4 e5 hE hwR
                  have HE := Lib.hid hE
                  have HAl := Lib.hid (fun W (B : Asr) (h : Star w W [B, TT bt R1]) => alive_st h 1 rfl 2)
                  rw [e3] at HAl
                  have HIn := Lib.hid (fun W (B : Asr) (h : Star w W [B, TT bt R1]) => info_st h 1 rfl 2)
                  rw [e5] at HIn
                  simp only [infoC] at HIn
                  rw [e6] at HIn
                  have HLV := Lib.hid e4
                  have HR2 : Hid (nV [q + 3, 2] = [.int .i64 (3 + (q : Int)), .int .i64 2]) := Lib.hid (by simp [nV]; omega)
                  have hlf : ((q : Int) == (j : Int) - 1) = true := by simp; omega
                  have HLT := Lib.hid hlast
                  have HXQ := Lib.hid hxq
                  clear hE hI hR hwR e2 e3 e4 e5 e6 HI HS hcd hxq hlast
                  go_wp2_with (first
                    | (go_at_call 18; (with_reducible refine HE.out.mono ?_); rintro e w4 ⟨v4, rfl, hs4⟩
                       rw [HR2.out] at hs4
                       obtain ⟨g4, o4, c4, rfl, -, -, -⟩ := (hs4.rowO 0 rfl).form (by simp)
                       have d0 : w4.cell? ⟨g4, o4 + 0, none⟩ = some (.int .i64 (3 + (q : Int))) := (hs4.rowO 0 rfl).cellAt 0 (by simp)
                       rw [Nat.add_zero] at d0
                       have HS4 := Lib.hid hs4
                       clear hs4)
                    | (go_at_call 16; (with_reducible refine (HAl.out _ _ HS4.out).mono ?_); rintro e w5 ⟨rfl, hs5⟩; have HS5 := Lib.hid hs5; clear hs5)
                    | (go_at_call 19; (with_reducible refine (HIn.out _ _ HS5.out).mono ?_); rintro e w6 ⟨rfl, hs6⟩
                       have hc6 : ∀ cs, (w6.alloc (.cells cs 40)).cell? (ad.add q) = some (.int .i64 cd) := fun cs => reads_get (HR.out.below (hs6.alloc (.cells cs 40)).below) HXQ.out
                       have HS6 := Lib.hid hs6
                       clear hs6))
                  go_quiet (fail)
                  go_wp2
                  go_roundg (gk - 1)
                  case rel => exact ⟨q + 1, R1, by omega, by go_num, Lib.hid (.inr ⟨HLT.out, HLV.out⟩), Lib.hid ((HS6.out.alloc _).drewN _).tail⟩
                  case measure => omega
              · rw [if_neg hqr, show (q : Int) + 3 = 3 + q by omega] at hE
                have e0 : R = (s, []) := by
                  unfold ExitR at hR
                  rw [if_neg (by rw [ex_st hI hlt3, if_neg hqr]; decide)] at hR
                  exact hR
                subst e0
                have hqrz : (r : Int) ≤ q := by omega
                have HE := Lib.hid hE
                have HAl := Lib.hid (fun W (B : Asr) (h : Star w W [B, TT bt s]) => alive_st h 1 rfl 2)
                rw [ex_alive hI] at HAl
                clear hE hI hR HI HS hcd hxq hqr
                go_wp2_with (first
                  | (go_at_call 18; (with_reducible refine HE.out.mono ?_); rintro e w4 ⟨v4, rfl, hs4⟩
                     obtain ⟨A4, c4, rfl⟩ := (hs4.rowO 0 rfl).len
                     have HS4 := Lib.hid hs4
                     clear hs4)
                  | (go_at_call 16; (with_reducible refine (HAl.out _ _ HS4.out).mono ?_); rintro e w5 ⟨rfl, hs5⟩; have HS5 := Lib.hid hs5; clear hs5)
                  | (go_at_call 10; (with_reducible refine (HA.out _).mono ?_); rintro e w9 ⟨rfl, hb9⟩))
                go_ret
                exact ⟨rfl, HS5.out.below.trans (hb9.mono HS5.out.hb)⟩
            · have hlv : s.live = 1 := by
                rcases HI.out with h | h
                · omega
                · exact h.2
              have HL := Lib.hid (live_st HS.out 0 rfl)
              rw [hlv] at HL
              obtain rfl : q = j := by omega
              clear hqq hlv
              go_wp2_with (first
                | (go_at_call 13; (with_reducible refine HL.out.mono ?_); rintro e w4 ⟨rfl, hs4⟩; have HS4 := Lib.hid hs4; clear hs4)
                | (go_at_call 10; (with_reducible refine (HA.out _).mono ?_); rintro e w9 ⟨rfl, hb9⟩))
              go_ret
              exact ⟨rfl, HS4.out.below.trans (hb9.mono HS4.out.hb)⟩
theorem exits_row (a : Int) (ha : (Lit.int .i64 a).wf = true) (b : Int) (hb : (Lit.int .i64 b).wf = true) (A : Option Addr) (c : Nat) (l : List Int) (w : World) (hr : Reads w w.heap.size 1 A l.length (l.map (Value.int .i64))) (hm : l.length ≤ maxLen) (hl : ∀ x ∈ l, (Lit.int .i64 x).wf = true) :
    Calls Try.prog 5 #[.int .i64 a, .int .i64 b, .slice A l.length c] w fun e w' => e = .returned (.bool true) ∧ Below w.heap.size w w' := by
  by_cases h : a < 1 ∨ 30 < a ∨ b < 0 ∨ a < b ∨ (l.length : Int) < a
  · exact exits_no a b A l.length c w h
  · obtain ⟨th, rfl⟩ : ∃ n : Nat, a = n := ⟨a.toNat, by omega⟩
    obtain ⟨ru, rfl⟩ : ∃ n : Nat, b = n := ⟨b.toNat, by omega⟩
    exact exits_yes th ru A c l w (by omega) (by omega) (by omega) (by omega) hr
end Go.Proofs.Ytojmhacafmpbgaa.Tk
