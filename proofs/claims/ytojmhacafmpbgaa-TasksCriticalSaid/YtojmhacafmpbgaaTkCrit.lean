/- TasksCritical: a job dies with a process that is critical to it, with all that is below it; with other processes it does not. For every such struct. (Printed by tkcrit.py.) -/
import Derived.Test.YtojmhacafmpbgaaTkCrA
namespace Go.Proofs.Ytojmhacafmpbgaa.Tk
open Go Go.RowKit Go.Proofs.Ytojmhacafmpbgaa.Mem
set_option linter.unusedVariables false
set_option linter.unusedSimpArgs false
theorem alive_q {w0 w : World} {L : List Asr} {b : Nat} {s : Tr} (h : Star w0 w L) (i : Nat) (hi : L[i]? = some (TT b s)) (id : Int) : Calls Try.prog 16 #[.pointer (some ⟨b, 0, none⟩), .int .i64 id] w fun r w' => r = .returned (.bool (aliveT s id)) ∧ w = w' := by
  obtain ⟨t, hs⟩ := Star.ttOpen (h.front i hi)
  exact alive_any hs id
theorem alive_dq {w0 w : World} {L : List Asr} {b : Nat} {s : Tr} (h : Star w0 w L) (i : Nat) (hi : L[i]? = some (TT b s)) (id : Int) (n : Nat) : Calls Try.prog 16 #[.pointer (some ⟨b, 0, none⟩), .int .i64 id] (w.drewN n) fun r w' => r = .returned (.bool (aliveT s id)) ∧ ∃ m, w' = w.drewN m :=
  (alive_q (h.drewN n) i hi id).mono fun e w' ⟨he, hw⟩ => ⟨he, n, hw.symm⟩
theorem _root_.Go.Proofs.Ytojmhacafmpbgaa.Mem.Star.blk_lt {w0 w : World} {L : List Asr} {g : Nat} {t : TypeId} {cs : Array Value} (h : Star w0 w L) (i : Nat) (hi : L[i]? = some (BlkA g t cs)) : g < w.heap.size := (h.blk i hi).lt
theorem crit_len (s : Tr) (p j : Int) : (critC s p j).2.ts.length = s.ts.length := by
  unfold critC
  cases taskAt s p with
  | none => rfl
  | some x =>
    cases taskAt s j with
    | none => rfl
    | some y =>
      simp only
      split
      · exact List.length_set
      · rfl
/-- The jobs' numbers. -/
def jl (d : Nat) : List Nat := (List.range (d + 1)).map (· + 1)
theorem jl_len (d : Nat) : (jl d).length = d + 1 := by simp [jl]
theorem jl_succ (d : Nat) : nV (jl (d + 1)) = nV (jl d) ++ [.int .i64 ((d : Int) + 2)] := by
  simp [jl, nV, List.range_succ]
  omega
theorem jl_get {d j : Nat} (h : j ≤ d) : (nV (jl d))[j]? = some (.int .i64 ((j : Int) + 1)) := by
  unfold jl nV
  rw [List.getElem?_map, List.getElem?_map, List.getElem?_range (by omega)]
  simp
theorem wrap_small (n : Nat) (h : (n : Int) ≤ 10) : wrap64 (n : Int) = (n : Int) := by
  unfold wrap64
  omega
set_option maxRecDepth 100000 in
set_option maxHeartbeats 2000000 in
theorem crit_no (d a cd : Int) (kill : Bool) (w : World) (h : d < 0 ∨ 10 < d ∨ a < 0 ∨ d < a) :
    Calls Try.prog 4 #[.agg #[.int .i64 d, .int .i64 a, .int .i64 cd, .bool kill]] w fun e w' => e = .returned (.bool true) ∧ Below w.heap.size w w' := by
  have HA := Lib.hid awake_any
  have HN := Lib.hid (new_st ((Star.nil w).newBlk 34 #[.int .i64 d, .int .i64 a, .int .i64 cd, .bool kill]) 100 (by omega) (by omega))
  rw [show ((100 : Nat) : Int) = 100 from rfl] at HN
  rcases (by omega : d < 0 ∨ (¬ d < 0 ∧ 10 < d) ∨ (¬ d < 0 ∧ ¬ 10 < d ∧ a < 0) ∨ (¬ d < 0 ∧ ¬ 10 < d ∧ ¬ a < 0 ∧ d < a)) with h1 | ⟨h1, h2⟩ | ⟨h1, h2, h3⟩ | ⟨h1, h2, h3, h4⟩
  all_goals
    clear h
    go_enter Try.func4, Try.ntmps4
    go_wp2_with (first
      | (go_at_call 9; (with_reducible refine HN.out.mono ?_); rintro e w1 ⟨rfl, hs1⟩
         have f0 : w1.cell? ⟨w.heap.size, 0, none⟩ = some (.int .i64 d) := (hs1.blk 1 rfl).cellv (i := 0) rfl
         have f1 : w1.cell? ⟨w.heap.size, 1, none⟩ = some (.int .i64 a) := (hs1.blk 1 rfl).cellv (i := 1) rfl
         have HS1 := Lib.hid hs1
         clear hs1)
      | (go_at_call 10; (with_reducible refine (HA.out _).mono ?_); rintro e w9 ⟨rfl, hb9⟩))
    go_ret
    exact ⟨rfl, HS1.out.below.trans (hb9.mono HS1.out.hb)⟩
set_option maxRecDepth 100000 in
set_option maxHeartbeats 8000000 in
theorem crit_yes (d a : Nat) (cd : Int) (kill : Bool) (w : World) (h1 : d ≤ 10) (h2 : a ≤ d) :
    Calls Try.prog 4 #[.agg #[.int .i64 d, .int .i64 a, .int .i64 cd, .bool kill]] w fun e w' => e = .returned (.bool true) ∧ Below w.heap.size w w' := by
  have HA := Lib.hid awake_any
  have HN := Lib.hid (new_st ((Star.nil w).newBlk 34 #[.int .i64 d, .int .i64 a, .int .i64 cd, .bool kill]) 100 (by omega) (by omega))
  rw [show ((100 : Nat) : Int) = 100 from rfl] at HN
  rw [World.size_alloc] at HN
  obtain ⟨bt, ebt⟩ : ∃ bt, bt = w.heap.size + 1 + 1 + 1 := ⟨_, rfl⟩
  rw [← ebt] at HN
  obtain ⟨i1, hi1, hy0, hy1, hy2⟩ := info_parts int_info
  have z1 : ¬ (d : Int) < 0 := by omega
  have z2 : ¬ (10 : Int) < d := by omega
  have z3 : ¬ (a : Int) < 0 := by omega
  have z4 : ¬ (d : Int) < a := by omega
  have z5 : decide (d < a) = false := by simp; omega
  clear ebt
  go_enter Try.func4, Try.ntmps4
  go_wp2_with (first
    | (go_at_call 9; (with_reducible refine HN.out.mono ?_); rintro e w1 ⟨rfl, hs1⟩
       have f0 : w1.cell? ⟨w.heap.size, 0, none⟩ = some (.int .i64 d) := (hs1.blk 1 rfl).cellv (i := 0) rfl
       have f1 : w1.cell? ⟨w.heap.size, 1, none⟩ = some (.int .i64 a) := (hs1.blk 1 rfl).cellv (i := 1) rfl
       have f0' : (w1.alloc (.cells #[.int .i64 1] 3)).cell? ⟨w.heap.size, 0, none⟩ = some (.int .i64 d) := ((hs1.alloc _).blk 1 rfl).cellv (i := 0) rfl
       have HS1 := Lib.hid ((hs1.litRow 3 1 #[.int .i64 1] 1 (by simp [maxLen]) rfl).toO 0 rfl)
       clear hs1))
  clear HN
  go_loopg [4, 48] d (fun g s4 s48 wr => ∃ (j : Nat) (s : Tr), j + g = d ∧ s48 = .int .i64 j ∧ Hid (CrI j s) ∧ Hid (Star w wr [RowO 3 1 s4 (j + 1) (nV (jl j)), TT bt s, BlkA w.heap.size 34 #[.int .i64 d, .int .i64 a, .int .i64 cd, .bool kill]]))
  case atStart => exact ⟨0, newT 100, by omega, rfl, Lib.hid cr_new, HS1⟩
  case round =>
    clear HS1
    obtain ⟨j, s, hj, rfl, HI, HS⟩ := hrel
    obtain ⟨g4, o4, c4, rfl, -, -, hc4⟩ := (HS.out.rowO 0 rfl).form (by omega)
    have d0 : wr.cell? ⟨g4, o4 + j, none⟩ = some (.int .i64 ((j : Int) + 1)) := by
      rw [(HS.out.rowO 0 rfl).cellAt j (by omega)]
      exact jl_get (Nat.le_refl _)
    have hjz : (j : Int) ≤ 10 := by omega
    have HW64 := Lib.hid (wrap_small j hjz)
    by_cases hlt : j < d
    · have hlz : (j : Int) < d := by omega
      obtain ⟨e1, e2⟩ := cr_job HI.out (by omega)
      have hM := make_st HS.out 1 rfl HI.out.wf (by have := HI.out.le; omega) 1 ((j : Int) + 1)
      rw [e1] at hM
      simp only [List.set_cons_zero, List.set_cons_succ] at hM
      have HM := Lib.hid hM
      have HI2 := Lib.hid e2
      generalize (makeC s 1 ((j : Int) + 1)).2 = s2 at *
      have hm3 : j + 1 + 1 ≤ maxLen := by simp only [maxLen]; omega
      clear hM e1 e2 HI
      have hb8 : (j + 1 + 1) * 8 ≤ 140737488355328 := by omega
      have hw64 := HW64.out
      go_wp2_with (first
        | (go_at_call 11; (with_reducible refine HM.out.mono ?_); rintro e w4 ⟨rfl, hs4⟩; have HS4 := Lib.hid hs4; clear hs4)
        | (at_builtin; refine wpList_append_so rfl (.tmp 63) (.tmp 65) 28 rfl (HS4.out.alloc _) 0 rfl i1 _ 8 Try.underlying28 hi1 hy0 hy1 hy2 rfl (by omega) rfl _ (some ⟨w4.heap.size, 0, none⟩) 1 1 [.int .i64 ((j : Int) + 2)] rfl (reads_fresh_at _ 3 [.int .i64 ((j : Int) + 2)] 1 1 w4.heap.size rfl rfl) (by intro x hx; cases hx with | head => rfl | tail _ h => cases h) hm3 hb8 ?_
           intro v5 w5 hs5
           simp only [List.set_cons_zero] at hs5
           rw [← jl_succ] at hs5
           have HS5 := Lib.hid hs5
           clear hs5))
      clear hw64
      go_roundg (gk - 1)
      case rel => exact ⟨j + 1, s2, by omega, by go_num, HI2, HS5⟩
      case measure => omega
    · have hlz : ¬ (j : Int) < d := by omega
      have hjd : d = j := by omega
      subst hjd
      clear hj hlt
      have HW64A := Lib.hid (wrap_small a (by omega))
      obtain ⟨p1, p2⟩ := cr_proc (l := []) HI.out.crp (Nat.le_refl d) h1 (by simp)
      obtain ⟨p3, p4⟩ := cr_proc (a := a) p2 h2 h1 (by simp)
      cases kill with
      | true =>
        obtain ⟨s1, hs1⟩ : ∃ s1, s1 = (critC (makeC (makeC s 2 ((d : Int) + 1)).2 2 ((a : Int) + 1)).2 ((d : Int) + 2) ((a : Int) + 1)).2 := ⟨_, rfl⟩
        obtain ⟨R, hR⟩ := kill_runs (s := s1) (by rw [hs1]; exact p4.wf.crit _ _) (by rw [hs1, crit_len]; have := p4.le; simp at this; omega) ((d : Int) + 2) cd
        replace p1 : (makeC s 2 ((d : Int) + 1)).1 = ((d : Int) + 2, 0) := by rw [p1]; simp
        replace p3 : (makeC (makeC s 2 ((d : Int) + 1)).2 2 ((a : Int) + 1)).1 = ((d : Int) + 3, 0) := by rw [p3]; simp; omega
        obtain ⟨k1, ⟨ol, k2⟩, k3, k4⟩ := cr_kill p4 (by omega) (by omega) true (hs1.trans (by rw [if_pos rfl])) hR
        obtain ⟨xc, -, -, -, -, -, -, -, hcr⟩ := cr_set p4 (show a ≤ d by omega)
        have hC := fun W (h : Star w W [RowO 3 1 (.slice (some ⟨g4, o4, none⟩) (d + 1) c4) (d + 1) (nV (jl d)), TT bt (makeC (makeC s 2 ((d : Int) + 1)).2 2 ((a : Int) + 1)).2, BlkA w.heap.size 34 #[.int .i64 d, .int .i64 a, .int .i64 cd, .bool true]]) => crit_st h 1 rfl p4.wf ((d : Int) + 2) ((a : Int) + 1)
        rw [← hs1] at hC
        rw [show (critC (makeC (makeC s 2 ((d : Int) + 1)).2 2 ((a : Int) + 1)).2 ((d : Int) + 2) ((a : Int) + 1)).1 = 0 by rw [hcr]] at hC
        simp only [List.set_cons_zero, List.set_cons_succ] at hC
        have HC := Lib.hid hC
        have hM1 := fun W (h : Star w W [RowO 3 1 (.slice (some ⟨g4, o4, none⟩) (d + 1) c4) (d + 1) (nV (jl d)), TT bt s, BlkA w.heap.size 34 #[.int .i64 d, .int .i64 a, .int .i64 cd, .bool true]]) => make_st h 1 rfl HI.out.wf (by have := HI.out.le; omega) 2 ((d : Int) + 1)
        have hM2 := fun W (h : Star w W [RowO 3 1 (.slice (some ⟨g4, o4, none⟩) (d + 1) c4) (d + 1) (nV (jl d)), TT bt (makeC s 2 ((d : Int) + 1)).2, BlkA w.heap.size 34 #[.int .i64 d, .int .i64 a, .int .i64 cd, .bool true]]) => make_st h 1 rfl p2.wf (by have := p2.le; simp at this; omega) 2 ((a : Int) + 1)
        have hK := fun W (h : Star w W [RowO 3 1 (.slice (some ⟨g4, o4, none⟩) (d + 1) c4) (d + 1) (nV (jl d)), TT bt s1, BlkA w.heap.size 34 #[.int .i64 d, .int .i64 a, .int .i64 cd, .bool true]]) => kill_st h 1 rfl ((d : Int) + 2) cd R hR.mem
        rw [p1] at hM1
        rw [p3] at hM2
        rw [k1] at hK
        simp only [List.set_cons_zero, List.set_cons_succ] at hM1 hM2 hK
        have HM1 := Lib.hid hM1
        have HM2 := Lib.hid hM2
        have HK := Lib.hid hK
        have hnR : nV R.2 = .int .i64 ((d : Int) + 2) :: nV ol := by rw [k2]; simp [nV]
        have hlR : R.2.length = ol.length + 1 := by rw [k2]; rfl
        rw [hnR, hlR] at HK
        have HAl := Lib.hid k3
        have HAq := Lib.hid k4
        generalize (makeC (makeC s 2 ((d : Int) + 1)).2 2 ((a : Int) + 1)).2 = s3 at *
        generalize (makeC s 2 ((d : Int) + 1)).2 = s2 at *
        obtain ⟨RT, R2⟩ := R
        simp only at HK HAl HAq
        generalize ol.length = nl at *
        have hnl : ¬ ((nl : Int) + 1 < 1) := by omega
        have C4 : Hid (∀ W, Star w W [RowO 3 1 (.slice (some ⟨g4, o4, none⟩) (d + 1) c4) (d + 1) (nV (jl d)), TT bt s2, BlkA w.heap.size 34 #[.int .i64 d, .int .i64 a, .int .i64 cd, .bool true]] → W.cell? ⟨g4, o4 + a, none⟩ = some (.int .i64 ((a : Int) + 1)) ∧ W.cell? ⟨w.heap.size, 1, none⟩ = some (.int .i64 a)) := Lib.hid (fun W h => ⟨by
          rw [(h.rowO 0 rfl).cellAt a (by omega)]
          exact jl_get (by omega), (h.blk 2 rfl).cellv (i := 1) rfl⟩)
        have C5 : Hid (∀ W (T : Asr), Star w W [RowO 3 1 (.slice (some ⟨g4, o4, none⟩) (d + 1) c4) (d + 1) (nV (jl d)), T, BlkA w.heap.size 34 #[.int .i64 d, .int .i64 a, .int .i64 cd, .bool true]] → W.cell? ⟨g4, o4 + a, none⟩ = some (.int .i64 ((a : Int) + 1)) ∧ W.cell? ⟨w.heap.size, 1, none⟩ = some (.int .i64 a) ∧ W.cell? ⟨w.heap.size, 2, none⟩ = some (.int .i64 cd) ∧ W.cell? ⟨w.heap.size, 3, none⟩ = some (.bool true)) := Lib.hid (fun W T h => ⟨by
          rw [(h.rowO 0 rfl).cellAt a (by omega)]
          exact jl_get (by omega), (h.blk 2 rfl).cellv (i := 1) rfl, (h.blk 2 rfl).cellv (i := 2) rfl, (h.blk 2 rfl).cellv (i := 3) rfl⟩)
        have C6 : Hid (∀ W (u : Value) (n : Nat) (xs : List Value), Star w W [RowO 3 1 u n xs, RowO 3 1 (.slice (some ⟨g4, o4, none⟩) (d + 1) c4) (d + 1) (nV (jl d)), TT bt RT, BlkA w.heap.size 34 #[.int .i64 d, .int .i64 a, .int .i64 cd, .bool true]] → W.cell? ⟨w.heap.size, 1, none⟩ = some (.int .i64 a) ∧ W.cell? ⟨w.heap.size, 3, none⟩ = some (.bool true) ∧ (∀ j, j ≤ d → W.cell? ⟨g4, o4 + j, none⟩ = some (.int .i64 ((j : Int) + 1))) ∧ (∀ id, Calls Try.prog 16 #[.pointer (some ⟨bt, 0, none⟩), .int .i64 id] W fun r w' => r = .returned (.bool (aliveT RT id)) ∧ W = w')) := Lib.hid (fun W u n xs h => ⟨(h.blk 3 rfl).cellv (i := 1) rfl, (h.blk 3 rfl).cellv (i := 3) rfl, fun j hj => by
          rw [(h.rowO 1 rfl).cellAt j (by omega)]
          exact jl_get hj, fun id => alive_q h 2 rfl id⟩)
        have hdz : (d : Int) ≤ 10 := by omega
        have hda : (a : Int) ≤ d := by omega
        clear hM1 hM2 hK p1 p2 p3 p4 k1 k2 k3 k4 hnR hlR hR
        clear hC hcr hs1
        have hw64 : wrap64 (d : Int) = (d : Int) := HW64.out
        have hw64a : wrap64 (a : Int) = (a : Int) := HW64A.out
        go_wp2_with (first
          | (go_at_call 11; (with_reducible refine (HM1.out _ HS.out).mono ?_); rintro e w4 ⟨rfl, hs4⟩
             obtain ⟨d1, d2⟩ := C4.out _ hs4
             have HS4 := Lib.hid hs4
             clear hs4)
          | (go_at_call 11; (with_reducible refine (HM2.out _ HS4.out).mono ?_); rintro e w5 ⟨rfl, hs5⟩
             obtain ⟨d3, d4, d5, d6⟩ := C5.out _ _ hs5
             have HS5 := Lib.hid hs5
             clear hs5)
          | (go_at_call 15; (with_reducible refine (HC.out _ HS5.out).mono ?_); rintro e w6 ⟨rfl, hs6⟩
             obtain ⟨d7, d8, d9, d10⟩ := C5.out _ _ hs6
             have HS6 := Lib.hid hs6
             clear hs6)
          | (go_at_call 12; (with_reducible refine (HK.out _ HS6.out).mono ?_); rintro e w7 ⟨u7, rfl, hs7⟩
             obtain ⟨g7, o7, c7, rfl, -, -, -⟩ := (hs7.rowO 0 rfl).form (by omega)
             have d0 : w7.cell? ⟨g7, o7 + 0, none⟩ = some (.int .i64 ((d : Int) + 2)) := (hs7.rowO 0 rfl).cellAt 0 (by omega)
             rw [Nat.add_zero] at d0
             have HS7 := Lib.hid hs7
             clear hs7))
        clear hw64 hw64a
        go_loopg [132] (d + 1) (fun g s132 wr => ∃ (j n : Nat) (u : Value) (xs : List Value), j + g = d + 1 ∧ s132 = .int .i64 j ∧ Hid (Star w wr [RowO 3 1 u n xs, RowO 3 1 (.slice (some ⟨g4, o4, none⟩) (d + 1) c4) (d + 1) (nV (jl d)), TT bt RT, BlkA w.heap.size 34 #[.int .i64 d, .int .i64 a, .int .i64 cd, .bool true]]))
        case atStart => exact ⟨0, _, _, _, by omega, rfl, HS7⟩
        case round =>
          clear HS7
          obtain ⟨j, n, u, xs, hj, rfl, HS7⟩ := hrel
          obtain ⟨f1, f2, f3, f4⟩ := C6.out _ _ _ _ HS7.out
          by_cases hjd : j ≤ d
          · have fj := f3 j hjd
            have hjz : (j : Int) < (d : Int) + 1 := by omega
            have hjt : (j : Int) ≤ 10 := by omega
            have HWJ := Lib.hid (wrap_small j hjt)
            have HQ := Lib.hid (fun n : Nat => alive_dq HS7.out 2 rfl ((j : Int) + 1) n)
            rw [HAl.out j hjd] at HQ
            clear f3 f4
            by_cases haj : a ≤ j
            · rw [decide_eq_true haj] at HQ
              have hajz : (a : Int) ≤ j := by omega
              clear haj hjd
              have hwj := HWJ.out
              go_wp2
              go_quiet (first | (go_at_call 16; with_reducible exact HQ.out _))
              go_wp2
              clear hwj
              go_roundg (gk - 1)
              case rel => exact ⟨j + 1, n, u, xs, by omega, by go_num, Lib.hid (HS7.out.drewN _)⟩
              case measure => omega
            · rw [decide_eq_false haj] at HQ
              have hajz : ¬ (a : Int) ≤ j := by omega
              clear haj hjd
              have hwj := HWJ.out
              go_wp2
              go_quiet (first | (go_at_call 16; with_reducible exact HQ.out _))
              go_wp2
              clear hwj
              go_roundg (gk - 1)
              case rel => exact ⟨j + 1, n, u, xs, by omega, by go_num, Lib.hid (HS7.out.drewN _)⟩
              case measure => omega
          · obtain rfl : j = d + 1 := by omega
            have HB := Lib.hid (alive_q (star_dr HS7.out) 2 rfl ((d : Int) + 3))
            rw [HAq.out] at HB
            clear f3 f4 hjd hj
            have q3 : wr.drew.cell? ⟨w.heap.size, 3, none⟩ = some (.bool true) := f2
            go_wp2
            have hlt : w.heap.size < wr.drew.heap.size := HS7.out.blk_lt 3 rfl
            have HLT := Lib.hid hlt
            clear hlt
            go_region_held3 (fun W => W.cell? ⟨w.heap.size, 3, none⟩ = some (.bool true)) (first | exact q3' | exact q3) (first
              | (go_at_call 16; (with_reducible refine HB.out.mono ?_); rintro e w8 ⟨rfl, rfl⟩)
              | (go_at_call 10; (with_reducible refine (HA.out _).mono ?_); rintro e w9 ⟨rfl, hb9⟩
                 have q3' : w9.cell? ⟨w.heap.size, 3, none⟩ = some (.bool true) := (hb9.cell HLT.out).trans q3))
            all_goals
              go_wp2
              go_ret
              exact ⟨rfl, (star_dr HS7.out).below.trans (hb9.mono HS7.out.hb)⟩
      | false =>
        obtain ⟨s1, hs1⟩ : ∃ s1, s1 = (makeC (makeC s 2 ((d : Int) + 1)).2 2 ((a : Int) + 1)).2 := ⟨_, rfl⟩
        obtain ⟨R, hR⟩ := kill_runs (s := s1) (by rw [hs1]; exact p4.wf) (by rw [hs1]; have := p4.le; simp at this; omega) ((d : Int) + 2) cd
        replace p1 : (makeC s 2 ((d : Int) + 1)).1 = ((d : Int) + 2, 0) := by rw [p1]; simp
        replace p3 : (makeC (makeC s 2 ((d : Int) + 1)).2 2 ((a : Int) + 1)).1 = ((d : Int) + 3, 0) := by rw [p3]; simp; omega
        obtain ⟨k1, ⟨ol, k2⟩, k3, k4⟩ := cr_kill p4 (by omega) (by omega) false (hs1.trans (by rw [if_neg (by decide)])) hR
        subst hs1
        have hM1 := fun W (h : Star w W [RowO 3 1 (.slice (some ⟨g4, o4, none⟩) (d + 1) c4) (d + 1) (nV (jl d)), TT bt s, BlkA w.heap.size 34 #[.int .i64 d, .int .i64 a, .int .i64 cd, .bool false]]) => make_st h 1 rfl HI.out.wf (by have := HI.out.le; omega) 2 ((d : Int) + 1)
        have hM2 := fun W (h : Star w W [RowO 3 1 (.slice (some ⟨g4, o4, none⟩) (d + 1) c4) (d + 1) (nV (jl d)), TT bt (makeC s 2 ((d : Int) + 1)).2, BlkA w.heap.size 34 #[.int .i64 d, .int .i64 a, .int .i64 cd, .bool false]]) => make_st h 1 rfl p2.wf (by have := p2.le; simp at this; omega) 2 ((a : Int) + 1)
        have hK := fun W (h : Star w W [RowO 3 1 (.slice (some ⟨g4, o4, none⟩) (d + 1) c4) (d + 1) (nV (jl d)), TT bt (makeC (makeC s 2 ((d : Int) + 1)).2 2 ((a : Int) + 1)).2, BlkA w.heap.size 34 #[.int .i64 d, .int .i64 a, .int .i64 cd, .bool false]]) => kill_st h 1 rfl ((d : Int) + 2) cd R hR.mem
        rw [p1] at hM1
        rw [p3] at hM2
        rw [k1] at hK
        simp only [List.set_cons_zero, List.set_cons_succ] at hM1 hM2 hK
        have HM1 := Lib.hid hM1
        have HM2 := Lib.hid hM2
        have HK := Lib.hid hK
        have hnR : nV R.2 = .int .i64 ((d : Int) + 2) :: nV ol := by rw [k2]; simp [nV]
        have hlR : R.2.length = ol.length + 1 := by rw [k2]; rfl
        rw [hnR, hlR] at HK
        have HAl := Lib.hid k3
        have HAq := Lib.hid k4
        generalize (makeC (makeC s 2 ((d : Int) + 1)).2 2 ((a : Int) + 1)).2 = s3 at *
        generalize (makeC s 2 ((d : Int) + 1)).2 = s2 at *
        obtain ⟨RT, R2⟩ := R
        simp only at HK HAl HAq
        generalize ol.length = nl at *
        have hnl : ¬ ((nl : Int) + 1 < 1) := by omega
        have C4 : Hid (∀ W, Star w W [RowO 3 1 (.slice (some ⟨g4, o4, none⟩) (d + 1) c4) (d + 1) (nV (jl d)), TT bt s2, BlkA w.heap.size 34 #[.int .i64 d, .int .i64 a, .int .i64 cd, .bool false]] → W.cell? ⟨g4, o4 + a, none⟩ = some (.int .i64 ((a : Int) + 1)) ∧ W.cell? ⟨w.heap.size, 1, none⟩ = some (.int .i64 a)) := Lib.hid (fun W h => ⟨by
          rw [(h.rowO 0 rfl).cellAt a (by omega)]
          exact jl_get (by omega), (h.blk 2 rfl).cellv (i := 1) rfl⟩)
        have C5 : Hid (∀ W (T : Asr), Star w W [RowO 3 1 (.slice (some ⟨g4, o4, none⟩) (d + 1) c4) (d + 1) (nV (jl d)), T, BlkA w.heap.size 34 #[.int .i64 d, .int .i64 a, .int .i64 cd, .bool false]] → W.cell? ⟨g4, o4 + a, none⟩ = some (.int .i64 ((a : Int) + 1)) ∧ W.cell? ⟨w.heap.size, 1, none⟩ = some (.int .i64 a) ∧ W.cell? ⟨w.heap.size, 2, none⟩ = some (.int .i64 cd) ∧ W.cell? ⟨w.heap.size, 3, none⟩ = some (.bool false)) := Lib.hid (fun W T h => ⟨by
          rw [(h.rowO 0 rfl).cellAt a (by omega)]
          exact jl_get (by omega), (h.blk 2 rfl).cellv (i := 1) rfl, (h.blk 2 rfl).cellv (i := 2) rfl, (h.blk 2 rfl).cellv (i := 3) rfl⟩)
        have C6 : Hid (∀ W (u : Value) (n : Nat) (xs : List Value), Star w W [RowO 3 1 u n xs, RowO 3 1 (.slice (some ⟨g4, o4, none⟩) (d + 1) c4) (d + 1) (nV (jl d)), TT bt RT, BlkA w.heap.size 34 #[.int .i64 d, .int .i64 a, .int .i64 cd, .bool false]] → W.cell? ⟨w.heap.size, 1, none⟩ = some (.int .i64 a) ∧ W.cell? ⟨w.heap.size, 3, none⟩ = some (.bool false) ∧ (∀ j, j ≤ d → W.cell? ⟨g4, o4 + j, none⟩ = some (.int .i64 ((j : Int) + 1))) ∧ (∀ id, Calls Try.prog 16 #[.pointer (some ⟨bt, 0, none⟩), .int .i64 id] W fun r w' => r = .returned (.bool (aliveT RT id)) ∧ W = w')) := Lib.hid (fun W u n xs h => ⟨(h.blk 3 rfl).cellv (i := 1) rfl, (h.blk 3 rfl).cellv (i := 3) rfl, fun j hj => by
          rw [(h.rowO 1 rfl).cellAt j (by omega)]
          exact jl_get hj, fun id => alive_q h 2 rfl id⟩)
        have hdz : (d : Int) ≤ 10 := by omega
        have hda : (a : Int) ≤ d := by omega
        clear hM1 hM2 hK p1 p2 p3 p4 k1 k2 k3 k4 hnR hlR hR
        have hw64 : wrap64 (d : Int) = (d : Int) := HW64.out
        have hw64a : wrap64 (a : Int) = (a : Int) := HW64A.out
        go_wp2_with (first
          | (go_at_call 11; (with_reducible refine (HM1.out _ HS.out).mono ?_); rintro e w4 ⟨rfl, hs4⟩
             obtain ⟨d1, d2⟩ := C4.out _ hs4
             have HS4 := Lib.hid hs4
             clear hs4)
          | (go_at_call 11; (with_reducible refine (HM2.out _ HS4.out).mono ?_); rintro e w5 ⟨rfl, hs5⟩
             obtain ⟨d3, d4, d5, d6⟩ := C5.out _ _ hs5
             have HS5 := Lib.hid hs5
             clear hs5)
          | (go_at_call 12; (with_reducible refine (HK.out _ HS5.out).mono ?_); rintro e w7 ⟨u7, rfl, hs7⟩
             obtain ⟨g7, o7, c7, rfl, -, -, -⟩ := (hs7.rowO 0 rfl).form (by omega)
             have d0 : w7.cell? ⟨g7, o7 + 0, none⟩ = some (.int .i64 ((d : Int) + 2)) := (hs7.rowO 0 rfl).cellAt 0 (by omega)
             rw [Nat.add_zero] at d0
             have HS7 := Lib.hid hs7
             clear hs7))
        clear hw64 hw64a
        go_loopg [132] (d + 1) (fun g s132 wr => ∃ (j n : Nat) (u : Value) (xs : List Value), j + g = d + 1 ∧ s132 = .int .i64 j ∧ Hid (Star w wr [RowO 3 1 u n xs, RowO 3 1 (.slice (some ⟨g4, o4, none⟩) (d + 1) c4) (d + 1) (nV (jl d)), TT bt RT, BlkA w.heap.size 34 #[.int .i64 d, .int .i64 a, .int .i64 cd, .bool false]]))
        case atStart => exact ⟨0, _, _, _, by omega, rfl, HS7⟩
        case round =>
          clear HS7
          obtain ⟨j, n, u, xs, hj, rfl, HS7⟩ := hrel
          obtain ⟨f1, f2, f3, f4⟩ := C6.out _ _ _ _ HS7.out
          by_cases hjd : j ≤ d
          · have fj := f3 j hjd
            have hjz : (j : Int) < (d : Int) + 1 := by omega
            have hjt : (j : Int) ≤ 10 := by omega
            have HWJ := Lib.hid (wrap_small j hjt)
            have HQ := Lib.hid (fun n : Nat => alive_dq HS7.out 2 rfl ((j : Int) + 1) n)
            rw [HAl.out j hjd] at HQ
            clear f3 f4
            clear hjd
            have hwj := HWJ.out
            go_wp2
            go_quiet (first | (go_at_call 16; with_reducible exact HQ.out _))
            go_wp2
            clear hwj
            go_roundg (gk - 1)
            case rel => exact ⟨j + 1, n, u, xs, by omega, by go_num, Lib.hid (HS7.out.drewN _)⟩
            case measure => omega
          · obtain rfl : j = d + 1 := by omega
            have HB := Lib.hid (alive_q (star_dr HS7.out) 2 rfl ((d : Int) + 3))
            rw [HAq.out] at HB
            clear f3 f4 hjd hj
            have q3 : wr.drew.cell? ⟨w.heap.size, 3, none⟩ = some (.bool false) := f2
            go_wp2
            have hlt : w.heap.size < wr.drew.heap.size := HS7.out.blk_lt 3 rfl
            have HLT := Lib.hid hlt
            clear hlt
            go_region_held3 (fun W => W.cell? ⟨w.heap.size, 3, none⟩ = some (.bool false)) (first | exact q3' | exact q3) (first
              | (go_at_call 16; (with_reducible refine HB.out.mono ?_); rintro e w8 ⟨rfl, rfl⟩)
              | (go_at_call 10; (with_reducible refine (HA.out _).mono ?_); rintro e w9 ⟨rfl, hb9⟩
                 have q3' : w9.cell? ⟨w.heap.size, 3, none⟩ = some (.bool false) := (hb9.cell HLT.out).trans q3))
            all_goals
              go_wp2
              go_ret
              exact ⟨rfl, (star_dr HS7.out).below.trans (hb9.mono HS7.out.hb)⟩
theorem crit_row (d a cd : Int) (kill : Bool) (w : World) :
    Calls Try.prog 4 #[.agg #[.int .i64 d, .int .i64 a, .int .i64 cd, .bool kill]] w fun e w' => e = .returned (.bool true) ∧ Below w.heap.size w w' := by
  by_cases h : d < 0 ∨ 10 < d ∨ a < 0 ∨ d < a
  · exact crit_no d a cd kill w h
  · obtain ⟨n, rfl⟩ : ∃ n : Nat, d = n := ⟨d.toNat, by omega⟩
    obtain ⟨m, rfl⟩ : ∃ n : Nat, a = n := ⟨a.toNat, by omega⟩
    exact crit_yes n m cd kill w (by omega) (by omega)
end Go.Proofs.Ytojmhacafmpbgaa.Tk
