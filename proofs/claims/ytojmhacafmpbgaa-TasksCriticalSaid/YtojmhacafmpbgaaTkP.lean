/- The tree of tasks: Exit. -/
import Derived.Test.YtojmhacafmpbgaaTkO
namespace Go.Proofs.Ytojmhacafmpbgaa.Tk
open Go Go.RowKit Go.Shelf Go.Proofs.Ytojmhacafmpbgaa.Mem
set_option linter.unusedVariables false
set_option linter.unusedSimpArgs false
attribute [local go_sem] Oper.semAt_some
/-- An operation without a guard, as one step of a region that draws. -/
theorem step_in {P : Program} {ops : Array Oper} {o : Oper} {a : Act} {w : World} {K : Act → World → Prop} {Q : Exit → Act → World → Prop} {E : Prop} (hg : o.guard = none) (h : Oper.wp P o a w K Q) :
    if Region.wanted o (yielded ops a.tmps) = true then Oper.wp P o a w K Q else E := by
  have hw : Region.wanted o (yielded ops a.tmps) = true := by simp [Region.wanted, hg]
  rw [if_pos hw]
  exact h
section
variable {w0 w : World} {S : List Asr} {b : Nat} {s : Tr} {v : Value} {ps : List (Nat × Value)}
set_option maxRecDepth 100000 in
set_option maxHeartbeats 4000000 in
theorem exit_in (h : Star w0 w (tr b s v ps ++ S)) (id : Nat) (code : Int) {x x1 y : Tk} (hx : taskAt s id = some x) (hk : x.kd = 3) (hst : x.st = 1) (R1 : Tr × List Nat) (g1 : Nat) (hg1 : g1 ≤ 10000000) (hR1 : dieF code g1 s [id] [] = some R1) (hx1 : taskAt R1.1 id = some x1) (hpa : x1.pa = x.pa) (hy : taskAt R1.1 x.pa = some y) (hbl : y.bl.length ≤ 65536)
    (R2 : Tr × List Nat) (g2 : Nat) (hg2 : g2 ≤ 10000000) (hR2 : firstT R1.1 y.bl = none → dieF code g2 R1.1 [x.pa] [] = some R2) (hl1 : R1.2.length ≤ 65536) (hl2 : R2.2.length ≤ 65536) :
    CallsIn Fence.wide 5 Try.prog 18 #[.pointer (some ⟨b, 0, none⟩), .int .i64 id, .int .i64 code] w fun e w' => ∃ u, e = .returned (.tuple #[u, .int .i64 0]) ∧ (((firstT R1.1 y.bl).isSome = true ∧ Star w0 w' (RowO 3 1 u R1.2.length (nV R1.2) :: (tr b R1.1 v ps ++ S))) ∨ (firstT R1.1 y.bl = none ∧ Star w0 w' (RowO 3 1 u (R1.2.length + R2.2.length) (nV R1.2 ++ nV R2.2) :: (tr b R2.1 v ps ++ S)))) := by
  have h0 := (h.newBlk 28 #[.slice none 0 0]).newBlk 25 #[.int .i64 0]
  rw [World.size_alloc] at h0
  have hf := find_any h0.tail.tail id
  rcases find_two h0.tail.tail id with ⟨h1, -⟩ | ⟨x', p, h1, hp, h2, hb⟩
  · rw [hx] at h1
    cases h1
  rw [hx] at h1
  injection h1 with h1
  subst h1
  rw [h2] at hf
  have HF := Lib.hid hf
  obtain ⟨k0, -, k2, -, -, -, -, -⟩ := tk_cells hb
  rw [hk] at k0
  rw [hst] at k2
  have HD := Lib.hid (die_any (star_swap (P := [BlkA (w.heap.size + 1) 25 #[.int .i64 0], BlkA w.heap.size 28 #[.slice none 0 0]]) (T := tr b s v ps) (S := S) h0) id code R1 g1 hg1 hR1)
  have HX1 := Lib.hid (taskAt_get hx1)
  have HY := Lib.hid hy
  have HPA := Lib.hid hpa
  have HP := Lib.hid hp
  have HB := Lib.hid hbl
  have HL1 := Lib.hid hl1
  have HL2 := Lib.hid hl2
  have HR2 := Lib.hid hR2
  obtain ⟨i1, hi1, hy0, hy1, hy2⟩ := info_parts int_info
  clear h h0 hf h2 hb hx hk hp hst hR1 hx1 hpa hy hbl hR2 hl1 hl2
  refine callsIn_of_wp_marks Try.func18 rfl trivial ?_ rfl
  simp only [Try.ntmps18, List.size_toArray, List.length_cons, List.length_nil, Nat.reduceAdd, Nat.reduceSub, Array.replicate_succ, Array.replicate_zero, List.push_toArray, List.append_toArray, List.nil_append, List.cons_append]
  refine wpIn_wide.2 ?_
  go_wp2_with (first
    | (go_at_call 31; (with_reducible refine HF.out.mono ?_); rintro e w1 ⟨rfl, rfl⟩)
    | (go_at_call 31; (with_reducible refine HFY.out.mono ?_); rintro e w1 ⟨rfl, rfl⟩)
    | (go_at_call 34; (with_reducible refine HD.out.mono ?_); rintro e w2 ⟨u, rfl, hs2⟩
       obtain ⟨A2, c2, rfl⟩ := (hs2.rowO 0 rfl).len
       have hs3 : Star w0 w2 (BlkA (w.heap.size + 1) 25 #[.int .i64 0] :: BlkA w.heap.size 28 #[.slice none 0 0] :: RowO 3 1 (.slice A2 R1.2.length c2) R1.2.length (nV R1.2) :: (tr b R1.1 v ps ++ S)) := hs2.perm (List.perm_append_comm_assoc (RowO 3 1 (.slice A2 R1.2.length c2) R1.2.length (nV R1.2) :: tr b R1.1 v ps) [BlkA (w.heap.size + 1) 25 #[.int .i64 0], BlkA w.heap.size 28 #[.slice none 0 0]] S)
       have f6 := (hs3.blk 1 rfl).frozen 0
       have q6 := (hs3.blk 1 rfl).cellv (i := 0) rfl
       have hs4 := hs3.setBlk 1 rfl 0 (.slice A2 R1.2.length c2)
       simp only [List.set_cons_zero, List.set_cons_succ] at hs4
       obtain ⟨W4, e4⟩ : ∃ W4, w2.setCell ⟨w.heap.size, 0, none⟩ (.slice A2 R1.2.length c2) = W4 := ⟨_, rfl⟩
       rw [e4] at hs4
       obtain ⟨q, hq, hbq, -⟩ := tr_task hs4.tail.tail.tail HX1.out
       rw [HP.out] at hq
       injection hq with hq
       subst hq
       have k1 := (tk_cells hbq).2.1
       rw [HPA.out] at k1
       have hfy := find_any hs4.tail.tail.tail x.pa
       obtain ⟨y', py, hy1, hpy, hy2, hby⟩ : ∃ y' py, taskAt R1.1 x.pa = some y' ∧ ps[((x.pa : Int) - 1).toNat]? = some py ∧ findV ps x.pa = .pointer (some ⟨py.1, 0, none⟩) ∧ Blk W4 py.1 61 (tkC y' py.2) := by
         rcases find_two hs4.tail.tail.tail x.pa with ⟨hn, -⟩ | hh
         · rw [HY.out] at hn
           cases hn
         · exact hh
       rw [hy2] at hfy
       have HFY := Lib.hid hfy
       have HPY := Lib.hid hpy
       have HS4 := Lib.hid hs4
       clear hs2 hs3 hs4 hbq hby hpy hy1 hy2 hfy)
    | (go_at_call 35; (with_reducible refine (living_any _ _ _).mono ?_); rintro e w3 ⟨rfl, rfl⟩))
  have hsl := (HS4.out.newBlk 22 #[.pointer (some ⟨b, 0, none⟩)]).newBlk 59 #[.pointer (some ⟨py.1, 0, none⟩)]
  rw [World.size_alloc] at hsl
  obtain ⟨Wl, eWl⟩ : ∃ Wl, (W4.alloc (.cells #[.pointer (some ⟨b, 0, none⟩)] 22)).alloc (.cells #[.pointer (some ⟨py.1, 0, none⟩)] 59) = Wl := ⟨_, rfl⟩
  rw [eWl] at hsl ⊢
  clear eWl HF HFY k2 k0 k1 f6 q6 HD e4
  refine (wpIn_wide (n := 5)).1 ?_
  refine wpIn_rangeFunc_here rfl (fun h => by cases h) trivial rfl (enters_of Try.func42 (by kernel_rfl) rfl) ?_
  intro rec W1 hst1 hpd1 e1 e2 e3 e4 hW1
  have h7 := (hsl.newObj (.deferred (some []))).newObj (.loop rec)
  rw [← hW1] at h7
  rw [World.size_alloc] at h7
  clear hsl hW1
  obtain ⟨l, el⟩ : ∃ l, l = Wl.heap.size + 1 := ⟨_, rfl⟩
  rw [← el] at h7 ⊢
  obtain ⟨rx, erx⟩ : ∃ rx : Loop, rx = { rec with state := .done, pending := some .ret } := ⟨_, rfl⟩
  have hY : ∀ yy : Nat, firstT R1.1 y.bl = some yy → YieldAt Fence.wide (4 - 1) Try.prog l #[.int .i64 yy] W1 fun e W' => e = .returned (.bool false) ∧ Star w0 W' (ObjA l (.loop rx) :: ObjA Wl.heap.size (.deferred (some [])) :: BlkA (W4.heap.size + 1) 59 #[.pointer (some ⟨py.1, 0, none⟩)] :: BlkA W4.heap.size 22 #[.pointer (some ⟨b, 0, none⟩)] :: BlkA (w.heap.size + 1) 25 #[.int .i64 0] :: BlkA w.heap.size 28 #[.slice A2 R1.2.length c2] :: RowO 3 1 (.slice A2 R1.2.length c2) R1.2.length (nV R1.2) :: (tr b R1.1 v ps ++ S)) := by
    intro yy hy
    have hl := h7.obj 0 rfl
    refine yield_here hl (by rw [e1]; rfl) hst1 ?_
    rw [e1, e2, e3, e4]
    have hb := h7.setObj 0 rfl (.loop { rec with state := .busy })
    have HBg := Lib.hid (run_beginRound (P := Try.prog) hl hst1)
    generalize W1.putObj l (.loop { rec with state := .busy }) = Wb at hb HBg
    simp only [List.set_cons_zero] at hb
    have ERX := Lib.hid erx
    have k6 : Wb.cell? ⟨w.heap.size, 0, none⟩ = some (.slice A2 R1.2.length c2) := (hb.blk 5 rfl).cellv (i := 0) rfl
    have f6 := (hb.blk 5 rfl).frozen 0
    have hb2 := hb.setBlk 5 rfl 0 (.slice A2 R1.2.length c2)
    simp only [List.set_cons_zero, List.set_cons_succ] at hb2
    have k7 := (hb2.blk 4 rfl).cellv (i := 0) rfl
    have f7 := (hb2.blk 4 rfl).frozen 0
    have hb3 := hb2.setBlk 4 rfl 0 (.int .i64 0)
    simp only [List.set_cons_zero, List.set_cons_succ] at hb3
    have HBB := Lib.hid hb3
    clear h7 hb hb2 hb3 hl e1 e2 e3 e4 hst1 hpd1 erx el hy
    gi_wp2
    refine ⟨_, HBg.out, ?_⟩
    gi_wp2
    refine ⟨_, _, run_endRound _ (HBB.out.obj 0 rfl), rfl, ?_⟩
    have := HBB.out.setObj 0 rfl (.loop rx)
    rw [ERX.out] at this ⊢
    exact this
  have hcells := h7.tail.tail.tail.tail.tail.tail.tail
  obtain ⟨q, hq, hb1, ho1⟩ := tr_task hcells (taskAt_get HY.out)
  rw [HPY.out] at hq
  injection hq with hq
  subst hq
  obtain ⟨Ax, cx, ex⟩ := ho1.len
  have hx6 : W1.cell? ⟨py.1, 6, none⟩ = some (.slice Ax y.bl.length cx) := by
    rw [← ex]
    exact (tk_cells hb1).2.2.2.2.2.2.1
  rw [ex] at ho1
  have hA := living1_in 4 (by omega) l (W4.heap.size + 1) W4.heap.size b py.1 cx Ax R1.1 y.bl W1 _ HB.out ((h7.blk 2 rfl).cellv (i := 0) rfl) ((h7.blk 3 rfl).cellv (i := 0) rfl) hx6 ⟨_, ho1.reads⟩ (fun id => alive_any hcells id) hY
  clear hY hcells hb1 ho1 hx6
  simp only [List.append_toArray, List.cons_append, List.nil_append]
  refine hA.mono ?_
  clear hA
  rintro e W2 ⟨⟨vv, rfl⟩, (⟨hno, rfl⟩ | ⟨yy, hyy, hW⟩)⟩
  · have hend : (Instr.endLoop l).run Try.prog W2 = .ok none (W2.putObj l (.loop { rec with state := .exhausted })) := by
      rw [run_endLoop (P := Try.prog) (h7.obj 0 rfl) (by rw [hst1]; simp), hpd1]
    have h8 := h7.setObj 0 rfl (.loop { rec with state := .exhausted })
    generalize W2.putObj l (.loop { rec with state := .exhausted }) = W5 at hend h8
    refine ⟨_, W5, hend, ?_⟩
    have h10 : Star w0 W5 (ObjA Wl.heap.size (.deferred (some [])) :: BlkA (w.heap.size + 1) 25 #[.int .i64 0] :: BlkA w.heap.size 28 #[.slice A2 R1.2.length c2] :: RowO 3 1 (.slice A2 R1.2.length c2) R1.2.length (nV R1.2) :: (tr b R1.1 v ps ++ S)) := ((h8.tail).perm (List.Perm.trans (List.Perm.swap _ _ _) (List.Perm.cons _ (List.Perm.swap _ _ _)))).tail.tail
    have H10 := Lib.hid h10
    have k6 : W5.drew.cell? ⟨w.heap.size, 0, none⟩ = some (.slice A2 R1.2.length c2) := (h10.blk 2 rfl).cellv (i := 0) rfl
    obtain ⟨q, hq, hbq, -⟩ := tr_task (star_dr h10).tail.tail.tail.tail HX1.out
    rw [HP.out] at hq
    injection hq with hq
    subst hq
    have k1 := (tk_cells hbq).2.1
    rw [HPA.out] at k1
    have HD2 := Lib.hid (die_any (star_swap (P := [ObjA Wl.heap.size (.deferred (some [])), BlkA (w.heap.size + 1) 25 #[.int .i64 0], BlkA w.heap.size 28 #[.slice A2 R1.2.length c2], RowO 3 1 (.slice A2 R1.2.length c2) R1.2.length (nV R1.2)]) (T := tr b R1.1 v ps) (S := S) (star_dr h10)) x.pa code R2 g2 hg2 (HR2.out hno))
    have HNO := Lib.hid hno
    have hm3 : R1.2.length + R2.2.length ≤ maxLen := by
      have a1 := HL1.out
      have a2 := HL2.out
      simp only [maxLen]
      clear h10 h8 h7 hno
      omega
    have hm4 : (R1.2.length + R2.2.length) * 8 ≤ 140737488355328 := by
      have a1 := HL1.out
      have a2 := HL2.out
      clear h10 h8 h7 hno
      omega
    have h1' := nV_one R2.2
    clear h8 h10 h7 hend e1 e2 e3 e4 hst1 hpd1 erx el hbq hno
    show Exit.inBlock _ (Exit.then _ _) Exit.normal _ _
    simp only [Exit.inBlock, Exit.then]
    go_wp2
    refine wp_region_noPanic ?_
    go_region_law (first
      | (refine step_in (by rfl) ?_; go_simp; go_at_call 34; (with_reducible refine HD2.out.mono ?_); rintro e w6 ⟨u, rfl, hs2⟩
         obtain ⟨A6, c6, rfl⟩ := (hs2.rowO 0 rfl).len
         have hs3 : Star w0 w6 (ObjA Wl.heap.size (.deferred (some [])) :: BlkA (w.heap.size + 1) 25 #[.int .i64 0] :: BlkA w.heap.size 28 #[.slice A2 R1.2.length c2] :: RowO 3 1 (.slice A2 R1.2.length c2) R1.2.length (nV R1.2) :: RowO 3 1 (.slice A6 R2.2.length c6) R2.2.length (nV R2.2) :: (tr b R2.1 v ps ++ S)) := hs2.perm (List.perm_append_comm_assoc (RowO 3 1 (.slice A6 R2.2.length c6) R2.2.length (nV R2.2) :: tr b R2.1 v ps) [ObjA Wl.heap.size (.deferred (some [])), BlkA (w.heap.size + 1) 25 #[.int .i64 0], BlkA w.heap.size 28 #[.slice A2 R1.2.length c2], RowO 3 1 (.slice A2 R1.2.length c2) R1.2.length (nV R1.2)] S)
         have r6 : w6.cell? ⟨w.heap.size, 0, none⟩ = some (.slice A2 R1.2.length c2) := (hs3.blk 2 rfl).cellv (i := 0) rfl
         have HS3 := Lib.hid hs3
         clear hs2 hs3)
      | (refine step_append_so (by rfl) (.tmp 44) (.tmp 52) 28 (by rfl) HS3.out 3 rfl i1 _ 8 Try.underlying28 hi1 hy0 hy1 hy2 rfl (by omega) (by rfl) _ A6 R2.2.length c6 (nV R2.2) (by rfl) (HS3.out.readsO 4 rfl) h1' hm3 hm4 ?_
         intro v7 w7 hs7
         obtain ⟨A7, c7, rfl⟩ := (hs7.rowO 3 rfl).len
         have f7 := (hs7.blk 2 rfl).frozen 0
         have q7 := (hs7.blk 2 rfl).cellv (i := 0) rfl
         have hs8 := hs7.setBlk 2 rfl 0 (.slice A7 (R1.2.length + R2.2.length) c7)
         have f8 := (hs8.blk 1 rfl).frozen 0
         have q8 := (hs8.blk 1 rfl).cellv (i := 0) rfl
         have hs9 := hs8.setBlk 1 rfl 0 (.int .i64 0)
         have HS9 := Lib.hid hs9
         clear hs7 hs8 hs9))
    all_goals
      simp only [NoPanic]
      go_wp2
      exact leaves_marks (L := BlkA (w.heap.size + 1) 25 #[.int .i64 0] :: BlkA w.heap.size 28 #[.slice A7 (R1.2.length + R2.2.length) c7] :: RowO 3 1 (.slice A7 (R1.2.length + R2.2.length) c7) (R1.2.length + R2.2.length) (nV R1.2 ++ nV R2.2) :: RowO 3 1 (.slice A6 R2.2.length c6) R2.2.length (nV R2.2) :: (tr b R2.1 v ps ++ S)) [Wl.heap.size] _ HS9.out (fun w' hs => ⟨_, results_cell2 rfl _ _ ⟨w.heap.size, 0, none⟩ ⟨w.heap.size + 1, 0, none⟩ _ _ _ _ rfl u28 rfl ((hs.blk 1 rfl).cellv (i := 0) rfl) rfl u25 rfl ((hs.blk 0 rfl).cellv (i := 0) rfl), _, rfl, .inr ⟨HNO.out, (hs.tail.tail.perm (List.Perm.swap _ _ _)).tail⟩⟩)
  · have hend : (Instr.endLoop l).run Try.prog W2 = .ok (some .ret) (W2.putObj l (.loop { rx with state := .exhausted })) := by
      rw [run_endLoop (P := Try.prog) (hW.obj 0 rfl) (by rw [erx]; simp), show rx.pending = some .ret by rw [erx]]
    have h8 := hW.setObj 0 rfl (.loop { rx with state := .exhausted })
    generalize W2.putObj l (.loop { rx with state := .exhausted }) = W5 at hend h8
    refine ⟨_, W5, hend, ?_⟩
    have H10 : Hid (Star w0 W5 (ObjA Wl.heap.size (.deferred (some [])) :: BlkA (w.heap.size + 1) 25 #[.int .i64 0] :: BlkA w.heap.size 28 #[.slice A2 R1.2.length c2] :: RowO 3 1 (.slice A2 R1.2.length c2) R1.2.length (nV R1.2) :: (tr b R1.1 v ps ++ S))) := Lib.hid ((h8.tail).perm (List.Perm.trans (List.Perm.swap _ _ _) (List.Perm.cons _ (List.Perm.swap _ _ _)))).tail.tail
    have HYY := Lib.hid hyy
    clear h8 hW h7 hend e1 e2 e3 e4 hst1 hpd1 erx el hyy
    gi_wp2
    exact leaves_marks (L := BlkA (w.heap.size + 1) 25 #[.int .i64 0] :: BlkA w.heap.size 28 #[.slice A2 R1.2.length c2] :: RowO 3 1 (.slice A2 R1.2.length c2) R1.2.length (nV R1.2) :: (tr b R1.1 v ps ++ S)) [Wl.heap.size] _ H10.out (fun w' hs => ⟨_, results_cell2 rfl _ _ ⟨w.heap.size, 0, none⟩ ⟨w.heap.size + 1, 0, none⟩ _ _ _ _ rfl u28 rfl ((hs.blk 1 rfl).cellv (i := 0) rfl) rfl u25 rfl ((hs.blk 0 rfl).cellv (i := 0) rfl), _, rfl, .inl ⟨by rw [HYY.out]; rfl, hs.tail.tail⟩⟩)
end
end Go.Proofs.Ytojmhacafmpbgaa.Tk
