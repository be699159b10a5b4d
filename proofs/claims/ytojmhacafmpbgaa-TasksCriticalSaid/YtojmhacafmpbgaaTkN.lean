/- The tree of tasks: SetPolicy. -/
import Derived.Test.YtojmhacafmpbgaaTkM
namespace Go.Proofs.Ytojmhacafmpbgaa.Tk
open Go Go.RowKit Go.Shelf Go.Proofs.Ytojmhacafmpbgaa.Mem
set_option linter.unusedVariables false
set_option linter.unusedSimpArgs false
attribute [local go_sem] Oper.semAt_some
section
variable {w0 w : World} {S : List Asr} {b : Nat} {s : Tr} {v : Value} {ps : List (Nat × Value)}
set_option maxRecDepth 100000 in
set_option maxHeartbeats 4000000 in
theorem pol_in (h : Star w0 w (tr b s v ps ++ S)) (job bs : Int) {x : Tk} (hx : taskAt s job = some x) (hk : x.kd = 1) (hb0 : 0 ≤ bs) (hb15 : bs ≤ 15) (hst : x.st ≠ 2) (hbl : x.bl.length ≤ 65536) (po' : Nat) (hor : bits .or .i64 (x.po : Int) bs = (po' : Int)) : CallsIn Fence.wide 5 Try.prog 20 #[.pointer (some ⟨b, 0, none⟩), .int .i64 job, .int .i64 bs] w fun e w' => ((firstT s x.bl).isSome = true ∧ e = .returned (.int .i64 (-20)) ∧ Star w0 w' (tr b s v ps ++ S)) ∨ (firstT s x.bl = none ∧ e = .returned (.int .i64 0) ∧ Star w0 w' (tr b { s with ts := s.ts.set (job - 1).toNat { x with po := po' } } v ps ++ S)) := by
  have h0 := h.newBlk 25 #[.int .i64 0]
  have f0 := (h0.blk 0 rfl).frozen 0
  have hf := find_any h0.tail job
  rcases find_two h0.tail job with ⟨h1, -⟩ | ⟨x', p, h1, hp, h2, hb⟩
  · rw [hx] at h1
    cases h1
  rw [hx] at h1
  injection h1 with h1
  subst h1
  rw [h2] at hf
  have HF := Lib.hid hf
  obtain ⟨k0, -, k2, -, k4, -, -, -⟩ := tk_cells hb
  rw [hk] at k0
  have z2 : ((x.st : Int) == 2) = false := by simp; omega
  have c4 : ¬ bs < 0 := by omega
  have c5 : ¬ 15 < bs := by omega
  have H0 := Lib.hid h0
  have HX := Lib.hid (taskAt_get hx)
  have HP := Lib.hid hp
  have HB := Lib.hid hbl
  have HO := Lib.hid hor
  obtain ⟨q, hq, -, ho⟩ := tr_task h (taskAt_get hx)
  rw [hp] at hq
  injection hq with hq
  subst hq
  obtain ⟨Ax, cx, ex⟩ := ho.len
  have EX := Lib.hid ex
  clear h h0 hf h2 hb hx hk hp hbl hor hst ho ex
  refine callsIn_of_wp_marks Try.func20 rfl trivial ?_ rfl
  simp only [Try.ntmps20, List.size_toArray, List.length_cons, List.length_nil, Nat.reduceAdd, Nat.reduceSub, Array.replicate_succ, Array.replicate_zero, List.push_toArray, List.append_toArray, List.nil_append, List.cons_append]
  refine wpIn_wide.2 ?_
  go_wp2_with (first
    | (go_at_call 31; (with_reducible refine HF.out.mono ?_); rintro e w1 ⟨rfl, rfl⟩)
    | (go_at_call 35; (with_reducible refine (living_any _ _ _).mono ?_); rintro e w1 ⟨rfl, rfl⟩))
  have hsl := (H0.out.newBlk 22 #[.pointer (some ⟨b, 0, none⟩)]).newBlk 59 #[.pointer (some ⟨p.1, 0, none⟩)]
  rw [World.size_alloc, World.size_alloc] at hsl
  obtain ⟨Wl, eWl⟩ : ∃ Wl, ((w.alloc (.cells #[.int .i64 0] 25)).alloc (.cells #[.pointer (some ⟨b, 0, none⟩)] 22)).alloc (.cells #[.pointer (some ⟨p.1, 0, none⟩)] 59) = Wl := ⟨_, rfl⟩
  rw [eWl] at hsl ⊢
  clear eWl HF k2 z2 k0 k4 f0
  refine (wpIn_wide (n := 5)).1 ?_
  refine wpIn_rangeFunc_here rfl (fun h => by cases h) trivial rfl (enters_of Try.func42 (by kernel_rfl) rfl) ?_
  intro rec W1 hst1 hpd1 e1 e2 e3 e4 hW1
  have h7 := (hsl.newObj (.deferred (some []))).newObj (.loop rec)
  rw [← hW1] at h7
  rw [World.size_alloc] at h7
  clear hsl hW1
  obtain ⟨l, el⟩ : ∃ l, l = Wl.heap.size + 1 := ⟨_, rfl⟩
  rw [← el] at h7 ⊢
  obtain ⟨rx, erx⟩ : ∃ rx : Loop, rx = { rec with state := .done, pending := some .ret } := ⟨_, rfl⟩
  have hY : ∀ y : Nat, firstT s x.bl = some y → YieldAt Fence.wide (4 - 1) Try.prog l #[.int .i64 y] W1 fun e W' => e = .returned (.bool false) ∧ Star w0 W' (ObjA l (.loop rx) :: ObjA Wl.heap.size (.deferred (some [])) :: BlkA (w.heap.size + 1 + 1) 59 #[.pointer (some ⟨p.1, 0, none⟩)] :: BlkA (w.heap.size + 1) 22 #[.pointer (some ⟨b, 0, none⟩)] :: BlkA w.heap.size 25 #[.int .i64 (-20)] :: (tr b s v ps ++ S)) := by
    intro y hy
    have hl := h7.obj 0 rfl
    refine yield_here hl (by rw [e1]; rfl) hst1 ?_
    rw [e1, e2, e3, e4]
    have hb := h7.setObj 0 rfl (.loop { rec with state := .busy })
    have HBg := Lib.hid (run_beginRound (P := Try.prog) hl hst1)
    generalize W1.putObj l (.loop { rec with state := .busy }) = Wb at hb HBg
    simp only [List.set_cons_zero] at hb
    have ERX := Lib.hid erx
    have k6 := (hb.blk 4 rfl).cellv (i := 0) rfl
    have f6 := (hb.blk 4 rfl).frozen 0
    have hb2 := hb.setBlk 4 rfl 0 (.int .i64 (-20))
    simp only [List.set_cons_zero, List.set_cons_succ] at hb2
    have HBB := Lib.hid hb2
    clear h7 hb hb2 hl e1 e2 e3 e4 hst1 hpd1 erx el hy
    gi_wp2
    refine ⟨_, HBg.out, ?_⟩
    gi_wp2
    refine ⟨_, _, run_endRound _ (HBB.out.obj 0 rfl), rfl, ?_⟩
    have := HBB.out.setObj 0 rfl (.loop rx)
    rw [ERX.out] at this ⊢
    exact this
  have hcells := h7.tail.tail.tail.tail.tail
  obtain ⟨q, hq, hb1, ho1⟩ := tr_task hcells HX.out
  rw [HP.out] at hq
  injection hq with hq
  subst hq
  have hx6 : W1.cell? ⟨p.1, 6, none⟩ = some (.slice Ax x.bl.length cx) := by
    rw [← EX.out]
    exact (tk_cells hb1).2.2.2.2.2.2.1
  rw [EX.out] at ho1
  have hA := living1_in 4 (by omega) l (w.heap.size + 1 + 1) (w.heap.size + 1) b p.1 cx Ax s x.bl W1 _ HB.out ((h7.blk 2 rfl).cellv (i := 0) rfl) ((h7.blk 3 rfl).cellv (i := 0) rfl) hx6 ⟨_, ho1.reads⟩ (fun id => alive_any hcells id) hY
  clear hY hcells hb1 ho1 hx6
  simp only [List.append_toArray, List.cons_append, List.nil_append]
  refine hA.mono ?_
  clear hA
  rintro e W2 ⟨⟨vv, rfl⟩, (⟨hno, rfl⟩ | ⟨y, hy, hW⟩)⟩
  · have hend : (Instr.endLoop l).run Try.prog W2 = .ok none (W2.putObj l (.loop { rec with state := .exhausted })) := by
      rw [run_endLoop (P := Try.prog) (h7.obj 0 rfl) (by rw [hst1]; simp), hpd1]
    have h8 := h7.setObj 0 rfl (.loop { rec with state := .exhausted })
    generalize W2.putObj l (.loop { rec with state := .exhausted }) = W4 at hend h8
    refine ⟨_, W4, hend, ?_⟩
    have h9 : Star w0 W4 (ObjA Wl.heap.size (.deferred (some [])) :: BlkA (w.heap.size + 1 + 1) 59 #[.pointer (some ⟨p.1, 0, none⟩)] :: BlkA (w.heap.size + 1) 22 #[.pointer (some ⟨b, 0, none⟩)] :: BlkA w.heap.size 25 #[.int .i64 0] :: (tr b s v ps ++ S)) := h8.tail
    have h10 : Star w0 W4 (ObjA Wl.heap.size (.deferred (some [])) :: BlkA w.heap.size 25 #[.int .i64 0] :: (tr b s v ps ++ S)) := (h9.perm (List.Perm.trans (List.Perm.swap _ _ _) (List.Perm.cons _ (List.Perm.swap _ _ _)))).tail.tail
    have h11 := star_swap (P := [ObjA Wl.heap.size (.deferred (some [])), BlkA w.heap.size 25 #[.int .i64 0]]) (T := tr b s v ps) (S := S) h10
    obtain ⟨q, hq, hbq, -⟩ := tr_task h11 HX.out
    rw [HP.out] at hq
    injection hq with hq
    subst hq
    have k4 := (tk_cells hbq).2.2.2.2.1
    have f4 := hbq.frozen 4
    have h12 := star_swap (T := [ObjA Wl.heap.size (.deferred (some [])), BlkA w.heap.size 25 #[.int .i64 0]]) (P := tr b { s with ts := s.ts.set (job - 1).toNat { x with po := po' } } v ps) (tr_set h11 HX.out HP.out 4 (.int .i64 (po' : Int)) (x' := { x with po := po' }) rfl rfl)
    have k6 := (h12.blk 1 rfl).cellv (i := 0) rfl
    have f6 := (h12.blk 1 rfl).frozen 0
    have H13 : Hid (Star w0 ((W4.setCell ⟨p.1, 4, none⟩ (.int .i64 (po' : Int))).setCell ⟨w.heap.size, 0, none⟩ (.int .i64 0)) (ObjA Wl.heap.size (.deferred (some [])) :: BlkA w.heap.size 25 #[.int .i64 0] :: (tr b { s with ts := s.ts.set (job - 1).toNat { x with po := po' } } v ps ++ S))) := Lib.hid (h12.setBlk 1 rfl 0 (.int .i64 0))
    have hor := HO.out
    have HNO := Lib.hid hno
    clear h8 h9 h10 h11 h12 h7 hend e1 e2 e3 e4 hst1 hpd1 erx el hbq hno
    show Exit.inBlock _ (Exit.then _ _) Exit.normal _ _
    simp only [Exit.inBlock, Exit.then]
    go_wp2
    refine leaves_marks (L := BlkA w.heap.size 25 #[.int .i64 0] :: (tr b { s with ts := s.ts.set (job - 1).toNat { x with po := po' } } v ps ++ S)) [Wl.heap.size] _ H13.out (fun w' hs => ⟨_, results_cell1 rfl _ _ ⟨w.heap.size, 0, none⟩ _ _ rfl u25 rfl ((hs.blk 0 rfl).cellv (i := 0) rfl), .inr ⟨HNO.out, rfl, hs.tail⟩⟩)
  · have hend : (Instr.endLoop l).run Try.prog W2 = .ok (some .ret) (W2.putObj l (.loop { rx with state := .exhausted })) := by
      rw [run_endLoop (P := Try.prog) (hW.obj 0 rfl) (by rw [erx]; simp), show rx.pending = some .ret by rw [erx]]
    have h8 := hW.setObj 0 rfl (.loop { rx with state := .exhausted })
    generalize W2.putObj l (.loop { rx with state := .exhausted }) = W4 at hend h8
    refine ⟨_, W4, hend, ?_⟩
    have H10 : Hid (Star w0 W4 (ObjA Wl.heap.size (.deferred (some [])) :: BlkA w.heap.size 25 #[.int .i64 (-20)] :: (tr b s v ps ++ S))) := Lib.hid ((h8.tail).perm (List.Perm.trans (List.Perm.swap _ _ _) (List.Perm.cons _ (List.Perm.swap _ _ _)))).tail.tail
    have HY := Lib.hid hy
    clear h8 hW h7 hend e1 e2 e3 e4 hst1 hpd1 erx el hy
    gi_wp2
    exact leaves_marks (L := BlkA w.heap.size 25 #[.int .i64 (-20)] :: (tr b s v ps ++ S)) [Wl.heap.size] _ H10.out (fun w' hs => ⟨_, results_cell1 rfl _ _ ⟨w.heap.size, 0, none⟩ _ _ rfl u25 rfl ((hs.blk 0 rfl).cellv (i := 0) rfl), .inl ⟨by rw [HY.out]; rfl, rfl, hs.tail⟩⟩)
end
end Go.Proofs.Ytojmhacafmpbgaa.Tk
