/- The fifo: Write at the other end (printed by ffk.py out of FfJ). -/
import Derived.Test.YtaiggfoeobehlaaFfJ
namespace Go.Proofs.Ytaiggfoeobehlaa.Ff
open Go Go.RowKit Go.Shelf Go.Proofs.Ytaiggfoeobehlaa.Mem
set_option linter.unusedVariables false
set_option linter.unusedSimpArgs false
attribute [local go_sem] Oper.semAt_some
theorem push_star2 {w0 w : World} {S : List Asr} {bs q n z : Nat} {t : Value × Value} {ra R : Ring} {e : List UInt8} (P : List Asr) (h : Star w0 w (P ++ (BlkA bs 65 ((ffC ⟨R, ra, n, z⟩ t).setIfInBounds 3 (.int .i64 ((q : Int) + 1))) :: RowO 5 1 t.1 (n * z) (byV (splice R.raw ((R.fi + q) % n * z) e)) :: RowO 5 1 t.2 ra.raw.length (byV ra.raw) :: S)))
    (hq : R.el.length = q) (hr : R.raw.length = n * z) (he : e.length = z) (hn : 0 < n) : Star w0 w (P ++ (ff bs ⟨pushR n z R e, ra, n, z⟩ t ++ S)) := by
  subst hq
  have hs := slot_in ((R.fi + R.el.length) % n) n z (Nat.mod_lt _ hn)
  have h1 : (pushR n z R e).raw.length = n * z := by
    show (splice R.raw _ e).length = _
    rw [length_splice _ _ _ (by omega)]
    exact hr
  have h2 : (ffC ⟨R, ra, n, z⟩ t).setIfInBounds 3 (.int .i64 ((R.el.length : Int) + 1)) = ffC ⟨pushR n z R e, ra, n, z⟩ t := by
    show #[_, _, _, _, _, _, _, _, _, _] = _
    unfold ffC pushR
    simp
  rw [h2] at h
  show Star w0 w (P ++ (BlkA bs 65 _ :: RowO 5 1 t.1 (pushR n z R e).raw.length (byV (pushR n z R e).raw) :: RowO 5 1 t.2 ra.raw.length (byV ra.raw) :: S))
  rw [h1]
  exact h
section
variable {w0 w : World} {S : List Asr} {bs : Nat} {t : Value × Value}
set_option maxRecDepth 100000 in
set_option maxHeartbeats 4000000 in
theorem write_ok2 {ra : Ring} {raw : List UInt8} {fi n z : Nat} {el : List (List UInt8)} (h : Star w0 w (ff bs ⟨⟨false, raw, fi, el⟩, ra, n, z⟩ t ++ S)) (hco : ra.cl = false) (hR : RingOk n z ⟨false, raw, fi, el⟩) (kk : Nat) (hpow : n = 2 ^ kk) (hkk : kk ≤ 10)
    (N : Nat) (hN : 1 ≤ N) (A : Option Addr) (c : Nat) (xs : List UInt8) (X : Asr) (k : Nat) (hk : S[k]? = some X) (hrd : ∀ F W, X w0.heap.size F W → ∃ B, Reads W B 1 A (N * z) (byV xs)) (hmc : N * z ≤ c) (hcm : c ≤ maxLen) (hz : 1 ≤ z) (hz2 : z ≤ 64) (hr : el.length < n) (hm : N * z ≤ 100000) :
    CallsIn Fence.wide 5 Try.prog 12 #[.pointer (some ⟨bs, 0, none⟩), .int .i64 1, .slice A (N * z) c] w fun e w' => ∃ K : Nat, K = min N (n - el.length) ∧ e = .returned (.tuple #[.int .i64 K, .int .i64 0]) ∧ Star w0 w' (ff bs ⟨psh n z xs ⟨false, raw, fi, el⟩ K, ra, n, z⟩ t ++ S) := by
  obtain ⟨t1, t2⟩ := t
  have hrl : raw.length = n * z := (hR.2.2.2.2 rfl).1
  have hnz : 0 < n * z := Nat.mul_pos (by have := hR.2.1; omega) hz
  obtain ⟨g, off, cp, ht1, -, -, hcp⟩ := (h.rowO 1 rfl).form (by simp only; omega)
  simp only at ht1 hcp
  rw [hrl] at ht1 hcp
  subst ht1
  have hxl : xs.length = N * z := by
    obtain ⟨F, hF, -⟩ := h.of (k + 3) (by simpa using hk)
    obtain ⟨B, hB⟩ := hrd F w hF
    have := hB.1
    simpa [byV_len] using this
  have h2k : 2 ^ kk ≤ 2 ^ 10 := Nat.pow_le_pow_right (by omega) hkk
  have h1k : 1 ≤ 2 ^ kk := Nat.one_le_two_pow
  rw [← hpow] at h2k h1k
  have h5 := h.newBlk 23 #[.pointer (some ⟨bs, 0, none⟩)]
  have HC := Lib.hid (check_any h5.tail 1)
  rw [show checkF ⟨⟨false, raw, fi, el⟩, ra, n, z⟩ 1 = 0 by simp [checkF, hco]] at HC
  obtain ⟨q4, -, -, -, -, -, -, -, -, q9⟩ := ff_cells h5.tail
  have h6 := h5.newBlk 66 #[.pointer (some ⟨bs, 0, none⟩)]
  obtain ⟨p4, -, -, p7, -, -, -, -, p8, p9⟩ := ff_cells h6.tail.tail
  simp only at q4 q9 p4 p7 p8 p9
  have r0 := (h6.blk 0 rfl).cellv (i := 0) rfl
  have r1 := (h6.blk 1 rfl).cellv (i := 0) rfl
  have q0 := (h5.blk 0 rfl).cellv (i := 0) rfl
  obtain ⟨m, em⟩ : ∃ m, m = N * z := ⟨_, rfl⟩
  have HRD := Lib.hid hrd
  rw [← em] at hm hmc ⊢
  have EM := Lib.hid em
  have hmz : z ≤ m := by rw [em]; exact Nat.le_mul_of_pos_left _ hN
  have hmod : Int.tmod (m : Int) (z : Int) = 0 := by
    rw [em]
    simp [Int.natCast_mul]
  have hm0 : 0 < m := by omega
  have hm1 : ¬ (m : Int) = 0 := by omega
  have hzz : ¬ (z : Int) = 0 := by omega
  have HS := Lib.hid h
  have hlt : ((el.length : Int) == n) = false := by simp; omega
  have HR := Lib.hid hR
  have HK := Lib.hid hk
  have HP := Lib.hid hpow
  have HX := Lib.hid hxl
  have HRL := Lib.hid hrl
  obtain ⟨ml, eml⟩ : ∃ ml, ml = el.length := ⟨_, rfl⟩
  rw [← eml] at hlt p7 hr ⊢
  have EL := Lib.hid eml
  clear h h5 h6 em eml hR hk hpow hxl hrl hrd
  refine callsIn_of_wp_marks Try.func12 rfl trivial ?_ rfl
  simp only [Try.ntmps12, List.size_toArray, List.length_cons, List.length_nil, Nat.reduceAdd, Nat.reduceSub, Array.replicate_succ, Array.replicate_zero, List.push_toArray, List.append_toArray, List.nil_append, List.cons_append]
  refine wpIn_wide.2 ?_
  go_wp2_with (first | (go_at_call 25; (with_reducible refine HC.out.mono ?_); rintro e w1 ⟨rfl, rfl⟩))
  go_quiet (fail)
  go_wp2_with (first | (go_at_call 26; (with_reducible refine (elements_any _ _ _ _ _).mono ?_); rintro e w1 ⟨rfl, rfl⟩))
  have hst := ((((((HS.out.newBlk 23 #[.pointer (some ⟨bs, 0, none⟩)]).newBlk 66 #[.pointer (some ⟨bs, 0, none⟩)]).drewN nq).newBlk 3 #[.int .i64 0]).newBlk 23 #[.pointer (some ⟨bs, 0, none⟩)]).newBlk 27 #[.slice A m c])
  generalize ((((((w.alloc (Obj.cells #[Value.pointer (some ⟨bs, 0, none⟩)] 23)).alloc (Obj.cells #[Value.pointer (some ⟨bs, 0, none⟩)] 66)).drewN nq).alloc (Obj.cells #[Value.int IntKind.i64 0] 3)).alloc (Obj.cells #[Value.pointer (some ⟨bs, 0, none⟩)] 23)).alloc (Obj.cells #[Value.slice A m c] 27)) = Wl at hst ⊢
  simp only [World.size_alloc, show ∀ (W : World) (n : Nat), (W.drewN n).heap = W.heap from fun _ _ => rfl] at hst
  clear HC q4 q9 p4 p7 p8 p9 r0 r1 q0 HS
  refine (wpIn_wide (n := 5)).1 ?_
  refine wpIn_rangeFunc_here rfl (fun h => by cases h) trivial rfl (enters_of Try.func32 (by kernel_rfl) rfl) ?_
  intro rec W1 hst1 hpd1 e1 e2 e3 e4 hW1
  have h7 := (hst.newObj (.deferred (some []))).newObj (.loop rec)
  rw [← hW1] at h7
  rw [World.size_alloc] at h7
  clear hst
  obtain ⟨l, el'⟩ : ∃ l, l = Wl.heap.size + 1 := ⟨_, rfl⟩
  have hT : TW w0 W1 l Wl.heap.size w.heap.size bs 0 rec z N (A, c) 0 0 ⟨psh n z xs ⟨false, raw, fi, el⟩ 0, ra, n, z⟩ (.slice (some ⟨g, off, none⟩) (n * z) cp, t2) S := by
    rw [el']
    unfold TW vcut
    rw [Nat.sub_zero, ← EM.out]
    simpa [psh, cutN] using h7
  clear h7 hW1
  rw [← el']
  obtain ⟨rx, erx⟩ : ∃ rx : Loop, rx = { rec with state := .done, pending := some (.exit 1) } := ⟨_, rfl⟩
  have hY : ∀ j W, j < N → (j + ml ≤ n ∧ TW w0 W l Wl.heap.size w.heap.size bs 0 rec z N (A, c) j j ⟨psh n z xs ⟨false, raw, fi, el⟩ j, ra, n, z⟩ (.slice (some ⟨g, off, none⟩) (n * z) cp, t2) S) → YieldAt Fence.wide (5 - 1 - 1) Try.prog l #[.slice (cutN z (A, c) j).1 z (cutN z (A, c) j).2] W fun e W' => ∃ b, e = .returned (.bool b) ∧ (if b then (j + 1 + ml ≤ n ∧ TW w0 W' l Wl.heap.size w.heap.size bs 0 rec z N (A, c) j (j + 1) ⟨psh n z xs ⟨false, raw, fi, el⟩ (j + 1), ra, n, z⟩ (.slice (some ⟨g, off, none⟩) (n * z) cp, t2) S) else (∃ j, j < N ∧ j + ml = n ∧ TW w0 W' l Wl.heap.size w.heap.size bs 0 rx z N (A, c) j j ⟨psh n z xs ⟨false, raw, fi, el⟩ j, ra, n, z⟩ (.slice (some ⟨g, off, none⟩) (n * z) cp, t2) S)) := by
    rintro j W hj ⟨hjl, hW⟩
    have hWs := hW
    unfold TW at hWs
    have hl := hWs.obj 0 rfl
    refine yield_here hl (by rw [e1]; rfl) hst1 ?_
    rw [e1, e2, e3, e4]
    have hb := hWs.setObj 0 rfl (.loop { rec with state := .busy })
    have HBg := Lib.hid (run_beginRound (P := Try.prog) hl hst1)
    generalize W.putObj l (.loop { rec with state := .busy }) = Wb at hb HBg
    have HB := Lib.hid hb
    have HSt := Lib.hid hst1
    have ERX := Lib.hid erx
    have HPd := Lib.hid hpd1
    clear hT hW hWs hb e1 e2 e3 e4 hst1 hpd1 erx el'
    obtain ⟨R, eR⟩ : ∃ R, R = psh n z xs ⟨false, raw, fi, el⟩ j := ⟨_, rfl⟩
    have hRk : RingOk n z R := by
      rw [eR]
      exact psh_ok HX.out HR.out rfl j (by omega) (by show el.length + j ≤ n; rw [← EL.out]; omega)
    have hRc : R.cl = false := by rw [eR, psh_cl]
    have hRf : R.fi = fi := by rw [eR, psh_fi]
    have hRe : R.el.length = ml + j := by rw [eR, psh_el, EL.out]; simp
    have hRr : R.raw.length = n * z := (hRk.2.2.2.2 hRc).1
    rw [← eR] at HB
    simp only [List.set_cons_zero] at HB
    have q7 := (HB.out.blk 7 rfl).cellv (i := 3) rfl
    have q8 := (HB.out.blk 7 rfl).cellv (i := 8) rfl
    have c9 := (HB.out.blk 5 rfl).cellv (i := 0) rfl
    have c3 := (HB.out.blk 6 rfl).cellv (i := 0) rfl
    have c10 := (HB.out.blk 4 rfl).cellv (i := 0) rfl
    have f10 := (HB.out.blk 4 rfl).frozen 0
    have f7 := (HB.out.blk 7 rfl).frozen 3
    replace q7 : Wb.cell? ⟨bs, 3, none⟩ = some (.int .i64 (ml + j : Nat)) := by
      rw [q7, ← hRe]
      rfl
    replace q8 : Wb.cell? ⟨bs, 8, none⟩ = some (.int .i64 n) := q8
    have hRj := Lib.hid eR
    have HRK := Lib.hid hRk
    have HRE := hRe
    clear hRe
    have HRR := Lib.hid hRr
    have HRF := Lib.hid hRf
    clear eR hRk hRr hRc hRf
    obtain ⟨q, hqe⟩ : ∃ q, q = ml + j := ⟨_, rfl⟩
    have hqn : q ≤ n := by omega
    have HQ := Lib.hid hqe
    rw [← hqe] at q7 HRE
    replace HRE := Lib.hid HRE
    clear hqe
    gi_wp2
    refine ⟨_, HBg.out, ?_⟩
    gi_wp2
    obtain ⟨qb, eqb⟩ : ∃ qb, qb = ((q : Int) == n) := ⟨_, rfl⟩
    have eqb2 : ((q : Int) == n) = qb := eqb.symm
    have EQB := Lib.hid eqb
    clear eqb
    refine region_round_quiet (by kernel_rfl) (by kernel_rfl) (fun ⟨_, _, h⟩ => h) (by kernel_rfl) ?_
    repeat (quiet_step (fail))
    refine wpQuiet_nil ?_
    intro _ hw'
    obtain ⟨nq, hw''⟩ := hw'
    subst hw''
    have HD := Lib.hid (HB.out.drewN nq)
    generalize Wb.drewN nq = V at HD ⊢
    clear q7 q8 c9 c3 c10 f10 f7
    · cases qb
      · have hqn2 : q ≠ n := by
          intro e
          have := EQB.out
          simp [e] at this
        gi_wp2
        have q5 := ((star_dr HD.out).blk 7 rfl).cellv (i := 1) rfl
        have q6 : V.drew.cell? ⟨bs, 2, none⟩ = some (.int .i64 R.fi) := ((star_dr HD.out).blk 7 rfl).cellv (i := 2) rfl
        have q8 := ((star_dr HD.out).blk 7 rfl).cellv (i := 8) rfl
        have q9 := ((star_dr HD.out).blk 7 rfl).cellv (i := 9) rfl
        have HAT := Lib.hid (at_core (w := V.drew) (r := 0) q kk q5 q6 q8 q9 HP.out hkk hz2 hz rfl hcp (by have := HRK.out.2.1; omega) (by omega))
        have HCP : Hid (∀ W, Star w0 W (ObjA l (.loop { rec with state := .busy }) :: ObjA Wl.heap.size (.deferred (some [])) :: BlkA (w.heap.size + 1 + 1 + 1 + 1) 27 #[vcut z N (A, c) j] :: BlkA (w.heap.size + 1 + 1 + 1) 23 #[.pointer (some ⟨bs, 0, none⟩)] :: BlkA (w.heap.size + 1 + 1) 3 #[.int .i64 j] :: BlkA (w.heap.size + 1) 66 #[.pointer (some ⟨bs, 0, none⟩)] :: BlkA w.heap.size 23 #[.pointer (some ⟨bs, 0, none⟩)] :: (ff bs ⟨R, ra, n, z⟩ (.slice (some ⟨g, off, none⟩) (n * z) cp, t2) ++ S)) →
            ∃ w', (Builtin.copy_ #[27, 27] 3 #[.slice (some ⟨g, off + (R.fi + q) % n * z, none⟩) z z, .slice (cutN z (A, c) j).1 z (cutN z (A, c) j).2]).run Try.prog W = .ok (goInt z) w' ∧
              Star w0 w' (ObjA l (.loop { rec with state := .busy }) :: ObjA Wl.heap.size (.deferred (some [])) :: BlkA (w.heap.size + 1 + 1 + 1 + 1) 27 #[vcut z N (A, c) j] :: BlkA (w.heap.size + 1 + 1 + 1) 23 #[.pointer (some ⟨bs, 0, none⟩)] :: BlkA (w.heap.size + 1 + 1) 3 #[.int .i64 j] :: BlkA (w.heap.size + 1) 66 #[.pointer (some ⟨bs, 0, none⟩)] :: BlkA w.heap.size 23 #[.pointer (some ⟨bs, 0, none⟩)] ::
                BlkA bs 65 (ffC ⟨R, ra, n, z⟩ (.slice (some ⟨g, off, none⟩) (n * z) cp, t2)) :: RowO 5 1 (.slice (some ⟨g, off, none⟩) (n * z) cp) (n * z) (byV (splice R.raw ((R.fi + q) % n * z) (chunk xs z j))) :: RowO 5 1 t2 ra.raw.length (byV ra.raw) :: S)) := Lib.hid (by
          intro W hW
          obtain ⟨F, hF, -⟩ := hW.of (k + 10) (by simpa using HK.out)
          obtain ⟨B, hB⟩ := HRD.out F W hF
          have hm1 : z ≤ (N - j) * z := Nat.le_mul_of_pos_left z (by omega)
          have hr := rd_head (cut_rd (x := (A, c)) hB (by show N * z ≤ c; rw [← EM.out]; exact hmc) j (by omega)) hm1
          rw [byV_chunk] at hr
          have hW2 : Star w0 W (ObjA l (.loop { rec with state := .busy }) :: ObjA Wl.heap.size (.deferred (some [])) :: BlkA (w.heap.size + 1 + 1 + 1 + 1) 27 #[vcut z N (A, c) j] :: BlkA (w.heap.size + 1 + 1 + 1) 23 #[.pointer (some ⟨bs, 0, none⟩)] :: BlkA (w.heap.size + 1 + 1) 3 #[.int .i64 j] :: BlkA (w.heap.size + 1) 66 #[.pointer (some ⟨bs, 0, none⟩)] :: BlkA w.heap.size 23 #[.pointer (some ⟨bs, 0, none⟩)] ::
                BlkA bs 65 (ffC ⟨R, ra, n, z⟩ (.slice (some ⟨g, off, none⟩) (n * z) cp, t2)) :: RowO 5 1 (.slice (some ⟨g, off, none⟩) (n * z) cp) (n * z) (byV R.raw) :: RowO 5 1 t2 ra.raw.length (byV ra.raw) :: S) := by
            rw [← HRR.out]
            rw [← HRR.out] at hW
            exact hW
          have hs := slot_in ((R.fi + q) % n) n z (Nat.mod_lt _ (by omega))
          obtain ⟨w', h1, h2⟩ := run_copy_so (P := Try.prog) 27 27 3 5 Try.underlying27 (by kernel_rfl) hW2 8 rfl z z ((R.fi + q) % n * z) _ _ _ _ _ hr (Nat.le_refl _) (by omega) (by omega) (byV_one _)
          rw [← byV_splice] at h2
          exact ⟨w', h1, h2⟩)
        clear q5 q6 q8 q9
        have c9 := (HD.out.blk 5 rfl).cellv (i := 0) rfl
        have c3 := (HD.out.blk 6 rfl).cellv (i := 0) rfl
        have q7 : V.cell? ⟨bs, 3, none⟩ = some (.int .i64 q) := by
          have := (HD.out.blk 7 rfl).cellv (i := 3) rfl
          rw [this, ← HRE.out]
          rfl
        have hS0 : V.drew.cell? ⟨w.heap.size, 0, none⟩ = some (.pointer (some ⟨bs, 0, none⟩)) ∧ V.drew.cell? ⟨w.heap.size + 1, 0, none⟩ = some (.pointer (some ⟨bs, 0, none⟩)) ∧ V.drew.cell? ⟨bs, 3, none⟩ = some (.int .i64 q) := ⟨c3, c9, q7⟩
        refine region_round_held (fun W => W.cell? ⟨w.heap.size, 0, none⟩ = some (.pointer (some ⟨bs, 0, none⟩)) ∧ W.cell? ⟨w.heap.size + 1, 0, none⟩ = some (.pointer (some ⟨bs, 0, none⟩)) ∧ W.cell? ⟨bs, 3, none⟩ = some (.int .i64 q)) (by kernel_rfl) (by kernel_rfl) (fun ⟨_, _, h⟩ => h) ?_
        refine wpAnyH_take (i := 0) (v := .pointer (some ⟨bs, 0, none⟩)) rfl (by kernel_rfl) (by kernel_rfl) (by kernel_rfl) (fun _ _ _ h => h) (Or.inl ⟨by rfl, fun W ⟨s1, s2, s3⟩ => by go_simp⟩) hS0 ?_
        simp only [Act.put, List.setIfInBounds_toArray, List.set_cons_zero, List.set_cons_succ]
        refine wpAnyH_take (i := 1) (v := .pointer (some ⟨bs, 0, none⟩)) rfl (by kernel_rfl) (by kernel_rfl) (by kernel_rfl) (fun _ _ _ h => h) (Or.inl ⟨by rfl, fun W ⟨s1, s2, s3⟩ => by go_simp⟩) hS0 ?_
        simp only [Act.put, List.setIfInBounds_toArray, List.set_cons_zero, List.set_cons_succ]
        refine wpAnyH_take (i := 2) (v := .pointer (some ⟨bs, 0, none⟩)) rfl (by kernel_rfl) (by kernel_rfl) (by kernel_rfl) (fun _ _ _ h => h) (Or.inl ⟨by rfl, fun W ⟨s1, s2, s3⟩ => by go_simp⟩) hS0 ?_
        simp only [Act.put, List.setIfInBounds_toArray, List.set_cons_zero, List.set_cons_succ]
        refine wpAnyH_take (i := 3) (v := .pointer (some ⟨bs, 0, none⟩)) rfl (by kernel_rfl) (by kernel_rfl) (by kernel_rfl) (fun _ _ _ h => h) (Or.inl ⟨by rfl, fun W ⟨s1, s2, s3⟩ => by go_simp⟩) hS0 ?_
        simp only [Act.put, List.setIfInBounds_toArray, List.set_cons_zero, List.set_cons_succ]
        refine wpAnyH_take (i := 4) (v := .pointer (some ⟨bs, 3, none⟩)) rfl (by kernel_rfl) (by kernel_rfl) (by kernel_rfl) (fun _ _ _ h => h) (Or.inl ⟨by rfl, fun W ⟨s1, s2, s3⟩ => by go_simp⟩) hS0 ?_
        simp only [Act.put, List.setIfInBounds_toArray, List.set_cons_zero, List.set_cons_succ]
        refine wpAnyH_take (i := 5) (v := .int .i64 q) rfl (by kernel_rfl) (by kernel_rfl) (by kernel_rfl) (fun _ _ _ h => h) (Or.inl ⟨by rfl, fun W ⟨s1, s2, s3⟩ => by go_simp⟩) hS0 ?_
        simp only [Act.put, List.setIfInBounds_toArray, List.set_cons_zero, List.set_cons_succ]
        refine wpAnyH_take (i := 7) (v := .slice (cutN z (A, c) j).1 z (cutN z (A, c) j).2) rfl (by kernel_rfl) (by kernel_rfl) (by kernel_rfl) (fun _ _ _ h => h) (Or.inl ⟨by rfl, fun W ⟨s1, s2, s3⟩ => by go_simp⟩) hS0 ?_
        simp only [Act.put, List.setIfInBounds_toArray, List.set_cons_zero, List.set_cons_succ]
        refine wpAnyH_ready (rs := [6]) (by kernel_rfl) (by simp) (AllReadyH.cons rfl (fun K hK => ?_) AllReadyH.nil)
        go_simp
        go_at_call 27
        with_reducible refine HAT.out.mono ?_
        rintro e w2 ⟨rfl, d, rfl⟩
        obtain ⟨w3, hcp3, hs3⟩ := HCP.out _ ((star_dr HD.out).drewN d)
        have HS3 := Lib.hid hs3
        have hS3 : w3.cell? ⟨w.heap.size, 0, none⟩ = some (.pointer (some ⟨bs, 0, none⟩)) ∧ w3.cell? ⟨w.heap.size + 1, 0, none⟩ = some (.pointer (some ⟨bs, 0, none⟩)) ∧ w3.cell? ⟨bs, 3, none⟩ = some (.int .i64 q) := ⟨(hs3.blk 6 rfl).cellv (i := 0) rfl, (hs3.blk 5 rfl).cellv (i := 0) rfl, by
          have := (hs3.blk 7 rfl).cellv (i := 3) rfl
          rw [this, ← HRE.out]
          rfl⟩
        clear hs3
        refine hK _ _ hS0 (fun hS1 => ?_)
        clear hK K hS1
        simp only [Act.put, List.setIfInBounds_toArray, List.set_cons_zero, List.set_cons_succ]
        refine wpAnyH_ready (rs := [8]) (by kernel_rfl) (by simp) (AllReadyH.cons rfl (fun K hK => ?_) AllReadyH.nil)
        generalize V.drew.drewN d = V2 at hcp3 ⊢
        go_simp
        refine hK _ _ hS3 (fun _ => ?_)
        clear hK K hcp3
        refine wpAnyH_done (by kernel_rfl) ?_ _
        have r7 := hS3.2.2
        have r9 := hS3.2.1
        have r10 := (HS3.out.blk 4 rfl).cellv (i := 0) rfl
        have f10 := (HS3.out.blk 4 rfl).frozen 0
        have f7 := (HS3.out.blk 7 rfl).frozen 3
        have qz : (q : Int) ≤ 1024 := by omega
        have jz : (j : Int) ≤ 1024 := by omega
        have hA1 := (HS3.out.setBlk 7 rfl 3 (.int .i64 ((q : Int) + 1)))
        have r10b : (w3.setCell ⟨bs, 3, none⟩ (.int .i64 ((q : Int) + 1))).cell? ⟨w.heap.size + 1 + 1, 0, none⟩ = some (.int .i64 j) := (hA1.blk 4 rfl).cellv (i := 0) rfl
        have HA2 := Lib.hid (hA1.setBlk 4 rfl 0 (.int .i64 ((j : Int) + 1)))
        clear hA1 hS3 hS0
        gi_wp2
        refine ⟨_, _, run_endRound none (HA2.out.obj 0 rfl), .inr ⟨rfl, by have := HQ.out; have := hqn2; omega, ?_⟩⟩
        have hB1 := HA2.out.setObj 0 rfl (.loop rec)
        rw [rec_back HSt.out HPd.out]
        unfold TW
        rw [show psh n z xs ⟨false, raw, fi, el⟩ (j + 1) = pushR n z R (chunk xs z j) by rw [hRj.out]; rfl]
        exact push_star2 [_, _, _, _, _, _, _] hB1 HRE.out HRR.out (chunk_len HX.out hj) (by omega)
      · gi_wp2
        refine ⟨_, _, run_endRound _ (HD.out.obj 0 rfl), false, rfl, ?_⟩
        rw [if_neg (by decide)]
        refine ⟨j, hj, ?_, ?_⟩
        · have h1 := EQB.out.symm
          have h2 := HQ.out
          simp at h1
          omega
        · unfold TW
          rw [← hRj.out, ERX.out]
          exact HD.out.setObj 0 rfl _
  have hA : ∀ j W, (j + ml ≤ n ∧ TW w0 W l Wl.heap.size w.heap.size bs 0 rec z N (A, c) j j ⟨psh n z xs ⟨false, raw, fi, el⟩ j, ra, n, z⟩ (.slice (some ⟨g, off, none⟩) (n * z) cp, t2) S) → W.cell? ⟨w.heap.size + 1 + 1 + 1 + 1, 0, none⟩ = some (vcut z N (A, c) j) ∧ W.cell? ⟨w.heap.size + 1 + 1 + 1, 0, none⟩ = some (.pointer (some ⟨bs, 0, none⟩)) ∧ W.cell? ⟨bs, 9, none⟩ = some (.int .i64 z) := fun j W hW => by
    have h := hW.2
    unfold TW at h
    exact ⟨(h.blk 2 rfl).cellv (i := 0) rfl, (h.blk 3 rfl).cellv (i := 0) rfl, (h.blk 7 rfl).cellv (i := 9) rfl⟩
  have hB : ∀ j W, (j + 1 + ml ≤ n ∧ TW w0 W l Wl.heap.size w.heap.size bs 0 rec z N (A, c) j (j + 1) ⟨psh n z xs ⟨false, raw, fi, el⟩ (j + 1), ra, n, z⟩ (.slice (some ⟨g, off, none⟩) (n * z) cp, t2) S) → W.cell? ⟨w.heap.size + 1 + 1 + 1 + 1, 0, none⟩ = some (vcut z N (A, c) j) ∧ W.cell? ⟨w.heap.size + 1 + 1 + 1, 0, none⟩ = some (.pointer (some ⟨bs, 0, none⟩)) ∧ W.cell? ⟨bs, 9, none⟩ = some (.int .i64 z) ∧ W.frozen? ⟨w.heap.size + 1 + 1 + 1 + 1, 0, none⟩ = false := fun j W hW => by
    have h := hW.2
    unfold TW at h
    exact ⟨(h.blk 2 rfl).cellv (i := 0) rfl, (h.blk 3 rfl).cellv (i := 0) rfl, (h.blk 7 rfl).cellv (i := 9) rfl, (h.blk 2 rfl).frozen 0⟩
  have hA0 := it_in (5 - 1) l (w.heap.size + 1 + 1 + 1 + 1) (w.heap.size + 1 + 1 + 1) bs z N (A, c) hz hz2 (by rw [← EM.out]; exact hmc) hcm _ _ _ hA hB
    (fun j W d hW => ⟨hW.1, by have h := hW.2; unfold TW at h ⊢; exact h.drewN d⟩)
    (fun j W hW => ⟨by have := hW.1; omega, by have h := hW.2; unfold TW at h ⊢; exact h.setBlk 2 rfl 0 _⟩)
    (fun j W d hW => ⟨hW.1, by have h := hW.2; unfold TW at h ⊢; exact h.drewN d⟩) hY W1 ⟨by omega, hT⟩
  clear hA hB hY hT
  simp only [List.append_toArray, List.cons_append, List.nil_append]
  refine hA0.mono ?_
  rintro e W2 ⟨⟨v, rfl⟩, (⟨hjl, hW⟩ | ⟨j, hj, hjl, hW⟩)⟩
  · have hW' := hW
    unfold TW at hW'
    have hend : (Instr.endLoop l).run Try.prog W2 = .ok none (W2.putObj l (.loop { rec with state := .exhausted })) := by
      rw [run_endLoop (P := Try.prog) (hW'.obj 0 rfl) (by rw [hst1]; simp), hpd1]
    have h8 := hW'.setObj 0 rfl (.loop { rec with state := .exhausted })
    generalize W2.putObj l (.loop { rec with state := .exhausted }) = W4 at hend h8
    refine ⟨_, W4, hend, ?_⟩
    have r10 := (h8.blk 4 rfl).cellv (i := 0) rfl
    have hd := h8.obj 1 rfl
    have H8 := Lib.hid h8
    clear hA0 hW hW' h8 hend e1 e2 e3 e4 hst1 hpd1
    simp only [Exit.inBlock, Exit.then]
    go_wp2
    refine ⟨by simp, .inl ⟨_, _, rfl, run_takeDeferred hd, ?_⟩⟩
    refine ⟨_, results_tmp2 rfl _ _ _, N, by omega, rfl, ?_⟩
    exact (H8.out.setObj 1 rfl _).tail.tail.tail.tail.tail.tail.tail
  · have hW' := hW
    unfold TW at hW'
    have hend : (Instr.endLoop l).run Try.prog W2 = .ok (some (.exit 1)) (W2.putObj l (.loop { rx with state := .exhausted })) := by
      rw [run_endLoop (P := Try.prog) (hW'.obj 0 rfl) (by rw [erx]; simp), show rx.pending = some (.exit 1) by rw [erx]]
    have h8 := hW'.setObj 0 rfl (.loop { rx with state := .exhausted })
    generalize W2.putObj l (.loop { rx with state := .exhausted }) = W4 at hend h8
    refine ⟨_, W4, hend, ?_⟩
    have r10 := (h8.blk 4 rfl).cellv (i := 0) rfl
    have hd := h8.obj 1 rfl
    have H8 := Lib.hid h8
    clear hA0 hW hW' h8 hend e1 e2 e3 e4 hst1 hpd1
    clear erx
    gi_wp2
    go_wp2
    refine ⟨by simp, .inl ⟨_, _, rfl, run_takeDeferred hd, ?_⟩⟩
    refine ⟨_, results_tmp2 rfl _ _ _, j, by omega, rfl, ?_⟩
    exact (H8.out.setObj 1 rfl _).tail.tail.tail.tail.tail.tail.tail
end
end Go.Proofs.Ytaiggfoeobehlaa.Ff
