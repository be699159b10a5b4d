/- The port's reference: Take, Tell. -/
import Derived.Test.YtjkgkoilabbdgaaPtR1
import Derived.Deep.LoopGhost
namespace Go.Proofs.Ytjkgkoilabbdgaa.Pt
open Go Go.RowKit Go.Proofs.Ytjkgkoilabbdgaa.Mem
set_option linter.unusedVariables false
set_option linter.unusedSimpArgs false
section
variable {w0 w : World} {S : List Asr} {bs : Nat} {s : Po} {t : Value × Value}
set_option maxHeartbeats 4000000 in
theorem take_ref (h : Star w0 w (rp bs s t ++ S)) (hq : s.q.length ≤ 1000) : Calls Try.prog 21 #[.pointer (some ⟨bs, 0, none⟩)] w fun r w' => r = .returned (.tuple #[t3G (takeS s).1, .int .i64 (takeS s).2.1]) ∧ ∃ t', Star w0 w' (rp bs (takeS s).2.2 t' ++ S) := by
  obtain ⟨t0, t2⟩ := t
  obtain ⟨⟨A, c, rfl⟩, -⟩ := rp_rows h
  obtain ⟨q, ws, d, m⟩ := s
  cases q with
  | nil =>
    have hb := (h.newBlk 52 #[.int .i64 0, .int .i64 0, .int .i64 0])
    have k0 : (w.alloc (.cells #[.int .i64 0, .int .i64 0, .int .i64 0] 52)).cell? ⟨bs, 0, none⟩ = some (.slice A 0 c) := (hb.blk 1 rfl).cellv (i := 0) rfl
    have c0 : (w.alloc (.cells #[.int .i64 0, .int .i64 0, .int .i64 0] 52)).cell? ⟨w.heap.size, 0, none⟩ = some (.int .i64 0) := (hb.blk 0 rfl).cellv (i := 0) rfl
    have HS := Lib.hid hb
    unfold takeS t3G
    clear h hb
    go_enter Try.func21, Try.ntmps21
    go_wp2
    (try simp only [Exit.inBlock, Exit.then])
    exact bodyPost_ret (results_agg_tmp rfl _ _ w.heap.size 52 #[.int .i64 0, .int .i64 0, .int .i64 0] (0, 0) _ rfl (HS.out.blk 0 rfl).heap u52 rfl (by rw [i52]; rfl)) rfl ⟨rfl, .slice A 0 c, t2, HS.out.tail⟩
  | cons x q =>
    obtain ⟨a, b, c'⟩ := x
    obtain ⟨g, off, cap, hv, hbg, hgl, hnc⟩ := (h.rowO 1 rfl).form (by simp)
    simp only [Value.slice.injEq, true_and] at hv
    obtain ⟨rfl, rfl⟩ := hv
    simp only [List.length_cons] at hq hnc
    have h1 := h.newBlk 52 #[.int .i64 0, .int .i64 0, .int .i64 0]
    have k0 : (w.alloc (.cells #[.int .i64 0, .int .i64 0, .int .i64 0] 52)).cell? ⟨bs, 0, none⟩ = some (.slice (some ⟨g, off, none⟩) (q.length + 1) c) := (h1.blk 1 rfl).cellv (i := 0) rfl
    have ho1 := h1.rowO 2 rfl
    have r0 := ho1.cellAt 0 (by simp)
    have r1 := ho1.cellAt 1 (by simp; omega)
    have r2 := ho1.cellAt 2 (by simp; omega)
    have h2 := h1.newBlk 52 #[.int .i64 a, .int .i64 b, .int .i64 c']
    have k1 : ((w.alloc (.cells #[.int .i64 0, .int .i64 0, .int .i64 0] 52)).alloc (.cells #[.int .i64 a, .int .i64 b, .int .i64 c'] 52)).cell? ⟨bs, 0, none⟩ = some (.slice (some ⟨g, off, none⟩) (q.length + 1) c) := (h2.blk 2 rfl).cellv (i := 0) rfl
    have k2 := (h2.blk 2 rfl).frozen 0
    obtain ⟨n, en⟩ : ∃ n, n = q.length := ⟨_, rfl⟩
    have EN := Lib.hid en
    have hdr : (t3V (⟨a, b, c'⟩ :: q)).drop (1 * 3) = t3V q := by rw [t3V_drop _ 1 (by simp), List.drop_one, List.tail_cons]
    obtain ⟨A9, hA9, H9⟩ : ∃ A9 : Option Addr, (if c = 1 then (some ⟨g, off, none⟩ : Option Addr) else some ⟨g, off + 3, none⟩) = A9 ∧ Hid (Star w0 (((w.alloc (.cells #[.int .i64 0, .int .i64 0, .int .i64 0] 52)).alloc (.cells #[.int .i64 a, .int .i64 b, .int .i64 c'] 52)).setCell ⟨bs, 0, none⟩ (.slice A9 n (c - 1))) (BlkA (w.heap.size + 1) 52 #[.int .i64 a, .int .i64 b, .int .i64 c'] :: BlkA w.heap.size 52 #[.int .i64 0, .int .i64 0, .int .i64 0] :: rp bs ⟨q, ws, d, m⟩ (.slice A9 n (c - 1), t2) ++ S)) := by
      refine ⟨_, rfl, Lib.hid ?_⟩
      have h3 := h2.cutO 3 rfl (k := 1) (by simp)
      simp only [List.set_cons_zero, List.set_cons_succ] at h3
      have h4 := h3.setBlk 2 rfl 0 (.slice (if c = 1 then (some ⟨g, off, none⟩ : Option Addr) else some ⟨g, off + 3, none⟩) n (c - 1))
      simp only [List.set_cons_zero, List.set_cons_succ] at h4
      have e3 : (w.alloc (.cells #[.int .i64 0, .int .i64 0, .int .i64 0] 52)).heap.size = w.heap.size + 1 := by show (w.heap.push _).size = _; simp
      rw [hdr, e3] at h4
      have e4 : ((if c = 1 then (some ⟨g, off, none⟩ : Option Addr) else (some (⟨g, off, none⟩ : Addr)).map (·.add (1 * 3)))) = (if c = 1 then (some ⟨g, off, none⟩ : Option Addr) else some ⟨g, off + 3, none⟩) := by
        by_cases hc : c = 1
        · rw [if_pos hc, if_pos hc]
        · rw [if_neg hc, if_neg hc]
          simp [Addr.add_lit]
      rw [e4] at h4
      simp only [List.length_cons, Nat.add_sub_cancel] at h4
      rw [← en] at h4
      show Star w0 _ (BlkA (w.heap.size + 1) 52 #[.int .i64 a, .int .i64 b, .int .i64 c'] :: BlkA w.heap.size 52 #[.int .i64 0, .int .i64 0, .int .i64 0] :: BlkA bs 50 (rpC ⟨q, ws, d, m⟩ (.slice (if c = 1 then (some ⟨g, off, none⟩ : Option Addr) else some ⟨g, off + 3, none⟩) n (c - 1), t2)) :: RowO 52 3 (.slice (if c = 1 then (some ⟨g, off, none⟩ : Option Addr) else some ⟨g, off + 3, none⟩) n (c - 1)) q.length (t3V q) :: RowO 58 3 t2 ws.length (t3V ws) :: S)
      rw [← en]
      exact h4
    rw [← en] at k0 k1 hnc
    have e0 : (t3V (⟨a, b, c'⟩ :: q))[0]? = some (.int .i64 a) := rfl
    have e1 : (t3V (⟨a, b, c'⟩ :: q))[1]? = some (.int .i64 b) := rfl
    have e2 : (t3V (⟨a, b, c'⟩ :: q))[2]? = some (.int .i64 c') := rfl
    rw [e0] at r0
    rw [e1] at r1
    rw [e2] at r2
    rw [Nat.add_zero] at r0
    have n1 : (0 : Int) < (n : Int) + 1 := by omega
    have n2 : ¬ ((n : Int) + 1 = 0) := by omega
    have n3 : (1 : Int) ≤ (n : Int) + 1 := by omega
    have n4 : 1 ≤ n + 1 := by omega
    have n5 : 1 ≤ c := by omega
    have hqn : (n : Int) ≤ 1000 := by omega
    have p0 := (H9.out.blk 0 rfl).cellv (i := 0) rfl
    have p1 := (H9.out.blk 0 rfl).cellv (i := 1) rfl
    have p2 := (H9.out.blk 0 rfl).cellv (i := 2) rfl
    have f0 := (H9.out.blk 1 rfl).frozen 0
    have f1 := (H9.out.blk 1 rfl).frozen 1
    have f2 := (H9.out.blk 1 rfl).frozen 2
    have g0 := (H9.out.blk 1 rfl).cellv (i := 0) rfl
    have g1 := (H9.out.blk 1 rfl).cellv (i := 1) rfl
    have g2 := (H9.out.blk 1 rfl).cellv (i := 2) rfl
    unfold takeS t3G
    simp only
    clear h h1 h2 ho1 en hq e0 e1 e2 hdr
    go_enter Try.func21, Try.ntmps21
    go_wp2
    (try simp only [Exit.inBlock, Exit.then])
    have h1 := H9.out.setBlk 1 rfl 0 (.int .i64 a)
    have h2 := h1.setBlk 1 rfl 1 (.int .i64 b)
    have h3 := h2.setBlk 1 rfl 2 (.int .i64 c')
    refine bodyPost_ret (results_agg_tmp rfl _ _ w.heap.size 52 #[.int .i64 a, .int .i64 b, .int .i64 c'] (0, 0) _ rfl (h3.blk 1 rfl).heap u52 rfl (by rw [i52]; rfl)) rfl ⟨rfl, (.slice A9 n (c - 1), t2), ?_⟩
    exact h3.tail.tail
theorem and_comm64 (x y : Int) : bits .and .i64 x y = bits .and .i64 y x := by
  show IntKind.i64.wrap ((BitVec.ofInt 64 x &&& BitVec.ofInt 64 y).toNat : Int) = IntKind.i64.wrap ((BitVec.ofInt 64 y &&& BitVec.ofInt 64 x).toNat : Int)
  rw [BitVec.and_comm]
set_option maxHeartbeats 8000000 in
theorem tell_ref (h : Star w0 w (rp bs s t ++ S)) (hq : s.q.length + s.ws.length ≤ 1000) (ob sh : Int) : Calls Try.prog 24 #[.pointer (some ⟨bs, 0, none⟩), .int .i64 ob, .int .i64 sh] w fun r w' => r = .returned (.int .i64 (tellS s ob sh).1) ∧ ∃ t', Star w0 w' (rp bs (tellS s ob sh).2 t' ++ S) := by
  obtain ⟨t0, t2⟩ := t
  obtain ⟨⟨A0, c0, rfl⟩, ⟨A, c, rfl⟩⟩ := rp_rows h
  obtain ⟨n, en⟩ : ∃ n, n = s.ws.length := ⟨_, rfl⟩
  have EN := Lib.hid en
  have hs0 : Star w0 w (BlkA bs 50 #[.slice A0 s.q.length c0, .slice A s.ws.length c, .int .i64 s.d, .int .i64 s.m] :: RowO 52 3 (.slice A0 s.q.length c0) s.q.length (t3V s.q) :: RowO 58 3 (.slice A s.ws.length c) s.ws.length (t3V s.ws) :: RowO 58 3 (.slice none 0 0) 0 [] :: S) := ((((h.nilO 58 3).pick 3 rfl).pick 3 rfl).pick 3 rfl)
  rw [← en] at hs0 hq
  have HS0 := Lib.hid hs0
  have hn' : (n : Int) ≤ 1000 := by omega
  obtain ⟨i0, hi0, hz0, hz1, hz2⟩ := info_parts rk_info
  obtain ⟨j0, hj0, hy0, hy1, hy2⟩ := info_parts rw_info
  have HQ := Lib.hid hq
  clear h en hs0 hq
  go_enter Try.func24, Try.ntmps24
  go_wp2
  go_loopg [7, 8, 9] n (fun gg s7 s8 s9 wr => ∃ (k m n7 : Nat) (A1 A7 : Option Addr) (c1 c7 : Nat), k ≤ n ∧ n - k ≤ gg ∧ s9 = .int .i64 k ∧ s8 = .int .i64 m ∧ s7 = .slice A7 n7 c7 ∧ m ≤ k ∧ n7 ≤ k ∧ Hid (m = toldN s ob sh k) ∧ Hid (n7 = (nots (firesP ob sh) (s.ws.take k)).length) ∧
    Hid (Star w0 wr (BlkA bs 50 #[.slice A1 (toldQ s ob sh k).length c1, .slice A n c, .int .i64 s.d, .int .i64 s.m] :: RowO 52 3 (.slice A1 (toldQ s ob sh k).length c1) (toldQ s ob sh k).length (t3V (toldQ s ob sh k)) :: RowO 58 3 (.slice A n c) n (t3V s.ws) :: RowO 58 3 (.slice A7 n7 c7) n7 (t3V (nots (firesP ob sh) (s.ws.take k))) :: S)))
  case atStart =>
    refine ⟨0, 0, 0, A0, none, c0, 0, by omega, by omega, rfl, rfl, rfl, by omega, by omega, Lib.hid rfl, Lib.hid rfl, Lib.hid ?_⟩
    have e : toldQ s ob sh 0 = s.q := by simp [toldQ]
    rw [e]
    exact HS0.out
  case round =>
    clear HS0
    obtain ⟨k, m, n7, A1, A7, c1, c7, hk, hg, rfl, rfl, rfl, hmk, hnk, HM, HN7, HS⟩ := hrel
    have k1 : wr.cell? ⟨bs, 1, none⟩ = some (.slice A n c) := (HS.out.blk 0 rfl).cellv (i := 1) rfl
    by_cases hlt : k < n
    · have hltz : (k : Int) < (n : Int) := by omega
      obtain ⟨x, hx⟩ : ∃ x, s.ws[k]? = some x := ⟨_, List.getElem?_eq_getElem (by rw [← EN.out]; exact hlt)⟩
      obtain ⟨g, off, cp, hv, hbg, hgl, hnc⟩ := (HS.out.rowO 2 rfl).form (by omega)
      simp only [Value.slice.injEq, true_and] at hv
      obtain ⟨rfl, rfl⟩ := hv
      obtain ⟨r0, r1, r2⟩ := at3 (HS.out.rowO 2 rfl) EN.out hx
      have hb := HS.out.newBlk 58 #[.int .i64 x.a, .int .i64 x.b, .int .i64 x.c]
      have x1 : (wr.alloc (.cells #[.int .i64 x.a, .int .i64 x.b, .int .i64 x.c] 58)).cell? ⟨wr.heap.size, 1, none⟩ = some (.int .i64 x.b) := (hb.blk 0 rfl).cellv (i := 1) rfl
      have HB := Lib.hid hb
      obtain ⟨et1, et2⟩ := told_step (ob := ob) (sh := sh) hx
      have et3 := nots_step (p := firesP ob sh) hx
      have hql := toldQ_len s ob sh k
      have hqq := HQ.out
      rw [← EN.out] at hql
      obtain ⟨q1, eq1⟩ : ∃ q1, q1 = (toldQ s ob sh k).length := ⟨_, rfl⟩
      have EQ1 := Lib.hid eq1
      rw [← eq1] at HB hql
      have hq1 : q1 ≤ 1000 := by omega
      have k0 : (wr.alloc (.cells #[.int .i64 x.a, .int .i64 x.b, .int .i64 x.c] 58)).cell? ⟨bs, 0, none⟩ = some (.slice A1 q1 c1) := (HB.out.blk 1 rfl).cellv (i := 0) rfl
      have hmz : (m : Int) ≤ 1000 := by omega
      have h1x := t3V_one [x]
      have hx1 : t3V [x] = [.int .i64 x.a, .int .i64 x.b, .int .i64 x.c] := rfl
      have hx2 := t3V_one [⟨x.b, ob, sh⟩]
      have hx3 : t3V [⟨x.b, ob, sh⟩] = [.int .i64 x.b, .int .i64 ob, .int .i64 sh] := rfl
      rw [hx1] at h1x
      rw [hx3] at hx2
      have ef : firesP ob sh x = (x.a == ob && bits .and .i64 x.c sh != 0) := by unfold firesP; rw [and_comm64]
      rw [ef] at et1 et2 et3
      have k0b : ((wr.alloc (.cells #[.int .i64 x.a, .int .i64 x.b, .int .i64 x.c] 58)).alloc (.cells #[.int .i64 x.b, .int .i64 ob, .int .i64 sh] 52)).cell? ⟨bs, 0, none⟩ = some (.slice A1 q1 c1) := ((HB.out.alloc _).blk 1 rfl).cellv (i := 0) rfl
      have x1b : ((wr.alloc (.cells #[.int .i64 x.a, .int .i64 x.b, .int .i64 x.c] 58)).alloc (.cells #[.int .i64 x.b, .int .i64 ob, .int .i64 sh] 52)).cell? ⟨wr.heap.size, 1, none⟩ = some (.int .i64 x.b) := ((HB.out.alloc _).blk 0 rfl).cellv (i := 1) rfl
      have HX := Lib.hid hx
      clear hx hx1 hx3 hql hqq eq1 hb ef
      by_cases ha : x.a = ob
      · have ha' : (x.a == ob) = true := beq_iff_eq.mpr ha
        by_cases hf : (bits .and .i64 x.c sh != 0) = true
        · rw [ha', hf] at et1 et2 et3
          simp only [Bool.and_self, if_true] at et1 et2 et3
          rw [List.append_nil] at et3
          have E1 := Lib.hid et1
          have E2 := Lib.hid et2
          have E3 := Lib.hid et3
          clear ha et1 et2 et3
          go_wp2
          go_region_law (first
            | (refine step_append_so (by rfl) (.tmp 42) (.tmp 48) 47 (by rfl) ((star_dr HB.out).alloc _) 2 rfl i0 _ 24 Try.underlying47 hi0 hz0 hz1 hz2 rfl (by omega) (by rfl) _ (some ⟨wr.heap.size + 1, 0, none⟩) 1 1 [.int .i64 x.b, .int .i64 ob, .int .i64 sh] (by rfl) (reads_fresh_at _ 52 [.int .i64 x.b, .int .i64 ob, .int .i64 sh] 1 3 (wr.heap.size + 1) rfl (by simp)) hx2 (by simp only [maxLen]; omega) (by omega) ?_
               intro v3 w3 hs3
               simp only [List.cons_append, List.nil_append, List.set_cons_zero, List.set_cons_succ] at hs3
               obtain ⟨A3, c3, rfl⟩ := (hs3.rowO 2 rfl).len
               have hs4 := hs3.setBlk 1 rfl 0 (.slice A3 (q1 + 1) c3)
               simp only [List.set_cons_zero, List.set_cons_succ] at hs4
               have HS4 := Lib.hid hs4
               have q3 : w3.cell? ⟨bs, 0, none⟩ = some (.slice A1 q1 c1) := (hs3.blk 1 rfl).cellv rfl
               have q4 := (hs3.blk 1 rfl).frozen 0
               clear hs3 hs4))
          all_goals
            go_wp2
            go_roundg (n - (k + 1))
            case measure => omega
            case rel =>
              refine ⟨k + 1, m + 1, n7, A3, A7, c3, c7, by omega, by omega, by go_num, by go_num, rfl, by omega, by omega, Lib.hid (by rw [E2.out, ← HM.out]), Lib.hid (by rw [E3.out]; exact HN7.out), Lib.hid ?_⟩
              have h5 := HS4.out.tail
              rw [E1.out, E3.out, List.length_append, ← EQ1.out, t3V_app]
              exact h5
        · have hf' : (bits .and .i64 x.c sh != 0) = false := by simpa using hf
          rw [ha', hf'] at et1 et2 et3
          simp only [Bool.and_false, Bool.false_eq_true, if_false, List.append_nil, Nat.add_zero] at et1 et2 et3
          have E1 := Lib.hid et1
          have E2 := Lib.hid et2
          have E3 := Lib.hid et3
          have y0 : (wr.alloc (.cells #[.int .i64 x.a, .int .i64 x.b, .int .i64 x.c] 58)).cell? ⟨wr.heap.size, 0, none⟩ = some (.int .i64 x.a) := (HB.out.blk 0 rfl).cellv (i := 0) rfl
          clear ha et1 et2 et3 hf
          go_wp2_with (first
            | (at_builtin; refine wpList_append_so rfl (.tmp 54) (.tmp 56) 48 rfl (HB.out.alloc _) 4 rfl j0 _ 24 Try.underlying48 hj0 hy0 hy1 hy2 rfl (by omega) (by rfl) _ (some ⟨wr.heap.size + 1, 0, none⟩) 1 1 [.int .i64 x.a, .int .i64 x.b, .int .i64 x.c] (by rfl) (reads_fresh_at _ 58 [.int .i64 x.a, .int .i64 x.b, .int .i64 x.c] 1 3 (wr.heap.size + 1) rfl (by simp)) h1x (by simp only [maxLen]; omega) (by omega) ?_
               intro v3 w3 hs3
               simp only [List.cons_append, List.nil_append, List.set_cons_zero, List.set_cons_succ] at hs3
               obtain ⟨A3, c3, rfl⟩ := (hs3.rowO 4 rfl).len
               have HS4 := Lib.hid hs3
               clear hs3))
          go_roundg (n - (k + 1))
          case measure => omega
          case rel =>
            refine ⟨k + 1, m, n7 + 1, A1, A3, c1, c3, by omega, by omega, by go_num, rfl, rfl, by omega, by omega, Lib.hid (by rw [E2.out, ← HM.out]), Lib.hid (by rw [E3.out, List.length_append, ← HN7.out]; rfl), Lib.hid ?_⟩
            have h5 := HS4.out.tail
            rw [E1.out, E3.out, ← EQ1.out, t3V_app]
            exact h5
      · have ha' : (x.a == ob) = false := beq_eq_false_iff_ne.mpr ha
        rw [ha'] at et1 et2 et3
        simp only [Bool.false_and, Bool.false_eq_true, if_false, List.append_nil, Nat.add_zero] at et1 et2 et3
        have E1 := Lib.hid et1
        have E2 := Lib.hid et2
        have E3 := Lib.hid et3
        clear ha et1 et2 et3
        go_wp2_with (first
          | (at_builtin; refine wpList_append_so rfl (.tmp 54) (.tmp 56) 48 rfl (HB.out.alloc _) 4 rfl j0 _ 24 Try.underlying48 hj0 hy0 hy1 hy2 rfl (by omega) (by rfl) _ (some ⟨wr.heap.size + 1, 0, none⟩) 1 1 [.int .i64 x.a, .int .i64 x.b, .int .i64 x.c] (by rfl) (reads_fresh_at _ 58 [.int .i64 x.a, .int .i64 x.b, .int .i64 x.c] 1 3 (wr.heap.size + 1) rfl (by simp)) h1x (by simp only [maxLen]; omega) (by omega) ?_
             intro v3 w3 hs3
             simp only [List.cons_append, List.nil_append, List.set_cons_zero, List.set_cons_succ] at hs3
             obtain ⟨A3, c3, rfl⟩ := (hs3.rowO 4 rfl).len
             have HS4 := Lib.hid hs3
             clear hs3))
        go_roundg (n - (k + 1))
        case measure => omega
        case rel =>
          refine ⟨k + 1, m, n7 + 1, A1, A3, c1, c3, by omega, by omega, by go_num, rfl, rfl, by omega, by omega, Lib.hid (by rw [E2.out, ← HM.out]), Lib.hid (by rw [E3.out, List.length_append, ← HN7.out]; rfl), Lib.hid ?_⟩
          have h5 := HS4.out.tail
          rw [E1.out, E3.out, ← EQ1.out, t3V_app]
          exact h5
    · have hltz : ¬ (k : Int) < n := by omega
      obtain rfl : k = n := by omega
      have f1 := (HS.out.blk 0 rfl).frozen 1
      clear hlt
      go_wp2
      go_ret
      have e0 : s.ws.take k = s.ws := by rw [EN.out, List.take_length]
      refine ⟨by rw [HM.out, EN.out]; rfl, .slice A1 (toldQ s ob sh k).length c1, .slice A7 n7 c7, ?_⟩
      have h5 := HS.out.setBlk 0 rfl 1 (.slice A7 n7 c7)
      simp only [List.set_cons_zero] at h5
      have h6 : Star w0 (wr.setCell ⟨bs, 1, none⟩ (.slice A7 n7 c7)) (BlkA bs 50 #[.slice A1 (toldQ s ob sh k).length c1, .slice A7 n7 c7, .int .i64 s.d, .int .i64 s.m] :: RowO 52 3 (.slice A1 (toldQ s ob sh k).length c1) (toldQ s ob sh k).length (t3V (toldQ s ob sh k)) :: RowO 58 3 (.slice A7 n7 c7) n7 (t3V (nots (firesP ob sh) (s.ws.take k))) :: S) := (h5.pick 2 rfl).tail
      have e1 : (tellS s ob sh).2 = ⟨toldQ s ob sh k, nots (firesP ob sh) s.ws, s.d, s.m⟩ := by unfold tellS; rw [← EN.out]
      rw [e1]
      have e2 := HN7.out
      rw [e0] at h6 e2
      show Star w0 _ (BlkA bs 50 #[.slice A1 (toldQ s ob sh k).length c1, .slice A7 n7 c7, .int .i64 s.d, .int .i64 s.m] :: RowO 52 3 (.slice A1 (toldQ s ob sh k).length c1) (toldQ s ob sh k).length (t3V (toldQ s ob sh k)) :: RowO 58 3 (.slice A7 n7 c7) (nots (firesP ob sh) s.ws).length (t3V (nots (firesP ob sh) s.ws)) :: S)
      rw [← e2]
      exact h6
end
end Go.Proofs.Ytjkgkoilabbdgaa.Pt
