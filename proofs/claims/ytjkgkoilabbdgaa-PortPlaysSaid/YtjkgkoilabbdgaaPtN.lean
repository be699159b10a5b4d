/- The port: Cancel's walk. -/
import Derived.Test.YtjkgkoilabbdgaaPtM
import Derived.Test.YtjkgkoilabbdgaaPick
import Derived.Deep.DeepCutAuto
namespace Go.Proofs.Ytjkgkoilabbdgaa.Pt
open Go Go.RowKit Go.Proofs.Ytjkgkoilabbdgaa.Mem
set_option linter.unusedVariables false
set_option linter.unusedSimpArgs false
def cancelS (s : Po) (ob ky : Int) : Int × Po := (if (nots (ofK ob ky) s.ws).length + (nots (mineP ob ky) s.q).length = s.ws.length + s.q.length then -25 else 0, { s with q := nots (mineP ob ky) s.q, ws := nots (ofK ob ky) s.ws })
theorem mineN_zero (ob ky : Int) (q : List T3) : mineN ob ky q 0 = 0 := by simp [mineN]
section
theorem can_in {w0 w : World} {S : List Asr} {K O P B Q R : Asr} (h : Star w0 w (K :: O :: P :: B :: Q :: R :: S)) : Star w0 w (R :: Grp [O, K] :: P :: B :: Q :: S) := by
  have h1 := h.perm ((List.Perm.append_right S (((List.Perm.swap O K [P, B, Q, R]).trans (List.Perm.append_left [O, K] (List.perm_append_comm (l₁ := [P, B, Q]) (l₂ := [R])))))))
  exact swap2 (Star.close1 (L := [O, K]) h1)
theorem can_mid {w0 w : World} {S : List Asr} {K O P B Q R : Asr} (h : Star w0 w (R :: Grp [O, K] :: P :: B :: Q :: S)) : Star w0 w (O :: K :: R :: P :: B :: Q :: S) := Star.open1 (swap2 h)
variable {w0 w : World} {S : List Asr} {bs : Nat} {s : Po} {t : Value × Value}
set_option maxHeartbeats 4000000 in
theorem cancel_any (h : Star w0 w (pt bs s t ++ S)) (hq : s.q.length ≤ 1000) (hw : s.ws.length ≤ 100000) (ob ky : Int) : Calls Try.prog 18 #[.pointer (some ⟨bs, 0, none⟩), .int .i64 ob, .int .i64 ky] w fun r w' => r = .returned (.int .i64 (cancelS s ob ky).1) ∧ ∃ t', Star w0 w' (pt bs (cancelS s ob ky).2 t' ++ S) := by
  obtain ⟨t0, t2⟩ := t
  obtain ⟨⟨A0, c0, hv0⟩, ⟨A, c, hv⟩⟩ := pt_rows h
  simp only at hv hv0
  subst hv hv0
  obtain ⟨n, en⟩ : ∃ n, n = s.ws.length := ⟨_, rfl⟩
  obtain ⟨q, eq⟩ : ∃ q, q = s.q.length := ⟨_, rfl⟩
  have EN := Lib.hid en
  have EQ := Lib.hid eq
  have h1 := (((h.newBlk 23 #[.pointer (some ⟨bs, 0, none⟩)]).newBlk 3 #[.int .i64 ob]).newBlk 3 #[.int .i64 ky])
  have sz : ∀ (w : World) (o : Obj), (w.alloc o).heap.size = w.heap.size + 1 := fun w o => by show (w.heap.push o).size = _; simp
  simp only [sz, Nat.add_assoc, Nat.reduceAdd] at h1
  have h2 : Star w0 _ (BlkA (w.heap.size + 2) 3 #[.int .i64 ky] :: BlkA (w.heap.size + 1) 3 #[.int .i64 ob] :: BlkA w.heap.size 23 #[.pointer (some ⟨bs, 0, none⟩)] :: BlkA bs 62 (ptC s (.slice A0 s.q.length c0, .slice A s.ws.length c)) :: RowO 29 3 (.slice A0 s.q.length c0) s.q.length (t3V s.q) :: RowO 67 3 (.slice A s.ws.length c) s.ws.length (t3V s.ws) :: S) := h1
  rw [← en, ← eq] at h2
  have k0 : (((w.alloc (.cells #[.pointer (some ⟨bs, 0, none⟩)] 23)).alloc (.cells #[.int .i64 ob] 3)).alloc (.cells #[.int .i64 ky] 3)).cell? ⟨bs, 0, none⟩ = some (.slice A0 q c0) := (h2.blk 3 rfl).cellv (i := 0) rfl
  have k1 : (((w.alloc (.cells #[.pointer (some ⟨bs, 0, none⟩)] 23)).alloc (.cells #[.int .i64 ob] 3)).alloc (.cells #[.int .i64 ky] 3)).cell? ⟨bs, 1, none⟩ = some (.slice A n c) := (h2.blk 3 rfl).cellv (i := 1) rfl
  have hnn : n ≤ 100000 := by omega
  have hqq : q ≤ 1000 := by omega
  have hnn' : (n : Int) ≤ 100000 := by omega
  have hqq' : (q : Int) ≤ 1000 := by omega
  have HS := Lib.hid h2
  clear h h1 h2 en eq hq hw
  go_enter Try.func18, Try.ntmps18
  go_wp2
  go_quiet (fail)
  go_upto_region 2 with fail
  go_cut [7] (fun s7 wx => s7 = .int .i64 ((n : Int) + q) ∧ ∃ (A3 : Option Addr) (c3 : Nat), Hid (Star w0 wx (BlkA (w.heap.size + 1) 3 #[.int .i64 ob] :: BlkA (w.heap.size + 2) 3 #[.int .i64 ky] :: RowO 67 3 (.slice A3 (nots (ofK ob ky) s.ws).length c3) (nots (ofK ob ky) s.ws).length (t3V (nots (ofK ob ky) s.ws)) :: BlkA w.heap.size 23 #[.pointer (some ⟨bs, 0, none⟩)] :: BlkA bs 62 (ptC s (.slice A0 q c0, .slice A3 (nots (ofK ob ky) s.ws).length c3)) :: RowO 29 3 (.slice A0 q c0) q (t3V s.q) :: S)))
  case first =>
    have HD := Lib.hid (delete_w (J := fun _ => Grp [BlkA (w.heap.size + 1) 3 #[.int .i64 ob], BlkA (w.heap.size + 2) 3 #[.int .i64 ky]]) 34 eg34 #[.pointer (some ⟨w.heap.size + 1, 0, none⟩), .pointer (some ⟨w.heap.size + 2, 0, none⟩)] (ofK ob ky) (can_in (HS.out.drewN (nq + 1))) EN.out (by omega) (fun k x hx W l' S hS => cancel1_at x W S hS))
    go_region_with (first
      | (go_at_call 30; (with_reducible refine HD.out.mono ?_); rintro e w2 ⟨v3, rfl, hs2⟩
         have hs3 := can_mid hs2
         obtain ⟨A3, c3, rfl⟩ := (hs3.rowO 2 rfl).len
         have q0 : w2.cell? ⟨w.heap.size, 0, none⟩ = some (.pointer (some ⟨bs, 0, none⟩)) := (hs3.blk 3 rfl).cellv (i := 0) rfl
         have q4 := (hs3.blk 4 rfl).frozen 1
         have q3 : w2.cell? ⟨bs, 1, none⟩ = some (.slice A n c) := (hs3.blk 4 rfl).cellv (i := 1) rfl
         have hs4 := hs3.setBlk 4 rfl 1 (.slice A3 (nots (ofK ob ky) s.ws).length c3)
         have HS4 := Lib.hid hs4
         clear hs2 hs3 hs4))
    all_goals
      go_wp2
      go_meet
      case rel => exact ⟨rfl, A3, c3, HS4⟩
  case rest =>
    clear HS k0 k1
    obtain ⟨rfl, A3, c3, HS⟩ := hcut
    obtain ⟨n2, en2⟩ : ∃ n2, n2 = (nots (ofK ob ky) s.ws).length := ⟨_, rfl⟩
    obtain ⟨q2, eq2⟩ : ∃ q2, q2 = (nots (mineP ob ky) s.q).length := ⟨_, rfl⟩
    have hn2 : n2 ≤ n := by have := nots_le (ofK ob ky) s.ws; rw [en2, EN.out]; exact this
    have hq2 : q2 ≤ q := by have := nots_le (mineP ob ky) s.q; rw [eq2, EQ.out]; exact this
    have EN2 := Lib.hid en2
    have EQ2 := Lib.hid eq2
    rw [← en2] at HS
    clear en2 eq2
    go_upto_region 3 with fail
    go_cut [7] (fun s7 wx => s7 = .int .i64 ((n : Int) + q) ∧ ∃ (A4 : Option Addr) (c4 : Nat), Hid (Star w0 wx (BlkA bs 62 (ptC (cancelS s ob ky).2 (.slice A4 q2 c4, .slice A3 n2 c3)) :: RowO 29 3 (.slice A4 q2 c4) q2 (t3V (nots (mineP ob ky) s.q)) :: RowO 67 3 (.slice A3 n2 c3) n2 (t3V (nots (ofK ob ky) s.ws)) :: BlkA w.heap.size 23 #[.pointer (some ⟨bs, 0, none⟩)] :: S)))
    case first =>
      have h0 : Star w0 _ (RowO 29 3 (.slice A0 q c0) q (t3V s.q) :: BlkA bs 62 (ptC s (.slice A0 q c0, .slice A3 n2 c3)) :: BlkA (w.heap.size + 1) 3 #[.int .i64 ob] :: BlkA (w.heap.size + 2) 3 #[.int .i64 ky] :: BlkA w.heap.size 23 #[.pointer (some ⟨bs, 0, none⟩)] :: RowO 67 3 (.slice A3 n2 c3) n2 (t3V (nots (ofK ob ky) s.ws)) :: S) :=
        ((((((HS.out.pick 2 rfl).pick 3 rfl).pick 3 rfl).pick 3 rfl).pick 4 rfl).pick 5 rfl)
      have k0 : wc.cell? ⟨bs, 0, none⟩ = some (.slice A0 q c0) := (h0.blk 1 rfl).cellv (i := 0) rfl
      have kb : wc.cell? ⟨w.heap.size, 0, none⟩ = some (.pointer (some ⟨bs, 0, none⟩)) := (h0.blk 4 rfl).cellv (i := 0) rfl
      have h1 : Star w0 wc (RowO 29 3 (.slice A0 q c0) q (t3V s.q) :: JC bs (w.heap.size + 1) (w.heap.size + 2) w.heap.size s (.slice A0 q c0) (.slice A3 n2 c3) ob ky 0 :: RowO 67 3 (.slice A3 n2 c3) n2 (t3V (nots (ofK ob ky) s.ws)) :: S) := by
        refine swap2 (Star.close1 (L := [BlkA bs 62 (canC s (.slice A0 q c0) (.slice A3 n2 c3) ob ky 0), BlkA (w.heap.size + 1) 3 #[.int .i64 ob], BlkA (w.heap.size + 2) 3 #[.int .i64 ky], BlkA w.heap.size 23 #[.pointer (some ⟨bs, 0, none⟩)]]) ?_)
        have e : canC s (.slice A0 q c0) (.slice A3 n2 c3) ob ky 0 = ptC s (.slice A0 q c0, .slice A3 n2 c3) := by
          unfold canC ptC
          rw [mineN_zero, show (objsN s.q : Int) - ((0 : Nat) : Int) = objsN s.q by omega]
        rw [e]
        exact out4 h0
      have hq' : s.q.length ≤ 1000 := by rw [← EQ.out]; exact hqq
      have HD := Lib.hid (delete_p (J := fun k => JC bs (w.heap.size + 1) (w.heap.size + 2) w.heap.size s (.slice A0 q c0) (.slice A3 n2 c3) ob ky k) 36 eg36 #[.pointer (some ⟨w.heap.size + 1, 0, none⟩), .pointer (some ⟨w.heap.size + 2, 0, none⟩), .pointer (some ⟨w.heap.size, 0, none⟩)] (mineP ob ky) (star_dr h1) EQ.out (by omega) (fun k x hx W l' S hS => cancel2_at hq' k x hx W S hS))
      rw [← EQ2.out] at HD
      clear HS h0 h1
      go_region_with (first
        | (go_at_call 35; (with_reducible refine HD.out.mono ?_); rintro e w2 ⟨v3, rfl, hs2⟩
           have hs3 := Star.open1 (swap2 hs2)
           obtain ⟨A4, c4, rfl⟩ := (hs2.rowO 0 rfl).len
           have q0 : w2.cell? ⟨w.heap.size, 0, none⟩ = some (.pointer (some ⟨bs, 0, none⟩)) := (hs3.blk 3 rfl).cellv (i := 0) rfl
           have q4 := (hs3.blk 0 rfl).frozen 0
           have q3 : w2.cell? ⟨bs, 0, none⟩ = some (.slice A0 q c0) := (hs3.blk 0 rfl).cellv (i := 0) rfl
           have hs4 := hs3.setBlk 0 rfl 0 (.slice A4 q2 c4)
           have HS4 := Lib.hid hs4
           clear hs2 hs3 hs4))
      all_goals
        go_wp2
        go_meet
        case rel =>
          refine ⟨rfl, A4, c4, Lib.hid ?_⟩
          have e1 := users_nots ob ky s.q
          have e2 := objs_nots ob ky s.q
          have h5 : Star w0 _ (BlkA bs 62 ((canC s (.slice A0 q c0) (.slice A3 n2 c3) ob ky q).setIfInBounds 0 (.slice A4 q2 c4)) :: RowO 29 3 (.slice A4 q2 c4) q2 (t3V (nots (mineP ob ky) s.q)) :: RowO 67 3 (.slice A3 n2 c3) n2 (t3V (nots (ofK ob ky) s.ws)) :: BlkA w.heap.size 23 #[.pointer (some ⟨bs, 0, none⟩)] :: S) :=
            ((((((HS4.out.pick 3 rfl).pick 5 rfl).pick 5 rfl).pick 3 rfl).pick 4 rfl).pick 5 rfl).tail.tail
          have e3 : (canC s (.slice A0 q c0) (.slice A3 n2 c3) ob ky q).setIfInBounds 0 (.slice A4 q2 c4) = ptC (cancelS s ob ky).2 (.slice A4 q2 c4, .slice A3 n2 c3) := by
            rw [← EQ.out] at e2
            unfold canC ptC cancelS
            simp only
            rw [e1, show ((objsN (nots (mineP ob ky) s.q) : Nat) : Int) = (objsN s.q : Int) - mineN ob ky s.q q by omega]
            rfl
          rw [e3] at h5
          exact h5
    case rest =>
      clear HS
      obtain ⟨rfl, A4, c4, HS⟩ := hcut
      have k0 : wc.cell? ⟨bs, 0, none⟩ = some (.slice A4 q2 c4) := (HS.out.blk 0 rfl).cellv (i := 0) rfl
      have k1 : wc.cell? ⟨bs, 1, none⟩ = some (.slice A3 n2 c3) := (HS.out.blk 0 rfl).cellv (i := 1) rfl
      have kb : wc.cell? ⟨w.heap.size, 0, none⟩ = some (.pointer (some ⟨bs, 0, none⟩)) := (HS.out.blk 3 rfl).cellv (i := 0) rfl
      have er : (cancelS s ob ky).1 = if n2 + q2 = n + q then -25 else 0 := by
        show (if _ then _ else _) = _
        rw [← EN2.out, ← EQ2.out, ← EN.out, ← EQ.out]
      have hf : ∀ W k, Hid (Star w0 W (BlkA bs 62 (ptC (cancelS s ob ky).2 (.slice A4 q2 c4, .slice A3 n2 c3)) :: RowO 29 3 (.slice A4 q2 c4) q2 (t3V (nots (mineP ob ky) s.q)) :: RowO 67 3 (.slice A3 n2 c3) n2 (t3V (nots (ofK ob ky) s.ws)) :: BlkA w.heap.size 23 #[.pointer (some ⟨bs, 0, none⟩)] :: S)) → ∃ t', Star w0 (W.drewN k) (pt bs (cancelS s ob ky).2 t' ++ S) := fun W k h => by
        refine ⟨(.slice A4 q2 c4, .slice A3 n2 c3), ?_⟩
        have h1 := (h.out.pick 3 rfl).tail.drewN k
        show Star w0 (W.drewN k) (BlkA bs 62 (ptC (cancelS s ob ky).2 (.slice A4 q2 c4, .slice A3 n2 c3)) :: RowO 29 3 (.slice A4 q2 c4) (nots (mineP ob ky) s.q).length (t3V (nots (mineP ob ky) s.q)) :: RowO 67 3 (.slice A3 n2 c3) (nots (ofK ob ky) s.ws).length (t3V (nots (ofK ob ky) s.ws)) :: S)
        rw [← EN2.out, ← EQ2.out]
        exact h1
      have HF := Lib.hid hf
      have hn2' : (n2 : Int) ≤ n := by omega
      have hq2' : (q2 : Int) ≤ q := by omega
      clear hf
      by_cases he : n2 + q2 = n + q
      · have E1 := Lib.hid (er.trans (if_pos he))
        clear er
        have z1 : ((n2 : Int) + q2 == (n : Int) + q) = true := beq_iff_eq.mpr (by omega)
        clear he
        go_wp2
        go_quiet (fail)
        go_wp2
        go_ret
        exact ⟨by rw [E1.out]; rfl, HF.out _ _ HS⟩
      · have E1 := Lib.hid (er.trans (if_neg he))
        clear er
        have z1 : ((n2 : Int) + q2 == (n : Int) + q) = false := beq_eq_false_iff_ne.mpr (by omega)
        clear he
        go_wp2
        go_quiet (fail)
        go_wp2
        go_ret
        exact ⟨by rw [E1.out]; rfl, HF.out _ _ HS⟩
end
end Go.Proofs.Ytjkgkoilabbdgaa.Pt
