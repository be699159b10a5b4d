/- The port: Watch. -/
import Derived.Test.YtjkgkoilabbdgaaPtD
namespace Go.Proofs.Ytjkgkoilabbdgaa.Pt
open Go Go.RowKit Go.Proofs.Ytjkgkoilabbdgaa.Mem
set_option linter.unusedVariables false
set_option linter.unusedSimpArgs false
def addS (s : Po) (x : T3) : Po := { s with ws := s.ws ++ [x] }
def watchS (s : Po) (o k m : Int) : Int × Po := if o < 1 ∨ m = 0 then (-10, s) else if s.m ≤ s.ws.length + objsN s.q then (-4, s) else (0, addS s ⟨o, k, m⟩)
section
variable {w0 w : World} {S : List Asr} {bs : Nat} {s : Po} {t : Value × Value}
set_option maxHeartbeats 4000000 in
theorem watch_any (h : Star w0 w (pt bs s t ++ S)) (hq : s.q.length ≤ 1000) (hw : s.ws.length ≤ 100000) (o k m : Int) : Calls Try.prog 13 #[.pointer (some ⟨bs, 0, none⟩), .int .i64 o, .int .i64 k, .int .i64 m] w fun r w' => r = .returned (.int .i64 (watchS s o k m).1) ∧ ∃ t', Star w0 w' (pt bs (watchS s o k m).2 t' ++ S) := by
  obtain ⟨t0, t2⟩ := t
  unfold watchS
  by_cases h1 : o < 1 ∨ m = 0
  · rw [if_pos h1]
    have HS := Lib.hid h
    clear h hq hw
    by_cases h2 : o < 1
    · clear h1
      go_enter Try.func13, Try.ntmps13
      go_wp2
      go_ret
      exact ⟨rfl, _, HS.out⟩
    · obtain rfl : m = 0 := by omega
      have h3 : 1 ≤ o := by omega
      clear h1 h2
      go_enter Try.func13, Try.ntmps13
      go_wp2
      go_ret
      exact ⟨rfl, _, HS.out⟩
  · rw [if_neg h1]
    have h3 : 1 ≤ o := by omega
    have h4 : (m == 0) = false := beq_eq_false_iff_ne.mpr (by omega)
    obtain ⟨-, ⟨A, c, rfl⟩⟩ := pt_rows h
    obtain ⟨-, k1, -, k3, -, k5⟩ := pt_cells h
    have hob := objsN_le s.q
    obtain ⟨n, en⟩ : ∃ n, n = s.ws.length := ⟨_, rfl⟩
    have EN := Lib.hid en
    obtain ⟨ob, eb⟩ : ∃ ob, ob = objsN s.q := ⟨_, rfl⟩
    have EB := Lib.hid eb
    have HS := Lib.hid h
    simp only at k1 k3 k5
    rw [← en] at k1 hw ⊢
    rw [← eb] at k5 hob ⊢
    clear en eb h1 h
    by_cases h5 : s.m ≤ n + ob
    · rw [if_pos h5]
      have h6 : (s.m : Int) ≤ (n : Int) + ob := by omega
      have hob2 : ob ≤ 1000 := by omega
      clear h5 hob
      go_enter Try.func13, Try.ntmps13
      go_wp2
      go_quiet (fail)
      go_wp2
      go_ret
      exact ⟨rfl, _, HS.out.drewN nq⟩
    · rw [if_neg h5]
      have h6 : (n : Int) + ob < s.m := by omega
      have hob2 : ob ≤ 1000 := by omega
      clear h5 hob
      obtain ⟨i0, hi0, hz0, hz1, hz2⟩ := info_parts wt_info
      have h1x := t3V_one [⟨o, k, m⟩]
      have hx1 : t3V [⟨o, k, m⟩] = [.int .i64 o, .int .i64 k, .int .i64 m] := rfl
      rw [hx1] at h1x
      have KK := Lib.hid (fun j => (pt_cells ((HS.out.drewN j).alloc (.cells #[.int .i64 o, .int .i64 k, .int .i64 m] 67))).2.1)
      go_enter Try.func13, Try.ntmps13
      go_wp2
      go_quiet (fail)
      have k1' := k1
      have HS1 : Hid (Star w0 (w.drewN nq) (BlkA bs 62 #[t0, .slice A n c, .int .i64 s.d, .int .i64 s.m, .int .i64 (usersN s.q), .int .i64 (objsN s.q)] :: RowO 29 3 t0 s.q.length (t3V s.q) :: RowO 67 3 (.slice A n c) n (t3V s.ws) :: S)) := by
        have := HS.out.drewN nq
        show Star w0 _ _
        rw [EN.out]
        exact this
      go_wp2_with (first
        | (at_builtin; refine wpList_append_so rfl (.tmp 36) (.tmp 41) 60 rfl (HS1.out.alloc _) 2 rfl i0 _ 24 Try.underlying60 hi0 hz0 hz1 hz2 rfl (by omega) (by rfl) _ (some ⟨w.heap.size, 0, none⟩) 1 1 [.int .i64 o, .int .i64 k, .int .i64 m] (by rfl) (reads_fresh_at _ 67 [.int .i64 o, .int .i64 k, .int .i64 m] 1 3 w.heap.size rfl (by simp)) h1x (by simp only [maxLen]; omega) (by omega) ?_
           intro v3 w3 hs3
           simp only [List.cons_append, List.nil_append, List.set_cons_zero, List.set_cons_succ] at hs3
           obtain ⟨A3, c3, rfl⟩ := (hs3.rowO 2 rfl).len
           have hs4 := hs3.setBlk 0 rfl 1 (.slice A3 (n + 1) c3)
           simp only [List.set_cons_zero, List.set_cons_succ] at hs4
           have HS4 := Lib.hid hs4
           have q3 : w3.cell? ⟨bs, 1, none⟩ = some (.slice A n c) := (hs3.blk 0 rfl).cellv rfl
           have q4 := (hs3.blk 0 rfl).frozen 1
           clear hs3 hs4))
      all_goals
        go_ret
        refine ⟨rfl, (t0, .slice A3 (n + 1) c3), ?_⟩
        have hs6 := HS4.out
        have e1 : (s.ws ++ [(⟨o, k, m⟩ : T3)]).length = n + 1 := by rw [List.length_append, ← EN.out]; rfl
        have e2 : t3V (s.ws ++ [(⟨o, k, m⟩ : T3)]) = t3V s.ws ++ [.int .i64 o, .int .i64 k, .int .i64 m] := by rw [t3V_app]; rfl
        show Star w0 _ (BlkA bs 62 (ptC (addS s ⟨o, k, m⟩) (t0, .slice A3 (n + 1) c3)) :: RowO 29 3 t0 s.q.length (t3V s.q) :: RowO 67 3 (.slice A3 (n + 1) c3) (s.ws ++ [(⟨o, k, m⟩ : T3)]).length (t3V (s.ws ++ [(⟨o, k, m⟩ : T3)])) :: S)
        rw [e1, e2]
        exact hs6
end
end Go.Proofs.Ytjkgkoilabbdgaa.Pt
