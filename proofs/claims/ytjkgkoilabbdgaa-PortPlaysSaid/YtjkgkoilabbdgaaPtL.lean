/- The port: Forget. -/
import Derived.Test.YtjkgkoilabbdgaaPtK
namespace Go.Proofs.Ytjkgkoilabbdgaa.Pt
open Go Go.RowKit Go.Proofs.Ytjkgkoilabbdgaa.Mem
set_option linter.unusedVariables false
set_option linter.unusedSimpArgs false
def forgetS (s : Po) (ob : Int) : Int × Po := ((s.ws.length : Int) - (nots (ofP ob) s.ws).length, { s with ws := nots (ofP ob) s.ws })
section
variable {w0 w : World} {S : List Asr} {bs : Nat} {s : Po} {t : Value × Value}
theorem nots_le (p : T3 → Bool) (l : List T3) : (nots p l).length ≤ l.length := List.length_filter_le _ _
set_option maxHeartbeats 4000000 in
theorem forget_any (h : Star w0 w (pt bs s t ++ S)) (hw : s.ws.length ≤ 100000) (ob : Int) : Calls Try.prog 19 #[.pointer (some ⟨bs, 0, none⟩), .int .i64 ob] w fun r w' => r = .returned (.int .i64 (forgetS s ob).1) ∧ ∃ t', Star w0 w' (pt bs (forgetS s ob).2 t' ++ S) := by
  obtain ⟨t0, t2⟩ := t
  obtain ⟨-, ⟨A, c, hv⟩⟩ := pt_rows h
  simp only at hv
  subst hv
  obtain ⟨n, en⟩ : ∃ n, n = s.ws.length := ⟨_, rfl⟩
  have EN := Lib.hid en
  have h1 : Star w0 _ (BlkA w.heap.size 3 #[.int .i64 ob] :: BlkA bs 62 (ptC s (t0, .slice A s.ws.length c)) :: RowO 29 3 t0 s.q.length (t3V s.q) :: RowO 67 3 (.slice A s.ws.length c) s.ws.length (t3V s.ws) :: S) := h.newBlk 3 #[.int .i64 ob]
  rw [← en] at h1
  have k1 : (w.alloc (.cells #[.int .i64 ob] 3)).cell? ⟨bs, 1, none⟩ = some (.slice A n c) := (h1.blk 1 rfl).cellv (i := 1) rfl
  have h2 := h1.perm (((List.perm_append_comm (l₁ := [BlkA w.heap.size 3 #[.int .i64 ob], BlkA bs 62 (ptC s (t0, .slice A n c)), RowO 29 3 t0 s.q.length (t3V s.q)]) (l₂ := [RowO 67 3 (.slice A n c) n (t3V s.ws)])).append_right S))
  have HD := Lib.hid (delete_w (J := fun _ => BlkA w.heap.size 3 #[.int .i64 ob]) 37 eg37 #[.pointer (some ⟨w.heap.size, 0, none⟩)] (ofP ob) h2 en (by omega) (fun k x hx W l' S hS => forget1_core hS x))
  have hnl := nots_le (ofP ob) s.ws
  rw [← en] at hnl
  have hnn : n ≤ 100000 := by omega
  unfold forgetS
  obtain ⟨m, em⟩ : ∃ m, m = (nots (ofP ob) s.ws).length := ⟨_, rfl⟩
  have EM := Lib.hid em
  rw [← em] at HD hnl ⊢
  rw [← en]
  have h5 : (m : Int) ≤ n := by omega
  have h6 : (n : Int) ≤ 100000 := by omega
  clear h h1 h2 en em
  go_enter Try.func19, Try.ntmps19
  go_wp2_with (first
    | (go_at_call 30; (with_reducible refine HD.out.mono ?_); rintro e w2 ⟨v3, rfl, hs2⟩
       obtain ⟨A3, c3, rfl⟩ := (hs2.rowO 0 rfl).len
       have q3 : w2.cell? ⟨bs, 1, none⟩ = some (.slice A n c) := (hs2.blk 2 rfl).cellv (i := 1) rfl
       have q4 := (hs2.blk 2 rfl).frozen 1
       have hs4 := hs2.setBlk 2 rfl 1 (.slice A3 m c3)
       have q5 : (w2.setCell ⟨bs, 1, none⟩ (.slice A3 m c3)).cell? ⟨bs, 1, none⟩ = some (.slice A3 m c3) := (hs4.blk 2 rfl).cellv (i := 1) rfl
       have HS4 := Lib.hid hs4
       clear hs2 hs4))
  go_ret
  refine ⟨rfl, (t0, .slice A3 m c3), ?_⟩
  have h7 := back2 (swap2 HS4.out).tail
  rw [EM.out] at h7 ⊢
  exact h7
end
end Go.Proofs.Ytjkgkoilabbdgaa.Pt
