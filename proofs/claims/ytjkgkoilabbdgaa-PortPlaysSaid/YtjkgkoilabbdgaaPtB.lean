/- The port: put, Queue. -/
import Derived.Test.YtjkgkoilabbdgaaPtA
namespace Go.Proofs.Ytjkgkoilabbdgaa.Pt
open Go Go.RowKit Go.Proofs.Ytjkgkoilabbdgaa.Mem
set_option linter.unusedVariables false
set_option linter.unusedSimpArgs false
theorem pk_info : (Try.prog.info? 29).map (fun i => (i.zero, i.size, i.bytes)) = some (some (.agg #[.int .i64 0, .int .i64 0, .int .i64 0]), 3, 24) := by kernel_rfl
theorem wt_info : (Try.prog.info? 67).map (fun i => (i.zero, i.size, i.bytes)) = some (some (.agg #[.int .i64 0, .int .i64 0, .int .i64 0]), 3, 24) := by kernel_rfl
theorem reads_fresh_at (w : World) (e : TypeId) (cs : List Value) (n size B : Nat) (h : cs.length = n * size) (hB : w.heap.size = B) : Reads (w.alloc (.cells cs.toArray e)) (B + 1) size (some ⟨B, 0, none⟩) n cs := by
  subst hB
  exact reads_fresh w e cs n size h
theorem usersN_app (q : List T3) (x : T3) : usersN (q ++ [x]) = usersN q + if x.b = 0 then 1 else 0 := by
  unfold usersN
  rw [List.countP_append]
  by_cases h : x.b = 0 <;> simp [h]
theorem objsN_app (q : List T3) (x : T3) : objsN (q ++ [x]) = objsN q + if x.b = 0 then 0 else 1 := by
  unfold objsN
  rw [List.countP_append]
  by_cases h : x.b = 0 <;> simp [h]
theorem usersN_le (q : List T3) : usersN q ≤ q.length := List.countP_le_length
theorem objsN_le (q : List T3) : objsN q ≤ q.length := List.countP_le_length
section
variable {w0 w : World} {S : List Asr} {bs : Nat} {s : Po} {t : Value × Value}
def putS (s : Po) (x : T3) : Po := { s with q := s.q ++ [x] }
set_option maxHeartbeats 4000000 in
theorem put_any (h : Star w0 w (pt bs s t ++ S)) (x : T3) (hq : s.q.length ≤ 1000) : Calls Try.prog 27 #[.pointer (some ⟨bs, 0, none⟩), t3G x] w fun r w' => r = .returned (.tuple #[]) ∧ ∃ v, Star w0 w' (pt bs (putS s x) (v, t.2) ++ S) := by
  obtain ⟨t0, t2⟩ := t
  obtain ⟨⟨A, c, rfl⟩, -⟩ := pt_rows h
  have h1 := h.alloc (.cells #[.int .i64 x.a, .int .i64 x.b, .int .i64 x.c] 29)
  obtain ⟨k0', -⟩ := pt_cells h1
  obtain ⟨k1', -⟩ := pt_cells (h1.alloc (.cells #[.int .i64 x.a, .int .i64 x.b, .int .i64 x.c] 29))
  have HC := Lib.hid (fun (W : World) (v : Value) (L : List Asr) (hW : Star w0 W (BlkA bs 62 #[v, t2, .int .i64 s.d, .int .i64 s.m, .int .i64 (usersN s.q), .int .i64 (objsN s.q)] :: L)) => count_core hW x 1 (usersN s.q) (objsN s.q) rfl rfl (.inl rfl) (by have := usersN_le s.q; omega) (by have := objsN_le s.q; omega))
  obtain ⟨i0, hi0, hz0, hz1, hz2⟩ := info_parts pk_info
  obtain ⟨n, en⟩ : ∃ n, n = s.q.length := ⟨_, rfl⟩
  have EN := Lib.hid en
  have hq' : n ≤ 1000 := by omega
  have h1x := t3V_one [x]
  have hx1 : t3V [x] = [.int .i64 x.a, .int .i64 x.b, .int .i64 x.c] := rfl
  rw [hx1] at h1x
  have k0 : (w.alloc (.cells #[.int .i64 x.a, .int .i64 x.b, .int .i64 x.c] 29)).cell? ⟨bs, 0, none⟩ = some (.slice A s.q.length c) := k0'
  have k1 : ((w.alloc (.cells #[.int .i64 x.a, .int .i64 x.b, .int .i64 x.c] 29)).alloc (.cells #[.int .i64 x.a, .int .i64 x.b, .int .i64 x.c] 29)).cell? ⟨bs, 0, none⟩ = some (.slice A s.q.length c) := k1'
  clear k0' k1'
  rw [← en] at k0 k1
  have h1b := h.newBlk 29 #[.int .i64 x.a, .int .i64 x.b, .int .i64 x.c]
  have HS0 : Star w0 _ (BlkA w.heap.size 29 #[.int .i64 x.a, .int .i64 x.b, .int .i64 x.c] :: BlkA bs 62 #[.slice A s.q.length c, t2, .int .i64 s.d, .int .i64 s.m, .int .i64 (usersN s.q), .int .i64 (objsN s.q)] :: RowO 29 3 (.slice A s.q.length c) s.q.length (t3V s.q) :: RowO 67 3 t2 s.ws.length (t3V s.ws) :: S) := h1b
  rw [← en] at HS0
  have HS1 := Lib.hid HS0
  obtain ⟨xa, xb, xc⟩ := x
  unfold t3G at HC ⊢
  try simp only at HC h1x k0 k1 HS1 ⊢
  clear h h1 h1b en hx1 hq HS0
  go_enter Try.func27, Try.ntmps27
  go_wp2
  go_region_law (first
    | (refine step_append_so (by rfl) (.tmp 8) (.tmp 10) 40 (by rfl) ((star_dr HS1.out).alloc _) 2 rfl i0 _ 24 Try.underlying40 hi0 hz0 hz1 hz2 rfl (by omega) (by rfl) _ (some ⟨w.heap.size + 1, 0, none⟩) 1 1 [.int .i64 xa, .int .i64 xb, .int .i64 xc] (by rfl) (reads_fresh_at _ 29 [.int .i64 xa, .int .i64 xb, .int .i64 xc] 1 3 (w.heap.size + 1) rfl (by simp)) h1x (by simp only [maxLen]; omega) (by omega) ?_
       intro v3 w3 hs3
       simp only [List.cons_append, List.nil_append, List.set_cons_zero, List.set_cons_succ] at hs3
       obtain ⟨A3, c3, rfl⟩ := (hs3.rowO 2 rfl).len
       have hs4 := hs3.setBlk 1 rfl 0 (.slice A3 (n + 1) c3)
       simp only [List.set_cons_zero, List.set_cons_succ] at hs4
       have HS4 := Lib.hid hs4
       have q3 : w3.cell? ⟨bs, 0, none⟩ = some (.slice A n c) := (hs3.blk 1 rfl).cellv rfl
       have q4 := (hs3.blk 1 rfl).frozen 0
       have b0 : (w3.setCell ⟨bs, 0, none⟩ (.slice A3 (n + 1) c3)).cell? ⟨w.heap.size, 0, none⟩ = some (.int .i64 xa) := (hs4.blk 0 rfl).cellv rfl
       have b1 : (w3.setCell ⟨bs, 0, none⟩ (.slice A3 (n + 1) c3)).cell? ⟨w.heap.size, 1, none⟩ = some (.int .i64 xb) := (hs4.blk 0 rfl).cellv rfl
       have b2 : (w3.setCell ⟨bs, 0, none⟩ (.slice A3 (n + 1) c3)).cell? ⟨w.heap.size, 2, none⟩ = some (.int .i64 xc) := (hs4.blk 0 rfl).cellv rfl
       clear hs3 hs4))
  all_goals
    clear k0 k1
    generalize w3.setCell ⟨bs, 0, none⟩ (.slice A3 (n + 1) c3) = W4 at *
    go_wp2_with (first
      | (go_at_call 29; (with_reducible refine (HC.out _ _ _ HS4.out.tail).mono ?_); rintro e w5 ⟨rfl, hs5⟩
         have HS5 := Lib.hid hs5
         clear hs5))
    go_end0
    refine ⟨rfl, .slice A3 (n + 1) c3, ?_⟩
    have hs6 := HS5.out
    have e1 : (s.q ++ [(⟨xa, xb, xc⟩ : T3)]).length = n + 1 := by rw [List.length_append, ← EN.out]; rfl
    have e2 : t3V (s.q ++ [(⟨xa, xb, xc⟩ : T3)]) = t3V s.q ++ [.int .i64 xa, .int .i64 xb, .int .i64 xc] := by rw [t3V_app]; rfl
    show Star w0 _ (BlkA bs 62 (ptC (putS s ⟨xa, xb, xc⟩) (.slice A3 (n + 1) c3, t2)) :: RowO 29 3 (.slice A3 (n + 1) c3) (s.q ++ [(⟨xa, xb, xc⟩ : T3)]).length (t3V (s.q ++ [(⟨xa, xb, xc⟩ : T3)])) :: RowO 67 3 t2 s.ws.length (t3V s.ws) :: S)
    rw [e1, e2]
    have e3 : ptC (putS s ⟨xa, xb, xc⟩) (.slice A3 (n + 1) c3, t2) = (if xb = 0 then (#[.slice A3 (n + 1) c3, t2, .int .i64 s.d, .int .i64 s.m, .int .i64 (usersN s.q), .int .i64 (objsN s.q)] : Array Value).setIfInBounds 4 (.int .i64 ((usersN s.q : Int) + 1)) else (#[.slice A3 (n + 1) c3, t2, .int .i64 s.d, .int .i64 s.m, .int .i64 (usersN s.q), .int .i64 (objsN s.q)] : Array Value).setIfInBounds 5 (.int .i64 ((objsN s.q : Int) + 1))) := by
      unfold ptC putS
      simp only [usersN_app, objsN_app]
      by_cases hb : xb = 0
      · simp [hb]
      · simp [hb]
    rw [e3]
    exact hs6
end
end Go.Proofs.Ytjkgkoilabbdgaa.Pt
