/- The port: Take. -/
import Derived.Test.YtjkgkoilabbdgaaPtC
import Derived.Laws.ResultCell
namespace Go.Proofs.Ytjkgkoilabbdgaa.Pt
open Go Go.RowKit Go.Proofs.Ytjkgkoilabbdgaa.Mem
set_option linter.unusedVariables false
set_option linter.unusedSimpArgs false
theorem results_agg_tmp {P : Program} {fn : Func} {p u : Tmp} {ty : TypeId} (h : fn.results = #[.cell p ty, .tmp u]) (tmps : Array Value) (w : World) (g : Nat) (t : TypeId) (cs : Array Value) (fr : Nat × Nat) (d : TypeDesc)
    (hp : tmps.getD p undef = .pointer (some ⟨g, 0, none⟩)) (hg : w.heap[g]? = some (.cells cs t fr))
    (hu : P.underlying ty = some d) (hd : (match d with | .struct _ | .array _ _ => true | _ => false) = true) (hi : (P.info? ty).map (·.size) = some cs.size) :
    (results fn tmps).run P w = .ok (.tuple #[.agg cs, tmps.getD u undef]) w := by
  rw [results_cell_tmp h, hp]
  simp [asAddr, run_loadVar_row w g t ty cs fr d hg hu hd hi, Result.andThen]
def takeS (s : Po) : T3 × Int × Po := match s.q with
  | [] => (⟨0, 0, 0⟩, -22, s)
  | x :: q => (x, 0, { s with q := q })
theorem usersN_cons (x : T3) (q : List T3) : usersN (x :: q) = usersN q + if x.b = 0 then 1 else 0 := by
  unfold usersN
  rw [List.countP_cons]
  by_cases h : x.b = 0 <;> simp [h]
theorem objsN_cons (x : T3) (q : List T3) : objsN (x :: q) = objsN q + if x.b = 0 then 0 else 1 := by
  unfold objsN
  rw [List.countP_cons]
  by_cases h : x.b = 0 <;> simp [h]
theorem u29 : Try.prog.underlying 29 = some (.struct (match Try.prog.underlying 29 with | some (.struct f) => f | _ => #[])) := by kernel_rfl
theorem i29 : (Try.prog.info? 29).map (·.size) = some 3 := by kernel_rfl
section
variable {w0 w : World} {S : List Asr} {bs : Nat} {s : Po} {t : Value × Value}
theorem front3 {X Y A B : Asr} {R : List Asr} (h : Star w0 w (X :: Y :: A :: B :: R)) : Star w0 w (B :: X :: Y :: A :: R) := h.perm (List.Perm.append_right R (List.perm_append_comm (l₁ := [X, Y, A]) (l₂ := [B])))
theorem back3 {X Y A B : Asr} {R : List Asr} (h : Star w0 w (B :: X :: Y :: A :: R)) : Star w0 w (X :: Y :: A :: B :: R) := h.perm (List.Perm.append_right R (List.perm_append_comm (l₁ := [B]) (l₂ := [X, Y, A])))
theorem front2 {X Y A : Asr} {R : List Asr} (h : Star w0 w (X :: Y :: A :: R)) : Star w0 w (A :: X :: Y :: R) := h.perm (List.Perm.append_right R (List.perm_append_comm (l₁ := [X, Y]) (l₂ := [A])))
theorem back2 {X Y A : Asr} {R : List Asr} (h : Star w0 w (A :: X :: Y :: R)) : Star w0 w (X :: Y :: A :: R) := h.perm (List.Perm.append_right R (List.perm_append_comm (l₁ := [A]) (l₂ := [X, Y])))
set_option maxHeartbeats 4000000 in
theorem take_any (h : Star w0 w (pt bs s t ++ S)) (hq : s.q.length ≤ 1000) : Calls Try.prog 11 #[.pointer (some ⟨bs, 0, none⟩)] w fun r w' => r = .returned (.tuple #[t3G (takeS s).1, .int .i64 (takeS s).2.1]) ∧ ∃ t', Star w0 w' (pt bs (takeS s).2.2 t' ++ S) := by
  obtain ⟨t0, t2⟩ := t
  obtain ⟨⟨A, c, rfl⟩, -⟩ := pt_rows h
  obtain ⟨q, ws, d, m⟩ := s
  cases q with
  | nil =>
    obtain ⟨k0, -⟩ := pt_cells (h.alloc (.cells #[.int .i64 0, .int .i64 0, .int .i64 0] 29))
    have hb := (h.newBlk 29 #[.int .i64 0, .int .i64 0, .int .i64 0])
    have HS := Lib.hid hb
    simp only [List.length_nil] at k0
    unfold takeS t3G
    clear h hb
    go_enter Try.func11, Try.ntmps11
    go_wp2
    (try simp only [Exit.inBlock, Exit.then])
    refine bodyPost_ret (results_agg_tmp rfl _ _ w.heap.size 29 #[.int .i64 0, .int .i64 0, .int .i64 0] (0, 0) _ rfl (HS.out.blk 0 rfl).heap u29 rfl (by rw [i29]; rfl)) rfl ⟨rfl, .slice A 0 c, t2, HS.out.tail⟩
  | cons x q =>
    obtain ⟨a, b, c'⟩ := x
    obtain ⟨g, off, cap, hv, hbg, hgl, hnc⟩ := (h.rowO 1 rfl).form (by simp)
    simp only [Value.slice.injEq, true_and] at hv
    obtain ⟨rfl, rfl⟩ := hv
    have hl1 : ((⟨q, ws, d, m⟩ : Po).q.length) = q.length := rfl
    simp only [List.length_cons] at hq hnc
    have h1 := h.newBlk 29 #[.int .i64 0, .int .i64 0, .int .i64 0]
    obtain ⟨k0, -⟩ := pt_cells (h.alloc (.cells #[.int .i64 0, .int .i64 0, .int .i64 0] 29))
    have ho1 := h1.rowO 2 rfl
    have r0 := ho1.cellAt 0 (by simp)
    have r1 := ho1.cellAt 1 (by simp; omega)
    have r2 := ho1.cellAt 2 (by simp; omega)
    have h2 := h1.newBlk 29 #[.int .i64 a, .int .i64 b, .int .i64 c']
    have k1 : ((w.alloc (.cells #[.int .i64 0, .int .i64 0, .int .i64 0] 29)).alloc (.cells #[.int .i64 a, .int .i64 b, .int .i64 c'] 29)).cell? ⟨bs, 0, none⟩ = some (.slice (some ⟨g, off, none⟩) (q.length + 1) c) := (h2.blk 2 rfl).cellv (i := 0) rfl
    obtain ⟨n, en⟩ : ∃ n, n = q.length := ⟨_, rfl⟩
    have EN := Lib.hid en
    have HD := Lib.hid (delete_any (front3 h2) rfl (by simp) (by simp; omega))
    simp only [List.length_cons, Nat.add_sub_cancel, List.tail_cons] at HD k0 k1 r0 r1 r2 hnc
    rw [← en] at HD k0 k1 hnc
    have e0 : (t3V (⟨a, b, c'⟩ :: q))[0]? = some (.int .i64 a) := rfl
    have e1 : (t3V (⟨a, b, c'⟩ :: q))[1]? = some (.int .i64 b) := rfl
    have e2 : (t3V (⟨a, b, c'⟩ :: q))[2]? = some (.int .i64 c') := rfl
    rw [e0] at r0
    rw [e1] at r1
    rw [e2] at r2
    rw [Nat.add_zero] at r0
    have n1 : (0 : Int) < (n : Int) + 1 := by omega
    have n2 : ¬ ((n : Int) + 1 = 0) := by omega
    have hqn : q.length ≤ 1000 := by omega
    have HC := Lib.hid (fun (W : World) (v : Value) (L : List Asr) (hW : Star w0 W (BlkA bs 62 #[v, t2, .int .i64 d, .int .i64 m, .int .i64 (usersN (⟨a, b, c'⟩ :: q)), .int .i64 (objsN (⟨a, b, c'⟩ :: q))] :: L)) => count_core hW ⟨a, b, c'⟩ (-1) (usersN (⟨a, b, c'⟩ :: q)) (objsN (⟨a, b, c'⟩ :: q)) rfl rfl (.inr rfl) (by have := usersN_le (⟨a, b, c'⟩ :: q); simp only [List.length_cons] at this; omega) (by have := objsN_le (⟨a, b, c'⟩ :: q); simp only [List.length_cons] at this; omega))
    unfold t3G at HC
    simp only at HC
    unfold takeS t3G
    simp only
    clear h h1 h2 ho1 en hq e0 e1 e2 hl1
    go_enter Try.func11, Try.ntmps11
    go_wp2_with (first
      | (go_at_call 28; (with_reducible refine HD.out.mono ?_); rintro e w3 ⟨v3, rfl, hs3⟩
         have hs4 := back3 hs3
         obtain ⟨A3, c3, rfl⟩ := (hs4.rowO 3 rfl).len
         have q3 := (hs4.blk 2 rfl).cellv (i := 0) rfl
         have q4 := (hs4.blk 2 rfl).frozen 0
         have hs5 := front2 (hs4.setBlk 2 rfl 0 (.slice A3 n c3))
         have HS5 := Lib.hid hs5
         have b0 : (w3.setCell ⟨bs, 0, none⟩ (.slice A3 n c3)).cell? ⟨w.heap.size + 1, 0, none⟩ = some (.int .i64 a) := by
           have := (hs5.blk 1 rfl).cellv (i := 0) rfl
           simpa using this
         have b1 : (w3.setCell ⟨bs, 0, none⟩ (.slice A3 n c3)).cell? ⟨w.heap.size + 1, 1, none⟩ = some (.int .i64 b) := by
           have := (hs5.blk 1 rfl).cellv (i := 1) rfl
           simpa using this
         have b2 : (w3.setCell ⟨bs, 0, none⟩ (.slice A3 n c3)).cell? ⟨w.heap.size + 1, 2, none⟩ = some (.int .i64 c') := by
           have := (hs5.blk 1 rfl).cellv (i := 2) rfl
           simpa using this
         clear hs3 hs4 hs5 k0 k1)
      | (go_at_call 29; (with_reducible refine (HC.out _ _ _ HS5.out).mono ?_); rintro e w5 ⟨rfl, hs5⟩
         have HS6 := Lib.hid hs5
         have d0 : w5.cell? ⟨w.heap.size + 1, 0, none⟩ = some (.int .i64 a) := by
           have := (hs5.blk 1 rfl).cellv (i := 0) rfl
           simpa using this
         have d1 : w5.cell? ⟨w.heap.size + 1, 1, none⟩ = some (.int .i64 b) := by
           have := (hs5.blk 1 rfl).cellv (i := 1) rfl
           simpa using this
         have d2 : w5.cell? ⟨w.heap.size + 1, 2, none⟩ = some (.int .i64 c') := by
           have := (hs5.blk 1 rfl).cellv (i := 2) rfl
           simpa using this
         have f0 := (hs5.blk 2 rfl).frozen 0
         have f1 := (hs5.blk 2 rfl).frozen 1
         have f2 := (hs5.blk 2 rfl).frozen 2
         have g0 : w5.cell? ⟨w.heap.size, 0, none⟩ = some (.int .i64 0) := (hs5.blk 2 rfl).cellv (i := 0) rfl
         have g1 : w5.cell? ⟨w.heap.size, 1, none⟩ = some (.int .i64 0) := (hs5.blk 2 rfl).cellv (i := 1) rfl
         have g2 : w5.cell? ⟨w.heap.size, 2, none⟩ = some (.int .i64 0) := (hs5.blk 2 rfl).cellv (i := 2) rfl
         clear hs5 q3 q4 b0 b1 b2))
    (try simp only [Exit.inBlock, Exit.then])
    have h1 := HS6.out.setBlk 2 rfl 0 (.int .i64 a)
    have h2 := h1.setBlk 2 rfl 1 (.int .i64 b)
    have h3 := h2.setBlk 2 rfl 2 (.int .i64 c')
    refine bodyPost_ret (results_agg_tmp rfl _ _ w.heap.size 29 #[.int .i64 a, .int .i64 b, .int .i64 c'] (0, 0) _ rfl (h3.blk 2 rfl).heap u29 rfl (by rw [i29]; rfl)) rfl ⟨rfl, (.slice A3 n c3, t2), ?_⟩
    have h4 := (back2 h3).tail.tail
    have e1 : ptC ⟨q, ws, d, m⟩ (.slice A3 n c3, t2) = (if b = 0 then (#[.slice A3 n c3, t2, .int .i64 d, .int .i64 m, .int .i64 (usersN (⟨a, b, c'⟩ :: q)), .int .i64 (objsN (⟨a, b, c'⟩ :: q))] : Array Value).setIfInBounds 4 (.int .i64 ((usersN (⟨a, b, c'⟩ :: q) : Int) + -1)) else (#[.slice A3 n c3, t2, .int .i64 d, .int .i64 m, .int .i64 (usersN (⟨a, b, c'⟩ :: q)), .int .i64 (objsN (⟨a, b, c'⟩ :: q))] : Array Value).setIfInBounds 5 (.int .i64 ((objsN (⟨a, b, c'⟩ :: q) : Int) + -1))) := by
      unfold ptC
      simp only [usersN_cons, objsN_cons]
      by_cases hb : b = 0
      · simp [hb]
        omega
      · simp [hb]
        omega
    show Star w0 _ (BlkA bs 62 (ptC ⟨q, ws, d, m⟩ (.slice A3 n c3, t2)) :: RowO 29 3 (.slice A3 n c3) q.length (t3V q) :: RowO 67 3 t2 ws.length (t3V ws) :: S)
    rw [e1, ← EN.out]
    exact h4
end
end Go.Proofs.Ytjkgkoilabbdgaa.Pt
