/- The tree of tasks: die. -/
import Derived.Test.YtojmhacafmpbgaaTkI3
namespace Go.Proofs.Ytojmhacafmpbgaa.Mem
open Go Go.RowKit
set_option linter.unusedVariables false
/-- One block, whatever it holds. -/
def ObjA (g : Nat) (o : Obj) : Asr := fun B F w => w.heap[g]? = some o ∧ B ≤ g ∧ F = Just g
instance (g : Nat) (o : Obj) : (ObjA g o).Ok where
  in_ := fun ⟨h1, h2, h3⟩ k hk => by
    subst h3
    obtain rfl : k = g := hk
    exact ⟨h2, (Array.getElem?_eq_some_iff.1 h1).1⟩
  keep := fun ⟨h1, h2, h3⟩ hu hd => by
    subst h3
    exact ⟨(hu.block _ (Array.getElem?_eq_some_iff.1 h1).1 (hd _ rfl)).trans h1, h2, rfl⟩
section
variable {w0 w : World} {L : List Asr}
theorem Star.obj {g : Nat} {o : Obj} (h : Star w0 w L) (i : Nat) (hi : L[i]? = some (ObjA g o)) : w.heap[g]? = some o := (h.of i hi).elim fun _ hx => hx.1.1
theorem Star.newObj (h : Star w0 w L) (o : Obj) : Star w0 (w.alloc o) (ObjA w.heap.size o :: L) :=
  h.new (F := Just w.heap.size) inferInstance ⟨World.alloc_heap_new w o, h.hb, rfl⟩ ((Upd.refl _ _).alloc o) (fun k hk => by rw [show k = w.heap.size from hk]; exact Nat.le_refl _)
theorem Star.setObj {g : Nat} {o : Obj} (h : Star w0 w L) (i : Nat) (hi : L[i]? = some (ObjA g o)) (o' : Obj) : Star w0 (w.putObj g o') (L.set i (ObjA g o')) := by
  obtain ⟨F, ⟨h1, h2, h3⟩, hin, hk⟩ := h.at_ i hi
  subst h3
  have hlt := (Array.getElem?_eq_some_iff.1 h1).1
  have hg := grownBy_putObj' w g o'
  exact hk inferInstance ⟨World.putObj_heap_same hlt, h2, rfl⟩ (Upd.of_grown hg (fun i hi => by cases hi; rfl)) (Grow.refl _ _)
/-- A row's head. -/
theorem Star.headO {e : TypeId} {size n c k : Nat} {A : Option Addr} {xs : List Value} (h : Star w0 w L) (i : Nat) (hi : L[i]? = some (RowO e size (.slice A n c) n xs)) (hk : k ≤ n) : Star w0 w (L.set i (RowO e size (.slice A k c) k (xs.take (k * size)))) := by
  obtain ⟨F, ⟨ha, hF⟩, hin, hkk⟩ := h.at_ i hi
  subst hF
  exact hkk (F' := OwnB (.slice A k c)) inferInstance ⟨ha.head hk, rfl⟩ (Upd.refl _ _) (fun j hj => .inl (by cases A <;> exact hj))
/-- append, in a round's frame. -/
theorem wpListIn_append_so {P : Program} {n l : Nat} {ops : Array Oper} {rest : List Oper} {o : Oper} {a : Act} {Q : Exit → Act → World → Prop} {e : TypeId} {size m : Nat} {v : Value} {xs : List Value} (hgd : o.guard = none) (s x : Operand) (t : TypeId) (ho : o.op = .call { callee := .builtin .append, args := #[s, x], argTypes := #[t, t] })
    (h : Star w0 w L) (j : Nat) (hj : L[j]? = some (RowO e size v m xs)) (i : TypeInfo) (z : Value) (bytes : Nat) (ht : P.underlying t = some (.slice e)) (hi : P.info? e = some i) (hz : i.zero = some z)
    (hsize : i.size = size) (hby : i.bytes = bytes) (hzs : z.cells.size = size) (hsz : 0 < size) (hs : a.eval s = v)
    (B : Nat) (A : Option Addr) (mm c : Nat) (news : List Value) (hx : a.eval x = .slice A mm c) (hr : Reads w B size A mm news) (h1 : ∀ u ∈ news, u.oneCell' = true)
    (h63 : m + mm ≤ maxLen) (hbytes : (m + mm) * bytes ≤ 140737488355328)
    (k : ∀ v' w', Star w0 w' (L.set j (RowO e size v' (m + mm) (xs ++ news))) → wpListIn (Fence.wide.inRound l) n P ops Q rest (a.put o.dst v') w') : wpListIn (Fence.wide.inRound l) n P ops Q (o :: rest) a w :=
  wpListIn_plain hgd fun _ hK => oper_round (by rw [ho]; intro c hc; cases hc) (wp_append_so s x t ho h j hj i z bytes ht hi hz hsize hby hzs hsz hs B A mm c news hx hr h1 h63 hbytes fun v' w' h2 => hK _ _ (k v' w' h2))
def dMark (D : Nat) : Deferred := { target := .collected D, args := #[] }
def dObj (D : Nat) : Asr := ObjA D (.deferred (some []))
theorem leaves_marks {F : Fence} {n : Nat} {P : Program} {fn : Func} {tmps : Array Value} {R : Ending → World → Prop} {w0 : World} {L : List Asr} : ∀ (Ds : List Nat) (w : World), Star w0 w (Ds.map dObj ++ L) → (∀ w', Star w0 w' L → ∃ v, (results fn tmps).run P w' = .ok v w' ∧ R (.returned v) w') → LeavesInM F n P fn tmps R (Ds.map dMark) .returning w
  | [], w, h, hR => hR w h
  | D :: Ds, w, h, hR => ⟨by simp, .inl ⟨D, _, rfl, run_takeDeferred (h.obj 0 rfl), leaves_marks Ds _ (h.setObj 0 rfl _).tail hR⟩⟩
end
end Go.Proofs.Ytojmhacafmpbgaa.Mem
namespace Go.Proofs.Ytojmhacafmpbgaa.Tk
open Go Go.RowKit Go.Shelf Go.Proofs.Ytojmhacafmpbgaa.Mem
set_option linter.unusedVariables false
set_option linter.unusedSimpArgs false
attribute [local go_sem] Oper.semAt_some
def deadT (s : Tr) (i : Nat) (x : Tk) (code : Int) : Tr := ⟨s.ts.set i { x with st := 2, co := code }, s.most, s.live - 1⟩
/-- die, step by step: the work to do (its last first), who died. -/
def dieF (code : Int) : Nat → Tr → List Nat → List Nat → Option (Tr × List Nat)
  | 0, _, _, _ => none
  | _ + 1, s, [], out => some (s, out)
  | n + 1, s, i :: stk, out => match taskAt s i with
    | none => none
    | some x => if x.st = 2 then dieF code n s stk out else
      if 65536 < x.bl.length ∨ s.live = 0 ∨ 65536 < s.live then none else
      match firstT s x.bl with
      | some y => dieF code n s (y :: i :: stk) out
      | none => if x.cr ≠ 0 ∧ aliveT (deadT s (i - 1) x code) x.cr = true then dieF code n (deadT s (i - 1) x code) (x.cr :: stk) (out ++ [i]) else dieF code n (deadT s (i - 1) x code) stk (out ++ [i])
theorem star_mid {w0 w : World} {X : Asr} {A S : List Asr} (h : Star w0 w (X :: (A ++ S))) : Star w0 w (A ++ X :: S) := h.perm List.perm_middle.symm
theorem star_swap {w0 w : World} {P T S : List Asr} (h : Star w0 w (P ++ (T ++ S))) : Star w0 w (T ++ (P ++ S)) := h.perm (List.perm_append_comm_assoc P T S)
/-- A task's death in memory. -/
theorem dead_star {w0 w : World} {P S : List Asr} {b i : Nat} {s : Tr} {v : Value} {ps : List (Nat × Value)} {x : Tk} {p : Nat × Value} (h : Star w0 w (P ++ (tr b s v ps ++ S))) (hx : s.ts[i]? = some x) (hp : ps[i]? = some p) (code : Int) (hl : 0 < s.live) :
    (w.cell? ⟨p.1, 2, none⟩ = some (.int .i64 x.st) ∧ (w.setCell ⟨p.1, 2, none⟩ (.int .i64 2)).cell? ⟨p.1, 3, none⟩ = some (.int .i64 x.co) ∧ w.frozen? ⟨p.1, 2, none⟩ = false ∧ (w.setCell ⟨p.1, 2, none⟩ (.int .i64 2)).frozen? ⟨p.1, 3, none⟩ = false ∧ ((w.setCell ⟨p.1, 2, none⟩ (.int .i64 2)).setCell ⟨p.1, 3, none⟩ (.int .i64 code)).frozen? ⟨b, 2, none⟩ = false ∧
      ((w.setCell ⟨p.1, 2, none⟩ (.int .i64 2)).setCell ⟨p.1, 3, none⟩ (.int .i64 code)).cell? ⟨b, 2, none⟩ = some (.int .i64 s.live)) ∧
    Star w0 (((w.setCell ⟨p.1, 2, none⟩ (.int .i64 2)).setCell ⟨p.1, 3, none⟩ (.int .i64 code)).setCell ⟨b, 2, none⟩ (.int .i64 ((s.live : Int) - 1))) (P ++ (tr b (deadT s i x code) v ps ++ S)) := by
  have h1 := star_swap h
  have hi := (List.getElem?_eq_some_iff.1 hx).1
  obtain ⟨q, hq, hb, -⟩ := tr_task h1 hx
  rw [hp] at hq
  injection hq with hq
  subst hq
  have h2 := tr_set h1 hx hp 2 (.int .i64 2) (x' := { x with st := 2 }) rfl rfl
  have hx2 : ({ s with ts := s.ts.set i { x with st := 2 } } : Tr).ts[i]? = some { x with st := 2 } := List.getElem?_set_self hi
  obtain ⟨q, hq, hb2, -⟩ := tr_task h2 hx2
  rw [hp] at hq
  injection hq with hq
  subst hq
  have h3 := tr_set h2 hx2 hp 3 (.int .i64 code) (x' := { x with st := 2, co := code }) rfl rfl
  have h4 := h3.setBlk 0 rfl 2 (.int .i64 ((s.live : Int) - 1))
  refine ⟨⟨(tk_cells hb).2.2.1, (tk_cells hb2).2.2.2.1, hb.frozen 2, hb2.frozen 3, (h3.blk 0 rfl).frozen 2, (h3.blk 0 rfl).cellv (i := 2) rfl⟩, ?_⟩
  refine star_swap (P := tr b (deadT s i x code) v ps) ?_
  have e : (s.live : Int) - 1 = ((s.live - 1 : Nat) : Int) := by omega
  rw [e] at h4 ⊢
  simp only [List.set_set] at h4
  exact h4
/-- What holds at each turn of die's loop. -/
def DRel (w0 : World) (S : List Asr) (b wb : Nat) (v : Value) (ps : List (Nat × Value)) (N : Nat) (code : Int) (R : Tr × List Nat) (K g : Nat) (u6 : Value) (Ds : List Nat) (W : World) : Prop :=
  ∃ s' stk out v7, dieF code g s' stk out = some R ∧ stk.length + g ≤ K ∧ out.length + g ≤ K ∧ Star w0 W (BlkA wb 28 #[v7] :: RowO 3 1 v7 stk.length (nV stk.reverse) :: RowO 3 1 u6 out.length (nV out) :: (tr b s' v ps ++ (Ds.map dObj ++ S)))
section
variable {w0 w : World} {S : List Asr} {b : Nat} {s : Tr} {v : Value} {ps : List (Nat × Value)}
set_option maxRecDepth 100000 in
set_option maxHeartbeats 4000000 in
theorem die_in (h : Star w0 w (tr b s v ps ++ S)) (id : Nat) (code : Int) (R : Tr × List Nat) (g0 : Nat) (hg0 : g0 ≤ 10000000) (hR : dieF code g0 s [id] [] = some R) : CallsIn Fence.wide 5 Try.prog 34 #[.pointer (some ⟨b, 0, none⟩), .int .i64 id, .int .i64 code] w fun e w' => ∃ u, e = .returned u ∧ Star w0 w' (RowO 3 1 u R.2.length (nV R.2) :: (tr b R.1 v ps ++ S)) := by
  have h1 := ((h.nilO 3 1).litRow 3 1 #[.int .i64 (id : Int)] 1 (by simp [maxLen]) rfl).toO 0 rfl
  simp only [List.set_cons_zero] at h1
  have h2 := h1.newBlk 28 #[.slice (some ⟨w.heap.size, 0, none⟩) 1 1]
  rw [World.size_alloc] at h2
  have HS := Lib.hid h2
  obtain ⟨K, hK⟩ : ∃ K, K = g0 + 1 := ⟨_, rfl⟩
  have HR := Lib.hid hR
  have HK := Lib.hid hK
  clear h h1 h2 hR hK
  refine callsIn_of_wp_marks Try.func34 rfl trivial ?_ rfl
  simp only [Try.ntmps34, List.size_toArray, List.length_cons, List.length_nil, Nat.reduceAdd, Nat.reduceSub, Array.replicate_succ, Array.replicate_zero, List.push_toArray, List.append_toArray, List.nil_append, List.cons_append]
  refine wpIn_wide.2 ?_
  go_wp2
  go_step3
  go_wp2
  go_step3
  go_wp2
  refine wp_loop_ghost_k (fun (g : Nat) (a : Act) (W : World) => ∃ (Ds : List Nat) (u6 u8 u9 u10 u11 u12 u13 u14 u15 u16 u17 u18 u19 u20 u21 u22 u23 u24 u25 u26 u27 u28 u29 u30 u31 u32 u33 u34 u35 u36 u37 u38 u39 u40 u41 u42 u43 u44 u45 u46 u47 u48 u49 u50 u51 u52 u53 u54 u55 u56 u57 u58 u59 u60 u61 u62 u63 u64 u65 u66 u67 u68 u69 u70 u71 u72 u73 u74 u75 u76 u77 u78 u79 u80 u81 u82 u83 u84 u85 u86 u87 u88 u89 u90 u91 : Value), DRel w0 S b (w.heap.size + 1) v ps s.ts.length code R K g u6 Ds W ∧ a = { tmps := [.pointer (some ⟨b, 0, none⟩), .int .i64 id, .int .i64 code, undef, undef, undef, u6, .pointer (some ⟨w.heap.size + 1, 0, none⟩), u8, u9, u10, u11, u12, u13, u14, u15, u16, u17, u18, u19, u20, u21, u22, u23, u24, u25, u26, u27, u28, u29, u30, u31, u32, u33, u34, u35, u36, u37, u38, u39, u40, u41, u42, u43, u44, u45, u46, u47, u48, u49, u50, u51, u52, u53, u54, u55, u56, u57, u58, u59, u60, u61, u62, u63, u64, u65, u66, u67, u68, u69, u70, u71, u72, u73, u74, u75, u76, u77, u78, u79, u80, u81, u82, u83, u84, u85, u86, u87, u88, u89, u90, u91, undef].toArray, defers := Ds.map dMark }) g0 ?_ ?_
  · refine ⟨[], ?_⟩
    (repeat apply Exists.intro)
    refine ⟨⟨s, [id], [], _, HR.out, by rw [HK.out]; simp; omega, by rw [HK.out]; simp, HS.out⟩, rfl⟩
  · intro gk a wr hinv
    obtain ⟨Ds, hinv⟩ := hinv
    obtain ⟨u6, hinv⟩ := hinv
    obtain ⟨u8, hinv⟩ := hinv
    obtain ⟨u9, hinv⟩ := hinv
    obtain ⟨u10, hinv⟩ := hinv
    obtain ⟨u11, hinv⟩ := hinv
    obtain ⟨u12, hinv⟩ := hinv
    obtain ⟨u13, hinv⟩ := hinv
    obtain ⟨u14, hinv⟩ := hinv
    obtain ⟨u15, hinv⟩ := hinv
    obtain ⟨u16, hinv⟩ := hinv
    obtain ⟨u17, hinv⟩ := hinv
    obtain ⟨u18, hinv⟩ := hinv
    obtain ⟨u19, hinv⟩ := hinv
    obtain ⟨u20, hinv⟩ := hinv
    obtain ⟨u21, hinv⟩ := hinv
    obtain ⟨u22, hinv⟩ := hinv
    obtain ⟨u23, hinv⟩ := hinv
    obtain ⟨u24, hinv⟩ := hinv
    obtain ⟨u25, hinv⟩ := hinv
    obtain ⟨u26, hinv⟩ := hinv
    obtain ⟨u27, hinv⟩ := hinv
    obtain ⟨u28, hinv⟩ := hinv
    obtain ⟨u29, hinv⟩ := hinv
    obtain ⟨u30, hinv⟩ := hinv
    obtain ⟨u31, hinv⟩ := hinv
    obtain ⟨u32, hinv⟩ := hinv
    obtain ⟨u33, hinv⟩ := hinv
    obtain ⟨u34, hinv⟩ := hinv
    obtain ⟨u35, hinv⟩ := hinv
    obtain ⟨u36, hinv⟩ := hinv
    obtain ⟨u37, hinv⟩ := hinv
    obtain ⟨u38, hinv⟩ := hinv
    obtain ⟨u39, hinv⟩ := hinv
    obtain ⟨u40, hinv⟩ := hinv
    obtain ⟨u41, hinv⟩ := hinv
    obtain ⟨u42, hinv⟩ := hinv
    obtain ⟨u43, hinv⟩ := hinv
    obtain ⟨u44, hinv⟩ := hinv
    obtain ⟨u45, hinv⟩ := hinv
    obtain ⟨u46, hinv⟩ := hinv
    obtain ⟨u47, hinv⟩ := hinv
    obtain ⟨u48, hinv⟩ := hinv
    obtain ⟨u49, hinv⟩ := hinv
    obtain ⟨u50, hinv⟩ := hinv
    obtain ⟨u51, hinv⟩ := hinv
    obtain ⟨u52, hinv⟩ := hinv
    obtain ⟨u53, hinv⟩ := hinv
    obtain ⟨u54, hinv⟩ := hinv
    obtain ⟨u55, hinv⟩ := hinv
    obtain ⟨u56, hinv⟩ := hinv
    obtain ⟨u57, hinv⟩ := hinv
    obtain ⟨u58, hinv⟩ := hinv
    obtain ⟨u59, hinv⟩ := hinv
    obtain ⟨u60, hinv⟩ := hinv
    obtain ⟨u61, hinv⟩ := hinv
    obtain ⟨u62, hinv⟩ := hinv
    obtain ⟨u63, hinv⟩ := hinv
    obtain ⟨u64, hinv⟩ := hinv
    obtain ⟨u65, hinv⟩ := hinv
    obtain ⟨u66, hinv⟩ := hinv
    obtain ⟨u67, hinv⟩ := hinv
    obtain ⟨u68, hinv⟩ := hinv
    obtain ⟨u69, hinv⟩ := hinv
    obtain ⟨u70, hinv⟩ := hinv
    obtain ⟨u71, hinv⟩ := hinv
    obtain ⟨u72, hinv⟩ := hinv
    obtain ⟨u73, hinv⟩ := hinv
    obtain ⟨u74, hinv⟩ := hinv
    obtain ⟨u75, hinv⟩ := hinv
    obtain ⟨u76, hinv⟩ := hinv
    obtain ⟨u77, hinv⟩ := hinv
    obtain ⟨u78, hinv⟩ := hinv
    obtain ⟨u79, hinv⟩ := hinv
    obtain ⟨u80, hinv⟩ := hinv
    obtain ⟨u81, hinv⟩ := hinv
    obtain ⟨u82, hinv⟩ := hinv
    obtain ⟨u83, hinv⟩ := hinv
    obtain ⟨u84, hinv⟩ := hinv
    obtain ⟨u85, hinv⟩ := hinv
    obtain ⟨u86, hinv⟩ := hinv
    obtain ⟨u87, hinv⟩ := hinv
    obtain ⟨u88, hinv⟩ := hinv
    obtain ⟨u89, hinv⟩ := hinv
    obtain ⟨u90, hinv⟩ := hinv
    obtain ⟨u91, hinv⟩ := hinv
    obtain ⟨hrel, ha⟩ := hinv
    subst ha
    try dsimp only
    intro J K' hJ hK
    obtain ⟨s', stk, out, v7, hd, hk1, hk2, hst⟩ := hrel
    have HJ := Lib.hid hJ
    clear hJ HS HR
    cases gk with
    | zero => simp [dieF] at hd
    | succ g =>
      cases stk with
      | nil =>
        simp only [dieF, Option.some.injEq] at hd
        subst hd
        obtain ⟨A7, c7, rfl⟩ := (hst.rowO 1 rfl).len
        have k7 := (hst.blk 0 rfl).cellv (i := 0) rfl
        have HST := Lib.hid hst
        clear hst hk1 hk2 HK HJ
        go_wp2
        refine leaves_marks (L := RowO 3 1 u6 out.length (nV out) :: (tr b s' v ps ++ S)) Ds _ (HST.out.tail.tail.perm ?_) (fun w' h => ⟨_, results_tmp (t := 6) rfl _ _ _, u6, rfl, h⟩)
        exact List.perm_append_comm_assoc (RowO 3 1 u6 out.length (nV out) :: tr b s' v ps) (Ds.map dObj) S
      | cons i stk =>
        simp only [dieF] at hd
        cases ht : taskAt s' i with
        | none =>
          rw [ht] at hd
          cases hd
        | some x =>
          rw [ht] at hd
          simp only at hd
          have hf := find_any hst.tail.tail.tail i
          rcases find_two hst.tail.tail.tail i with ⟨h1, -⟩ | ⟨x', p, h1, hp, h2, hb⟩
          · rw [ht] at h1
            cases h1
          rw [ht] at h1
          injection h1 with h1
          subst h1
          rw [h2] at hf
          have HF := Lib.hid hf
          obtain ⟨-, -, k2, -, -, -, -, -⟩ := tk_cells hb
          obtain ⟨g7, o7, c7, rfl, -, -, hc7⟩ := (hst.rowO 1 rfl).form (by simp)
          have k7 : wr.cell? ⟨w.heap.size + 1, 0, none⟩ = some (.slice (some ⟨g7, o7, none⟩) (i :: stk).length c7) := (hst.blk 0 rfl).cellv (i := 0) rfl
          have f7 := (hst.blk 0 rfl).frozen 0
          obtain ⟨n, hn⟩ : ∃ n, n = stk.length := ⟨_, rfl⟩
          obtain ⟨m, hm⟩ : ∃ m, m = n + 1 := ⟨_, rfl⟩
          have e7 : wr.cell? ⟨g7, o7 + n, none⟩ = some (.int .i64 (i : Int)) := by
            rw [(hst.rowO 1 rfl).cellAt n (by simp; omega)]
            simp [nV, hn]
          rw [List.length_cons, ← hn, ← hm] at k7 hc7
          have hm0 : (0 : Int) < m := by clear hd; omega
          have hm1 : (m : Int) - 1 = n := by clear hd; omega
          have hnm : (n : Int) < m := by clear hd; omega
          have hnc : (n : Int) ≤ c7 := by clear hd; omega
          have hw64 : wrap64 (n : Int) = (n : Int) := by
            have hmx := (hst.rowO 1 rfl).blk.2.2.1
            simp only [maxLen] at hmx
            unfold wrap64
            clear hd hm hm0 hm1 hnm
            omega
          have HST := Lib.hid hst
          by_cases hdead : x.st = 2
          · rw [if_pos hdead] at hd
            rw [hdead] at k2
            have hh := hst.headO (k := n) 1 rfl (by simp; omega)
            simp only [List.set_cons_zero, List.set_cons_succ] at hh
            have hh2 := hh.setBlk 0 rfl 0 (.slice (some ⟨g7, o7, none⟩) n c7)
            simp only [List.set_cons_zero] at hh2
            have HE : Hid (DRel w0 S b (w.heap.size + 1) v ps s.ts.length code R K g u6 Ds (wr.setCell ⟨w.heap.size + 1, 0, none⟩ (.slice (some ⟨g7, o7, none⟩) n c7))) := by
              refine Lib.hid ⟨s', stk, out, .slice (some ⟨g7, o7, none⟩) n c7, hd, by simp at hk1; omega, by omega, ?_⟩
              rw [show (nV (i :: stk).reverse).take (n * 1) = nV stk.reverse by simp [nV, hn]] at hh2
              rw [← hn]
              exact hh2
            clear hst hh hh2 hd hk1 hk2 ht hf h2 hb hp hdead hm hn
            go_wp2_with (first | (go_at_call 31; (with_reducible refine HF.out.mono ?_); rintro e w1 ⟨rfl, rfl⟩))
            refine Handed.intro g ?_ (HJ.out _ _ _ ⟨Ds, ?_⟩)
            · omega
            (repeat apply Exists.intro)
            exact ⟨HE.out, rfl⟩
          · rw [if_neg hdead] at hd
            by_cases hbig : 65536 < x.bl.length ∨ s'.live = 0 ∨ 65536 < s'.live
            · rw [if_pos hbig] at hd
              cases hd
            rw [if_neg hbig] at hd
            have HD := Lib.hid hd
            clear hd
            have hbl : x.bl.length ≤ 65536 := by omega
            have hlv : 0 < s'.live := by omega
            have hlu : (s'.live : Int) ≤ 65536 := by omega
            have z2 : ((x.st : Int) == 2) = false := by simp; omega
            have hxi : s'.ts[i - 1]? = some x := by
              have := taskAt_get ht
              rwa [show ((i : Int) - 1).toNat = i - 1 by omega] at this
            rw [show ((i : Int) - 1).toNat = i - 1 by omega] at hp
            have HX := Lib.hid hxi
            have HP := Lib.hid hp
            have HN := Lib.hid hn
            have HM := Lib.hid hm
            have H1 := Lib.hid hk1
            have H2 := Lib.hid hk2
            have HT := Lib.hid ht
            have HL := Lib.hid hlv
            have HB := Lib.hid hbl
            obtain ⟨i1, hi1, hy0, hy1, hy2⟩ := info_parts int_info
            obtain ⟨q, hq, -, ho⟩ := tr_task hst.tail.tail.tail hxi
            rw [hp] at hq
            injection hq with hq
            subst hq
            obtain ⟨Ax, cx, ex⟩ := ho.len
            have EX := Lib.hid ex
            clear hst ht hf h2 hb hp hdead hm hn hbig hk1 hk2 hxi hlv hbl ho ex
            go_wp2_with (first
              | (go_at_call 31; (with_reducible refine HF.out.mono ?_); rintro e w1 ⟨rfl, rfl⟩)
              | (go_at_call 35; (with_reducible refine (living_any _ _ _).mono ?_); rintro e w1 ⟨rfl, rfl⟩))
            have hsl := (HST.out.newBlk 22 #[.pointer (some ⟨b, 0, none⟩)]).newBlk 59 #[.pointer (some ⟨p.1, 0, none⟩)]
            rw [World.size_alloc] at hsl
            obtain ⟨Wl, eWl⟩ : ∃ Wl, (wr.alloc (.cells #[.pointer (some ⟨b, 0, none⟩)] 22)).alloc (.cells #[.pointer (some ⟨p.1, 0, none⟩)] 59) = Wl := ⟨_, rfl⟩
            rw [eWl] at hsl ⊢
            clear eWl HF k2 z2 e7 hw64
            refine (wpIn_wide (n := 5)).1 ?_
            refine wpIn_rangeFunc_here rfl (fun h => by cases h) trivial rfl (enters_of Try.func42 (by kernel_rfl) rfl) ?_
            intro rec W1 hst1 hpd1 e1 e2 e3 e4 hW1
            have h7 := (hsl.newObj (.deferred (some []))).newObj (.loop rec)
            rw [← hW1] at h7
            rw [World.size_alloc] at h7
            clear hsl hW1
            obtain ⟨l, el⟩ : ∃ l, l = Wl.heap.size + 1 := ⟨_, rfl⟩
            rw [← el] at h7 ⊢
            rw [List.length_cons, ← HN.out, ← HM.out] at h7
            obtain ⟨rx, erx⟩ : ∃ rx : Loop, rx = { rec with state := .done, pending := some (.exit 1) } := ⟨_, rfl⟩
            have hmz : m ≤ 20000000 := by
              have a1 := H1.out
              have a2 := HN.out
              have a3 := HM.out
              have a4 := HK.out
              rw [List.length_cons] at a1
              clear h7
              omega
            have hm3 : m + 1 ≤ maxLen := by simp only [maxLen]; omega
            have hY : ∀ y : Nat, firstT s' x.bl = some y → YieldAt Fence.wide (4 - 1) Try.prog l #[.int .i64 y] W1 fun e W' => e = .returned (.bool false) ∧ ∃ v8, Star w0 W' (ObjA l (.loop rx) :: ObjA Wl.heap.size (.deferred (some [])) :: BlkA (wr.heap.size + 1) 59 #[.pointer (some ⟨p.1, 0, none⟩)] :: BlkA wr.heap.size 22 #[.pointer (some ⟨b, 0, none⟩)] :: BlkA (w.heap.size + 1) 28 #[v8] :: RowO 3 1 v8 (m + 1) (nV (i :: stk).reverse ++ [.int .i64 y]) :: RowO 3 1 u6 out.length (nV out) :: (tr b s' v ps ++ (Ds.map dObj ++ S))) := by
              intro y hy
              have hl := h7.obj 0 rfl
              refine yield_here hl (by rw [e1]; rfl) hst1 ?_
              rw [e1, e2, e3, e4]
              have hb := h7.setObj 0 rfl (.loop { rec with state := .busy })
              have HBg := Lib.hid (run_beginRound (P := Try.prog) hl hst1)
              generalize W1.putObj l (.loop { rec with state := .busy }) = Wb at hb HBg
              simp only [List.set_cons_zero] at hb
              have ERX := Lib.hid erx
              have k7b : Wb.cell? ⟨w.heap.size + 1, 0, none⟩ = some (.slice (some ⟨g7, o7, none⟩) m c7) := (hb.blk 4 rfl).cellv (i := 0) rfl
              have HBB := Lib.hid hb
              clear h7 hb hl e1 e2 e3 e4 hst1 hpd1 erx el k7 f7 hy HST hK
              gi_wp2
              refine ⟨_, HBg.out, ?_⟩
              gi_wp2_with (first
                | (refine wpListIn_append_so rfl (.tmp 40) (.tmp 42) 28 rfl (HBB.out.alloc _) 5 rfl i1 _ 8 Try.underlying28 hi1 hy0 hy1 hy2 rfl (by omega) rfl _ (some ⟨Wb.heap.size, 0, none⟩) 1 1 [.int .i64 (y : Int)] rfl (reads_fresh_at _ 3 [.int .i64 (y : Int)] 1 1 Wb.heap.size rfl rfl) (by intro x hx; cases hx with | head => rfl | tail _ h => cases h) hm3 (by omega) ?_
                   intro v8 w8 hs8
                   simp only [List.set_cons_zero, List.set_cons_succ] at hs8
                   obtain ⟨A8, c8, rfl⟩ := (hs8.rowO 5 rfl).len
                   have f8 := (hs8.blk 4 rfl).frozen 0
                   have q8 := (hs8.blk 4 rfl).cellv (i := 0) rfl
                   have hs9 := hs8.setBlk 4 rfl 0 (.slice A8 (m + 1) c8)
                   simp only [List.set_cons_zero, List.set_cons_succ] at hs9
                   have HS9 := Lib.hid hs9
                   clear hs8 hs9))
              refine ⟨_, _, run_endRound _ (HS9.out.obj 0 rfl), rfl, .slice A8 (m + 1) c8, ?_⟩
              have := HS9.out.setObj 0 rfl (.loop rx)
              rw [ERX.out] at this ⊢
              exact this
            have hcells := (h7.tail.tail.tail.tail.tail.tail.tail)
            obtain ⟨q, hq, hb1, ho1⟩ := tr_task hcells HX.out
            rw [HP.out] at hq
            injection hq with hq
            subst hq
            have hx6 : W1.cell? ⟨p.1, 6, none⟩ = some (.slice Ax x.bl.length cx) := by
              rw [← EX.out]
              exact (tk_cells hb1).2.2.2.2.2.2.1
            rw [EX.out] at ho1
            have hA := living1_in 4 (by omega) l (wr.heap.size + 1) wr.heap.size b p.1 cx Ax s' x.bl W1 _ HB.out ((h7.blk 2 rfl).cellv (i := 0) rfl) ((h7.blk 3 rfl).cellv (i := 0) rfl) hx6 ⟨_, ho1.reads⟩ (fun id => alive_any hcells id) hY
            clear hY hcells hb1 ho1 hx6
            simp only [List.append_toArray, List.cons_append, List.nil_append]
            refine hA.mono ?_
            clear hA
            rintro e W2 ⟨⟨vv, rfl⟩, (⟨hno, rfl⟩ | ⟨y, hy, v8, hW⟩)⟩
            · have hend : (Instr.endLoop l).run Try.prog W2 = .ok none (W2.putObj l (.loop { rec with state := .exhausted })) := by
                rw [run_endLoop (P := Try.prog) (h7.obj 0 rfl) (by rw [hst1]; simp), hpd1]
              have h8 := h7.setObj 0 rfl (.loop { rec with state := .exhausted })
              generalize W2.putObj l (.loop { rec with state := .exhausted }) = W4 at hend h8
              refine ⟨_, W4, hend, ?_⟩
              have h9 : Star w0 W4 (ObjA Wl.heap.size (.deferred (some [])) :: BlkA (w.heap.size + 1) 28 #[.slice (some ⟨g7, o7, none⟩) m c7] :: RowO 3 1 (.slice (some ⟨g7, o7, none⟩) m c7) m (nV (i :: stk).reverse) :: RowO 3 1 u6 out.length (nV out) :: (tr b s' v ps ++ (Ds.map dObj ++ S))) := ((h8.tail).perm (List.Perm.trans (List.Perm.swap _ _ _) (List.Perm.cons _ (List.Perm.swap _ _ _)))).tail.tail
              have h10 : Star w0 W4 (BlkA (w.heap.size + 1) 28 #[.slice (some ⟨g7, o7, none⟩) m c7] :: RowO 3 1 (.slice (some ⟨g7, o7, none⟩) m c7) m (nV (i :: stk).reverse) :: RowO 3 1 u6 out.length (nV out) :: (tr b s' v ps ++ ((Wl.heap.size :: Ds).map dObj ++ S))) := star_mid (A := BlkA (w.heap.size + 1) 28 #[.slice (some ⟨g7, o7, none⟩) m c7] :: RowO 3 1 (.slice (some ⟨g7, o7, none⟩) m c7) m (nV (i :: stk).reverse) :: RowO 3 1 u6 out.length (nV out) :: tr b s' v ps) h9
              clear h8 h9 h7 hend e1 e2 e3 e4 hst1 hpd1 erx el k7 f7 HST
              have k7 : W4.cell? ⟨w.heap.size + 1, 0, none⟩ = some (.slice (some ⟨g7, o7, none⟩) m c7) := (h10.blk 0 rfl).cellv (i := 0) rfl
              have f7 := (h10.blk 0 rfl).frozen 0
              have h11 := h10.headO (k := n) 1 rfl (by clear h10; omega)
              simp only [List.set_cons_zero, List.set_cons_succ] at h11
              have h12 := h11.setBlk 0 rfl 0 (.slice (some ⟨g7, o7, none⟩) n c7)
              simp only [List.set_cons_zero] at h12
              rw [show (nV (i :: stk).reverse).take (n * 1) = nV stk.reverse by have := HN.out; simp [nV, this]] at h12
              obtain ⟨⟨ra, rb, fa, fb, fc, r2⟩, h13⟩ := dead_star (P := [BlkA (w.heap.size + 1) 28 #[.slice (some ⟨g7, o7, none⟩) n c7], RowO 3 1 (.slice (some ⟨g7, o7, none⟩) n c7) n (nV stk.reverse), RowO 3 1 u6 out.length (nV out)]) h12 HX.out HP.out code HL.out
              obtain ⟨W5, e5⟩ : ∃ W5, W4.setCell ⟨w.heap.size + 1, 0, none⟩ (.slice (some ⟨g7, o7, none⟩) n c7) = W5 := ⟨_, rfl⟩
              rw [e5] at ra rb fa fb fc r2 h13
              obtain ⟨W8, e8⟩ : ∃ W8, ((W5.setCell ⟨p.1, 2, none⟩ (.int .i64 2)).setCell ⟨p.1, 3, none⟩ (.int .i64 code)).setCell ⟨b, 2, none⟩ (.int .i64 ((s'.live : Int) - 1)) = W8 := ⟨_, rfl⟩
              rw [e8] at h13
              have HS13 : Hid (Star w0 W8 (BlkA (w.heap.size + 1) 28 #[.slice (some ⟨g7, o7, none⟩) n c7] :: RowO 3 1 (.slice (some ⟨g7, o7, none⟩) n c7) n (nV stk.reverse) :: RowO 3 1 u6 out.length (nV out) :: (tr b (deadT s' (i - 1) x code) v ps ++ ((Wl.heap.size :: Ds).map dObj ++ S)))) := Lib.hid h13
              have hx2 : (deadT s' (i - 1) x code).ts[i - 1]? = some { x with st := 2, co := code } := List.getElem?_set_self (List.getElem?_eq_some_iff.1 HX.out).1
              have HX2 := Lib.hid hx2
              obtain ⟨A6, c6, e6⟩ := (h13.rowO 2 rfl).len
              subst e6
              have hoz : out.length ≤ 20000000 := by
                have a1 := H2.out
                have a4 := HK.out
                clear h10 h11 h12 h13 e5 e8
                omega
              have hoz3 : out.length + 1 ≤ maxLen := by simp only [maxLen]; clear h10 h11 h12 h13 e5 e8; omega
              have hlz : (0 : Int) < s'.live := by have := HL.out; clear h10 h11 h12 h13 e5 e8; omega
              have HNO := Lib.hid hno
              clear h10 h11 h12 h13 hx2 hno
              show Exit.inBlock 2 (Exit.then _ _) Exit.normal _ _
              simp only [Exit.inBlock, Exit.then]
              by_cases hcr : x.cr = 0
              · have z5 : ((x.cr : Int) != 0) = false := by rw [hcr]; rfl
                have HC := Lib.hid (show ¬ (x.cr ≠ 0 ∧ aliveT (deadT s' (i - 1) x code) x.cr = true) from fun h => h.1 hcr)
                clear hcr
                go_wp2_with (first
                  | (at_builtin; refine wpList_append_so rfl (.tmp 65) (.tmp 67) 28 rfl (HS13.out.alloc _) 2 rfl i1 _ 8 Try.underlying28 hi1 hy0 hy1 hy2 rfl (by omega) rfl _ (some ⟨W8.heap.size, 0, none⟩) 1 1 [.int .i64 (i : Int)] rfl (reads_fresh_at _ 3 [.int .i64 (i : Int)] 1 1 W8.heap.size rfl rfl) (by intro x hx; cases hx with | head => rfl | tail _ h => cases h) hoz3 (by omega) ?_
                     intro v9 w9 hs9
                     obtain ⟨A9, c9, rfl⟩ := (hs9.rowO 2 rfl).len
                     have hs9b : Star w0 w9 (BlkA (w.heap.size + 1) 28 #[.slice (some ⟨g7, o7, none⟩) n c7] :: RowO 3 1 (.slice (some ⟨g7, o7, none⟩) n c7) n (nV stk.reverse) :: RowO 3 1 (.slice A9 (out.length + 1) c9) (out.length + 1) (nV out ++ [.int .i64 (i : Int)]) :: (tr b (deadT s' (i - 1) x code) v ps ++ ((Wl.heap.size :: Ds).map dObj ++ S))) := hs9
                     obtain ⟨q, hq, hbq, -⟩ := tr_task hs9b.tail.tail.tail HX2.out
                     rw [HP.out] at hq
                     injection hq with hq
                     subst hq
                     have r5 : w9.cell? ⟨p.1, 5, none⟩ = some (.int .i64 x.cr) := (tk_cells hbq).2.2.2.2.2.1
                     have k9 : w9.drew.cell? ⟨w.heap.size + 1, 0, none⟩ = some (.slice (some ⟨g7, o7, none⟩) n c7) := (hs9b.blk 0 rfl).cellv (i := 0) rfl
                     have HAl := Lib.hid (alive_any hs9b.tail.tail.tail x.cr)
                     have HS9 := Lib.hid hs9b
                     clear hs9 hs9b hbq))
                have HE : Hid (DRel w0 S b (w.heap.size + 1) v ps s.ts.length code R K g (.slice A9 (out.length + 1) c9) (Wl.heap.size :: Ds) w9) := by
                  have hd := HD.out
                  have a1 := H1.out
                  have a2 := H2.out
                  rw [List.length_cons] at a1
                  rw [HNO.out] at hd
                  simp only at hd
                  rw [if_neg HC.out] at hd
                  refine Lib.hid ⟨deadT s' (i - 1) x code, stk, out ++ [i], .slice (some ⟨g7, o7, none⟩) n c7, hd, by clear hd; omega, by rw [List.length_append]; simp only [List.length_cons, List.length_nil]; clear hd; omega, ?_⟩
                  rw [← HN.out, show (out ++ [i]).length = out.length + 1 by simp, show nV (out ++ [i]) = nV out ++ [.int .i64 (i : Int)] by simp [nV]]
                  exact HS9.out
                refine Handed.intro g (by omega) (HJ.out _ _ _ ⟨Wl.heap.size :: Ds, ?_⟩)
                (repeat apply Exists.intro)
                exact ⟨HE.out, rfl⟩
              · have z5 : ((x.cr : Int) != 0) = true := by simp; omega
                clear hcr
                cases hal : aliveT (deadT s' (i - 1) x code) x.cr with
                | false =>
                  have HC := Lib.hid (show ¬ (x.cr ≠ 0 ∧ aliveT (deadT s' (i - 1) x code) x.cr = true) from fun h => by rw [hal] at h; exact absurd h.2 (by decide))
                  have HAF := Lib.hid hal
                  clear hal
                  go_wp2_with (first
                  | (go_at_call 16; (with_reducible refine HAl.out.mono ?_); rintro e w10 ⟨rfl, rfl⟩; rw [HAF.out])
                  | (at_builtin; refine wpList_append_so rfl (.tmp 65) (.tmp 67) 28 rfl (HS13.out.alloc _) 2 rfl i1 _ 8 Try.underlying28 hi1 hy0 hy1 hy2 rfl (by omega) rfl _ (some ⟨W8.heap.size, 0, none⟩) 1 1 [.int .i64 (i : Int)] rfl (reads_fresh_at _ 3 [.int .i64 (i : Int)] 1 1 W8.heap.size rfl rfl) (by intro x hx; cases hx with | head => rfl | tail _ h => cases h) hoz3 (by omega) ?_
                     intro v9 w9 hs9
                     obtain ⟨A9, c9, rfl⟩ := (hs9.rowO 2 rfl).len
                     have hs9b : Star w0 w9 (BlkA (w.heap.size + 1) 28 #[.slice (some ⟨g7, o7, none⟩) n c7] :: RowO 3 1 (.slice (some ⟨g7, o7, none⟩) n c7) n (nV stk.reverse) :: RowO 3 1 (.slice A9 (out.length + 1) c9) (out.length + 1) (nV out ++ [.int .i64 (i : Int)]) :: (tr b (deadT s' (i - 1) x code) v ps ++ ((Wl.heap.size :: Ds).map dObj ++ S))) := hs9
                     obtain ⟨q, hq, hbq, -⟩ := tr_task hs9b.tail.tail.tail HX2.out
                     rw [HP.out] at hq
                     injection hq with hq
                     subst hq
                     have r5 : w9.cell? ⟨p.1, 5, none⟩ = some (.int .i64 x.cr) := (tk_cells hbq).2.2.2.2.2.1
                     have k9 : w9.drew.cell? ⟨w.heap.size + 1, 0, none⟩ = some (.slice (some ⟨g7, o7, none⟩) n c7) := (hs9b.blk 0 rfl).cellv (i := 0) rfl
                     have HAl := Lib.hid (alive_any hs9b.tail.tail.tail x.cr)
                     have HS9 := Lib.hid hs9b
                     clear hs9 hs9b hbq))
                  have HE : Hid (DRel w0 S b (w.heap.size + 1) v ps s.ts.length code R K g (.slice A9 (out.length + 1) c9) (Wl.heap.size :: Ds) w9) := by
                    have hd := HD.out
                    have a1 := H1.out
                    have a2 := H2.out
                    rw [List.length_cons] at a1
                    rw [HNO.out] at hd
                    simp only at hd
                    rw [if_neg HC.out] at hd
                    refine Lib.hid ⟨deadT s' (i - 1) x code, stk, out ++ [i], .slice (some ⟨g7, o7, none⟩) n c7, hd, by clear hd; omega, by rw [List.length_append]; simp only [List.length_cons, List.length_nil]; clear hd; omega, ?_⟩
                    rw [← HN.out, show (out ++ [i]).length = out.length + 1 by simp, show nV (out ++ [i]) = nV out ++ [.int .i64 (i : Int)] by simp [nV]]
                    exact HS9.out
                  refine Handed.intro g (by omega) (HJ.out _ _ _ ⟨Wl.heap.size :: Ds, ?_⟩)
                  (repeat apply Exists.intro)
                  exact ⟨HE.out, rfl⟩
                | true =>
                  have hcr0 : x.cr ≠ 0 := by
                    intro e
                    rw [e] at z5
                    cases z5
                  have HC := Lib.hid (show x.cr ≠ 0 ∧ aliveT (deadT s' (i - 1) x code) x.cr = true from ⟨hcr0, hal⟩)
                  have HAF := Lib.hid hal
                  clear hal hcr0
                  go_wp2_with (first
                  | (go_at_call 16; (with_reducible refine HAl.out.mono ?_); rintro e w10 ⟨rfl, rfl⟩; rw [HAF.out])
                  | (at_builtin; refine wpList_append_so rfl (.tmp 65) (.tmp 67) 28 rfl (HS13.out.alloc _) 2 rfl i1 _ 8 Try.underlying28 hi1 hy0 hy1 hy2 rfl (by omega) rfl _ (some ⟨W8.heap.size, 0, none⟩) 1 1 [.int .i64 (i : Int)] rfl (reads_fresh_at _ 3 [.int .i64 (i : Int)] 1 1 W8.heap.size rfl rfl) (by intro x hx; cases hx with | head => rfl | tail _ h => cases h) hoz3 (by omega) ?_
                     intro v9 w9 hs9
                     obtain ⟨A9, c9, rfl⟩ := (hs9.rowO 2 rfl).len
                     have hs9b : Star w0 w9 (BlkA (w.heap.size + 1) 28 #[.slice (some ⟨g7, o7, none⟩) n c7] :: RowO 3 1 (.slice (some ⟨g7, o7, none⟩) n c7) n (nV stk.reverse) :: RowO 3 1 (.slice A9 (out.length + 1) c9) (out.length + 1) (nV out ++ [.int .i64 (i : Int)]) :: (tr b (deadT s' (i - 1) x code) v ps ++ ((Wl.heap.size :: Ds).map dObj ++ S))) := hs9
                     obtain ⟨q, hq, hbq, -⟩ := tr_task hs9b.tail.tail.tail HX2.out
                     rw [HP.out] at hq
                     injection hq with hq
                     subst hq
                     have r5 : w9.cell? ⟨p.1, 5, none⟩ = some (.int .i64 x.cr) := (tk_cells hbq).2.2.2.2.2.1
                     have k9 : w9.drew.cell? ⟨w.heap.size + 1, 0, none⟩ = some (.slice (some ⟨g7, o7, none⟩) n c7) := (hs9b.blk 0 rfl).cellv (i := 0) rfl
                     have HAl := Lib.hid (alive_any hs9b.tail.tail.tail x.cr)
                     have HS9 := Lib.hid hs9b
                     clear hs9 hs9b hbq))
                  have hm4 : n + 1 ≤ maxLen := by simp only [maxLen]; omega
                  have HS10 := Lib.hid ((star_dr HS9.out).alloc (.cells #[.int .i64 (x.cr : Int)] 3))
                  have k10 : (w9.alloc (.cells #[.int .i64 (x.cr : Int)] 3)).cell? ⟨w.heap.size + 1, 0, none⟩ = some (.slice (some ⟨g7, o7, none⟩) n c7) := ((HS9.out.alloc _).blk 0 rfl).cellv (i := 0) rfl
                  have HR10 := Lib.hid (reads_fresh_at w9.drew 3 [.int .i64 (x.cr : Int)] 1 1 w9.heap.size rfl (by rfl))
                  refine wp_region_noPanic ?_
                  go_region_law (first
                    | (refine step_append_so (by rfl) (.tmp 84) (.tmp 90) 28 (by rfl) HS10.out 1 rfl i1 _ 8 Try.underlying28 hi1 hy0 hy1 hy2 rfl (by omega) (by rfl) _ (some ⟨w9.heap.size, 0, none⟩) 1 1 [.int .i64 (x.cr : Int)] (by rfl) HR10.out (by intro x hx; cases hx with | head => rfl | tail _ h => cases h) hm4 (by omega) ?_
                       intro v6 w6 hs6
                       obtain ⟨A8, c8, rfl⟩ := (hs6.rowO 1 rfl).len
                       have f6 := (hs6.blk 0 rfl).frozen 0
                       have q6 := (hs6.blk 0 rfl).cellv (i := 0) rfl
                       have hs7 := hs6.setBlk 0 rfl 0 (.slice A8 (n + 1) c8)
                       have HS7 : Hid (Star w0 (w6.setCell ⟨w.heap.size + 1, 0, none⟩ (.slice A8 (n + 1) c8)) (BlkA (w.heap.size + 1) 28 #[.slice A8 (n + 1) c8] :: RowO 3 1 (.slice A8 (n + 1) c8) (n + 1) (nV stk.reverse ++ [.int .i64 (x.cr : Int)]) :: RowO 3 1 (.slice A9 (out.length + 1) c9) (out.length + 1) (nV out ++ [.int .i64 (i : Int)]) :: (tr b (deadT s' (i - 1) x code) v ps ++ ((Wl.heap.size :: Ds).map dObj ++ S)))) := Lib.hid hs7
                       clear hs6 hs7))
                  all_goals
                    simp only [NoPanic]
                    go_wp2
                    have HE : Hid (DRel w0 S b (w.heap.size + 1) v ps s.ts.length code R K g (.slice A9 (out.length + 1) c9) (Wl.heap.size :: Ds) (w6.setCell ⟨w.heap.size + 1, 0, none⟩ (.slice A8 (n + 1) c8))) := by
                      have hd := HD.out
                      have a1 := H1.out
                      have a2 := H2.out
                      rw [List.length_cons] at a1
                      rw [HNO.out] at hd
                      simp only at hd
                      rw [if_pos HC.out] at hd
                      refine Lib.hid ⟨deadT s' (i - 1) x code, x.cr :: stk, out ++ [i], .slice A8 (n + 1) c8, hd, by rw [List.length_cons]; clear hd; omega, by rw [List.length_append]; simp only [List.length_cons, List.length_nil]; clear hd; omega, ?_⟩
                      rw [List.length_cons, ← HN.out, show (out ++ [i]).length = out.length + 1 by simp, show nV (out ++ [i]) = nV out ++ [.int .i64 (i : Int)] by simp [nV], show nV (x.cr :: stk).reverse = nV stk.reverse ++ [.int .i64 (x.cr : Int)] by simp [nV]]
                      exact HS7.out
                    refine Handed.intro g (by omega) (HJ.out _ _ _ ⟨Wl.heap.size :: Ds, ?_⟩)
                    (repeat apply Exists.intro)
                    exact ⟨HE.out, rfl⟩
            · have hend : (Instr.endLoop l).run Try.prog W2 = .ok (some (.exit 1)) (W2.putObj l (.loop { rx with state := .exhausted })) := by
                rw [run_endLoop (P := Try.prog) (hW.obj 0 rfl) (by rw [erx]; simp), show rx.pending = some (.exit 1) by rw [erx]]
              have h8 := hW.setObj 0 rfl (.loop { rx with state := .exhausted })
              generalize W2.putObj l (.loop { rx with state := .exhausted }) = W4 at hend h8
              refine ⟨_, W4, hend, ?_⟩
              have h9 : Star w0 W4 (ObjA Wl.heap.size (.deferred (some [])) :: BlkA (w.heap.size + 1) 28 #[v8] :: RowO 3 1 v8 (m + 1) (nV (i :: stk).reverse ++ [.int .i64 (y : Int)]) :: RowO 3 1 u6 out.length (nV out) :: (tr b s' v ps ++ (Ds.map dObj ++ S))) := ((h8.tail).perm (List.Perm.trans (List.Perm.swap _ _ _) (List.Perm.cons _ (List.Perm.swap _ _ _)))).tail.tail
              have h10 := star_mid (A := BlkA (w.heap.size + 1) 28 #[v8] :: RowO 3 1 v8 (m + 1) (nV (i :: stk).reverse ++ [.int .i64 (y : Int)]) :: RowO 3 1 u6 out.length (nV out) :: tr b s' v ps) h9
              have HE : Hid (DRel w0 S b (w.heap.size + 1) v ps s.ts.length code R K g u6 (Wl.heap.size :: Ds) W4) := by
                have hd := HD.out
                rw [hy] at hd
                have a1 := H1.out
                have a2 := H2.out
                have a3 := HN.out
                have a4 := HM.out
                rw [List.length_cons] at a1
                refine Lib.hid ⟨s', y :: i :: stk, out, v8, hd, by simp only [List.length_cons]; clear hd h8 h9 h10; omega, by clear hd h8 h9 h10; omega, ?_⟩
                rw [show (y :: i :: stk).length = m + 1 by rw [HM.out, HN.out]; rfl, show nV (y :: i :: stk).reverse = nV (i :: stk).reverse ++ [.int .i64 (y : Int)] by simp [nV]]
                exact h10
              clear h8 h9 h10 hW h7 hend e1 e2 e3 e4 hst1 hpd1 erx el k7 f7 HST
              gi_wp2
              refine Handed.intro g (by omega) (HJ.out _ _ _ ⟨Wl.heap.size :: Ds, ?_⟩)
              (repeat apply Exists.intro)
              exact ⟨HE.out, rfl⟩
end
end Go.Proofs.Ytojmhacafmpbgaa.Tk
