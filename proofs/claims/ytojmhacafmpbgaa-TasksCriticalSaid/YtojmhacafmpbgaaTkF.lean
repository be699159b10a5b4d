/- The tree of tasks: Info, Below. -/
import Derived.Test.YtojmhacafmpbgaaTkE
import Derived.Laws.ResultCell
import Derived.Laws.Rows
namespace Go.Proofs.Ytojmhacafmpbgaa.Tk
open Go Go.RowKit Go.Proofs.Ytojmhacafmpbgaa.Mem
set_option linter.unusedVariables false
set_option linter.unusedSimpArgs false
theorem results_agg_tmp {P : Program} {fn : Func} {p u : Tmp} {ty : TypeId} (h : fn.results = #[.cell p ty, .tmp u]) (tmps : Array Value) (w : World) (g : Nat) (t : TypeId) (cs : Array Value) (fr : Nat × Nat) (d : TypeDesc)
    (hp : tmps.getD p undef = .pointer (some ⟨g, 0, none⟩)) (hg : w.heap[g]? = some (.cells cs t fr))
    (hu : P.underlying ty = some d) (hd : (match d with | .struct _ | .array _ _ => true | _ => false) = true) (hi : (P.info? ty).map (·.size) = some cs.size) :
    (results fn tmps).run P w = .ok (.tuple #[.agg cs, tmps.getD u undef]) w := by
  rw [results_cell_tmp h, hp]
  simp [asAddr, run_loadVar_row w g t ty cs fr d hg hu hd hi, Result.andThen]
theorem u40 : Try.prog.underlying 40 = some (.struct (match Try.prog.underlying 40 with | some (.struct f) => f | _ => #[])) := by kernel_rfl
theorem i40 : (Try.prog.info? 40).map (·.size) = some 6 := by kernel_rfl
def infoC : Option Tk → Array Value
  | none => #[.int .i64 0, .int .i64 0, .int .i64 0, .int .i64 0, .int .i64 0, .int .i64 0]
  | some x => #[.int .i64 x.kd, .int .i64 x.pa, .int .i64 x.st, .int .i64 x.co, .int .i64 x.po, .int .i64 x.cr]
section
variable {w0 w : World} {S : List Asr} {b : Nat} {s : Tr} {v : Value} {ps : List (Nat × Value)}
set_option maxHeartbeats 2000000 in
theorem info_any (h : Star w0 w (tr b s v ps ++ S)) (id : Int) : Calls Try.prog 19 #[.pointer (some ⟨b, 0, none⟩), .int .i64 id] w fun r w' => r = .returned (.tuple #[.agg (infoC (taskAt s id)), .bool (taskAt s id).isSome]) ∧ Star w0 w' (tr b s v ps ++ S) := by
  have h5 := h.newBlk 40 #[.int .i64 0, .int .i64 0, .int .i64 0, .int .i64 0, .int .i64 0, .int .i64 0]
  have H0 := Lib.hid h
  have hf := find_any h5.tail id
  rcases find_two h5.tail id with ⟨h1, h2⟩ | ⟨x, p, h1, -, h2, hb⟩
  · rw [h1]
    rw [h2] at hf
    have HF := Lib.hid hf
    have H5 := Lib.hid h5
    clear h h5 hf h1 h2
    go_enter Try.func19, Try.ntmps19
    go_wp2_with (first | (go_at_call 31; (with_reducible refine HF.out.mono ?_); rintro e w1 ⟨rfl, rfl⟩))
    refine bodyPost_ret (results_agg_tmp rfl _ _ w.heap.size 40 _ (0, 0) _ rfl (World.alloc_heap_new w _) u40 rfl (by rw [i40]; rfl)) rfl ⟨rfl, H0.out.alloc _⟩
  · rw [h1]
    rw [h2] at hf
    have HF := Lib.hid hf
    obtain ⟨k0, k1, k2, k3, k4, k5, -, -⟩ := tk_cells hb
    have H5 := Lib.hid h5
    clear h h5 hf h1 h2 hb
    go_enter Try.func19, Try.ntmps19
    go_wp2_with (first | (go_at_call 31; (with_reducible refine HF.out.mono ?_); rintro e w1 ⟨rfl, rfl⟩))
    refine bodyPost_ret (results_agg_tmp rfl _ _ w.heap.size 40 _ (0, 0) _ rfl (World.alloc_heap_new w _) u40 rfl (by rw [i40]; rfl)) rfl ⟨rfl, H0.out.alloc _⟩
/-- What stands below a task. -/
def belowT (s : Tr) (id : Int) : List Nat := match taskAt s id with | none => [] | some x => x.bl
theorem int_info : (Try.prog.info? 3).map (fun i => (i.zero, i.size, i.bytes)) = some (some (.int .i64 0), 1, 8) := by kernel_rfl
theorem nV_one (l : List Nat) : ∀ u ∈ nV l, u.oneCell' = true := fun u hu => by
  obtain ⟨x, -, rfl⟩ := List.mem_map.1 hu
  rfl
set_option maxHeartbeats 2000000 in
theorem below_any (h : Star w0 w (tr b s v ps ++ S)) (id : Int) (hb8 : (belowT s id).length ≤ 65536) : Calls Try.prog 29 #[.pointer (some ⟨b, 0, none⟩), .int .i64 id] w fun r w' => ∃ u, r = .returned u ∧ Star w0 w' (RowO 3 1 u (belowT s id).length (nV (belowT s id)) :: (tr b s v ps ++ S)) := by
  obtain ⟨i0, hi0, hz0, hz1, hz2⟩ := info_parts int_info
  have HS := Lib.hid h
  have HN := Lib.hid (h.nilO 3 1)
  have hf := find_any h id
  unfold belowT at *
  rcases find_two h id with ⟨h1, h2⟩ | ⟨x, p, h1, hp, h2, hb⟩
  · rw [h1]
    rw [h2] at hf
    have HF := Lib.hid hf
    clear h hf h1 h2 hb8
    go_enter Try.func29, Try.ntmps29
    go_wp2_with (first | (go_at_call 31; (with_reducible refine HF.out.mono ?_); rintro e w1 ⟨rfl, rfl⟩))
    go_ret
    exact ⟨_, rfl, HN.out⟩
  · rw [h1] at hb8 ⊢
    rw [h2] at hf
    have HF := Lib.hid hf
    obtain ⟨-, -, -, -, -, -, k6, -⟩ := tk_cells hb
    obtain ⟨p', hp', -, ho⟩ := tr_task h (taskAt_get h1)
    rw [hp] at hp'
    injection hp' with hp'
    subst hp'
    obtain ⟨A, c, hv⟩ := ho.len
    rw [hv] at k6 ho
    have HR := Lib.hid ho.reads
    simp only at hb8 ⊢
    have h1' := nV_one x.bl
    clear h hf h1 h2 hb ho hv hp
    generalize x.bl.length = n at *
    go_enter Try.func29, Try.ntmps29
    go_wp2_with (first
      | (go_at_call 31; (with_reducible refine HF.out.mono ?_); rintro e w1 ⟨rfl, rfl⟩)
      | (at_builtin; refine wpList_append_so rfl (.tmp 12) (.tmp 16) 28 rfl HN.out 0 rfl i0 _ 8 Try.underlying28 hi0 hz0 hz1 hz2 rfl (by omega) rfl _ A n c (nV x.bl) rfl HR.out h1' (by simp only [maxLen]; omega) (by omega) ?_
         intro v4 w4 hs4
         simp only [List.set_cons_zero, Nat.zero_add, List.nil_append] at hs4
         have HT4 := Lib.hid hs4
         clear hs4))
    go_ret
    exact ⟨_, rfl, HT4.out⟩
end
end Go.Proofs.Ytojmhacafmpbgaa.Tk
