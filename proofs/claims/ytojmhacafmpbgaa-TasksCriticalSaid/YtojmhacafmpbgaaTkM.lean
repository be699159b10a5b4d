/- Results that lie in cells; the tree of tasks: SetPolicy refused. -/
import Derived.Test.YtojmhacafmpbgaaTkL
namespace Go.Proofs.Ytojmhacafmpbgaa.Mem
open Go Go.RowKit
set_option linter.unusedVariables false
set_option linter.unusedSimpArgs false
def rowD (d : TypeDesc) : Bool := match d with | .struct _ => true | .array _ _ => true | _ => false
theorem run_loadVar_cell {P : Program} (w : World) (ty : TypeId) (a : Addr) (u : Value) (d : TypeDesc) (hu : P.underlying ty = some d) (hd : rowD d = false) (hc : w.cell? a = some u) : (loadVar ty a).run P w = .ok u w := by
  have hagg : (isAgg ty).run P w = .ok false w := by
    unfold isAgg
    rw [Sem.run_bind, run_underlying hu w]
    cases d <;> simp_all [rowD]
  simp [loadVar, Sem.run_bind, hagg, go_sem, hc, Result.andThen]
theorem results_cell1 {P : Program} {fn : Func} {p : Tmp} {ty : TypeId} (h : fn.results = #[.cell p ty]) (tmps : Array Value) (w : World) (a : Addr) (u : Value) (d : TypeDesc)
    (hp : tmps.getD p undef = .pointer (some a)) (hu : P.underlying ty = some d) (hd : rowD d = false) (hc : w.cell? a = some u) : (results fn tmps).run P w = .ok u w := by
  rw [Array.getD_eq_getD_getElem?] at hp
  simp only [results, h]
  simp [Sem.run_bind, Result.andThen, hp, asAddr, run_loadVar_cell w ty a u d hu hd hc]
theorem results_cell2 {P : Program} {fn : Func} {p q : Tmp} {ty ty2 : TypeId} (h : fn.results = #[.cell p ty, .cell q ty2]) (tmps : Array Value) (w : World) (a a2 : Addr) (u u2 : Value) (d d2 : TypeDesc)
    (hp : tmps.getD p undef = .pointer (some a)) (hu : P.underlying ty = some d) (hd : rowD d = false) (hc : w.cell? a = some u)
    (hp2 : tmps.getD q undef = .pointer (some a2)) (hu2 : P.underlying ty2 = some d2) (hd2 : rowD d2 = false) (hc2 : w.cell? a2 = some u2) : (results fn tmps).run P w = .ok (.tuple #[u, u2]) w := by
  rw [Array.getD_eq_getD_getElem?] at hp hp2
  simp only [results, h]
  simp [Sem.run_bind, Result.andThen, hp, hp2, asAddr, run_loadVar_cell w ty a u d hu hd hc, run_loadVar_cell w ty2 a2 u2 d2 hu2 hd2 hc2]
end Go.Proofs.Ytojmhacafmpbgaa.Mem
namespace Go.Proofs.Ytojmhacafmpbgaa.Tk
open Go Go.RowKit Go.Proofs.Ytojmhacafmpbgaa.Mem
set_option linter.unusedVariables false
set_option linter.unusedSimpArgs false
/-- What SetPolicy tells. -/
def polSt (s : Tr) (job bits : Int) : Int := match taskAt s job with
  | none => -25
  | some x => if x.kd ≠ 1 then -12 else if bits < 0 ∨ 15 < bits then -10 else if x.st = 2 then -20 else match firstT s x.bl with
    | some _ => -20
    | none => 0
theorem u25 : Try.prog.underlying 25 = some (.int .i64) := by kernel_rfl
theorem u28 : Try.prog.underlying 28 = some (.slice 3) := by kernel_rfl
section
variable {w0 w : World} {S : List Asr} {b : Nat} {s : Tr} {v : Value} {ps : List (Nat × Value)}
set_option maxHeartbeats 2000000 in
theorem pol_bad (h : Star w0 w (tr b s v ps ++ S)) (job bits : Int) (hno : ∀ x, taskAt s job = some x → x.kd = 1 → 0 ≤ bits → bits ≤ 15 → x.st ≠ 2 → False) : Calls Try.prog 20 #[.pointer (some ⟨b, 0, none⟩), .int .i64 job, .int .i64 bits] w fun e w' => e = .returned (.int .i64 (polSt s job bits)) ∧ Star w0 w' (tr b s v ps ++ S) := by
  have h0 := h.newBlk 25 #[.int .i64 0]
  have f0 := (h0.blk 0 rfl).frozen 0
  have hf := find_any h0.tail job
  have H0 := Lib.hid h
  unfold polSt
  rcases find_two h0.tail job with ⟨h1, h2⟩ | ⟨x, p, h1, -, h2, hb⟩
  · rw [h1]
    rw [h2] at hf
    have HF := Lib.hid hf
    clear h h0 hf h1 h2 hno
    go_enter Try.func20, Try.ntmps20
    go_wp2_with (first | (go_at_call 31; (with_reducible refine HF.out.mono ?_); rintro e w1 ⟨rfl, rfl⟩))
    exact bodyPost_ret (results_cell1 rfl _ _ ⟨w.heap.size, 0, none⟩ _ _ rfl u25 rfl ((Blk.new w 25 _).cellv rfl)) rfl ⟨rfl, H0.out.alloc _⟩
  · rw [h1]
    rw [h2] at hf
    have HF := Lib.hid hf
    obtain ⟨k0, -, k2, -, -, -, -, -⟩ := tk_cells hb
    simp only
    by_cases c1 : x.kd ≠ 1
    · rw [if_pos c1]
      have z1 : ((x.kd : Int) != 1) = true := by simp; omega
      clear h h0 hf h1 h2 hno hb c1
      generalize x.kd = kd at *
      go_enter Try.func20, Try.ntmps20
      go_wp2_with (first | (go_at_call 31; (with_reducible refine HF.out.mono ?_); rintro e w1 ⟨rfl, rfl⟩))
      exact bodyPost_ret (results_cell1 rfl _ _ ⟨w.heap.size, 0, none⟩ _ _ rfl u25 rfl ((Blk.new w 25 _).cellv rfl)) rfl ⟨rfl, H0.out.alloc _⟩
    rw [if_neg c1]
    have c2 : x.kd = 1 := by omega
    rw [c2] at k0
    by_cases c3 : bits < 0 ∨ 15 < bits
    · rw [if_pos c3]
      by_cases c4 : bits < 0
      · clear h h0 hf h1 h2 hno hb c1 c2 c3
        go_enter Try.func20, Try.ntmps20
        go_wp2_with (first | (go_at_call 31; (with_reducible refine HF.out.mono ?_); rintro e w1 ⟨rfl, rfl⟩))
        exact bodyPost_ret (results_cell1 rfl _ _ ⟨w.heap.size, 0, none⟩ _ _ rfl u25 rfl ((Blk.new w 25 _).cellv rfl)) rfl ⟨rfl, H0.out.alloc _⟩
      · have c5 : 15 < bits := by omega
        clear h h0 hf h1 h2 hno hb c1 c2 c3
        go_enter Try.func20, Try.ntmps20
        go_wp2_with (first | (go_at_call 31; (with_reducible refine HF.out.mono ?_); rintro e w1 ⟨rfl, rfl⟩))
        exact bodyPost_ret (results_cell1 rfl _ _ ⟨w.heap.size, 0, none⟩ _ _ rfl u25 rfl ((Blk.new w 25 _).cellv rfl)) rfl ⟨rfl, H0.out.alloc _⟩
    · rw [if_neg c3]
      have c4 : ¬ bits < 0 := by omega
      have c5 : ¬ 15 < bits := by omega
      have c6 : x.st = 2 := by
        by_cases hs : x.st = 2
        · exact hs
        · exact (hno x h1 c2 (by omega) (by omega) hs).elim
      rw [if_pos c6]
      rw [c6] at k2
      clear h h0 hf h1 h2 hno hb c1 c2 c3 c6
      go_enter Try.func20, Try.ntmps20
      go_wp2_with (first | (go_at_call 31; (with_reducible refine HF.out.mono ?_); rintro e w1 ⟨rfl, rfl⟩))
      exact bodyPost_ret (results_cell1 rfl _ _ ⟨w.heap.size, 0, none⟩ _ _ rfl u25 rfl ((Blk.new w 25 _).cellv rfl)) rfl ⟨rfl, H0.out.alloc _⟩
end
end Go.Proofs.Ytojmhacafmpbgaa.Tk
