/- Contracts of package pages: the closure of Alloc, slices.IndexFunc, Alloc. -/
import Derived.Test.YtllofdfldoaedaaPgC
import Derived.Deep.DeepCutAuto
import Derived.Deep.LoopGhost
import Derived.Shelf.Abstract
namespace Go.Proofs.Ytllofdfldoaedaa.Pg
open Go Go.RowKit Go.Proofs.Ytllofdfldoaedaa.Mem
set_option linter.unusedVariables false
set_option linter.unusedSimpArgs false
theorem frC_size {x : Fr} (h : FrOk x) : (frC x).toArray.size = 65 := by simpa using frC_len h
set_option maxHeartbeats 1000000 in
theorem clos_any {x : Fr} (h : FrOk x) (w : World) : Calls Try.prog 29 #[.agg (frC x).toArray] w fun e w' => e = .returned (.bool (decide (x.u = 0))) ∧ Below w.heap.size w w' := by
  have hc : ∀ W : World, (W.alloc (.cells (frC x).toArray 66)).cell? ⟨W.heap.size, 64, none⟩ = some (.int .i64 x.u) := fun W => (Blk.new W 66 (frC x).toArray).cellv (by simpa using frC_user h)
  have hs := Lib.hid (frC_size h)
  generalize (frC x).toArray = cs at *
  have hc0 := hc w
  clear hc h
  generalize x.u = u at *
  by_cases hu : u = 0
  · subst hu
    go_enter Try.func29, Try.ntmps29
    go_wp2
    go_ret
    exact ⟨rfl, (Below.refl _ _).alloc (Nat.le_refl _) _⟩
  · have z1 : (u == 0) = false := beq_eq_false_iff_ne.mpr hu
    rw [show decide (u = 0) = false from decide_eq_false hu]
    clear hu
    go_enter Try.func29, Try.ntmps29
    go_wp2
    go_ret
    exact ⟨rfl, (Below.refl _ _).alloc (Nat.le_refl _) _⟩
def freeN (fs : List Fr) : Option Nat := fs.findIdx? (fun f => f.u == 0)
def idxV : Option Nat → Int
  | some k => k
  | none => -1
theorem freeN_some {fs : List Fr} {k : Nat} (h1 : ∀ j, j < k → ∀ x, fs[j]? = some x → x.u ≠ 0) {x : Fr} (hx : fs[k]? = some x) (hu : x.u = 0) : freeN fs = some k := by
  unfold freeN
  have hlt : k < fs.length := (List.getElem?_eq_some_iff.1 hx).1
  have hxe : fs[k] = x := by simpa [List.getElem?_eq_getElem hlt] using hx
  refine List.findIdx?_eq_some_iff_getElem.2 ⟨hlt, by simp [hxe, hu], fun j hj => ?_⟩
  have := h1 j hj fs[j] (List.getElem?_eq_getElem (by omega))
  simpa using this
theorem freeN_none {fs : List Fr} (h1 : ∀ j, j < fs.length → ∀ x, fs[j]? = some x → x.u ≠ 0) : freeN fs = none := by
  unfold freeN
  refine List.findIdx?_eq_none_iff.2 fun x hx => ?_
  obtain ⟨j, hj, rfl⟩ := List.getElem_of_mem hx
  have := h1 j hj _ (List.getElem?_eq_getElem hj)
  simpa using this
theorem freeN_at {fs : List Fr} {k : Nat} (h : freeN fs = some k) : ∃ x, fs[k]? = some x ∧ x.u = 0 := by
  unfold freeN at h
  obtain ⟨hlt, h1, _⟩ := List.findIdx?_eq_some_iff_getElem.1 h
  exact ⟨fs[k], List.getElem?_eq_getElem hlt, by simpa using h1⟩
theorem freeN_all {fs : List Fr} (h : freeN fs = none) : ∀ x ∈ fs, x.u ≠ 0 := fun x hx => by
  unfold freeN at h
  have := List.findIdx?_eq_none_iff.1 h x hx
  simpa using this
section
variable {w : World} {B b : Nat} {fs : List Fr} {cap used : Int} {sv : Value}
theorem Pl.frame {g cp : Nat} (h : Pl w B b fs cap used (.slice (some ⟨g, 0, none⟩) fs.length cp)) {k : Nat} {x : Fr} (hx : fs[k]? = some x) (j : Nat) (v : Value) (hv : (frC x)[j]? = some v) : w.cell? ((⟨g, k * 65, none⟩ : Addr).add j) = some v := by
  have hlt : k < fs.length := (List.getElem?_eq_some_iff.1 hx).1
  have hj : j < 65 := by
    have := (List.getElem?_eq_some_iff.1 hv).1
    rw [frC_len (h.ok x (List.mem_of_getElem? hx))] at this
    exact this
  have e1 : ((⟨g, k * 65, none⟩ : Addr).add j) = ⟨g, k * 65 + j, none⟩ := by unfold Addr.add; split <;> simp_all
  rw [e1, h.row.cellAt _ (by omega), frCs_at h.ok hx hj, hv]
set_option maxHeartbeats 2000000 in
theorem idx_any (h : Pl w B b fs cap used sv) (hl : fs.length ≤ 65536) : Calls Try.prog 28 #[sv, .func (.func 29) #[] #[]] w fun e w' => e = .returned (.int .i64 (idxV (freeN fs))) ∧ Below w.heap.size w w' := by
  obtain ⟨A, c, hsv⟩ := own_len h.row
  have HH := Lib.hid h
  have eg : ∀ args W, (callFunc 29 args).run Try.prog W = .ok (.enter 29 args) W := enters_of Try.func29 (by kernel_rfl) rfl
  subst hsv
  clear h
  obtain ⟨n, hn⟩ : ∃ n, n = fs.length := ⟨_, rfl⟩
  rw [← hn] at HH hl ⊢
  have HN := Lib.hid hn
  clear hn
  go_enter Try.func28, Try.ntmps28
  go_wp2
  go_loopg [5, 8] n (fun gg _ s8 wr => ∃ kk : Nat, kk ≤ n ∧ n - kk ≤ gg ∧ s8 = .int .i64 kk ∧ Hid (Below w.heap.size w wr) ∧ Hid (∀ j, j < kk → ∀ x, fs[j]? = some x → x.u ≠ 0))
  case atStart => exact ⟨0, Nat.zero_le _, by omega, rfl, Below.refl _ w, fun j hj => absurd hj (Nat.not_lt_zero _)⟩
  case round =>
    obtain ⟨kk, hkk, hg, rfl, BW, AA⟩ := hrel
    by_cases hlt : kk < n
    · have hltz : (kk : Int) < (n : Int) := by omega
      have hlf : kk < fs.length := by rw [← HN.out]; exact hlt
      obtain ⟨x, hx⟩ : ∃ x, fs[kk]? = some x := ⟨_, List.getElem?_eq_getElem hlf⟩
      have hsv2 := own_form (n := n) (by have := HH.out.row; rw [← HN.out] at this; exact this) (by omega)
      obtain ⟨gs, cp, hsv, hbg, hgl, hnc⟩ := hsv2
      simp only [Value.slice.injEq] at hsv
      obtain ⟨rfl, -, rfl⟩ := hsv
      have hok := HH.out.ok x (List.mem_of_getElem? hx)
      have hcl : Hid (∀ j v, (frC x)[j]? = some v → wr.cell? ((⟨gs, kk * 65, none⟩ : Addr).add j) = some v) := Lib.hid fun j v hv => by
        have h1 := HH.out
        rw [HN.out] at h1
        have h2 := Pl.frame h1 hx j v hv
        rw [← h2]
        exact BW.out.cell (p := (⟨gs, kk * 65, none⟩ : Addr).add j) (by rw [block_of_add]; exact hgl)
      have hcall := Lib.hid (clos_any hok wr)
      have hsz := Lib.hid (show (frC x).length = 65 from frC_len hok)
      have HX := Lib.hid hx
      clear hx hok
      by_cases hq : x.u = 0
      · have HQ := Lib.hid hq
        rw [show decide (x.u = 0) = true from decide_eq_true hq] at hcall
        clear hq
        go_wp2_with (first
          | (with_reducible refine wpList_load_add rfl 66 (.tmp 14) rfl ⟨gs, kk * 65, none⟩ rfl (frC x) _ hcl.out Try.underlying66 rfl (by rw [hsz.out]; kernel_rfl) ?_)
          | (go_at_fn 29; (with_reducible refine hcall.out.mono ?_); rintro e w1 ⟨rfl, hb'⟩))
        go_ret
        refine ⟨?_, BW.out.trans (hb'.mono BW.out.size)⟩
        rw [freeN_some AA.out HX.out HQ.out]
        rfl
      · have HQ := Lib.hid hq
        rw [show decide (x.u = 0) = false from decide_eq_false hq] at hcall
        clear hq
        go_wp2_with (first
          | (with_reducible refine wpList_load_add rfl 66 (.tmp 14) rfl ⟨gs, kk * 65, none⟩ rfl (frC x) _ hcl.out Try.underlying66 rfl (by rw [hsz.out]; kernel_rfl) ?_)
          | (go_at_fn 29; (with_reducible refine hcall.out.mono ?_); rintro e w1 ⟨rfl, hb'⟩))
        go_roundg (n - (kk + 1))
        case measure => omega
        case rel =>
          refine ⟨kk + 1, by omega, by omega, by go_num, BW.out.trans (hb'.mono BW.out.size), (show Hid _ from fun j hj y hy => ?_)⟩
          by_cases e : j = kk
          · subst e
            rw [HX.out] at hy
            obtain rfl : x = y := by simpa using hy
            exact HQ.out
          · exact AA.out j (by omega) y hy
    · have hltz : ¬ (kk : Int) < (n : Int) := by omega
      have : kk = n := by omega
      subst this
      go_wp2
      go_ret
      refine ⟨?_, BW.out⟩
      rw [freeN_none (fun j hj => AA.out j (by rw [HN.out]; exact hj))]
      rfl
end
end Go.Proofs.Ytllofdfldoaedaa.Pg
