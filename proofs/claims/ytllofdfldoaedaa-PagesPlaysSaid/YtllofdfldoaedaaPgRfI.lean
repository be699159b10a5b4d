/- The reference of the pool: own. -/
import Derived.Test.YtllofdfldoaedaaPgRfH
namespace Go.Proofs.Ytllofdfldoaedaa.Pg
open Go Go.RowKit Go.Proofs.Ytllofdfldoaedaa.Mem
set_option linter.unusedVariables false
set_option linter.unusedSimpArgs false
section
variable {w0 w : World} {b : Nat} {vD vU : Value} {vs : List Value} {fs : List Fr} {cap : Int} {S : List Asr}
set_option maxHeartbeats 4000000 in
theorem rown_no (h : Star w0 w (rp b vD vU vs fs cap S)) (f : Int) (h0 : usersN fs f = 0) : Calls Try.prog 23 #[.pointer (some ⟨b, 0, none⟩), .int .i64 f] w fun e w' => e = .returned (.tuple #[.int .i64 0, .int .i64 (-25)]) ∧ w = w' := by
  have HH := Lib.hid (rhas h f)
  rw [h0, show decide ((0 : Int) < 0) = false from rfl] at HH
  clear h h0
  go_enter Try.func23, Try.ntmps23
  go_wp2_with (first | (go_at_call 22; (with_reducible refine HH.out.mono ?_); rintro e w1 ⟨rfl, rfl⟩))
  go_ret2
  exact ⟨rfl, rfl⟩
set_option maxHeartbeats 4000000 in
theorem rown_one (h : Star w0 w (rp b vD vU vs fs cap S)) {k : Nat} {x : Fr} (hx : fs[k]? = some x) (h1 : x.u = 1) : Calls Try.prog 23 #[.pointer (some ⟨b, 0, none⟩), .int .i64 k] w fun e w' => e = .returned (.tuple #[.int .i64 k, .int .i64 0]) ∧ w = w' := by
  have HH := Lib.hid (rhas h (k : Int))
  rw [usersN_at hx, h1, show decide ((0 : Int) < 1) = true from rfl] at HH
  obtain ⟨g, c, rfl, hc, -, -⟩ := rp_user h hx
  rw [h1] at hc
  have k1 := (rp_cells h).2.1
  have hk0 : (0 : Int) ≤ k := by omega
  have hk1 : (k : Int) < fs.length := by have := (List.getElem?_eq_some_iff.1 hx).1; omega
  generalize fs.length = n at *
  clear h hx h1
  go_enter Try.func23, Try.ntmps23
  go_wp2_with (first | (go_at_call 22; (with_reducible refine HH.out.mono ?_); rintro e w1 ⟨rfl, rfl⟩))
  go_ret2
  exact ⟨rfl, rfl⟩
set_option maxHeartbeats 4000000 in
theorem rown_full (h : Star w0 w (rp b vD vU vs fs cap S)) (hu : ∀ f ∈ fs, 0 ≤ f.u) (hl : (fs.length : Int) ≤ cap) (hcap : cap ≤ 65536) {k : Nat} {x : Fr} (hx : fs[k]? = some x) (h1 : 1 < x.u) (hc : (usedN fs : Int) = cap) :
    Calls Try.prog 23 #[.pointer (some ⟨b, 0, none⟩), .int .i64 k] w fun e w' => e = .returned (.tuple #[.int .i64 0, .int .i64 (-4)]) ∧ ∃ vD' vU' vs', Star w0 w' (rp b vD' vU' vs' fs cap S) := by
  have HH := Lib.hid (rhas h (k : Int))
  have hA := ralloc h hu hl hcap
  rw [show allocS fs cap = (0, -4, fs) from if_pos hc] at hA
  have HA := Lib.hid hA
  rw [usersN_at hx, show decide (0 < x.u) = true from decide_eq_true (by omega)] at HH
  obtain ⟨g, c, rfl, hcl, -, -⟩ := rp_user h hx
  have k1 := (rp_cells h).2.1
  have hk0 : (0 : Int) ≤ k := by omega
  have hk1 : (k : Int) < fs.length := by have := (List.getElem?_eq_some_iff.1 hx).1; omega
  have hne : (x.u == 1) = false := beq_eq_false_iff_ne.mpr (by omega)
  obtain ⟨n, en⟩ : ∃ n, n = fs.length := ⟨_, rfl⟩
  rw [← en] at hk1 k1
  generalize x.u = u at *
  clear h hx h1 hu hl hc hA en
  go_enter Try.func23, Try.ntmps23
  go_wp2_with (first
    | (go_at_call 22; (with_reducible refine HH.out.mono ?_); rintro e w1 ⟨rfl, rfl⟩)
    | (go_at_call 21; (with_reducible refine HA.out.mono ?_); rintro e w1 ⟨rfl, hs⟩))
  go_ret2
  exact ⟨rfl, hs⟩
set_option maxRecDepth 8000 in
set_option maxHeartbeats 4000000 in
theorem rown_some (h : Star w0 w (rp b vD vU vs fs cap S)) (hu : ∀ f ∈ fs, 0 ≤ f.u) (hd : ∀ f ∈ fs, f.d.length = 64) (hl : (fs.length : Int) ≤ cap) (hcap : cap ≤ 65536) {k : Nat} {x : Fr} (hx : fs[k]? = some x) (h1 : 1 < x.u) (hum : x.u ≤ 1000000) (hc : (usedN fs : Int) ≠ cap) :
    Calls Try.prog 23 #[.pointer (some ⟨b, 0, none⟩), .int .i64 k] w fun e w' => e = .returned (.tuple #[.int .i64 (allocN fs : Nat), .int .i64 0]) ∧ ∃ vD' vU' vs', Star w0 w' (rp b vD' vU' vs' (((allocL fs).set (allocN fs) ⟨x.d, 1⟩).set k ⟨x.d, x.u - 1⟩) cap S) := by
  have HH := Lib.hid (rhas h (k : Int))
  have hA := ralloc h hu hl hcap
  rw [show allocS fs cap = (((allocN fs : Nat) : Int), 0, allocL fs) from if_neg hc] at hA
  have HA := Lib.hid hA
  rw [usersN_at hx, show decide (0 < x.u) = true from decide_eq_true (by omega)] at HH
  obtain ⟨g, c, rfl, hcl, -, -⟩ := rp_user h hx
  have k1 := (rp_cells h).2.1
  have hk0 : (0 : Int) ≤ k := by omega
  have hk1 : (k : Int) < fs.length := by have := (List.getElem?_eq_some_iff.1 hx).1; omega
  have hne : (x.u == 1) = false := beq_eq_false_iff_ne.mpr (by omega)
  obtain ⟨hk2, hk3⟩ := allocL_keep hx (by omega)
  have hga := allocL_at fs
  have hxd := hd x (List.mem_of_getElem? hx)
  obtain ⟨n, en⟩ : ∃ n, n = fs.length := ⟨_, rfl⟩
  rw [← en] at hk1 k1
  generalize allocL fs = fa at *
  generalize allocN fs = ga at *
  have HK2 := Lib.hid hk2
  have HK3 := Lib.hid hk3
  have HGA := Lib.hid hga
  have HXD := Lib.hid hxd
  obtain ⟨u, eu⟩ : ∃ u, u = x.u := ⟨_, rfl⟩
  have HEU := Lib.hid eu
  rw [← eu] at hne hcl h1 hum
  clear h hx hu hd hl hc hA en hk2 hk3 hga hxd eu
  go_enter Try.func23, Try.ntmps23
  go_upto_region 8 with (first
    | (go_at_call 22; (with_reducible refine HH.out.mono ?_); rintro e w1 ⟨rfl, rfl⟩)
    | (go_at_call 21; (with_reducible refine HA.out.mono ?_); rintro e w1 ⟨rfl, vD1, vU1, vs1, hs⟩))
  clear hcl k1 HH HA
  obtain ⟨A, cA, gd, cd, rfl, hcd, hv, hcl, -, ho⟩ := rp_data hs HK2.out
  have hkl := (List.getElem?_eq_some_iff.1 HK2.out).1
  have hgl := (List.getElem?_eq_some_iff.1 HGA.out).1
  have hrd := Reads.of_own ho
  rw [HXD.out] at hrd hcl
  have k0 := (rp_cells hs).1
  have hS := fun (W : World) (L : List Asr) (hW : Star w0 W (L ++ rp b (.slice (some ⟨gd, 0, none⟩) fa.length cd) vU1 vs1 fa cap S)) => True
  have HC := Lib.hid (fun (W : World) (hW : Star w0 W (rp b (.slice (some ⟨gd, 0, none⟩) fa.length cd) vU1 vs1 fa cap S)) => rcopy (c := cA) hW (by
    obtain ⟨A', cA', gd', cd', e, -, hv', -, -, ho'⟩ := rp_data hW HK2.out
    have e2 := hv.symm.trans hv'
    simp only [Option.some.injEq, Value.slice.injEq] at e2
    obtain ⟨rfl, -, rfl⟩ := e2
    have := Reads.of_own ho'
    rw [HXD.out] at this
    exact this) (by omega))
  have HF := Lib.hid (fun (W : World) (v : Value) (hW : Star w0 W (RowA 5 1 v 64 (bytesV x.d) :: rp b (.slice (some ⟨gd, 0, none⟩) fa.length cd) vU1 vs1 fa cap S)) => show W.cell? ⟨b, 0, none⟩ = some (.slice (some ⟨gd, 0, none⟩) fa.length cd) ∧ W.cell? ⟨gd, k, none⟩ = some (.slice A 64 cA) ∧ (∃ u, W.cell? ⟨gd, ga, none⟩ = some u) ∧ W.frozen? ⟨gd, ga, none⟩ = false from by
    have hW' := hW.tail
    obtain ⟨A', cA', gd', cd', e, -, hv', hc', -, ho'⟩ := rp_data hW' HK2.out
    have e2 := hv.symm.trans hv'
    simp only [Option.some.injEq, Value.slice.injEq] at e2
    obtain ⟨rfl, -, rfl⟩ := e2
    simp only [Value.slice.injEq, Option.some.injEq, Addr.mk.injEq] at e
    obtain ⟨⟨rfl, -, -⟩, -, rfl⟩ := e
    obtain ⟨g2, c2, e3, hu3, hf3⟩ := rp_dat hW' hgl
    simp only [Value.slice.injEq, Option.some.injEq, Addr.mk.injEq] at e3
    obtain ⟨⟨rfl, -, -⟩, -, rfl⟩ := e3
    rw [HXD.out] at hc'
    exact ⟨(rp_cells hW').1, hc', hu3, hf3⟩)
  have HF2 := Lib.hid (fun (W : World) (A2 : Option Addr) (c2 : Nat) (hW : Star w0 W (RowA 5 1 (.slice A2 64 c2) 64 (bytesV x.d) :: rp b (.slice (some ⟨gd, 0, none⟩) fa.length cd) vU1 vs1 fa cap S)) => rp_data_set hW HXD.out.symm HGA.out)
  have HF3 := Lib.hid (fun (W : World) (v : Value) (hW : Star w0 W (rp b (.slice (some ⟨gd, 0, none⟩) fa.length cd) vU1 (vs1.set ga v) (fa.set ga ⟨x.d, 1⟩) cap S)) => show W.cell? ⟨b, 0, none⟩ = some (.slice (some ⟨gd, 0, none⟩) fa.length cd) ∧ W.cell? ⟨gd, k, none⟩ = some (.slice A 64 cA) from by
    have hx4 : (fa.set ga ⟨x.d, 1⟩)[k]? = some x := by rw [List.getElem?_set_ne HK3.out]; exact HK2.out
    obtain ⟨A', cA', gd', cd', e, -, hv', hc', -, -⟩ := rp_data hW hx4
    rw [List.getElem?_set_ne HK3.out] at hv'
    have e2 := hv.symm.trans hv'
    simp only [Option.some.injEq, Value.slice.injEq] at e2
    obtain ⟨rfl, -, rfl⟩ := e2
    simp only [Value.slice.injEq, Option.some.injEq, Addr.mk.injEq] at e
    obtain ⟨⟨rfl, -, -⟩, -, rfl⟩ := e
    rw [HXD.out] at hc'
    exact ⟨(rp_cells hW).1, hc'⟩)
  have HS1 := Lib.hid (star_dr hs)
  have hk1' : w1.drew.cell? ⟨b, 0, none⟩ = some (.slice (some ⟨gd, 0, none⟩) fa.length cd) ∧ w1.drew.cell? ⟨gd, k, none⟩ = some (.slice A 64 cA) := ⟨k0, hcl⟩
  have hga0 : (0 : Int) ≤ ga := by omega
  have hga1 : (ga : Int) < fa.length := by omega
  have hkk1 : (k : Int) < fa.length := by omega
  obtain ⟨N, eN⟩ : ∃ N, N = fa.length := ⟨_, rfl⟩
  rw [← eN] at hga1 hkk1 hk1'
  have HEN := Lib.hid eN
  clear hS hs hkl hgl hrd hcl ho hv k0 hcd eN
  go_region_held3 (fun w' => w'.cell? ⟨b, 0, none⟩ = some (.slice (some ⟨gd, 0, none⟩) N cd) ∧ w'.cell? ⟨gd, k, none⟩ = some (.slice A 64 cA)) (first | exact hk3' | exact hk2' | exact hk1')
    (first
    | (go_at_call 25; (with_reducible refine (HC.out _ HS1.out).mono ?_); rintro e w2 ⟨v2, rfl, hs2⟩
       obtain ⟨A2, c2, rfl⟩ := own_len (hs2.row 0 rfl)
       have HS2 := Lib.hid hs2
       obtain ⟨q1, q2, ⟨u3, q3⟩, q4⟩ := HF.out _ _ hs2
       rw [← HEN.out] at q1
       have hk2' : w2.cell? ⟨b, 0, none⟩ = some (.slice (some ⟨gd, 0, none⟩) N cd) ∧ w2.cell? ⟨gd, k, none⟩ = some (.slice A 64 cA) := ⟨q1, q2⟩
       have hs3 := HF2.out _ _ _ hs2
       have HS3 := Lib.hid hs3
       have hk3' := HF3.out _ _ hs3
       rw [← HEN.out] at hk3'
       clear hs2 hs3))
  all_goals
    have hs4 := HS3.out
    have hx4 : (fa.set ga ⟨x.d, 1⟩)[k]? = some x := by rw [List.getElem?_set_ne HK3.out]; exact HK2.out
    obtain ⟨gu, cu, e5, hcu, hfu, -⟩ := rp_user hs4 hx4
    have k1 := (rp_cells hs4).2.1
    subst e5
    have hs5 := rp_user_set hs4 hx4 (x.u - 1)
    have HS5 := Lib.hid hs5
    rw [List.length_set, ← HEN.out] at k1
    rw [← HEU.out] at hcu
    clear hs4 hs5 hx4
    generalize w2.setCell ⟨gd, ga, none⟩ (.slice A2 64 c2) = W9 at *
    go_wp2
    go_ret2
    exact ⟨rfl, _, _, _, by rw [HEU.out]; exact HS5.out⟩
theorem rown (h : Star w0 w (rp b vD vU vs fs cap S)) (hu : ∀ f ∈ fs, 0 ≤ f.u) (hum : ∀ f ∈ fs, f.u ≤ 1000000) (hd : ∀ f ∈ fs, f.d.length = 64) (hl : (fs.length : Int) ≤ cap) (hcap : cap ≤ 65536) (f : Int) :
    Calls Try.prog 23 #[.pointer (some ⟨b, 0, none⟩), .int .i64 f] w fun e w' => e = .returned (.tuple #[.int .i64 (ownS fs cap f).1, .int .i64 (ownS fs cap f).2.1]) ∧ ∃ vD' vU' vs', Star w0 w' (rp b vD' vU' vs' (ownS fs cap f).2.2 cap S) := by
  unfold ownS
  by_cases hz : usersN fs f = 0
  · rw [if_pos hz]
    refine (rown_no h f hz).mono ?_
    rintro e w1 ⟨rfl, rfl⟩
    exact ⟨rfl, _, _, _, h⟩
  · rw [if_neg hz]
    obtain ⟨k, x, rfl, hx, hx0, he⟩ := usersN_some hz
    have h1 := hu x (List.mem_of_getElem? hx)
    rw [getF_at hx, Int.toNat_natCast, he]
    by_cases h9 : x.u = 1
    · rw [if_pos h9]
      refine (rown_one h hx h9).mono ?_
      rintro e w1 ⟨rfl, rfl⟩
      exact ⟨rfl, _, _, _, h⟩
    · rw [if_neg h9]
      by_cases hc : (usedN fs : Int) = cap
      · rw [if_pos hc]
        exact rown_full h hu hl hcap hx (by omega) hc
      · rw [if_neg hc]
        exact rown_some h hu hd hl hcap hx (by omega) (hum x (List.mem_of_getElem? hx)) hc
end
end Go.Proofs.Ytllofdfldoaedaa.Pg
