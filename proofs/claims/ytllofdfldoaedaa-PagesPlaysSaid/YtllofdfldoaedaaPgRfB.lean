/- The reference of the pool: copy, read. -/
import Derived.Test.YtllofdfldoaedaaPgRfA
namespace Go.Proofs.Ytllofdfldoaedaa.Pg
open Go Go.RowKit Go.Proofs.Ytllofdfldoaedaa.Mem
set_option linter.unusedVariables false
set_option linter.unusedSimpArgs false
theorem by5_info : (Try.prog.info? 5).map (fun i => (i.zero, i.size, i.bytes)) = some (some (.int .u8 0), 1, 1) := by kernel_rfl
section
variable {w0 w : World} {b : Nat} {vD vU : Value} {vs : List Value} {fs : List Fr} {cap : Int} {S : List Asr}
set_option maxHeartbeats 1000000 in
theorem rcopy {A : Option Addr} {n c B : Nat} {d : List UInt8} (h : Star w0 w S) (hr : Reads w B 1 A n (bytesV d)) (hn : n ≤ 65536) : Calls Try.prog 25 #[.slice A n c] w fun e w' => ∃ v, e = .returned v ∧ Star w0 w' (RowA 5 1 v n (bytesV d) :: S) := by
  obtain ⟨i0, hi0, hz0, hz1, hz2⟩ := info_parts by5_info
  have HS := Lib.hid h
  have HR := Lib.hid hr
  have h1 : ∀ u ∈ bytesV d, u.oneCell' = true := by
    intro u hu
    obtain ⟨x, -, rfl⟩ := List.mem_map.1 hu
    rfl
  clear h hr
  go_enter Try.func25, Try.ntmps25
  go_wp2_with (first
    | (refine wpList_append_st rfl (.tmp 4) (.tmp 5) 22 rfl (HS.out.nilRow 5 1) 0 rfl i0 _ 1 Try.underlying22 hi0 hz0 hz1 hz2 rfl (by omega) rfl _ A n c (bytesV d) rfl HR.out h1 (by simp only [maxLen]; omega) (by omega) ?_
       intro v' w3 hs3
       have HS3 := Lib.hid hs3
       clear hs3))
  go_ret
  refine ⟨_, rfl, ?_⟩
  have := HS3.out
  simp only [List.set_cons_zero, Nat.zero_add, List.nil_append] at this
  exact this
theorem rp_data (h : Star w0 w (rp b vD vU vs fs cap S)) {k : Nat} {x : Fr} (hx : fs[k]? = some x) : ∃ g c g' c', vD = .slice (some ⟨g', 0, none⟩) fs.length c' ∧ fs.length ≤ c' ∧ vs[k]? = some (.slice g x.d.length c) ∧ w.cell? ⟨g', k, none⟩ = some (.slice g x.d.length c) ∧ w.frozen? ⟨g', k, none⟩ = false ∧ w.ownsRow w0.heap.size 5 1 (.slice g x.d.length c) x.d.length (bytesV x.d) := by
  have hlt := (List.getElem?_eq_some_iff.1 hx).1
  obtain ⟨h1, h2⟩ := h.rowsD 3 rfl
  rw [List.length_map] at h1
  have hv : vs[k]? = some vs[k] := List.getElem?_eq_getElem (by omega)
  have ho := h2 k _ (bytesV x.d) hv (by rw [List.getElem?_map, hx]; rfl)
  rw [show (bytesV x.d).length = x.d.length by simp [bytesV]] at ho
  obtain ⟨A, c, e⟩ := own_len ho
  rw [e] at ho hv
  obtain ⟨g', c', hsv, hbg, hgl, hnc⟩ := own_form (h.row 1 rfl) (by omega)
  subst hsv
  have h3 := (h.row 1 rfl).cellAt k (by omega)
  exact ⟨A, c, g', c', rfl, hnc, hv, h3.trans hv, (h.row 1 rfl).frozenAt k, ho⟩
theorem slice_reads {w : World} {B n g : Nat} {xs : List Value} {at_ k : Nat} {A : Option Addr} (h : Reads w B 1 (some ⟨g, 0, none⟩) n xs) (hk : at_ + k ≤ n) (hA : 0 < k → A = some ⟨g, at_, none⟩) : Reads w B 1 A k ((xs.drop at_).take k) := by
  have hl := h.1
  refine ⟨by simp; omega, fun h0 => ?_⟩
  obtain ⟨ad, e, hb, hc⟩ := h.2 (by omega)
  injection e with e
  subst e
  refine ⟨_, hA h0, hb, fun j u hj => ?_⟩
  rw [List.getElem?_take] at hj
  split at hj
  · rw [List.getElem?_drop] at hj
    have := hc _ _ hj
    have e1 : ((⟨g, 0, none⟩ : Addr).add (at_ + j)) = (⟨g, at_, none⟩ : Addr).add j := by unfold Addr.add; split <;> simp_all
    rw [← e1]
    exact this
  · cases hj
set_option maxRecDepth 8000 in
set_option maxHeartbeats 4000000 in
theorem rread (h : Star w0 w (rp b vD vU vs fs cap S)) (hu : ∀ f ∈ fs, 0 ≤ f.u) (hd : ∀ f ∈ fs, f.d.length = 64) (f at_ n : Int) (hn : -9223372036854775808 ≤ n ∧ n ≤ 9223372036854775807) : Calls Try.prog 24 #[.pointer (some ⟨b, 0, none⟩), .int .i64 f, .int .i64 at_, .int .i64 n] w fun e w' => ∃ v, e = .returned (.tuple #[v, .int .i64 (readS fs f at_ n).2]) ∧ Star w0 w' (RowA 5 1 v (readS fs f at_ n).1.length (bytesV (readS fs f at_ n).1) :: rp b vD vU vs fs cap S) := by
  have HH := Lib.hid (rhas h f)
  have HS := Lib.hid h
  unfold readS
  by_cases h0 : usersN fs f = 0
  · rw [if_pos h0]
    rw [h0, show decide ((0 : Int) < 0) = false from rfl] at HH
    clear h hu hd h0
    go_enter Try.func24, Try.ntmps24
    go_wp2_with (first | (go_at_call 22; (with_reducible refine HH.out.mono ?_); rintro e w1 ⟨rfl, rfl⟩))
    go_ret2
    exact ⟨_, rfl, HS.out.nilRow 5 1⟩
  · rw [if_neg h0]
    obtain ⟨k, x, rfl, hx, hx0, he⟩ := usersN_some h0
    have hpos : 0 < usersN fs (k : Int) := by
      rw [he]
      have := hu x (List.mem_of_getElem? hx)
      omega
    rw [show decide (0 < usersN fs (k : Int)) = true from decide_eq_true hpos] at HH
    by_cases hb : at_ < 0 ∨ (0 ≤ at_ ∧ n < 0) ∨ (0 ≤ at_ ∧ 0 ≤ n ∧ 64 < at_) ∨ (0 ≤ at_ ∧ 0 ≤ n ∧ at_ ≤ 64 ∧ 64 - at_ < n)
    · rw [if_neg (by unfold withinN; simp only [decide_eq_true_eq]; omega)]
      clear h hu hd h0 hx hx0 he hpos
      rcases hb with h1 | ⟨h1, h2⟩ | ⟨h1, h2, h3⟩ | ⟨h1, h2, h3, h4⟩
      all_goals
        go_enter Try.func24, Try.ntmps24
        go_wp2_with (first | (go_at_call 22; (with_reducible refine HH.out.mono ?_); rintro e w1 ⟨rfl, rfl⟩))
        go_ret2
        exact ⟨_, rfl, HS.out.nilRow 5 1⟩
    · rw [if_pos (by unfold withinN; simp only [decide_eq_true_eq]; omega), getF_at hx]
      obtain ⟨at_, rfl⟩ : ∃ z : Nat, at_ = z := ⟨at_.toNat, by omega⟩
      obtain ⟨n, rfl⟩ : ∃ z : Nat, n = z := ⟨n.toNat, by omega⟩
      rw [Int.toNat_natCast, Int.toNat_natCast]
      have hx64 := hd x (List.mem_of_getElem? hx)
      obtain ⟨A, c, g', c', rfl, hc', hv, hcl, -, ho⟩ := rp_data h hx
      have hkl := (List.getElem?_eq_some_iff.1 hx).1
      rw [hx64] at ho hcl
      obtain ⟨g, cp, hsv, hbg, hgl, hnc⟩ := own_form ho (by omega)
      simp only [Value.slice.injEq] at hsv
      obtain ⟨rfl, -, rfl⟩ := hsv
      obtain ⟨A9, hA9, hA9'⟩ : ∃ A : Option Addr, (if c = at_ then (some ⟨g, 0, none⟩ : Option Addr) else some ⟨g, at_, none⟩) = A ∧ Hid (0 < n → A = some ⟨g, at_, none⟩) := ⟨_, rfl, Lib.hid fun h => if_neg (by omega)⟩
      have hrd := slice_reads (k := n) (Reads.of_own ho) (by omega) hA9'.out
      have el : ((x.d.drop at_).take n).length = n := by rw [List.length_take, List.length_drop, hx64]; omega
      have eb : ((bytesV x.d).drop at_).take n = bytesV ((x.d.drop at_).take n) := by simp [bytesV, List.map_take, List.map_drop]
      rw [eb] at hrd
      rw [el]
      have k0 := (rp_cells h).1
      have hR := rcopy (c := c - at_) h hrd (by omega)
      have HR := Lib.hid hR
      have hk0 : (0 : Int) ≤ k := by omega
      have hk1 : (k : Int) < fs.length := by omega
      obtain ⟨N, eN⟩ : ∃ N, N = fs.length := ⟨_, rfl⟩
      rw [← eN] at hk1 k0 hc'
      have ha0 : (0 : Int) ≤ at_ := by omega
      have hn0 : (0 : Int) ≤ n := by omega
      have han : (at_ : Int) + n ≤ 64 := by omega
      have hcc : (64 : Int) ≤ c := by omega
      clear h hu hd h0 hx hx0 he hpos hb hv ho hx64 hkl hA9' hrd el eb hR eN hbg hgl
      go_enter Try.func24, Try.ntmps24
      go_wp2_with (first
        | (go_at_call 22; (with_reducible refine HH.out.mono ?_); rintro e w1 ⟨rfl, rfl⟩)
        | (go_at_call 25; (with_reducible refine HR.out.mono ?_); rintro e w2 ⟨v2, rfl, hs2⟩
           have HS2 := Lib.hid hs2
           clear hs2))
      go_ret2
      exact ⟨_, rfl, HS2.out⟩
end
end Go.Proofs.Ytllofdfldoaedaa.Pg
