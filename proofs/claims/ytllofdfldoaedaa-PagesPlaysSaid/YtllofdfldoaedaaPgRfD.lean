/- The reference of the pool: write. -/
import Derived.Test.YtllofdfldoaedaaPgRfC
namespace Go.Proofs.Ytllofdfldoaedaa.Pg
open Go Go.RowKit Go.Proofs.Ytllofdfldoaedaa.Mem
set_option linter.unusedVariables false
set_option linter.unusedSimpArgs false
theorem star_dr {w0 w : World} {L : List Asr} (h : Star w0 w L) : Star w0 w.drew L := h.drewN 1
section
variable {w0 w : World} {b : Nat} {vD vU : Value} {vs : List Value} {fs : List Fr} {cap : Int} {S : List Asr}
set_option maxRecDepth 8000 in
set_option maxHeartbeats 4000000 in
theorem rwrite (h : Star w0 w (rp b vD vU vs fs cap S)) (hu : ∀ f ∈ fs, 0 ≤ f.u) (hd : ∀ f ∈ fs, f.d.length = 64) (f at_ : Int) {A : Option Addr} {n c : Nat} {l : List UInt8} (hnl : n = l.length) (hn : n ≤ 65536) (hr : Reads w0 w0.heap.size 1 A n (bytesV l)) :
    Calls Try.prog 26 #[.pointer (some ⟨b, 0, none⟩), .int .i64 f, .int .i64 at_, .slice A n c] w fun e w' => e = .returned (.int .i64 (writeS fs f at_ l).1) ∧ Star w0 w' (rp b vD vU vs (writeS fs f at_ l).2 cap S) := by
  have HH := Lib.hid (rhas h f)
  have HS := Lib.hid h
  unfold writeS
  rw [← hnl]
  by_cases h0 : usersN fs f = 0
  · rw [if_pos h0]
    rw [h0, show decide ((0 : Int) < 0) = false from rfl] at HH
    clear h hu hd h0 hnl hr
    go_enter Try.func26, Try.ntmps26
    go_wp2_with (first | (go_at_call 22; (with_reducible refine HH.out.mono ?_); rintro e w1 ⟨rfl, rfl⟩))
    go_ret
    exact ⟨rfl, HS.out⟩
  · rw [if_neg h0]
    obtain ⟨k, x, rfl, hx, hx0, he⟩ := usersN_some h0
    have hpos : 0 < usersN fs (k : Int) := by
      rw [he]
      have := hu x (List.mem_of_getElem? hx)
      omega
    rw [show decide (0 < usersN fs (k : Int)) = true from decide_eq_true hpos] at HH
    by_cases hb : at_ < 0 ∨ (0 ≤ at_ ∧ 64 < at_) ∨ (0 ≤ at_ ∧ at_ ≤ 64 ∧ 64 - at_ < n)
    · rw [if_neg (by unfold withinN; simp only [decide_eq_true_eq]; omega)]
      clear h hu hd h0 hx hx0 he hpos hnl hr
      rcases hb with h1 | ⟨h1, h2⟩ | ⟨h1, h2, h3⟩
      all_goals
        go_enter Try.func26, Try.ntmps26
        go_wp2_with (first | (go_at_call 22; (with_reducible refine HH.out.mono ?_); rintro e w1 ⟨rfl, rfl⟩))
        go_ret
        exact ⟨rfl, HS.out⟩
    · rw [if_pos (by unfold withinN; simp only [decide_eq_true_eq]; omega), getF_at hx, he]
      obtain ⟨a, rfl⟩ : ∃ z : Nat, at_ = z := ⟨at_.toNat, by omega⟩
      rw [Int.toNat_natCast, Int.toNat_natCast]
      have hx64 := hd x (List.mem_of_getElem? hx)
      have hkl := (List.getElem?_eq_some_iff.1 hx).1
      obtain ⟨gu, cu, rfl, hcu, -, hcu2⟩ := rp_user h hx
      have k1 := (rp_cells h).2.1
      have hk0 : (0 : Int) ≤ k := by omega
      have hk1 : (k : Int) < fs.length := by omega
      have ha0 : (0 : Int) ≤ a := by omega
      have ha1 : (a : Int) ≤ 64 := by omega
      have han : (n : Int) ≤ 64 - a := by omega
      obtain ⟨N, eN⟩ : ∃ N, N = fs.length := ⟨_, rfl⟩
      by_cases h2 : 1 < x.u
      · rw [if_pos h2]
        rw [← eN] at hk1 k1 hcu2
        generalize x.u = u at *
        clear h hu hd h0 hx hx0 he hpos hb hnl hr hx64 hkl eN
        go_enter Try.func26, Try.ntmps26
        go_wp2_with (first | (go_at_call 22; (with_reducible refine HH.out.mono ?_); rintro e w1 ⟨rfl, rfl⟩))
        go_ret
        exact ⟨rfl, HS.out⟩
      · rw [if_neg h2]
        have h2' : x.u ≤ 1 := by omega
        obtain ⟨A1, c1, g1, c2, rfl, hc2, hv, -, -, ho⟩ := rp_data h hx
        rw [hx64] at hv ho
        obtain ⟨g, cp, hsv, hbg, hgl, hnc⟩ := own_form ho (by omega)
        simp only [Value.slice.injEq] at hsv
        obtain ⟨rfl, -, rfl⟩ := hsv
        have HX := Lib.hid hx
        have HX64 := Lib.hid hx64
        have HV := Lib.hid hv
        have HR := Lib.hid hr
        have HNL := Lib.hid hnl
        have HEN := Lib.hid eN
        obtain ⟨u, eu⟩ : ∃ u, u = x.u := ⟨_, rfl⟩
        rw [← eu] at hcu h2'
        have HEU := Lib.hid eu
        rw [← eN] at hk1 k1 hcu2 hc2
        clear h hu hd h0 hx hx0 he hpos hb hnl hr hx64 hkl eN h2 hv ho eu hgl hbg
        go_enter Try.func26, Try.ntmps26
        go_wp2_with (first | (go_at_call 22; (with_reducible refine HH.out.mono ?_); rintro e w1 ⟨rfl, rfl⟩))
        go_loopw [9] (fun i wr => ∃ j : Nat, j ≤ n ∧ i = .int .i64 j ∧ Hid (Star w0 wr (rp b (.slice (some ⟨g1, 0, none⟩) fs.length c2) (.slice (some ⟨gu, 0, none⟩) fs.length cu) vs (fs.set k ⟨splice x.d a (l.take j), x.u⟩) cap S))) (fun i _ => n - (intOf i).toNat)
        case atStart => exact ⟨0, by omega, rfl, Lib.hid (by rw [List.take_zero, splice_nil, set_same HX.out]; exact HS.out)⟩
        case round =>
          clear k1 hcu HS HH
          obtain ⟨j, hj, rfl, HS⟩ := hrel
          by_cases hlt : j < n
          · have hX : (fs.set k ⟨splice x.d a (l.take j), x.u⟩)[k]? = some ⟨splice x.d a (l.take j), x.u⟩ := List.getElem?_set_self (List.getElem?_eq_some_iff.1 HX.out).1
            have hsl : (splice x.d a (l.take j)).length = 64 := by
              rw [length_splice _ _ _ (by rw [List.length_take, HX64.out]; omega), HX64.out]
            obtain ⟨A3, c3, g3, c4, e3, -, hv3, hc3, -, ho3⟩ := rp_data HS.out hX
            simp only at hv3 hc3 ho3
            rw [hsl] at hv3 hc3 ho3
            have e4 := HV.out.symm.trans hv3
            simp only [Option.some.injEq, Value.slice.injEq] at e4
            obtain ⟨rfl, -, rfl⟩ := e4
            simp only [Value.slice.injEq, Option.some.injEq, Addr.mk.injEq, List.length_set, true_and, and_true] at e3
            obtain ⟨rfl, rfl⟩ := e3
            have k0 := (rp_cells HS.out).1
            rw [← HEN.out] at k0
            obtain ⟨y, hy⟩ : ∃ y, l[j]? = some y := ⟨_, List.getElem?_eq_getElem (by rw [← HNL.out]; exact hlt)⟩
            obtain ⟨ad, uu, rfl, had, hxx, hcl⟩ := (HR.out.below HS.out.below).at_ hlt
            obtain rfl : uu = .int .u8 (y.toNat : Int) := by
              rw [show (bytesV l)[j]? = some (byteV y) by simp [bytesV, hy]] at hxx
              exact (Option.some.inj hxx).symm
            have hf := ho3.frozenAt (a + j)
            have hce := ho3.cellAt (a + j) (by omega)
            obtain ⟨z, hz⟩ : ∃ z, (bytesV (splice x.d a (l.take j)))[a + j]? = some z := ⟨_, List.getElem?_eq_getElem (by simp only [bytesV, List.length_map]; omega)⟩
            rw [hz] at hce
            have hst := rp_turn (star_dr HS.out) hX HV.out (a + j) y
            simp only [List.set_set] at hst
            rw [← splice_next (by rw [HX64.out, ← HNL.out]; omega) hy] at hst
            have HSt := Lib.hid hst
            have hj0 : (0 : Int) ≤ j := by omega
            have hjn : (j : Int) < n := by omega
            have hw1 : IntKind.i64.wrap ((a : Int) + j) = ((a + j : Nat) : Int) := by
              simp [IntKind.wrap, IntKind.bits, IntKind.signed]
              omega
            obtain ⟨r, er⟩ : ∃ r, r = a + j := ⟨_, rfl⟩
            rw [← er] at hf hce hw1 HSt
            have hr0 : (0 : Int) ≤ r := by omega
            have hr1 : (r : Int) < 64 := by omega
            clear hst hy hxx hz hX hsl hv3 ho3 er
            go_wp2
            go_region
            all_goals
              go_wp2
              go_roundw
              case rel => exact ⟨j + 1, by omega, by go_num, HSt⟩
              case measure => simp [intOf]; omega
          · obtain rfl : j = n := by omega
            have HE := Lib.hid (show l.take j = l from List.take_of_length_le (by have := HNL.out; omega))
            go_wp2
            go_ret
            exact ⟨rfl, by have := HS.out; rw [HE.out] at this; exact this⟩
end
end Go.Proofs.Ytllofdfldoaedaa.Pg
