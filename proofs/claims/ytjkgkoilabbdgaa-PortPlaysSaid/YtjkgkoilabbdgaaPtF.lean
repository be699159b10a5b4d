/- The port: slices.IndexFunc over watches. -/
import Derived.Test.YtjkgkoilabbdgaaPtE
import Derived.Shelf.Abstract
namespace Go.Proofs.Ytjkgkoilabbdgaa.Pt
open Go Go.RowKit Go.Proofs.Ytjkgkoilabbdgaa.Mem
set_option linter.unusedVariables false
set_option linter.unusedSimpArgs false
theorem at3 {w : World} {base n g off c : Nat} {e : TypeId} {l : List T3} (ho : OwnO w base e 3 (.slice (some ⟨g, off, none⟩) n c) n (t3V l)) (hn : n = l.length) {k : Nat} {x : T3} (hx : l[k]? = some x) :
    w.cell? ⟨g, off + k * 3, none⟩ = some (.int .i64 x.a) ∧ w.cell? ⟨g, off + k * 3 + 1, none⟩ = some (.int .i64 x.b) ∧ w.cell? ⟨g, off + k * 3 + 2, none⟩ = some (.int .i64 x.c) := by
  have hk := (List.getElem?_eq_some_iff.1 hx).1
  refine ⟨?_, ?_, ?_⟩
  · have := ho.cellAt (k * 3 + 0) (by omega)
    rw [t3V_at hx (by omega)] at this
    exact this
  · have := ho.cellAt (k * 3 + 1) (by omega)
    rw [t3V_at hx (by omega)] at this
    exact this
  · have := ho.cellAt (k * 3 + 2) (by omega)
    rw [t3V_at hx (by omega)] at this
    exact this
section
variable {w0 w : World} {S : List Asr}
set_option maxHeartbeats 2000000 in
theorem index_w {J : Nat → Asr} (N : FuncId) (eg : ∀ args W, (callFunc N args).run Try.prog W = .ok (.enter N args) W) (caps : Array Value) (p : T3 → Bool) {l : List T3} {v : Value} {n : Nat}
    (h : Star w0 w (RowO 67 3 v n (t3V l) :: J 0 :: S)) (hn : n = l.length) (hl : n ≤ 100000)
    (hc : ∀ (k : Nat) (x : T3), l[k]? = some x → ∀ (W : World) (l' : List T3) (S : List Asr), Star w0 W (RowO 67 3 v n (t3V l') :: J k :: S) → Calls Try.prog N (#[t3G x] ++ caps) W fun r W' => r = .returned (.bool (p x)) ∧ Star w0 W' (RowO 67 3 v n (t3V l') :: J (k + 1) :: S)) :
    Calls Try.prog 39 #[v, .func (.func N) #[] caps] w fun r w' => ∃ k : Nat, r = .returned (.int .i64 (if k < n then (k : Int) else -1)) ∧ k ≤ n ∧ (∀ x, l[k]? = some x → p x = true) ∧ (∀ j, j < k → ∀ x, l[j]? = some x → p x = false) ∧ Star w0 w' (RowO 67 3 v n (t3V l) :: J (if k < n then k + 1 else n) :: S) := by
  obtain ⟨A, c, hv⟩ := (h.rowO 0 rfl).len
  subst hv
  have HS := Lib.hid h
  have HN := Lib.hid hn
  have HC := Lib.hid hc
  clear h hn hc
  go_enter Try.func39, Try.ntmps39
  go_wp2
  go_loopg [5, 8] n (fun gg _ s8 wr => ∃ kk : Nat, kk ≤ n ∧ n - kk ≤ gg ∧ s8 = .int .i64 kk ∧ Hid (Star w0 wr (RowO 67 3 (.slice A n c) n (t3V l) :: J kk :: S)) ∧ Hid (∀ j, j < kk → ∀ x, l[j]? = some x → p x = false))
  case atStart => exact ⟨0, Nat.zero_le _, by omega, rfl, HS, fun j hj => absurd hj (Nat.not_lt_zero _)⟩
  case round =>
    obtain ⟨kk, hkk, hg, rfl, HW, AA⟩ := hrel
    by_cases hlt : kk < n
    · have hltz : (kk : Int) < (n : Int) := by omega
      obtain ⟨x, hx⟩ : ∃ x, l[kk]? = some x := ⟨_, List.getElem?_eq_getElem (by rw [← HN.out]; exact hlt)⟩
      have ho := HW.out.rowO 0 rfl
      obtain ⟨g, off, cp, hv, hbg, hgl, hnc⟩ := ho.form (by omega)
      simp only [Value.slice.injEq, true_and] at hv
      obtain ⟨rfl, rfl⟩ := hv
      obtain ⟨r0, r1, r2⟩ := at3 ho HN.out hx
      have HX := Lib.hid hx
      have hcall := Lib.hid (HC.out kk x hx wr l S HW.out)
      unfold t3G at hcall
      clear hx ho
      by_cases hq : p x = true
      · have HQ := Lib.hid hq
        rw [hq] at hcall
        clear hq
        go_wp2_with (first
          | (go_at_fn N; (with_reducible refine hcall.out.mono ?_); rintro e w1 ⟨rfl, hs1⟩
             have HS1 := Lib.hid hs1
             clear hs1))
        all_goals
          go_ret
          refine ⟨kk, ?_, hkk, ?_, AA.out, ?_⟩
          · rw [if_pos hlt]
            rfl
          · intro y hy
            rw [HX.out] at hy
            obtain rfl : x = y := by simpa using hy
            exact HQ.out
          · rw [if_pos hlt]
            exact HS1.out
      · have hq' : p x = false := by simpa using hq
        have HQ := Lib.hid hq'
        rw [hq'] at hcall
        clear hq hq'
        go_wp2_with (first
          | (go_at_fn N; (with_reducible refine hcall.out.mono ?_); rintro e w1 ⟨rfl, hs1⟩
             have HS1 := Lib.hid hs1
             clear hs1))
        go_roundg (n - (kk + 1))
        case measure => omega
        case rel =>
          refine ⟨kk + 1, by omega, by omega, by go_num, HS1, (show Hid _ from fun j hj y hy => ?_)⟩
          by_cases e : j = kk
          · subst e
            rw [HX.out] at hy
            obtain rfl : x = y := by simpa using hy
            exact HQ.out
          · exact AA.out j (by omega) y hy
    · have hltz : ¬ (kk : Int) < (n : Int) := by omega
      have hkn : kk = n := by omega
      subst hkn
      have HLT := Lib.hid hlt
      clear hlt
      go_wp2
      go_ret
      refine ⟨kk, ?_, Nat.le_refl _, ?_, AA.out, ?_⟩
      · rw [if_neg HLT.out]
        rfl
      · intro x hx
        have := (List.getElem?_eq_some_iff.1 hx).1
        have := HN.out
        omega
      · rw [if_neg HLT.out]
        exact HW.out
end
end Go.Proofs.Ytjkgkoilabbdgaa.Pt
