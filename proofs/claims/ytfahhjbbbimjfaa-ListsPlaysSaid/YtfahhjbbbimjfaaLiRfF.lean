/- The reference of the lists: pop. -/
import Derived.Test.YtfahhjbbbimjfaaLiRfE
namespace Go.Proofs.Ytfahhjbbbimjfaa.Li
open Go Go.RowKit Go.Proofs.Ytfahhjbbbimjfaa.Mem
set_option linter.unusedVariables false
set_option linter.unusedSimpArgs false
section
variable {w0 w : World} {b m : Nat} {vQ : Value} {vs : List Value} {L : List (List Nat)} {S : List Asr}
set_option maxHeartbeats 4000000 in
theorem rpop (h : Star w0 w (rf b vQ vs L m S)) (hw : WfL L m) (hn : L.length ≤ 65536) (hm : m ≤ 65536) (q : Int) : Calls Try.prog 20 #[.pointer (some ⟨b, 0, none⟩), .int .i64 q] w fun e w' => e = .returned (.tuple #[.int .i64 (popS L q).1, .int .i64 (popS L q).2.1]) ∧ ∃ vs', Star w0 w' (rf b vQ vs' (popS L q).2.2 m S) := by
  have HS := Lib.hid h
  have k0 := (rf_cells h).1
  unfold popS
  by_cases h1 : okQ L q
  · rw [if_pos h1]
    obtain ⟨k, l, rfl, hk, hg⟩ := okQ_at h1
    rw [hg]
    obtain ⟨A, n, c, g, cg, en, hn2, hv, rfl⟩ := rf_get h hw hm hk
    have hkL := (List.getElem?_eq_some_iff.1 hk).1
    have k1 := (rf_facts2 hv hkL w h).1
    have hk0 : (0 : Int) ≤ k := by omega
    have hk1 : (k : Int) < L.length := by omega
    cases l with
    | nil =>
      obtain rfl : n = 0 := en
      simp only
      obtain ⟨N, eN⟩ : ∃ N, N = L.length := ⟨_, rfl⟩
      rw [← eN] at hk1 k0 hn
      clear h hw h1 hk hg hv hkL eN
      go_enter Try.func20, Try.ntmps20
      go_wp2
      go_ret2
      exact ⟨rfl, _, HS.out⟩
    | cons y l =>
      simp only
      have hrm := rremove h hw hn hm (y : Int)
      rw [hw.remove (a := []) (b := l) (q := k) (i := y) (by simpa using hk)] at hrm
      have hd := hw.drop (a := []) (b := l) (q := k) (i := y) (by simpa using hk)
      simp only [← hd] at hrm
      have HR := Lib.hid hrm
      have hn1 : (0 : Int) < n := by rw [en]; simp
      have hnz : ((n : Int) == 0) = false := beq_eq_false_iff_ne.mpr (by omega)
      obtain ⟨ad, u, rfl, had, hx, hcl⟩ := (rf_reads h hk hv en).at_ (show 0 < n by omega)
      obtain rfl : u = .int .i64 (y : Int) := by
        simp [intsN] at hx
        exact hx.symm
      have e1 : ad.add 0 = ad := by unfold Addr.add; split <;> simp_all
      rw [e1] at hcl
      obtain ⟨N, eN⟩ : ∃ N, N = L.length := ⟨_, rfl⟩
      rw [← eN] at hk1 k0 hn
      clear h hw h1 hk hg hv en hkL eN hrm hd hx
      go_enter Try.func20, Try.ntmps20
      go_wp2_with (first
        | (go_at_call 21; (with_reducible refine HR.out.mono ?_); rintro e w2 ⟨rfl, vs', hs2⟩
           have HS2 := Lib.hid hs2
           clear hs2))
      go_ret2
      exact ⟨rfl, _, HS2.out⟩
  · rw [if_neg h1]
    simp only
    obtain ⟨AQ, cQ, rfl⟩ := rf_size h
    have hb : q < 0 ∨ (0 ≤ q ∧ (L.length : Int) ≤ q) := by unfold okQ at h1; omega
    obtain ⟨N, eN⟩ : ∃ N, N = L.length := ⟨_, rfl⟩
    rw [← eN] at hb k0 hn
    clear h hw h1 eN
    rcases hb with h1 | ⟨h1, h2⟩
    all_goals
      go_enter Try.func20, Try.ntmps20
      go_wp2
      go_ret2
      exact ⟨rfl, _, HS.out⟩
end
end Go.Proofs.Ytfahhjbbbimjfaa.Li
