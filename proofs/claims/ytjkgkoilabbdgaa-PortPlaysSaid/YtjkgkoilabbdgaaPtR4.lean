/- The port's statement: same. -/
import Derived.Test.YtjkgkoilabbdgaaPtR1
namespace Go.Proofs.Ytjkgkoilabbdgaa.Pt
open Go Go.RowKit Go.Proofs.Ytjkgkoilabbdgaa.Mem
set_option linter.unusedVariables false
set_option linter.unusedSimpArgs false
theorem Reads.at3 {w : World} {B n : Nat} {A : Option Addr} {l : List T3} (hr : Reads w B 3 A n (t3V l)) {k : Nat} {x : T3} (hx : l[k]? = some x) :
    ∃ ad, A = some ad ∧ w.cell? (ad.add (k * 3)) = some (.int .i64 x.a) ∧ w.cell? ⟨(ad.add (k * 3)).block, (ad.add (k * 3)).off + 1, none⟩ = some (.int .i64 x.b) ∧ w.cell? ⟨(ad.add (k * 3)).block, (ad.add (k * 3)).off + 2, none⟩ = some (.int .i64 x.c) := by
  have hk := (List.getElem?_eq_some_iff.1 hx).1
  have hn : n = l.length := by have := hr.1; rw [t3V_len] at this; omega
  obtain ⟨ad, e, hb, hc⟩ := Reads.row (l := l.map t3C) hr (t3_rows l) (k := k) (r := t3C x) (by omega) (by rw [List.getElem?_map, hx]; rfl)
  refine ⟨ad, e, ?_, hc 1 (.int .i64 x.b) rfl, hc 2 (.int .i64 x.c) rfl⟩
  have := hc 0 _ (show (t3C x)[0]? = some (.int .i64 x.a) from rfl)
  have e1 : (ad.add (k * 3)).add 0 = ad.add (k * 3) := by generalize ad.add (k * 3) = a; unfold Addr.add; split <;> simp_all
  rwa [e1] at this
set_option maxHeartbeats 2000000 in
theorem same_any {A1 A2 : Option Addr} {n c1 c2 B1 B2 : Nat} {l : List T3} {w : World} (h1 : Reads w B1 3 A1 n (t3V l)) (h2 : Reads w B2 3 A2 n (t3V l)) (hn : n ≤ 1000) : Calls Try.prog 22 #[.slice A1 n c1, .slice A2 n c2] w fun e w' => e = .returned (.bool true) ∧ ∃ m, w' = w.drewN m := by
  have H1 := Lib.hid h1
  have H2 := Lib.hid h2
  have hln : n = l.length := by have := h1.1; rw [t3V_len] at this; omega
  have HLN := Lib.hid hln
  have hnz : (n : Int) ≤ 1000 := by omega
  clear h1 h2 hln
  go_enter Try.func22, Try.ntmps22
  go_wp2
  go_loopw [13] (fun i wr => ∃ k j : Nat, k ≤ n ∧ i = .int .i64 k ∧ wr = w.drewN j) (fun i _ => n - (intOf i).toNat)
  case atStart => exact ⟨0, 0, by omega, rfl, (World.drewN_zero _).symm⟩
  case round =>
    obtain ⟨k, j, hk, rfl, rfl⟩ := hrel
    by_cases hlt : k < n
    · obtain ⟨x, hx⟩ : ∃ x, l[k]? = some x := ⟨_, List.getElem?_eq_getElem (by rw [← HLN.out]; exact hlt)⟩
      obtain ⟨ad, rfl, a0, a1, a2⟩ := Reads.at3 H1.out hx
      obtain ⟨ae, rfl, e0, e1, e2⟩ := Reads.at3 H2.out hx
      have y1 : (x.a != x.a) = false := by simp
      have y2 : (x.b != x.b) = false := by simp
      have y3 : (x.c != x.c) = false := by simp
      have hltz : (k : Int) < n := by omega
      have hdd : ∀ m, (w.drewN j).drewN m = w.drewN (j + m) := fun m => World.drewN_drewN _ _ _
      have HDD := Lib.hid hdd
      clear hx hdd
      go_wp2
      go_quiet (fail)
      go_wp2
      go_roundw
      case rel => exact ⟨k + 1, j + nq, by omega, by go_num, by first | rfl | exact HDD.out nq⟩
      case measure => simp [intOf]; omega
    · have hltz : ¬ (k : Int) < n := by omega
      obtain rfl : k = n := by omega
      clear hlt
      go_wp2
      go_ret
      exact ⟨rfl, j, rfl⟩
end Go.Proofs.Ytjkgkoilabbdgaa.Pt
