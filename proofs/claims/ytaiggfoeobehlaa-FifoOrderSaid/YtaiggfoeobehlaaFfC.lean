/- The fifo: Close. -/
import Derived.Test.YtaiggfoeobehlaaFfB
namespace Go.Proofs.Ytaiggfoeobehlaa.Ff
open Go Go.RowKit Go.Proofs.Ytaiggfoeobehlaa.Mem
set_option linter.unusedVariables false
set_option linter.unusedSimpArgs false
def shutR : Ring := ⟨true, [], 0, []⟩
def closeS (s : Fi) (e : Int) : Fi := if e = 0 then { s with a := shutR } else { s with b := shutR }
def closeF (s : Fi) (e : Int) : Int × Fi := (checkF s e, if openF s e then closeS s e else s)
section
variable {w0 w : World} {S : List Asr} {bs : Nat} {s : Fi} {t : Value × Value}
set_option maxHeartbeats 2000000 in
theorem close_any (h : Star w0 w (ff bs s t ++ S)) (e : Int) : Calls Try.prog 21 #[.pointer (some ⟨bs, 0, none⟩), .int .i64 e] w fun r w' => r = .returned (.int .i64 (closeF s e).1) ∧ ∃ t', Star w0 w' (ff bs (closeF s e).2 t' ++ S) := by
  obtain ⟨t0, t2⟩ := t
  obtain ⟨⟨A1, c1, hv1⟩, ⟨A2, c2, hv2⟩⟩ := ff_rows h
  simp only at hv1 hv2
  subst hv1 hv2
  have HC := Lib.hid (check_any h e)
  have HS := Lib.hid h
  unfold closeF
  by_cases ho : openF s e = true
  · have hc : checkF s e = 0 := by unfold openF at ho; simpa using ho
    rw [if_pos ho]
    rw [hc] at HC ⊢
    obtain ⟨k0, k1, k2, k3, k4, k5, k6, k7, k8, k9⟩ := ff_cells h
    have fz := (h.blk 0 rfl).frozen
    have he : e = 0 ∨ e = 1 := by
      unfold openF checkF at ho
      by_cases h0 : e = 0
      · exact .inl h0
      · by_cases h1 : e = 1
        · exact .inr h1
        · rw [if_neg h0, if_neg h1] at ho
          exact absurd ho (by decide)
    have f0 := fz 0
    have f1 := fz 1
    have f2 := fz 2
    have f3 := fz 3
    have f4 := fz 4
    have f5 := fz 5
    have f6 := fz 6
    have f7 := fz 7
    simp only at k1 k5
    clear h ho hc fz
    rcases he with rfl | rfl
    · have h5 := (((HS.out.setBlk 0 rfl 0 (.bool true)).setBlk 0 rfl 1 (.slice none 0 0)).setBlk 0 rfl 2 (.int .i64 0)).setBlk 0 rfl 3 (.int .i64 0)
      have h6 : Star w0 _ (ff bs (closeS s 0) (.slice none 0 0, .slice A2 s.b.raw.length c2) ++ S) := (((h5.pick 1 rfl).tail.nilO 5 1).pick 1 rfl)
      have HE := Lib.hid h6
      clear h5 h6
      go_enter Try.func21, Try.ntmps21
      go_wp2_with (first | (go_at_call 25; (with_reducible refine HC.out.mono ?_); rintro e w1 ⟨rfl, rfl⟩))
      go_ret
      first
        | exact ⟨rfl, (.slice none 0 0, .slice A2 s.b.raw.length c2), HE.out⟩
        | exact ⟨rfl, .slice none 0 0, .slice A2 s.b.raw.length c2, HE.out⟩
    · have h5 := (((HS.out.setBlk 0 rfl 4 (.bool true)).setBlk 0 rfl 5 (.slice none 0 0)).setBlk 0 rfl 6 (.int .i64 0)).setBlk 0 rfl 7 (.int .i64 0)
      have h6 : Star w0 _ (ff bs (closeS s 1) (.slice A1 s.a.raw.length c1, .slice none 0 0) ++ S) := ((((h5.pick 2 rfl).tail.nilO 5 1).pick 2 rfl).pick 2 rfl)
      have HE := Lib.hid h6
      clear h5 h6
      go_enter Try.func21, Try.ntmps21
      go_wp2_with (first | (go_at_call 25; (with_reducible refine HC.out.mono ?_); rintro e w1 ⟨rfl, rfl⟩))
      go_ret
      first
        | exact ⟨rfl, (.slice A1 s.a.raw.length c1, .slice none 0 0), HE.out⟩
        | exact ⟨rfl, .slice A1 s.a.raw.length c1, .slice none 0 0, HE.out⟩
  · rw [if_neg ho]
    have hn : (checkF s e == 0) = false := by unfold openF at ho; simpa using ho
    generalize checkF s e = c at *
    clear h ho
    go_enter Try.func21, Try.ntmps21
    go_wp2_with (first | (go_at_call 25; (with_reducible refine HC.out.mono ?_); rintro e w1 ⟨rfl, rfl⟩))
    go_ret
    exact ⟨rfl, _, HS.out⟩
end
end Go.Proofs.Ytaiggfoeobehlaa.Ff
