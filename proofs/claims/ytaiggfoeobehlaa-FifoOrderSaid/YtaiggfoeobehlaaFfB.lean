/- The fifo: Shows, Close. -/
import Derived.Test.YtaiggfoeobehlaaFfA
namespace Go.Proofs.Ytaiggfoeobehlaa.Ff
open Go Go.RowKit Go.Proofs.Ytaiggfoeobehlaa.Mem
set_option linter.unusedVariables false
set_option linter.unusedSimpArgs false
/-- What a ring's end shows, with its peer's ring. -/
def showsR (n : Nat) (r o : Ring) : Int := (if 0 < r.el.length then 1 else 0) + (if o.cl then 4 else if o.el.length < n then 2 else 0)
def showsF (s : Fi) (e : Int) : Int := if openF s e then (if e = 0 then showsR s.n s.a s.b else showsR s.n s.b s.a) else 0
section
variable {w0 w : World} {S : List Asr} {bs : Nat} {s : Fi} {t : Value × Value}
set_option maxHeartbeats 2000000 in
theorem shows_any (h : Star w0 w (ff bs s t ++ S)) (e : Int) : Calls Try.prog 18 #[.pointer (some ⟨bs, 0, none⟩), .int .i64 e] w fun r w' => r = .returned (.int .i64 (showsF s e)) ∧ Star w0 w' (ff bs s t ++ S) := by
  obtain ⟨t0, t2⟩ := t
  obtain ⟨⟨A1, c1, hv1⟩, ⟨A2, c2, hv2⟩⟩ := ff_rows h
  simp only at hv1 hv2
  subst hv1 hv2
  have HO := Lib.hid (open_any h e)
  have HS := Lib.hid h
  unfold showsF
  by_cases ho : openF s e = true
  · rw [ho] at HO ⊢
    rw [if_pos rfl]
    obtain ⟨k0, k1, k2, k3, k4, k5, k6, k7, k8, k9⟩ := ff_cells h
    have he : e = 0 ∨ e = 1 := by
      unfold openF checkF at ho
      by_cases h0 : e = 0
      · exact .inl h0
      · by_cases h1 : e = 1
        · exact .inr h1
        · rw [if_neg h0, if_neg h1] at ho
          exact absurd ho (by decide)
    unfold showsR
    clear h ho
    simp only at k1 k5
    obtain ⟨ra, rb, n, z⟩ := s
    obtain ⟨ca, wa, fa, ea⟩ := ra
    obtain ⟨cb, wb, fb, eb⟩ := rb
    simp only at k0 k2 k3 k4 k6 k7 k8 k9 ⊢
    rcases he with rfl | rfl
    · rw [if_pos rfl]
      generalize ea.length = m at *
      generalize eb.length = o at *
      by_cases hm : 0 < m
      · rw [if_pos hm]
        have hm' : (0 : Int) < m := by omega
        cases cb
        · by_cases hl : o < n
          · rw [if_pos hl]
            have hl' : (o : Int) < n := by omega
            have hl2 : decide ((o : Int) < n) = true := decide_eq_true hl'
            have k8b : (w.alloc (.cells #[.bool false, .slice A2 wb.length c2, .int .i64 fb, .int .i64 o] 62)).cell? ⟨bs, 8, none⟩ = some (.int .i64 n) := ((HS.out.alloc (.cells #[.bool false, .slice A2 wb.length c2, .int .i64 fb, .int .i64 o] 62)).blk 0 rfl).cellv (i := 8) rfl
            go_enter Try.func18, Try.ntmps18
            go_wp2_with (first | (go_at_call 22; (with_reducible refine HO.out.mono ?_); rintro e w1 ⟨rfl, rfl⟩))
            go_quiet (fail)
            go_wp2
            go_ret
            exact ⟨rfl, (HS.out.alloc _).drewN _⟩
          · rw [if_neg hl]
            have hl' : ¬ (o : Int) < n := by omega
            have hl2 : decide ((o : Int) < n) = false := decide_eq_false hl'
            have k8b : (w.alloc (.cells #[.bool false, .slice A2 wb.length c2, .int .i64 fb, .int .i64 o] 62)).cell? ⟨bs, 8, none⟩ = some (.int .i64 n) := ((HS.out.alloc (.cells #[.bool false, .slice A2 wb.length c2, .int .i64 fb, .int .i64 o] 62)).blk 0 rfl).cellv (i := 8) rfl
            go_enter Try.func18, Try.ntmps18
            go_wp2_with (first | (go_at_call 22; (with_reducible refine HO.out.mono ?_); rintro e w1 ⟨rfl, rfl⟩))
            go_quiet (fail)
            go_wp2
            go_ret
            exact ⟨rfl, (HS.out.alloc _).drewN _⟩
        · go_enter Try.func18, Try.ntmps18
          go_wp2_with (first | (go_at_call 22; (with_reducible refine HO.out.mono ?_); rintro e w1 ⟨rfl, rfl⟩))
          go_ret
          exact ⟨rfl, HS.out.alloc _⟩
      · rw [if_neg hm]
        have hm' : ¬ (0 : Int) < m := by omega
        cases cb
        · by_cases hl : o < n
          · rw [if_pos hl]
            have hl' : (o : Int) < n := by omega
            have hl2 : decide ((o : Int) < n) = true := decide_eq_true hl'
            have k8b : (w.alloc (.cells #[.bool false, .slice A2 wb.length c2, .int .i64 fb, .int .i64 o] 62)).cell? ⟨bs, 8, none⟩ = some (.int .i64 n) := ((HS.out.alloc (.cells #[.bool false, .slice A2 wb.length c2, .int .i64 fb, .int .i64 o] 62)).blk 0 rfl).cellv (i := 8) rfl
            go_enter Try.func18, Try.ntmps18
            go_wp2_with (first | (go_at_call 22; (with_reducible refine HO.out.mono ?_); rintro e w1 ⟨rfl, rfl⟩))
            go_quiet (fail)
            go_wp2
            go_ret
            exact ⟨rfl, (HS.out.alloc _).drewN _⟩
          · rw [if_neg hl]
            have hl' : ¬ (o : Int) < n := by omega
            have hl2 : decide ((o : Int) < n) = false := decide_eq_false hl'
            have k8b : (w.alloc (.cells #[.bool false, .slice A2 wb.length c2, .int .i64 fb, .int .i64 o] 62)).cell? ⟨bs, 8, none⟩ = some (.int .i64 n) := ((HS.out.alloc (.cells #[.bool false, .slice A2 wb.length c2, .int .i64 fb, .int .i64 o] 62)).blk 0 rfl).cellv (i := 8) rfl
            go_enter Try.func18, Try.ntmps18
            go_wp2_with (first | (go_at_call 22; (with_reducible refine HO.out.mono ?_); rintro e w1 ⟨rfl, rfl⟩))
            go_quiet (fail)
            go_wp2
            go_ret
            exact ⟨rfl, (HS.out.alloc _).drewN _⟩
        · go_enter Try.func18, Try.ntmps18
          go_wp2_with (first | (go_at_call 22; (with_reducible refine HO.out.mono ?_); rintro e w1 ⟨rfl, rfl⟩))
          go_ret
          exact ⟨rfl, HS.out.alloc _⟩
    · rw [if_neg (by decide)]
      generalize eb.length = m at *
      generalize ea.length = o at *
      by_cases hm : 0 < m
      · rw [if_pos hm]
        have hm' : (0 : Int) < m := by omega
        cases ca
        · by_cases hl : o < n
          · rw [if_pos hl]
            have hl' : (o : Int) < n := by omega
            have hl2 : decide ((o : Int) < n) = true := decide_eq_true hl'
            have k8b : (w.alloc (.cells #[.bool false, .slice A1 wa.length c1, .int .i64 fa, .int .i64 o] 62)).cell? ⟨bs, 8, none⟩ = some (.int .i64 n) := ((HS.out.alloc (.cells #[.bool false, .slice A1 wa.length c1, .int .i64 fa, .int .i64 o] 62)).blk 0 rfl).cellv (i := 8) rfl
            go_enter Try.func18, Try.ntmps18
            go_wp2_with (first | (go_at_call 22; (with_reducible refine HO.out.mono ?_); rintro e w1 ⟨rfl, rfl⟩))
            go_quiet (fail)
            go_wp2
            go_ret
            exact ⟨rfl, (HS.out.alloc _).drewN _⟩
          · rw [if_neg hl]
            have hl' : ¬ (o : Int) < n := by omega
            have hl2 : decide ((o : Int) < n) = false := decide_eq_false hl'
            have k8b : (w.alloc (.cells #[.bool false, .slice A1 wa.length c1, .int .i64 fa, .int .i64 o] 62)).cell? ⟨bs, 8, none⟩ = some (.int .i64 n) := ((HS.out.alloc (.cells #[.bool false, .slice A1 wa.length c1, .int .i64 fa, .int .i64 o] 62)).blk 0 rfl).cellv (i := 8) rfl
            go_enter Try.func18, Try.ntmps18
            go_wp2_with (first | (go_at_call 22; (with_reducible refine HO.out.mono ?_); rintro e w1 ⟨rfl, rfl⟩))
            go_quiet (fail)
            go_wp2
            go_ret
            exact ⟨rfl, (HS.out.alloc _).drewN _⟩
        · go_enter Try.func18, Try.ntmps18
          go_wp2_with (first | (go_at_call 22; (with_reducible refine HO.out.mono ?_); rintro e w1 ⟨rfl, rfl⟩))
          go_ret
          exact ⟨rfl, HS.out.alloc _⟩
      · rw [if_neg hm]
        have hm' : ¬ (0 : Int) < m := by omega
        cases ca
        · by_cases hl : o < n
          · rw [if_pos hl]
            have hl' : (o : Int) < n := by omega
            have hl2 : decide ((o : Int) < n) = true := decide_eq_true hl'
            have k8b : (w.alloc (.cells #[.bool false, .slice A1 wa.length c1, .int .i64 fa, .int .i64 o] 62)).cell? ⟨bs, 8, none⟩ = some (.int .i64 n) := ((HS.out.alloc (.cells #[.bool false, .slice A1 wa.length c1, .int .i64 fa, .int .i64 o] 62)).blk 0 rfl).cellv (i := 8) rfl
            go_enter Try.func18, Try.ntmps18
            go_wp2_with (first | (go_at_call 22; (with_reducible refine HO.out.mono ?_); rintro e w1 ⟨rfl, rfl⟩))
            go_quiet (fail)
            go_wp2
            go_ret
            exact ⟨rfl, (HS.out.alloc _).drewN _⟩
          · rw [if_neg hl]
            have hl' : ¬ (o : Int) < n := by omega
            have hl2 : decide ((o : Int) < n) = false := decide_eq_false hl'
            have k8b : (w.alloc (.cells #[.bool false, .slice A1 wa.length c1, .int .i64 fa, .int .i64 o] 62)).cell? ⟨bs, 8, none⟩ = some (.int .i64 n) := ((HS.out.alloc (.cells #[.bool false, .slice A1 wa.length c1, .int .i64 fa, .int .i64 o] 62)).blk 0 rfl).cellv (i := 8) rfl
            go_enter Try.func18, Try.ntmps18
            go_wp2_with (first | (go_at_call 22; (with_reducible refine HO.out.mono ?_); rintro e w1 ⟨rfl, rfl⟩))
            go_quiet (fail)
            go_wp2
            go_ret
            exact ⟨rfl, (HS.out.alloc _).drewN _⟩
        · go_enter Try.func18, Try.ntmps18
          go_wp2_with (first | (go_at_call 22; (with_reducible refine HO.out.mono ?_); rintro e w1 ⟨rfl, rfl⟩))
          go_ret
          exact ⟨rfl, HS.out.alloc _⟩
  · have ho' : openF s e = false := by simpa using ho
    rw [ho'] at HO ⊢
    clear h ho ho'
    go_enter Try.func18, Try.ntmps18
    go_wp2_with (first | (go_at_call 22; (with_reducible refine HO.out.mono ?_); rintro e w1 ⟨rfl, rfl⟩))
    go_ret
    exact ⟨rfl, HS.out⟩
end
end Go.Proofs.Ytaiggfoeobehlaa.Ff
