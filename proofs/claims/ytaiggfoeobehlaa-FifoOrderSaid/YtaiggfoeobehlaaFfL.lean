/- The fifo: Write refused. -/
import Derived.Test.YtaiggfoeobehlaaFfK
namespace Go.Proofs.Ytaiggfoeobehlaa.Ff
open Go Go.RowKit Go.Shelf Go.Proofs.Ytaiggfoeobehlaa.Mem
set_option linter.unusedVariables false
set_option linter.unusedSimpArgs false
section
variable {w0 w : World} {S : List Asr} {bs : Nat} {s : Fi} {t : Value × Value}
/-- The end is wrong, or closed. -/
theorem write_bad1 (h : Star w0 w (ff bs s t ++ S)) (e : Int) (hc : checkF s e ≠ 0) (A : Option Addr) (m c : Nat) :
    Calls Try.prog 12 #[.pointer (some ⟨bs, 0, none⟩), .int .i64 e, .slice A m c] w fun r w' => r = .returned (.tuple #[.int .i64 0, .int .i64 (checkF s e)]) ∧ Star w0 w' (ff bs s t ++ S) := by
  have h5 := h.newBlk 23 #[.pointer (some ⟨bs, 0, none⟩)]
  have HC := Lib.hid (check_any h5.tail e)
  have HS := Lib.hid h5.tail
  have hn : (checkF s e == 0) = false := by simpa using hc
  generalize checkF s e = v at *
  clear h h5 hc
  go_enter Try.func12, Try.ntmps12
  go_wp2_with (first | (go_at_call 25; (with_reducible refine HC.out.mono ?_); rintro e w1 ⟨rfl, rfl⟩))
  go_ret2
  exact ⟨rfl, HS.out⟩
def toR (s : Fi) (e : Int) : Ring := if e = 0 then s.b else s.a
set_option maxHeartbeats 2000000 in
/-- No bytes, or no elements. -/
theorem write_bad2 (h : Star w0 w (ff bs s t ++ S)) (e : Int) (he : e = 0 ∨ e = 1) (hc : checkF s e = 0) (hz : 1 ≤ s.z) (A : Option Addr) (m c : Nat) (hm : m = 0 ∨ m % s.z ≠ 0) (hm2 : m ≤ 100000) :
    Calls Try.prog 12 #[.pointer (some ⟨bs, 0, none⟩), .int .i64 e, .slice A m c] w fun r w' => r = .returned (.tuple #[.int .i64 0, .int .i64 (-14)]) ∧ Star w0 w' (ff bs s t ++ S) := by
  have h5 := h.newBlk 23 #[.pointer (some ⟨bs, 0, none⟩)]
  have HC := Lib.hid (check_any h5.tail e)
  rw [hc] at HC
  have h6 := h5.newBlk 66 #[.pointer (some ⟨bs, (if e = 0 then 4 else 0), none⟩)]
  obtain ⟨-, -, -, -, p4, -, -, p7, p8, p9⟩ := ff_cells h6.tail.tail
  have r0 := (h6.blk 0 rfl).cellv (i := 0) rfl
  have r1 := (h6.blk 1 rfl).cellv (i := 0) rfl
  have q0 := (h5.blk 0 rfl).cellv (i := 0) rfl
  have HS := Lib.hid h6.tail.tail
  generalize s.z = z at *
  clear h h5 h6 hc p4 p7 p8
  have hzz : ¬ (z : Int) = 0 := by omega
  by_cases h0 : m = 0
  · subst h0
    clear hm
    rcases he with rfl | rfl
    all_goals
      simp only [↓reduceIte, show (if (1 : Int) = 0 then (4 : Nat) else 0) = 0 from rfl] at p9 r0 r1 q0 HS
      go_enter Try.func12, Try.ntmps12
      go_wp2_with (first | (go_at_call 25; (with_reducible refine HC.out.mono ?_); rintro e w1 ⟨rfl, rfl⟩))
      go_ret2
      exact ⟨rfl, HS.out⟩
  · have hmod : ¬ Int.tmod (m : Int) (z : Int) = 0 := by
      rw [show Int.tmod (m : Int) (z : Int) = ((m % z : Nat) : Int) from (Int.ofNat_tmod m z).symm]
      omega
    have hm1 : ¬ (m : Int) = 0 := by omega
    have hmod2 : ¬ (m : Int) % (z : Int) = 0 := by
      rw [show (m : Int) % (z : Int) = ((m % z : Nat) : Int) from (Int.natCast_emod m z).symm]
      omega
    have hmod3 : ((m : Int) % (z : Int) != 0) = true := by simpa using hmod2
    have hor : ((m : Int) == 0 || (m : Int) % (z : Int) != 0) = true := by rw [hmod3, Bool.or_true]
    clear hm
    rcases he with rfl | rfl
    all_goals
      simp only [↓reduceIte, show (if (1 : Int) = 0 then (4 : Nat) else 0) = 0 from rfl] at p9 r0 r1 q0 HS
      go_enter Try.func12, Try.ntmps12
      go_wp2_with (first | (go_at_call 25; (with_reducible refine HC.out.mono ?_); rintro e w1 ⟨rfl, rfl⟩))
      go_ret2
      exact ⟨rfl, HS.out⟩
set_option maxHeartbeats 2000000 in
/-- The other end is closed, or has no room. -/
theorem write_bad3 (h : Star w0 w (ff bs s t ++ S)) (e : Int) (he : e = 0 ∨ e = 1) (hc : checkF s e = 0) (hz : 1 ≤ s.z) (A : Option Addr) (m c : Nat) (hm0 : 0 < m) (hm : m % s.z = 0) (hm2 : m ≤ 100000) (hto : (toR s e).cl = true ∨ (toR s e).el.length = s.n) :
    Calls Try.prog 12 #[.pointer (some ⟨bs, 0, none⟩), .int .i64 e, .slice A m c] w fun r w' => r = .returned (.tuple #[.int .i64 0, .int .i64 (if (toR s e).cl then -24 else -22)]) ∧ Star w0 w' (ff bs s t ++ S) := by
  have h5 := h.newBlk 23 #[.pointer (some ⟨bs, 0, none⟩)]
  have HC := Lib.hid (check_any h5.tail e)
  rw [hc] at HC
  have h6 := h5.newBlk 66 #[.pointer (some ⟨bs, (if e = 0 then 4 else 0), none⟩)]
  obtain ⟨p0, -, -, p3, p4, -, -, p7, p8, p9⟩ := ff_cells h6.tail.tail
  have r0 := (h6.blk 0 rfl).cellv (i := 0) rfl
  have r1 := (h6.blk 1 rfl).cellv (i := 0) rfl
  have q0 := (h5.blk 0 rfl).cellv (i := 0) rfl
  have HS := Lib.hid h6.tail.tail
  have hmod : Int.tmod (m : Int) (s.z : Int) = 0 := by
    rw [show Int.tmod (m : Int) (s.z : Int) = ((m % s.z : Nat) : Int) from (Int.ofNat_tmod m s.z).symm, hm]
    rfl
  have hm1 : ¬ (m : Int) = 0 := by omega
  have hzz : ¬ (s.z : Int) = 0 := by omega
  clear h h5 h6 hc hm
  rcases he with rfl | rfl
  · rw [show toR s 0 = s.b from rfl] at *
    simp only [↓reduceIte, show (if (1 : Int) = 0 then (4 : Nat) else 0) = 0 from rfl] at p0 p3 p4 p7 p8 p9 r0 r1 q0 HS
    cases hcl : s.b.cl
    · rw [hcl] at hto p4
      have hl : s.b.el.length = s.n := by rcases hto with h | h; (cases h); exact h
      have hlt : ((s.b.el.length : Int) == s.n) = true := by simp; omega
      clear hto hl hcl
      generalize s.b.el.length = ml at *
      generalize s.n = n at *
      generalize s.z = z at *
      go_enter Try.func12, Try.ntmps12
      go_wp2_with (first | (go_at_call 25; (with_reducible refine HC.out.mono ?_); rintro e w1 ⟨rfl, rfl⟩))
      go_quiet (fail)
      go_wp2
      go_ret2
      exact ⟨rfl, HS.out.drewN _⟩
    · rw [hcl] at p4
      clear hto hcl
      generalize s.z = z at *
      go_enter Try.func12, Try.ntmps12
      go_wp2_with (first | (go_at_call 25; (with_reducible refine HC.out.mono ?_); rintro e w1 ⟨rfl, rfl⟩))
      go_ret2
      exact ⟨rfl, HS.out⟩
  · rw [show toR s 1 = s.a from rfl] at *
    simp only [↓reduceIte, show (if (1 : Int) = 0 then (4 : Nat) else 0) = 0 from rfl] at p0 p3 p4 p7 p8 p9 r0 r1 q0 HS
    cases hcl : s.a.cl
    · rw [hcl] at hto p0
      have hl : s.a.el.length = s.n := by rcases hto with h | h; (cases h); exact h
      have hlt : ((s.a.el.length : Int) == s.n) = true := by simp; omega
      clear hto hl hcl
      generalize s.a.el.length = ml at *
      generalize s.n = n at *
      generalize s.z = z at *
      go_enter Try.func12, Try.ntmps12
      go_wp2_with (first | (go_at_call 25; (with_reducible refine HC.out.mono ?_); rintro e w1 ⟨rfl, rfl⟩))
      go_quiet (fail)
      go_wp2
      go_ret2
      exact ⟨rfl, HS.out.drewN _⟩
    · rw [hcl] at p0
      clear hto hcl
      generalize s.z = z at *
      go_enter Try.func12, Try.ntmps12
      go_wp2_with (first | (go_at_call 25; (with_reducible refine HC.out.mono ?_); rintro e w1 ⟨rfl, rfl⟩))
      go_ret2
      exact ⟨rfl, HS.out⟩
end
end Go.Proofs.Ytaiggfoeobehlaa.Ff
