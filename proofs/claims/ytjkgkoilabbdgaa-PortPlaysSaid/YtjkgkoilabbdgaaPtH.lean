/- The port: the closure of Tell. -/
import Derived.Test.YtjkgkoilabbdgaaPtG
namespace Go.Proofs.Ytjkgkoilabbdgaa.Pt
open Go Go.RowKit Go.Proofs.Ytjkgkoilabbdgaa.Mem
set_option linter.unusedVariables false
set_option linter.unusedSimpArgs false
theorem meets_any (s k : Int) (w : World) : Calls Try.prog 32 #[.int .i64 s, .int .i64 k] w fun e w' => e = .returned (.int .i64 (bits .and .i64 s k)) ∧ w = w' := by
  go_enter Try.func32, Try.ntmps32
  go_wp2
  go_ret
  exact ⟨rfl, rfl⟩
def firesP (ob sh : Int) (x : T3) : Bool := x.a == ob && bits .and .i64 sh x.c != 0
section
variable {w0 w : World} {S : List Asr} {bs : Nat} {s : Po} {t : Value × Value}
set_option maxHeartbeats 4000000 in
theorem tell1_core {bn bo bm bp : Nat} {ob sh cn : Int} (h : Star w0 w (pt bs s t ++ BlkA bn 3 #[.int .i64 cn] :: BlkA bo 3 #[.int .i64 ob] :: BlkA bm 38 #[.int .i64 sh] :: BlkA bp 23 #[.pointer (some ⟨bs, 0, none⟩)] :: S)) (hq : s.q.length ≤ 1000) (hc0 : 0 ≤ cn) (hc1 : cn ≤ 100000) (x : T3) :
    Calls Try.prog 31 #[t3G x, .pointer (some ⟨bo, 0, none⟩), .pointer (some ⟨bm, 0, none⟩), .pointer (some ⟨bp, 0, none⟩), .pointer (some ⟨bn, 0, none⟩)] w fun r w' => r = .returned (.bool (firesP ob sh x)) ∧
      ∃ v, Star w0 w' (pt bs (if firesP ob sh x then putS s ⟨x.b, ob, sh⟩ else s) (v, t.2) ++ BlkA bn 3 #[.int .i64 (if firesP ob sh x then cn + 1 else cn)] :: BlkA bo 3 #[.int .i64 ob] :: BlkA bm 38 #[.int .i64 sh] :: BlkA bp 23 #[.pointer (some ⟨bs, 0, none⟩)] :: S) := by
  obtain ⟨t0, t2⟩ := t
  obtain ⟨a, b, c⟩ := x
  have h1 := back3 (h.newBlk 67 #[.int .i64 a, .int .i64 b, .int .i64 c])
  have ko : (w.alloc (.cells #[.int .i64 a, .int .i64 b, .int .i64 c] 67)).cell? ⟨bo, 0, none⟩ = some (.int .i64 ob) := (h1.blk 5 rfl).cellv (i := 0) rfl
  have km : (w.alloc (.cells #[.int .i64 a, .int .i64 b, .int .i64 c] 67)).cell? ⟨bm, 0, none⟩ = some (.int .i64 sh) := (h1.blk 6 rfl).cellv (i := 0) rfl
  have kp : (w.alloc (.cells #[.int .i64 a, .int .i64 b, .int .i64 c] 67)).cell? ⟨bp, 0, none⟩ = some (.pointer (some ⟨bs, 0, none⟩)) := (h1.blk 7 rfl).cellv (i := 0) rfl
  have HM := Lib.hid (meets_any sh c)
  have HP := Lib.hid (put_any h1 ⟨b, ob, sh⟩ hq)
  have HS := Lib.hid (front3 h1).tail
  unfold t3G at HP ⊢
  unfold firesP
  simp only at HP ⊢
  clear h h1
  by_cases ha : a = ob
  · subst ha
    by_cases hz : bits .and .i64 sh c = 0
    · have e1 : (a == a && bits .and .i64 sh c != 0) = false := by simp [hz]
      rw [e1]
      simp only [Bool.false_eq_true, if_false]
      rw [hz] at HM
      clear e1 hz
      go_enter Try.func31, Try.ntmps31
      go_wp2_with (first
        | (go_at_call 32; (with_reducible refine (HM.out _).mono ?_); rintro e w1 ⟨rfl, rfl⟩))
      go_ret
      exact ⟨rfl, _, HS.out⟩
    · have e1 : (a == a && bits .and .i64 sh c != 0) = true := by simp [hz]
      rw [e1]
      simp only [if_true]
      have hz' : (bits .and .i64 sh c == 0) = false := beq_eq_false_iff_ne.mpr hz
      clear e1 hz
      generalize bits .and .i64 sh c = mm at *
      go_enter Try.func31, Try.ntmps31
      go_wp2_with (first
        | (go_at_call 32; (with_reducible refine (HM.out _).mono ?_); rintro e w1 ⟨rfl, rfl⟩)
        | (go_at_call 27; (with_reducible refine HP.out.mono ?_); rintro e w2 ⟨rfl, v2, hs2⟩
           have kn : w2.cell? ⟨bn, 0, none⟩ = some (.int .i64 cn) := (hs2.blk 4 rfl).cellv (i := 0) rfl
           have fn := (hs2.blk 4 rfl).frozen 0
           have HS2 := Lib.hid hs2
           clear hs2))
      go_ret
      have h3 := HS2.out.setBlk 4 rfl 0 (.int .i64 (cn + 1))
      exact ⟨rfl, _, (front3 h3).tail⟩
  · have e1 : (a == ob && bits .and .i64 sh c != 0) = false := by simp [ha]
    rw [e1]
    simp only [Bool.false_eq_true, if_false]
    have ha' : (a == ob) = false := beq_eq_false_iff_ne.mpr ha
    clear e1 ha
    go_enter Try.func31, Try.ntmps31
    go_wp2
    go_ret
    exact ⟨rfl, _, HS.out⟩
end
end Go.Proofs.Ytjkgkoilabbdgaa.Pt
