/- The port: the closures of Cancel and Forget. -/
import Derived.Test.YtjkgkoilabbdgaaPtP
import Derived.Test.YtjkgkoilabbdgaaPtI
namespace Go.Proofs.Ytjkgkoilabbdgaa.Pt
open Go Go.RowKit Go.Proofs.Ytjkgkoilabbdgaa.Mem
set_option linter.unusedVariables false
set_option linter.unusedSimpArgs false
theorem eg34 : ∀ args W, (callFunc 34 args).run Try.prog W = .ok (.enter 34 args) W := enters_of Try.func34 (by kernel_rfl) rfl
theorem eg36 : ∀ args W, (callFunc 36 args).run Try.prog W = .ok (.enter 36 args) W := enters_of Try.func36 (by kernel_rfl) rfl
theorem eg37 : ∀ args W, (callFunc 37 args).run Try.prog W = .ok (.enter 37 args) W := enters_of Try.func37 (by kernel_rfl) rfl
def ofP (ob : Int) (x : T3) : Bool := x.a == ob
def ofK (ob ky : Int) (x : T3) : Bool := x.a == ob && x.b == ky
def mineP (ob ky : Int) (x : T3) : Bool := decide (0 < ob) && x.b == ob && x.a == ky
section
variable {w0 w : World} {S : List Asr} {bs : Nat}
theorem forget1_core {bo : Nat} {ob : Int} {R : Asr} (h : Star w0 w (R :: BlkA bo 3 #[.int .i64 ob] :: S)) (x : T3) :
    Calls Try.prog 37 #[t3G x, .pointer (some ⟨bo, 0, none⟩)] w fun r w' => r = .returned (.bool (ofP ob x)) ∧ Star w0 w' (R :: BlkA bo 3 #[.int .i64 ob] :: S) := by
  obtain ⟨a, b, c⟩ := x
  have h1 := h.newBlk 67 #[.int .i64 a, .int .i64 b, .int .i64 c]
  have ko : (w.alloc (.cells #[.int .i64 a, .int .i64 b, .int .i64 c] 67)).cell? ⟨bo, 0, none⟩ = some (.int .i64 ob) := (h1.blk 2 rfl).cellv (i := 0) rfl
  have HS := Lib.hid h1.tail
  unfold t3G ofP
  simp only
  clear h h1
  go_enter Try.func37, Try.ntmps37
  go_wp2
  go_ret
  exact ⟨rfl, HS.out⟩
theorem cancel1_core {bo bk : Nat} {ob ky : Int} {R : Asr} (h : Star w0 w (R :: BlkA bo 3 #[.int .i64 ob] :: BlkA bk 3 #[.int .i64 ky] :: S)) (x : T3) :
    Calls Try.prog 34 #[t3G x, .pointer (some ⟨bo, 0, none⟩), .pointer (some ⟨bk, 0, none⟩)] w fun r w' => r = .returned (.bool (ofK ob ky x)) ∧ Star w0 w' (R :: BlkA bo 3 #[.int .i64 ob] :: BlkA bk 3 #[.int .i64 ky] :: S) := by
  obtain ⟨a, b, c⟩ := x
  have h1 := h.newBlk 67 #[.int .i64 a, .int .i64 b, .int .i64 c]
  have ko : (w.alloc (.cells #[.int .i64 a, .int .i64 b, .int .i64 c] 67)).cell? ⟨bo, 0, none⟩ = some (.int .i64 ob) := (h1.blk 2 rfl).cellv (i := 0) rfl
  have kk : (w.alloc (.cells #[.int .i64 a, .int .i64 b, .int .i64 c] 67)).cell? ⟨bk, 0, none⟩ = some (.int .i64 ky) := (h1.blk 3 rfl).cellv (i := 0) rfl
  have HS := Lib.hid h1.tail
  unfold t3G ofK
  simp only
  clear h h1
  by_cases ha : a = ob
  · subst ha
    rw [show (a == a) = true from by simp, Bool.true_and]
    go_enter Try.func34, Try.ntmps34
    go_wp2
    go_ret
    exact ⟨rfl, HS.out⟩
  · have ha' : (a == ob) = false := beq_eq_false_iff_ne.mpr ha
    rw [ha', Bool.false_and]
    clear ha
    go_enter Try.func34, Try.ntmps34
    go_wp2
    go_ret
    exact ⟨rfl, HS.out⟩
set_option maxHeartbeats 2000000 in
theorem cancel2_core {bo bk bp : Nat} {ob ky : Int} {cs : Array Value} {u o : Int} (h : Star w0 w (BlkA bs 62 cs :: BlkA bo 3 #[.int .i64 ob] :: BlkA bk 3 #[.int .i64 ky] :: BlkA bp 23 #[.pointer (some ⟨bs, 0, none⟩)] :: S)) (c4 : cs[4]? = some (.int .i64 u)) (c5 : cs[5]? = some (.int .i64 o)) (hu : 0 ≤ u ∧ u ≤ 1000000) (ho : 0 ≤ o ∧ o ≤ 1000000) (x : T3) :
    Calls Try.prog 36 #[t3G x, .pointer (some ⟨bo, 0, none⟩), .pointer (some ⟨bk, 0, none⟩), .pointer (some ⟨bp, 0, none⟩)] w fun r w' => r = .returned (.bool (mineP ob ky x)) ∧ Star w0 w' (BlkA bs 62 (if mineP ob ky x then cs.setIfInBounds 5 (.int .i64 (o + -1)) else cs) :: BlkA bo 3 #[.int .i64 ob] :: BlkA bk 3 #[.int .i64 ky] :: BlkA bp 23 #[.pointer (some ⟨bs, 0, none⟩)] :: S) := by
  obtain ⟨a, b, c⟩ := x
  have h1 := h.newBlk 29 #[.int .i64 a, .int .i64 b, .int .i64 c]
  have ko : (w.alloc (.cells #[.int .i64 a, .int .i64 b, .int .i64 c] 29)).cell? ⟨bo, 0, none⟩ = some (.int .i64 ob) := (h1.blk 2 rfl).cellv (i := 0) rfl
  have kk : (w.alloc (.cells #[.int .i64 a, .int .i64 b, .int .i64 c] 29)).cell? ⟨bk, 0, none⟩ = some (.int .i64 ky) := (h1.blk 3 rfl).cellv (i := 0) rfl
  have kp : (w.alloc (.cells #[.int .i64 a, .int .i64 b, .int .i64 c] 29)).cell? ⟨bp, 0, none⟩ = some (.pointer (some ⟨bs, 0, none⟩)) := (h1.blk 4 rfl).cellv (i := 0) rfl
  have hC := count_core h1.tail ⟨a, b, c⟩ (-1) u o c4 c5 (.inr rfl) hu ho
  have HS := Lib.hid h1.tail
  unfold t3G at hC ⊢
  unfold mineP
  simp only at hC ⊢
  by_cases h0 : 0 < ob
  · by_cases hb : b = ob
    · subst hb
      by_cases ha : a = ky
      · subst ha
        rw [if_neg (by omega)] at hC
        have HC := Lib.hid hC
        have e1 : (decide (0 < b) && b == b && a == a) = true := by simp [h0]
        rw [e1]
        simp only [if_true]
        clear h h1 hC e1
        go_enter Try.func36, Try.ntmps36
        go_wp2_with (first
          | (go_at_call 29; (with_reducible refine HC.out.mono ?_); rintro e w2 ⟨rfl, hs2⟩
             have HS2 := Lib.hid hs2
             clear hs2))
        go_ret
        exact ⟨rfl, HS2.out⟩
      · have ha' : (a == ky) = false := beq_eq_false_iff_ne.mpr ha
        have e1 : (decide (0 < b) && b == b && a == ky) = false := by simp [ha]
        rw [e1]
        simp only [Bool.false_eq_true, if_false]
        clear h h1 hC e1 ha
        go_enter Try.func36, Try.ntmps36
        go_wp2
        go_ret
        exact ⟨rfl, HS.out⟩
    · have hb' : (b == ob) = false := beq_eq_false_iff_ne.mpr hb
      have e1 : (decide (0 < ob) && b == ob && a == ky) = false := by simp [hb]
      rw [e1]
      simp only [Bool.false_eq_true, if_false]
      clear h h1 hC e1 hb
      go_enter Try.func36, Try.ntmps36
      go_wp2
      go_ret
      exact ⟨rfl, HS.out⟩
  · have e1 : (decide (0 < ob) && b == ob && a == ky) = false := by simp [h0]
    rw [e1]
    simp only [Bool.false_eq_true, if_false]
    have h0' : ob ≤ 0 := by omega
    clear h h1 hC e1 h0
    go_enter Try.func36, Try.ntmps36
    go_wp2
    go_ret
    exact ⟨rfl, HS.out⟩
end
end Go.Proofs.Ytjkgkoilabbdgaa.Pt
