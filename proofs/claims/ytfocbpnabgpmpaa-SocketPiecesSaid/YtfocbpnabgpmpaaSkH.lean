/- The socket: Shut, Close. -/
import Derived.Test.YtfocbpnabgpmpaaSkG
namespace Go.Proofs.Ytfocbpnabgpmpaa.Sk
open Go Go.RowKit Go.Proofs.Ytfocbpnabgpmpaa.Mem
set_option linter.unusedVariables false
set_option linter.unusedSimpArgs false
def shutD (x : Sd) (wr rd : Bool) : Sd := { x with m := x.m || wr, d := x.d || rd }
def shutS (s0 s1 : Sd) (e : Int) (wr rd : Bool) : Int × Sd × Sd := if chkS s0 s1 e ≠ 0 then (chkS s0 s1 e, s0, s1) else (0, (putD s0 s1 e (shutD (sd s0 s1 e) wr rd)).1, (putD s0 s1 e (shutD (sd s0 s1 e) wr rd)).2)
section
variable {w0 w : World} {S : List Asr} {bs room : Nat} {s0 s1 : Sd} {dg : Bool} {t : Value × Value × Value × Value}
set_option maxHeartbeats 4000000 in
theorem shut_core {cs : Array Value} (e : Int) (ox : Nat) (heo : (e = 0 ∧ ox = 0) ∨ (e = 1 ∧ ox = 5)) (h : Star w0 w (BlkA bs 62 cs :: S)) (m d : Bool) (c1 : cs[ox + 1]? = some (.bool m)) (c2 : cs[ox + 2]? = some (.bool d))
    (HC : Hid (Calls Try.prog 24 #[.pointer (some ⟨bs, 0, none⟩), .int .i64 e] w fun r w' => r = .returned (.int .i64 0) ∧ w = w')) (wr rd : Bool) :
    Calls Try.prog 15 #[.pointer (some ⟨bs, 0, none⟩), .int .i64 e, .bool wr, .bool rd] w fun r w' => r = .returned (.int .i64 0) ∧ Star w0 w' (BlkA bs 62 ((cs.setIfInBounds (ox + 1) (.bool (m || wr))).setIfInBounds (ox + 2) (.bool (d || rd))) :: S) := by
  have k1 := (h.blk 0 rfl).cellv c1
  have k2 := (h.blk 0 rfl).cellv c2
  have f1 := (h.blk 0 rfl).frozen (ox + 1)
  have f2 := (h.blk 0 rfl).frozen (ox + 2)
  have h1 := ((h.setBlk 0 rfl (ox + 1) (.bool (m || wr))).setBlk 0 rfl (ox + 2) (.bool (d || rd)))
  have h2 := ((h.setBlk 0 rfl (ox + 2) (.bool (d || rd))).setBlk 0 rfl (ox + 1) (.bool (m || wr)))
  simp only [List.set_cons_zero] at h1 h2
  rw [show (cs.setIfInBounds (ox + 2) (.bool (d || rd))).setIfInBounds (ox + 1) (.bool (m || wr)) = (cs.setIfInBounds (ox + 1) (.bool (m || wr))).setIfInBounds (ox + 2) (.bool (d || rd)) from Array.setIfInBounds_comm _ _ (by omega)] at h2
  have H1 := Lib.hid (star_dr h1)
  have H2 := Lib.hid (star_dr h2)
  clear h h1 h2 c1 c2
  rcases heo with ⟨rfl, rfl⟩ | ⟨rfl, rfl⟩
  all_goals
    simp only [Nat.reduceAdd] at k1 k2 f1 f2 H1 H2
    cases m
    all_goals cases d
    all_goals
      go_enter Try.func15, Try.ntmps15
      go_wp2_with (first
        | (go_at_call 24; (with_reducible refine HC.out.mono ?_); rintro e w1 ⟨rfl, rfl⟩))
      go_region
      all_goals
        go_wp2
        go_ret
        first | exact ⟨rfl, H1.out⟩ | exact ⟨rfl, H2.out⟩
set_option maxHeartbeats 1000000 in
theorem shut_any (h : Star w0 w (sk bs s0 s1 dg room t ++ S)) (e : Int) (wr rd : Bool) :
    Calls Try.prog 15 #[.pointer (some ⟨bs, 0, none⟩), .int .i64 e, .bool wr, .bool rd] w fun r w' => r = .returned (.int .i64 (shutS s0 s1 e wr rd).1) ∧ ∃ t', Star w0 w' (sk bs (shutS s0 s1 e wr rd).2.1 (shutS s0 s1 e wr rd).2.2 dg room t' ++ S) := by
  have HC := Lib.hid (check_any h e)
  unfold shutS
  by_cases hc : chkS s0 s1 e = 0
  · rw [if_neg (fun hh => hh hc)]
    rw [hc] at HC
    rcases chk_zero hc with rfl | rfl
    · refine (shut_core 0 0 (.inl ⟨rfl, rfl⟩) h s0.m s0.d rfl rfl HC wr rd).mono ?_
      rintro r w1 ⟨rfl, hs⟩
      exact ⟨rfl, t, hs⟩
    · refine (shut_core 1 5 (.inr ⟨rfl, rfl⟩) h s1.m s1.d rfl rfl HC wr rd).mono ?_
      rintro r w1 ⟨rfl, hs⟩
      exact ⟨rfl, t, hs⟩
  · rw [if_pos hc]
    have HS := Lib.hid h
    have hz : (chkS s0 s1 e == 0) = false := beq_eq_false_iff_ne.mpr hc
    clear h hc
    generalize chkS s0 s1 e = s at *
    go_enter Try.func15, Try.ntmps15
    go_wp2_with (first
      | (go_at_call 24; (with_reducible refine HC.out.mono ?_); rintro e w1 ⟨rfl, rfl⟩))
    go_ret
    exact ⟨rfl, _, HS.out⟩
end
theorem Ok2.shut {dg : Bool} {room : Nat} {s0 s1 : Sd} (h : Ok2 dg room s0 s1) (e : Int) (wr rd : Bool) : Ok2 dg room (shutS s0 s1 e wr rd).2.1 (shutS s0 s1 e wr rd).2.2 := by
  have hs : ∀ s, SdOk dg room s → SdOk dg room (shutD s wr rd) := fun s h => ⟨h.len, h.sum, h.pos, h.no⟩
  unfold shutS
  split
  · exact h
  · unfold putD sd
    split
    · exact ⟨hs _ h.1, h.2.1, h.2.2⟩
    · split
      · exact ⟨h.1, hs _ h.2.1, h.2.2⟩
      · exact h
theorem shut_st {w0 w : World} {L : List Asr} {bs room : Nat} {s0 s1 : Sd} {dg : Bool} (h : Star w0 w L) (i : Nat) (hi : L[i]? = some (SkA bs s0 s1 dg room)) (e : Int) (wr rd : Bool) :
    Calls Try.prog 15 #[.pointer (some ⟨bs, 0, none⟩), .int .i64 e, .bool wr, .bool rd] w fun r w' => r = .returned (.int .i64 (shutS s0 s1 e wr rd).1) ∧ Star w0 w' (L.set i (SkA bs (shutS s0 s1 e wr rd).2.1 (shutS s0 s1 e wr rd).2.2 dg room)) := by
  refine (ex_call (Q' := sk bs (shutS s0 s1 e wr rd).2.1 (shutS s0 s1 e wr rd).2.2 dg room) (R := fun r N => r = .returned (.int .i64 (shutS s0 s1 e wr rd).1) ∧ N = []) h i hi fun t S hS => ?_).mono ?_
  · refine (shut_any hS e wr rd).mono ?_
    rintro r w1 ⟨rfl, t', hs⟩
    exact ⟨[], t', ⟨rfl, rfl⟩, hs⟩
  · rintro r w1 ⟨N, ⟨rfl, rfl⟩, hs⟩
    exact ⟨rfl, hs⟩
end Go.Proofs.Ytfocbpnabgpmpaa.Sk
