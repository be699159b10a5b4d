/- The socket's methods among other objects. -/
import Derived.Test.YtfocbpnabgpmpaaSkE
namespace Go.Proofs.Ytfocbpnabgpmpaa.Sk
open Go Go.RowKit Go.Proofs.Ytfocbpnabgpmpaa.Mem
set_option linter.unusedVariables false
set_option linter.unusedSimpArgs false
def writeS (s0 s1 : Sd) (dg : Bool) (room : Nat) (e : Int) (l : List UInt8) : Int × Int × Sd × Sd :=
  if chkS s0 s1 e ≠ 0 then (0, chkS s0 s1 e, s0, s1) else if wayS (sd s0 s1 e) (ot s0 s1 e) ≠ 0 then (0, wayS (sd s0 s1 e) (ot s0 s1 e), s0, s1) else
  ((putS (ot s0 s1 e) dg room l).1, (putS (ot s0 s1 e) dg room l).2.1, if e = 0 then s0 else (putS (ot s0 s1 e) dg room l).2.2, if e = 0 then (putS (ot s0 s1 e) dg room l).2.2 else s1)
theorem put_flags (y : Sd) (dg : Bool) (room : Nat) (l : List UInt8) : (putS y dg room l).2.2.c = y.c ∧ (putS y dg room l).2.2.m = y.m ∧ (putS y dg room l).2.2.d = y.d := by
  unfold putS
  split
  · exact ⟨rfl, rfl, rfl⟩
  · split
    · exact ⟨rfl, rfl, rfl⟩
    · split
      · exact ⟨rfl, rfl, rfl⟩
      · split <;> exact ⟨rfl, rfl, rfl⟩
theorem take_flags (x : Sd) (n : Nat) (peek : Bool) : (takeS x n peek).2.c = x.c ∧ (takeS x n peek).2.m = x.m ∧ (takeS x n peek).2.d = x.d := by
  unfold takeS
  split <;> exact ⟨rfl, rfl, rfl⟩
theorem chk_zero {s0 s1 : Sd} {e : Int} (h : chkS s0 s1 e = 0) : e = 0 ∨ e = 1 := by
  unfold chkS at h
  split at h
  · assumption
  · omega
section
variable {w0 w : World} {S : List Asr} {bs room : Nat} {s0 s1 : Sd} {dg : Bool} {t : Value × Value × Value × Value}
set_option maxHeartbeats 2000000 in
theorem write_any (h : Star w0 w (sk bs s0 s1 dg room t ++ S)) (ok0 : SdOk dg room s0) (ok1 : SdOk dg room s1) (hro : room ≤ 1048576) (e : Int) {A : Option Addr} {m c Br : Nat} {l : List UInt8} (hml : m = l.length) (hm : m ≤ maxLen) (hmc : m ≤ c) (hr : Reads w Br 1 A m (bytesV l)) :
    Calls Try.prog 10 #[.pointer (some ⟨bs, 0, none⟩), .int .i64 e, .slice A m c] w fun r w' => r = .returned (.tuple #[.int .i64 (writeS s0 s1 dg room e l).1, .int .i64 (writeS s0 s1 dg room e l).2.1]) ∧
      ∃ t', Star w0 w' (sk bs (writeS s0 s1 dg room e l).2.2.1 (writeS s0 s1 dg room e l).2.2.2 dg room t' ++ S) := by
  have HC := Lib.hid (check_any h e)
  unfold writeS
  by_cases hc : chkS s0 s1 e = 0
  · rw [if_neg (fun hh => hh hc)]
    have he := chk_zero hc
    have HW := Lib.hid (way_any h e he)
    by_cases hw : wayS (sd s0 s1 e) (ot s0 s1 e) = 0
    · rw [if_neg (fun hh => hh hw)]
      rw [hc] at HC
      rw [hw] at HW
      rcases he with rfl | rfl
      · refine (write_core 0 5 (.inl ⟨rfl, rfl⟩) (swap4 h) rfl rfl rfl rfl HC HW ok1.len hro (by have := ok1.plen; omega) hml hm hmc hr).mono ?_
        rintro r w1 ⟨rfl, vy, qy, hs⟩
        obtain ⟨f1, f2, f3⟩ := put_flags s1 dg room l
        refine ⟨rfl, (t.1, t.2.1, vy, qy), ?_⟩
        have h2 := swap4 hs
        have e1 : ((skC s0 s1 dg room t.1 t.2.1 t.2.2.1 t.2.2.2).setIfInBounds (5 + 3) vy).setIfInBounds (5 + 4) qy = skC s0 (putS s1 dg room l).2.2 dg room t.1 t.2.1 vy qy := by
          unfold skC
          rw [f1, f2, f3]
          rfl
        rw [e1] at h2
        exact h2
      · refine (write_core 1 0 (.inr ⟨rfl, rfl⟩) h rfl rfl rfl rfl HC HW ok0.len hro (by have := ok0.plen; omega) hml hm hmc hr).mono ?_
        rintro r w1 ⟨rfl, vy, qy, hs⟩
        obtain ⟨f1, f2, f3⟩ := put_flags s0 dg room l
        refine ⟨rfl, (vy, qy, t.2.2.1, t.2.2.2), ?_⟩
        have e1 : ((skC s0 s1 dg room t.1 t.2.1 t.2.2.1 t.2.2.2).setIfInBounds (0 + 3) vy).setIfInBounds (0 + 4) qy = skC (putS s0 dg room l).2.2 s1 dg room vy qy t.2.2.1 t.2.2.2 := by
          unfold skC
          rw [f1, f2, f3]
          rfl
        rw [e1] at hs
        exact hs
    · rw [if_pos hw]
      rw [hc] at HC
      have HS := Lib.hid h
      have hz : (wayS (sd s0 s1 e) (ot s0 s1 e) == 0) = false := beq_eq_false_iff_ne.mpr hw
      clear h hc he hr hml hm hw
      generalize wayS (sd s0 s1 e) (ot s0 s1 e) = s at *
      go_enter Try.func10, Try.ntmps10
      go_wp2_with (first
        | (go_at_call 24; (with_reducible refine HC.out.mono ?_); rintro e w1 ⟨rfl, rfl⟩)
        | (go_at_call 25; (with_reducible refine HW.out.mono ?_); rintro e w1 ⟨rfl, rfl⟩))
      go_ret2
      exact ⟨rfl, _, HS.out⟩
  · rw [if_pos hc]
    have HS := Lib.hid h
    have hz : (chkS s0 s1 e == 0) = false := beq_eq_false_iff_ne.mpr hc
    clear h hc hr hml hm
    generalize chkS s0 s1 e = s at *
    go_enter Try.func10, Try.ntmps10
    go_wp2_with (first
      | (go_at_call 24; (with_reducible refine HC.out.mono ?_); rintro e w1 ⟨rfl, rfl⟩))
    go_ret2
    exact ⟨rfl, _, HS.out⟩
theorem read_flags (s0 s1 : Sd) (e n : Int) (peek : Bool) : (readS s0 s1 e n peek).2.2.c = (sd s0 s1 e).c ∧ (readS s0 s1 e n peek).2.2.m = (sd s0 s1 e).m ∧ (readS s0 s1 e n peek).2.2.d = (sd s0 s1 e).d := by
  unfold readS
  split
  · exact ⟨rfl, rfl, rfl⟩
  · split
    · exact ⟨rfl, rfl, rfl⟩
    · split
      · exact take_flags _ _ _
      · split
        · exact ⟨rfl, rfl, rfl⟩
        · split <;> exact ⟨rfl, rfl, rfl⟩
def putD (s0 s1 : Sd) (e : Int) (x : Sd) : Sd × Sd := if e = 0 then (x, s1) else if e = 1 then (s0, x) else (s0, s1)
set_option maxHeartbeats 2000000 in
theorem read_any (h : Star w0 w (sk bs s0 s1 dg room t ++ S)) (ok0 : SdOk dg room s0) (ok1 : SdOk dg room s1) (hro : room ≤ 1048576) (e n : Int) (hn : n ≤ 9223372036854775807) (peek : Bool) :
    Calls Try.prog 11 #[.pointer (some ⟨bs, 0, none⟩), .int .i64 e, .int .i64 n, .bool peek] w fun r w' => ∃ vo t', r = .returned (.tuple #[vo, .int .i64 (readS s0 s1 e n peek).2.1]) ∧
      Star w0 w' (RowA 5 1 vo (readS s0 s1 e n peek).1.length (bytesV (readS s0 s1 e n peek).1) :: (sk bs (putD s0 s1 e (readS s0 s1 e n peek).2.2).1 (putD s0 s1 e (readS s0 s1 e n peek).2.2).2 dg room t' ++ S)) := by
  have HC := Lib.hid (check_any h e)
  have hfl := read_flags s0 s1 e n peek
  by_cases hc : chkS s0 s1 e = 0
  · have he := chk_zero hc
    by_cases hn0 : n < 0
    · have e1 : readS s0 s1 e n peek = ([], -10, sd s0 s1 e) := by unfold readS; rw [if_neg (fun hh => hh hc), if_pos hn0]
      have e2 : putD s0 s1 e (sd s0 s1 e) = (s0, s1) := by
        unfold putD sd
        rcases he with rfl | rfl <;> rfl
      rw [e1, e2]
      rw [hc] at HC
      have HS := Lib.hid (h.nilRow 5 1)
      clear h hfl e1 e2 hc
      rcases he with rfl | rfl
      all_goals
        go_enter Try.func11, Try.ntmps11
        go_wp2_with (first
          | (go_at_call 24; (with_reducible refine HC.out.mono ?_); rintro e w1 ⟨rfl, rfl⟩))
        go_ret2
        exact ⟨_, _, rfl, HS.out⟩
    · have hR : readS s0 s1 e n peek = if (sd s0 s1 e).b ≠ [] then ((takeS (sd s0 s1 e) n.toNat peek).1, 0, (takeS (sd s0 s1 e) n.toNat peek).2) else if (ot s0 s1 e).c = true then ([], -24, sd s0 s1 e) else if (sd s0 s1 e).d = true ∨ (ot s0 s1 e).m = true then ([], -20, sd s0 s1 e) else ([], -22, sd s0 s1 e) := by
        unfold readS
        rw [if_neg (fun hh => hh hc), if_neg hn0]
      rw [hc] at HC
      generalize readS s0 s1 e n peek = R at *
      obtain ⟨f1, f2, f3⟩ := hfl
      rcases he with rfl | rfl
      · refine (read_core (dg := dg) (room := room) (x := s0) (y := s1) 0 0 5 (.inl ⟨rfl, rfl, rfl⟩) h rfl rfl rfl rfl rfl HC ok0 hro n (by omega) hn peek hR).mono ?_
        rintro r w1 ⟨vo, vx, qx, rfl, hs⟩
        refine ⟨vo, (vx, qx, t.2.2.1, t.2.2.2), rfl, ?_⟩
        have e1 : ((skC s0 s1 dg room t.1 t.2.1 t.2.2.1 t.2.2.2).setIfInBounds (0 + 3) vx).setIfInBounds (0 + 4) qx = skC R.2.2 s1 dg room vx qx t.2.2.1 t.2.2.2 := by
          unfold skC
          rw [f1, f2, f3]
          rfl
        rw [e1] at hs
        exact hs
      · refine (read_core (dg := dg) (room := room) (x := s1) (y := s0) 1 5 0 (.inr ⟨rfl, rfl, rfl⟩) (swap4 h) rfl rfl rfl rfl rfl HC ok1 hro n (by omega) hn peek hR).mono ?_
        rintro r w1 ⟨vo, vx, qx, rfl, hs⟩
        refine ⟨vo, (t.1, t.2.1, vx, qx), rfl, ?_⟩
        have h2 := swap5 hs
        have e1 : ((skC s0 s1 dg room t.1 t.2.1 t.2.2.1 t.2.2.2).setIfInBounds (5 + 3) vx).setIfInBounds (5 + 4) qx = skC s0 R.2.2 dg room t.1 t.2.1 vx qx := by
          unfold skC
          rw [f1, f2, f3]
          rfl
        rw [e1] at h2
        exact h2
  · have e1 : readS s0 s1 e n peek = ([], chkS s0 s1 e, sd s0 s1 e) := by unfold readS; rw [if_pos hc]
    have e2 : putD s0 s1 e (sd s0 s1 e) = (s0, s1) := by
      unfold putD sd
      split
      · rfl
      · split <;> rfl
    rw [e1, e2]
    have HS := Lib.hid (h.nilRow 5 1)
    have hz : (chkS s0 s1 e == 0) = false := beq_eq_false_iff_ne.mpr hc
    clear h hc hfl e1 e2
    generalize chkS s0 s1 e = s at *
    go_enter Try.func11, Try.ntmps11
    go_wp2_with (first
      | (go_at_call 24; (with_reducible refine HC.out.mono ?_); rintro e w1 ⟨rfl, rfl⟩))
    go_ret2
    exact ⟨_, _, rfl, HS.out⟩
end
/-- Both ends are right. -/
def Ok2 (dg : Bool) (room : Nat) (s0 s1 : Sd) : Prop := SdOk dg room s0 ∧ SdOk dg room s1 ∧ room ≤ 1048576
theorem Ok2.write {dg : Bool} {room : Nat} {s0 s1 : Sd} (h : Ok2 dg room s0 s1) (e : Int) (l : List UInt8) : Ok2 dg room (writeS s0 s1 dg room e l).2.2.1 (writeS s0 s1 dg room e l).2.2.2 := by
  unfold writeS
  split
  · exact h
  · split
    · exact h
    · have h1 : SdOk dg room (putS (ot s0 s1 e) dg room l).2.2 := by
        refine SdOk.put_ ?_ l
        unfold ot
        split
        · exact h.2.1
        · exact h.1
      refine ⟨?_, ?_, h.2.2⟩
      · show SdOk dg room (if e = 0 then s0 else _)
        split
        · exact h.1
        · exact h1
      · show SdOk dg room (if e = 0 then _ else s1)
        split
        · exact h1
        · exact h.2.1
theorem Ok2.read {dg : Bool} {room : Nat} {s0 s1 : Sd} (h : Ok2 dg room s0 s1) (e n : Int) (peek : Bool) : Ok2 dg room (putD s0 s1 e (readS s0 s1 e n peek).2.2).1 (putD s0 s1 e (readS s0 s1 e n peek).2.2).2 := by
  have hs : SdOk dg room (sd s0 s1 e) := by
    unfold sd
    split
    · exact h.1
    · exact h.2.1
  have h1 : SdOk dg room (readS s0 s1 e n peek).2.2 := by
    unfold readS
    split
    · exact hs
    · split
      · exact hs
      · split
        · exact hs.take_ _ _
        · split
          · exact hs
          · split <;> exact hs
  unfold putD
  split
  · exact ⟨h1, h.2.1, h.2.2⟩
  · split
    · exact ⟨h.1, h1, h.2.2⟩
    · exact h
theorem Ok2.zero (dg : Bool) {room : Nat} (h : room ≤ 1048576) : Ok2 dg room sd0 sd0 := ⟨SdOk.zero _ _, SdOk.zero _ _, h⟩
section
variable {w0 w : World} {L : List Asr} {bs room : Nat} {s0 s1 : Sd} {dg : Bool}
theorem write_st (h : Star w0 w L) (i : Nat) (hi : L[i]? = some (SkA bs s0 s1 dg room)) (hok : Ok2 dg room s0 s1) (e : Int) {A : Option Addr} {m c Br : Nat} {l : List UInt8} (hml : m = l.length) (hm : m ≤ maxLen) (hmc : m ≤ c) (hr : Reads w Br 1 A m (bytesV l)) :
    Calls Try.prog 10 #[.pointer (some ⟨bs, 0, none⟩), .int .i64 e, .slice A m c] w fun r w' => r = .returned (.tuple #[.int .i64 (writeS s0 s1 dg room e l).1, .int .i64 (writeS s0 s1 dg room e l).2.1]) ∧
      Star w0 w' (L.set i (SkA bs (writeS s0 s1 dg room e l).2.2.1 (writeS s0 s1 dg room e l).2.2.2 dg room)) := by
  refine (ex_call (Q' := sk bs (writeS s0 s1 dg room e l).2.2.1 (writeS s0 s1 dg room e l).2.2.2 dg room) (R := fun r N => r = .returned (.tuple #[.int .i64 (writeS s0 s1 dg room e l).1, .int .i64 (writeS s0 s1 dg room e l).2.1]) ∧ N = []) h i hi fun t S hS => ?_).mono ?_
  · refine (write_any hS hok.1 hok.2.1 hok.2.2 e hml hm hmc hr).mono ?_
    rintro r w1 ⟨rfl, t', hs⟩
    exact ⟨[], t', ⟨rfl, rfl⟩, hs⟩
  · rintro r w1 ⟨N, ⟨rfl, rfl⟩, hs⟩
    exact ⟨rfl, hs⟩
theorem read_st (h : Star w0 w L) (i : Nat) (hi : L[i]? = some (SkA bs s0 s1 dg room)) (hok : Ok2 dg room s0 s1) (e n : Int) (hn : n ≤ 9223372036854775807) (peek : Bool) :
    Calls Try.prog 11 #[.pointer (some ⟨bs, 0, none⟩), .int .i64 e, .int .i64 n, .bool peek] w fun r w' => ∃ vo, r = .returned (.tuple #[vo, .int .i64 (readS s0 s1 e n peek).2.1]) ∧
      Star w0 w' (RowA 5 1 vo (readS s0 s1 e n peek).1.length (bytesV (readS s0 s1 e n peek).1) :: L.set i (SkA bs (putD s0 s1 e (readS s0 s1 e n peek).2.2).1 (putD s0 s1 e (readS s0 s1 e n peek).2.2).2 dg room)) := by
  refine (ex_call (Q' := sk bs (putD s0 s1 e (readS s0 s1 e n peek).2.2).1 (putD s0 s1 e (readS s0 s1 e n peek).2.2).2 dg room) (R := fun r N => ∃ vo, r = .returned (.tuple #[vo, .int .i64 (readS s0 s1 e n peek).2.1]) ∧ N = [RowA 5 1 vo (readS s0 s1 e n peek).1.length (bytesV (readS s0 s1 e n peek).1)]) h i hi fun t S hS => ?_).mono ?_
  · refine (read_any hS hok.1 hok.2.1 hok.2.2 e n hn peek).mono ?_
    rintro r w1 ⟨vo, t', rfl, hs⟩
    exact ⟨_, t', ⟨vo, rfl, rfl⟩, hs⟩
  · rintro r w1 ⟨N, ⟨vo, rfl, rfl⟩, hs⟩
    exact ⟨vo, rfl, hs⟩
theorem len_st (h : Star w0 w L) (i : Nat) (hi : L[i]? = some (SkA bs s0 s1 dg room)) (e : Int) : Calls Try.prog 13 #[.pointer (some ⟨bs, 0, none⟩), .int .i64 e] w fun r w' => r = .returned (.int .i64 (lenS s0 s1 e)) ∧ w = w' := by
  obtain ⟨t, S, hS⟩ := ex_open h i hi
  exact len_any hS e
theorem pieces_st (h : Star w0 w L) (i : Nat) (hi : L[i]? = some (SkA bs s0 s1 dg room)) (e : Int) : Calls Try.prog 14 #[.pointer (some ⟨bs, 0, none⟩), .int .i64 e] w fun r w' => r = .returned (.int .i64 (pcsS s0 s1 e)) ∧ w = w' := by
  obtain ⟨t, S, hS⟩ := ex_open h i hi
  exact pieces_any hS e
theorem open_st (h : Star w0 w L) (i : Nat) (hi : L[i]? = some (SkA bs s0 s1 dg room)) (e : Int) : Calls Try.prog 21 #[.pointer (some ⟨bs, 0, none⟩), .int .i64 e] w fun r w' => r = .returned (.bool (decide (chkS s0 s1 e = 0))) ∧ w = w' := by
  obtain ⟨t, S, hS⟩ := ex_open h i hi
  exact open_any hS e
end
end Go.Proofs.Ytfocbpnabgpmpaa.Sk
