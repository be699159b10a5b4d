/- TasksRoom: so many tasks can be alive as may be, and no more; each that dies makes room; numbers are never told twice. For all numbers. -/
import Derived.Test.YtojmhacafmpbgaaTkR
namespace Go.Proofs.Ytojmhacafmpbgaa.Tk
open Go Go.RowKit Go.Proofs.Ytojmhacafmpbgaa.Mem
set_option linter.unusedVariables false
set_option linter.unusedSimpArgs false
/-- Of a set that is closed only the one named is alive: it alone dies. -/
theorem dies_one {s : Tr} {id : Nat} {code : Int} {R : Tr × List Nat} {o : List Nat} (hD : Dies code s [id] [] R o) (ha : aliveT s (id : Nat) = true) (D : Nat → Prop) (hc : Clo s D) (hid : D id) (hd : ∀ i : Nat, D i → aliveT s (i : Nat) = true → i = id) : R = (markT s [id] code, [id]) := by
  have h1 : ∀ i ∈ o, i = id := fun i hi => hd i (hD.clo D hc (fun j hj => by rw [List.mem_singleton] at hj; exact hj ▸ hid) i hi) (hD.al i hi)
  have h2 : id ∈ o := by
    have hg := hD.gone id (by simp)
    rw [hD.ts] at hg
    by_cases hm : id ∈ o
    · exact hm
    · rw [mark_alive.2 ⟨ha, hm⟩] at hg
      cases hg
  have ho : o = [id] := by
    cases o with
    | nil => simp at h2
    | cons a l =>
      have ha' := h1 a (by simp)
      subst ha'
      cases l with
      | nil => rfl
      | cons c l =>
        have hc' := h1 c (by simp)
        subst hc'
        exact absurd (List.mem_cons_self) (List.nodup_cons.1 hD.nd).1
  subst ho
  have e1 := hD.ts
  have e2 := hD.tell
  cases R
  simp only at e1 e2
  rw [e1, e2]
  rfl
/-- A task with nothing below it that is critical to none dies alone. -/
theorem kill_leaf {s : Tr} (hw : WfT s) (hN : s.ts.length ≤ 1000) {id : Nat} {x : Tk} (h1 : 1 ≤ id) (hx : s.ts[id - 1]? = some x) (ha : x.st ≠ 2) (hb : x.bl = []) (hc : x.cr = 0) (code : Int) : KillR s id code (markT s [id] code, [id]) := by
  have hal := alive_nat.2 ⟨x, h1, hx, ha⟩
  have hk := alive_of.1 hal
  have hl := (List.getElem?_eq_some_iff.1 hx).1
  obtain ⟨g, R, o, hg, hR, hD⟩ := die_runs hw hN id h1 (by omega) code
  have e := dies_one hD hal (fun i => i = id) (fun i y hi hy hii => by
    subst hii
    rw [hx] at hy
    injection hy with hy
    subst hy
    exact ⟨by rw [hb]; simp, fun h => absurd hc h⟩) rfl (fun i h _ => h)
  subst e
  unfold KillR
  rw [if_pos hk]
  exact ⟨id, rfl, g, o, hg, hR, hD⟩
structure RoomI (most last : Nat) (s : Tr) : Prop where
  wf : WfT s
  mo : s.most = most
  le : s.ts.length = last
  li : s.live ≤ most
  ro : ∃ r, s.ts[0]? = some r ∧ r.kd = 1 ∧ r.st ≠ 2 ∧ r.po = 0
  la : 1 < last → ∃ x, s.ts[last - 1]? = some x ∧ x.kd = 2 ∧ x.st ≠ 2 ∧ x.bl = [] ∧ x.cr = 0
  on : last = 1 → s.live = 1
theorem room_new {most : Nat} (h : 1 ≤ most) : RoomI most 1 (newT most) :=
  ⟨wf_new most, rfl, rfl, h, ⟨rootT, rfl, rfl, by decide, rfl⟩, fun h => absurd h (by omega), fun _ => rfl⟩
theorem room_st {most last : Nat} {s : Tr} (h : RoomI most last s) : ∃ r, taskAt s 1 = some r ∧ s.ts[0]? = some r ∧ r.po = 0 ∧ makeSt s r 2 = if most ≤ s.live then -4 else 0 := by
  obtain ⟨r, h1, h2, h3, h4⟩ := h.ro
  refine ⟨r, by rw [show (1 : Int) = ((1 : Nat) : Int) from rfl, taskAt_nat (by omega)]; exact h1, h1, h4, ?_⟩
  unfold makeSt
  have hj : jobOf s r = r := by unfold jobOf; rw [if_neg (by omega)]
  rw [hj, h2, h4, show fitsT 2 ((1 : Nat) : Int) = true by decide, if_neg (by decide), if_neg h3, show forbidsT 2 = 1 by decide, if_neg (by decide +kernel), if_neg (by omega), h.mo]
theorem room_make {most last : Nat} {s : Tr} (h : RoomI most last s) (hlt : s.live < most) : (makeC s 2 1).1 = ((last : Int) + 1, 0) ∧ RoomI most (last + 1) (makeC s 2 1).2 ∧ (makeC s 2 1).2.live = s.live + 1 := by
  obtain ⟨r, h1, h2, h3, h4⟩ := room_st h
  rw [if_neg (by omega)] at h4
  have e : makeC s 2 1 = (((s.ts.length : Int) + 1, 0), addT s 0 r 2) := by
    unfold makeC
    rw [h1]
    simp only
    rw [if_pos h4]
    rfl
  have hw := h.wf.make 2 1
  have hl := (List.getElem?_eq_some_iff.1 h2).1
  have hln : (s.ts.set 0 { r with bl := r.bl ++ [s.ts.length + 1] }).length = s.ts.length := List.length_set
  rw [e] at hw ⊢
  refine ⟨by rw [h.le], ⟨hw, h.mo, by simp [addT, h.le], by show s.live + 1 ≤ most; omega, ?_, fun _ => ?_, fun h0 => ?_⟩, rfl⟩
  · obtain ⟨r', q1, q2, q3, q4⟩ := h.ro
    rw [h2] at q1
    injection q1 with q1
    subst q1
    refine ⟨{ r with bl := r.bl ++ [s.ts.length + 1] }, ?_, q2, q3, q4⟩
    show (s.ts.set 0 { r with bl := r.bl ++ [s.ts.length + 1] } ++ [newY 2 (0 + 1) r])[0]? = _
    rw [List.getElem?_append_left (by omega), List.getElem?_set_self hl]
  · refine ⟨newY 2 1 r, ?_, rfl, by show (0 : Nat) ≠ 2; decide, rfl, rfl⟩
    show (s.ts.set 0 { r with bl := r.bl ++ [s.ts.length + 1] } ++ [newY 2 (0 + 1) r])[last + 1 - 1]? = _
    rw [List.getElem?_append_right (by rw [hln, h.le]; omega), hln, h.le, show last + 1 - 1 - last = 0 by omega]
    rfl
  · have := h.le
    omega
theorem room_full {most last : Nat} {s : Tr} (h : RoomI most last s) (hge : most ≤ s.live) : makeC s 2 1 = ((0, -4), s) := by
  obtain ⟨r, h1, h2, h3, h4⟩ := room_st h
  rw [if_pos hge] at h4
  unfold makeC
  rw [h1]
  simp only
  rw [if_neg (by rw [h4]; decide), h4]
theorem room_kill {most last : Nat} {s : Tr} (h : RoomI most last s) (hm : 2 ≤ most) (hge : most ≤ s.live) (hN : last ≤ 1000) : KillM s last 3 (markT s [last] 3, [last]) ∧ killSt s last = 0 ∧ (markT s [last] 3).live = most - 1 ∧
    (makeC (markT s [last] 3) 2 1).1 = ((last : Int) + 1, 0) ∧ RoomI most (last + 1) (makeC (markT s [last] 3) 2 1).2 ∧ (makeC (markT s [last] 3) 2 1).2.live = most ∧ WfT (markT s [last] 3) ∧ (markT s [last] 3).ts.length = last := by
  have hlast : 1 < last := by
    have h1 := h.wf.len
    have h2 := h.le
    have h3 := h.on
    omega
  obtain ⟨x, x1, x2, x3, x4, x5⟩ := h.la hlast
  have hk := kill_leaf h.wf (by rw [h.le]; omega) (by omega) x1 x3 x4 x5 3
  have hal : aliveT s (last : Nat) = true := alive_nat.2 ⟨x, by omega, x1, x3⟩
  have hwk := hk.wf h.wf
  have hli := h.li
  have hlv : (markT s [last] 3).live = most - 1 := by
    show s.live - 1 = _
    omega
  have hln : (markT s [last] 3).ts.length = last := by rw [← h.le]; exact markL_len _ _ _
  -- the tree behind the kill, but for its last task, which is dead
  have hroot : ∃ r, (markT s [last] 3).ts[0]? = some r ∧ r.kd = 1 ∧ r.st ≠ 2 ∧ r.po = 0 := by
    obtain ⟨r, q1, q2, q3, q4⟩ := h.ro
    refine ⟨r, ?_, q2, q3, q4⟩
    show (markL s.ts [last] 3)[0]? = _
    rw [markL_get, q1, Option.map_some, if_neg (by simp; omega)]
  obtain ⟨r, q1, q2, q3, q4⟩ := hroot
  have ht : taskAt (markT s [last] 3) 1 = some r := by rw [show (1 : Int) = ((1 : Nat) : Int) from rfl, taskAt_nat (by omega)]; exact q1
  have hms : makeSt (markT s [last] 3) r 2 = 0 := by
    unfold makeSt
    have hj : jobOf (markT s [last] 3) r = r := by unfold jobOf; rw [if_neg (by omega)]
    rw [hj, q2, q4, show fitsT 2 ((1 : Nat) : Int) = true by decide, if_neg (by decide), if_neg q3, show forbidsT 2 = 1 by decide, if_neg (by decide +kernel), if_neg (by omega), if_neg]
    rw [show (markT s [last] 3).most = s.most from rfl, h.mo, hlv]
    omega
  have e : makeC (markT s [last] 3) 2 1 = ((((markT s [last] 3).ts.length : Int) + 1, 0), addT (markT s [last] 3) 0 r 2) := by
    unfold makeC
    rw [ht]
    simp only
    rw [if_pos hms]
    rfl
  have hw := hwk.make 2 1
  have hl := (List.getElem?_eq_some_iff.1 q1).1
  have hln2 : ((markT s [last] 3).ts.set 0 { r with bl := r.bl ++ [(markT s [last] 3).ts.length + 1] }).length = last := by rw [List.length_set, hln]
  refine ⟨hk.mem, alive_of.1 hal, hlv, ?_, ?_, ?_, hwk, hln⟩
  · rw [e, hln]
  · rw [e] at hw ⊢
    refine ⟨hw, h.mo, by simp [addT, hln], ?_, ?_, fun _ => ?_, fun h0 => ?_⟩
    · show (markT s [last] 3).live + 1 ≤ most
      omega
    · refine ⟨{ r with bl := r.bl ++ [(markT s [last] 3).ts.length + 1] }, ?_, q2, q3, q4⟩
      show ((markT s [last] 3).ts.set 0 { r with bl := r.bl ++ [(markT s [last] 3).ts.length + 1] } ++ [newY 2 (0 + 1) r])[0]? = _
      rw [List.getElem?_append_left (by omega), List.getElem?_set_self hl]
    · refine ⟨newY 2 1 r, ?_, rfl, by show (0 : Nat) ≠ 2; decide, rfl, rfl⟩
      show ((markT s [last] 3).ts.set 0 { r with bl := r.bl ++ [(markT s [last] 3).ts.length + 1] } ++ [newY 2 (0 + 1) r])[last + 1 - 1]? = _
      rw [List.getElem?_append_right (by omega), hln2, show last + 1 - 1 - last = 0 by omega]
      rfl
    · omega
  · rw [e]
    show (markT s [last] 3).live + 1 = most
    omega
set_option maxHeartbeats 4000000 in
theorem room_row (a : Int) (ha : (Lit.int .i64 a).wf = true) (b : Int) (hb : (Lit.int .i64 b).wf = true) (w : World) :
    Calls Try.prog 3 #[.int .i64 a, .int .i64 b] w fun e w' => e = .returned (.bool true) ∧ Below w.heap.size w w' := by
  have HA := Lib.hid awake_any
  by_cases hm : a < 1 ∨ 65536 < a
  · have HN := Lib.hid (new_none a hm w)
    by_cases h1 : a < 1
    · clear hm
      go_enter Try.func3, Try.ntmps3
      go_wp2_with (first
        | (go_at_call 9; (with_reducible refine HN.out.mono ?_); rintro e w1 ⟨rfl, rfl⟩)
        | (go_at_call 10; (with_reducible refine (HA.out _).mono ?_); rintro e w9 ⟨rfl, hb9⟩))
      go_ret
      exact ⟨rfl, hb9⟩
    · have h2 : 65536 < a := by omega
      clear hm
      go_enter Try.func3, Try.ntmps3
      go_wp2_with (first
        | (go_at_call 9; (with_reducible refine HN.out.mono ?_); rintro e w1 ⟨rfl, rfl⟩)
        | (go_at_call 10; (with_reducible refine (HA.out _).mono ?_); rintro e w9 ⟨rfl, hb9⟩))
      go_ret
      exact ⟨rfl, hb9⟩
  · obtain ⟨most, rfl⟩ : ∃ m : Nat, a = m := ⟨a.toNat, by omega⟩
    have HN := Lib.hid (new_st (Star.nil w) most (by omega) (by omega))
    by_cases hn : b < 0 ∨ 60 < b
    · by_cases h1 : b < 0
      · clear hm hn
        go_enter Try.func3, Try.ntmps3
        go_wp2_with (first
          | (go_at_call 9; (with_reducible refine HN.out.mono ?_); rintro e w1 ⟨rfl, hs1⟩; have HS1 := Lib.hid hs1; clear hs1)
          | (go_at_call 10; (with_reducible refine (HA.out _).mono ?_); rintro e w9 ⟨rfl, hb9⟩))
        go_ret
        exact ⟨rfl, HS1.out.below.trans (hb9.mono HS1.out.hb)⟩
      · have h2 : 60 < b := by omega
        clear hm hn
        go_enter Try.func3, Try.ntmps3
        go_wp2_with (first
          | (go_at_call 9; (with_reducible refine HN.out.mono ?_); rintro e w1 ⟨rfl, hs1⟩; have HS1 := Lib.hid hs1; clear hs1)
          | (go_at_call 10; (with_reducible refine (HA.out _).mono ?_); rintro e w9 ⟨rfl, hb9⟩))
        go_ret
        exact ⟨rfl, HS1.out.below.trans (hb9.mono HS1.out.hb)⟩
    · obtain ⟨n, rfl⟩ : ∃ n : Nat, b = n := ⟨b.toNat, by omega⟩
      have h1 : ¬ (n : Int) < 0 := by omega
      have h2 : ¬ 60 < (n : Int) := by omega
      obtain ⟨bt, ebt⟩ : ∃ bt, bt = w.heap.size + 1 + 1 := ⟨_, rfl⟩
      rw [← ebt] at HN
      clear hn ebt
      by_cases hm2 : most < 2
      · have hm1 : most = 1 := by omega
        subst hm1
        have hM : Hid (∀ W, Star w W [TT bt (newT 1)] → Calls Try.prog 11 #[.pointer (some ⟨bt, 0, none⟩), .int .i64 2, .int .i64 1] W fun r w' => r = .returned (.tuple #[.int .i64 0, .int .i64 (-4)]) ∧ Star w w' [TT bt (newT 1)]) := Lib.hid (fun W h => by
          have := make_st h 0 rfl (wf_new 1) (by simp [newT]) 2 1
          rw [room_full (room_new (by omega)) (by decide)] at this
          exact this)
        have HC := Lib.hid (fun (W : World) (h : Star w W [TT bt (newT 1)]) => count_st h 0 rfl)
        rw [show ((newT 1).ts.length : Int) = 1 from rfl] at HC
        rw [show ((1 : Nat) : Int) = 1 from rfl] at HN ⊢
        clear hm hm2
        go_enter Try.func3, Try.ntmps3
        go_wp2_with (first
          | (go_at_call 9; (with_reducible refine HN.out.mono ?_); rintro e w1 ⟨rfl, hs1⟩; have HS1 := Lib.hid hs1; clear hs1))
        go_loopg [6, 37] n (fun g s6 s37 wr => ∃ j : Nat, j + g = n ∧ s6 = .int .i64 1 ∧ s37 = .int .i64 j ∧ Hid (Star w wr [TT bt (newT 1)]))
        case atStart => exact ⟨0, by omega, rfl, rfl, HS1⟩
        case round =>
          obtain ⟨j, hj, rfl, rfl, HS⟩ := hrel
          by_cases hlt : j < n
          · have hjz : (j : Int) < n := by omega
            go_wp2_with (first
              | (go_at_call 11; (with_reducible refine (hM.out _ HS.out).mono ?_); rintro e w2 ⟨rfl, hs2⟩; have HS2 := Lib.hid hs2; clear hs2))
            go_roundg (gk - 1)
            case rel => exact ⟨j + 1, by omega, rfl, by go_num, HS2⟩
            case measure => omega
          · obtain rfl : j = n := by omega
            go_wp2_with (first
              | (go_at_call 14; (with_reducible refine (HC.out _ HS.out).mono ?_); rintro e w3 ⟨rfl, hs3⟩; have HS3 := Lib.hid hs3; clear hs3)
              | (go_at_call 10; (with_reducible refine (HA.out _).mono ?_); rintro e w9 ⟨rfl, hb9⟩))
            go_ret
            exact ⟨rfl, HS3.out.below.trans (hb9.mono HS3.out.hb)⟩
      · have hmz : ¬ (most : Int) < 2 := by omega
        have hmu : (most : Int) ≤ 65536 := by omega
        have hm2' : 2 ≤ most := by omega
        have hm1 : 1 ≤ most := by omega
        clear hm hm2
        go_enter Try.func3, Try.ntmps3
        go_wp2_with (first
          | (go_at_call 9; (with_reducible refine HN.out.mono ?_); rintro e w1 ⟨rfl, hs1⟩; have HS1 := Lib.hid hs1; clear hs1))
        go_loopg [6, 37] n (fun g s6 s37 wr => ∃ (j last : Nat) (s : Tr), j + g = n ∧ last = j + 1 ∧ s6 = .int .i64 last ∧ s37 = .int .i64 j ∧ Hid (RoomI most last s) ∧ Hid (Star w wr [TT bt s]))
        case atStart => exact ⟨0, 1, newT most, by omega, rfl, rfl, rfl, Lib.hid (room_new hm1), HS1⟩
        case round =>
          obtain ⟨j, last, s, hj, hlj, rfl, rfl, HI, HS⟩ := hrel
          have hlz : (last : Int) ≤ 100 := by omega
          have HLJ := Lib.hid hlj
          by_cases hlt : j < n
          · have hjz : (j : Int) < n := by omega
            have hlen : s.ts.length ≤ 1000 := by rw [HI.out.le]; omega
            have hM := make_st HS.out 0 rfl HI.out.wf hlen 2 1
            by_cases hfree : s.live < most
            · obtain ⟨e1, e2, e3⟩ := room_make HI.out hfree
              rw [e1] at hM
              have hL := fun W (h : Star w W [TT bt (makeC s 2 1).2]) => live_st h 0 rfl
              rw [e3] at hL
              have HM := Lib.hid hM
              have HL := Lib.hid hL
              have HI2 := Lib.hid e2
              obtain ⟨lv, elv⟩ : ∃ lv, lv = s.live + 1 := ⟨_, rfl⟩
              rw [← elv] at HL
              have hlv : ¬ (most : Int) < lv := by omega
              generalize (makeC s 2 1).2 = s2 at *
              simp only [List.set_cons_zero] at HM
              clear hM hL e1 e2 e3 hfree elv HI HS hlen hlj
              go_wp2_with (first
                | (go_at_call 11; (with_reducible refine HM.out.mono ?_); rintro e w2 ⟨rfl, hs2⟩; have HS2 := Lib.hid hs2; clear hs2)
                | (go_at_call 13; (with_reducible refine (HL.out _ HS2.out).mono ?_); rintro e w3 ⟨rfl, hs3⟩; have HS3 := Lib.hid hs3; clear hs3))
              go_roundg (gk - 1)
              case rel => exact ⟨j + 1, last + 1, s2, by omega, by have := HLJ.out; omega, by go_num, by go_num, HI2, HS3⟩
              case measure => omega
            · obtain ⟨k1, k2, k3, k4, k5, k6, k7, k8⟩ := room_kill HI.out hm2' (by omega) (by omega)
              rw [room_full HI.out (by omega)] at hM
              have HM := Lib.hid hM
              have HK := Lib.hid (fun W (h : Star w W [TT bt s]) => kill_st h 0 rfl last 3 _ k1)
              rw [k2] at HK
              simp only [List.set_cons_zero, List.length_singleton] at HK HM
              have HL := Lib.hid (fun W (h : Star w W [TT bt (markT s [last] 3)]) => live_st h 0 rfl)
              rw [k3, show ((most - 1 : Nat) : Int) = (most : Int) - 1 by omega] at HL
              have HM2 := Lib.hid (fun W (h : Star w W [TT bt (markT s [last] 3)]) => make_st h 0 rfl k7 (by rw [k8]; omega) 2 1)
              rw [k4] at HM2
              simp only [List.set_cons_zero] at HM2
              have HL2 := Lib.hid (fun W (h : Star w W [TT bt (makeC (markT s [last] 3) 2 1).2]) => live_st h 0 rfl)
              rw [k6] at HL2
              have HI2 := Lib.hid k5
              generalize (makeC (markT s [last] 3) 2 1).2 = s2 at *
              generalize markT s [last] 3 = s1 at *
              clear hM k1 k2 k3 k4 k5 k6 k7 k8 hfree HI hlen hlj
              go_wp2_with (first
                | (go_at_call 11; (with_reducible refine HM.out.mono ?_); rintro e w2 ⟨rfl, hs2⟩; have HS2 := Lib.hid hs2; clear hs2)
                | (go_at_call 12; (with_reducible refine (HK.out _ HS2.out).mono ?_); rintro e w3 ⟨u, rfl, hs3⟩
                   obtain ⟨A3, c3, rfl⟩ := (hs3.rowO 0 rfl).len
                   have HS3 := Lib.hid hs3.tail
                   clear hs3)
                | (go_at_call 13; (with_reducible refine (HL.out _ HS3.out).mono ?_); rintro e w4 ⟨rfl, hs4⟩; have HS4 := Lib.hid hs4; clear hs4)
                | (go_at_call 11; (with_reducible refine (HM2.out _ HS4.out).mono ?_); rintro e w5 ⟨rfl, hs5⟩; have HS5 := Lib.hid hs5; clear hs5)
                | (go_at_call 13; (with_reducible refine (HL2.out _ HS5.out).mono ?_); rintro e w6 ⟨rfl, hs6⟩; have HS6 := Lib.hid hs6; clear hs6))
              go_roundg (gk - 1)
              case rel => exact ⟨j + 1, last + 1, s2, by omega, by have := HLJ.out; omega, by go_num, by go_num, HI2, HS6⟩
              case measure => omega
          · obtain rfl : j = n := by omega
            have HC := Lib.hid (count_st HS.out 0 rfl)
            rw [HI.out.le] at HC
            clear hlj
            go_wp2_with (first
              | (go_at_call 14; (with_reducible refine HC.out.mono ?_); rintro e w3 ⟨rfl, hs3⟩; have HS3 := Lib.hid hs3; clear hs3)
              | (go_at_call 10; (with_reducible refine (HA.out _).mono ?_); rintro e w9 ⟨rfl, hb9⟩))
            go_ret
            exact ⟨rfl, HS3.out.below.trans (hb9.mono HS3.out.hb)⟩
end Go.Proofs.Ytojmhacafmpbgaa.Tk
