/- The walk of PagesCount. -/
import Derived.Test.YtllofdfldoaedaaPgShared
import Derived.Test.YtllofdfldoaedaaArgsB
import Derived.Deep.CutBlock
import Derived.Deep.CutRange
namespace Go.Proofs.Ytllofdfldoaedaa.Pg
open Go Go.RowKit Go.Proofs.Ytllofdfldoaedaa.Mem
set_option linter.unusedVariables false
set_option linter.unusedSimpArgs false
/-- A call of a script. -/
structure OpR where
  k : Int
  f : Int
  at_ : Int
  n : Int
  A : Option Addr
  c : Nat
  d : List UInt8
def opC (o : OpR) : List Value := [.int .i64 o.k, .int .i64 o.f, .int .i64 o.at_, .int .i64 o.n, .slice o.A o.d.length o.c]
def opOk (w : World) (o : OpR) : Prop := (-9223372036854775808 ≤ o.n ∧ o.n ≤ 9223372036854775807) ∧ Reads w w.heap.size 1 o.A o.d.length (bytesV o.d) ∧ o.d.length ≤ maxLen
structure CI (N : Nat) (fs : List Fr) (cap : Int) : Prop where
  gd : Gd N fs cap
  len : fs.length ≤ N
theorem CI.nil {cap : Int} (h : 0 ≤ cap ∧ cap ≤ 65536) : CI 0 [] cap := ⟨gd_nil h 0, by simp⟩
theorem CI.mono {N M : Nat} {fs : List Fr} {cap : Int} (h : CI N fs cap) (hM : N ≤ M) : CI M fs cap := ⟨h.gd.mono hM, by have := h.len; omega⟩
theorem CI.alloc {N : Nat} {fs : List Fr} {cap : Int} (h : CI N fs cap) : CI (N + 1) (allocS fs cap).2.2 cap := by
  unfold allocS
  by_cases hc : (usedN fs : Int) = cap
  · rw [if_pos hc]; exact h.mono (by omega)
  · rw [if_neg hc]
    exact ⟨(h.gd.mono (by omega)).alloc (by omega) hc, by show (allocL fs).length ≤ _; have := allocL_len fs; have := h.len; omega⟩
theorem CI.at_ {N : Nat} {fs : List Fr} {cap : Int} (h : CI N fs cap) {k : Nat} {x : Fr} (hx : fs[k]? = some x) : 0 ≤ x.u ∧ x.u ≤ N := h.gd.us x (List.mem_of_getElem? hx)
theorem CI.share {N : Nat} {fs : List Fr} {cap : Int} (h : CI N fs cap) (f : Int) : CI (N + 1) (shareS fs f).2 cap := by
  unfold shareS addU
  by_cases hz : usersN fs f = 0
  · rw [if_pos hz]; exact h.mono (by omega)
  · rw [if_neg hz]
    obtain ⟨k, x, rfl, hx, hu, _⟩ := usersN_some hz
    have := h.at_ hx
    rw [getF_at hx]
    exact ⟨(h.gd.mono (by omega)).set _ (by simp only; omega), by simp only [List.length_set]; have := h.len; omega⟩
theorem CI.release {N : Nat} {fs : List Fr} {cap : Int} (h : CI N fs cap) (f : Int) : CI (N + 1) (releaseS fs f).2 cap := by
  unfold releaseS addU
  by_cases hz : usersN fs f = 0
  · rw [if_pos hz]; exact h.mono (by omega)
  · rw [if_neg hz]
    obtain ⟨k, x, rfl, hx, hu, _⟩ := usersN_some hz
    have := h.at_ hx
    rw [getF_at hx]
    exact ⟨(h.gd.mono (by omega)).set _ (by simp only; omega), by simp only [List.length_set]; have := h.len; omega⟩
theorem CI.own {N : Nat} {fs : List Fr} {cap : Int} (h : CI N fs cap) (f : Int) : CI (N + 1) (ownS fs cap f).2.2 cap := by
  unfold ownS
  by_cases hz : usersN fs f = 0
  · rw [if_pos hz]; exact h.mono (by omega)
  · rw [if_neg hz]
    by_cases h1 : usersN fs f = 1
    · rw [if_pos h1]; exact h.mono (by omega)
    · rw [if_neg h1]
      by_cases hc : (usedN fs : Int) = cap
      · rw [if_pos hc]; exact h.mono (by omega)
      · rw [if_neg hc]
        obtain ⟨k, x, rfl, hx, hu, he⟩ := usersN_some hz
        have := h.at_ hx
        rw [getF_at hx]
        refine ⟨(((h.gd.mono (by omega)).alloc (by omega) hc).set _ (by simp only; omega)).set _ (by simp only; omega), ?_⟩
        simp only [List.length_set]
        have := allocL_len fs
        have := h.len
        omega
theorem users_out {fs : List Fr} {f : Int} (h : f < 0 ∨ (fs.length : Int) ≤ f) : usersN fs f = 0 := by
  unfold usersN
  by_cases h0 : 0 ≤ f
  · rw [if_pos h0, List.getElem?_eq_none (by omega)]
    rfl
  · rw [if_neg h0]
theorem used_take {fs : List Fr} {m : Nat} {x : Fr} (hx : fs[m]? = some x) : usedN (fs.take (m + 1)) = usedN (fs.take m) + cnt1 x := by
  rw [List.take_add_one, hx]
  exact usedN_snoc _ _
theorem used_take_out {fs : List Fr} {m : Nat} (h : fs.length ≤ m) : usedN (fs.take (m + 1)) = usedN (fs.take m) := by
  rw [List.take_of_length_le (by omega), List.take_of_length_le h]
set_option maxRecDepth 8000 in
set_option maxHeartbeats 8000000 in
theorem count_walk (cap : Int) (A : Option Addr) (c : Nat) (l : List OpR) (w : World) (hr : Reads w w.heap.size 5 A l.length (l.map opC).flatten) (hm : l.length ≤ maxLen) (hl : ∀ o ∈ l, opOk w o) :
    Calls Try.prog 5 #[.int .i64 cap, .slice A l.length c] w fun e w' => e = .returned (.bool true) ∧ Below w.heap.size w w' := by
  have HA := Lib.hid awake_any
  unfold maxLen at hm
  by_cases hc : cap < 0 ∨ 65536 < cap
  · have HNo := Lib.hid (new_none hc)
    clear hr hl
    rcases hc with hc | hc
    all_goals
      go_enter Try.func5, Try.ntmps5
      go_wp2_with (first
        | (go_at_call 9; (with_reducible refine (HNo.out _).mono ?_); rintro e w1 ⟨rfl, rfl⟩)
        | (go_at_call 10; (with_reducible refine (HA.out _).mono ?_); rintro e w2 ⟨rfl, hb2⟩))
      go_ret
      exact ⟨rfl, hb2⟩
  · have hc1 : 0 ≤ cap := by omega
    have hc2 : cap ≤ 65536 := by omega
    have HN := Lib.hid (new_st (Star.nil w) (cap := cap) ⟨hc1, hc2⟩)
    by_cases hn : 120 < l.length
    · clear hr hl hc
      generalize l.length = n at *
      go_enter Try.func5, Try.ntmps5
      go_wp2_with (first
        | (go_at_call 9; (with_reducible refine HN.out.mono ?_); rintro e w1 ⟨rfl, hs1⟩)
        | (go_at_call 10; (with_reducible refine (HA.out _).mono ?_); rintro e w2 ⟨rfl, hb2⟩))
      go_ret
      exact ⟨rfl, hs1.below.trans (hb2.mono hs1.below.size)⟩
    · have HR := Lib.hid hr
      have hn2 : l.length ≤ 120 := by omega
      clear hr hl hn hc
      go_enter Try.func5, Try.ntmps5
      go_wp2_with (first
        | (go_at_call 9; (with_reducible refine HN.out.mono ?_); rintro e w1 ⟨rfl, hs1⟩
           have HS1 := Lib.hid hs1
           clear hs1))
      go_loopw [34] (fun i wr => ∃ (k : Nat) (fs : List Fr), k ≤ l.length ∧ i = .int .i64 k ∧ Hid (CI k fs cap) ∧ Hid (Star w wr [PzA w.heap.size fs cap])) (fun i _ => l.length - (intOf i).toNat)
      case atStart => exact ⟨0, [], by omega, rfl, Lib.hid (CI.nil ⟨hc1, hc2⟩), HS1⟩
      case round =>
        clear HS1 HN
        obtain ⟨k, fs, hk, rfl, HC, HS⟩ := hrel
        by_cases hlt : k < l.length
        · obtain ⟨o, ho⟩ : ∃ o, l[k]? = some o := ⟨_, List.getElem?_eq_getElem hlt⟩
          obtain ⟨ad, rfl, had, hcl⟩ := (HR.out.below HS.out.below).row (k := k) (r := opC o) (fun r hr => by
            obtain ⟨r0, hr0, rfl⟩ := List.mem_map.1 hr
            rfl) hlt (by simp [ho])
          have HCL := Lib.hid hcl
          clear hcl ho had
          obtain ⟨kd, f, at_, n, A3, c3, d3⟩ := o
          go_upto_region 7 with (first
            | (with_reducible refine wpList_load_add rfl 41 (.tmp 36) rfl _ rfl (opC ⟨kd, f, at_, n, A3, c3, d3⟩) _ HCL.out Try.underlying41 rfl (by kernel_rfl) ?_)
            | (with_reducible refine wpList_box_st rfl 41 (.tmp 7) (.tmp 37) rfl HS.out #[.int .i64 kd, .int .i64 f, .int .i64 at_, .int .i64 n, .slice A3 d3.length c3] rfl rfl (by kernel_rfl) rfl (by simp [Value.oneCell']) ?_
               intro W1 hs1))
          have HS2 := Lib.hid hs1
          have b0 : W1.cell? ⟨wr.heap.size, 0, none⟩ = some (.int .i64 kd) := (hs1.blk 0 rfl).cellv rfl
          have b1 : W1.cell? ⟨wr.heap.size, 1, none⟩ = some (.int .i64 f) := (hs1.blk 0 rfl).cellv rfl
          clear hs1 HS HCL
          generalize wr.heap.size = g at *
          go_upto_block 2 with fail
          go_cut [34] from 34 to 95 (fun i wx => i = .int .i64 k ∧ ∃ fs', Hid (CI (k + 1) fs' cap) ∧ Hid (Star w wx [PzA w.heap.size fs' cap]))
          case first =>
            by_cases hk1 : kd = 1
            · subst hk1
              have HM := Lib.hid (alloc_st HS2.out 1 rfl HC.out.gd)
              have HC2 := Lib.hid HC.out.alloc
              go_wp2_with (first
                | (go_at_call 11; (with_reducible refine HM.out.mono ?_); rintro e w3 ⟨rfl, hs3⟩
                   have HS3 := Lib.hid hs3.tail
                   clear hs3))
              go_meet
              case rel => exact ⟨rfl, _, HC2, HS3⟩
            · by_cases hk2 : kd = 2
              · subst hk2
                have HM := Lib.hid (share_st HS2.out 1 rfl HC.out.gd (by omega) f)
                have HC2 := Lib.hid (HC.out.share f)
                go_wp2_with (first
                  | (go_at_call 15; (with_reducible refine HM.out.mono ?_); rintro e w3 ⟨rfl, hs3⟩
                     have HS3 := Lib.hid hs3.tail
                     clear hs3))
                go_meet
                case rel => exact ⟨rfl, _, HC2, HS3⟩
              · by_cases hk3 : kd = 3
                · subst hk3
                  have HM := Lib.hid (release_st HS2.out 1 rfl HC.out.gd (by omega) f)
                  have HC2 := Lib.hid (HC.out.release f)
                  go_wp2_with (first
                    | (go_at_call 17; (with_reducible refine HM.out.mono ?_); rintro e w3 ⟨rfl, hs3⟩
                       have HS3 := Lib.hid hs3.tail
                       clear hs3))
                  go_meet
                  case rel => exact ⟨rfl, _, HC2, HS3⟩
                · by_cases hk4 : kd = 4
                  · subst hk4
                    have HM := Lib.hid (own_st HS2.out 1 rfl HC.out.gd (by omega) f)
                    have HC2 := Lib.hid (HC.out.own f)
                    go_wp2_with (first
                      | (go_at_call 20; (with_reducible refine HM.out.mono ?_); rintro e w3 ⟨rfl, hs3⟩
                         have HS3 := Lib.hid hs3.tail
                         clear hs3))
                    go_meet
                    case rel => exact ⟨rfl, _, HC2, HS3⟩
                  · have z1 : (kd == 1) = false := beq_eq_false_iff_ne.mpr hk1
                    have z2 : (kd == 2) = false := beq_eq_false_iff_ne.mpr hk2
                    have z3 : (kd == 3) = false := beq_eq_false_iff_ne.mpr hk3
                    have z4 : (kd == 4) = false := beq_eq_false_iff_ne.mpr hk4
                    have HC2 := Lib.hid (HC.out.mono (show k ≤ k + 1 by omega))
                    have HS3 := Lib.hid HS2.out.tail
                    clear hk1 hk2 hk3 hk4
                    go_wp2
                    go_meet
                    case rel => exact ⟨rfl, _, HC2, HS3⟩
          case rest =>
            clear b0 b1 HS2 HC
            obtain ⟨rfl, fs', HC, HS⟩ := hcut
            go_wp2
            go_loopw [8, 62] (fun n j wx => wx = wc ∧ ∃ m : Nat, m ≤ 130 ∧ j = .int .i64 m ∧ n = .int .i64 (usedN (fs'.take m))) (fun _ j _ => 130 - (intOf j).toNat)
            case atStart => exact ⟨rfl, 0, by omega, rfl, rfl⟩
            case round =>
              obtain ⟨hwx, m, hm130, rfl, rfl⟩ := hrel
              have hwx' := hwx.symm
              subst hwx'
              have hle := usedN_le (fs'.take m)
              rw [List.length_take] at hle
              by_cases hmlt : m < 130
              · have hU := users_st HS.out 0 rfl (m : Int)
                by_cases hml : m < fs'.length
                · obtain ⟨x, hx⟩ : ∃ x, fs'[m]? = some x := ⟨_, List.getElem?_eq_getElem hml⟩
                  rw [usersN_at hx] at hU
                  have hxu := HC.out.at_ hx
                  have HT := Lib.hid (used_take hx)
                  have HU := Lib.hid hU
                  clear hU hx
                  by_cases hu : x.u = 0
                  · have hc0 : cnt1 x = 0 := if_pos hu
                    rw [hc0, Nat.add_zero] at HT
                    rw [hu] at HU
                    clear hu hxu hc0
                    go_wp2_with (first
                      | (go_at_call 16; (with_reducible refine HU.out.mono ?_); rintro e w5 ⟨rfl, rfl⟩))
                    go_roundw
                    case rel => exact ⟨trivial, m + 1, by omega, by go_num, by rw [HT.out]; try rfl⟩
                    case measure => simp [intOf]; omega
                  · have hc1 : cnt1 x = 1 := if_neg hu
                    rw [hc1] at HT
                    have hpos : 0 < x.u := by omega
                    clear hu hc1 hxu
                    generalize x.u = u at *
                    go_wp2_with (first
                      | (go_at_call 16; (with_reducible refine HU.out.mono ?_); rintro e w5 ⟨rfl, rfl⟩))
                    go_roundw
                    case rel => exact ⟨trivial, m + 1, by omega, by go_num, by rw [HT.out]; go_num⟩
                    case measure => simp [intOf]; omega
                · rw [users_out (by omega)] at hU
                  have HU := Lib.hid hU
                  have HT := Lib.hid (used_take_out (fs := fs') (m := m) (by omega))
                  clear hU
                  go_wp2_with (first
                    | (go_at_call 16; (with_reducible refine HU.out.mono ?_); rintro e w5 ⟨rfl, rfl⟩))
                  go_roundw
                  case rel => exact ⟨trivial, m + 1, by omega, by go_num, by rw [HT.out]; try rfl⟩
                  case measure => simp [intOf]; omega
              · have hfl := HC.out.len
                have hgl := HC.out.gd.len
                have hul := usedN_le fs'
                have hall : usedN (fs'.take m) = usedN fs' := by rw [List.take_of_length_le (by omega)]
                rw [hall]
                have HUs := Lib.hid (used_st HS.out 0 rfl)
                have HRm := Lib.hid (room_st HS.out 0 rfl HC.out.gd)
                have hUa := fun n => users_st (HS.out.drewN n) 0 rfl (-1)
                rw [users_out (by omega)] at hUa
                have hUb := fun n => users_st (HS.out.drewN n) 0 rfl cap
                rw [users_out (by omega)] at hUb
                have HUa := Lib.hid hUa
                have HUb := Lib.hid hUb
                clear hall hle hUa hUb
                generalize usedN fs' = q at *
                go_wp2_with (first
                  | (go_at_call 18; (with_reducible refine HUs.out.mono ?_); rintro e w5 ⟨rfl, rfl⟩)
                  | (go_at_call 19; (with_reducible refine HRm.out.mono ?_); rintro e w6 ⟨rfl, n6, rfl⟩)
                  | (go_at_call 16; (with_reducible refine (HUa.out _).mono ?_); rintro e w7 ⟨rfl, rfl⟩)
                  | (go_at_call 16; (with_reducible refine (HUb.out _).mono ?_); rintro e w8 ⟨rfl, rfl⟩))
                go_roundw
                case rel => exact ⟨k + 1, fs', by omega, by go_num, HC, HS.out.drewN _⟩
                case measure => simp [intOf]; omega
        · go_wp2_with (first
            | (go_at_call 10; (with_reducible refine (HA.out _).mono ?_); rintro e w2 ⟨rfl, hb2⟩))
          go_ret
          exact ⟨rfl, HS.out.below.trans (hb2.mono HS.out.below.size)⟩
end Go.Proofs.Ytllofdfldoaedaa.Pg
