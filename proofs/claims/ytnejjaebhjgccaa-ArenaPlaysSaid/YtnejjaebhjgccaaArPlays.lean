/- The walk of ArenaPlays. -/
import Derived.Test.YtnejjaebhjgccaaArP5
namespace Go.Proofs.Ytnejjaebhjgccaa.Ar
open Go Go.RowKit Go.Proofs.Ytnejjaebhjgccaa.Mem Go.Proofs.Ytnejjaebhjgccaa.Bits
set_option linter.unusedVariables false
set_option linter.unusedSimpArgs false
set_option maxRecDepth 8000 in
set_option maxHeartbeats 8000000 in
theorem plays_walk (cap : Int) (A : Option Addr) (c : Nat) (l : List (List Int)) (w : World) (hr : Reads w w.heap.size 4 A l.length (opsV l)) (hl4 : ∀ r ∈ l, r.length = 4 ∧ ∀ x ∈ r, (Lit.int .i64 x).wf = true) : Calls Try.prog 8 #[.int .i64 cap, .slice A l.length c] w fun e w' => e = .returned (.bool true) ∧ Below w.heap.size w w' := by
  have HA := Lib.hid awake_any
  have HR := Lib.hid hr
  clear hr
  by_cases hc : cap < 0 ∨ 65536 < cap
  · have HNo := Lib.hid (new_none cap hc)
    rcases hc with hc | hc
    all_goals
      go_enter Try.func8, Try.ntmps8
      go_wp2_with (first
        | (go_at_call 9; (with_reducible refine (HNo.out _).mono ?_); rintro e w1 ⟨rfl, rfl⟩)
        | (go_at_call 10; (with_reducible refine (HA.out _).mono ?_); rintro e w2 ⟨rfl, hb2⟩))
      go_ret
      exact ⟨rfl, hb2⟩
  · have HNew := Lib.hid (new_az cap (by omega) (by omega) w w.heap.size (Nat.le_refl _))
    have hc0 : 0 ≤ cap := by omega
    have hc1 : cap ≤ 65536 := by omega
    by_cases hn : 200 < l.length
    · clear hc
      go_enter Try.func8, Try.ntmps8
      go_wp2_with (first
        | (go_at_call 9; (with_reducible refine HNew.out.mono ?_); rintro e w1 ⟨rfl, ha1, hb1⟩)
        | (go_at_call 10; (with_reducible refine (HA.out _).mono ?_); rintro e w3 ⟨rfl, hb3⟩))
      go_ret
      exact ⟨rfl, hb1.trans (hb3.mono hb1.size)⟩
    · have hl2 : l.length ≤ 200 := by omega
      obtain ⟨i0, hi0, hz0, hz1, hz2⟩ := info_parts int_info
      clear hn hc
      go_enter Try.func8, Try.ntmps8
      go_upto_region 8 with (first
        | (go_at_call 9; (with_reducible refine HNew.out.mono ?_); rintro e w1 ⟨rfl, ha1, hb1⟩))
      have hrf := rf_new (w := w1) (B := w.heap.size) cap hb1.size
      have hal : Upd (fun _ => False) w1 (w1.alloc (.cells #[.slice none 0 0, .slice none 0 0, .slice none 0 0, .slice none 0 0, .int .i64 cap] 54)) := (Upd.refl _ _).alloc _
      have hm0 : Mid w 0 w.heap.size w1.heap.size cap (w1.alloc (.cells #[.slice none 0 0, .slice none 0 0, .slice none 0 0, .slice none 0 0, .int .i64 cap] 54)) (.slice none 0 0) (fun k => k = w.heap.size) (Just w1.heap.size) [] [] [] := by
        refine ⟨by simp, whole_nil cap hc0 hc1, ha1.keep hal (Dis.no _), hrf, World.ownsRow_nil _ _ _ _, ?_, hb1.alloc hb1.size _⟩
        have h1 : Sep w.heap.size w1 [fun k => k = w.heap.size] := ⟨fun F hF => by obtain rfl := List.mem_singleton.1 hF; exact ha1.in_, List.pairwise_singleton _ _⟩
        have h2 := h1.new (w' := w1.alloc (.cells #[.slice none 0 0, .slice none 0 0, .slice none 0 0, .slice none 0 0, .int .i64 cap] 54)) (G := Just w1.heap.size) (by simp) (fun k hk => by
          have e : k = w1.heap.size := hk
          subst e
          simp) hb1.size
        exact Sep.empty [Just w1.heap.size, fun k => k = w.heap.size] [] h2 _ nil_empty
      have HM0 := Lib.hid hm0
      clear hrf hal hm0 ha1 hb1
      generalize w1.heap.size = bx at *
      generalize w1.alloc _ = W0 at *
      go_wp2
      go_loopw [7, 51] (fun ids i wr => ∃ (k : Nat) (F H : Blocks) (sl : List Sl) (fr : List Nat) (told : List Int), k ≤ l.length ∧ i = .int .i64 k ∧ Hid (Mid w k w.heap.size bx cap wr ids F H sl fr told)) (fun _ i _ => l.length - (intOf i).toNat)
      case atStart => exact ⟨0, _, _, [], [], [], by omega, rfl, HM0⟩
      case round =>
        clear HM0
        obtain ⟨k, F, H, sl, fr, told, hk, rfl, HM⟩ := hrel
        by_cases hlt : k < l.length
        · obtain ⟨hr4, hrw⟩ := hl4 l[k] (List.getElem_mem _)
          obtain ⟨ad, rfl, had, hcl⟩ := (HR.out.below HM.out.below).row (k := k) (r := l[k].map (Value.int .i64)) (fun r hr => by
            obtain ⟨r0, hr0, rfl⟩ := List.mem_map.1 hr
            rw [List.length_map]
            exact (hl4 r0 hr0).1) hlt (by simp [List.getElem?_eq_getElem hlt])
          obtain ⟨kd, od, on, ov, hrow⟩ := four_of hr4
          rw [hrow] at hcl hrw
          simp only [List.map_cons, List.map_nil] at hcl
          have HCL := Lib.hid hcl
          clear hcl hrw hrow hr4
          obtain ⟨A3, c3, rfl⟩ := own_len HM.out.own
          go_upto_region 11 with (first
            | (with_reducible refine wpList_load_add rfl 37 (.tmp 53) rfl _ rfl [.int .i64 kd, .int .i64 od, .int .i64 on, .int .i64 ov] _ HCL.out Try.underlying37 rfl (by kernel_rfl) ?_)
            | (with_reducible refine wpList_box rfl 37 (.tmp 9) (.tmp 54) rfl #[.int .i64 kd, .int .i64 od, .int .i64 on, .int .i64 ov] rfl rfl (by kernel_rfl) rfl (by simp [Value.oneCell']) ?_
               intro W1 hbx hux hsx))
          have hS1 : Sep w.heap.size W1 [Just wr.heap.size, H, F, OwnB (.slice A3 told.length c3)] := HM.out.sep.new (by omega) (fun q hq => by simp [Just] at hq; omega) HM.out.below.size
          have hM1 : Mid w k w.heap.size bx cap W1 (.slice A3 told.length c3) F H sl fr told := ⟨HM.out.len, HM.out.whole, HM.out.az.keep hux (Dis.no _), HM.out.rf.keep hux (Dis.no _), own_keep HM.out.own hux (Dis.no _), HM.out.sep.size hux.size, below_upd HM.out.below hux (fun _ h => h.elim) (Nat.le_refl _)⟩
          have HS1 := Lib.hid hS1
          have HM1 := Lib.hid hM1
          have HBX := Lib.hid hbx
          have b0 : W1.cell? ⟨wr.heap.size, 0, none⟩ = some (.int .i64 kd) := hbx.cellv rfl
          have b1 : W1.cell? ⟨wr.heap.size, 1, none⟩ = some (.int .i64 od) := hbx.cellv rfl
          have b2 : W1.cell? ⟨wr.heap.size, 2, none⟩ = some (.int .i64 on) := hbx.cellv rfl
          have b3 : W1.cell? ⟨wr.heap.size, 3, none⟩ = some (.int .i64 ov) := hbx.cellv rfl
          clear hS1 hM1 hbx hux HM HCL had
          generalize wr.heap.size = g at *
          go_upto_region 12 with fail
          go_cut [51, 71] from 51 to 240 (fun i q wx => i = .int .i64 k ∧ wx = W1 ∧ ∃ b : Bool, q = .bool b ∧ (b = true → 0 ≤ on ∧ on < told.length))
          case first =>
            by_cases h3 : 3 < kd
            · by_cases h0 : 0 ≤ on
              · by_cases h1 : on < told.length
                · go_wp2
                  go_meet
                  case rel => exact ⟨rfl, rfl, _, rfl, fun _ => ⟨h0, h1⟩⟩
                · go_wp2
                  go_meet
                  case rel => exact ⟨rfl, rfl, false, by first | (simp; done) | (simp; omega), fun h => by cases h⟩
              · go_wp2
                go_meet
                case rel => exact ⟨rfl, rfl, false, by first | (simp; done) | (simp; omega), fun h => by cases h⟩
            · go_wp2
              go_meet
              case rel => exact ⟨rfl, rfl, false, by first | (simp; done) | (simp; omega), fun h => by cases h⟩
          case rest =>
            obtain ⟨rfl, hwc, q, rfl, hq⟩ := hcut
            have hwc' := hwc.symm
            subst hwc'
            go_upto_if 71 with fail
            go_cut [10, 51] from 51 to 240 (fun id i wx => i = .int .i64 k ∧ wx = W1 ∧ ∃ x : Int, id = .int .i64 x)
            case first =>
              cases q
              · go_wp2
                go_meet
                case rel => exact ⟨rfl, rfl, _, rfl⟩
              · obtain ⟨h0, h1⟩ := hq rfl
                obtain ⟨p, rfl, hp⟩ : ∃ p : Nat, on = p ∧ p < told.length := ⟨on.toNat, by omega, by omega⟩
                obtain ⟨g3, cp3, hsl3, hbg3, hgl3, hnc3⟩ := own_form HM1.out.own (by omega)
                have dj := (hsl3 ▸ HM1.out.own).cellAt p (by omega)
                simp only [Value.slice.injEq] at hsl3
                obtain ⟨rfl, -, rfl⟩ := hsl3
                rw [show (ints told)[p]? = some (.int .i64 told[p]) by simp [ints, hp]] at dj
                generalize told[p] = x at *
                go_wp2
                go_meet
                case rel => exact ⟨rfl, rfl, _, rfl⟩
            case rest =>
              clear hq
              obtain ⟨rfl, hwc, id, rfl⟩ := hcut
              have hwc' := hwc.symm
              subst hwc'
              go_upto_block 2 with fail
              go_cut [7, 11, 12, 13, 14, 15, 16, 17, 51] from 51 to 240 (fun ids _ _ _ _ _ _ _ i wx => i = .int .i64 k ∧ ∃ F H sl fr told, Hid (Mid w (k + 1) w.heap.size bx cap wx ids F H sl fr told))
              case first =>
                by_cases hk1 : kd = 1
                · subst hk1
                  have hAl := alloc_az HM1.out.az HM1.out.whole.good (by omega) HM1.out.below.size ov
                  have hRl := fun (W : World) (H : Blocks) (h : Rf W w.heap.size bx H sl fr cap) (hs : w.heap.size ≤ W.heap.size) => ralloc_x h HM1.out.whole.good (by omega) hs ov
                  obtain ⟨hW2, hcase⟩ := HM1.out.whole.alloc ov
                  rcases hcase with ⟨hs0, kk, hTk⟩ | ⟨hsE, hid0, hsl, hfr, hcn, hnil, hlen⟩
                  · have hid0 := hTk.id0
                    rw [hs0] at hAl hRl
                    simp only [if_true] at hRl
                    clear hTk hs0
                    generalize (allocS sl fr cap ov).1 = nid at *
                    generalize (allocS sl fr cap ov).2.2.1 = sl' at *
                    generalize (allocS sl fr cap ov).2.2.2 = fr' at *
                    have HAl := Lib.hid hAl
                    have HRl := Lib.hid hRl
                    have HW2 := Lib.hid hW2
                    have HO1 := Lib.hid HM1.out.own
                    have htl := HM1.out.len
                    have z1 : (nid != nid) = false := by simp
                    have hd1 : decide (nid < 0) = false := decide_eq_false (by omega)
                    have hd2 : decide (0 ≤ nid) = true := decide_eq_true hid0
                    clear hAl hRl hW2 b0 b1 b2
                    as_aux_lemma =>
                      go_wp2_with (first
                        | (go_at_call 11; (with_reducible refine HAl.out.mono ?_); rintro e w2 ⟨rfl, F2, hA2, hU2, hN2⟩
                           have S2 := HS1.out.step [Just g, H] _ hU2.size hN2 (fun q hq => (hA2.in_ q hq).2) HM1.out.below.size
                           have hR2 := HM1.out.rf.keep hU2 (HS1.out.dis 1 2 rfl rfl (by decide))
                           have hO2 := own_keep HO1.out hU2 (HS1.out.dis 3 2 rfl rfl (by decide))
                           have hB2 := below_upd HM1.out.below hU2 (HS1.out.at_ 2 rfl) (Nat.le_refl _)
                           have hX2 := HBX.out.keep hU2 (HS1.out.dis 0 2 rfl rfl (by decide))
                           have b32 : w2.cell? ⟨g, 3, none⟩ = some (.int .i64 ov) := hX2.cellv rfl)
                        | (go_at_call 26; (with_reducible refine (HRl.out _ _ hR2 hB2.size).mono ?_); rintro e w3 ⟨rfl, H3, hR3, hU3, hN3⟩
                           have S3 := S2.step [Just g] _ hU3.size hN3 (fun q hq => (hR3.in_ q hq).2) hB2.size
                           have hA3 := hA2.keep hU3 (S2.dis 2 1 rfl rfl (by decide))
                           have hO3 := own_keep hO2 hU3 (S2.dis 3 1 rfl rfl (by decide))
                           have hB3 := below_upd hB2 hU3 (S2.at_ 1 rfl) (Nat.le_refl _))
                        | (at_builtin
                           refine wpList_append1 rfl (.tmp 117) (.tmp 119) _ rfl w.heap.size 3 i0 _ 8 Try.underlying22 hi0 hz0 hz1 hz2 rfl (.slice A3 told.length c3) told.length (ints told) rfl
                             hO3 (.int .i64 nid) rfl (by simp [Value.oneCell']) (by simp only [maxLen]; omega) (by omega) hB3.size ?_
                           intro v4 w4 hO4 hU4 hN4))
                      go_meet
                      case rel =>
                        refine ⟨rfl, F2, H3, sl', fr', told ++ [nid], Lib.hid ⟨by simp; omega, HW2.out, hA3.keep hU4 (S3.dis 2 3 rfl rfl (by decide)), hR3.keep hU4 (S3.dis 1 3 rfl rfl (by decide)), ?_, (S3.step [Just g, H3, F2] _ hU4.size hN4 (fun q hq => (hO4.lt q hq).2) hB3.size).tail, below_upd hB3 hU4 (S3.at_ 3 rfl) (Nat.le_refl _)⟩⟩
                        rw [← ints_snoc, show (told ++ [nid]).length = told.length + 1 by simp]
                        exact hO4
                  · rw [hid0, hsE, hsl, hfr] at hAl hRl
                    simp only [show ((-4 : Int) = 0) = False from by simp, if_false] at hRl
                    have HAl := Lib.hid hAl
                    have HRl := Lib.hid hRl
                    clear hAl hRl hid0 hsE hsl hfr hW2 hcn hnil hlen b0 b1 b2
                    as_aux_lemma =>
                      go_wp2_with (first
                        | (go_at_call 11; (with_reducible refine HAl.out.mono ?_); rintro e w2 ⟨rfl, F2, hA2, hU2, hN2⟩
                           have S2 := HS1.out.step [Just g, H] _ hU2.size hN2 (fun q hq => (hA2.in_ q hq).2) HM1.out.below.size
                           have hR2 := HM1.out.rf.keep hU2 (HS1.out.dis 1 2 rfl rfl (by decide))
                           have hO2 := own_keep HM1.out.own hU2 (HS1.out.dis 3 2 rfl rfl (by decide))
                           have hB2 := below_upd HM1.out.below hU2 (HS1.out.at_ 2 rfl) (Nat.le_refl _)
                           have hX2 := HBX.out.keep hU2 (HS1.out.dis 0 2 rfl rfl (by decide))
                           have b32 : w2.cell? ⟨g, 3, none⟩ = some (.int .i64 ov) := hX2.cellv rfl)
                        | (go_at_call 26; (with_reducible refine (HRl.out _ _ hR2 hB2.size).mono ?_); rintro e w3 ⟨rfl, H3, hR3, hU3, hN3⟩
                           have S3 := S2.step [Just g] _ hU3.size hN3 (fun q hq => (hR3.in_ q hq).2) hB2.size
                           have hA3 := hA2.keep hU3 (S2.dis 2 1 rfl rfl (by decide))
                           have hO3 := own_keep hO2 hU3 (S2.dis 3 1 rfl rfl (by decide))
                           have hB3 := below_upd hB2 hU3 (S2.at_ 1 rfl) (Nat.le_refl _)))
                      go_meet
                      case rel => exact ⟨rfl, F2, H3, sl, fr, told, Lib.hid ⟨by have := HM1.out.len; omega, HM1.out.whole.mono (by omega), hA3, hR3, hO3, S3.tail, hB3⟩⟩
                · by_cases hk2 : kd = 2 ∨ kd = 4
                  · have hFr := free_az HM1.out.az HM1.out.whole.good (by omega) HM1.out.below.size id
                    have hRf := fun (W : World) (H : Blocks) (h : Rf W w.heap.size bx H sl fr cap) (hs : w.heap.size ≤ W.heap.size) => rfree_x h HM1.out.whole.good (by omega) hs id
                    obtain ⟨hW2, hcase⟩ := HM1.out.whole.freed id
                    obtain ⟨st, sl', fr', isb, hst, hsl', hfr', hisb, hstb⟩ : ∃ st sl' fr' isb, (freeS sl fr id).1 = st ∧ (freeS sl fr id).2.1 = sl' ∧ (freeS sl fr id).2.2 = fr' ∧ (findN sl id).isSome = isb ∧ ((st = -25 ∧ isb = false) ∨ (st = 0 ∧ isb = true)) := by
                      rcases hcase with ⟨hf, he⟩ | ⟨i, s, hf, hs, he, _⟩
                      · rw [he, hf]
                        exact ⟨_, _, _, _, rfl, rfl, rfl, rfl, .inl ⟨rfl, rfl⟩⟩
                      · rw [he, hf]
                        exact ⟨_, _, _, _, rfl, rfl, rfl, rfl, .inr ⟨rfl, rfl⟩⟩
                    rw [hst, hsl', hfr'] at hFr
                    rw [hsl', hfr', hisb] at hRf
                    rw [hsl', hfr'] at hW2
                    clear hcase hst hsl' hfr' hisb hk1 b1 b2 b3
                    have HW2 := Lib.hid hW2
                    clear hW2
                    rcases hstb with ⟨rfl, rfl⟩ | ⟨rfl, rfl⟩
                    all_goals
                      have HFr := Lib.hid hFr
                      have HRf := Lib.hid hRf
                      clear hFr hRf
                      rcases hk2 with rfl | rfl
                    all_goals
                      as_aux_lemma =>
                        go_wp2_with (first
                          | (go_at_call 15; (with_reducible refine HFr.out.mono ?_); rintro e w2 ⟨rfl, F2, hA2, hU2, hN2⟩
                             have S2 := HS1.out.step [Just g, H] _ hU2.size hN2 (fun q hq => (hA2.in_ q hq).2) HM1.out.below.size
                             have hR2 := HM1.out.rf.keep hU2 (HS1.out.dis 1 2 rfl rfl (by decide))
                             have hO2 := own_keep HM1.out.own hU2 (HS1.out.dis 3 2 rfl rfl (by decide))
                             have hB2 := below_upd HM1.out.below hU2 (HS1.out.at_ 2 rfl) (Nat.le_refl _))
                          | (go_at_call 27; (with_reducible refine (HRf.out _ _ hR2 hB2.size).mono ?_); rintro e w3 ⟨rfl, H3, hR3, hU3, hN3⟩
                             have S3 := S2.step [Just g] _ hU3.size hN3 (fun q hq => (hR3.in_ q hq).2) hB2.size
                             have hA3 := hA2.keep hU3 (S2.dis 2 1 rfl rfl (by decide))
                             have hO3 := own_keep hO2 hU3 (S2.dis 3 1 rfl rfl (by decide))
                             have hB3 := below_upd hB2 hU3 (S2.at_ 1 rfl) (Nat.le_refl _)))
                        go_meet
                        case rel => exact ⟨rfl, F2, H3, sl', fr', told, Lib.hid ⟨by have := HM1.out.len; omega, HW2.out.mono (by omega), hA3, hR3, hO3, S3.tail, hB3⟩⟩
                  · by_cases hk3 : kd = 3 ∨ kd = 5
                    · have hSt := set_az HM1.out.az id ov
                      have hFi := fun (W : World) (h : Rf W w.heap.size bx H sl fr cap) => rfind_any h HM1.out.whole.good (by omega) id
                      cases hf : findN sl id with
                      | none =>
                        unfold setS at hSt
                        unfold findI at hFi
                        rw [hf] at hSt hFi
                        simp only at hSt hFi
                        have HSt := Lib.hid hSt
                        have HFi := Lib.hid hFi
                        clear hSt hFi hf b1 b2 hk1 hk2
                        rcases hk3 with rfl | rfl
                        all_goals
                          as_aux_lemma =>
                            go_wp2_with (first
                              | (go_at_call 12; (with_reducible refine HSt.out.mono ?_); rintro e w2 ⟨rfl, hA2, hU2⟩
                                 have S2 := HS1.out.size hU2.size
                                 have hR2 := HM1.out.rf.keep hU2 (HS1.out.dis 1 2 rfl rfl (by decide))
                                 have hO2 := own_keep HM1.out.own hU2 (HS1.out.dis 3 2 rfl rfl (by decide))
                                 have hB2 := below_upd HM1.out.below hU2 (HS1.out.at_ 2 rfl) (Nat.le_refl _))
                              | (go_at_call 28; (with_reducible refine (HFi.out _ hR2).mono ?_); rintro e w3 ⟨rfl, rfl⟩))
                            go_meet
                            case rel => exact ⟨rfl, F, H, sl, fr, told, Lib.hid ⟨by have := HM1.out.len; omega, HM1.out.whole.mono (by omega), hA2, hR2, hO2, S2.tail, hB2⟩⟩
                      | some i =>
                        obtain ⟨-, -, s, hs, ht, -⟩ := findN_some hf
                        have hgd : sl.getD i ⟨0, false, 0⟩ = s := by rw [List.getD_eq_getElem?_getD, hs]; rfl
                        have hil : i < sl.length := (List.getElem?_eq_some_iff.1 hs).1
                        have hW2 := HM1.out.whole.set ov hs ht
                        unfold setS at hSt
                        unfold findI at hFi
                        rw [hf] at hSt hFi
                        simp only [hgd] at hSt hFi
                        have HSt := Lib.hid hSt
                        have HFi := Lib.hid hFi
                        have HW2 := Lib.hid hW2
                        have HS := Lib.hid hs
                        have HT := Lib.hid ht
                        clear hSt hFi hf b1 b2 hk1 hk2 hW2 hs ht hgd
                        rcases hk3 with rfl | rfl
                        all_goals
                          as_aux_lemma =>
                            go_upto_region 35 with (first
                              | (go_at_call 12; (with_reducible refine HSt.out.mono ?_); rintro e w2 ⟨rfl, hA2, hU2⟩
                                 have S2 := HS1.out.size hU2.size
                                 have hR2 := HM1.out.rf.keep hU2 (HS1.out.dis 1 2 rfl rfl (by decide))
                                 have hO2 := own_keep HM1.out.own hU2 (HS1.out.dis 3 2 rfl rfl (by decide))
                                 have hB2 := below_upd HM1.out.below hU2 (HS1.out.at_ 2 rfl) (Nat.le_refl _)
                                 have hX2 := HBX.out.keep hU2 (HS1.out.dis 0 2 rfl rfl (by decide)))
                              | (go_at_call 28; (with_reducible refine (HFi.out _ hR2).mono ?_); rintro e w3 ⟨rfl, rfl⟩))
                            have S5 : Sep w.heap.size w2.drew [Just g, H, F, OwnB (.slice A3 told.length c3)] := S2.drewN 1
                            have hA5 := hA2.drew
                            have hR5 : Rf w2.drew w.heap.size bx H sl fr cap := hR2.drewN 1
                            have hO5 : w2.drew.ownsRow w.heap.size 3 1 (.slice A3 told.length c3) told.length (ints told) := hO2
                            have hB5 : Below w.heap.size w w2.drew := hB2.drew
                            have hX5 : Blk w2.drew g 37 _ := hX2
                            clear hA2 hR2 hO2 S2 hB2 hU2
                            obtain ⟨gv, vv, tv, A5, c5, h05, hF5⟩ := hR5
                            obtain ⟨gn, cn, rfl, -, -, -⟩ := own_form h05.val (by omega)
                            have e1 : w2.cell? ⟨bx, 1, none⟩ = some (.slice (some ⟨gn, 0, none⟩) sl.length cn) := h05.blk.cellv rfl
                            have e4 : w2.cell? ⟨g, 3, none⟩ = some (.int .i64 ov) := hX2.cellv rfl
                            have hni0 : (0 : Int) ≤ (i : Int) := by omega
                            have hni1 : (i : Int) < (sl.length : Int) := by omega
                            go_still_tail 8, (by kernel_rfl)
                            change wpList _ _ _ _ _ w2.drew
                            clear hX2 e1 e4
                            generalize w2.drew = W5 at *
                            have h15 := h05.rg
                            have e1 : W5.cell? ⟨bx, 1, none⟩ = some (.slice (some ⟨gn, 0, none⟩) sl.length cn) := h05.blk.cellv rfl
                            have e2 : W5.cell? ⟨gn, i, none⟩ = some (.int .i64 s.v) := ((own_n h15.val).1.cellAt i (by omega)).trans (vals_at HS.out)
                            have e3 : W5.frozen? ⟨gn, i, none⟩ = false := (own_n h15.val).1.frozenAt _
                            have e4 : W5.cell? ⟨g, 3, none⟩ = some (.int .i64 ov) := hX5.cellv rfl
                            have h25 := h15.setv HS.out HT.out ov
                            have hu5 : Upd H W5 (W5.setCell ⟨gn, i, none⟩ (.int .i64 ov)) := (Upd.refl H W5).setCell (fun _ => (hF5 gn).2 (.inr (.inr (.inl rfl)))) _
                            have hm5 : Mid w (k + 1) w.heap.size bx cap (W5.setCell ⟨gn, i, none⟩ (.int .i64 ov)) (.slice A3 told.length c3) F H (sl.set i ⟨s.gen, true, ov⟩) fr told := ⟨by have := HM1.out.len; omega, HW2.out.mono (by omega), hA5.keep hu5 (S5.dis 2 1 rfl rfl (by decide)), ⟨gv, _, tv, A5, c5, h25.rf0, hF5⟩, own_keep hO5 hu5 (S5.dis 3 1 rfl rfl (by decide)), (S5.size hu5.size).tail, below_upd hB5 hu5 (S5.at_ 1 rfl) (Nat.le_refl _)⟩
                            have HM6 := Lib.hid hm5
                            clear hm5 hu5 h25 h15 h05 hF5 hA5 hO5 hB5 hX5 S5
                            go_wp2
                            go_meet
                            case rel => exact ⟨rfl, F, H, _, fr, told, HM6⟩
                    · have z1 : (kd == 1) = false := beq_eq_false_iff_ne.mpr hk1
                      have z2 : (kd == 2) = false := beq_eq_false_iff_ne.mpr (fun e => hk2 (.inl e))
                      have z3 : (kd == 3) = false := beq_eq_false_iff_ne.mpr (fun e => hk3 (.inl e))
                      have z4 : (kd == 4) = false := beq_eq_false_iff_ne.mpr (fun e => hk2 (.inr e))
                      have z5 : (kd == 5) = false := beq_eq_false_iff_ne.mpr (fun e => hk3 (.inr e))
                      clear hk1 hk2 hk3
                      as_aux_lemma =>
                        go_wp2
                        go_meet
                        case rel => exact ⟨rfl, F, H, sl, fr, told, Lib.hid ⟨by have := HM1.out.len; omega, HM1.out.whole.mono (by omega), HM1.out.az, HM1.out.rf, HM1.out.own, HM1.out.sep, HM1.out.below⟩⟩
              case rest =>
                clear HS1 HM1 HBX b0 b1 b2 b3
                obtain ⟨rfl, F, H, sl, fr, told, HM⟩ := hcut
                have hgood := HM.out.whole.good
                have hle := hgood.len
                have hcnt := cnt_ids sl
                have hil := idsTo_len sl sl.length
                have hFi := rfind_any HM.out.rf hgood (by omega) id
                have hGt := get_az HM.out.az id
                have hHs := fun n => has_az (HM.out.az.drewN n) id
                have hCt := fun n => count_az (HM.out.az.drewN n)
                have hI1 := fun n => rids_any (HM.out.rf.drewN n) hgood (by omega)
                have hCp := fun (W : World) (h : Az W w.heap.size w.heap.size F sl fr cap) => cap_az h
                have hI2 := fun (W : World) (h : Az W w.heap.size w.heap.size F sl fr cap) => ids_az h hgood (by omega)
                have hI3 := fun (W : World) (h : Rf W w.heap.size bx H sl fr cap) => rids_any h hgood (by omega)
                rw [hcnt] at hCt
                have HCt := Lib.hid hCt
                have HI1 := Lib.hid hI1
                have HCp := Lib.hid hCp
                have HI2 := Lib.hid hI2
                have HI3 := Lib.hid hI3
                have HGd := Lib.hid hgood
                have zc : (cap != cap) = false := by simp
                clear hCt hI1 hCp hI2 hI3 hcnt hgood
                cases hf : findN sl id with
                | none =>
                  have hv := getV_none hf
                  unfold findI at hFi
                  rw [hf] at hFi hGt hHs
                  rw [hv] at hGt
                  simp only [Option.isSome] at hFi hGt hHs
                  have HFi := Lib.hid hFi
                  have HGt := Lib.hid hGt
                  have HHs := Lib.hid hHs
                  clear hFi hGt hHs hf hv
                  as_aux_lemma =>
                    go_wp2_with (first
                      | (go_at_call 28; (with_reducible refine HFi.out.mono ?_); rintro e w2 ⟨rfl, rfl⟩)
                      | (go_at_call 13; (with_reducible refine HGt.out.mono ?_); rintro e w2 ⟨rfl, n1, rfl⟩)
                      | (go_at_call 18; (with_reducible refine (HHs.out _).mono ?_); rintro e w2 ⟨rfl, n2, rfl⟩)
                      | (go_at_call 14; (with_reducible refine (HCt.out _).mono ?_); rintro e w2 ⟨rfl, rfl⟩)
                      | (go_at_call 29; (with_reducible refine (HI1.out _).mono ?_); rintro e w3 ⟨v3, rfl, hO3, hB3⟩
                         obtain ⟨A4, c4, rfl⟩ := own_len hO3
                         have hw3 := (HM.out.drewN _).step hB3 (Nat.le_refl _))
                      | (go_at_call 30; (with_reducible refine (HCp.out _ hw3.az).mono ?_); rintro e w2 ⟨rfl, rfl⟩)
                      | (go_at_call 24; (with_reducible refine (HI2.out _ hw3.az).mono ?_); rintro e w4 ⟨v4, rfl, hO4, hB4⟩
                         obtain ⟨A5, c5, rfl⟩ := own_len hO4
                         have hw4 := hw3.step hB4 (Nat.le_refl _))
                      | (go_at_call 29; (with_reducible refine (HI3.out _ hw4.rf).mono ?_); rintro e w5 ⟨v5, rfl, hO5, hB5⟩
                         obtain ⟨A6, c6, rfl⟩ := own_len hO5
                         have RA := (Reads.of_own hO4).below hB5
                         have RB := Reads.of_own hO5
                         have hw5 := hw4.step hB5 (Nat.le_refl _))
                      | (go_at_call 23; (with_reducible refine (ints_same (by have := HGd.out.cap; omega) RA RB).mono ?_); rintro e w6 ⟨rfl, n6, rfl⟩))
                    go_roundw
                    case rel => exact ⟨k + 1, F, H, sl, fr, told, by omega, by go_num, Lib.hid (hw5.drewN n6)⟩
                    case measure => simp [intOf]; omega
                | some i =>
                  obtain ⟨-, -, s, hs, ht, -⟩ := findN_some hf
                  have hil2 : i < sl.length := (List.getElem?_eq_some_iff.1 hs).1
                  have hv : getV sl id = s.v := by unfold getV; rw [hf]; simp [List.getD_eq_getElem?_getD, hs]
                  unfold findI at hFi
                  rw [hf] at hFi hGt hHs
                  rw [hv] at hGt
                  simp only [Option.isSome] at hFi hGt hHs
                  have HFi := Lib.hid hFi
                  have HGt := Lib.hid hGt
                  have HHs := Lib.hid hHs
                  obtain ⟨gv, vv, tv, A7, c7, h07, hF7⟩ := HM.out.rf
                  obtain ⟨gn, cn, rfl, -, -, -⟩ := own_form h07.val (by omega)
                  have e1 : ∀ n, (wc.drewN n).cell? ⟨bx, 1, none⟩ = some (.slice (some ⟨gn, 0, none⟩) sl.length cn) := fun n => h07.blk.cellv rfl
                  have e2 : ∀ n, (wc.drewN n).cell? ⟨gn, i, none⟩ = some (.int .i64 s.v) := fun n => ((own_n h07.val).1.cellAt i (by omega)).trans (vals_at hs)
                  have zv : (s.v != s.v) = false := by simp
                  clear hFi hGt hHs hf hv h07 hF7 hs ht
                  as_aux_lemma =>
                    go_wp2_with (first
                      | (go_at_call 28; (with_reducible refine HFi.out.mono ?_); rintro e w2 ⟨rfl, rfl⟩)
                      | (go_at_call 13; (with_reducible refine HGt.out.mono ?_); rintro e w2 ⟨rfl, n1, rfl⟩
                         have f1 := e1 n1
                         have f2 := e2 n1)
                      | (go_at_call 18; (with_reducible refine (HHs.out _).mono ?_); rintro e w2 ⟨rfl, n2, rfl⟩)
                      | (go_at_call 14; (with_reducible refine (HCt.out _).mono ?_); rintro e w2 ⟨rfl, rfl⟩)
                      | (go_at_call 29; (with_reducible refine (HI1.out _).mono ?_); rintro e w3 ⟨v3, rfl, hO3, hB3⟩
                         obtain ⟨A4, c4, rfl⟩ := own_len hO3
                         have hw3 := (HM.out.drewN _).step hB3 (Nat.le_refl _))
                      | (go_at_call 30; (with_reducible refine (HCp.out _ hw3.az).mono ?_); rintro e w2 ⟨rfl, rfl⟩)
                      | (go_at_call 24; (with_reducible refine (HI2.out _ hw3.az).mono ?_); rintro e w4 ⟨v4, rfl, hO4, hB4⟩
                         obtain ⟨A5, c5, rfl⟩ := own_len hO4
                         have hw4 := hw3.step hB4 (Nat.le_refl _))
                      | (go_at_call 29; (with_reducible refine (HI3.out _ hw4.rf).mono ?_); rintro e w5 ⟨v5, rfl, hO5, hB5⟩
                         obtain ⟨A6, c6, rfl⟩ := own_len hO5
                         have RA := (Reads.of_own hO4).below hB5
                         have RB := Reads.of_own hO5
                         have hw5 := hw4.step hB5 (Nat.le_refl _))
                      | (go_at_call 23; (with_reducible refine (ints_same (by have := HGd.out.cap; omega) RA RB).mono ?_); rintro e w6 ⟨rfl, n6, rfl⟩))
                    go_roundw
                    case rel => exact ⟨k + 1, F, H, sl, fr, told, by omega, by go_num, Lib.hid (hw5.drewN n6)⟩
                    case measure => simp [intOf]; omega
        · obtain rfl : k = l.length := by omega
          go_wp2_with (first
            | (go_at_call 10; (with_reducible refine (HA.out _).mono ?_); rintro e w7 ⟨rfl, hb7⟩))
          go_ret
          exact ⟨rfl, HM.out.below.trans (hb7.mono HM.out.below.size)⟩
end Go.Proofs.Ytnejjaebhjgccaa.Ar
