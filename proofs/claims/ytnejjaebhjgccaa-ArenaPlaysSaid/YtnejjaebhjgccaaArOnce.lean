/- The walk of ArenaOnce. -/
import Derived.Test.YtnejjaebhjgccaaArOnceA
import Derived.Test.YtnejjaebhjgccaaArLast
namespace Go.Proofs.Ytnejjaebhjgccaa.Ar
open Go Go.RowKit Go.Maps Go.Proofs.Ytnejjaebhjgccaa.Mem Go.Proofs.Ytnejjaebhjgccaa.Bits
set_option linter.unusedVariables false
set_option linter.unusedSimpArgs false
theorem klaw : Keyed Try.prog 3 := int_keyed Try.underlying3
theorem zero3 (w : World) : (zeroValue 3).run Try.prog w = .ok (.int .i64 0) w := by kernel_rfl
noncomputable abbrev mp : Value → Option (DataW Unit × List MemPlace) := plainElem Try.prog 3
abbrev opsV (l : List (List Int)) : List Value := (l.map (·.map (Value.int .i64))).flatten
set_option maxRecDepth 4000 in
set_option maxHeartbeats 4000000 in
theorem once_walk (cap : Int) (A : Option Addr) (c : Nat) (l : List (List Int)) (w : World) (hr : Reads w w.heap.size 4 A l.length (opsV l)) (hl4 : ∀ r ∈ l, r.length = 4 ∧ ∀ x ∈ r, (Lit.int .i64 x).wf = true) : Calls Try.prog 4 #[.int .i64 cap, .slice A l.length c] w fun e w' => e = .returned (.bool true) ∧ Below w.heap.size w w' := by
  have HA := Lib.hid awake_any
  have HR := Lib.hid hr
  clear hr
  by_cases hc : cap < 0 ∨ 65536 < cap
  · have HNo := Lib.hid (new_none cap hc w)
    rcases hc with hc | hc
    all_goals
      go_enter Try.func4, Try.ntmps4
      go_wp2_with (first
        | (go_at_call 9; (with_reducible refine HNo.out.mono ?_); rintro e w1 ⟨rfl, rfl⟩)
        | (go_at_call 10; (with_reducible refine (HA.out _).mono ?_); rintro e w2 ⟨rfl, hb2⟩))
      go_ret
      exact ⟨rfl, hb2⟩
  · have HNew := Lib.hid (new_az cap (by omega) (by omega) w w.heap.size (Nat.le_refl _))
    by_cases hn : 200 < l.length
    · go_enter Try.func4, Try.ntmps4
      go_wp2_with (first
        | (go_at_call 9; (with_reducible refine HNew.out.mono ?_); rintro e w1 ⟨rfl, ha1, hb1⟩)
        | (go_at_call 10; (with_reducible refine (HA.out _).mono ?_); rintro e w2 ⟨rfl, hb2⟩))
      go_ret
      exact ⟨rfl, hb1.trans (hb2.mono hb1.size)⟩
    · have hl2 : l.length ≤ 200 := by omega
      have hc0 : 0 ≤ cap := by omega
      have hc1 : cap ≤ 65536 := by omega
      obtain ⟨i0, hi0, hz0, hz1, hz2⟩ := info_parts int_info
      have hmm := @run_makeMap Try.prog
      clear hn hc
      go_enter Try.func4, Try.ntmps4
      go_upto_region 5 with (first
        | (go_at_call 9; (with_reducible refine HNew.out.mono ?_); rintro e w1 ⟨rfl, ha1, hb1⟩))
      have HSep : Hid (Sep w.heap.size (w1.alloc (.map #[] 0)) [fun k => k = w.heap.size, OwnB (.slice none 0 0), Just w1.heap.size]) := Lib.hid <| by
        have h1 : Sep w.heap.size w1 [fun k => k = w.heap.size] := ⟨fun F hF => by obtain rfl := List.mem_singleton.1 hF; exact ha1.in_, List.pairwise_singleton _ _⟩
        have h2 := h1.new (w' := w1.alloc (.map #[] 0)) (G := Just w1.heap.size) (by simp) (fun k hk => by simp [Just] at hk; subst hk; simp) hb1.size
        exact ⟨fun F hF => by
          simp at hF
          rcases hF with rfl | rfl | rfl
          · exact h2.in_ _ (by simp)
          · exact fun k hk => absurd hk (nil_empty k)
          · exact h2.in_ _ (by simp), by
          simp only [List.pairwise_cons, List.mem_cons, List.mem_singleton, List.not_mem_nil, false_implies, implies_true, List.Pairwise.nil, and_true, or_false, forall_eq_or_imp, forall_eq]
          exact ⟨⟨fun k _ hk => nil_empty k hk, fun k hk hj => h2.dis 0 1 rfl rfl (by decide) k hj hk⟩, fun k hk => absurd hk (nil_empty k)⟩⟩
      have HAz := Lib.hid (ha1.keep ((Upd.refl (fun _ => False) w1).alloc (.map #[] 0)) (Dis.no _))
      have HM := Lib.hid (World.ownsMap_made w1 Try.prog 3 mp)
      have HB := Lib.hid (hb1.alloc hb1.size (.map #[] 0))
      go_wp2
      go_loopw [6, 49] (fun ids i wr => ∃ (k : Nat) (F : Blocks) (sl : List Sl) (fr : List Nat) (told : List Int) (D : DataW Unit), k ≤ l.length ∧ i = .int .i64 k ∧ told.length ≤ k ∧ Whole k sl fr cap ∧ Told sl told ∧ Tied D sl ∧ Hid (Az wr w.heap.size w.heap.size F sl fr cap) ∧ Hid (wr.ownsRow w.heap.size 3 1 ids told.length (ints told)) ∧ Hid (wr.ownsMap Try.prog 3 mp w1.heap.size k D) ∧ Hid (Sep w.heap.size wr [F, OwnB ids, Just w1.heap.size]) ∧ Hid (Below w.heap.size w wr)) (fun _ i _ => l.length - (intOf i).toNat)
      case atStart => exact ⟨0, _, [], [], [], _, by omega, rfl, by simp, whole_nil cap hc0 hc1, fun x hx => by simp at hx, tied_nil, HAz, Lib.hid (World.ownsRow_nil _ _ _ _), HM, HSep, HB⟩
      case round =>
        clear HAz HM HSep HB
        obtain ⟨k, F, sl, fr, told, D, hk, rfl, htl, hW, hT, hD, HAz, HO, HM, HSp, HB⟩ := hrel
        by_cases hlt : k < l.length
        · obtain ⟨hr4, hrw⟩ := hl4 l[k] (List.getElem_mem _)
          obtain ⟨ad, rfl, had, hcl⟩ := (HR.out.below HB.out).row (k := k) (r := l[k].map (Value.int .i64)) (fun r hr => by
            obtain ⟨r0, hr0, rfl⟩ := List.mem_map.1 hr
            rw [List.length_map]
            exact (hl4 r0 hr0).1) hlt (by simp [List.getElem?_eq_getElem hlt])
          obtain ⟨kd, od, on, ov, hrow⟩ := four_of hr4
          rw [hrow] at hcl hrw
          have hov : (Lit.int .i64 ov).wf = true := hrw ov (by simp)
          simp only [List.map_cons, List.map_nil] at hcl
          have HCL := Lib.hid hcl
          clear hcl hrw hrow hr4
          obtain ⟨A3, c3, rfl⟩ := own_len HO.out
          go_upto_region 9 with (first
            | (with_reducible refine wpList_load_add rfl 37 (.tmp 51) rfl _ rfl [.int .i64 kd, .int .i64 od, .int .i64 on, .int .i64 ov] _ HCL.out Try.underlying37 rfl (by kernel_rfl) ?_)
            | (with_reducible refine wpList_box rfl 37 (.tmp 9) (.tmp 52) rfl #[.int .i64 kd, .int .i64 od, .int .i64 on, .int .i64 ov] rfl rfl (by kernel_rfl) rfl (by simp [Value.oneCell']) ?_
               intro W1 hbx hux hsx))
          have hS1 : Sep w.heap.size W1 [Just wr.heap.size, F, OwnB (.slice A3 told.length c3), Just w1.heap.size] := HSp.out.new (by omega) (fun q hq => by simp [Just] at hq; omega) HB.out.size
          have hA1 := HAz.out.keep hux (Dis.no _)
          have hO1 := own_keep HO.out hux (Dis.no _)
          have hM1 := map_keep HM.out hux (Dis.no _)
          have hB1 := below_upd HB.out hux (fun _ h => h.elim) (Nat.le_refl _)
          have HS1 := Lib.hid hS1
          have HA1 := Lib.hid hA1
          have HO1 := Lib.hid hO1
          have HM1 := Lib.hid hM1
          have HB1 := Lib.hid hB1
          have HBX := Lib.hid hbx
          have b0 : W1.cell? ⟨wr.heap.size, 0, none⟩ = some (.int .i64 kd) := hbx.cellv rfl
          have b2 : W1.cell? ⟨wr.heap.size, 2, none⟩ = some (.int .i64 on) := hbx.cellv rfl
          have b3 : W1.cell? ⟨wr.heap.size, 3, none⟩ = some (.int .i64 ov) := hbx.cellv rfl
          clear hS1 hA1 hO1 hM1 hB1 hbx hux HAz HO HM HSp HB HCL had
          generalize wr.heap.size = g at *
          by_cases hkd : kd = 1
          · subst hkd
            have hAl := alloc_az HA1.out hW.good (by omega) HB1.out.size ov
            obtain ⟨hW2, hcase⟩ := hW.alloc ov
            rcases hcase with ⟨hs0, kk, hTk⟩ | ⟨hsE, hid0, hsl, hfr, hcn, hnil, hlen⟩
            · rw [hs0] at hAl
              generalize (allocS sl fr cap ov).1 = id at *
              generalize (allocS sl fr cap ov).2.2.1 = sl' at *
              generalize (allocS sl fr cap ov).2.2.2 = fr' at *
              obtain ⟨hT2, hnm⟩ := hT.alloc hTk
              have hD2 := hD.took hTk
              have hidle := hT2.le hW2.good (x := id) (by simp)
              have hwf : (Lit.int .i64 id).wf = true := by
                simp [Lit.wf, IntKind.min, IntKind.max, IntKind.signed, IntKind.bits]
                omega
              have HAl := Lib.hid hAl
              have HW2 := Lib.hid hW2
              have HT2 := Lib.hid hT2
              have HD2 := Lib.hid hD2
              clear hAl hW2 hT2 hD2 hs0 hTk hW hT hD b2
              go_upto_region 14 with (first
                | (go_at_call 11; (with_reducible refine HAl.out.mono ?_); rintro e w2 ⟨rfl, F2, hA2, hU2, hN2⟩))
              have S2 := HS1.out.step [Just g] _ hU2.size hN2 (fun q hq => (hA2.in_ q hq).2) HB1.out.size
              have hO2 := own_keep HO1.out hU2 (HS1.out.dis 2 1 rfl rfl (by decide))
              have hM2 := map_keep HM1.out hU2 (HS1.out.dis 3 1 rfl rfl (by decide))
              have hX2 := HBX.out.keep hU2 (HS1.out.dis 0 1 rfl rfl (by decide))
              have hB2 := below_upd HB1.out hU2 (HS1.out.at_ 1 rfl) (Nat.le_refl _)
              have HA2 := Lib.hid hA2
              have HS2 := Lib.hid S2
              have HO2 := Lib.hid hO2
              have HM2 := Lib.hid hM2
              have HX2 := Lib.hid hX2
              have HB2 := Lib.hid hB2
              clear hA2 S2 hO2 hM2 hX2 hB2 hU2 hN2 b0 b3 HS1 HO1 HM1 HBX HB1 HA1
              go_wp2
              go_loopw [71] (fun i wy => ∃ j : Nat, j ≤ told.length ∧ i = .int .i64 j ∧ wy = w2) (fun i _ => told.length - (intOf i).toNat)
              case atStart => exact ⟨0, by omega, rfl, rfl⟩
              case round =>
                obtain ⟨j, hj, rfl, rfl⟩ := hrel
                by_cases hjl : j < told.length
                · obtain ⟨g3, cp3, hsl3, hbg3, hgl3, hnc3⟩ := own_form HO2.out (by omega)
                  have dj := (hsl3 ▸ HO2.out).cellAt j (by omega)
                  simp only [Value.slice.injEq] at hsl3
                  obtain ⟨rfl, -, rfl⟩ := hsl3
                  rw [show (ints told)[j]? = some (.int .i64 told[j]) by simp [ints, hjl]] at dj
                  have z1 : (told[j] == id) = false := beq_eq_false_iff_ne.mpr (fun e => hnm (e ▸ List.getElem_mem _))
                  generalize told[j] = x at *
                  go_wp2
                  go_roundw
                  case rel => exact ⟨j + 1, by omega, by go_num, by first | rfl | trivial⟩
                  case measure => simp [intOf]; omega
                · obtain rfl : j = told.length := by omega
                  have hkey := keyOf_int_mk (P := Try.prog) (k := 3) Try.underlying3 hwf
                  have hvv := plainElem_int (H := Unit) (P := Try.prog) (e := 3) Try.underlying3 hov
                  go_wp2_with (first
                    | (at_builtin
                       refine wpList_append1 rfl (.tmp 79) (.tmp 81) _ rfl w.heap.size 3 i0 _ 8 Try.underlying22 hi0 hz0 hz1 hz2 rfl (.slice A3 told.length c3) told.length (ints told) rfl
                         HO2.out (.int .i64 id) rfl (by simp [Value.oneCell']) (by simp only [maxLen]; omega) (by omega) HB2.out.size ?_
                       intro v3 w3 hO3 hU3 hN3
                       have S3 := HS2.out.step [Just g, F2] _ hU3.size hN3 (fun q hq => (hO3.lt q hq).2) HB2.out.size
                       have hA3 := HA2.out.keep hU3 (HS2.out.dis 1 2 rfl rfl (by decide))
                       have hM3 := map_keep HM2.out hU3 (HS2.out.dis 3 2 rfl rfl (by decide))
                       have hX3 := HX2.out.keep hU3 (HS2.out.dis 0 2 rfl rfl (by decide))
                       have hB3 := below_upd HB2.out hU3 (HS2.out.at_ 2 rfl) (Nat.le_refl _)
                       have b3 : w3.cell? ⟨g, 3, none⟩ = some (.int .i64 ov) := hX3.cellv rfl)
                    | (at_mapUpdate
                       refine wpList_mapUpdate_in _ rfl (.tmp 83) (.tmp 84) (.tmp 86) 35 rfl 3 3 klaw Try.underlying35 mp w1.heap.size k D rfl hM3 (by simp only [maxLen]; omega) _ _ _ rfl rfl hkey _ [] hvv ?_
                       intro w4 hM4 ht4
                       have hU4 := turned_upd ht4))
                  go_roundw
                  case rel =>
                    have hS4 := (S3.size hU4.size).tail
                    refine ⟨k + 1, F2, sl', fr', told ++ [id], _, by omega, by go_num, by simp; omega, HW2.out.mono (by omega), HT2.out, HD2.out, Lib.hid (hA3.keep hU4 (S3.dis 1 3 rfl rfl (by decide))), Lib.hid ?_, Lib.hid hM4, Lib.hid hS4, Lib.hid (below_upd hB3 hU4 (S3.at_ 3 rfl) (Nat.le_refl _))⟩
                    have := own_keep hO3 hU4 (S3.dis 2 3 rfl rfl (by decide))
                    rw [← ints_snoc, show (told ++ [id]).length = told.length + 1 by simp]
                    exact this
                  case measure => simp [intOf]; omega
            · rw [hid0, hsE, hsl, hfr] at hAl
              have hsz : ((Maps.size D : Nat) : Int) = cap := by rw [hD.size]; exact hcn
              have HAl := Lib.hid hAl
              clear hAl hid0 hsE hsl hfr hW2 hcn hlen hnil
              go_wp2_with (first
                | (go_at_call 11; (with_reducible refine HAl.out.mono ?_); rintro e w2 ⟨rfl, F2, hA2, hU2, hN2⟩
                   have S2 := HS1.out.step [Just g] _ hU2.size hN2 (fun q hq => (hA2.in_ q hq).2) HB1.out.size
                   have hO2 := own_keep HO1.out hU2 (HS1.out.dis 2 1 rfl rfl (by decide))
                   have hM2 := map_keep HM1.out hU2 (HS1.out.dis 3 1 rfl rfl (by decide))
                   have hB2 := below_upd HB1.out hU2 (HS1.out.at_ 1 rfl) (Nat.le_refl _))
                | (at_len
                   refine wpList_len_own _ rfl (.tmp 65) 35 rfl 3 3 Try.underlying35 mp w1.heap.size k D rfl hM2 ?_))
              go_roundw
              case rel => exact ⟨k + 1, F2, sl, fr, told, D, by omega, by go_num, by omega, hW.mono (by omega), hT, hD, Lib.hid hA2, Lib.hid hO2, Lib.hid (hM2.mono (by omega)), Lib.hid S2.tail, Lib.hid hB2⟩
              case measure => simp [intOf]; omega
          · have z0 : (kd == 1) = false := beq_eq_false_iff_ne.mpr hkd
            by_cases hon : on < 0 ∨ (told.length : Int) ≤ on
            · have hend : ∃ F2, Hid (Az W1 w.heap.size w.heap.size F2 sl fr cap) ∧ Hid (Sep w.heap.size W1 [F2, OwnB (.slice A3 told.length c3), Just w1.heap.size]) := ⟨F, HA1, Lib.hid HS1.out.tail⟩
              rcases hon with hon | hon
              all_goals
                go_wp2
                go_roundw
                case rel => exact ⟨k + 1, F, sl, fr, told, D, by omega, by go_num, by omega, hW.mono (by omega), hT, hD, HA1, HO1, Lib.hid (HM1.out.mono (by omega)), Lib.hid HS1.out.tail, HB1⟩
                case measure => simp [intOf]; omega
            · obtain ⟨q, rfl, hq⟩ : ∃ q : Nat, on = q ∧ q < told.length := ⟨on.toNat, by omega, by omega⟩
              obtain ⟨g3, cp3, hsl3, hbg3, hgl3, hnc3⟩ := own_form HO1.out (by omega)
              have dj := (hsl3 ▸ HO1.out).cellAt q (by omega)
              simp only [Value.slice.injEq] at hsl3
              obtain ⟨rfl, -, rfl⟩ := hsl3
              rw [show (ints told)[q]? = some (.int .i64 told[q]) by simp [ints, hq]] at dj
              have hidle := hT.le hW.good (x := told[q]) (List.getElem_mem _)
              have hFr := free_az HA1.out hW.good (by omega) HB1.out.size told[q]
              obtain ⟨hW2, hcase⟩ := hW.freed told[q]
              have hh := hD.has told[q]
              have hk0 := hD.atk told[q]
              have hT3 : ∀ i s, sl[i]? = some s → Told (sl.set i ⟨s.gen, false, 0⟩) told := fun i s hs => hT.freed hs
              have hDf := fun (sl' : List Sl) => hD.freed (sl' := sl') (id := told[q])
              have hDg := hD.gone (id := told[q])
              generalize told[q] = id at *
              have hwf : (Lit.int .i64 id).wf = true := by
                simp [Lit.wf, IntKind.min, IntKind.max, IntKind.signed, IntKind.bits]
                omega
              have hkey := keyOf_int_mk (P := Try.prog) (k := 3) Try.underlying3 hwf
              obtain ⟨st, sl', fr', isb, hst, hsl', hfr', hisb, hstb, hT2, hD2⟩ : ∃ st sl' fr' isb, (freeS sl fr id).1 = st ∧ (freeS sl fr id).2.1 = sl' ∧ (freeS sl fr id).2.2 = fr' ∧ (findN sl id).isSome = isb ∧ (!(st == 0) == isb) = false ∧ Told sl' told ∧ Tied (D.del (.int .i64 id)) sl' := by
                rcases hcase with ⟨hf, he⟩ | ⟨i, s, hf, hs, he, h1, h2, h3⟩
                · rw [he, hf]
                  exact ⟨_, _, _, _, rfl, rfl, rfl, rfl, rfl, hT, hDg hf⟩
                · rw [he, hf]
                  exact ⟨_, _, _, _, rfl, rfl, rfl, rfl, rfl, hT3 i s hs, hDf _ (by rw [hf]; rfl) h1 h2 h3⟩
              rw [hst, hsl', hfr'] at hFr
              rw [hsl', hfr'] at hW2
              rw [hisb] at hh
              have HFr := Lib.hid hFr
              have HW2 := Lib.hid hW2
              have HT2 := Lib.hid hT2
              have HD2 := Lib.hid hD2
              clear hFr hcase hst hsl' hfr' hisb hDf hDg hT3 hW2 hT2 hD2
              generalize getV sl id = gv at *
              go_wp2_with (first
                | (at_lookup
                   refine wpList_look_int rfl (.tmp 103) (.tmp 104) 35 rfl 3 3 .i64 klaw Try.underlying35 Try.underlying3 (zero3 _) w1.heap.size k D rfl HM1.out _ _ rfl hkey gv isb hk0 hh ?_)
                | (go_at_call 15; (with_reducible refine HFr.out.mono ?_); rintro e w2 ⟨rfl, F2, hA2, hU2, hN2⟩
                   have S2 := HS1.out.step [Just g] _ hU2.size hN2 (fun q hq => (hA2.in_ q hq).2) HB1.out.size
                   have hO2 := own_keep HO1.out hU2 (HS1.out.dis 2 1 rfl rfl (by decide))
                   have hM2 := map_keep HM1.out hU2 (HS1.out.dis 3 1 rfl rfl (by decide))
                   have hB2 := below_upd HB1.out hU2 (HS1.out.at_ 1 rfl) (Nat.le_refl _))
                | (at_delete
                   refine wpList_delete_own _ rfl (.tmp 114) (.tmp 115) 35 3 rfl 3 klaw Try.underlying35 mp w1.heap.size k D rfl hM2 _ _ rfl hkey ?_
                   intro w4 hM4 ht4
                   have hU4 := turned_upd ht4))
              go_roundw
              case rel =>
                exact ⟨k + 1, F2, sl', fr', told, _, by omega, by go_num, by omega, HW2.out.mono (by omega), HT2.out, HD2.out, Lib.hid (hA2.keep hU4 (S2.dis 1 3 rfl rfl (by decide))), Lib.hid (own_keep hO2 hU4 (S2.dis 2 3 rfl rfl (by decide))), Lib.hid (hM4.mono (by omega)), Lib.hid (S2.size hU4.size).tail, Lib.hid (below_upd hB2 hU4 (S2.at_ 3 rfl) (Nat.le_refl _))⟩
              case measure => simp [intOf]; omega
        · obtain rfl : k = l.length := by omega
          obtain ⟨A3, c3, rfl⟩ := own_len HO.out
          go_wp2
          go_loopw [119] (fun i wy => ∃ (j n : Nat), j ≤ told.length ∧ i = .int .i64 j ∧ wy = wr.drewN n) (fun i _ => told.length - (intOf i).toNat)
          case atStart => exact ⟨0, 0, by omega, rfl, (World.drewN_zero _).symm⟩
          case round =>
            obtain ⟨j, n, hj, rfl, rfl⟩ := hrel
            have HA1 := Lib.hid (HAz.out.drewN n)
            have HB1 := Lib.hid (below_drewN HB.out n)
            have HO1 : Hid ((wr.drewN n).ownsRow w.heap.size 3 1 (.slice A3 told.length c3) told.length (ints told)) := Lib.hid HO.out
            have HM1 : Hid ((wr.drewN n).ownsMap Try.prog 3 mp w1.heap.size l.length D) := Lib.hid HM.out
            have hdd : ∀ m, (wr.drewN n).drewN m = wr.drewN (n + m) := fun m => World.drewN_drewN _ _ _
            have HDD := Lib.hid hdd
            clear HAz HB HO HM HSp hdd
            generalize hW0 : wr.drewN n = W0 at *
            have HW0 := Lib.hid hW0
            clear hW0
            by_cases hjl : j < told.length
            · obtain ⟨g3, cp3, hsl3, hbg3, hgl3, hnc3⟩ := own_form HO1.out (by omega)
              have dj := (hsl3 ▸ HO1.out).cellAt j (by omega)
              simp only [Value.slice.injEq] at hsl3
              obtain ⟨rfl, -, rfl⟩ := hsl3
              rw [show (ints told)[j]? = some (.int .i64 told[j]) by simp [ints, hjl]] at dj
              have hidle := hT.le hW.good (x := told[j]) (List.getElem_mem _)
              have hG := get_az HA1.out told[j]
              have hh := hD.has told[j]
              have hk0 := hD.atk told[j]
              generalize told[j] = id at *
              have hwf : (Lit.int .i64 id).wf = true := by
                simp [Lit.wf, IntKind.min, IntKind.max, IntKind.signed, IntKind.bits]
                omega
              have hkey := keyOf_int_mk (P := Try.prog) (k := 3) Try.underlying3 hwf
              generalize getV sl id = gv at *
              generalize (findN sl id).isSome = isb at *
              have HG := Lib.hid hG
              clear hG
              have z1 : (isb != isb) = false := by cases isb <;> rfl
              have z2 : (gv != gv) = false := by simp
              go_wp2_with (first
                | (at_lookup
                   refine wpList_look_int rfl (.tmp 124) (.tmp 125) 35 rfl 3 3 .i64 klaw Try.underlying35 Try.underlying3 (zero3 _) w1.heap.size l.length D rfl HM1.out _ _ rfl hkey gv isb hk0 hh ?_)
                | (go_at_call 13; (with_reducible refine HG.out.mono ?_); rintro e w2 ⟨rfl, m, rfl⟩))
              go_roundw
              case rel => exact ⟨j + 1, n + m, by omega, by go_num, HDD.out m⟩
              case measure => simp [intOf]; omega
            · obtain rfl : j = told.length := by omega
              have hC := count_az HA1.out
              rw [← hD.size] at hC
              have HC := Lib.hid hC
              clear hC
              go_wp2_with (first
                | (go_at_call 14; (with_reducible refine HC.out.mono ?_); rintro e w6 ⟨rfl, rfl⟩)
                | (at_len
                   refine wpList_len_own _ rfl (.tmp 146) 35 rfl 3 3 Try.underlying35 mp w1.heap.size l.length D rfl HM1.out ?_)
                | (go_at_call 10; (with_reducible refine (HA.out _).mono ?_); rintro e w7 ⟨rfl, hb7⟩))
              go_ret
              exact ⟨rfl, HB1.out.trans (hb7.mono HB1.out.size)⟩
end Go.Proofs.Ytnejjaebhjgccaa.Ar
