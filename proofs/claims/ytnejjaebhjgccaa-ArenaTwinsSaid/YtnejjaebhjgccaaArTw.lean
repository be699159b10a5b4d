/- The walk of ArenaTwins. -/
import Derived.Test.YtnejjaebhjgccaaArTwA
import Derived.Test.YtnejjaebhjgccaaArOnce
namespace Go.Proofs.Ytnejjaebhjgccaa.Ar
open Go Go.RowKit Go.Proofs.Ytnejjaebhjgccaa.Mem Go.Proofs.Ytnejjaebhjgccaa.Bits
set_option linter.unusedVariables false
set_option linter.unusedSimpArgs false
theorem asdrew {w : World} {B b : Nat} {F : Blocks} {sl : List Sl} {fr : List Nat} {cap : Int} (h : As.Az w B b F sl fr cap) : As.Az w.drew B b F sl fr cap := by
  obtain ⟨sv, fv, ha, hF⟩ := h
  exact ⟨sv, fv, ⟨ha.base, ha.blk, ha.slots, ha.free⟩, hF⟩
set_option maxRecDepth 4000 in
set_option maxHeartbeats 4000000 in
theorem twins_walk (cap : Int) (A : Option Addr) (c : Nat) (l : List (List Int)) (w : World) (hr : Reads w w.heap.size 4 A l.length (opsV l)) (hl4 : ∀ r ∈ l, r.length = 4 ∧ ∀ x ∈ r, (Lit.int .i64 x).wf = true) : Calls Try.prog 7 #[.int .i64 cap, .slice A l.length c] w fun e w' => e = .returned (.bool true) ∧ Below w.heap.size w w' := by
  have HA := Lib.hid awake_any
  have HR := Lib.hid hr
  clear hr
  by_cases hc : cap < 0 ∨ 65536 < cap
  · have HNo := Lib.hid (new_none cap hc)
    have HNs := Lib.hid (As.new_none cap hc)
    rcases hc with hc | hc
    all_goals
      go_enter Try.func7, Try.ntmps7
      go_wp2_with (first
        | (go_at_call 9; (with_reducible refine (HNo.out _).mono ?_); rintro e w1 ⟨rfl, rfl⟩)
        | (go_at_call 19; (with_reducible refine (HNs.out _).mono ?_); rintro e w1 ⟨rfl, rfl⟩)
        | (go_at_call 10; (with_reducible refine (HA.out _).mono ?_); rintro e w2 ⟨rfl, hb2⟩))
      go_ret
      exact ⟨rfl, hb2⟩
  · have HNew := Lib.hid (new_az cap (by omega) (by omega) w w.heap.size (Nat.le_refl _))
    have HNs := Lib.hid (fun (W : World) (h : w.heap.size ≤ W.heap.size) => As.new_az cap (by omega) (by omega) W w.heap.size h)
    by_cases hn : 200 < l.length
    · go_enter Try.func7, Try.ntmps7
      go_wp2_with (first
        | (go_at_call 9; (with_reducible refine HNew.out.mono ?_); rintro e w1 ⟨rfl, ha1, hb1⟩)
        | (go_at_call 19; (with_reducible refine (HNs.out _ hb1.size).mono ?_); rintro e w2 ⟨rfl, ha2, hb2⟩)
        | (go_at_call 10; (with_reducible refine (HA.out _).mono ?_); rintro e w3 ⟨rfl, hb3⟩))
      go_ret
      have hb12 := hb1.trans (hb2.mono hb1.size)
      exact ⟨rfl, hb12.trans (hb3.mono hb12.size)⟩
    · have hl2 : l.length ≤ 200 := by omega
      have hc0 : 0 ≤ cap := by omega
      have hc1 : cap ≤ 65536 := by omega
      obtain ⟨i0, hi0, hz0, hz1, hz2⟩ := info_parts int_info
      clear hn hc
      go_enter Try.func7, Try.ntmps7
      go_upto_region 5 with (first
        | (go_at_call 9; (with_reducible refine HNew.out.mono ?_); rintro e w1 ⟨rfl, ha1, hb1⟩)
        | (go_at_call 19; (with_reducible refine (HNs.out _ hb1.size).mono ?_); rintro e w2 ⟨rfl, ha2, hb2⟩))
      have hb12 := hb1.trans (hb2.mono hb1.size)
      have hu12 : Upd (fun _ => False) w1 w2 := Upd.of_below hb2 _
      have HSep : Hid (Sep w.heap.size w2 [fun k => k = w1.heap.size, fun k => k = w.heap.size, OwnB (.slice none 0 0)]) := Lib.hid <| by
        have h1 : Sep w.heap.size w1 [fun k => k = w.heap.size] := ⟨fun F hF => by obtain rfl := List.mem_singleton.1 hF; exact ha1.in_, List.pairwise_singleton _ _⟩
        have h2 := h1.new (w' := w2) (G := fun k => k = w1.heap.size) hb2.size (fun k hk => by have := (ha2.in_ k hk).2; subst hk; exact ⟨Nat.le_refl _, this⟩) hb1.size
        exact Sep.empty [fun k => k = w1.heap.size, fun k => k = w.heap.size] [] h2 _ nil_empty
      have HAz := Lib.hid (ha1.keep hu12 (Dis.no _))
      have HAs := Lib.hid ha2
      have HB := Lib.hid hb12
      clear ha1 ha2 hb2 hb12 hu12
      generalize w1.heap.size = bs at *
      go_wp2
      go_loopw [7, 43] (fun ids i wr => ∃ (k : Nat) (F G : Blocks) (sl : List Sl) (fr : List Nat) (told : List Int), k ≤ l.length ∧ i = .int .i64 k ∧ told.length ≤ k ∧ Good k sl fr cap ∧ Hid (Az wr w.heap.size w.heap.size F sl fr cap) ∧ Hid (As.Az wr w.heap.size bs G (xs sl) fr cap) ∧ Hid (wr.ownsRow w.heap.size 3 1 ids told.length (ints told)) ∧ Hid (Sep w.heap.size wr [G, F, OwnB ids]) ∧ Hid (Below w.heap.size w wr)) (fun _ i _ => l.length - (intOf i).toNat)
      case atStart => exact ⟨0, _, _, [], [], [], by omega, rfl, by simp, (whole_nil cap hc0 hc1).good, HAz, HAs, Lib.hid (World.ownsRow_nil _ _ _ _), HSep, HB⟩
      case round =>
        clear HAz HAs HSep HB
        obtain ⟨k, F, G, sl, fr, told, hk, rfl, htl, hW, HAz, HAs, HO, HSp, HB⟩ := hrel
        by_cases hlt : k < l.length
        · obtain ⟨hr4, hrw⟩ := hl4 l[k] (List.getElem_mem _)
          obtain ⟨ad, rfl, had, hcl⟩ := (HR.out.below HB.out).row (k := k) (r := l[k].map (Value.int .i64)) (fun r hr => by
            obtain ⟨r0, hr0, rfl⟩ := List.mem_map.1 hr
            rw [List.length_map]
            exact (hl4 r0 hr0).1) hlt (by simp [List.getElem?_eq_getElem hlt])
          obtain ⟨kd, od, on, ov, hrow⟩ := four_of hr4
          rw [hrow] at hcl hrw
          simp only [List.map_cons, List.map_nil] at hcl
          have HCL := Lib.hid hcl
          clear hcl hrw hrow hr4
          obtain ⟨A3, c3, rfl⟩ := own_len HO.out
          go_upto_region 8 with (first
            | (with_reducible refine wpList_load_add rfl 37 (.tmp 45) rfl _ rfl [.int .i64 kd, .int .i64 od, .int .i64 on, .int .i64 ov] _ HCL.out Try.underlying37 rfl (by kernel_rfl) ?_)
            | (with_reducible refine wpList_box rfl 37 (.tmp 9) (.tmp 46) rfl #[.int .i64 kd, .int .i64 od, .int .i64 on, .int .i64 ov] rfl rfl (by kernel_rfl) rfl (by simp [Value.oneCell']) ?_
               intro W1 hbx hux hsx))
          have hS1 : Sep w.heap.size W1 [Just wr.heap.size, G, F, OwnB (.slice A3 told.length c3)] := HSp.out.new (by omega) (fun q hq => by simp [Just] at hq; omega) HB.out.size
          have hA1 := HAz.out.keep hux (Dis.no _)
          have hT1 := HAs.out.keep hux (Dis.no _)
          have hO1 := own_keep HO.out hux (Dis.no _)
          have hB1 := below_upd HB.out hux (fun _ h => h.elim) (Nat.le_refl _)
          have HS1 := Lib.hid hS1
          have HA1 := Lib.hid hA1
          have HT1 := Lib.hid hT1
          have HO1 := Lib.hid hO1
          have HB1 := Lib.hid hB1
          have HBX := Lib.hid hbx
          have b0 : W1.cell? ⟨wr.heap.size, 0, none⟩ = some (.int .i64 kd) := hbx.cellv rfl
          have b2 : W1.cell? ⟨wr.heap.size, 2, none⟩ = some (.int .i64 on) := hbx.cellv rfl
          have b3 : W1.cell? ⟨wr.heap.size, 3, none⟩ = some (.int .i64 ov) := hbx.cellv rfl
          clear hS1 hA1 hT1 hO1 hB1 hbx hux HAz HAs HO HSp HB HCL had
          generalize wr.heap.size = g at *
          by_cases hkd : kd = 1
          · subst hkd
            have hAl := alloc_az HA1.out hW (by omega) HB1.out.size ov
            have hAs := fun (W : World) (G : Blocks) (h : As.Az W w.heap.size bs G (xs sl) fr cap) (hs : w.heap.size ≤ W.heap.size) => As.alloc_az h (xs_good hW) (by omega) hs 1
            rw [xs_alloc sl fr cap ov] at hAs
            have hx1 : As.strV 1 = ⟨#[120]⟩ := rfl
            simp only [hx1] at hAs
            have hW2 := hW.alloc ov
            have hst : (allocS sl fr cap ov).2.1 = 0 ∨ (allocS sl fr cap ov).2.1 = -4 := by
              unfold allocS
              split
              · exact .inl rfl
              · split
                · exact .inr rfl
                · exact .inl rfl
            generalize (allocS sl fr cap ov).1 = id at *
            generalize (allocS sl fr cap ov).2.1 = st at *
            generalize (allocS sl fr cap ov).2.2.1 = sl' at *
            generalize (allocS sl fr cap ov).2.2.2 = fr' at *
            have HAl := Lib.hid hAl
            have HAs := Lib.hid hAs
            have HW2 := Lib.hid hW2
            have z1 : (id != id) = false := by simp
            have z2 : (st != st) = false := by simp
            clear hAl hAs hW2 hW hst
            go_wp2_with (first
              | (go_at_call 11; (with_reducible refine HAl.out.mono ?_); rintro e w2 ⟨rfl, F2, hA2, hU2, hN2⟩
                 have S2 := HS1.out.step [Just g, G] _ hU2.size hN2 (fun q hq => (hA2.in_ q hq).2) HB1.out.size
                 have hT2 := HT1.out.keep hU2 (HS1.out.dis 1 2 rfl rfl (by decide))
                 have hO2 := own_keep HO1.out hU2 (HS1.out.dis 3 2 rfl rfl (by decide))
                 have hB2 := below_upd HB1.out hU2 (HS1.out.at_ 2 rfl) (Nat.le_refl _))
              | (go_at_call 20; (with_reducible refine (HAs.out _ _ hT2 hB2.size).mono ?_); rintro e w3 ⟨rfl, G3, hT3, hU3, hN3⟩
                 have S3 := S2.step [Just g] _ hU3.size hN3 (fun q hq => (hT3.in_ q hq).2) hB2.size
                 have hA3 := hA2.keep hU3 (S2.dis 2 1 rfl rfl (by decide))
                 have hO3 := own_keep hO2 hU3 (S2.dis 3 1 rfl rfl (by decide))
                 have hB3 := below_upd hB2 hU3 (S2.at_ 1 rfl) (Nat.le_refl _))
              | (at_builtin
                 refine wpList_append1 rfl (.tmp 70) (.tmp 72) _ rfl w.heap.size 3 i0 _ 8 Try.underlying22 hi0 hz0 hz1 hz2 rfl (.slice A3 told.length c3) told.length (ints told) rfl
                   hO3 (.int .i64 id) rfl (by simp [Value.oneCell']) (by simp only [maxLen]; omega) (by omega) hB3.size ?_
                 intro v4 w4 hO4 hU4 hN4
                 have S4 := S3.step [Just g, G3, F2] _ hU4.size hN4 (fun q hq => (hO4.lt q hq).2) hB3.size
                 have hA4 := hA3.keep hU4 (S3.dis 2 3 rfl rfl (by decide))
                 have hT4 := hT3.keep hU4 (S3.dis 1 3 rfl rfl (by decide))
                 have hB4 := below_upd hB3 hU4 (S3.at_ 3 rfl) (Nat.le_refl _)))
            go_roundw
            case rel =>
              refine ⟨k + 1, F2, G3, sl', fr', told ++ [id], by omega, by go_num, by simp; omega, HW2.out, Lib.hid hA4, Lib.hid hT4, Lib.hid ?_, Lib.hid S4.tail, Lib.hid hB4⟩
              rw [← ints_snoc, show (told ++ [id]).length = told.length + 1 by simp]
              exact hO4
            case measure => simp [intOf]; omega
          · have z0 : (kd == 1) = false := beq_eq_false_iff_ne.mpr hkd
            by_cases hon : on < 0 ∨ (told.length : Int) ≤ on
            · rcases hon with hon | hon
              case' inl =>
                have hd1 : decide (0 ≤ on) = false := decide_eq_false (by omega)
              case' inr =>
                have hd1 : decide (0 ≤ on) = true := decide_eq_true (by omega)
                have hd2 : decide (on < (told.length : Int)) = false := decide_eq_false (by omega)
              all_goals
                go_wp2
                go_quiet (fail)
                go_wp2
                go_roundw
                case rel => exact ⟨k + 1, F, G, sl, fr, told, by omega, by go_num, by omega, hW.more (by omega), Lib.hid (HA1.out.drewN _), Lib.hid (HT1.out.drewN _), Lib.hid HO1.out, Lib.hid (HS1.out.drewN _).tail, Lib.hid (below_drewN HB1.out _)⟩
                case measure => simp [intOf]; omega
            · obtain ⟨q, rfl, hq⟩ : ∃ q : Nat, on = q ∧ q < told.length := ⟨on.toNat, by omega, by omega⟩
              obtain ⟨g3, cp3, hsl3, hbg3, hgl3, hnc3⟩ := own_form HO1.out (by omega)
              have dj := (hsl3 ▸ HO1.out).cellAt q (by omega)
              simp only [Value.slice.injEq] at hsl3
              obtain ⟨rfl, -, rfl⟩ := hsl3
              have hqi : (ints told)[q]? = some (.int .i64 told[q]) := by simp [ints, hq]
              rw [hqi] at dj
              have hFr := fun (W : World) (h : Az W w.heap.size w.heap.size F sl fr cap) (hs : w.heap.size ≤ W.heap.size) => free_az h hW (by omega) hs told[q]
              have hFs := fun (W : World) (h : As.Az W w.heap.size bs G (xs sl) fr cap) (hs : w.heap.size ≤ W.heap.size) => As.free_az h (xs_good hW) (by omega) hs told[q]
              have hW2 := hW.freed told[q]
              rw [xs_free] at hFs
              simp only at hFs
              generalize told[q] = id at *
              generalize (freeS sl fr id).1 = st at *
              generalize (freeS sl fr id).2.1 = sl' at *
              generalize (freeS sl fr id).2.2 = fr' at *
              have HFr := Lib.hid hFr
              have HFs := Lib.hid hFs
              have HW2 := Lib.hid hW2
              have HQ := Lib.hid hqi
              have z1 : (st != st) = false := by simp
              have hd1 : decide ((0 : Int) ≤ (q : Int)) = true := decide_eq_true (by omega)
              have hd2 : decide ((q : Int) < (told.length : Int)) = true := decide_eq_true (by omega)
              clear hFr hFs hW2 hqi hW
              go_wp2
              have hk1 : W1.drew.cell? ⟨g, 2, none⟩ = some (.int .i64 (q : Int)) ∧ W1.drew.cell? ⟨g3, q, none⟩ = some (.int .i64 id) := ⟨b2, dj⟩
              have h0q : (0 : Int) ≤ (q : Int) := by omega
              have hlq : (q : Int) < (told.length : Int) := by omega
              clear b0 b3
              go_region_held3 (fun w' => w'.cell? ⟨g, 2, none⟩ = some (.int .i64 (q : Int)) ∧ w'.cell? ⟨g3, q, none⟩ = some (.int .i64 id)) (first | exact hk3 | exact hk2 | exact hk1)
                (first
                | (go_at_call 15; (with_reducible refine (HFr.out _ HA1.out.drew HB1.out.drew.size).mono ?_); rintro e w2 ⟨rfl, F2, hA2, hU2, hN2⟩
                   have S2 := (HS1.out.drewN 1).step [Just g, G] _ hU2.size hN2 (fun q hq => (hA2.in_ q hq).2) HB1.out.size
                   have hT2 := (asdrew HT1.out).keep hU2 (HS1.out.dis 1 2 rfl rfl (by decide))
                   have hO2 := own_keep HO1.out.drew hU2 (HS1.out.dis 3 2 rfl rfl (by decide))
                   have hX2 := HBX.out.drew.keep hU2 (HS1.out.dis 0 2 rfl rfl (by decide))
                   have hB2 := below_upd HB1.out.drew hU2 (HS1.out.at_ 2 rfl) (Nat.le_refl _)
                   have hk2 : w2.cell? ⟨g, 2, none⟩ = some (.int .i64 (q : Int)) ∧ w2.cell? ⟨g3, q, none⟩ = some (.int .i64 id) := ⟨hX2.cellv rfl, (hO2.cellAt q (by omega)).trans HQ.out⟩)
                | (go_at_call 21; (with_reducible refine (HFs.out _ hT2 hB2.size).mono ?_); rintro e w3 ⟨rfl, G3, hT3, hU3, hN3⟩
                   have S3 := S2.step [Just g] _ hU3.size hN3 (fun q hq => (hT3.in_ q hq).2) hB2.size
                   have hA3 := hA2.keep hU3 (S2.dis 2 1 rfl rfl (by decide))
                   have hO3 := own_keep hO2 hU3 (S2.dis 3 1 rfl rfl (by decide))
                   have hX3 := hX2.keep hU3 (S2.dis 0 1 rfl rfl (by decide))
                   have hB3 := below_upd hB2 hU3 (S2.at_ 1 rfl) (Nat.le_refl _)
                   have hk3 : w3.cell? ⟨g, 2, none⟩ = some (.int .i64 (q : Int)) ∧ w3.cell? ⟨g3, q, none⟩ = some (.int .i64 id) := ⟨hX3.cellv rfl, (hO3.cellAt q (by omega)).trans HQ.out⟩))
              go_wp2
              go_roundw
              case rel => exact ⟨k + 1, F2, G3, sl', fr', told, by omega, by go_num, by omega, HW2.out.more (by omega), Lib.hid hA3, Lib.hid hT3, Lib.hid hO3, Lib.hid S3.tail, Lib.hid hB3⟩
              case measure => simp [intOf]; omega
        · obtain rfl : k = l.length := by omega
          obtain ⟨A3, c3, rfl⟩ := own_len HO.out
          go_wp2
          go_loopw [104] (fun i wy => ∃ (j n : Nat), j ≤ told.length ∧ i = .int .i64 j ∧ wy = wr.drewN n) (fun i _ => told.length - (intOf i).toNat)
          case atStart => exact ⟨0, 0, by omega, rfl, (World.drewN_zero _).symm⟩
          case round =>
            obtain ⟨j, n, hj, rfl, rfl⟩ := hrel
            have HA1 := Lib.hid (HAz.out.drewN n)
            have HT1 := Lib.hid (HAs.out.drewN n)
            have HB1 := Lib.hid (below_drewN HB.out n)
            have HO1 : Hid ((wr.drewN n).ownsRow w.heap.size 3 1 (.slice A3 told.length c3) told.length (ints told)) := Lib.hid HO.out
            have hdd : ∀ m, (wr.drewN n).drewN m = wr.drewN (n + m) := fun m => World.drewN_drewN _ _ _
            have HDD := Lib.hid hdd
            have hil := idsTo_len sl sl.length
            have hle := hW.len
            have hWc := hW.cap
            clear HAz HAs HB HO HSp hdd
            generalize hW0 : wr.drewN n = W0 at *
            have HW0 := Lib.hid hW0
            clear hW0
            by_cases hjl : j < told.length
            · obtain ⟨g3, cp3, hsl3, hbg3, hgl3, hnc3⟩ := own_form HO1.out (by omega)
              have dj := (hsl3 ▸ HO1.out).cellAt j (by omega)
              simp only [Value.slice.injEq] at hsl3
              obtain ⟨rfl, -, rfl⟩ := hsl3
              rw [show (ints told)[j]? = some (.int .i64 told[j]) by simp [ints, hjl]] at dj
              have hG := As.get_az HT1.out told[j]
              have hH := fun (m : Nat) => has_az (HA1.out.drewN m) told[j]
              rw [xs_val, xs_find] at hG
              generalize told[j] = id at *
              have HH := Lib.hid hH
              have e1 : As.strV (if true = true then 1 else 0) = ⟨#[120]⟩ := rfl
              have e0 : As.strV (if false = true then 1 else 0) = ⟨#[]⟩ := rfl
              cases hf : (findN sl id).isSome
              all_goals
                rw [hf] at hG HH
                first | rw [e1] at hG | rw [e0] at hG
                have HG := Lib.hid hG
                clear hG hf e1 e0
                go_wp2_with (first
                  | (go_at_call 22; (with_reducible refine HG.out.mono ?_); rintro e w2 ⟨rfl, m, rfl⟩)
                  | (go_at_call 18; (with_reducible refine (HH.out m).mono ?_); rintro e w2 ⟨rfl, m2, rfl⟩))
                go_roundw
                case rel => exact ⟨j + 1, n + (m + m2), by omega, by go_num, by rw [← HW0.out, World.drewN_drewN]⟩
                case measure => simp [intOf]; omega
            · obtain rfl : j = told.length := by omega
              have hI := ids_az HA1.out hW (by omega)
              have HI := Lib.hid hI
              have hI2 := fun (W : World) (h : As.Az W w.heap.size bs G (xs sl) fr cap) => As.ids_az h (xs_good hW) (by omega)
              rw [xs_len, xs_ids] at hI2
              have HI2 := Lib.hid hI2
              clear hI hI2
              go_wp2_with (first
                | (go_at_call 24; (with_reducible refine HI.out.mono ?_); rintro e w2 ⟨va, rfl, hOa, hBa⟩
                   obtain ⟨Aa, ca, rfl⟩ := own_len hOa
                   have hT2 := HT1.out.keep (Upd.of_below hBa (fun _ => False)) (Dis.no _))
                | (go_at_call 25; (with_reducible refine (HI2.out _ hT2).mono ?_); rintro e w3 ⟨vb, rfl, hOb, hBb⟩
                   obtain ⟨Ab, cb, rfl⟩ := own_len hOb
                   have RA := (Reads.of_own hOa).below hBb
                   have RB := Reads.of_own hOb)
                | (go_at_call 23; (with_reducible refine (ints_same (by omega) RA RB).mono ?_); rintro e w4 ⟨rfl, m, rfl⟩)
                | (go_at_call 10; (with_reducible refine (HA.out _).mono ?_); rintro e w7 ⟨rfl, hb7⟩))
              go_ret
              have hb3 := (HB1.out.trans (hBa.mono HB1.out.size)).trans (hBb.mono (Nat.le_trans HB1.out.size hBa.size))
              have hb4 := below_drewN hb3 m
              exact ⟨rfl, hb4.trans (hb7.mono hb4.size)⟩
end Go.Proofs.Ytnejjaebhjgccaa.Ar
