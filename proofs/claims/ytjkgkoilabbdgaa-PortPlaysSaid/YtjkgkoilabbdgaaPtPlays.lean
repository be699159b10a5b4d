/- The walk of PortPlays. -/
import Derived.Test.YtjkgkoilabbdgaaPtR5
import Derived.Test.YtjkgkoilabbdgaaAgg
import Derived.Deep.CutBlock
import Derived.Deep.LoopGhost
import Derived.Deep.DeepCutAuto
import Derived.Deep.RegionHeld3
namespace Go.Proofs.Ytjkgkoilabbdgaa.Pt
open Go Go.RowKit Go.Proofs.Ytjkgkoilabbdgaa.Mem
set_option linter.unusedVariables false
set_option linter.unusedSimpArgs false
abbrev opsV (l : List (List Int)) : List Value := (l.map (·.map (Value.int .i64))).flatten
set_option maxRecDepth 8000 in
set_option maxHeartbeats 4000000 in
theorem plays_bad (dp mp : Int) (A : Option Addr) (c n : Nat) (h : dp < 1 ∨ 65536 < dp ∨ mp < 0 ∨ 65536 < mp) (w : World) :
    Calls Try.prog 7 #[.int .i64 dp, .int .i64 mp, .slice A n c] w fun e w' => e = .returned (.bool true) ∧ Below w.heap.size w w' := by
  have HA := Lib.hid awake_any
  have HN := Lib.hid (new_none dp mp h)
  have hc : dp < 1 ∨ (1 ≤ dp ∧ 65536 < dp) ∨ (1 ≤ dp ∧ dp ≤ 65536 ∧ mp < 0) ∨ (1 ≤ dp ∧ dp ≤ 65536 ∧ 0 ≤ mp ∧ 65536 < mp) := by omega
  clear h
  rcases hc with h1 | ⟨h1, h2⟩ | ⟨h1, h2, h3⟩ | ⟨h1, h2, h3, h4⟩
  all_goals
    go_enter Try.func7, Try.ntmps7
    go_wp2_with (first
      | (go_at_call 8; (with_reducible refine (HN.out _).mono ?_); rintro e w1 ⟨rfl, rfl⟩)
      | (go_at_call 9; (with_reducible refine (HA.out _).mono ?_); rintro e w2 ⟨rfl, hb2⟩))
    go_ret
    exact ⟨rfl, hb2⟩
set_option maxRecDepth 8000 in
set_option maxHeartbeats 16000000 in
theorem plays_main (d m : Nat) (A : Option Addr) (c : Nat) (l : List (List Int)) (w : World) (hd1 : 1 ≤ d) (hd2 : d ≤ 65536) (hm2 : m ≤ 65536) (hr : Reads w w.heap.size 4 A l.length (opsV l)) (hl4 : ∀ r ∈ l, r.length = 4 ∧ ∀ x ∈ r, (Lit.int .i64 x).wf = true) :
    Calls Try.prog 7 #[.int .i64 d, .int .i64 m, .slice A l.length c] w fun e w' => e = .returned (.bool true) ∧ Below w.heap.size w w' := by
  have HA := Lib.hid awake_any
  have hN := new_any (Star.nil w) d m hd1 hd2 hm2
  have HN := Lib.hid hN
  clear hN
  have e1 : (1 : Int) ≤ d := by omega
  have e2 : (d : Int) ≤ 65536 := by omega
  have e3 : (0 : Int) ≤ m := by omega
  have e4 : (m : Int) ≤ 65536 := by omega
  by_cases hbig : 120 < l.length
  · clear hr
    have h4 : (120 : Int) < l.length := by omega
    generalize l.length = n at *
    go_enter Try.func7, Try.ntmps7
    go_wp2_with (first
      | (go_at_call 8; (with_reducible refine HN.out.mono ?_); rintro e w1 ⟨rfl, hs1⟩)
      | (go_at_call 9; (with_reducible refine (HA.out _).mono ?_); rintro e w2 ⟨rfl, hb2⟩))
    go_ret
    exact ⟨rfl, hs1.below.trans (hb2.mono hs1.below.size)⟩
  · have hl60' : l.length ≤ 120 := by omega
    have hl60 : (l.length : Int) ≤ 120 := by omega
    have HR := Lib.hid hr
    clear hr hbig
    go_enter Try.func7, Try.ntmps7
    go_wp2_with (first
      | (go_at_call 8; (with_reducible refine HN.out.mono ?_); rintro e w1 ⟨rfl, hs1⟩
         have HS1 : Hid (Star w (w1.alloc (.cells #[.slice none 0 0, .slice none 0 0, .int .i64 d, .int .i64 m] 50)) [RpA w1.heap.size ⟨[], [], d, m⟩, PtA w.heap.size ⟨[], [], d, m⟩]) := Lib.hid (by
           have h5 := ((hs1.nilO 58 3).nilO 52 3).newBlk 50 (rpC ⟨[], [], d, m⟩ (.slice none 0 0, .slice none 0 0))
           exact Star.exClose (Q := rp w1.heap.size ⟨[], [], d, m⟩) (.slice none 0 0, .slice none 0 0) h5)
         clear hs1))
    generalize (w1.alloc (.cells #[.slice none 0 0, .slice none 0 0, .int .i64 d, .int .i64 m] 50)) = W0 at *
    generalize w1.heap.size = bx at *
    generalize hb0 : w.heap.size = b at *
    have HB0 := Lib.hid hb0
    clear hb0 e1 e2 e3 e4
    go_loopg [11, 59] l.length (fun gg s11 s59 wr => ∃ (k : Nat) (s : Po), k ≤ l.length ∧ l.length - k ≤ gg ∧ s59 = .int .i64 k ∧ Hid (PlI k s) ∧ Hid (Star w wr [RpA bx s, PtA b s]))
    case atStart => exact ⟨0, _, by omega, by omega, rfl, Lib.hid ⟨by simp, by simp, by simp⟩, HS1⟩
    case round =>
      clear HS1 HN
      obtain ⟨k, s, hk, hg, rfl, HI, HS⟩ := hrel
      by_cases hlt : k < l.length
      · obtain ⟨hr4, hrw⟩ := hl4 l[k] (List.getElem_mem _)
        have hrb := HR.out
        obtain ⟨ad, rfl, had, hcl⟩ := (hrb.below (by rw [← HB0.out]; exact HS.out.below)).row (k := k) (r := l[k].map (Value.int .i64)) (fun r hr => by
          obtain ⟨r0, hr0, rfl⟩ := List.mem_map.1 hr
          rw [List.length_map]
          exact (hl4 r0 hr0).1) hlt (by simp [List.getElem?_eq_getElem hlt])
        obtain ⟨kd, oo, ok, on, hrow⟩ := four_of hr4
        rw [hrow] at hcl hrw
        simp only [List.map_cons, List.map_nil] at hcl
        have HCL := Lib.hid hcl
        have hkz : (k : Int) < l.length := by omega
        have hlen := HI.out.len
        have hq1 : s.q.length ≤ 120 := by omega
        have hw1 : s.ws.length ≤ 120 := by omega
        have hqw : s.q.length + s.ws.length ≤ 120 := by omega
        clear hcl hrw hrow hr4 hrb
        go_upto_region 10 with (first
          | (with_reducible refine wpList_load_add rfl 36 (.tmp 61) rfl _ rfl [.int .i64 kd, .int .i64 oo, .int .i64 ok, .int .i64 on] _ HCL.out Try.underlying36 rfl (by kernel_rfl) ?_)
          | (with_reducible refine wpList_box_st rfl 36 (.tmp 10) (.tmp 62) rfl HS.out #[.int .i64 kd, .int .i64 oo, .int .i64 ok, .int .i64 on] rfl rfl (by kernel_rfl) rfl (by simp [Value.oneCell']) ?_
             intro W1 hs1))
        obtain ⟨g0, eg0⟩ : ∃ g, g = wr.heap.size := ⟨_, rfl⟩
        rw [← eg0] at hs1 ⊢
        have hs2 : Star w W1 [RpA bx s, PtA b s, BlkA g0 36 #[.int .i64 kd, .int .i64 oo, .int .i64 ok, .int .i64 on]] := hs1.last
        have hG := fun (W : World) (X Y : Asr) (h : Star w W [X, Y, BlkA g0 36 #[.int .i64 kd, .int .i64 oo, .int .i64 ok, .int .i64 on]]) => show W.cell? ⟨g0, 1, none⟩ = some (.int .i64 oo) ∧ W.cell? ⟨g0, 2, none⟩ = some (.int .i64 ok) ∧ W.cell? ⟨g0, 3, none⟩ = some (.int .i64 on) from ⟨(h.blk 2 rfl).cellv rfl, (h.blk 2 rfl).cellv rfl, (h.blk 2 rfl).cellv rfl⟩
        have HG := Lib.hid hG
        have b0 : W1.cell? ⟨g0, 0, none⟩ = some (.int .i64 kd) := (hs2.blk 2 rfl).cellv rfl
        obtain ⟨b1, b2, b3⟩ := hG _ _ _ hs2
        have HS2 := Lib.hid hs2
        clear hs1 hs2 HS HCL hG eg0
        go_upto_block 2 with fail
        go_cut [11] (fun s11 wx => s11 = .bool true ∧ ∃ (s : Po), Hid (PlI (k + 1) s) ∧ Hid (Star w wx [RpA bx s, PtA b s, BlkA g0 36 #[.int .i64 kd, .int .i64 oo, .int .i64 ok, .int .i64 on]]))
        case first =>
          by_cases hk1 : kd = 1
          · subst hk1
            have hp := fun (W : World) (L : List Asr) (h : Star w W (RpA bx s :: PtA b s :: L)) => queue_st h 1 rfl (by omega) ok on
            have hq := fun (W : World) (L : List Asr) (h : Star w W (RpA bx s :: L)) => add_rst h 0 rfl (by omega) ok on
            simp only [List.set_cons_zero, List.set_cons_succ] at hp hq
            have hI := HI.out.queue ok on
            obtain ⟨st, s', e⟩ : ∃ st s', queueS s ok on = (st, s') := ⟨_, _, rfl⟩
            rw [e] at hp hq hI
            have HP := Lib.hid hp
            have HQ := Lib.hid hq
            have HI2 := Lib.hid hI
            have z1 : (st == st) = true := by simp
            clear hp hq e hI
            go_wp2
            have hk1 : W1.drew.cell? ⟨g0, 1, none⟩ = some (.int .i64 oo) ∧ W1.drew.cell? ⟨g0, 2, none⟩ = some (.int .i64 ok) ∧ W1.drew.cell? ⟨g0, 3, none⟩ = some (.int .i64 on) := ⟨b1, b2, b3⟩
            go_region_held3 (fun w' => w'.cell? ⟨g0, 1, none⟩ = some (.int .i64 oo) ∧ w'.cell? ⟨g0, 2, none⟩ = some (.int .i64 ok) ∧ w'.cell? ⟨g0, 3, none⟩ = some (.int .i64 on)) (first | exact hk3 | exact hk2 | exact hk1)
              (first
              | (go_at_call 10; (with_reducible refine (HP.out _ _ (star_dr HS2.out)).mono ?_); rintro e w2 ⟨rfl, hs3⟩
                 have HS3 := Lib.hid hs3
                 have hk2 := HG.out _ _ _ hs3
                 clear hs3)
              | (go_at_call 20; (with_reducible refine (HQ.out _ _ HS3.out).mono ?_); rintro e w3 ⟨rfl, hs4⟩
                 have HS4 := Lib.hid hs4
                 have hk3 := HG.out _ _ _ hs4
                 clear hs4))
            all_goals
              go_wp2
              go_meet
              case rel => exact ⟨rfl, s', HI2, HS4⟩
          · have y1 : (kd == 1) = false := beq_eq_false_iff_ne.mpr hk1
            by_cases hk2 : kd = 2
            · subst hk2
              have hp := fun (W : World) (L : List Asr) (h : Star w W (RpA bx s :: PtA b s :: L)) => take_st h 1 rfl (by omega)
              have hq := fun (W : World) (Z : Asr) (L : List Asr) (h : Star w W (Z :: RpA bx s :: L)) => take_rst h 1 rfl (by omega)
              simp only [List.set_cons_zero, List.set_cons_succ] at hp hq
              have hI := HI.out.take
              obtain ⟨x, st, s', e⟩ : ∃ x st s', takeS s = (x, st, s') := ⟨_, _, _, rfl⟩
              rw [e] at hp hq hI
              unfold t3G at hp hq
              simp only at hp hq
              have HP := Lib.hid hp
              have HQ := Lib.hid hq
              have HI2 := Lib.hid hI
              have HSM := Lib.hid (fun W => same_pair W x)
              have z1 : (st == st) = true := by simp
              clear hp hq e hI
              go_wp2_with (first
                | (go_at_call 11; (with_reducible refine (HP.out _ _ HS2.out).mono ?_); rintro e w2 ⟨rfl, hs3⟩
                   have HS3 := Lib.hid (hs3.newBlk 29 #[.int .i64 x.a, .int .i64 x.b, .int .i64 x.c])
                   clear hs3)
                | (go_at_call 21; (with_reducible refine (HQ.out _ _ _ HS3.out).mono ?_); rintro e w3 ⟨rfl, hs4⟩
                   have hs5 := hs4.newBlk 52 #[.int .i64 x.a, .int .i64 x.b, .int .i64 x.c]
                   have d0 : (w3.alloc (.cells #[.int .i64 x.a, .int .i64 x.b, .int .i64 x.c] 52)).cell? ⟨w2.heap.size, 0, none⟩ = some (.int .i64 x.a) := (hs5.blk 1 rfl).cellv (i := 0) rfl
                   have d1 : (w3.alloc (.cells #[.int .i64 x.a, .int .i64 x.b, .int .i64 x.c] 52)).cell? ⟨w2.heap.size, 1, none⟩ = some (.int .i64 x.b) := (hs5.blk 1 rfl).cellv (i := 1) rfl
                   have d2 : (w3.alloc (.cells #[.int .i64 x.a, .int .i64 x.b, .int .i64 x.c] 52)).cell? ⟨w2.heap.size, 2, none⟩ = some (.int .i64 x.c) := (hs5.blk 1 rfl).cellv (i := 2) rfl
                   have HS4 := Lib.hid hs5.tail.tail
                   clear hs4 hs5)
                | (go_at_call 22; (with_reducible refine (HSM.out _ _ (by simp)).mono ?_); rintro e w5 ⟨rfl, q5, rfl⟩))
              go_meet
              case rel => exact ⟨rfl, s', HI2, Lib.hid (((HS4.out.alloc _).alloc _).drewN _)⟩
            · have y2 : (kd == 2) = false := beq_eq_false_iff_ne.mpr hk2
              by_cases hk3 : kd = 3
              · subst hk3
                have hp := fun (W : World) (L : List Asr) (h : Star w W (RpA bx s :: PtA b s :: L)) => watch_st h 1 rfl (by omega) (by omega) oo ok on
                have hq := fun (W : World) (L : List Asr) (h : Star w W (RpA bx s :: L)) => watch_rst h 0 rfl (by omega) (by omega) oo ok on
                simp only [List.set_cons_zero, List.set_cons_succ] at hp hq
                have hI := HI.out.watch oo ok on
                obtain ⟨st, s', e⟩ : ∃ st s', watchS s oo ok on = (st, s') := ⟨_, _, rfl⟩
                rw [e] at hp hq hI
                have HP := Lib.hid hp
                have HQ := Lib.hid hq
                have HI2 := Lib.hid hI
                have z1 : (st == st) = true := by simp
                clear hp hq e hI
                go_wp2
                have hk1 : W1.drew.cell? ⟨g0, 1, none⟩ = some (.int .i64 oo) ∧ W1.drew.cell? ⟨g0, 2, none⟩ = some (.int .i64 ok) ∧ W1.drew.cell? ⟨g0, 3, none⟩ = some (.int .i64 on) := ⟨b1, b2, b3⟩
                go_region_held3 (fun w' => w'.cell? ⟨g0, 1, none⟩ = some (.int .i64 oo) ∧ w'.cell? ⟨g0, 2, none⟩ = some (.int .i64 ok) ∧ w'.cell? ⟨g0, 3, none⟩ = some (.int .i64 on)) (first | exact hk3 | exact hk2 | exact hk1)
                  (first
                  | (go_at_call 13; (with_reducible refine (HP.out _ _ (star_dr HS2.out)).mono ?_); rintro e w2 ⟨rfl, hs3⟩
                     have HS3 := Lib.hid hs3
                     have hk2 := HG.out _ _ _ hs3
                     clear hs3)
                  | (go_at_call 23; (with_reducible refine (HQ.out _ _ HS3.out).mono ?_); rintro e w3 ⟨rfl, hs4⟩
                     have HS4 := Lib.hid hs4
                     have hk3 := HG.out _ _ _ hs4
                     clear hs4))
                all_goals
                  go_wp2
                  go_meet
                  case rel => exact ⟨rfl, s', HI2, HS4⟩
              · have y3 : (kd == 3) = false := beq_eq_false_iff_ne.mpr hk3
                by_cases hk4 : kd = 4
                · subst hk4
                  have hp := fun (W : World) (L : List Asr) (h : Star w W (RpA bx s :: PtA b s :: L)) => tell_st h 1 rfl (by omega) oo on
                  have hq := fun (W : World) (L : List Asr) (h : Star w W (RpA bx s :: L)) => tell_rst h 0 rfl (by omega) oo on
                  simp only [List.set_cons_zero, List.set_cons_succ] at hp hq
                  have hI := HI.out.tell oo on
                  obtain ⟨st, s', e⟩ : ∃ st s', tellS s oo on = (st, s') := ⟨_, _, rfl⟩
                  rw [e] at hp hq hI
                  have HP := Lib.hid hp
                  have HQ := Lib.hid hq
                  have HI2 := Lib.hid hI
                  have z1 : (st == st) = true := by simp
                  clear hp hq e hI
                  go_wp2
                  have hk1 : W1.drew.cell? ⟨g0, 1, none⟩ = some (.int .i64 oo) ∧ W1.drew.cell? ⟨g0, 2, none⟩ = some (.int .i64 ok) ∧ W1.drew.cell? ⟨g0, 3, none⟩ = some (.int .i64 on) := ⟨b1, b2, b3⟩
                  go_region_held3 (fun w' => w'.cell? ⟨g0, 1, none⟩ = some (.int .i64 oo) ∧ w'.cell? ⟨g0, 2, none⟩ = some (.int .i64 ok) ∧ w'.cell? ⟨g0, 3, none⟩ = some (.int .i64 on)) (first | exact hk3 | exact hk2 | exact hk1)
                    (first
                    | (go_at_call 14; (with_reducible refine (HP.out _ _ (star_dr HS2.out)).mono ?_); rintro e w2 ⟨rfl, hs3⟩
                       have HS3 := Lib.hid hs3
                       have hk2 := HG.out _ _ _ hs3
                       clear hs3)
                    | (go_at_call 24; (with_reducible refine (HQ.out _ _ HS3.out).mono ?_); rintro e w3 ⟨rfl, hs4⟩
                       have HS4 := Lib.hid hs4
                       have hk3 := HG.out _ _ _ hs4
                       clear hs4))
                  all_goals
                    go_wp2
                    go_meet
                    case rel => exact ⟨rfl, s', HI2, HS4⟩
                · have y4 : (kd == 4) = false := beq_eq_false_iff_ne.mpr hk4
                  by_cases hk5 : kd = 5
                  · subst hk5
                    have hp := fun (W : World) (L : List Asr) (h : Star w W (RpA bx s :: PtA b s :: L)) => cancel_st h 1 rfl (by omega) (by omega) oo ok
                    have hq := fun (W : World) (L : List Asr) (h : Star w W (RpA bx s :: L)) => cancel_rst h 0 rfl (by omega) HI.out.pos oo ok
                    simp only [List.set_cons_zero, List.set_cons_succ] at hp hq
                    have hI := HI.out.cancel oo ok
                    obtain ⟨st, s', e⟩ : ∃ st s', cancelS s oo ok = (st, s') := ⟨_, _, rfl⟩
                    rw [e] at hp hq hI
                    have HP := Lib.hid hp
                    have HQ := Lib.hid hq
                    have HI2 := Lib.hid hI
                    have z1 : (st == st) = true := by simp
                    clear hp hq e hI
                    go_wp2
                    have hk1 : W1.drew.cell? ⟨g0, 1, none⟩ = some (.int .i64 oo) ∧ W1.drew.cell? ⟨g0, 2, none⟩ = some (.int .i64 ok) ∧ W1.drew.cell? ⟨g0, 3, none⟩ = some (.int .i64 on) := ⟨b1, b2, b3⟩
                    go_region_held3 (fun w' => w'.cell? ⟨g0, 1, none⟩ = some (.int .i64 oo) ∧ w'.cell? ⟨g0, 2, none⟩ = some (.int .i64 ok) ∧ w'.cell? ⟨g0, 3, none⟩ = some (.int .i64 on)) (first | exact hk3 | exact hk2 | exact hk1)
                      (first
                      | (go_at_call 18; (with_reducible refine (HP.out _ _ (star_dr HS2.out)).mono ?_); rintro e w2 ⟨rfl, hs3⟩
                         have HS3 := Lib.hid hs3
                         have hk2 := HG.out _ _ _ hs3
                         clear hs3)
                      | (go_at_call 25; (with_reducible refine (HQ.out _ _ HS3.out).mono ?_); rintro e w3 ⟨rfl, hs4⟩
                         have HS4 := Lib.hid hs4
                         have hk3 := HG.out _ _ _ hs4
                         clear hs4))
                    all_goals
                      go_wp2
                      go_meet
                      case rel => exact ⟨rfl, s', HI2, HS4⟩
                  · have y5 : (kd == 5) = false := beq_eq_false_iff_ne.mpr hk5
                    by_cases hk6 : kd = 6
                    · subst hk6
                      have hp := fun (W : World) (L : List Asr) (h : Star w W (RpA bx s :: PtA b s :: L)) => forget_st h 1 rfl (by omega) oo
                      have hq := fun (W : World) (L : List Asr) (h : Star w W (RpA bx s :: L)) => forget_rst h 0 rfl (by omega) oo
                      simp only [List.set_cons_zero, List.set_cons_succ] at hp hq
                      have hI := HI.out.forget oo
                      obtain ⟨st, s', e⟩ : ∃ st s', forgetS s oo = (st, s') := ⟨_, _, rfl⟩
                      rw [e] at hp hq hI
                      have HP := Lib.hid hp
                      have HQ := Lib.hid hq
                      have HI2 := Lib.hid hI
                      have z1 : (st == st) = true := by simp
                      clear hp hq e hI
                      go_wp2
                      have hk1 : W1.drew.cell? ⟨g0, 1, none⟩ = some (.int .i64 oo) ∧ W1.drew.cell? ⟨g0, 2, none⟩ = some (.int .i64 ok) ∧ W1.drew.cell? ⟨g0, 3, none⟩ = some (.int .i64 on) := ⟨b1, b2, b3⟩
                      go_region_held3 (fun w' => w'.cell? ⟨g0, 1, none⟩ = some (.int .i64 oo) ∧ w'.cell? ⟨g0, 2, none⟩ = some (.int .i64 ok) ∧ w'.cell? ⟨g0, 3, none⟩ = some (.int .i64 on)) (first | exact hk3 | exact hk2 | exact hk1)
                        (first
                        | (go_at_call 19; (with_reducible refine (HP.out _ _ (star_dr HS2.out)).mono ?_); rintro e w2 ⟨rfl, hs3⟩
                           have HS3 := Lib.hid hs3
                           have hk2 := HG.out _ _ _ hs3
                           clear hs3)
                        | (go_at_call 26; (with_reducible refine (HQ.out _ _ HS3.out).mono ?_); rintro e w3 ⟨rfl, hs4⟩
                           have HS4 := Lib.hid hs4
                           have hk3 := HG.out _ _ _ hs4
                           clear hs4))
                      all_goals
                        go_wp2
                        go_meet
                        case rel => exact ⟨rfl, s', HI2, HS4⟩
                    · have y6 : (kd == 6) = false := beq_eq_false_iff_ne.mpr hk6
                      clear hk1 hk2 hk3 hk4 hk5 hk6
                      go_wp2
                      go_meet
                      case rel => exact ⟨rfl, s, Lib.hid HI.out.step, HS2⟩
        case rest =>
          clear HS2 b0 b1 b2 b3 hlen hq1 hw1 hqw HI
          obtain ⟨rfl, s, HI, HS⟩ := hcut
          obtain ⟨t, hS⟩ := Star.exOpen (Q := rp bx s) HS.out
          obtain ⟨t0, t2⟩ := t
          obtain ⟨⟨A0, c0, rfl⟩, ⟨A1, c1, rfl⟩⟩ := rp_rows hS
          have hlen := HI.out.len
          obtain ⟨n, en⟩ : ∃ n, n = s.ws.length := ⟨_, rfl⟩
          have EN := Lib.hid en
          obtain ⟨q, eq⟩ : ∃ q, q = s.q.length := ⟨_, rfl⟩
          have EQ := Lib.hid eq
          have hs0 : Star w wc (BlkA bx 50 #[.slice A0 s.q.length c0, .slice A1 s.ws.length c1, .int .i64 s.d, .int .i64 s.m] :: RowO 52 3 (.slice A0 s.q.length c0) s.q.length (t3V s.q) :: RowO 58 3 (.slice A1 s.ws.length c1) s.ws.length (t3V s.ws) :: PtA b s :: [BlkA g0 36 #[.int .i64 kd, .int .i64 oo, .int .i64 ok, .int .i64 on]]) := hS
          rw [← en, ← eq] at hs0
          rw [← en, ← eq] at hlen
          have HS0 := Lib.hid hs0
          have hP := fun (W : World) (X Y Z : Asr) (L : List Asr) (h : Star w W (X :: Y :: Z :: PtA b s :: L)) => packets_st h 3 rfl (by omega)
          have hL := fun (W : World) (X Y Z U : Asr) (L : List Asr) (h : Star w W (X :: Y :: Z :: U :: PtA b s :: L)) => len_st h 4 rfl
          have hWa := fun (W : World) (X Y Z U : Asr) (L : List Asr) (h : Star w W (X :: Y :: Z :: U :: PtA b s :: L)) => watches_st h 4 rfl
          have hWd := fun (W : World) (X Y Z U : Asr) (L : List Asr) (h : Star w W (X :: Y :: Z :: U :: PtA b s :: L)) => watched_st h 4 rfl (by omega) oo
          rw [← eq] at hP hL
          rw [← en] at hWa hWd
          have HP := Lib.hid hP
          have HL := Lib.hid hL
          have HWa := Lib.hid hWa
          have HWd := Lib.hid hWd
          have k1 : wc.cell? ⟨bx, 1, none⟩ = some (.slice A1 n c1) := (hs0.blk 0 rfl).cellv (i := 1) rfl
          have b1 : wc.cell? ⟨g0, 1, none⟩ = some (.int .i64 oo) := (hs0.blk 4 rfl).cellv (i := 1) rfl
          have hn1 : (n : Int) ≤ 121 := by omega
          have hq1 : (q : Int) ≤ 121 := by omega
          have hq2 : q ≤ 121 := by omega
          clear HS hS en eq hlen hs0 hP hL hWa hWd
          go_wp2
          go_loopg [16, 167] n (fun gg2 s16 s167 wx => ∃ j p : Nat, j ≤ n ∧ n - j ≤ gg2 ∧ s167 = .int .i64 j ∧ s16 = .int .i64 p ∧ p ≤ j ∧ Hid (p = watchedN s oo j) ∧ Hid (Star w wx (BlkA bx 50 #[.slice A0 q c0, .slice A1 n c1, .int .i64 s.d, .int .i64 s.m] :: RowO 52 3 (.slice A0 q c0) q (t3V s.q) :: RowO 58 3 (.slice A1 n c1) n (t3V s.ws) :: PtA b s :: [BlkA g0 36 #[.int .i64 kd, .int .i64 oo, .int .i64 ok, .int .i64 on]])))
          case atStart => exact ⟨0, 0, by omega, by omega, rfl, rfl, by omega, Lib.hid (by simp [watchedN]), HS0⟩
          case round =>
            clear HS0 k1 b1
            obtain ⟨j, p, hj, hg2, rfl, rfl, hpj, HM, HS⟩ := hrel
            by_cases hlt2 : j < n
            · obtain ⟨x, hx⟩ : ∃ x, s.ws[j]? = some x := ⟨_, List.getElem?_eq_getElem (by rw [← EN.out]; exact hlt2)⟩
              obtain ⟨g, off, cp, hv, hbg, hgl, hnc⟩ := (HS.out.rowO 2 rfl).form (by omega)
              simp only [Value.slice.injEq, true_and] at hv
              obtain ⟨rfl, rfl⟩ := hv
              obtain ⟨r0, r1, r2⟩ := at3 (HS.out.rowO 2 rfl) EN.out hx
              have hb := HS.out.newBlk 58 #[.int .i64 x.a, .int .i64 x.b, .int .i64 x.c]
              have b1 : (wr.alloc (.cells #[.int .i64 x.a, .int .i64 x.b, .int .i64 x.c] 58)).cell? ⟨g0, 1, none⟩ = some (.int .i64 oo) := (hb.blk 5 rfl).cellv (i := 1) rfl
              have e := watchedN_step (ob := oo) hx
              rw [← HM.out] at e
              have ef : ofP oo x = (x.a == oo) := rfl
              rw [ef] at e
              have HB := Lib.hid hb.tail
              have hjz : (j : Int) < n := by omega
              have hpz : (p : Int) ≤ 121 := by omega
              clear hx hb ef
              by_cases hq : (x.a == oo) = true
              · rw [if_pos hq] at e
                have E := Lib.hid e
                clear e
                go_wp2
                go_roundg (n - (j + 1))
                case measure => omega
                case rel => exact ⟨j + 1, p + 1, by omega, by omega, by go_num, by go_num, by omega, Lib.hid E.out.symm, HB⟩
              · rw [if_neg hq, Nat.add_zero] at e
                have hq' : (x.a == oo) = false := by simpa using hq
                have E := Lib.hid e
                clear e hq
                go_wp2
                go_roundg (n - (j + 1))
                case measure => omega
                case rel => exact ⟨j + 1, p, by omega, by omega, by go_num, rfl, by omega, Lib.hid E.out.symm, HB⟩
            · obtain rfl : j = n := by omega
              have hlt' : ¬ ((j : Int) < j) := by omega
              have hWd2 := HWd.out
              rw [← HM.out] at hWd2
              have HWd2 := Lib.hid hWd2
              have z1 : ((p : Int) != (p : Int)) = false := by simp
              have z2 : ((j : Int) != (j : Int)) = false := by simp
              have z3 : ((q : Int) != (q : Int)) = false := by simp
              have hG3 := fun (W : World) (L : List Asr) (h : Star w W (BlkA bx 50 #[.slice A0 q c0, .slice A1 j c1, .int .i64 s.d, .int .i64 s.m] :: RowO 52 3 (.slice A0 q c0) q (t3V s.q) :: RowO 58 3 (.slice A1 j c1) j (t3V s.ws) :: PtA b s :: [BlkA g0 36 #[.int .i64 kd, .int .i64 oo, .int .i64 ok, .int .i64 on]])) => show W.cell? ⟨bx, 0, none⟩ = some (.slice A0 q c0) ∧ W.cell? ⟨bx, 1, none⟩ = some (.slice A1 j c1) ∧ W.cell? ⟨g0, 1, none⟩ = some (.int .i64 oo) from ⟨(h.blk 0 rfl).cellv rfl, (h.blk 0 rfl).cellv rfl, (h.blk 4 rfl).cellv rfl⟩
              have HG3 := Lib.hid hG3
              clear hlt2 hWd2 HWd hG3
              go_wp2
              have hk1 := HG3.out _ [] (star_dr HS.out)
              go_region_held3 (fun w' => w'.cell? ⟨bx, 0, none⟩ = some (.slice A0 q c0) ∧ w'.cell? ⟨bx, 1, none⟩ = some (.slice A1 j c1) ∧ w'.cell? ⟨g0, 1, none⟩ = some (.int .i64 oo)) (first | exact hk5 | exact hk3 | exact hk2 | exact hk1)
                (first
                | (go_at_call 15; (with_reducible refine (HP.out _ _ _ _ _ (star_dr HS.out)).mono ?_); rintro e w2 ⟨v2, rfl, hs2⟩
                   obtain ⟨A2, c2, rfl⟩ := (hs2.rowO 0 rfl).len
                   have HS2 := Lib.hid hs2
                   have hk2 := HG3.out _ [] hs2.tail
                   have HSM := Lib.hid (same_any (c1 := c2) (c2 := c0) (hs2.readsO 0 rfl) (hs2.readsO 2 rfl) (by omega))
                   clear hs2)
                | (go_at_call 22; (with_reducible refine HSM.out.mono ?_); rintro e w3 ⟨rfl, q3, rfl⟩
                   have HS3 := Lib.hid (HS2.out.drewN q3)
                   have hk3 := HG3.out _ [] HS3.out.tail)
                | (go_at_call 12; (with_reducible refine (HL.out _ _ _ _ _ _ HS3.out).mono ?_); rintro e w4 ⟨rfl, rfl⟩)
                | (go_at_call 16; (with_reducible refine (HWa.out _ _ _ _ _ _ HS3.out).mono ?_); rintro e w4 ⟨rfl, rfl⟩)
                | (go_at_call 17; (with_reducible refine (HWd2.out _ _ _ _ _ _ HS3.out).mono ?_); rintro e w5 ⟨rfl, hs5⟩
                   have HS5 := Lib.hid hs5
                   have hk5 := HG3.out _ [] hs5.tail
                   clear hs5))
              all_goals
                go_wp2
                go_roundg (l.length - (k + 1))
                case measure => omega
                case rel =>
                  refine ⟨k + 1, s, by omega, by omega, by go_num, HI, Lib.hid ?_⟩
                  refine Star.exClose (Q := rp bx s) (S := [PtA b s]) (.slice A0 q c0, .slice A1 j c1) ?_
                  show Star w _ (BlkA bx 50 #[.slice A0 q c0, .slice A1 j c1, .int .i64 s.d, .int .i64 s.m] :: RowO 52 3 (.slice A0 q c0) s.q.length (t3V s.q) :: RowO 58 3 (.slice A1 j c1) s.ws.length (t3V s.ws) :: [PtA b s])
                  rw [← EN.out, ← EQ.out]
                  exact Star.unlast (L := [BlkA bx 50 #[.slice A0 q c0, .slice A1 j c1, .int .i64 s.d, .int .i64 s.m], RowO 52 3 (.slice A0 q c0) q (t3V s.q), RowO 58 3 (.slice A1 j c1) j (t3V s.ws), PtA b s]) HS5.out.tail
      · obtain rfl : k = l.length := by omega
        have hlt' : ¬ ((l.length : Int) < l.length) := by omega
        clear hlt
        go_wp2_with (first
          | (go_at_call 9; (with_reducible refine (HA.out _).mono ?_); rintro e w6 ⟨rfl, hb6⟩))
        go_ret
        rw [← HB0.out]
        exact ⟨rfl, HS.out.below.trans (hb6.mono HS.out.below.size)⟩
theorem plays_row (dp : Int) (hdp : (Lit.int .i64 dp).wf = true) (mp : Int) (hmp : (Lit.int .i64 mp).wf = true) (A : Option Addr) (c : Nat) (l : List (List Int)) (w : World) (hr : Reads w w.heap.size 4 A l.length (opsV l)) (hm : l.length ≤ maxLen) (hl4 : ∀ r ∈ l, r.length = 4 ∧ ∀ x ∈ r, (Lit.int .i64 x).wf = true) :
    Calls Try.prog 7 #[.int .i64 dp, .int .i64 mp, .slice A l.length c] w fun e w' => e = .returned (.bool true) ∧ Below w.heap.size w w' := by
  by_cases h : dp < 1 ∨ 65536 < dp ∨ mp < 0 ∨ 65536 < mp
  · exact plays_bad dp mp A c _ h w
  · obtain ⟨d, rfl⟩ : ∃ k : Nat, dp = k := ⟨dp.toNat, by omega⟩
    obtain ⟨m, rfl⟩ : ∃ k : Nat, mp = k := ⟨mp.toNat, by omega⟩
    exact plays_main d m A c l w (by omega) (by omega) (by omega) hr hl4
end Go.Proofs.Ytjkgkoilabbdgaa.Pt
