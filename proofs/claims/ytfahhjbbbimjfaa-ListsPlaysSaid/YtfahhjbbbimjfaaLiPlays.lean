/- The walk of ListsPlays. -/
import Derived.Test.YtfahhjbbbimjfaaLiPlA
import Derived.Test.YtfahhjbbbimjfaaAgg
import Derived.Deep.CutBlock
import Derived.Deep.CutRange
import Derived.Deep.RegionHeld3
namespace Go.Proofs.Ytfahhjbbbimjfaa.Li
open Go Go.RowKit Go.Proofs.Ytfahhjbbbimjfaa.Mem
set_option linter.unusedVariables false
set_option linter.unusedSimpArgs false
theorem pushLen {L : List (List Nat)} {m : Nat} (q i : Int) : (pushS L m q i).2.length = L.length := by unfold pushS; split <;> simp
theorem frontLen {L : List (List Nat)} {m : Nat} (q i : Int) : (frontS L m q i).2.length = L.length := by unfold frontS; split <;> simp
theorem removeLen {L : List (List Nat)} {m : Nat} (i : Int) : (removeS L m i).2.length = L.length := by unfold removeS; split <;> (try split) <;> simp [dropL_len]
theorem popLen {L : List (List Nat)} (q : Int) : (popS L q).2.2.length = L.length := by unfold popS; split <;> (try split) <;> simp [dropL_len]
theorem spliceLen {L : List (List Nat)} (t f : Int) : (spliceS L t f).2.length = L.length := by unfold spliceS; split <;> simp
set_option maxRecDepth 8000 in
set_option maxHeartbeats 16000000 in
theorem plays_main (n m : Nat) (A : Option Addr) (c : Nat) (l : List (List Int)) (w : World) (hn : n ≤ 20) (hm : m ≤ 65536) (hl2 : l.length ≤ 150) (hr : Reads w w.heap.size 3 A l.length (l.map (·.map (Value.int .i64))).flatten) (hl3 : ∀ r ∈ l, r.length = 3 ∧ ∀ x ∈ r, (Lit.int .i64 x).wf = true) :
    Calls Try.prog 5 #[.int .i64 n, .int .i64 m, .slice A l.length c] w fun e w' => e = .returned (.bool true) ∧ Below w.heap.size w w' := by
  have HA := Lib.hid awake_any
  have HN := Lib.hid (new_st (Star.nil w) (n := n) (m := m) (by omega) hm)
  have hmk := make_s n (by omega)
  have HR := Lib.hid hr
  clear hr
  go_enter Try.func5, Try.ntmps5
  go_wp2_with (first
    | (go_at_call 8; (with_reducible refine HN.out.mono ?_); rintro e w1 ⟨b, rfl, hs1⟩
       have HS1 := Lib.hid (rf_new hs1 n m (by omega))
       clear hs1))
  clear hmk HN
  generalize w1.heap.size + 1 = bx at *
  generalize (Value.slice (some ⟨w1.heap.size, 0, none⟩) n n) = vQ at *
  go_loopw [64] (fun i wr => ∃ (k : Nat) (L : List (List Nat)) (vs : List Value), k ≤ l.length ∧ i = .int .i64 k ∧ L.length = n ∧ Hid (Star w wr (rf bx vQ vs L m [LzA b L m]))) (fun i _ => l.length - (intOf i).toNat)
  case atStart => exact ⟨0, _, _, by omega, rfl, by simp, HS1⟩
  case round =>
    clear HS1
    obtain ⟨k, L, vs, hk, rfl, hLn, HS⟩ := hrel
    by_cases hlt : k < l.length
    · obtain ⟨ad, rfl, had, hcl⟩ := (HR.out.below HS.out.below).row (k := k) (r := l[k].map (Value.int .i64)) (fun r hr => by
        obtain ⟨r0, hr0, rfl⟩ := List.mem_map.1 hr
        rw [List.length_map]
        exact (hl3 r0 hr0).1) hlt (by simp [List.getElem?_eq_getElem hlt])
      obtain ⟨kd, qq, ii, hrow⟩ := three_of (hl3 l[k] (List.getElem_mem _)).1
      rw [hrow] at hcl
      simp only [List.map_cons, List.map_nil] at hcl
      have HCL := Lib.hid hcl
      clear hcl had hrow
      go_upto_region 10 with (first
        | (with_reducible refine wpList_load_add rfl 40 (.tmp 66) rfl _ rfl [.int .i64 kd, .int .i64 qq, .int .i64 ii] _ HCL.out Try.underlying40 rfl (by kernel_rfl) ?_)
        | (with_reducible refine wpList_box_st rfl 40 (.tmp 10) (.tmp 67) rfl HS.out #[.int .i64 kd, .int .i64 qq, .int .i64 ii] rfl rfl (by kernel_rfl) rfl (by simp [Value.oneCell']) ?_
           intro W1 hs1))
      obtain ⟨g0, eg0⟩ : ∃ g, g = wr.heap.size := ⟨_, rfl⟩
      rw [← eg0] at hs1 ⊢
      have hs2 : Star w W1 (rf bx vQ vs L m [LzA b L m, BlkA g0 40 #[.int .i64 kd, .int .i64 qq, .int .i64 ii]]) := hs1.last
      have b0 : W1.cell? ⟨g0, 0, none⟩ = some (.int .i64 kd) := (hs2.blk 4 rfl).cellv rfl
      have b1 : W1.cell? ⟨g0, 1, none⟩ = some (.int .i64 qq) := (hs2.blk 4 rfl).cellv rfl
      have b2 : W1.cell? ⟨g0, 2, none⟩ = some (.int .i64 ii) := (hs2.blk 4 rfl).cellv rfl
      have hwf := (Star.wf hs2 3 rfl).1
      have hLs : L.length ≤ 65536 := by omega
      have HS2 := Lib.hid hs2
      have hG := fun (W : World) (vs' : List Value) (L' L'' : List (List Nat)) (h : Star w W (rf bx vQ vs' L' m [LzA b L'' m, BlkA g0 40 #[.int .i64 kd, .int .i64 qq, .int .i64 ii]])) => show W.cell? ⟨g0, 1, none⟩ = some (.int .i64 qq) ∧ W.cell? ⟨g0, 2, none⟩ = some (.int .i64 ii) from ⟨(h.blk 4 rfl).cellv rfl, (h.blk 4 rfl).cellv rfl⟩
      have HG := Lib.hid hG
      clear hs1 hs2 HS HCL hG eg0
      go_upto_block 2 with fail
      go_cut [64] from 64 to 207 (fun i wx => i = .int .i64 k ∧ ∃ L' vs', L'.length = n ∧ Hid (Star w wx (rf bx vQ vs' L' m [LzA b L' m, BlkA g0 40 #[.int .i64 kd, .int .i64 qq, .int .i64 ii]])))
      case first =>
        by_cases hk1 : kd = 1
        · subst hk1
          have hp := fun (W : World) (h : Star w W (rf bx vQ vs L m [LzA b L m, BlkA g0 40 #[.int .i64 1, .int .i64 qq, .int .i64 ii]])) => push_st h 3 rfl qq ii
          have hq := fun (W : World) (h : Star w W (rf bx vQ vs L m [LzA b (pushS L m qq ii).2 m, BlkA g0 40 #[.int .i64 1, .int .i64 qq, .int .i64 ii]])) => rpush h hwf hLs hm qq ii
          have hL' := (pushLen (m := m) qq ii).trans hLn
          obtain ⟨st, L', e⟩ : ∃ st L', pushS L m qq ii = (st, L') := ⟨_, _, rfl⟩
          rw [e] at hp hq hL'
          have HP := Lib.hid hp
          have HQ := Lib.hid hq
          have z1 : (st != st) = false := by simp
          clear hp hq e hwf
          go_wp2
          have hk1 : W1.drew.cell? ⟨g0, 1, none⟩ = some (.int .i64 qq) ∧ W1.drew.cell? ⟨g0, 2, none⟩ = some (.int .i64 ii) := ⟨b1, b2⟩
          go_region_held3 (fun w' => w'.cell? ⟨g0, 1, none⟩ = some (.int .i64 qq) ∧ w'.cell? ⟨g0, 2, none⟩ = some (.int .i64 ii)) (first | exact hk3 | exact hk2 | exact hk1)
            (first
            | (go_at_call 9; (with_reducible refine (HP.out _ (star_drew HS2.out)).mono ?_); rintro e w2 ⟨rfl, hs3⟩
               have HS3 := Lib.hid hs3
               have hk2 := HG.out _ _ _ _ hs3
               clear hs3)
            | (go_at_call 17; (with_reducible refine (HQ.out _ HS3.out).mono ?_); rintro e w3 ⟨rfl, vs', hs4⟩
               have HS4 := Lib.hid hs4
               have hk3 := HG.out _ _ _ _ hs4
               clear hs4))
          all_goals
            go_wp2
            go_meet
            case rel => exact ⟨rfl, _, _, hL', HS4⟩
        · by_cases hk2 : kd = 2
          · subst hk2
            have hp := fun (W : World) (h : Star w W (rf bx vQ vs L m [LzA b L m, BlkA g0 40 #[.int .i64 2, .int .i64 qq, .int .i64 ii]])) => front_st h 3 rfl qq ii
            have hq := fun (W : World) (h : Star w W (rf bx vQ vs L m [LzA b (frontS L m qq ii).2 m, BlkA g0 40 #[.int .i64 2, .int .i64 qq, .int .i64 ii]])) => rfront h hwf hLs hm qq ii
            have hL' := (frontLen (m := m) qq ii).trans hLn
            obtain ⟨st, L', e⟩ : ∃ st L', frontS L m qq ii = (st, L') := ⟨_, _, rfl⟩
            rw [e] at hp hq hL'
            have HP := Lib.hid hp
            have HQ := Lib.hid hq
            have z1 : (st != st) = false := by simp
            clear hp hq e hwf
            go_wp2
            have hk1 : W1.drew.cell? ⟨g0, 1, none⟩ = some (.int .i64 qq) ∧ W1.drew.cell? ⟨g0, 2, none⟩ = some (.int .i64 ii) := ⟨b1, b2⟩
            go_region_held3 (fun w' => w'.cell? ⟨g0, 1, none⟩ = some (.int .i64 qq) ∧ w'.cell? ⟨g0, 2, none⟩ = some (.int .i64 ii)) (first | exact hk3 | exact hk2 | exact hk1)
              (first
              | (go_at_call 13; (with_reducible refine (HP.out _ (star_drew HS2.out)).mono ?_); rintro e w2 ⟨rfl, hs3⟩
                 have HS3 := Lib.hid hs3
                 have hk2 := HG.out _ _ _ _ hs3
                 clear hs3)
              | (go_at_call 18; (with_reducible refine (HQ.out _ HS3.out).mono ?_); rintro e w3 ⟨rfl, vs', hs4⟩
                 have HS4 := Lib.hid hs4
                 have hk3 := HG.out _ _ _ _ hs4
                 clear hs4))
            all_goals
              go_wp2
              go_meet
              case rel => exact ⟨rfl, _, _, hL', HS4⟩
          · by_cases hk3 : kd = 3
            · subst hk3
              have hp := pop_st HS2.out 3 rfl qq
              have hq := fun (W : World) (h : Star w W (rf bx vQ vs L m [LzA b (popS L qq).2.2 m, BlkA g0 40 #[.int .i64 3, .int .i64 qq, .int .i64 ii]])) => rpop h hwf hLs hm qq
              have hL' := (popLen qq).trans hLn
              obtain ⟨it, st, L', e⟩ : ∃ it st L', popS L qq = (it, st, L') := ⟨_, _, _, rfl⟩
              rw [e] at hp hq hL'
              have HP := Lib.hid hp
              have HQ := Lib.hid hq
              have z1 : (st != st) = false := by simp
              have z2 : (it != it) = false := by simp
              clear hp hq e hwf
              go_wp2_with (first
                | (go_at_call 19; (with_reducible refine HP.out.mono ?_); rintro e w2 ⟨rfl, hs3⟩
                   have HS3 := Lib.hid hs3
                   have hk2 := HG.out _ _ _ _ hs3
                   obtain ⟨b1', b2'⟩ := hk2
                   clear hs3)
                | (go_at_call 20; (with_reducible refine (HQ.out _ HS3.out).mono ?_); rintro e w3 ⟨rfl, vs', hs4⟩
                   have HS4 := Lib.hid hs4
                   clear hs4))
              go_meet
              case rel => exact ⟨rfl, _, _, hL', HS4⟩
            · by_cases hk4 : kd = 4
              · subst hk4
                have hp := fun (W : World) (h : Star w W (rf bx vQ vs L m [LzA b L m, BlkA g0 40 #[.int .i64 4, .int .i64 qq, .int .i64 ii]])) => remove_st h 3 rfl ii
                have hq := fun (W : World) (h : Star w W (rf bx vQ vs L m [LzA b (removeS L m ii).2 m, BlkA g0 40 #[.int .i64 4, .int .i64 qq, .int .i64 ii]])) => rremove h hwf hLs hm ii
                have hL' := (removeLen (m := m) ii).trans hLn
                obtain ⟨st, L', e⟩ : ∃ st L', removeS L m ii = (st, L') := ⟨_, _, rfl⟩
                rw [e] at hp hq hL'
                have HP := Lib.hid hp
                have HQ := Lib.hid hq
                have z1 : (st != st) = false := by simp
                clear hp hq e hwf
                go_wp2
                have hk1 : W1.drew.cell? ⟨g0, 1, none⟩ = some (.int .i64 qq) ∧ W1.drew.cell? ⟨g0, 2, none⟩ = some (.int .i64 ii) := ⟨b1, b2⟩
                go_region_held3 (fun w' => w'.cell? ⟨g0, 1, none⟩ = some (.int .i64 qq) ∧ w'.cell? ⟨g0, 2, none⟩ = some (.int .i64 ii)) (first | exact hk3 | exact hk2 | exact hk1)
                  (first
                  | (go_at_call 16; (with_reducible refine (HP.out _ (star_drew HS2.out)).mono ?_); rintro e w2 ⟨rfl, hs3⟩
                     have HS3 := Lib.hid hs3
                     have hk2 := HG.out _ _ _ _ hs3
                     clear hs3)
                  | (go_at_call 21; (with_reducible refine (HQ.out _ HS3.out).mono ?_); rintro e w3 ⟨rfl, vs', hs4⟩
                     have HS4 := Lib.hid hs4
                     have hk3 := HG.out _ _ _ _ hs4
                     clear hs4))
                all_goals
                  go_wp2
                  go_meet
                  case rel => exact ⟨rfl, _, _, hL', HS4⟩
              · by_cases hk5 : kd = 5
                · subst hk5
                  have hp := fun (W : World) (h : Star w W (rf bx vQ vs L m [LzA b L m, BlkA g0 40 #[.int .i64 5, .int .i64 qq, .int .i64 ii]])) => splice_st h 3 rfl qq ii
                  have hq := fun (W : World) (h : Star w W (rf bx vQ vs L m [LzA b (spliceS L qq ii).2 m, BlkA g0 40 #[.int .i64 5, .int .i64 qq, .int .i64 ii]])) => rsplice h hwf hLs hm qq ii
                  have hL' := (spliceLen qq ii).trans hLn
                  obtain ⟨st, L', e⟩ : ∃ st L', spliceS L qq ii = (st, L') := ⟨_, _, rfl⟩
                  rw [e] at hp hq hL'
                  have HP := Lib.hid hp
                  have HQ := Lib.hid hq
                  have z1 : (st != st) = false := by simp
                  clear hp hq e hwf
                  go_wp2
                  have hk1 : W1.drew.cell? ⟨g0, 1, none⟩ = some (.int .i64 qq) ∧ W1.drew.cell? ⟨g0, 2, none⟩ = some (.int .i64 ii) := ⟨b1, b2⟩
                  go_region_held3 (fun w' => w'.cell? ⟨g0, 1, none⟩ = some (.int .i64 qq) ∧ w'.cell? ⟨g0, 2, none⟩ = some (.int .i64 ii)) (first | exact hk3 | exact hk2 | exact hk1)
                    (first
                    | (go_at_call 22; (with_reducible refine (HP.out _ (star_drew HS2.out)).mono ?_); rintro e w2 ⟨rfl, hs3⟩
                       have HS3 := Lib.hid hs3
                       have hk2 := HG.out _ _ _ _ hs3
                       clear hs3)
                    | (go_at_call 23; (with_reducible refine (HQ.out _ HS3.out).mono ?_); rintro e w3 ⟨rfl, vs', hs4⟩
                       have HS4 := Lib.hid hs4
                       have hk3 := HG.out _ _ _ _ hs4
                       clear hs4))
                  all_goals
                    go_wp2
                    go_meet
                    case rel => exact ⟨rfl, _, _, hL', HS4⟩
                · have z1 : (kd == 1) = false := beq_eq_false_iff_ne.mpr hk1
                  have z2 : (kd == 2) = false := beq_eq_false_iff_ne.mpr hk2
                  have z3 : (kd == 3) = false := beq_eq_false_iff_ne.mpr hk3
                  have z4 : (kd == 4) = false := beq_eq_false_iff_ne.mpr hk4
                  have z5 : (kd == 5) = false := beq_eq_false_iff_ne.mpr hk5
                  clear hk1 hk2 hk3 hk4 hk5 hwf
                  go_wp2
                  go_meet
                  case rel => exact ⟨rfl, _, _, hLn, HS2⟩
      case rest =>
        clear b0 b1 b2 hwf hLs HS2 hLn
        obtain ⟨rfl, L2, vs2, hLn, HS⟩ := hcut
        obtain ⟨-, b2⟩ := HG.out _ _ _ _ HS.out
        have hwf := (Star.wf HS.out 3 rfl).1
        have HW := Lib.hid hwf
        have hLs : L2.length ≤ 65536 := by omega
        obtain ⟨x, hx⟩ : ∃ x, x = whereS L2 m ii := ⟨_, rfl⟩
        have hWh := where_st HS.out 3 rfl ii
        rw [← hx] at hWh
        have HWh := Lib.hid hWh
        have hRw : Hid ((0 ≤ ii ∧ ii < m → Calls Try.prog 24 #[.pointer (some ⟨bx, 0, none⟩), .int .i64 ii] wc fun e w' => e = .returned (.int .i64 x) ∧ wc = w')) := Lib.hid (fun hi => by
          obtain ⟨i, rfl⟩ : ∃ n : Nat, ii = n := ⟨ii.toNat, by omega⟩
          have h1 := rwhere HS.out hwf hLs hm i
          rw [show whr L2 i = x by rw [hx]; unfold whereS; rw [if_pos (show okI m (i : Int) from hi), Int.toNat_natCast]] at h1
          exact h1)
        have hx1 : ¬ (0 ≤ ii ∧ ii < m) → x = -1 := fun hi => by rw [hx]; unfold whereS; rw [if_neg (show ¬ okI m ii from hi)]
        have z1 : (x != x) = false := by simp
        obtain ⟨AQ, cQ, hvQ⟩ := rf_size HS.out
        rw [hLn] at hvQ
        have k0 := (rf_cells HS.out).1
        clear hWh hwf hx
        rw [hvQ] at k0
        have HvQ := Lib.hid hvQ
        clear hvQ
        by_cases hi : 0 ≤ ii ∧ ii < m
        · obtain ⟨h1, h2⟩ := hi
          have HRw := Lib.hid (hRw.out ⟨h1, h2⟩)
          clear hRw hx1
          go_wp2_with (first
            | (go_at_call 24; (with_reducible refine HRw.out.mono ?_); rintro e w5 ⟨rfl, rfl⟩)
            | (go_at_call 14; (with_reducible refine HWh.out.mono ?_); rintro e w6 ⟨rfl, rfl⟩))
          go_loopw [174] (fun a wx => ∃ q : Nat, q ≤ n ∧ a = .int .i64 q ∧ Hid (Star w wx (rf bx vQ vs2 L2 m [LzA b L2 m, BlkA g0 40 #[.int .i64 kd, .int .i64 qq, .int .i64 ii]]))) (fun a _ => n - (intOf a).toNat)
          case atStart => exact ⟨0, by omega, rfl, HS⟩
          case round =>
            clear HS HWh b2 k0
            obtain ⟨q, hq, rfl, HS⟩ := hrel
            by_cases hltq : q < n
            · obtain ⟨lq, hlq⟩ : ∃ x, L2[q]? = some x := ⟨_, List.getElem?_eq_getElem (by omega)⟩
              obtain ⟨Aq, cq, hv, ho⟩ := rf_at HS.out hlq
              obtain ⟨g, cg, hQ, dq, -, -⟩ := rf_row HS.out hv (by omega)
              have hQ2 := HvQ.out.symm.trans hQ
              simp only [Value.slice.injEq] at hQ2
              obtain ⟨rfl, -, rfl⟩ := hQ2
              have hgq : okQ L2 (q : Int) := ⟨by omega, by omega⟩
              have hll : lq.length ≤ 65536 := Nat.le_trans (nodup_le m lq (HW.out.nd q lq hlq) (fun y hy => HW.out.lt q lq y hlq hy)) hm
              have hls : listS L2 (q : Int) = lq := by unfold listS; rw [if_pos hgq, getQ_at hlq]
              have hln : lenS L2 (q : Int) = lq.length := by unfold lenS; rw [if_pos hgq, getQ_at hlq]
              have hfs : firstS L2 (q : Int) = hdI lq (-1) := by unfold firstS; rw [if_pos hgq, getQ_at hlq]
              have hI := list_st HS.out 3 rfl (q : Int)
              rw [hls] at hI
              have hL := len_st HS.out 3 rfl (q : Int)
              rw [hln] at hL
              have hF := first_st HS.out 3 rfl (q : Int)
              rw [hfs] at hF
              have hC := fun (W : World) (A4 : Option Addr) (c4 : Nat) (h : Star w W (RowA 3 1 (.slice A4 lq.length c4) lq.length (intsN lq) :: rf bx vQ vs2 L2 m [LzA b L2 m, BlkA g0 40 #[.int .i64 kd, .int .i64 qq, .int .i64 ii]])) => ints_rd (c := c4) (c' := cq) (h.reads 0 rfl) (rf_reads h.tail hlq hv rfl) rfl hll
              have hrd := rf_reads HS.out hlq hv rfl
              have hq0 : (0 : Int) ≤ q := by omega
              have hqn : (q : Int) < n := by omega
              clear hls hln hfs hgq ho hQ hv hlq
              cases lq with
              | nil =>
                rw [show hdI ([] : List Nat) (-1) = -1 from rfl] at hF
                simp only [List.length_nil] at hI hL hC dq hll
                have HI := Lib.hid hI
                have HL := Lib.hid hL
                have HF := Lib.hid hF
                have HC := Lib.hid hC
                clear hI hL hF hC hrd
                go_wp2_with (first
                  | (go_at_call 10; (with_reducible refine HL.out.mono ?_); rintro e w6 ⟨rfl, rfl⟩)
                  | (go_at_call 25; (with_reducible refine HF.out.mono ?_); rintro e w6 ⟨rfl, rfl⟩)
                  | (go_at_call 12; (with_reducible refine HI.out.mono ?_); rintro e w4 ⟨v4, rfl, hs4⟩
                     obtain ⟨A4, c4, rfl⟩ := own_len (hs4.row 0 rfl)
                     have HS4 := Lib.hid hs4
                     clear hs4)
                  | (go_at_call 11; (with_reducible refine (HC.out _ _ _ HS4.out).mono ?_); rintro e w7 ⟨rfl, d7, rfl⟩))
                go_roundw
                case rel => exact ⟨q + 1, by omega, by go_num, Lib.hid (HS4.out.tail.drewN d7)⟩
                case measure => simp [intOf]; omega
              | cons y lq =>
                rw [show hdI (y :: lq) (-1) = (y : Int) from rfl] at hF
                obtain ⟨ad, u, rfl, had, hx, hcl⟩ := hrd.at_ (show 0 < (y :: lq).length by simp)
                obtain rfl : u = .int .i64 (y : Int) := by
                  simp [intsN] at hx
                  exact hx.symm
                have e1 : ad.add 0 = ad := by unfold Addr.add; split <;> simp_all
                rw [e1] at hcl
                have hn1 : 0 < (y :: lq).length := by simp
                have HI := Lib.hid hI
                have HL := Lib.hid hL
                have HF := Lib.hid hF
                have HC := Lib.hid hC
                clear hI hL hF hC hrd hx e1
                generalize (y :: lq).length = n2 at *
                have zz : ((n2 : Int) != (n2 : Int)) = false := by simp
                have zy : ((y : Int) != (y : Int)) = false := by simp
                have hn2 : (0 : Int) < n2 := by omega
                go_wp2_with (first
                  | (go_at_call 10; (with_reducible refine HL.out.mono ?_); rintro e w6 ⟨rfl, rfl⟩)
                  | (go_at_call 25; (with_reducible refine HF.out.mono ?_); rintro e w6 ⟨rfl, rfl⟩)
                  | (go_at_call 12; (with_reducible refine HI.out.mono ?_); rintro e w4 ⟨v4, rfl, hs4⟩
                     obtain ⟨A4, c4, rfl⟩ := own_len (hs4.row 0 rfl)
                     have HS4 := Lib.hid hs4
                     clear hs4)
                  | (go_at_call 11; (with_reducible refine (HC.out _ _ _ HS4.out).mono ?_); rintro e w7 ⟨rfl, d7, rfl⟩))
                go_roundw
                case rel => exact ⟨q + 1, by omega, by go_num, Lib.hid (HS4.out.tail.drewN d7)⟩
                case measure => simp [intOf]; omega
            · obtain rfl : q = n := by omega
              go_wp2
              go_roundw
              case rel => exact ⟨k + 1, L2, vs2, by omega, by go_num, hLn, Lib.hid (Star.unlast (L := rf bx vQ vs2 L2 m [LzA b L2 m]) HS.out)⟩
              case measure => simp [intOf]; omega
        · obtain rfl : x = -1 := hx1 hi
          have hb : ii < 0 ∨ (0 ≤ ii ∧ (m : Int) ≤ ii) := by omega
          clear hRw hx1 hi
          rcases hb with h1 | ⟨h1, h2⟩
          all_goals
            go_wp2_with (first
              | (go_at_call 14; (with_reducible refine HWh.out.mono ?_); rintro e w6 ⟨rfl, rfl⟩))
            go_loopw [174] (fun a wx => ∃ q : Nat, q ≤ n ∧ a = .int .i64 q ∧ Hid (Star w wx (rf bx vQ vs2 L2 m [LzA b L2 m, BlkA g0 40 #[.int .i64 kd, .int .i64 qq, .int .i64 ii]]))) (fun a _ => n - (intOf a).toNat)
            case atStart => exact ⟨0, by omega, rfl, HS⟩
            case round =>
              clear HS HWh b2 k0
              obtain ⟨q, hq, rfl, HS⟩ := hrel
              by_cases hltq : q < n
              · obtain ⟨lq, hlq⟩ : ∃ x, L2[q]? = some x := ⟨_, List.getElem?_eq_getElem (by omega)⟩
                obtain ⟨Aq, cq, hv, ho⟩ := rf_at HS.out hlq
                obtain ⟨g, cg, hQ, dq, -, -⟩ := rf_row HS.out hv (by omega)
                have hQ2 := HvQ.out.symm.trans hQ
                simp only [Value.slice.injEq] at hQ2
                obtain ⟨rfl, -, rfl⟩ := hQ2
                have hgq : okQ L2 (q : Int) := ⟨by omega, by omega⟩
                have hll : lq.length ≤ 65536 := Nat.le_trans (nodup_le m lq (HW.out.nd q lq hlq) (fun y hy => HW.out.lt q lq y hlq hy)) hm
                have hls : listS L2 (q : Int) = lq := by unfold listS; rw [if_pos hgq, getQ_at hlq]
                have hln : lenS L2 (q : Int) = lq.length := by unfold lenS; rw [if_pos hgq, getQ_at hlq]
                have hfs : firstS L2 (q : Int) = hdI lq (-1) := by unfold firstS; rw [if_pos hgq, getQ_at hlq]
                have hI := list_st HS.out 3 rfl (q : Int)
                rw [hls] at hI
                have hL := len_st HS.out 3 rfl (q : Int)
                rw [hln] at hL
                have hF := first_st HS.out 3 rfl (q : Int)
                rw [hfs] at hF
                have hC := fun (W : World) (A4 : Option Addr) (c4 : Nat) (h : Star w W (RowA 3 1 (.slice A4 lq.length c4) lq.length (intsN lq) :: rf bx vQ vs2 L2 m [LzA b L2 m, BlkA g0 40 #[.int .i64 kd, .int .i64 qq, .int .i64 ii]])) => ints_rd (c := c4) (c' := cq) (h.reads 0 rfl) (rf_reads h.tail hlq hv rfl) rfl hll
                have hrd := rf_reads HS.out hlq hv rfl
                have hq0 : (0 : Int) ≤ q := by omega
                have hqn : (q : Int) < n := by omega
                clear hls hln hfs hgq ho hQ hv hlq
                cases lq with
                | nil =>
                  rw [show hdI ([] : List Nat) (-1) = -1 from rfl] at hF
                  simp only [List.length_nil] at hI hL hC dq hll
                  have HI := Lib.hid hI
                  have HL := Lib.hid hL
                  have HF := Lib.hid hF
                  have HC := Lib.hid hC
                  clear hI hL hF hC hrd
                  go_wp2_with (first
                    | (go_at_call 10; (with_reducible refine HL.out.mono ?_); rintro e w6 ⟨rfl, rfl⟩)
                    | (go_at_call 25; (with_reducible refine HF.out.mono ?_); rintro e w6 ⟨rfl, rfl⟩)
                    | (go_at_call 12; (with_reducible refine HI.out.mono ?_); rintro e w4 ⟨v4, rfl, hs4⟩
                       obtain ⟨A4, c4, rfl⟩ := own_len (hs4.row 0 rfl)
                       have HS4 := Lib.hid hs4
                       clear hs4)
                    | (go_at_call 11; (with_reducible refine (HC.out _ _ _ HS4.out).mono ?_); rintro e w7 ⟨rfl, d7, rfl⟩))
                  go_roundw
                  case rel => exact ⟨q + 1, by omega, by go_num, Lib.hid (HS4.out.tail.drewN d7)⟩
                  case measure => simp [intOf]; omega
                | cons y lq =>
                  rw [show hdI (y :: lq) (-1) = (y : Int) from rfl] at hF
                  obtain ⟨ad, u, rfl, had, hx, hcl⟩ := hrd.at_ (show 0 < (y :: lq).length by simp)
                  obtain rfl : u = .int .i64 (y : Int) := by
                    simp [intsN] at hx
                    exact hx.symm
                  have e1 : ad.add 0 = ad := by unfold Addr.add; split <;> simp_all
                  rw [e1] at hcl
                  have hn1 : 0 < (y :: lq).length := by simp
                  have HI := Lib.hid hI
                  have HL := Lib.hid hL
                  have HF := Lib.hid hF
                  have HC := Lib.hid hC
                  clear hI hL hF hC hrd hx e1
                  generalize (y :: lq).length = n2 at *
                  have zz : ((n2 : Int) != (n2 : Int)) = false := by simp
                  have zy : ((y : Int) != (y : Int)) = false := by simp
                  have hn2 : (0 : Int) < n2 := by omega
                  go_wp2_with (first
                    | (go_at_call 10; (with_reducible refine HL.out.mono ?_); rintro e w6 ⟨rfl, rfl⟩)
                    | (go_at_call 25; (with_reducible refine HF.out.mono ?_); rintro e w6 ⟨rfl, rfl⟩)
                    | (go_at_call 12; (with_reducible refine HI.out.mono ?_); rintro e w4 ⟨v4, rfl, hs4⟩
                       obtain ⟨A4, c4, rfl⟩ := own_len (hs4.row 0 rfl)
                       have HS4 := Lib.hid hs4
                       clear hs4)
                    | (go_at_call 11; (with_reducible refine (HC.out _ _ _ HS4.out).mono ?_); rintro e w7 ⟨rfl, d7, rfl⟩))
                  go_roundw
                  case rel => exact ⟨q + 1, by omega, by go_num, Lib.hid (HS4.out.tail.drewN d7)⟩
                  case measure => simp [intOf]; omega
              · obtain rfl : q = n := by omega
                go_wp2
                go_roundw
                case rel => exact ⟨k + 1, L2, vs2, by omega, by go_num, hLn, Lib.hid (Star.unlast (L := rf bx vQ vs2 L2 m [LzA b L2 m]) HS.out)⟩
                case measure => simp [intOf]; omega
    · obtain rfl : k = l.length := by omega
      have hwf := (Star.wf HS.out 3 rfl).1
      have hF := first_st HS.out 3 rfl (n : Int)
      rw [show firstS L (n : Int) = -1 from if_neg (by unfold okQ; omega)] at hF
      have HF := Lib.hid hF
      have hE := len_st HS.out 3 rfl (-1)
      rw [show lenS L (-1) = 0 from if_neg (by unfold okQ; omega)] at hE
      have HE := Lib.hid hE
      have hI := list_st HS.out 3 rfl (n : Int)
      rw [show listS L (n : Int) = [] from if_neg (by unfold okQ; omega)] at hI
      have HI := Lib.hid hI
      have hX := fun (W : World) (v : Value) (h : Star w W (RowA 3 1 v 0 [] :: rf bx vQ vs L m [LzA b L m])) => where_st h 4 rfl (m : Int)
      rw [show whereS L m (m : Int) = -1 from if_neg (by unfold okI; omega)] at hX
      have HX := Lib.hid hX
      clear hF hE hI hX hwf
      go_wp2_with (first
        | (go_at_call 25; (with_reducible refine HF.out.mono ?_); rintro e w2 ⟨rfl, rfl⟩)
        | (go_at_call 10; (with_reducible refine HE.out.mono ?_); rintro e w2 ⟨rfl, rfl⟩)
        | (go_at_call 12; (with_reducible refine HI.out.mono ?_); rintro e w4 ⟨v4, rfl, hs4⟩
           obtain ⟨A4, c4, rfl⟩ := own_len (hs4.row 0 rfl)
           have HS4 := Lib.hid hs4
           clear hs4)
        | (go_at_call 14; (with_reducible refine (HX.out _ _ HS4.out).mono ?_); rintro e w5 ⟨rfl, rfl⟩)
        | (go_at_call 15; (with_reducible refine (HA.out _).mono ?_); rintro e w9 ⟨rfl, hb9⟩))
      go_ret
      exact ⟨rfl, HS4.out.below.trans (hb9.mono HS4.out.below.size)⟩
end Go.Proofs.Ytfahhjbbbimjfaa.Li
