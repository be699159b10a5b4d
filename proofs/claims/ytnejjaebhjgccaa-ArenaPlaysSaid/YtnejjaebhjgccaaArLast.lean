/- The walk of ArenaLast. -/
import Derived.Test.YtnejjaebhjgccaaArLastA
import Derived.Test.YtnejjaebhjgccaaArValues
namespace Go.Proofs.Ytnejjaebhjgccaa.Ar
open Go Go.RowKit Go.Proofs.Ytnejjaebhjgccaa.Mem Go.Proofs.Ytnejjaebhjgccaa.Bits
set_option linter.unusedVariables false
set_option linter.unusedSimpArgs false
def mnI (x y : Int) : Int := if y < x then y else x
theorem run_min2 (P : Program) (ats : Array TypeId) (ty : TypeId) (a b : Int) (w : World) :
    (Builtin.min_ ats ty #[.int .i64 a, .int .i64 b]).run P w = .ok (.int .i64 (mnI a b)) w := by
  have e : ∀ x y : Int, Builtin.min2 (.int .i64 x) (.int .i64 y) = pure (.int .i64 (mnI x y)) := fun x y => by simp only [Builtin.min2, mnI]
  simp only [Builtin.min_, List.foldlM_cons, List.foldlM_nil, e, pure_bind]
  rfl
theorem slot_id {q : Nat} (h : q < 65536) : slotN (65536 + (q : Int)) = q := by unfold slotN; rw [if_neg (by omega)]; omega
theorem gen_id {q : Nat} (h : q < 65536) : genN (65536 + (q : Int)) = 1 := by unfold genN; rw [if_neg (by omega)]; omega
theorem slot_id2 {q : Nat} (h : q < 65536) : slotN (131072 + (q : Int)) = q := by unfold slotN; rw [if_neg (by omega)]; omega
theorem gen_id2 {q : Nat} (h : q < 65536) : genN (131072 + (q : Int)) = 2 := by unfold genN; rw [if_neg (by omega)]; omega
def fdl (fd : List Nat) : List Int := fd.map fun (j : Nat) => 65536 + (j : Int)
theorem fdl_snoc (fd : List Nat) (j : Nat) : fdl (fd ++ [j]) = fdl fd ++ [65536 + (j : Int)] := by simp [fdl]
theorem ints_snoc (l : List Int) (x : Int) : ints l ++ [.int .i64 x] = ints (l ++ [x]) := by simp [ints]
set_option maxHeartbeats 4000000 in
theorem last_walk (cap n : Int) (A : Option Addr) (c : Nat) (l : List Int) (w : World) (hr : Reads w w.heap.size 1 A l.length (ints l)) : Calls Try.prog 5 #[.int .i64 cap, .int .i64 n, .slice A l.length c] w fun e w' => e = .returned (.bool true) ∧ Below w.heap.size w w' := by
  have HA := Lib.hid awake_any
  have HR := Lib.hid hr
  clear hr
  have HS := Lib.hid slot_any
  have HG := Lib.hid gen_any
  by_cases hc : cap < 0 ∨ 65536 < cap
  · have HNo := Lib.hid (new_none cap hc w)
    rcases hc with hc | hc
    all_goals
      go_enter Try.func5, Try.ntmps5
      go_wp2_with (first
        | (go_at_call 9; (with_reducible refine HNo.out.mono ?_); rintro e w1 ⟨rfl, rfl⟩)
        | (go_at_call 10; (with_reducible refine (HA.out _).mono ?_); rintro e w2 ⟨rfl, hb2⟩))
      go_ret
      exact ⟨rfl, hb2⟩
  · have HNew := Lib.hid (new_az cap (by omega) (by omega) w w.heap.size (Nat.le_refl _))
    by_cases hn : n < 0 ∨ (0 ≤ n ∧ 50 < n) ∨ (0 ≤ n ∧ n ≤ 50 ∧ 100 < l.length)
    · rcases hn with hn | ⟨hn0, hn⟩ | ⟨hn0, hn1, hn⟩
      all_goals
        go_enter Try.func5, Try.ntmps5
        go_wp2_with (first
          | (go_at_call 9; (with_reducible refine HNew.out.mono ?_); rintro e w1 ⟨rfl, ha1, hb1⟩)
          | (go_at_call 10; (with_reducible refine (HA.out _).mono ?_); rintro e w2 ⟨rfl, hb2⟩))
        go_ret
        exact ⟨rfl, hb1.trans (hb2.mono hb1.size)⟩
    · have hl2 : l.length ≤ 100 := by omega
      have hn0 : 0 ≤ n := by omega
      have hn1 : n ≤ 50 := by omega
      have hc0 : 0 ≤ cap := by omega
      have hc1 : cap ≤ 65536 := by omega
      obtain ⟨M, hM, hM50, hMc⟩ : ∃ M : Nat, mnI n cap = M ∧ M ≤ 50 ∧ (M : Int) ≤ cap := ⟨(mnI n cap).toNat, by unfold mnI; split <;> omega, by unfold mnI; split <;> omega, by unfold mnI; split <;> omega⟩
      have hmin := fun w => run_min2 Try.prog #[3, 3] 3 n cap w
      rw [hM] at hmin
      obtain ⟨i0, hi0, hz0, hz1, hz2⟩ := info_parts int_info
      clear hn hc hM
      go_enter Try.func5, Try.ntmps5
      go_wp2_with (first
        | (go_at_call 9; (with_reducible refine HNew.out.mono ?_); rintro e w1 ⟨rfl, ha1, hb1⟩))
      go_loopw [8, 51] (fun ids i wr => ∃ (k : Nat) (F : Blocks), k ≤ M ∧ i = .int .i64 k ∧ Hid (Az wr w.heap.size w.heap.size F (slD k []) [] cap) ∧ Hid (wr.ownsRow w.heap.size 3 1 ids k (ints (idl k))) ∧ Hid (Dis (OwnB ids) F) ∧ Hid (Below w.heap.size w wr)) (fun _ i _ => M - (intOf i).toNat)
      case atStart => exact ⟨0, _, by omega, rfl, Lib.hid ha1, Lib.hid (show w1.ownsRow w.heap.size 3 1 (.slice none 0 0) 0 [] from World.ownsRow_nil _ _ _ _), Lib.hid (Dis.nil _).symm, Lib.hid hb1⟩
      case round =>
        obtain ⟨k, F, hk, rfl, HAz, HO, HD, HB⟩ := hrel
        by_cases hlt : k < M
        · have hAl := alloc_az HAz.out (goodD (M := k) (fd := []) ⟨by simp, by simp⟩ (by omega) hc1) (by omega) HB.out.size k
          rw [allocD (by omega)] at hAl
          have HAl := Lib.hid hAl
          have hsk := HS.out (65536 + (k : Int))
          rw [slot_id (by omega)] at hsk
          have HSk := Lib.hid hsk
          obtain ⟨A3, c3, rfl⟩ := own_len HO.out
          clear hAl hsk
          go_wp2_with (first
            | (go_at_call 11; (with_reducible refine HAl.out.mono ?_); rintro e w2 ⟨rfl, F2, hA2, hU2, hN2⟩
               have hB2 := below_upd HB.out hU2 HAz.out.in_ (Nat.le_refl _)
               have hO2 := own_keep HO.out hU2 HD.out
               have hD2 := (HD.out.symm.grow hN2 (own_in HO.out)).symm)
            | (go_at_call 16; (with_reducible refine (HSk.out _).mono ?_); rintro e w3 ⟨rfl, rfl⟩)
            | (at_builtin
               refine wpList_append1 rfl (.tmp 68) (.tmp 70) _ rfl w.heap.size 3 i0 _ 8 Try.underlying22 hi0 hz0 hz1 hz2 rfl (.slice A3 k c3) k (ints (idl k)) rfl
                 hO2 (.int .i64 (65536 + (k : Int))) rfl (by simp [Value.oneCell']) (by simp only [maxLen]; omega) (by omega) hB2.size ?_
               intro v3 w3 hO3 hU3 hN3))
          go_roundw
          case rel =>
            refine ⟨k + 1, F2, by omega, by go_num, Lib.hid (hA2.keep hU3 hD2.symm), Lib.hid ?_, Lib.hid (hD2.grow hN3 hA2.in_), Lib.hid (below_upd hB2 hU3 (own_in hO2) (Nat.le_refl _))⟩
            rw [idl_succ, ← ints_snoc]
            exact hO3
          case measure => simp [intOf]; omega
        · obtain rfl : k = M := by omega
          obtain ⟨A3, c3, rfl⟩ := own_len HO.out
          go_wp2
          go_loopw [12, 75] (fun fr i wx => ∃ (j : Nat) (fd : List Nat) (F : Blocks), j ≤ l.length ∧ i = .int .i64 j ∧ FdOk k fd ∧ Hid (Az wx w.heap.size w.heap.size F (slD k fd) fd cap) ∧ Hid (wx.ownsRow w.heap.size 3 1 (.slice A3 k c3) k (ints (idl k))) ∧ Hid (wx.ownsRow w.heap.size 3 1 fr fd.length (ints (fdl fd))) ∧ Hid (Dis (OwnB (.slice A3 k c3)) F) ∧ Hid (Dis (OwnB fr) F) ∧ Hid (Dis (OwnB fr) (OwnB (.slice A3 k c3))) ∧ Hid (Below w.heap.size w wx)) (fun _ i _ => l.length - (intOf i).toNat)
          case atStart => exact ⟨0, [], F, by omega, rfl, ⟨by simp, by simp⟩, HAz, HO, Lib.hid (World.ownsRow_nil _ _ _ _), HD, Lib.hid (Dis.nil _).symm, Lib.hid (Dis.nil _).symm, HB⟩
          case round =>
            clear HAz HO HD HB F
            obtain ⟨j, fd, F, hj, rfl, hfd, HAz, HO, HW, HD, HDw, HDo, HB⟩ := hrel
            have hfl := hfd.len
            obtain ⟨A4, c4, rfl⟩ := own_len HW.out
            by_cases hlt : j < l.length
            · obtain ⟨ad, u, rfl, had, hx, hcl⟩ := (HR.out.below HB.out).at_ hlt
              have hu : u = .int .i64 l[j] := by
                simp [ints, List.getElem?_eq_getElem hlt] at hx
                exact hx.symm
              subst hu
              clear hx
              generalize l[j] = x at *
              by_cases hx0 : x < 0 ∨ (k : Int) ≤ x
              · rcases hx0 with hx0 | hx0
                all_goals
                  go_wp2
                  go_roundw
                  case rel => exact ⟨j + 1, fd, F, by omega, by go_num, hfd, HAz, HO, HW, HD, HDw, HDo, HB⟩
                  case measure => simp [intOf]; omega
              · obtain ⟨q, rfl, hq⟩ : ∃ q : Nat, x = q ∧ q < k := ⟨x.toNat, by omega, by omega⟩
                clear hx0
                obtain ⟨g3, cp3, hsl, hbg3, hgl3, hnc3⟩ := own_form HO.out (by omega)
                have dq := (hsl ▸ HO.out).cellAt q (by omega)
                simp only [Value.slice.injEq] at hsl
                obtain ⟨rfl, -, rfl⟩ := hsl
                rw [show (ints (idl k))[q]? = some (.int .i64 (65536 + (q : Int))) by simp [ints, idl, hq]] at dq
                have hFr := free_az HAz.out (goodD hfd hMc hc1) (by omega) HB.out.size (65536 + (q : Int))
                by_cases hm : q ∈ fd
                · rw [freeD_in hq (by omega) hm] at hFr
                  have HFr := Lib.hid hFr
                  clear hFr hm
                  go_wp2_with (first
                    | (go_at_call 15; (with_reducible refine HFr.out.mono ?_); rintro e w2 ⟨rfl, F2, hA2, hU2, hN2⟩))
                  go_roundw
                  case rel => exact ⟨j + 1, fd, F2, by omega, by go_num, hfd, Lib.hid hA2, Lib.hid (own_keep HO.out hU2 HD.out), Lib.hid (own_keep HW.out hU2 HDw.out), Lib.hid (HD.out.symm.grow hN2 (own_in HO.out)).symm, Lib.hid (HDw.out.symm.grow hN2 (own_in HW.out)).symm, HDo, Lib.hid (below_upd HB.out hU2 HAz.out.in_ (Nat.le_refl _))⟩
                  case measure => simp [intOf]; omega
                · rw [freeD_out hq (by omega) hm] at hFr
                  have HFr := Lib.hid hFr
                  have hfd2 : FdOk k (fd ++ [q]) := ⟨fun y hy => by
                    rcases List.mem_append.1 hy with h | h
                    · exact hfd.lt y h
                    · obtain rfl := List.mem_singleton.1 h
                      exact hq, by
                    rw [List.nodup_append]
                    exact ⟨hfd.nodup, by simp, fun a ha b hb e => by
                      obtain rfl := List.mem_singleton.1 hb
                      subst e
                      exact hm ha⟩⟩
                  clear hFr hm
                  go_wp2_with (first
                    | (go_at_call 15; (with_reducible refine HFr.out.mono ?_); rintro e w2 ⟨rfl, F2, hA2, hU2, hN2⟩
                       have hO2 := own_keep HO.out hU2 HD.out
                       have hW2 := own_keep HW.out hU2 HDw.out
                       have hD2 := (HD.out.symm.grow hN2 (own_in HO.out)).symm
                       have hDw2 := (HDw.out.symm.grow hN2 (own_in HW.out)).symm
                       have hB2 := below_upd HB.out hU2 HAz.out.in_ (Nat.le_refl _)
                       have dq2 := hO2.cellAt q (by omega)
                       rw [show (ints (idl k))[q]? = some (.int .i64 (65536 + (q : Int))) by simp [ints, idl, hq]] at dq2)
                    | (at_builtin
                       refine wpList_append1 rfl (.tmp 96) (.tmp 101) _ rfl w.heap.size 3 i0 _ 8 Try.underlying22 hi0 hz0 hz1 hz2 rfl (.slice A4 fd.length c4) fd.length (ints (fdl fd)) rfl
                         hW2 (.int .i64 (65536 + (q : Int))) rfl (by simp [Value.oneCell']) (by simp only [maxLen]; omega) (by omega) hB2.size ?_
                       intro v3 w3 hW3 hU3 hN3))
                  go_roundw
                  case rel =>
                    refine ⟨j + 1, fd ++ [q], F2, by omega, by go_num, hfd2, Lib.hid (hA2.keep hU3 hDw2.symm), Lib.hid (own_keep hO2 hU3 HDo.out.symm), Lib.hid ?_, Lib.hid hD2, Lib.hid (hDw2.grow hN3 hA2.in_), Lib.hid (HDo.out.grow hN3 (own_in hO2)), Lib.hid (below_upd hB2 hU3 (own_in hW2) (Nat.le_refl _))⟩
                    rw [fdl_snoc, ← ints_snoc, show (fd ++ [q]).length = fd.length + 1 by simp]
                    exact hW3
                  case measure => simp [intOf]; omega
            · obtain rfl : j = l.length := by omega
              go_wp2
              go_loopw [15] (fun i wy => ∃ (m : Nat) (sl : List Sl) (F : Blocks), m ≤ fd.length ∧ i = .int .i64 ((m : Int) - 1) ∧ Back k fd m sl ∧ Hid (Az wy w.heap.size w.heap.size F sl (fd.take m) cap) ∧ Hid (wy.ownsRow w.heap.size 3 1 (.slice A4 fd.length c4) fd.length (ints (fdl fd))) ∧ Hid (Dis (OwnB (.slice A4 fd.length c4)) F) ∧ Hid (Below w.heap.size w wy)) (fun i _ => (intOf i + 1).toNat)
              case atStart => exact ⟨fd.length, _, F, by omega, by go_num, backD hfd, by rw [List.take_length]; exact HAz, HW, HDw, HB⟩
              case round =>
                clear HAz HO HW HD HDw HDo HB F
                obtain ⟨m, sl, F, hm, rfl, hbk, HAz, HW, HDw, HB⟩ := hrel
                by_cases hm0 : 0 < m
                · obtain ⟨m, rfl⟩ : ∃ m' : Nat, m = m' + 1 := ⟨m - 1, by omega⟩
                  have hAl := alloc_az HAz.out (hbk.good hfd hMc hc1) (by omega) HB.out.size 7
                  obtain ⟨e1, hbk2⟩ := hbk.step (cap := cap) hfd (by omega)
                  rw [e1] at hAl
                  have hfm := hfd.lt fd[m] (List.getElem_mem _)
                  have hcell : (ints (fdl fd))[m]? = some (.int .i64 (65536 + (fd[m] : Int))) := by simp [ints, fdl, show m < fd.length by omega]
                  have HAl := Lib.hid hAl
                  have HBk := Lib.hid hbk2
                  clear hAl e1 hbk2 hbk
                  obtain ⟨g3, cp3, hsl, hbg3, hgl3, hnc3⟩ := own_form HW.out (by omega)
                  simp only [Value.slice.injEq] at hsl
                  obtain ⟨rfl, -, rfl⟩ := hsl
                  generalize fd[m] = q at *
                  have hs1 := HS.out (65536 + (q : Int))
                  rw [slot_id (by omega)] at hs1
                  have hs2 := HS.out (131072 + (q : Int))
                  rw [slot_id2 (by omega)] at hs2
                  have hg1 := HG.out (65536 + (q : Int))
                  rw [gen_id (by omega)] at hg1
                  have hg2 := HG.out (131072 + (q : Int))
                  rw [gen_id2 (by omega)] at hg2
                  have HS1 := Lib.hid hs1
                  have HS2 := Lib.hid hs2
                  have HG1 := Lib.hid hg1
                  have HG2 := Lib.hid hg2
                  clear hs1 hs2 hg1 hg2
                  go_upto_region 24 with (first
                    | (go_at_call 11; (with_reducible refine HAl.out.mono ?_); rintro e w2 ⟨rfl, F2, hA2, hU2, hN2⟩))
                  have HA2 := Lib.hid hA2
                  have hW2 := own_keep HW.out hU2 HDw.out
                  have hDw2 := (HDw.out.symm.grow hN2 (own_in HW.out)).symm
                  have hB2 := below_upd HB.out hU2 HAz.out.in_ (Nat.le_refl _)
                  have dq := hW2.cellAt m (by omega)
                  rw [hcell] at dq
                  have HW2 := Lib.hid hW2
                  have HD2 := Lib.hid hDw2
                  have HB2 := Lib.hid hB2
                  clear hW2 hDw2 hB2 hU2 hA2 hN2 hcell
                  go_quiet ((first
                    | (go_at_call 16; exact quiet_left (HS1.out _)) | (go_at_call 16; exact quiet_left (HS2.out _))
                    | (go_at_call 17; exact quiet_left (HG1.out _)) | (go_at_call 17; exact quiet_left (HG2.out _))))
                  go_wp2
                  go_roundw
                  case rel => exact ⟨m, _, F2, by omega, by go_num, HBk.out, Lib.hid (HA2.out.drewN _), Lib.hid HW2.out, HD2, Lib.hid (below_drewN HB2.out _)⟩
                  case measure => simp [intOf]
                · obtain rfl : m = 0 := by omega
                  have hC := count_az HAz.out
                  rw [hbk.cnt] at hC
                  have HC := Lib.hid hC
                  clear hC
                  go_wp2_with (first
                    | (go_at_call 14; (with_reducible refine HC.out.mono ?_); rintro e w6 ⟨rfl, rfl⟩)
                    | (go_at_call 10; (with_reducible refine (HA.out _).mono ?_); rintro e w7 ⟨rfl, hb7⟩))
                  go_ret
                  exact ⟨rfl, HB.out.trans (hb7.mono HB.out.size)⟩
end Go.Proofs.Ytnejjaebhjgccaa.Ar
