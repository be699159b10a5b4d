/- The walk of PortUsers. -/
import Derived.Test.YtjkgkoilabbdgaaPtJ
namespace Go.Proofs.Ytjkgkoilabbdgaa.Pt
open Go Go.RowKit Go.Proofs.Ytjkgkoilabbdgaa.Mem
set_option linter.unusedVariables false
set_option linter.unusedSimpArgs false
theorem it_info : (Try.prog.info? 3).map (fun i => (i.zero, i.size, i.bytes)) = some (some (.int .i64 0), 1, 8) := by kernel_rfl
def ixV (W : List Nat) : List Value := W.map fun j : Nat => Value.int .i64 (j : Int)
theorem ixV_one (W : List Nat) : ∀ u ∈ ixV W, u.oneCell' = true := fun u hu => by
  obtain ⟨x, -, rfl⟩ := List.mem_map.1 hu
  rfl
theorem ixV_len (W : List Nat) : (ixV W).length = W.length := by simp [ixV]
/-- A port where the packets of W wait. -/
def poU (l : List Int) (d : Nat) (W : List Nat) : Po := ⟨W.map fun j : Nat => ⟨l.getD j 0, 0, (j : Int)⟩, [], d, 0⟩
theorem poU_users (l : List Int) (d : Nat) (W : List Nat) : usersN (poU l d W).q = W.length := by
  unfold usersN poU
  rw [List.countP_eq_length.2 (by simp)]
  simp
theorem poU_len (l : List Int) (d : Nat) (W : List Nat) : (poU l d W).q.length = W.length := by simp [poU]
theorem queue_room (l : List Int) (d : Nat) (W : List Nat) (k : Nat) (x : Int) (hx : l[k]? = some x) (h : W.length < d) : queueS (poU l d W) x k = (0, poU l d (W ++ [k])) := by
  unfold queueS
  rw [poU_users, if_neg (by show ¬ d ≤ _; omega)]
  unfold putS poU
  simp [List.getD_eq_getElem?_getD, hx]
theorem queue_full (l : List Int) (d : Nat) (W : List Nat) (k : Nat) (x : Int) (h : d ≤ W.length) : queueS (poU l d W) x k = (-22, poU l d W) := by
  unfold queueS
  rw [poU_users, if_pos (show (poU l d W).d ≤ _ from h)]
theorem take_one (l : List Int) (d j : Nat) (W : List Nat) : takeS (poU l d (j :: W)) = (⟨l.getD j 0, 0, j⟩, 0, poU l d W) := rfl
theorem take_none (l : List Int) (d : Nat) : takeS (poU l d []) = (⟨0, 0, 0⟩, -22, poU l d []) := rfl
def UsI (l : List Int) (d k : Nat) (W : List Nat) : Prop := ∀ j ∈ W, j < k
theorem UsI.step {l : List Int} {d k : Nat} {W W' : List Nat} (h : UsI l d k W) (hs : ∀ j ∈ W', j ∈ W) : UsI l d (k + 1) (W' ++ [k]) := fun j hj => by
  rcases List.mem_append.1 hj with h1 | h1
  · have := h j (hs j h1); omega
  · simp at h1; omega
theorem ixV_app (W : List Nat) (k : Nat) : ixV W ++ [Value.int .i64 (k : Int)] = ixV (W ++ [k]) := by simp [ixV]
set_option maxRecDepth 8000 in
set_option maxHeartbeats 8000000 in
theorem users_walk (dp : Int) (A : Option Addr) (c : Nat) (l : List Int) (w : World) (hr : Reads w w.heap.size 1 A l.length (l.map (Value.int .i64))) (hm : l.length ≤ maxLen) :
    Calls Try.prog 3 #[.int .i64 dp, .slice A l.length c] w fun e w' => e = .returned (.bool true) ∧ Below w.heap.size w w' := by
  have HA := Lib.hid awake_any
  unfold maxLen at hm
  by_cases hc : dp < 1 ∨ 65536 < dp
  · have HNo := Lib.hid (new_none dp 0 (by omega))
    clear hr
    rcases hc with hc | hc
    all_goals
      generalize l.length = n at *
      go_enter Try.func3, Try.ntmps3
      go_wp2_with (first
        | (go_at_call 8; (with_reducible refine (HNo.out _).mono ?_); rintro e w1 ⟨rfl, rfl⟩)
        | (go_at_call 9; (with_reducible refine (HA.out _).mono ?_); rintro e w2 ⟨rfl, hb2⟩))
      go_ret
      exact ⟨rfl, hb2⟩
  · obtain ⟨d, rfl⟩ : ∃ k : Nat, dp = k := ⟨dp.toNat, by omega⟩
    have hd1 : 1 ≤ d := by omega
    have hd2 : d ≤ 65536 := by omega
    have hN := new_any (Star.nil w) d 0 hd1 hd2 (by omega)
    rw [show ((0 : Nat) : Int) = 0 from rfl] at hN
    have HN := Lib.hid hN
    clear hN
    by_cases hbig : 80 < l.length
    · clear hr hc
      have hbig' : (80 : Int) < l.length := by omega
      generalize l.length = n at *
      go_enter Try.func3, Try.ntmps3
      go_wp2_with (first
        | (go_at_call 8; (with_reducible refine HN.out.mono ?_); rintro e w1 ⟨rfl, hs1⟩)
        | (go_at_call 9; (with_reducible refine (HA.out _).mono ?_); rintro e w2 ⟨rfl, hb2⟩))
      go_ret
      exact ⟨rfl, hs1.below.trans (hb2.mono hs1.below.size)⟩
    · have hl80 : (l.length : Int) ≤ 80 := by omega
      have hl80' : l.length ≤ 80 := by omega
      have hd1' : (1 : Int) ≤ d := by omega
      have HR := Lib.hid hr
      obtain ⟨i0, hi0, hz0, hz1, hz2⟩ := info_parts it_info
      clear hr hc hbig
      go_enter Try.func3, Try.ntmps3
      go_wp2_with (first
        | (go_at_call 8; (with_reducible refine HN.out.mono ?_); rintro e w1 ⟨rfl, hs1⟩
           have HS1 : Hid (Star w w1 [PtA w.heap.size (poU l d []), RowO 3 1 (.slice none 0 0) 0 (ixV [])]) := Lib.hid ((hs1.nilO 3 1).perm (List.Perm.swap _ _ _))
           clear hs1))
      go_loopw [6, 42] (fun v i wr => ∃ (k : Nat) (W : List Nat) (A6 : Option Addr) (n6 c6 : Nat), k ≤ l.length ∧ i = .int .i64 k ∧ v = .slice A6 n6 c6 ∧ Hid (n6 = W.length) ∧ n6 ≤ d ∧ n6 ≤ k ∧ Hid (UsI l d k W) ∧ Hid (Star w wr [PtA w.heap.size (poU l d W), RowO 3 1 (.slice A6 n6 c6) n6 (ixV W)])) (fun _ i _ => l.length - (intOf i).toNat)
      case atStart => exact ⟨0, [], none, 0, 0, by omega, rfl, rfl, Lib.hid rfl, by omega, by omega, Lib.hid (fun j hj => absurd hj (by simp)), HS1⟩
      case round =>
        clear HS1 HN
        obtain ⟨k, W, A6, n6, c6, hk, rfl, rfl, HNW, hnd, hnk, HI, HS⟩ := hrel
        by_cases hlt : k < l.length
        · obtain ⟨ad, u, rfl, had, hx, hcl⟩ := (HR.out.below HS.out.below).at_ hlt
          obtain ⟨x, hxk⟩ : ∃ x, l[k]? = some x := ⟨_, List.getElem?_eq_getElem hlt⟩
          obtain rfl : u = .int .i64 x := by
            rw [List.getElem?_map, hxk] at hx
            exact (Option.some.inj hx).symm
          have hk0 : (0 : Int) ≤ k := by omega
          have hkl : (k : Int) < l.length := by omega
          have HX := Lib.hid hxk
          clear hx hxk had
          by_cases hroom : n6 < d
          · have hQ := fun (W' : World) (L : List Asr) (h : Star w W' (PtA w.heap.size (poU l d W) :: L)) => queue_st h 0 rfl (by rw [poU_len, ← HNW.out]; omega) x k
            rw [queue_room l d W k x HX.out (by rw [← HNW.out]; exact hroom)] at hQ
            simp only [List.set_cons_zero] at hQ
            have HQ := Lib.hid hQ
            have hroom' : (n6 : Int) < d := by omega
            have e80 : (n6 : Int) ≤ 80 := by omega
            clear hQ hroom
            go_wp2_with (first
              | (go_at_call 10; (with_reducible refine (HQ.out _ _ HS.out).mono ?_); rintro e w3 ⟨rfl, hs3⟩
                 have HS3 := Lib.hid hs3
                 clear hs3)
              | (at_builtin; refine wpList_append_so rfl (.tmp 60) (.tmp 62) 22 rfl (HS3.out.alloc _) 1 rfl i0 _ 8 Try.underlying22 hi0 hz0 hz1 hz2 rfl (by omega) (by rfl) _ (some ⟨w3.heap.size, 0, none⟩) 1 1 [.int .i64 k] (by rfl) (reads_fresh_at _ 3 [.int .i64 k] 1 1 w3.heap.size rfl (by simp)) (ixV_one [k]) (by simp only [maxLen]; omega) (by omega) ?_
                 intro v4 w4 hs4
                 simp only [List.set_cons_zero, List.set_cons_succ] at hs4
                 obtain ⟨A4, c4, rfl⟩ := (hs4.rowO 1 rfl).len
                 have HS4 := Lib.hid hs4
                 clear hs4))
            go_roundw
            case rel =>
              have h5 := HS4.out
              rw [ixV_app] at h5
              exact ⟨k + 1, W ++ [k], A4, n6 + 1, c4, by omega, by go_num, rfl, Lib.hid (by rw [List.length_append, ← HNW.out]; rfl), by omega, by omega, Lib.hid (HI.out.step fun j hj => hj), Lib.hid h5⟩
            case measure => simp [intOf]; omega
          · obtain ⟨j0, W', rfl⟩ : ∃ j0 W', W = j0 :: W' := by
              cases W with
              | nil =>
                have := HNW.out
                simp only [List.length_nil] at this
                omega
              | cons j0 W' => exact ⟨j0, W', rfl⟩
            have hn6 : n6 = W'.length + 1 := HNW.out
            have hj0 : j0 < k := HI.out j0 (by simp)
            obtain ⟨y, hy⟩ : ∃ y, l[j0]? = some y := ⟨_, List.getElem?_eq_getElem (by omega)⟩
            have hgd : l.getD j0 0 = y := by rw [List.getD_eq_getElem?_getD, hy]; rfl
            have hQ := fun (W2 : World) (L : List Asr) (h : Star w W2 (PtA w.heap.size (poU l d (j0 :: W')) :: L)) => queue_st h 0 rfl (by rw [poU_len]; simp only [List.length_cons]; omega) x k
            rw [queue_full l d (j0 :: W') k x (by simp only [List.length_cons]; omega)] at hQ
            have hT := fun (W2 : World) (L : List Asr) (h : Star w W2 (PtA w.heap.size (poU l d (j0 :: W')) :: L)) => take_st h 0 rfl (by rw [poU_len]; simp only [List.length_cons]; omega)
            rw [take_one, hgd] at hT
            have hQ2 := fun (W2 : World) (L : List Asr) (h : Star w W2 (PtA w.heap.size (poU l d W') :: L)) => queue_st h 0 rfl (by rw [poU_len]; omega) x k
            rw [queue_room l d W' k x HX.out (by omega)] at hQ2
            simp only [List.set_cons_zero] at hQ hT hQ2
            unfold t3G at hT
            simp only at hT
            have HQ := Lib.hid hQ
            have HT := Lib.hid hT
            have HQ2 := Lib.hid hQ2
            obtain ⟨g6, o6, cc6, hv6, hbg6, hgl6, hnc6⟩ := (HS.out.rowO 1 rfl).form (by omega)
            simp only [Value.slice.injEq, true_and] at hv6
            obtain ⟨rfl, rfl⟩ := hv6
            obtain ⟨p, rfl⟩ : ∃ p, n6 = p + 1 := ⟨W'.length, hn6⟩
            have hroom' : ¬ ((p : Int) + 1 < d) := by omega
            have e80 : (p : Int) ≤ 80 := by omega
            have e0 : (0 : Int) < (p : Int) + 1 := by omega
            have e1 : (1 : Int) ≤ (p : Int) + 1 := by omega
            have e2 : 1 ≤ p + 1 := by omega
            obtain ⟨A9, hA9, H7⟩ : ∃ A9 : Option Addr, (if c6 = 1 then (some ⟨g6, o6, none⟩ : Option Addr) else some ⟨g6, o6 + 1, none⟩) = A9 ∧ Hid (∀ (W2 : World) (P0 : Asr), Star w W2 [P0, RowO 3 1 (.slice (some ⟨g6, o6, none⟩) (p + 1) c6) (p + 1) (ixV (j0 :: W'))] → Star w W2 [P0, RowO 3 1 (.slice A9 p (c6 - 1)) p (ixV W')]) := ⟨_, rfl, Lib.hid (fun W2 P0 h => by
              have := h.cutO 1 rfl (k := 1) (by omega)
              simp only [List.set_cons_zero, List.set_cons_succ, Nat.add_sub_cancel] at this
              by_cases hcj : c6 = 1
              · rw [if_pos hcj] at this ⊢
                exact this
              · rw [if_neg hcj] at this ⊢
                have e : (some (⟨g6, o6, none⟩ : Addr)).map (·.add (1 * 1)) = some ⟨g6, o6 + 1, none⟩ := by simp [Addr.add_lit]
                rw [e] at this
                exact this)⟩
            have e3 : 1 ≤ c6 := by omega
            have zj : ((j0 : Int) != (j0 : Int)) = false := by simp
            have zy : (y != y) = false := by simp
            have ej : (0 : Int) ≤ j0 := by omega
            have ej2 : (j0 : Int) < l.length := by omega
            have hyl : (l.map (Value.int .i64))[j0]? = some (.int .i64 y) := by rw [List.getElem?_map, hy]; rfl
            have HYL := Lib.hid hyl
            have HN6 := Lib.hid hn6
            have hj0l : j0 < l.length := by omega
            clear hQ hT hQ2 hroom hgd hy hyl hn6
            go_wp2_with (first
              | (go_at_call 10; (with_reducible refine (HQ.out _ _ HS.out).mono ?_); rintro e w3 ⟨rfl, hs3⟩
                 have HS3 := Lib.hid hs3
                 clear hs3)
              | (go_at_call 11; (with_reducible refine (HT.out _ _ HS3.out).mono ?_); rintro e w4 ⟨rfl, hs4⟩
                 have hs5 := hs4.alloc (.cells #[.int .i64 y, .int .i64 0, .int .i64 j0] 29)
                 have r6 : (w4.alloc (.cells #[.int .i64 y, .int .i64 0, .int .i64 j0] 29)).cell? ⟨g6, o6, none⟩ = some (.int .i64 j0) := (hs5.rowO 1 rfl).cellAt 0 (by omega)
                 have ry : (w4.alloc (.cells #[.int .i64 y, .int .i64 0, .int .i64 j0] 29)).cell? (ad.add j0) = some (.int .i64 y) := by
                   obtain ⟨ad', u', ea, -, hu', hc'⟩ := (HR.out.below hs5.below).at_ hj0l
                   obtain rfl : ad = ad' := Option.some.inj ea
                   rw [HYL.out] at hu'
                   rw [hc', ← hu']
                 have HS5 := Lib.hid (star_dr hs5)
                 clear hs4 hs5))
            go_region_with (first
              | (go_at_call 10; (with_reducible refine (HQ2.out _ _ HS5.out).mono ?_); rintro e w6 ⟨rfl, hs6⟩
                 have HS6 := Lib.hid (H7.out _ _ hs6)
                 clear hs6))
            all_goals
              go_wp2_with (first
                | (at_builtin; refine wpList_append_so rfl (.tmp 103) (.tmp 105) 22 rfl (HS6.out.alloc _) 1 rfl i0 _ 8 Try.underlying22 hi0 hz0 hz1 hz2 rfl (by omega) (by rfl) _ (some ⟨w6.heap.size, 0, none⟩) 1 1 [.int .i64 k] (by rfl) (reads_fresh_at _ 3 [.int .i64 k] 1 1 w6.heap.size rfl (by simp)) (ixV_one [k]) (by simp only [maxLen]; omega) (by omega) ?_
                   intro v7 w7 hs7
                   simp only [List.set_cons_zero, List.set_cons_succ] at hs7
                   obtain ⟨A7, c7, rfl⟩ := (hs7.rowO 1 rfl).len
                   have HS7 := Lib.hid hs7
                   clear hs7))
              go_roundw
              case rel =>
                have h5 := HS7.out
                rw [ixV_app] at h5
                exact ⟨k + 1, W' ++ [k], A7, p + 1, c7, by omega, by go_num, rfl, Lib.hid (by rw [List.length_append]; have := HN6.out; simp; omega), by omega, by omega, Lib.hid (HI.out.step fun j hj => List.mem_cons_of_mem _ hj), Lib.hid h5⟩
              case measure => simp [intOf]; omega
        · have hkl : k = l.length := by omega
          have hlt' : ¬ ((k : Int) < l.length) := by omega
          clear hlt
          go_wp2
          have hx1 : W.length = n6 := HNW.out.symm
          have e80 : (n6 : Int) ≤ 80 := by omega
          clear HI
          go_loopw [110] (fun i wx => ∃ (m : Nat), m ≤ n6 ∧ i = .int .i64 m ∧ Hid (Star w wx [PtA w.heap.size (poU l d (W.drop m)), RowO 3 1 (.slice A6 n6 c6) n6 (ixV W)])) (fun i _ => n6 - (intOf i).toNat)
          case atStart => exact ⟨0, by omega, rfl, HS⟩
          case round =>
            clear HS
            obtain ⟨m, hm6, rfl, HS⟩ := hrel
            by_cases hlt : m < n6
            · obtain ⟨j0, hj0⟩ : ∃ j0, W[m]? = some j0 := ⟨_, List.getElem?_eq_getElem (by omega)⟩
              have hdr : W.drop m = j0 :: W.drop (m + 1) := by
                obtain ⟨h1, h2⟩ := List.getElem?_eq_some_iff.1 hj0
                rw [List.drop_eq_getElem_cons h1, h2]
              have hs := HS.out
              rw [hdr] at hs
              have hT := fun (W2 : World) (L : List Asr) (h : Star w W2 (PtA w.heap.size (poU l d (j0 :: W.drop (m + 1))) :: L)) => take_st h 0 rfl (by rw [poU_len]; simp only [List.length_cons, List.length_drop]; omega)
              rw [take_one] at hT
              generalize l.getD j0 0 = y at hT
              simp only [List.set_cons_zero] at hT
              unfold t3G at hT
              simp only at hT
              obtain ⟨g6, o6, cc6, hv6, hbg6, hgl6, hnc6⟩ := (hs.rowO 1 rfl).form (by omega)
              simp only [Value.slice.injEq, true_and] at hv6
              obtain ⟨rfl, rfl⟩ := hv6
              have r6 : wr.cell? ⟨g6, o6 + m, none⟩ = some (.int .i64 j0) := by
                rw [(hs.rowO 1 rfl).cellAt m (by omega)]
                unfold ixV
                rw [List.getElem?_map, hj0]
                rfl
              have HT := Lib.hid (hT _ _ hs)
              have hm0 : (m : Int) < n6 := by omega
              have zj : ((j0 : Int) != (j0 : Int)) = false := by simp
              have HX1 := Lib.hid hx1
              clear hT hs hj0 hdr hx1
              go_wp2_with (first
                | (go_at_call 11; (with_reducible refine HT.out.mono ?_); rintro e w4 ⟨rfl, hs4⟩
                   have HS4 := Lib.hid (hs4.alloc (.cells #[.int .i64 y, .int .i64 0, .int .i64 j0] 29))
                   clear hs4))
              go_roundw
              case rel => exact ⟨m + 1, by omega, by go_num, HS4⟩
              case measure => simp [intOf]; omega
            · have hmn : m = n6 := by omega
              have hlt' : ¬ ((m : Int) < n6) := by omega
              have hs := HS.out
              rw [show W.drop m = [] from List.drop_eq_nil_of_le (by omega)] at hs
              have hT := fun (W2 : World) (L : List Asr) (h : Star w W2 (PtA w.heap.size (poU l d []) :: L)) => take_st h 0 rfl (by rw [poU_len]; simp)
              rw [take_none] at hT
              have hL := fun (W2 : World) (L : List Asr) (h : Star w W2 (PtA w.heap.size (poU l d []) :: L)) => len_st h 0 rfl
              rw [poU_len, show ((([] : List Nat).length : Nat) : Int) = 0 from rfl] at hL
              simp only [List.set_cons_zero] at hT
              unfold t3G at hT
              simp only at hT
              have HT := Lib.hid (hT _ _ hs)
              have HL := Lib.hid hL
              clear hT hL hs hlt hx1
              go_wp2_with (first
                | (go_at_call 11; (with_reducible refine HT.out.mono ?_); rintro e w4 ⟨rfl, hs4⟩
                   have HS4 := Lib.hid (hs4.alloc (.cells #[.int .i64 0, .int .i64 0, .int .i64 0] 29))
                   clear hs4)
                | (go_at_call 12; (with_reducible refine (HL.out _ _ HS4.out).mono ?_); rintro e w5 ⟨rfl, rfl⟩)
                | (go_at_call 9; (with_reducible refine (HA.out _).mono ?_); rintro e w6 ⟨rfl, hb6⟩))
              go_ret
              exact ⟨rfl, HS4.out.below.trans (hb6.mono HS4.out.below.size)⟩
theorem users_row (dp : Int) (hdp : (Lit.int .i64 dp).wf = true) (A : Option Addr) (c : Nat) (l : List Int) (w : World) (hr : Reads w w.heap.size 1 A l.length (l.map (Value.int .i64))) (hm : l.length ≤ maxLen) (hl : ∀ x ∈ l, (Lit.int .i64 x).wf = true) :
    Calls Try.prog 3 #[.int .i64 dp, .slice A l.length c] w fun e w' => e = .returned (.bool true) ∧ Below w.heap.size w w' := users_walk dp A c l w hr hm
end Go.Proofs.Ytjkgkoilabbdgaa.Pt
