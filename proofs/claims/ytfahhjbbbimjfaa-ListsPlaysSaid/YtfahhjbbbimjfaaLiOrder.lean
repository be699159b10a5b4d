/- The walk of ListsOrder. -/
import Derived.Test.YtfahhjbbbimjfaaLiI
namespace Go.Proofs.Ytfahhjbbbimjfaa.Li
open Go Go.RowKit Go.Proofs.Ytfahhjbbbimjfaa.Mem
set_option linter.unusedVariables false
set_option linter.unusedSimpArgs false
theorem two_push (K : List Nat) (m : Nat) (i : Int) : (pushS [[], K] m 1 i = (0, [[], K ++ [i.toNat]]) ∧ 0 ≤ i) ∨ ∃ s, s ≠ 0 ∧ pushS [[], K] m 1 i = (s, [[], K]) := by
  unfold pushS
  by_cases h : chkS [[], K] m 1 i = 0
  · rw [if_pos h]
    exact .inl ⟨rfl, (chk_zero h).2.1.1⟩
  · rw [if_neg h]
    exact .inr ⟨_, h, rfl⟩
theorem two_front (K : List Nat) (m : Nat) (i : Int) : (frontS [[], K] m 1 i = (0, [[], i.toNat :: K]) ∧ 0 ≤ i) ∨ ∃ s, s ≠ 0 ∧ frontS [[], K] m 1 i = (s, [[], K]) := by
  unfold frontS
  by_cases h : chkS [[], K] m 1 i = 0
  · rw [if_pos h]
    exact .inl ⟨rfl, (chk_zero h).2.1.1⟩
  · rw [if_neg h]
    exact .inr ⟨_, h, rfl⟩
theorem two_splice (K : List Nat) : spliceS [[], K] 0 1 = (0, [K, []]) := by
  unfold spliceS
  rw [if_pos ⟨⟨by decide, by simp [okQ]⟩, ⟨by decide, by simp [okQ]⟩, by decide⟩]
  rfl
theorem two_pop (y : Nat) (C : List Nat) (m : Nat) (h : WfL [y :: C, []] m) : popS [y :: C, []] 0 = ((y : Int), 0, [C, []]) ∧ whereS [C, []] m (y : Int) = -1 := by
  have hd : dropL [y :: C, []] y = [C, []] := h.drop (q := 0) (a := []) (b := C) rfl
  constructor
  · unfold popS
    rw [if_pos ⟨by decide, by simp⟩, show getQ [y :: C, []] 0 = y :: C from rfl]
    simp only
    rw [hd]
  · have h2 := whr_drop [y :: C, []] y
    rw [hd] at h2
    unfold whereS
    rw [Int.toNat_natCast, h2]
    split <;> rfl
theorem intsN_snoc (K : List Nat) (i : Nat) : intsN (K ++ [i]) = intsN K ++ [.int .i64 (i : Int)] := by simp [intsN]
theorem ints_at {l : List Int} {k : Nat} {u : Value} (h : (l.map (Value.int .i64))[k]? = some u) : ∃ x, l[k]? = some x ∧ u = .int .i64 x := by
  rw [List.getElem?_map] at h
  obtain ⟨x, hx, rfl⟩ := Option.map_eq_some_iff.1 h
  exact ⟨x, hx, rfl⟩
theorem newTwo (w : World) : Calls Try.prog 8 #[.int .i64 2, .int .i64 1024] w fun e w' => ∃ b, e = .returned (.pointer (some ⟨b, 0, none⟩)) ∧ Star w w' [LzA b [[], []] 1024] := new_st (Star.nil w) (n := 2) (m := 1024) (by omega) (by omega)
set_option maxRecDepth 8000 in
set_option maxHeartbeats 8000000 in
theorem order_row (A0 : Option Addr) (c0 : Nat) (l0 : List Int) (A1 : Option Addr) (c1 : Nat) (l1 : List Int) (w : World) (hr0 : Reads w w.heap.size 1 A0 l0.length (l0.map (.int .i64))) (hm0 : l0.length ≤ maxLen) (_ : ∀ x ∈ l0, (Lit.int .i64 x).wf = true) (hr1 : Reads w w.heap.size 1 A1 l1.length (l1.map (.int .i64))) (hm1 : l1.length ≤ maxLen) (_ : ∀ x ∈ l1, (Lit.int .i64 x).wf = true) :
    Calls Try.prog 7 #[.slice A0 l0.length c0, .slice A1 l1.length c1] w fun e w' => e = .returned (.bool true) ∧ Below w.heap.size w w' := by
  have HA := Lib.hid awake_any
  have HN := Lib.hid (newTwo w)
  unfold maxLen at hm0 hm1
  by_cases h60 : 60 < l0.length ∨ 60 < l1.length
  · clear hr0 hr1
    generalize l0.length = n0 at *
    generalize l1.length = n1 at *
    by_cases h0 : 60 < n0
    · go_enter Try.func7, Try.ntmps7
      go_wp2_with (first
        | (go_at_call 8; (with_reducible refine HN.out.mono ?_); rintro e w1 ⟨b, rfl, hs1⟩)
        | (go_at_call 15; (with_reducible refine (HA.out _).mono ?_); rintro e w2 ⟨rfl, hb2⟩))
      go_ret
      exact ⟨rfl, hs1.below.trans (hb2.mono hs1.below.size)⟩
    · have h1 : 60 < n1 := by omega
      have h0' : n0 ≤ 60 := by omega
      go_enter Try.func7, Try.ntmps7
      go_wp2_with (first
        | (go_at_call 8; (with_reducible refine HN.out.mono ?_); rintro e w1 ⟨b, rfl, hs1⟩)
        | (go_at_call 15; (with_reducible refine (HA.out _).mono ?_); rintro e w2 ⟨rfl, hb2⟩))
      go_ret
      exact ⟨rfl, hs1.below.trans (hb2.mono hs1.below.size)⟩
  · have hn0 : l0.length ≤ 60 := by omega
    have hn1 : l1.length ≤ 60 := by omega
    clear h60 hm0 hm1
    obtain ⟨i0, hi0, hz0, hz1, hz2⟩ := info_parts it_info
    have HR0 := Lib.hid hr0
    have HR1 := Lib.hid hr1
    clear hr0 hr1
    obtain ⟨n0, e0⟩ : ∃ n, n = l0.length := ⟨_, rfl⟩
    obtain ⟨n1, e1⟩ : ∃ n, n = l1.length := ⟨_, rfl⟩
    rw [← e0] at hn0 HR0 ⊢
    rw [← e1] at hn1 HR1 ⊢
    clear e0 e1
    go_enter Try.func7, Try.ntmps7
    go_wp2_with (first
      | (go_at_call 8; (with_reducible refine HN.out.mono ?_); rintro e w1 ⟨b, rfl, hs1⟩
         have HS1 := Lib.hid (hs1.nilRow 3 1)
         clear hs1))
    clear HN
    go_loopw [6, 37] (fun v i wr => ∃ (k : Nat) (K : List Nat), k ≤ n1 ∧ K.length ≤ k ∧ i = .int .i64 k ∧ Hid (Star w wr [RowA 3 1 v K.length (intsN K), LzA b [[], K] 1024])) (fun _ i _ => n1 - (intOf i).toNat)
    case atStart => exact ⟨0, [], by omega, by simp, rfl, HS1⟩
    case round =>
      clear HS1
      obtain ⟨k, K, hk, hK, rfl, HS⟩ := hrel
      by_cases hlt : k < n1
      · obtain ⟨ad, u, rfl, had, hx, hcl⟩ := (HR1.out.below HS.out.below).at_ hlt
        obtain ⟨x, -, rfl⟩ := ints_at hx
        have hk0 : (0 : Int) ≤ k := by omega
        have hkn : (k : Int) < n1 := by omega
        have hP := push_st HS.out 1 rfl 1 x
        clear hx
        rcases two_push K 1024 x with ⟨hp, hx0⟩ | ⟨s, hs0, hp⟩
        · rw [hp] at hP
          simp only [List.set_cons_zero, List.set_cons_succ] at hP
          have HP := Lib.hid hP
          clear hp hP HS
          go_wp2_with (first
            | (go_at_call 9; (with_reducible refine HP.out.mono ?_); rintro e w2 ⟨rfl, hs2⟩
               have HS2 := Lib.hid hs2
               clear hs2)
            | (refine wpList_append_st rfl (.tmp 45) (.tmp 47) 28 rfl (HS2.out.alloc _) 0 rfl i0 _ 8 Try.underlying28 hi0 hz0 hz1 hz2 rfl (by omega) rfl (w2.heap.size + 1) (some ⟨w2.heap.size, 0, none⟩) 1 1 [.int .i64 x] rfl (reads_fresh w2 3 [.int .i64 x] 1 1 rfl) (by simp [Value.oneCell']) (by simp only [maxLen]; omega) (by omega) ?_
               intro v' w3 hs3
               have HS3 := Lib.hid hs3
               clear hs3))
          go_roundw
          case rel =>
            refine ⟨k + 1, K ++ [x.toNat], by omega, by simp; omega, by go_num, Lib.hid ?_⟩
            rw [intsN_snoc, show ((x.toNat : Nat) : Int) = x by omega, List.length_append]
            exact HS3.out
          case measure => simp [intOf]; omega
        · rw [hp] at hP
          simp only [List.set_cons_zero, List.set_cons_succ] at hP
          have HP := Lib.hid hP
          have hsz : (s == 0) = false := beq_eq_false_iff_ne.mpr hs0
          clear hp hP HS hs0
          go_wp2_with (first
            | (go_at_call 9; (with_reducible refine HP.out.mono ?_); rintro e w2 ⟨rfl, hs2⟩
               have HS2 := Lib.hid hs2
               clear hs2))
          go_roundw
          case rel => exact ⟨k + 1, K, by omega, by omega, by go_num, HS2⟩
          case measure => simp [intOf]; omega
      · obtain rfl : k = n1 := by omega
        clear hlt HR1
        go_wp2
        go_loopw [6, 52] (fun v i wr => ∃ (k : Nat) (K : List Nat), k ≤ n0 ∧ K.length ≤ 60 + k ∧ i = .int .i64 k ∧ Hid (Star w wr [RowA 3 1 v K.length (intsN K), LzA b [[], K] 1024])) (fun _ i _ => n0 - (intOf i).toNat)
        case atStart => exact ⟨0, K, by omega, by omega, rfl, HS⟩
        case round =>
          clear HS hK
          obtain ⟨k, K, hk, hK, rfl, HS⟩ := hrel
          by_cases hlt : k < n0
          · obtain ⟨ad, u, rfl, had, hx, hcl⟩ := (HR0.out.below HS.out.below).at_ hlt
            obtain ⟨x, -, rfl⟩ := ints_at hx
            have hk0 : (0 : Int) ≤ k := by omega
            have hkn : (k : Int) < n0 := by omega
            have hP := front_st HS.out 1 rfl 1 x
            clear hx
            rcases two_front K 1024 x with ⟨hp, hx0⟩ | ⟨s, hs0, hp⟩
            · obtain ⟨Av, cv, rfl⟩ := own_len (HS.out.row 0 rfl)
              rw [hp] at hP
              simp only [List.set_cons_zero, List.set_cons_succ] at hP
              have HP := Lib.hid hP
              clear hp hP HS
              go_wp2_with (first
                | (go_at_call 13; (with_reducible refine HP.out.mono ?_); rintro e w2 ⟨rfl, hs2⟩
                   have HS2 := Lib.hid hs2
                   clear hs2)
                | (refine wpList_append_st rfl (.tmp 61) (.tmp 62) 28 rfl (HS2.out.litRow 3 1 #[.int .i64 x] 1 (by simp [maxLen]) rfl) 0 rfl i0 _ 8 Try.underlying28 hi0 hz0 hz1 hz2 rfl (by omega) rfl _ Av K.length cv (intsN K) rfl ((HS2.out.alloc _).reads 0 rfl) (by simp [intsN, Value.oneCell']) (by simp only [maxLen]; omega) (by omega) ?_
                   intro v' w3 hs3
                   have HS3 := Lib.hid hs3
                   clear hs3))
              go_roundw
              case rel =>
                refine ⟨k + 1, x.toNat :: K, by omega, by simp; omega, by go_num, Lib.hid ?_⟩
                have h3 := HS3.out.perm2.tail
                rw [show intsN (x.toNat :: K) = [.int .i64 x] ++ intsN K by simp [intsN]; omega, List.length_cons, Nat.add_comm K.length 1]
                exact h3
              case measure => simp [intOf]; omega
            · rw [hp] at hP
              simp only [List.set_cons_zero, List.set_cons_succ] at hP
              have HP := Lib.hid hP
              have hsz : (s == 0) = false := beq_eq_false_iff_ne.mpr hs0
              clear hp hP HS hs0
              go_wp2_with (first
                | (go_at_call 13; (with_reducible refine HP.out.mono ?_); rintro e w2 ⟨rfl, hs2⟩
                   have HS2 := Lib.hid hs2
                   clear hs2))
              go_roundw
              case rel => exact ⟨k + 1, K, by omega, by omega, by go_num, HS2⟩
              case measure => simp [intOf]; omega
          · obtain rfl : k = n0 := by omega
            clear hlt HR0
            obtain ⟨Av, cv, rfl⟩ := own_len (HS.out.row 0 rfl)
            have hs1 := splice_st HS.out 1 rfl 0 1
            rw [two_splice] at hs1
            have HSp := Lib.hid hs1
            have HL := Lib.hid (fun (W : World) (h : Star w W [RowA 3 1 (.slice Av K.length cv) K.length (intsN K), LzA b [K, []] 1024]) => len_st h 1 rfl 1)
            rw [show lenS [K, []] 1 = 0 from rfl] at HL
            obtain ⟨n, en⟩ : ∃ n, n = K.length := ⟨_, rfl⟩
            rw [← en] at HSp HL hK
            rw [← en]
            have EN := Lib.hid en
            clear hs1 HS en
            go_wp2_with (first
              | (go_at_call 22; (with_reducible refine HSp.out.mono ?_); rintro e w4 ⟨rfl, hs4⟩
                 have HS4 := Lib.hid hs4
                 clear hs4)
              | (go_at_call 10; (with_reducible refine (HL.out _ HS4.out).mono ?_); rintro e w5 ⟨rfl, rfl⟩))
            go_loopw [75] (fun i wr => ∃ k : Nat, k ≤ n ∧ i = .int .i64 k ∧ Hid (Star w wr [RowA 3 1 (.slice Av n cv) n (intsN K), LzA b [K.drop k, []] 1024])) (fun i _ => n - (intOf i).toNat)
            case atStart => exact ⟨0, by omega, rfl, HS4⟩
            case round =>
              clear HS4 HL HSp
              obtain ⟨k, hk, rfl, HS⟩ := hrel
              by_cases hlt : k < n
              · have hkC : k < K.length := by rw [← EN.out]; exact hlt
                obtain ⟨y, hy⟩ : ∃ y, K[k]? = some y := ⟨_, List.getElem?_eq_getElem hkC⟩
                have hyd : K.drop k = y :: K.drop (k + 1) := by
                  rw [List.drop_eq_getElem_cons hkC, (List.getElem?_eq_some_iff.1 hy).2]
                obtain ⟨hwf, -, -⟩ := Star.wf HS.out 1 rfl
                have hp := pop_st HS.out 1 rfl 0
                rw [hyd] at hwf hp
                obtain ⟨hp1, hp2⟩ := two_pop _ _ _ hwf
                rw [hp1] at hp
                simp only [List.set_cons_zero, List.set_cons_succ] at hp
                have HP := Lib.hid hp
                have HW := Lib.hid (fun (W : World) (h : Star w W [RowA 3 1 (.slice Av n cv) n (intsN K), LzA b [K.drop (k + 1), []] 1024]) => where_st h 1 rfl (y : Int))
                rw [hp2] at HW
                obtain ⟨g, cp, hsv, hbg, hgl, hnc⟩ := own_form (HS.out.row 0 rfl) (by omega)
                simp only [Value.slice.injEq] at hsv
                obtain ⟨rfl, -, rfl⟩ := hsv
                have dk := (HS.out.row 0 rfl).cellAt k (by omega)
                rw [show (intsN K)[k]? = some (.int .i64 (y : Int)) by simp [intsN, hy]] at dk
                have hk0 : (0 : Int) ≤ k := by omega
                have hkn : (k : Int) < n := by omega
                clear hwf hp hp1 hp2 hyd hy
                go_wp2_with (first
                  | (go_at_call 19; (with_reducible refine HP.out.mono ?_); rintro e w5 ⟨rfl, hs5⟩
                     have HS5 := Lib.hid hs5
                     clear hs5)
                  | (go_at_call 14; (with_reducible refine (HW.out _ HS5.out).mono ?_); rintro e w6 ⟨rfl, rfl⟩))
                go_roundw
                case rel => exact ⟨k + 1, by omega, by go_num, HS5⟩
                case measure => simp [intOf]; omega
              · obtain rfl : k = n := by omega
                have hp := pop_st HS.out 1 rfl 0
                rw [show K.drop k = [] from List.drop_eq_nil_of_le (by rw [EN.out]; exact Nat.le_refl _), show popS [[], []] 0 = (0, -25, [[], []]) from rfl] at hp
                have HP := Lib.hid hp
                clear hp
                go_wp2_with (first
                  | (go_at_call 19; (with_reducible refine HP.out.mono ?_); rintro e w5 ⟨rfl, hs5⟩
                     have HS5 := Lib.hid hs5
                     clear hs5)
                  | (go_at_call 15; (with_reducible refine (HA.out _).mono ?_); rintro e w9 ⟨rfl, hb9⟩))
                go_ret
                exact ⟨rfl, HS5.out.below.trans (hb9.mono HS5.out.below.size)⟩
end Go.Proofs.Ytfahhjbbbimjfaa.Li
