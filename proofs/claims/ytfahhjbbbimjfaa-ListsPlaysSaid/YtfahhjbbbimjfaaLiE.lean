/- Contracts of package lists: New. -/
import Derived.Test.YtfahhjbbbimjfaaLiD
import Derived.RegionTactic
import Derived.ChangeAlike
import Derived.LoopTactic
namespace Go.Proofs.Ytfahhjbbbimjfaa.Li
open Go Go.RowKit Go.Proofs.Ytfahhjbbbimjfaa.Mem
set_option linter.unusedVariables false
set_option linter.unusedSimpArgs false
theorem wrong_any (n : Int) (w : World) : Calls Try.prog 26 #[.int .i64 n] w fun e w' => e = .returned (.bool (decide (n < 0 ∨ 65536 < n))) ∧ w = w' := by
  by_cases h0 : n < 0
  · rw [show decide (n < 0 ∨ 65536 < n) = true from decide_eq_true (.inl h0)]
    go_enter Try.func26, Try.ntmps26
    go_wp2
    go_ret
    exact ⟨rfl, rfl⟩
  · by_cases h1 : 65536 < n
    · rw [show decide (n < 0 ∨ 65536 < n) = true from decide_eq_true (.inr h1)]
      go_enter Try.func26, Try.ntmps26
      go_wp2
      go_ret
      exact ⟨rfl, rfl⟩
    · rw [show decide (n < 0 ∨ 65536 < n) = false from decide_eq_false (by omega)]
      go_enter Try.func26, Try.ntmps26
      go_wp2
      go_ret
      exact ⟨rfl, rfl⟩
theorem new_no {n m : Int} (h : n < 0 ∨ 65536 < n ∨ m < 0 ∨ 65536 < m) (w : World) : Calls Try.prog 8 #[.int .i64 n, .int .i64 m] w fun e w' => e = .returned (.pointer none) ∧ w = w' := by
  have H := Lib.hid wrong_any
  by_cases h1 : n < 0 ∨ 65536 < n
  · have HN := Lib.hid (wrong_any n w)
    rw [show decide (n < 0 ∨ 65536 < n) = true from decide_eq_true h1] at HN
    clear h h1 H
    go_enter Try.func8, Try.ntmps8
    go_wp2_with (first | (go_at_call 26; (with_reducible refine HN.out.mono ?_); rintro e w1 ⟨rfl, rfl⟩))
    go_ret
    exact ⟨rfl, rfl⟩
  · have HN := Lib.hid (wrong_any n w)
    rw [show decide (n < 0 ∨ 65536 < n) = false from decide_eq_false h1] at HN
    have HM := Lib.hid (wrong_any m w)
    rw [show decide (m < 0 ∨ 65536 < m) = true from decide_eq_true (by omega)] at HM
    clear h h1 H
    go_enter Try.func8, Try.ntmps8
    go_wp2_with (first
      | (go_at_call 26; (with_reducible refine HN.out.mono ?_); rintro e w1 ⟨rfl, rfl⟩)
      | (go_at_call 26; (with_reducible refine HM.out.mono ?_); rintro e w1 ⟨rfl, rfl⟩))
    go_ret
    exact ⟨rfl, rfl⟩
theorem q_info : (Try.prog.info? 55).map (fun i => (i.zero, i.size, i.bytes)) = some (some (.agg #[.int .i64 0, .int .i64 0, .int .i64 0]), 3, 24) := by kernel_rfl
theorem l_info : (Try.prog.info? 57).map (fun i => (i.zero, i.size, i.bytes)) = some (some (.agg #[.int .i64 0, .int .i64 0, .int .i64 0]), 3, 24) := by kernel_rfl
theorem made3 (n : Nat) : madeCells #[.int .i64 0, .int .i64 0, .int .i64 0] n = Array.replicate n (.int .i64 0) := by
  have key : ∀ k : Nat, (#[Value.int .i64 0, .int .i64 0, .int .i64 0] : Array Value)[k % 3]! = .int .i64 0 := fun k => by
    have : k % 3 = 0 ∨ k % 3 = 1 ∨ k % 3 = 2 := by omega
    rcases this with h | h | h <;> rw [h] <;> rfl
  refine Array.ext_getElem? fun i => ?_
  unfold madeCells
  rw [Array.getElem?_map, Array.getElem?_range, Array.getElem?_replicate]
  by_cases hi : i < n
  · rw [if_pos hi, if_pos hi]
    exact congrArg some (key i)
  · rw [if_neg hi, if_neg hi]
    rfl
def z3 (n : Nat) : Array Value := Array.replicate (n * 3) (.int .i64 0)
theorem make_q (n : Nat) (hn : n ≤ 65536) (W : World) : (Instr.makeSlice 50 (.int .i64 n) (.int .i64 n)).run Try.prog W = .ok (.slice (some ⟨W.heap.size, 0, none⟩) n n) (W.alloc (.cells (z3 n) 55)) := by
  obtain ⟨i0, hi0, hz0, hz1, hz2⟩ := info_parts q_info
  have h := run_make (P := Try.prog) W 50 55 i0 _ Try.underlying50 hi0 hz0 .i64 .i64 n n (by omega) (Int.le_refl _) (by rw [hz2]; omega) (by omega)
  rw [hz1] at h
  simp only [Int.toNat_natCast] at h
  rw [h]
  show Result.ok _ (W.alloc (.cells (madeCells #[.int .i64 0, .int .i64 0, .int .i64 0] (n * 3)) 55)) = _
  rw [made3]
  rfl
theorem make_l (n : Nat) (hn : n ≤ 65536) (W : World) : (Instr.makeSlice 51 (.int .i64 n) (.int .i64 n)).run Try.prog W = .ok (.slice (some ⟨W.heap.size, 0, none⟩) n n) (W.alloc (.cells (z3 n) 57)) := by
  obtain ⟨i0, hi0, hz0, hz1, hz2⟩ := info_parts l_info
  have h := run_make (P := Try.prog) W 51 57 i0 _ Try.underlying51 hi0 hz0 .i64 .i64 n n (by omega) (Int.le_refl _) (by rw [hz2]; omega) (by omega)
  rw [hz1] at h
  simp only [Int.toNat_natCast] at h
  rw [h]
  show Result.ok _ (W.alloc (.cells (madeCells #[.int .i64 0, .int .i64 0, .int .i64 0] (n * 3)) 57)) = _
  rw [made3]
  rfl
theorem z3_q : ∀ n : Nat, (z3 n).toList = qCs (List.replicate n ⟨0, 0, 0⟩)
  | 0 => rfl
  | n + 1 => by
    have h := z3_q n
    unfold z3 qCs at *
    rw [List.replicate_succ, List.map_cons, List.flatten_cons, ← h]
    simp only [Array.toList_replicate]
    rw [show (n + 1) * 3 = n * 3 + 1 + 1 + 1 by omega]
    simp [List.replicate_succ, qC]
theorem z3_l : ∀ n : Nat, (z3 n).toList = lCs (List.replicate n ⟨0, 0, 0⟩)
  | 0 => rfl
  | n + 1 => by
    have h := z3_l n
    unfold z3 lCs at *
    rw [List.replicate_succ, List.map_cons, List.flatten_cons, ← h]
    simp only [Array.toList_replicate]
    rw [show (n + 1) * 3 = n * 3 + 1 + 1 + 1 by omega]
    simp [List.replicate_succ, lC]
theorem lm_of {w : World} {B b gq gl n m : Nat} (hb : B ≤ b) (h1 : Blk w b 53 #[.slice (some ⟨gq, 0, none⟩) n n, .slice (some ⟨gl, 0, none⟩) m m]) {qs : List Qn} {ls : List Lk} (hq : qs.length = n) (hl : ls.length = m)
    (h2 : w.ownsRow B 55 3 (.slice (some ⟨gq, 0, none⟩) n n) n (qCs qs)) (h3 : w.ownsRow B 57 3 (.slice (some ⟨gl, 0, none⟩) m m) m (lCs ls)) : Lm w B b gq gl qs ls := by
  subst hq hl
  exact ⟨hb, h1, h2, h3⟩
theorem lm_one {w : World} {n m : Nat} {zq zl : Array Value} (hn : n ≤ 65536) (hm : m ≤ 65536) (hq : zq.toList = qCs (List.replicate n ⟨0, 0, 0⟩)) (hl : zl.toList = lCs (List.replicate m ⟨0, 0, 0⟩)) (hqs : zq.size = n * 3) (hls : zl.size = m * 3) :
    Lm (((w.alloc (.cells zq 55)).alloc (.cells zl 57)).alloc (.cells #[.slice (some ⟨w.heap.size, 0, none⟩) n n, .slice (some ⟨w.heap.size + 1, 0, none⟩) m m] 53)).drew w.heap.size (w.heap.size + 1 + 1) w.heap.size (w.heap.size + 1) (List.replicate n ⟨0, 0, 0⟩) (List.replicate m ⟨0, 0, 0⟩) := by
  have h1 := World.ownsRow_lit (base := w.heap.size) (e := 55) (size := 3) w zq n (Nat.le_refl _) (by unfold maxLen; omega) hqs
  have h2 := World.ownsRow_lit (base := w.heap.size) (e := 57) (size := 3) (w.alloc (.cells zq 55)) zl m (by simp) (by unfold maxLen; omega) hls
  rw [hq] at h1
  rw [hl] at h2
  simp only [show (w.alloc (.cells zq 55)).heap.size = w.heap.size + 1 by simp] at h2
  refine lm_of (by omega) ?_ (by simp) (by simp) (((h1.alloc _).alloc _)) ((h2.alloc _))
  exact Blk.newAt (by simp)
theorem lm_two {w : World} {n m : Nat} {zq zl : Array Value} (hn : n ≤ 65536) (hm : m ≤ 65536) (hq : zq.toList = qCs (List.replicate n ⟨0, 0, 0⟩)) (hl : zl.toList = lCs (List.replicate m ⟨0, 0, 0⟩)) (hqs : zq.size = n * 3) (hls : zl.size = m * 3) :
    Lm (((w.alloc (.cells zl 57)).alloc (.cells zq 55)).alloc (.cells #[.slice (some ⟨w.heap.size + 1, 0, none⟩) n n, .slice (some ⟨w.heap.size, 0, none⟩) m m] 53)).drew w.heap.size (w.heap.size + 1 + 1) (w.heap.size + 1) w.heap.size (List.replicate n ⟨0, 0, 0⟩) (List.replicate m ⟨0, 0, 0⟩) := by
  have h1 := World.ownsRow_lit (base := w.heap.size) (e := 57) (size := 3) w zl m (Nat.le_refl _) (by unfold maxLen; omega) hls
  have h2 := World.ownsRow_lit (base := w.heap.size) (e := 55) (size := 3) (w.alloc (.cells zl 57)) zq n (by simp) (by unfold maxLen; omega) hqs
  rw [hl] at h1
  rw [hq] at h2
  simp only [show (w.alloc (.cells zl 57)).heap.size = w.heap.size + 1 by simp] at h2
  refine lm_of (by omega) ?_ (by simp) (by simp) ((h2.alloc _)) (((h1.alloc _).alloc _))
  exact Blk.newAt (by simp)
theorem below3 (w : World) (a b c : Obj) : Below w.heap.size w (((w.alloc a).alloc b).alloc c).drew := by
  have h := (((Below.refl w.heap.size w).alloc (Nat.le_refl _) a).alloc (by simp) b).alloc (by simp; omega) c
  exact ⟨h.os, h.tape, h.output, h.size, h.block⟩
theorem rep_at {α : Type} (k n : Nat) (a z : α) (h : k < n) : (List.replicate k a ++ List.replicate (n - k) z)[k]? = some z ∧ (List.replicate k a ++ List.replicate (n - k) z).set k a = List.replicate (k + 1) a ++ List.replicate (n - (k + 1)) z := by
  constructor
  · rw [List.getElem?_append_right (by simp)]
    rw [List.length_replicate, Nat.sub_self, List.getElem?_replicate, if_pos (by omega)]
  · rw [List.set_append_right _ _ (by simp), List.length_replicate, Nat.sub_self]
    obtain ⟨m, hm⟩ : ∃ m, n - k = m + 1 := ⟨n - k - 1, by omega⟩
    rw [hm, show n - (k + 1) = m by omega, List.replicate_succ, List.set_cons_zero]
    rw [show k + 1 = k + 1 from rfl, List.replicate_succ', List.append_assoc]
    rfl
set_option maxHeartbeats 4000000 in
theorem new_yes {n m : Nat} (hn : n ≤ 65536) (hm : m ≤ 65536) (w : World) : Calls Try.prog 8 #[.int .i64 n, .int .i64 m] w fun e w' =>
    ∃ b gq gl, e = .returned (.pointer (some ⟨b, 0, none⟩)) ∧ Lm w' w.heap.size b gq gl (List.replicate n nq) (List.replicate m nl) ∧ Below w.heap.size w w' := by
  have HN := Lib.hid (fun W => wrong_any n W)
  rw [show decide ((n : Int) < 0 ∨ 65536 < (n : Int)) = false from decide_eq_false (by omega)] at HN
  have HM := Lib.hid (fun W => wrong_any m W)
  rw [show decide ((m : Int) < 0 ∨ 65536 < (m : Int)) = false from decide_eq_false (by omega)] at HM
  have hmq := make_q n hn
  have hml := make_l m hm
  have HZq := Lib.hid (z3_q n)
  have HZl := Lib.hid (z3_l m)
  generalize z3 n = zq at *
  generalize z3 m = zl at *
  have HZs := Lib.hid (show zq.size = n * 3 by
    have := congrArg List.length HZq.out
    rw [Array.length_toList] at this
    rw [this]
    unfold qCs
    rw [flat_len _ 3 (q_rows _)]
    simp)
  have HZt := Lib.hid (show zl.size = m * 3 by
    have := congrArg List.length HZl.out
    rw [Array.length_toList] at this
    rw [this]
    unfold lCs
    rw [flat_len _ 3 (l_rows _)]
    simp)
  go_enter Try.func8, Try.ntmps8
  go_upto_region 3 with (first
    | (go_at_call 26; (with_reducible refine (HN.out _).mono ?_); rintro e w1 ⟨rfl, rfl⟩)
    | (go_at_call 26; (with_reducible refine (HM.out _).mono ?_); rintro e w1 ⟨rfl, rfl⟩))
  go_cut [5] (fun p wx => ∃ b gq gl, p = .pointer (some ⟨b, 0, none⟩) ∧ Hid (Lm wx w.heap.size b gq gl (List.replicate n ⟨0, 0, 0⟩) (List.replicate m ⟨0, 0, 0⟩)) ∧ Hid (Below w.heap.size w wx))
  case first =>
    go_region
    all_goals
      go_wp2
      go_meet
    case rel => exact ⟨_, _, _, rfl, lm_one hn hm HZq.out HZl.out HZs.out HZt.out, below3 _ _ _ _⟩
    case rel => exact ⟨_, _, _, rfl, lm_two hn hm HZq.out HZl.out HZs.out HZt.out, below3 _ _ _ _⟩
  case rest =>
    obtain ⟨b, gq, gl, rfl, HL, HB⟩ := hcut
    clear hmq hml HZq HZl HZs HZt HN HM
    have c0 : wc.cell? ⟨b, 0, none⟩ = some (.slice (some ⟨gq, 0, none⟩) n n) := by have := HL.out.blk.cellv (i := 0) rfl; simpa using this
    go_wp2
    clear c0
    go_loopw [25] (fun i wr => ∃ k : Nat, k ≤ n ∧ i = .int .i64 k ∧ Hid (Lm wr w.heap.size b gq gl (List.replicate k nq ++ List.replicate (n - k) ⟨0, 0, 0⟩) (List.replicate m ⟨0, 0, 0⟩)) ∧ Hid (Below w.heap.size w wr)) (fun i _ => n - (intOf i).toNat)
    case atStart => exact ⟨0, by omega, rfl, by simpa using HL, HB⟩
    case round =>
      clear HL HB
      obtain ⟨k, hk, rfl, HL, HB⟩ := hrel
      by_cases hlt : k < n
      · obtain ⟨hx, hset⟩ := rep_at k n nq ⟨0, 0, 0⟩ hlt
        have hlen : (List.replicate k nq ++ List.replicate (n - k) (⟨0, 0, 0⟩ : Qn)).length = n := by simp; omega
        have c0 : wr.cell? ⟨b, 0, none⟩ = some (.slice (some ⟨gq, 0, none⟩) n n) := by have := HL.out.blk.cellv (i := 0) rfl; rw [hlen] at this; exact this
        have hrow := HL.out.q
        rw [hlen] at hrow
        have HR := Lib.hid hrow
        have HX := Lib.hid hx
        have HSe := Lib.hid hset
        have HLe := Lib.hid hlen
        have HF := Lib.hid (show k * 3 + #[Value.int .i64 (-1), .int .i64 (-1), .int .i64 0].size ≤ n * 3 by simp; omega)
        clear hx hset hlen hrow
        go_wp2_with (first
          | (with_reducible refine wpList_store_own rfl 55 (.tmp 34) (.tmp 33) rfl HR.out (k * 3) #[.int .i64 (-1), .int .i64 (-1), .int .i64 0] rfl rfl HF.out (by kernel_rfl) (by simp [Value.oneCell']) ?_
             intro w5 ho5 hu5 hs5))
        go_roundw
        case rel =>
          refine ⟨k + 1, by omega, by go_num, ?_, ?_⟩
          · have := HL.out.turnQ (x' := nq) HX.out (by rw [HLe.out]; exact ho5) hu5
            rw [HSe.out] at this
            exact this
          · exact HB.out.trans (hu5.below (by have := HB.out.size; omega) (fun i hi => by
              have e : i = gq := hi
              subst e
              exact (HL.out.lt (.inr (.inl rfl))).1))
        case measure => simp [intOf]; omega
      · obtain rfl : k = n := by omega
        have HL2 : Hid (Lm wr w.heap.size b gq gl (List.replicate k nq) (List.replicate m ⟨0, 0, 0⟩)) := by simpa using HL
        have c1 : wr.cell? ⟨b, 1, none⟩ = some (.slice (some ⟨gl, 0, none⟩) m m) := by have := HL2.out.blk.cellv (i := 1) rfl; simpa using this
        clear HL
        go_wp2
        clear c1
        go_loopw [41] (fun i wx => ∃ j : Nat, j ≤ m ∧ i = .int .i64 j ∧ Hid (Lm wx w.heap.size b gq gl (List.replicate k nq) (List.replicate j nl ++ List.replicate (m - j) ⟨0, 0, 0⟩)) ∧ Hid (Below w.heap.size w wx)) (fun i _ => m - (intOf i).toNat)
        case atStart => exact ⟨0, by omega, rfl, by simpa using HL2, HB⟩
        case round =>
          clear HL2 HB
          obtain ⟨j, hj, rfl, HL, HB⟩ := hrel
          by_cases hlt2 : j < m
          · obtain ⟨hx, hset⟩ := rep_at j m nl ⟨0, 0, 0⟩ hlt2
            have hlen : (List.replicate j nl ++ List.replicate (m - j) (⟨0, 0, 0⟩ : Lk)).length = m := by simp; omega
            have c0 : wr.cell? ⟨b, 1, none⟩ = some (.slice (some ⟨gl, 0, none⟩) m m) := by have := HL.out.blk.cellv (i := 1) rfl; rw [hlen] at this; exact this
            have hrow := HL.out.l
            rw [hlen] at hrow
            have HR := Lib.hid hrow
            have HX := Lib.hid hx
            have HSe := Lib.hid hset
            have HLe := Lib.hid hlen
            have HF := Lib.hid (show j * 3 + #[Value.int .i64 (-1), .int .i64 (-1), .int .i64 (-1)].size ≤ m * 3 by simp; omega)
            clear hx hset hlen hrow
            go_wp2_with (first
              | (with_reducible refine wpList_store_own rfl 57 (.tmp 50) (.tmp 49) rfl HR.out (j * 3) #[.int .i64 (-1), .int .i64 (-1), .int .i64 (-1)] rfl rfl HF.out (by kernel_rfl) (by simp [Value.oneCell']) ?_
                 intro w5 ho5 hu5 hs5))
            go_roundw
            case rel =>
              refine ⟨j + 1, by omega, by go_num, ?_, ?_⟩
              · have := HL.out.turnL (x' := nl) HX.out (by rw [HLe.out]; exact ho5) hu5
                rw [HSe.out] at this
                exact this
              · exact HB.out.trans (hu5.below (by have := HB.out.size; omega) (fun i hi => by
                  have e : i = gl := hi
                  subst e
                  exact (HL.out.lt (.inr (.inr rfl))).1))
            case measure => simp [intOf]; omega
          · obtain rfl : j = m := by omega
            go_wp2
            go_ret
            exact ⟨b, gq, gl, rfl, by simpa using HL.out, HB.out⟩
end Go.Proofs.Ytfahhjbbbimjfaa.Li
