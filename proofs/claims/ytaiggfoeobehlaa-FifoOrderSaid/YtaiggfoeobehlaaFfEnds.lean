/- FifoEnds: what waits when an end is closed is read still at the other one, then it is told that the peer is closed; nothing is written any more. For all numbers. -/
import Derived.Test.YtaiggfoeobehlaaFfQ
namespace Go.Proofs.Ytaiggfoeobehlaa.Ff
open Go Go.RowKit Go.Shelf Go.Proofs.Ytaiggfoeobehlaa.Mem
set_option linter.unusedVariables false
set_option linter.unusedSimpArgs false
def elx (z j : Nat) : List UInt8 := (List.replicate z 0).set 0 (UInt8.ofNat j)
def els (z k : Nat) : List (List UInt8) := (List.range k).map (elx z)
theorem elx_len (z j : Nat) : (elx z j).length = z := by simp [elx]
theorem els_len (z k : Nat) : (els z k).length = k := by simp [els]
def XW (z : Nat) (e : Int) (k : Nat) : Fo := putTo (newO 16 z) e (els z k)
def XR (z n : Nat) (e : Int) (k : Nat) : Fo := if e = 0 then ⟨true, false, [], (els z n).drop k, 16, z⟩ else ⟨false, true, (els z n).drop k, [], 16, z⟩
theorem ends_w {z k : Nat} {e : Int} (he : e = 0 ∨ e = 1) (hz : 1 ≤ z) (hk : k < 16) : writeO (XW z e k) e (elx z k) = ((1, 0), XW z e (k + 1)) := by
  have hc : chunk (elx z k) z 0 = elx z k := by
    unfold chunk
    rw [Nat.zero_mul, List.drop_zero, List.take_of_length_le (by rw [elx_len]; exact Nat.le_refl _)]
  have h1 : els z k ++ (List.range 1).map (chunk (elx z k) z) = els z (k + 1) := by
    rw [show (List.range 1).map (chunk (elx z k) z) = [elx z k] by simp [hc]]
    unfold els
    rw [List.range_succ, List.map_append]
    rfl
  have hm : min 1 (16 - k) = 1 := by omega
  rcases he with rfl | rfl
  · unfold writeO
    rw [show checkO (XW z 0 k) 0 = 0 from rfl, if_neg (by simp), show (XW z 0 k).z = z from rfl, elx_len, if_neg (by rw [Nat.mod_self]; omega), show toC (XW z 0 k) 0 = false from rfl, if_neg (by simp), show toE (XW z 0 k) 0 = els z k from rfl, show (XW z 0 k).n = 16 from rfl, els_len, if_neg (by omega), Nat.div_self (by omega), hm, h1]
    rfl
  · unfold writeO
    rw [show checkO (XW z 1 k) 1 = 0 from rfl, if_neg (by simp), show (XW z 1 k).z = z from rfl, elx_len, if_neg (by rw [Nat.mod_self]; omega), show toC (XW z 1 k) 1 = false from rfl, if_neg (by simp), show toE (XW z 1 k) 1 = els z k from rfl, show (XW z 1 k).n = 16 from rfl, els_len, if_neg (by omega), Nat.div_self (by omega), hm, h1]
    rfl
theorem ends_c {z n : Nat} {e : Int} (he : e = 0 ∨ e = 1) : checkO (XW z e n) e = 0 ∧ closeO (XW z e n) e = XR z n e 0 := by
  rcases he with rfl | rfl
  · exact ⟨rfl, rfl⟩
  · exact ⟨rfl, rfl⟩
theorem ends_r {z n k : Nat} {e : Int} (he : e = 0 ∨ e = 1) (hk : k < n) : readO (XR z n e k) (1 - e) 1 = ((elx z k, 0), XR z n e (k + 1)) := by
  have hl : ((els z n).drop k).length = n - k := by rw [List.length_drop, els_len]
  have hd : ((els z n).drop k).take 1 = [elx z k] := by
    rw [List.drop_eq_getElem_cons (by rw [els_len]; exact hk)]
    simp [els]
  have hm : min (1 : Int).toNat (n - k) = 1 := by
    show min 1 (n - k) = 1
    omega
  rcases he with rfl | rfl
  · unfold readO
    rw [show checkO (XR z n 0 k) (1 - 0) = 0 from rfl, if_neg (by simp), if_neg (by omega), show atE (XR z n 0 k) (1 - 0) = (els z n).drop k from rfl, hl, if_neg (by omega), hm, hd, List.drop_drop]
    simp
    rfl
  · unfold readO
    rw [show checkO (XR z n 1 k) (1 - 1) = 0 from rfl, if_neg (by simp), if_neg (by omega), show atE (XR z n 1 k) (1 - 1) = (els z n).drop k from rfl, hl, if_neg (by omega), hm, hd, List.drop_drop]
    simp
    rfl
theorem ends_r2 {z n : Nat} {e : Int} (he : e = 0 ∨ e = 1) : readO (XR z n e n) (1 - e) 1 = (([], -24), XR z n e n) := by
  have hl : ((els z n).drop n).length = 0 := by rw [List.length_drop, els_len]; omega
  rcases he with rfl | rfl
  · unfold readO
    rw [show checkO (XR z n 0 n) (1 - 0) = 0 from rfl, if_neg (by simp), if_neg (by omega), show atE (XR z n 0 n) (1 - 0) = (els z n).drop n from rfl, if_pos hl]
    rfl
  · unfold readO
    rw [show checkO (XR z n 1 n) (1 - 1) = 0 from rfl, if_neg (by simp), if_neg (by omega), show atE (XR z n 1 n) (1 - 1) = (els z n).drop n from rfl, if_pos hl]
    rfl
theorem ends_w2 {z n : Nat} {e : Int} (he : e = 0 ∨ e = 1) (hz : 1 ≤ z) : writeO (XR z n e n) (1 - e) (List.replicate z 0) = ((0, -24), XR z n e n) := by
  rcases he with rfl | rfl
  · unfold writeO
    rw [show checkO (XR z n 0 n) (1 - 0) = 0 from rfl, if_neg (by simp), show (XR z n 0 n).z = z from rfl, List.length_replicate, if_neg (by rw [Nat.mod_self]; omega), if_pos (by rfl)]
  · unfold writeO
    rw [show checkO (XR z n 1 n) (1 - 1) = 0 from rfl, if_neg (by simp), show (XR z n 1 n).z = z from rfl, List.length_replicate, if_neg (by rw [Nat.mod_self]; omega), if_pos (by rfl)]
theorem ends_s {z n : Nat} {e : Int} (he : e = 0 ∨ e = 1) : showsO (XR z n e n) (1 - e) = 4 := by
  have hd : (els z n).drop n = [] := List.eq_nil_of_length_eq_zero (by rw [List.length_drop, els_len]; omega)
  rcases he with rfl | rfl
  · show showsE 16 ((els z n).drop n) [] true = 4
    rw [hd]
    rfl
  · show showsE 16 ((els z n).drop n) [] true = 4
    rw [hd]
    rfl
theorem ok16 {z : Int} : okN 16 z = decide (1 ≤ z ∧ z ≤ 64) := by
  unfold okN
  rw [show pow10 (16 : Int).toNat = true by decide, Bool.and_true, decide_eq_decide]
  omega
theorem set_by (z k : Nat) (hk : k < 16) : (byV (List.replicate z 0)).set 0 (.int .u8 (k : Int)) = byV (elx z k) := by
  unfold byV elx
  rw [List.map_set]
  congr 2
  simp
  omega
theorem elx_first (z k : Nat) (hz : 1 ≤ z) : (byV (elx z k))[0]? = some (.int .u8 ((UInt8.ofNat k).toNat : Int)) := by
  obtain ⟨y, rfl⟩ : ∃ y, z = y + 1 := ⟨z - 1, by omega⟩
  simp [byV, elx, List.replicate_succ]
set_option maxHeartbeats 4000000 in
theorem ends_no (a : Int) (n : Int) (e : Int) (h : okN 16 a = false ∨ n < 0 ∨ 16 < n ∨ (e ≠ 0 ∧ e ≠ 1)) (w : World) :
    Calls Try.prog 7 #[.int .i64 a, .int .i64 n, .int .i64 e] w fun r w' => r = .returned (.bool true) ∧ Below w.heap.size w w' := by
  have HA := Lib.hid awake_any
  by_cases hok : okN 16 a = true
  · have h2 : n < 0 ∨ (¬ n < 0 ∧ 16 < n) ∨ (¬ n < 0 ∧ ¬ 16 < n ∧ e ≠ 0 ∧ e ≠ 1) := by
      rcases h with h | h
      · rw [hok] at h
        cases h
      · omega
    have hz := hok
    rw [ok16, decide_eq_true_eq] at hz
    obtain ⟨z, rfl⟩ : ∃ z : Nat, a = z := ⟨a.toNat, by omega⟩
    have hN := new_st (Star.nil w) 16 z hok
    rw [show ((16 : Nat) : Int) = 16 from rfl] at hN
    have HN := Lib.hid hN
    clear h hok hz hN
    have hb : (e ≠ 0 ∧ e ≠ 1) → (e != 0) = true ∧ (e != 1) = true := fun h => ⟨by simpa using h.1, by simpa using h.2⟩
    rcases h2 with h2 | ⟨h2, h3⟩ | ⟨h2, h3, h4⟩
    rotate_left 2
    obtain ⟨hb1, hb2⟩ := hb h4
    all_goals
      clear hb
      go_enter Try.func7, Try.ntmps7
      go_wp2_with (first
        | (go_at_call 8; (with_reducible refine HN.out.mono ?_); rintro e w1 ⟨rfl, hs1⟩; have HS1 := Lib.hid hs1; clear hs1)
        | (go_at_call 10; (with_reducible refine (HA.out _).mono ?_); rintro e w9 ⟨rfl, hb9⟩))
      go_ret
      exact ⟨rfl, HS1.out.below.trans (hb9.mono HS1.out.hb)⟩
  · have hf := Bool.eq_false_iff.2 hok
    have HN := Lib.hid (new_none 16 a hf w)
    rw [ok16, decide_eq_false_iff_not] at hf
    have h2 : a < 1 ∨ (¬ a < 1 ∧ 64 < a) := by omega
    clear h hok hf
    rcases h2 with h2 | ⟨h2, h3⟩
    all_goals
      go_enter Try.func7, Try.ntmps7
      go_wp2_with (first
        | (go_at_call 8; (with_reducible refine HN.out.mono ?_); rintro e w1 ⟨rfl, rfl⟩)
        | (go_at_call 10; (with_reducible refine (HA.out _).mono ?_); rintro e w9 ⟨rfl, hb9⟩))
      go_ret
      exact ⟨rfl, hb9⟩
set_option maxHeartbeats 4000000 in
theorem ends_yes (z n : Nat) (hz : 1 ≤ z) (hz2 : z ≤ 64) (hn : n ≤ 16) (e : Int) (he : e = 0 ∨ e = 1) (w : World) :
    Calls Try.prog 7 #[.int .i64 z, .int .i64 n, .int .i64 e] w fun r w' => r = .returned (.bool true) ∧ Below w.heap.size w w' := by
  have HA := Lib.hid awake_any
  have hN := new_st (Star.nil w) 16 z (by rw [show ((16 : Nat) : Int) = 16 from rfl, ok16]; exact decide_eq_true (by omega))
  rw [show ((16 : Nat) : Int) = 16 from rfl, show newO 16 z = XW z e 0 by rcases he with rfl | rfl <;> rfl] at hN
  have HN := Lib.hid hN
  have HM := fun W => make_b z (by omega) W
  have hW1 := fun (k : Nat) (hk : k < 16) (W : World) (h : Star w W [FoA w.heap.size (XW z e k)]) => write_st (e := e) ((h.litRow 5 1 ((byV (List.replicate z 0)).set 0 (.int .u8 (k : Int))).toArray z (by simp only [maxLen]; omega) (by simp [byV])).toO 0 rfl) 1 rfl (some ⟨W.heap.size, 0, none⟩) z z (elx z k) 0 (by rw [← set_by z k hk]; rfl) (by omega)
  have HW1 : Hid (∀ (k : Nat) (hk : k < 16) (W : World) (h : Star w W [FoA w.heap.size (XW z e k)]), Calls Try.prog 12 #[.pointer (some ⟨w.heap.size, 0, none⟩), .int .i64 e, .slice (some ⟨W.heap.size, 0, none⟩) z z] (W.alloc (.cells ((byV (List.replicate z 0)).set 0 (.int .u8 (k : Int))).toArray 5)) fun r w' => r = .returned (.tuple #[.int .i64 1, .int .i64 0]) ∧ ∃ A, Star w w' [A, FoA w.heap.size (XW z e (k + 1))]) := Lib.hid (fun k hk W h => by
    have := hW1 k hk W h
    rw [ends_w he hz hk] at this
    refine this.mono ?_
    rintro r w' ⟨hr, hs⟩
    exact ⟨hr, _, hs⟩)
  have HC := Lib.hid (fun (W : World) (h : Star w W [FoA w.heap.size (XW z e n)]) => close_st h 0 rfl e)
  rw [(ends_c he).1, (ends_c he).2] at HC
  simp only [List.set_cons_zero] at HC
  have HO := Lib.hid (fun (W : World) (h : Star w W [FoA w.heap.size (XR z n e 0)]) => open_st h 0 rfl e)
  rw [show openO (XR z n e 0) e = false by rcases he with rfl | rfl <;> rfl] at HO
  have HL := Lib.hid (fun (W : World) (h : Star w W [FoA w.heap.size (XR z n e 0)]) => len_st h 0 rfl e)
  rw [show lenO (XR z n e 0) e = 0 by rcases he with rfl | rfl <;> rfl] at HL
  have HR : Hid (∀ (k : Nat) (hk : k < n) (W : World) (h : Star w W [FoA w.heap.size (XR z n e k)]), Calls Try.prog 13 #[.pointer (some ⟨w.heap.size, 0, none⟩), .int .i64 (1 - e), .int .i64 1] W fun r w' => ∃ v, r = .returned (.tuple #[v, .int .i64 0]) ∧ Star w w' [RowO 5 1 v z (byV (elx z k)), FoA w.heap.size (XR z n e (k + 1))]) := Lib.hid (fun k hk W h => by
    have := read_st h 0 rfl (1 - e) 1 (by omega)
    rw [ends_r he hk, elx_len] at this
    exact this)
  have HR2 := Lib.hid (fun (W : World) (h : Star w W [FoA w.heap.size (XR z n e n)]) => read_st h 0 rfl (1 - e) 1 (by omega))
  rw [ends_r2 he] at HR2
  have hW2 := fun (W : World) (A : Asr) (h : Star w W [A, FoA w.heap.size (XR z n e n)]) => write_st ((h.litRow 5 1 (byV (List.replicate z 0)).toArray z (by simp only [maxLen]; omega) (by simp [byV])).toO 0 rfl) 2 rfl (1 - e) (some ⟨W.heap.size, 0, none⟩) z z (List.replicate z 0) 0 rfl (by omega)
  rw [ends_w2 he hz] at hW2
  simp only [List.set_cons_zero, List.set_cons_succ] at hW2 HR2
  have HW2 := Lib.hid hW2
  have HSh := Lib.hid (fun (W : World) (A B : Asr) (h : Star w W [A, B, FoA w.heap.size (XR z n e n)]) => shows_st h 2 rfl (1 - e))
  rw [ends_s he] at HSh
  have hzi : (z : Int) ≤ 64 := by omega
  have hz1 : (1 : Int) ≤ z := by omega
  have hz0 : 0 < z := by omega
  have hni : (n : Int) ≤ 16 := by omega
  have hrow := fun W : World => (((Star.nil W).litRow 5 1 (byV (List.replicate z 0)).toArray z (by simp only [maxLen]; omega) (by simp [byV])).toO 0 rfl).rowO 0 rfl
  have hc0 : ∀ W : World, (W.alloc (.cells (byV (List.replicate z 0)).toArray 5)).cell? ⟨W.heap.size, 0, none⟩ = some (.int .u8 0) := fun W => by
    rw [(hrow W).cellAt 0 (by omega)]
    obtain ⟨y, rfl⟩ : ∃ y, z = y + 1 := ⟨z - 1, by omega⟩
    simp [byV, List.replicate_succ]
  have hf0 : ∀ W : World, (W.alloc (.cells (byV (List.replicate z 0)).toArray 5)).frozen? ⟨W.heap.size, 0, none⟩ = false := fun W => (hrow W).frozenAt 0
  clear hrow
  have HLE := Lib.hid (fun (k : Nat) => elx_first z k hz)
  clear hN hW1 hW2
  obtain ⟨F, hF⟩ : ∃ F : Nat → Fo, F = XW z e := ⟨_, rfl⟩
  obtain ⟨G, hG⟩ : ∃ G : Nat → Fo, G = XR z n e := ⟨_, rfl⟩
  rw [← hF] at HN HW1 HC
  rw [← hG] at HC HO HL HR HR2 HW2 HSh
  clear hF hG
  rcases he with rfl | rfl
  all_goals
    simp only [show (1 : Int) - 0 = 1 from rfl, show (1 : Int) - 1 = 0 from rfl] at HR HR2 HW2 HSh
    go_enter Try.func7, Try.ntmps7
    go_wp2_with (first
      | (go_at_call 8; (with_reducible refine HN.out.mono ?_); rintro e w1 ⟨rfl, hs1⟩; have HS1 := Lib.hid hs1; clear hs1))
    go_loopw [53] (fun s53 wr => ∃ k : Nat, k ≤ n ∧ s53 = .int .i64 k ∧ Hid (Star w wr [FoA w.heap.size (F k)])) (fun s53 _ => n - (intOf s53).toNat)
    case atStart => exact ⟨0, by omega, rfl, HS1⟩
    case round =>
      obtain ⟨k, hk, rfl, HS⟩ := hrel
      by_cases hlt : k < n
      · have hkz : (k : Int) < n := by omega
        have hu8 : IntKind.u8.wrap (k : Int) = k := by
          rw [IntKind.wrap_u8]
          omega
        have HWk := Lib.hid (HW1.out k (by omega) wr HS.out)
        clear HW1 HC HO HL HR HR2 HW2 HSh HLE
        go_wp2_with (first
          | (go_at_call 12; (with_reducible refine HWk.out.mono ?_); rintro e w2 ⟨rfl, A2, hs2⟩; have HS2 := Lib.hid hs2; clear hs2))
        go_roundw
        case rel => exact ⟨k + 1, by omega, by go_num, Lib.hid HS2.out.tail⟩
        case measure => simp [intOf]; omega
      · have hkz : ¬ (k : Int) < n := by omega
        obtain rfl : k = n := by omega
        clear HW1
        go_wp2_with (first
          | (go_at_call 21; (with_reducible refine (HC.out _ HS.out).mono ?_); rintro e w3 ⟨rfl, hs3⟩; have HS3 := Lib.hid hs3; clear hs3)
          | (go_at_call 22; (with_reducible refine (HO.out _ HS3.out).mono ?_); rintro e w4 ⟨rfl, hs4⟩; have HS4 := Lib.hid hs4; clear hs4)
          | (go_at_call 15; (with_reducible refine (HL.out _ HS4.out).mono ?_); rintro e w5 ⟨rfl, hs5⟩; have HS5 := Lib.hid hs5; clear hs5))
        go_loopw [92] (fun s92 wr2 => ∃ j : Nat, j ≤ k ∧ s92 = .int .i64 j ∧ Hid (Star w wr2 [FoA w.heap.size (G j)])) (fun s92 _ => k - (intOf s92).toNat)
        case atStart => exact ⟨0, by omega, rfl, HS5⟩
        case round =>
          obtain ⟨j, hj, rfl, HT⟩ := hrel
          by_cases hlt2 : j < k
          · have hjz : (j : Int) < k := by omega
            have hu8 : IntKind.u8.wrap (j : Int) = j := by
              rw [IntKind.wrap_u8]
              omega
            have HRj := Lib.hid (HR.out j hlt2 _ HT.out)
            have hE := HLE.out j
            rw [show ((UInt8.ofNat j).toNat : Int) = j by simp; omega] at hE
            have HE := Lib.hid hE
            clear HC HO HL HR HR2 HW2 HSh HLE hE
            go_wp2_with (first
              | (go_at_call 13; (with_reducible refine HRj.out.mono ?_); rintro e w6 ⟨v6, rfl, hs6⟩
                 obtain ⟨g6, o6, c6, rfl, -, -, hzc⟩ := (hs6.rowO 0 rfl).form hz0
                 have d6 := (hs6.rowO 0 rfl).cellAt 0 (by omega)
                 rw [HE.out, Nat.add_zero] at d6
                 have HS6 := Lib.hid hs6
                 clear hs6))
            go_roundw
            case rel => exact ⟨j + 1, by omega, by go_num, Lib.hid HS6.out.tail⟩
            case measure => simp [intOf]; omega
          · have hjz : ¬ (j : Int) < k := by omega
            obtain rfl : j = k := by omega
            clear HR HLE
            go_wp2_with (first
              | (go_at_call 13; (with_reducible refine (HR2.out _ HT.out).mono ?_); rintro e w6 ⟨v6, rfl, hs6⟩; have HS6 := Lib.hid hs6; clear hs6)
              | (go_at_call 12; (with_reducible refine (HW2.out _ _ HS6.out).mono ?_); rintro e w7 ⟨rfl, hs7⟩; have HS7 := Lib.hid hs7; clear hs7)
              | (go_at_call 18; (with_reducible refine (HSh.out _ _ _ HS7.out).mono ?_); rintro e w8 ⟨rfl, hs8⟩; have HS8 := Lib.hid hs8; clear hs8)
              | (go_at_call 10; (with_reducible refine (HA.out _).mono ?_); rintro e w9 ⟨rfl, hb9⟩))
            go_ret
            exact ⟨rfl, HS8.out.below.trans (hb9.mono HS8.out.hb)⟩
theorem ends_row (a : Int) (ha : (Lit.int .i64 a).wf = true) (n : Int) (hn : (Lit.int .i64 n).wf = true) (e : Int) (he : (Lit.int .i64 e).wf = true) (w : World) :
    Calls Try.prog 7 #[.int .i64 a, .int .i64 n, .int .i64 e] w fun r w' => r = .returned (.bool true) ∧ Below w.heap.size w w' := by
  by_cases h : okN 16 a = false ∨ n < 0 ∨ 16 < n ∨ (e ≠ 0 ∧ e ≠ 1)
  · exact ends_no a n e h w
  · have hok : okN 16 a = true := by
      cases h2 : okN 16 a
      · exact absurd (.inl h2) h
      · rfl
    rw [ok16, decide_eq_true_eq] at hok
    obtain ⟨z, rfl⟩ : ∃ z : Nat, a = z := ⟨a.toNat, by omega⟩
    obtain ⟨m, rfl⟩ : ∃ m : Nat, n = m := ⟨n.toNat, by omega⟩
    exact ends_yes z m (by omega) (by omega) (by omega) e (by omega) w
end Go.Proofs.Ytaiggfoeobehlaa.Ff
