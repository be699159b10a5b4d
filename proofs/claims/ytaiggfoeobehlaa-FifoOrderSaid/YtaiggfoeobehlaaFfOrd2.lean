/- FifoOrder: the walk. -/
import Derived.Test.YtaiggfoeobehlaaFfOrder
namespace Go.Proofs.Ytaiggfoeobehlaa.Ff
open Go Go.RowKit Go.Shelf Go.Proofs.Ytaiggfoeobehlaa.Mem
set_option linter.unusedVariables false
set_option linter.unusedSimpArgs false
set_option maxHeartbeats 4000000 in
theorem order_no (a z : Int) (A : Option Addr) (m c : Nat) (h : okN a z = false ∨ 200 < m) (w : World) :
    Calls Try.prog 3 #[.int .i64 a, .int .i64 z, .slice A m c] w fun r w' => r = .returned (.bool true) ∧ Below w.heap.size w w' := by
  have HA := Lib.hid awake_any
  have HR := Lib.hid (right_ref a z)
  have hB := (Star.nil w).newBlk 3 #[.int .i64 z]
  have c0 := (hB.blk 0 rfl).cellv (i := 0) rfl
  by_cases hok : okN a z = true
  · have h2 : 200 < m := by
      rcases h with h | h
      · rw [hok] at h
        cases h
      · exact h
    have hz := hok
    unfold okN at hz
    rw [Bool.and_eq_true, decide_eq_true_eq] at hz
    obtain ⟨⟨h1, -, h3, -, -⟩, -⟩ := hz
    obtain ⟨n, rfl⟩ : ∃ n : Nat, a = n := ⟨a.toNat, by omega⟩
    obtain ⟨y, rfl⟩ : ∃ y : Nat, z = y := ⟨z.toNat, by omega⟩
    have HN := Lib.hid (new_st hB n y hok)
    rw [hok] at HR
    have hm : (200 : Int) < m := by omega
    clear h hok hB
    go_enter Try.func3, Try.ntmps3
    go_wp2_with (first
      | (go_at_call 8; (with_reducible refine HN.out.mono ?_); rintro e w1 ⟨rfl, hs1⟩; have c1 := (hs1.blk 1 rfl).cellv (i := 0) rfl; have HS1 := Lib.hid hs1; clear hs1)
      | (go_at_call 9; (with_reducible refine (HR.out _).mono ?_); rintro e w2 ⟨rfl, rfl⟩)
      | (go_at_call 10; (with_reducible refine (HA.out _).mono ?_); rintro e w9 ⟨rfl, hb9⟩))
    go_ret
    exact ⟨rfl, HS1.out.below.trans (hb9.mono HS1.out.hb)⟩
  · have hf := Bool.eq_false_iff.2 hok
    have HN := Lib.hid (new_none a z hf)
    rw [hf] at HR
    have HB := Lib.hid hB
    clear h hok hf hB
    go_enter Try.func3, Try.ntmps3
    go_wp2_with (first
      | (go_at_call 8; (with_reducible refine (HN.out _).mono ?_); rintro e w1 ⟨rfl, rfl⟩)
      | (go_at_call 9; (with_reducible refine (HR.out _).mono ?_); rintro e w2 ⟨rfl, rfl⟩)
      | (go_at_call 10; (with_reducible refine (HA.out _).mono ?_); rintro e w9 ⟨rfl, hb9⟩))
    go_ret
    exact ⟨rfl, HB.out.below.trans (hb9.mono HB.out.hb)⟩
theorem goIn_two {n len k : Nat} (hl : len ≤ n) : (goIn n len k = 0 ∧ goSt n len k ≠ 0) ∨ (1 ≤ goIn n len k ∧ goIn n len k ≤ k ∧ len + goIn n len k ≤ n ∧ goSt n len k = 0) := by
  unfold goIn goSt
  by_cases hk : k = 0
  · rw [if_pos hk, if_pos hk]
    exact .inl ⟨rfl, by decide⟩
  · rw [if_neg hk, if_neg hk]
    by_cases hf : len = n
    · rw [if_pos hf, if_pos hf]
      exact .inl ⟨rfl, by decide⟩
    · rw [if_neg hf, if_neg hf]
      exact .inr ⟨by omega, by omega, by omega, rfl⟩
set_option maxRecDepth 8000 in
set_option maxHeartbeats 8000000 in
theorem order_yes (n z : Nat) (hok : okN n z = true) (A : Option Addr) (c : Nat) (l : List Int) (hl : l.length ≤ 200) (hw : ∀ x ∈ l, (Lit.int .i64 x).wf = true) (w : World) (hr : Reads w w.heap.size 1 A l.length (l.map (Value.int .i64))) :
    Calls Try.prog 3 #[.int .i64 n, .int .i64 z, .slice A l.length c] w fun r w' => r = .returned (.bool true) ∧ Below w.heap.size w w' := by
  have HA := Lib.hid awake_any
  have HR := Lib.hid (right_ref n z)
  rw [hok] at HR
  have hB := (Star.nil w).newBlk 3 #[.int .i64 z]
  have c0 := (hB.blk 0 rfl).cellv (i := 0) rfl
  have hz := hok
  unfold okN at hz
  rw [Bool.and_eq_true, decide_eq_true_eq] at hz
  obtain ⟨⟨h1, h2, h3, h4, -⟩, -⟩ := hz
  have hN := new_st hB n z hok
  rw [World.size_alloc] at hN
  have HN := Lib.hid hN
  have HRd := Lib.hid hr
  have HWf := Lib.hid hw
  have hz1 : 1 ≤ z := by omega
  have hz2 : z ≤ 64 := by omega
  have hn2 : n ≤ 1024 := by omega
  have hln : (l.length : Int) ≤ 200 := by omega
  obtain ⟨i0, hi0, hz0', hz1', hz2'⟩ := info_parts by_info
  clear hB hok hN hr hw
  go_enter Try.func3, Try.ntmps3
  go_wp2_with (first
    | (go_at_call 8; (with_reducible refine HN.out.mono ?_); rintro e w1 ⟨rfl, hs1⟩; have c1 := (hs1.blk 1 rfl).cellv (i := 0) rfl; have HS1 := Lib.hid hs1; clear hs1))
  go_loopw [8, 9, 46] (fun s8 s9 s46 wr => ∃ k o len : Nat, k ≤ l.length ∧ s46 = .int .i64 k ∧ s8 = .int .i64 ((o : Int) + len) ∧ s9 = .int .i64 o ∧ len ≤ n ∧ o + len ≤ 8 * k ∧ Hid (Star w wr [FoA (w.heap.size + 1) (OF n z o len), BlkA w.heap.size 3 #[.int .i64 z]])) (fun _ _ s46 _ => l.length - (intOf s46).toNat)
  case atStart => exact ⟨0, 0, 0, by omega, rfl, rfl, rfl, by omega, by omega, HS1⟩
  case round =>
    clear HS1 HN c1
    obtain ⟨k, o, len, hk, rfl, rfl, rfl, hlen, hol, HS⟩ := hrel
    by_cases hlt : k < l.length
    · obtain ⟨ad, u, rfl, had, hx, hcl⟩ := (HRd.out.below HS.out.below).at_ hlt
      obtain ⟨x, hxk⟩ : ∃ x, l[k]? = some x := ⟨_, List.getElem?_eq_getElem hlt⟩
      obtain rfl : u = .int .i64 x := by
        rw [List.getElem?_map, hxk] at hx
        exact (Option.some.inj hx).symm
      have hk0 : (0 : Int) ≤ k := by omega
      have hkl : (k : Int) < l.length := by omega
      have cz := (HS.out.blk 1 rfl).cellv (i := 0) rfl
      have hoi : (o : Int) ≤ 1600 := by omega
      have hli : (len : Int) ≤ 1024 := by omega
      have hni : (n : Int) ≤ 1024 := by omega
      have hzi : (z : Int) ≤ 64 := by omega
      clear hx hxk had
      by_cases hpos : 0 < x
      · obtain ⟨kk, hkk⟩ : ∃ kk : Nat, Int.tmod x 9 = kk := ⟨(x % 9).toNat, by rw [Int.tmod_eq_emod_of_nonneg (by omega)]; omega⟩
        have hkk8 : kk ≤ 8 := by rw [Int.tmod_eq_emod_of_nonneg (by omega)] at hkk; omega
        have hkk2 : x % 9 = (kk : Int) := by rw [Int.tmod_eq_emod_of_nonneg (by omega)] at hkk; exact hkk
        have hkki : (kk : Int) ≤ 8 := by omega
        go_wp2
        clear hkk hkk2
        go_loopw [14, 55] (fun s14 s55 wr2 => ∃ (i : Nat) (A1 : Option Addr) (m1 c1 : Nat), i ≤ kk ∧ s55 = .int .i64 i ∧ s14 = .slice A1 m1 c1 ∧ Hid (m1 = i * z) ∧ Hid (Star w wr2 [RowO 5 1 (.slice A1 m1 c1) m1 (byV (elms z (o + len) i).flatten), FoA (w.heap.size + 1) (OF n z o len), BlkA w.heap.size 3 #[.int .i64 z]])) (fun _ s55 _ => kk - (intOf s55).toNat)
        case atStart => exact ⟨0, none, 0, 0, by omega, rfl, rfl, Lib.hid (by omega), Lib.hid (HS.out.nilO 5 1)⟩
        case round =>
          obtain ⟨i, A1, m1, c1, hi, rfl, rfl, HM1, HT⟩ := hrel
          by_cases hlt2 : i < kk
          · have hiz : (i : Int) < kk := by omega
            have hE := element_any HT.out 2 w.heap.size z (o + len + i) rfl hz1 hz2 (by omega)
            rw [Int.natCast_add, Int.natCast_add] at hE
            have HE := Lib.hid hE
            have hm1 : m1 ≤ 512 := by
              rw [HM1.out]
              exact Nat.le_trans (Nat.mul_le_mul (show i ≤ 8 by omega) hz2) (by omega)
            have e1 : elms z (o + len) (i + 1) = elms z (o + len) i ++ [elm z (o + len + i)] := by
              rw [elms_add]
              rfl
            have HF : Hid ((byV (elms z (o + len) i).flatten) ++ byV (elm z (o + len + i)) = byV (elms z (o + len) (i + 1)).flatten) := Lib.hid (by rw [e1]; simp [byV])
            have HM2 : Hid (m1 + z = (i + 1) * z) := Lib.hid (by rw [HM1.out, Nat.add_mul, Nat.one_mul])
            have cz2 := (HT.out.blk 2 rfl).cellv (i := 0) rfl
            clear hE e1
            generalize elm z (o + len + i) = ee at *
            go_wp2_with (first
              | (go_at_call 11; (with_reducible refine HE.out.mono ?_); rintro e w3 ⟨rfl, hs3⟩; have HT3 := Lib.hid hs3; clear hs3)
              | (at_builtin; refine wpList_append_so rfl (.tmp 58) (.tmp 63) 27 rfl HT3.out 1 rfl i0 _ 1 Try.underlying27 hi0 hz0' hz1' hz2' rfl (by omega) rfl _ _ z z (byV ee) rfl (HT3.out.readsO 0 rfl) (byV_one _) (by simp only [maxLen]; omega) (by omega) ?_
                 intro v4 w4 hs4
                 simp only [List.set_cons_zero, List.set_cons_succ] at hs4
                 obtain ⟨A4, c4, rfl⟩ := (hs4.rowO 1 rfl).len
                 rw [HF.out] at hs4
                 have HT4 := Lib.hid hs4.tail
                 clear hs4))
            go_roundw
            case rel => exact ⟨i + 1, A4, m1 + z, c4, by omega, by go_num, rfl, HM2, HT4⟩
            case measure => simp [intOf]; omega
          · have hiz : ¬ (i : Int) < kk := by omega
            obtain rfl : i = kk := by omega
            have hm1 : m1 ≤ 512 := by
              rw [HM1.out]
              exact Nat.le_trans (Nat.mul_le_mul (show i ≤ 8 by omega) hz2) (by omega)
            have hW := write_st HT.out 1 rfl 1 A1 m1 c1 (elms z (o + len) i).flatten 0 rfl (by omega)
            rw [order_w hz1 hlen] at hW
            simp only [List.set_cons_zero, List.set_cons_succ] at hW
            have h2w := goIn_two (n := n) (len := len) (k := i) hlen
            obtain ⟨d, ed⟩ : ∃ d, d = goIn n len i := ⟨_, rfl⟩
            obtain ⟨st, est⟩ : ∃ st, st = goSt n len i := ⟨_, rfl⟩
            rw [← ed, ← est] at hW h2w
            have hdb : len + d ≤ n ∧ d ≤ 8 := by omega
            have HW := Lib.hid hW
            have hL := fun (W : World) (A' : Asr) (h : Star w W [A', FoA (w.heap.size + 1) (OF n z o (len + d)), BlkA w.heap.size 3 #[.int .i64 z]]) => len_st h 1 rfl 0
            rw [show lenO (OF n z o (len + d)) 0 = ((len + d : Nat) : Int) by show ((elms z o (len + d)).length : Int) = _; rw [elms_len], Int.natCast_add] at hL
            have HL := Lib.hid hL
            have hdi : (d : Int) ≤ 8 := by omega
            have hsum : (len : Int) + d ≤ n := by omega
            have hne : (((len : Int) + d) != ((o : Int) + len + d - o)) = false := by simp; omega
            have hne2 : ((o : Int) + len + d - o) = (len : Int) + d := by omega
            clear hW hL ed est HM1
            rcases h2w with ⟨hd0, hst⟩ | ⟨hd1, hd2, -, hst⟩
            · have hsb : (st == 0) = false := by simpa using hst
              clear hd0 hst
              go_wp2_with (first
                | (go_at_call 12; (with_reducible refine HW.out.mono ?_); rintro e w5 ⟨rfl, hs5⟩; have HT5 := Lib.hid hs5; clear hs5)
                | (go_at_call 15; (with_reducible refine (HL.out _ _ HT5.out).mono ?_); rintro e w6 ⟨rfl, hs6⟩; have HT6 := Lib.hid hs6; clear hs6))
              go_roundw
              case rel => exact ⟨k + 1, o, len + d, by omega, by go_num, by go_num, rfl, by omega, by omega, Lib.hid HT6.out.tail⟩
              case measure => simp [intOf]; omega
            · subst hst
              have hd1i : (1 : Int) ≤ d := by omega
              have hd2i : (d : Int) ≤ i := by omega
              go_wp2_with (first
                | (go_at_call 12; (with_reducible refine HW.out.mono ?_); rintro e w5 ⟨rfl, hs5⟩; have HT5 := Lib.hid hs5; clear hs5)
                | (go_at_call 15; (with_reducible refine (HL.out _ _ HT5.out).mono ?_); rintro e w6 ⟨rfl, hs6⟩; have HT6 := Lib.hid hs6; clear hs6))
              go_roundw
              case rel => exact ⟨k + 1, o, len + d, by omega, by go_num, by go_num, rfl, by omega, by omega, Lib.hid HT6.out.tail⟩
              case measure => simp [intOf]; omega
      · obtain ⟨kk, hkk⟩ : ∃ kk : Nat, Int.tmod x 9 = -(kk : Int) := ⟨((-x) % 9).toNat, by
          have e1 : Int.tmod (-x) 9 = -(Int.tmod x 9) := Int.neg_tmod x 9
          rw [Int.tmod_eq_emod_of_nonneg (by omega)] at e1
          omega⟩
        have hkk8 : kk ≤ 8 := by
          have e1 : Int.tmod (-x) 9 = -(Int.tmod x 9) := Int.neg_tmod x 9
          rw [Int.tmod_eq_emod_of_nonneg (by omega)] at e1
          omega
        have hkki : (kk : Int) ≤ 8 := by omega
        obtain ⟨st, hst⟩ := order_r (n := n) (z := z) (o := o) (len := len) (k := kk)
        have hRd := read_st HS.out 0 rfl 0 (kk : Int) (by omega)
        rw [hst] at hRd
        simp only [elms_flat, List.set_cons_zero] at hRd
        have hK8 : goOut len kk ≤ 8 ∧ goOut len kk ≤ len := by unfold goOut; omega
        generalize goOut len kk = K at hRd hK8
        obtain ⟨hK8, hKl⟩ := hK8
        obtain ⟨T, eT⟩ : ∃ T, T = K * z := ⟨_, rfl⟩
        have hT : T ≤ 512 := by
          rw [eT]
          exact Nat.le_trans (Nat.mul_le_mul hK8 hz2) (by omega)
        rw [← eT] at hRd
        have HRd2 := Lib.hid hRd
        have ET := Lib.hid eT
        have hTi : (T : Int) ≤ 512 := by omega
        clear hRd hst eT
        go_wp2_with (first
          | (go_at_call 13; (with_reducible refine HRd2.out.mono ?_); rintro e w3 ⟨v3, rfl, hs3⟩
             obtain ⟨A3, c3, rfl⟩ := (hs3.rowO 0 rfl).len
             have HT3 := Lib.hid hs3
             clear hs3))
        clear hkk
        go_loopw [9, 20] (fun s9 s20 wr2 => ∃ i q : Nat, i ≤ K ∧ s9 = .int .i64 ((o : Int) + i) ∧ s20 = .int .i64 q ∧ Hid (q = i * z) ∧ Hid (Star w wr2 [RowO 5 1 (.slice A3 T c3) T (byV (elms z o K).flatten), FoA (w.heap.size + 1) (OF n z (o + K) (len - K)), BlkA w.heap.size 3 #[.int .i64 z]])) (fun s9 _ _ => (o + K) - (intOf s9).toNat)
        case atStart => exact ⟨0, 0, by omega, by go_num, rfl, Lib.hid (by omega), HT3⟩
        case round =>
          clear HT3 HRd2
          obtain ⟨i, q, hi, rfl, rfl, HQ, HT⟩ := hrel
          by_cases hlt2 : i < K
          · have hsl := slot_in i K z hlt2
            rw [← HQ.out, ← ET.out] at hsl
            have hq0 : (0 : Int) ≤ q := by omega
            have hqT : (q : Int) < T := by omega
            have hqz : (q : Int) + z ≤ T := by omega
            have hii : (i : Int) ≤ 8 := by omega
            have ho := HT.out.rowO 0 rfl
            obtain ⟨g, off, cc, hv, -, -, hTc⟩ := ho.form (by omega)
            simp only [Value.slice.injEq, true_and] at hv
            obtain ⟨rfl, rfl⟩ := hv
            have hqc : (q : Int) + z ≤ c3 := by omega
            have hqc2 : q + z ≤ c3 := by omega
            have hE := element_any (star_dr HT.out) 2 w.heap.size z (o + i) rfl hz1 hz2 (by omega)
            rw [Int.natCast_add, show wr.drew.heap.size = wr.heap.size from rfl] at hE
            have HE := Lib.hid hE
            have cz2 := ((star_dr HT.out).blk 2 rfl).cellv (i := 0) rfl
            obtain ⟨r, hr⟩ : ∃ r, r = q + z := ⟨_, rfl⟩
            have hri : (q : Int) + z = (r : Int) := by omega
            have hwr : IntKind.i64.wrap (r : Int) = (r : Int) := by rw [IntKind.wrap_i64]; omega
            have hrq : q ≤ r := by omega
            have hrc : r ≤ c3 := by omega
            have hrqi : (q : Int) ≤ r := by omega
            have hrci : (r : Int) ≤ c3 := by omega
            have hr0 : (0 : Int) ≤ r := by omega
            have hcq : ¬ c3 = q := by omega
            have hch : ((byV (elms z o K).flatten).drop q).take z = byV (elm z (o + i)) := by
              rw [HQ.out, byV_chunk, chunk_flat _ _ (fun e he => by obtain ⟨j, -, rfl⟩ := List.mem_map.1 he; exact elm_len _ _) (by rw [elms_len]; exact hlt2)]
              simp [elms, hlt2]
            have HRr : Hid (∀ W B, OwnO W B 5 1 (.slice (some ⟨g, off, none⟩) T c3) T (byV (elms z o K).flatten) → Reads W W.heap.size 1 (some ⟨g, off + q, none⟩) (r - q) (byV (elm z (o + i)))) := Lib.hid (fun W B h => by
              have h1 := (h.cut (k := q) (by omega)).head (k := z) (by omega)
              rw [if_neg (by omega)] at h1
              simp only [Option.map_some, Nat.mul_one, addr_at] at h1
              rw [hch] at h1
              rw [show r - q = z by omega]
              exact h1.reads)
            have HRq := Lib.hid hr
            clear hqz hqc hqc2 hr hsl hch
            have hk1 : wr.drew.cell? ⟨w.heap.size, 0, none⟩ = some (.int .i64 z) := cz2
            go_wp2
            go_region_held3 (fun w' => w'.cell? ⟨w.heap.size, 0, none⟩ = some (.int .i64 z)) (first | exact hk2 | exact hk1)
              (first
              | (go_at_call 11; (with_reducible refine HE.out.mono ?_); rintro e w4 ⟨rfl, hs4⟩
                 have HT4 := Lib.hid hs4
                 have hk2 : w4.cell? ⟨w.heap.size, 0, none⟩ = some (.int .i64 z) := (hs4.blk 3 rfl).cellv (i := 0) rfl
                 have HSm := Lib.hid (fun c5 c6 : Nat => same_any (c := c5) (c' := c6) (HRr.out _ _ (hs4.rowO 1 rfl)) (hs4.readsO 0 rfl))
                 simp only [decide_true] at HSm
                 clear hs4)
              | (go_at_call 14; (with_reducible refine (HSm.out _ _).mono ?_); rintro e w5 ⟨rfl, rfl⟩))
            all_goals
              have HT5 := Lib.hid HT4.out.tail
              clear HRr HE
              go_wp2
              go_roundw
              case rel => exact ⟨i + 1, r, by omega, by go_num, by go_num, Lib.hid (by rw [HRq.out, HQ.out, Nat.add_mul, Nat.one_mul]), HT5⟩
              case measure => simp [intOf]; omega
          · have hqT : ¬ (q : Int) < T := by
              obtain rfl : i = K := by omega
              rw [HQ.out, ET.out]
              omega
            obtain rfl : i = K := by omega
            have hL := fun (W : World) (A' : Asr) (h : Star w W [A', FoA (w.heap.size + 1) (OF n z (o + i) (len - i)), BlkA w.heap.size 3 #[.int .i64 z]]) => len_st h 1 rfl 0
            rw [show lenO (OF n z (o + i) (len - i)) 0 = ((len : Int) - i) by show ((elms z (o + i) (len - i)).length : Int) = _; rw [elms_len]; omega] at hL
            have HL := Lib.hid hL
            have hne : (((len : Int) - i) != ((o : Int) + len - (o + i))) = false := by simp; omega
            have hle : ¬ ((o : Int) + len - (o + i)) > n := by omega
            have hle2 : (i : Int) ≤ len := by omega
            clear hL
            go_wp2_with (first
              | (go_at_call 15; (with_reducible refine (HL.out _ _ HT.out).mono ?_); rintro e w6 ⟨rfl, hs6⟩; have HT6 := Lib.hid hs6; clear hs6))
            go_roundw
            case rel => exact ⟨k + 1, o + i, len - i, by omega, by go_num, by go_num, by go_num, by omega, by omega, Lib.hid HT6.out.tail⟩
            case measure => simp [intOf]; omega
    · have hkl : ¬ (k : Int) < l.length := by omega
      obtain rfl : k = l.length := by omega
      go_wp2_with (first
        | (go_at_call 10; (with_reducible refine (HA.out _).mono ?_); rintro e w9 ⟨rfl, hb9⟩))
      go_ret
      exact ⟨rfl, HS.out.below.trans (hb9.mono HS.out.hb)⟩
theorem order_row (a : Int) (ha : (Lit.int .i64 a).wf = true) (b : Int) (hb : (Lit.int .i64 b).wf = true) (A : Option Addr) (c : Nat) (l : List Int) (w : World) (hr : Reads w w.heap.size 1 A l.length (l.map (Value.int .i64))) (hm : l.length ≤ maxLen) (hl : ∀ x ∈ l, (Lit.int .i64 x).wf = true) :
    Calls Try.prog 3 #[.int .i64 a, .int .i64 b, .slice A l.length c] w fun r w' => r = .returned (.bool true) ∧ Below w.heap.size w w' := by
  by_cases h : okN a b = false ∨ 200 < l.length
  · exact order_no a b A l.length c h w
  · have hok : okN a b = true := by
      cases h2 : okN a b
      · exact absurd (.inl h2) h
      · rfl
    have hlen : l.length ≤ 200 := by
      rcases Nat.lt_or_ge 200 l.length with h2 | h2
      · exact absurd (.inr h2) h
      · exact h2
    have hz := hok
    unfold okN at hz
    rw [Bool.and_eq_true, decide_eq_true_eq] at hz
    obtain ⟨⟨h1, -, h3, -, -⟩, -⟩ := hz
    obtain ⟨n, rfl⟩ : ∃ n : Nat, a = n := ⟨a.toNat, by omega⟩
    obtain ⟨y, rfl⟩ : ∃ y : Nat, b = y := ⟨b.toNat, by omega⟩
    exact order_yes n y hok A c l hlen hl w hr
end Go.Proofs.Ytaiggfoeobehlaa.Ff
