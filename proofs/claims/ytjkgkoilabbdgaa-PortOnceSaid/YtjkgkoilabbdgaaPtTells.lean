/- The walk of PortTells. -/
import Derived.Test.YtjkgkoilabbdgaaPtO
namespace Go.Proofs.Ytjkgkoilabbdgaa.Pt
open Go Go.RowKit Go.Proofs.Ytjkgkoilabbdgaa.Mem
set_option linter.unusedVariables false
set_option linter.unusedSimpArgs false
theorem and_comm64 (x y : Int) : bits .and .i64 x y = bits .and .i64 y x := by
  show IntKind.i64.wrap ((BitVec.ofInt 64 x &&& BitVec.ofInt 64 y).toNat : Int) = IntKind.i64.wrap ((BitVec.ofInt 64 y &&& BitVec.ofInt 64 x).toNat : Int)
  rw [BitVec.and_comm]
theorem and_zero64 (y : Int) : bits .and .i64 0 y = 0 := by
  show IntKind.i64.wrap ((BitVec.ofInt 64 0 &&& BitVec.ofInt 64 y).toNat : Int) = 0
  rw [show BitVec.ofInt 64 0 = 0#64 from rfl, BitVec.zero_and]
  rfl
def twm (ob m : Int) (i : Nat) : List T3 := if m = 0 then [] else [⟨ob, i, m⟩]
def tw (l : List Int) (ob : Int) (i : Nat) : List T3 := twm ob (l.getD i 0) i ++ [⟨ob + 1, i, 1⟩]
def tws (l : List Int) (ob : Int) (k : Nat) : List T3 := (List.range k).flatMap (tw l ob)
def hitB (l : List Int) (sh : Int) (i : Nat) : Bool := bits .and .i64 (l.getD i 0) sh != 0
def wnt (l : List Int) (sh : Int) (k : Nat) : List Nat := (List.range k).filter (hitB l sh)
theorem tws_succ (l : List Int) (ob : Int) (k : Nat) : tws l ob (k + 1) = tws l ob k ++ tw l ob k := by simp [tws, List.range_succ]
theorem wnt_succ (l : List Int) (sh : Int) (k : Nat) : wnt l sh (k + 1) = wnt l sh k ++ if hitB l sh k then [k] else [] := by
  unfold wnt
  rw [List.range_succ, List.filter_append]
  cases h : hitB l sh k <;> simp [h]
theorem tws_len (l : List Int) (ob : Int) (k : Nat) : (tws l ob k).length ≤ 2 * k := by
  induction k with
  | zero => simp [tws]
  | succ k ih =>
    rw [tws_succ, List.length_append]
    have : (tw l ob k).length ≤ 2 := by unfold tw twm; split <;> simp
    omega
theorem wnt_len (l : List Int) (sh : Int) (k : Nat) : (wnt l sh k).length ≤ k := by
  have := List.length_filter_le (hitB l sh) (List.range k)
  rw [List.length_range] at this
  exact this
theorem tws_fires (l : List Int) (ob sh : Int) (k : Nat) : (tws l ob k).filter (firesP ob sh) = (wnt l sh k).map fun i : Nat => ⟨ob, (i : Int), l.getD i 0⟩ := by
  induction k with
  | zero => rfl
  | succ k ih =>
    rw [tws_succ, wnt_succ, List.filter_append, List.map_append, ih]
    congr 1
    unfold tw twm hitB
    have e2 : (ob + 1 == ob) = false := beq_eq_false_iff_ne.mpr (by omega)
    rw [and_comm64]
    by_cases hm : l.getD k 0 = 0
    · rw [if_pos hm, hm, and_comm64, and_zero64]
      simp [firesP, e2]
    · rw [if_neg hm]
      by_cases hb : (bits .and .i64 sh (l.getD k 0) != 0) = true
      · rw [if_pos hb]
        have e3 : firesP ob sh ⟨ob, (k : Int), l.getD k 0⟩ = true := by unfold firesP; simp only [beq_self_eq_true, Bool.true_and]; exact hb
        have e4 : firesP ob sh ⟨ob + 1, (k : Int), 1⟩ = false := by unfold firesP; simp only [e2, Bool.false_and]
        simp only [List.cons_append, List.nil_append, List.filter_cons, e3, e4, if_true, Bool.false_eq_true, if_false, List.filter_nil, List.map_cons, List.map_nil]
      · rw [if_neg hb]
        have e3 : firesP ob sh ⟨ob, (k : Int), l.getD k 0⟩ = false := by unfold firesP; simp only [beq_self_eq_true, Bool.true_and]; simpa using hb
        have e4 : firesP ob sh ⟨ob + 1, (k : Int), 1⟩ = false := by unfold firesP; simp only [e2, Bool.false_and]
        simp only [List.cons_append, List.nil_append, List.filter_cons, e3, e4, if_true, Bool.false_eq_true, if_false, List.filter_nil, List.map_cons, List.map_nil]
def po5 (l : List Int) (ob : Int) (k : Nat) : Po := ⟨[], tws l ob k, 1, 100⟩
def po6 (l : List Int) (ob : Int) (k : Nat) : Po := ⟨[], tws l ob k ++ twm ob (l.getD k 0) k, 1, 100⟩
theorem watch1 (l : List Int) (ob : Int) (k : Nat) (m : Int) (hm : l.getD k 0 = m) (ho : 1 ≤ ob) (hk : k ≤ 40) : watchS (po5 l ob k) ob k m = (if m = 0 then -10 else 0, po6 l ob k) := by
  have hl := tws_len l ob k
  unfold watchS po6 twm
  rw [hm]
  by_cases h : m = 0
  · rw [if_pos (.inr h), if_pos h, if_pos h, List.append_nil]
    rfl
  · have h3 : ¬ (po5 l ob k).m ≤ (po5 l ob k).ws.length + objsN (po5 l ob k).q := by show ¬ 100 ≤ (tws l ob k).length + 0; omega
    rw [if_neg (by omega), if_neg h, if_neg h, if_neg h3]
    rfl
theorem watch2 (l : List Int) (ob : Int) (k : Nat) (ho : 1 ≤ ob) (hk : k ≤ 40) : watchS (po6 l ob k) (ob + 1) k 1 = (0, po5 l ob (k + 1)) := by
  have hl := tws_len l ob k
  have h2 : (twm ob (l.getD k 0) k).length ≤ 1 := by unfold twm; split <;> simp
  unfold watchS
  have h3 : ¬ (po6 l ob k).m ≤ (po6 l ob k).ws.length + objsN (po6 l ob k).q := by show ¬ 100 ≤ (tws l ob k ++ twm ob (l.getD k 0) k).length + 0; rw [List.length_append]; omega
  rw [if_neg (by omega), if_neg h3]
  unfold addS po5 po6
  rw [tws_succ]
  unfold tw
  simp
def pk5 (ob sh : Int) (W : List Nat) : List T3 := W.map fun i : Nat => ⟨(i : Int), ob, sh⟩
def po7 (l : List Int) (ob sh : Int) (n : Nat) : Po := ⟨pk5 ob sh (wnt l sh n), nots (firesP ob sh) (tws l ob n), 1, 100⟩
theorem tell1 (l : List Int) (ob sh : Int) (n : Nat) : tellS (po5 l ob n) ob sh = (((wnt l sh n).length : Int), po7 l ob sh n) := by
  unfold tellS toldN toldQ po7 po5 pk5
  simp only
  rw [List.take_length, tws_fires]
  simp
theorem tell2 (l : List Int) (ob sh : Int) (n : Nat) : (tellS (po7 l ob sh n) ob sh).1 = 0 := by
  unfold tellS toldN po7
  simp only
  rw [List.take_length]
  unfold nots
  rw [List.filter_filter]
  simp
theorem still (l : List Int) (ob sh : Int) (n : Nat) : watchedN (po7 l ob sh n) (ob + 1) (po7 l ob sh n).ws.length = watchedN (po5 l ob n) (ob + 1) (po5 l ob n).ws.length := by
  unfold watchedN
  rw [List.take_length, List.take_length]
  unfold po7 po5 nots
  simp only
  rw [List.countP_filter]
  refine List.countP_congr fun x _ => ?_
  unfold ofP firesP
  by_cases h : x.a = ob + 1
  · simp [h]
    left
    omega
  · simp [h]
theorem pk5_len (ob sh : Int) (W : List Nat) : (pk5 ob sh W).length = W.length := by simp [pk5]
theorem po5_ws (l : List Int) (ob : Int) (k : Nat) : (po5 l ob k).ws.length ≤ 2 * k := tws_len l ob k
theorem po6_ws (l : List Int) (ob : Int) (k : Nat) : (po6 l ob k).ws.length ≤ 2 * k + 1 := by
  have hl := tws_len l ob k
  have h2 : (twm ob (l.getD k 0) k).length ≤ 1 := by unfold twm; split <;> simp
  show (tws l ob k ++ twm ob (l.getD k 0) k).length ≤ _
  rw [List.length_append]
  omega
theorem po7_ws (l : List Int) (ob sh : Int) (k : Nat) : (po7 l ob sh k).ws.length ≤ 2 * k := Nat.le_trans (nots_le _ _) (tws_len l ob k)
theorem it_info : (Try.prog.info? 3).map (fun i => (i.zero, i.size, i.bytes)) = some (some (.int .i64 0), 1, 8) := by kernel_rfl
def ixV (W : List Nat) : List Value := W.map fun j : Nat => Value.int .i64 (j : Int)
theorem ixV_one (W : List Nat) : ∀ u ∈ ixV W, u.oneCell' = true := fun u hu => by
  obtain ⟨x, -, rfl⟩ := List.mem_map.1 hu
  rfl
theorem ixV_len (W : List Nat) : (ixV W).length = W.length := by simp [ixV]
theorem ixV_app (W : List Nat) (k : Nat) : ixV W ++ [Value.int .i64 (k : Int)] = ixV (W ++ [k]) := by simp [ixV]
set_option maxRecDepth 8000 in
set_option maxHeartbeats 8000000 in
theorem tells_walk (A : Option Addr) (c : Nat) (l : List Int) (ob sh : Int) (hob : -9223372036854775808 ≤ ob ∧ ob ≤ 9223372036854775807) (w : World) (hr : Reads w w.heap.size 1 A l.length (l.map (Value.int .i64))) (hm : l.length ≤ maxLen) :
    Calls Try.prog 5 #[.slice A l.length c, .int .i64 ob, .int .i64 sh] w fun e w' => e = .returned (.bool true) ∧ Below w.heap.size w w' := by
  have HA := Lib.hid awake_any
  unfold maxLen at hm
  have hN := new_any (Star.nil w) 1 100 (by omega) (by omega) (by omega)
  rw [show ((1 : Nat) : Int) = 1 from rfl, show ((100 : Nat) : Int) = 100 from rfl] at hN
  have HN := Lib.hid hN
  clear hN
  obtain ⟨ob1, ob2⟩ := hob
  by_cases hbad : 40 < l.length ∨ ob < 1 ∨ ob = 9223372036854775807
  · have hc : 40 < l.length ∨ (l.length ≤ 40 ∧ ob < 1) ∨ (l.length ≤ 40 ∧ 1 ≤ ob ∧ ob = 9223372036854775807) := by omega
    clear hr hbad
    generalize l.length = n at *
    rcases hc with h1 | ⟨h1, h2⟩ | ⟨h1, h2, h3⟩
    · have h4 : (40 : Int) < n := by omega
      go_enter Try.func5, Try.ntmps5
      go_wp2_with (first
        | (go_at_call 8; (with_reducible refine HN.out.mono ?_); rintro e w1 ⟨rfl, hs1⟩)
        | (go_at_call 9; (with_reducible refine (HA.out _).mono ?_); rintro e w2 ⟨rfl, hb2⟩))
      go_ret
      exact ⟨rfl, hs1.below.trans (hb2.mono hs1.below.size)⟩
    · have h4 : (n : Int) ≤ 40 := by omega
      go_enter Try.func5, Try.ntmps5
      go_wp2_with (first
        | (go_at_call 8; (with_reducible refine HN.out.mono ?_); rintro e w1 ⟨rfl, hs1⟩)
        | (go_at_call 9; (with_reducible refine (HA.out _).mono ?_); rintro e w2 ⟨rfl, hb2⟩))
      go_ret
      exact ⟨rfl, hs1.below.trans (hb2.mono hs1.below.size)⟩
    · have h4 : (n : Int) ≤ 40 := by omega
      subst h3
      go_enter Try.func5, Try.ntmps5
      go_wp2_with (first
        | (go_at_call 8; (with_reducible refine HN.out.mono ?_); rintro e w1 ⟨rfl, hs1⟩)
        | (go_at_call 9; (with_reducible refine (HA.out _).mono ?_); rintro e w2 ⟨rfl, hb2⟩))
      go_ret
      exact ⟨rfl, hs1.below.trans (hb2.mono hs1.below.size)⟩
  · have hl40' : l.length ≤ 40 := by omega
    have hl40 : (l.length : Int) ≤ 40 := by omega
    have h1 : 1 ≤ ob := by omega
    have h2 : ob < 9223372036854775807 := by omega
    have h3 : (ob == 9223372036854775807) = false := beq_eq_false_iff_ne.mpr (by omega)
    have HR := Lib.hid hr
    have H1 := Lib.hid h1
    obtain ⟨i0, hi0, hz0, hz1, hz2⟩ := info_parts it_info
    clear hr hbad
    go_enter Try.func5, Try.ntmps5
    go_wp2_with (first
      | (go_at_call 8; (with_reducible refine HN.out.mono ?_); rintro e w1 ⟨rfl, hs1⟩
         have HS1 : Hid (Star w w1 [PtA w.heap.size (po5 l ob 0), RowO 3 1 (.slice none 0 0) 0 (ixV [])]) := Lib.hid ((hs1.nilO 3 1).perm (List.Perm.swap _ _ _))
         clear hs1))
    go_loopw [8, 38] (fun v i wr => ∃ (k : Nat) (A6 : Option Addr) (n6 c6 : Nat), k ≤ l.length ∧ i = .int .i64 k ∧ v = .slice A6 n6 c6 ∧ Hid (n6 = (wnt l sh k).length) ∧ n6 ≤ k ∧ Hid (Star w wr [PtA w.heap.size (po5 l ob k), RowO 3 1 (.slice A6 n6 c6) n6 (ixV (wnt l sh k))])) (fun _ i _ => l.length - (intOf i).toNat)
    case atStart => exact ⟨0, none, 0, 0, by omega, rfl, rfl, Lib.hid rfl, by omega, HS1⟩
    case round =>
      clear HS1 HN
      obtain ⟨k, A6, n6, c6, hk, rfl, rfl, HNW, hnk, HS⟩ := hrel
      by_cases hlt : k < l.length
      · obtain ⟨ad, u, rfl, had, hx, hcl⟩ := (HR.out.below HS.out.below).at_ hlt
        obtain ⟨x, hxk⟩ : ∃ x, l[k]? = some x := ⟨_, List.getElem?_eq_getElem hlt⟩
        obtain rfl : u = .int .i64 x := by
          rw [List.getElem?_map, hxk] at hx
          exact (Option.some.inj hx).symm
        have hk0 : (0 : Int) ≤ k := by omega
        have hkl : (k : Int) < l.length := by omega
        have hgd : l.getD k 0 = x := by rw [List.getD_eq_getElem?_getD, hxk]; rfl
        have hp5 := po5_ws l ob k
        have hp6 := po6_ws l ob k
        have hQ1 := fun (W' : World) (L : List Asr) (h : Star w W' (PtA w.heap.size (po5 l ob k) :: L)) => watch_st h 0 rfl (by show 0 ≤ _; omega) (by omega) ob k x
        rw [watch1 l ob k x hgd H1.out (by omega)] at hQ1
        have hQ2 := fun (W' : World) (L : List Asr) (h : Star w W' (PtA w.heap.size (po6 l ob k) :: L)) => watch_st h 0 rfl (by show 0 ≤ _; omega) (by omega) (ob + 1) k 1
        rw [watch2 l ob k H1.out (by omega)] at hQ2
        simp only [List.set_cons_zero] at hQ1 hQ2
        have hws := wnt_succ l sh k
        unfold hitB at hws
        rw [hgd] at hws
        have HQ2 := Lib.hid hQ2
        have e80 : (n6 : Int) ≤ 40 := by omega
        clear hx hxk had hgd hp5 hp6 hQ2
        by_cases hx0 : x = 0
        · subst hx0
          rw [if_pos rfl] at hQ1
          rw [and_zero64] at hws
          simp only [bne_self_eq_false, Bool.false_eq_true, if_false, List.append_nil] at hws
          have HW := Lib.hid hws
          have HQ1 := Lib.hid hQ1
          have hb0 := and_zero64 sh
          clear hQ1 hws
          go_wp2_with (first
            | (go_at_call 13; (with_reducible refine (HQ1.out _ _ HS.out).mono ?_); rintro e w3 ⟨rfl, hs3⟩
               have HS3 := Lib.hid hs3
               clear hs3)
            | (go_at_call 13; (with_reducible refine (HQ2.out _ _ HS3.out).mono ?_); rintro e w4 ⟨rfl, hs4⟩
               have HS4 := Lib.hid hs4
               clear hs4))
          go_roundw
          case rel =>
            have h5 := HS4.out
            rw [← HW.out] at h5
            exact ⟨k + 1, A6, n6, c6, by omega, by go_num, rfl, Lib.hid (by rw [HW.out]; exact HNW.out), by omega, Lib.hid h5⟩
          case measure => simp [intOf]; omega
        · rw [if_neg hx0] at hQ1
          have HQ1 := Lib.hid hQ1
          have z1 : (x == 0) = false := beq_eq_false_iff_ne.mpr hx0
          have z2 : (x != 0) = true := bne_iff_ne.mpr hx0
          by_cases hb : (bits .and .i64 x sh != 0) = true
          · rw [if_pos hb] at hws
            have HW := Lib.hid hws
            clear hQ1 hws hx0
            go_wp2_with (first
              | (go_at_call 13; (with_reducible refine (HQ1.out _ _ HS.out).mono ?_); rintro e w3 ⟨rfl, hs3⟩
                 have HS3 := Lib.hid hs3
                 clear hs3)
              | (go_at_call 13; (with_reducible refine (HQ2.out _ _ HS3.out).mono ?_); rintro e w4 ⟨rfl, hs4⟩
                 have HS4 := Lib.hid hs4
                 clear hs4)
              | (at_builtin; refine wpList_append_so rfl (.tmp 65) (.tmp 67) 22 rfl (HS4.out.alloc _) 1 rfl i0 _ 8 Try.underlying22 hi0 hz0 hz1 hz2 rfl (by omega) (by rfl) _ (some ⟨w4.heap.size, 0, none⟩) 1 1 [.int .i64 k] (by rfl) (reads_fresh_at _ 3 [.int .i64 k] 1 1 w4.heap.size rfl (by simp)) (ixV_one [k]) (by simp only [maxLen]; omega) (by omega) ?_
                 intro v5 w5 hs5
                 simp only [List.set_cons_zero, List.set_cons_succ] at hs5
                 obtain ⟨A5, c5, rfl⟩ := (hs5.rowO 1 rfl).len
                 have HS5 := Lib.hid hs5
                 clear hs5))
            go_roundw
            case rel =>
              have h5 := HS5.out
              rw [ixV_app, ← HW.out] at h5
              exact ⟨k + 1, A5, n6 + 1, c5, by omega, by go_num, rfl, Lib.hid (by rw [HW.out, List.length_append, ← HNW.out]; rfl), by omega, Lib.hid h5⟩
            case measure => simp [intOf]; omega
          · rw [if_neg hb, List.append_nil] at hws
            have hb' : (bits .and .i64 x sh != 0) = false := by simpa using hb
            have HW := Lib.hid hws
            clear hQ1 hws hx0 hb
            go_wp2_with (first
              | (go_at_call 13; (with_reducible refine (HQ1.out _ _ HS.out).mono ?_); rintro e w3 ⟨rfl, hs3⟩
                 have HS3 := Lib.hid hs3
                 clear hs3)
              | (go_at_call 13; (with_reducible refine (HQ2.out _ _ HS3.out).mono ?_); rintro e w4 ⟨rfl, hs4⟩
                 have HS4 := Lib.hid hs4
                 clear hs4))
            go_roundw
            case rel =>
              have h5 := HS4.out
              rw [← HW.out] at h5
              exact ⟨k + 1, A6, n6, c6, by omega, by go_num, rfl, Lib.hid (by rw [HW.out]; exact HNW.out), by omega, Lib.hid h5⟩
            case measure => simp [intOf]; omega
      · have hkl : k = l.length := by omega
        have hlt' : ¬ ((k : Int) < l.length) := by omega
        subst hkl
        have hp5 := po5_ws l ob l.length
        have hp7 := po7_ws l ob sh l.length
        have hwl := wnt_len l sh l.length
        have hst := still l ob sh l.length
        have e40 : (n6 : Int) ≤ 40 := by omega
        have hq7 : (po7 l ob sh l.length).q.length = n6 := by rw [HNW.out]; exact pk5_len _ _ _
        have hC := fun (W' : World) (L : List Asr) (h : Star w W' (PtA w.heap.size (po5 l ob l.length) :: L)) => watched_st h 0 rfl (by omega) (ob + 1)
        have hT := fun (W' : World) (L : List Asr) (h : Star w W' (PtA w.heap.size (po5 l ob l.length) :: L)) => tell_st h 0 rfl (by show 0 + _ ≤ _; omega) ob sh
        rw [tell1, ← HNW.out] at hT
        have hL := fun (W' : World) (L : List Asr) (h : Star w W' (PtA w.heap.size (po7 l ob sh l.length) :: L)) => len_st h 0 rfl
        rw [hq7] at hL
        have hC2 := fun (W' : World) (L : List Asr) (h : Star w W' (PtA w.heap.size (po7 l ob sh l.length) :: L)) => watched_st h 0 rfl (by omega) (ob + 1)
        rw [hst] at hC2
        have hK := fun (W' : World) (L : List Asr) (h : Star w W' (PtA w.heap.size (po7 l ob sh l.length) :: L)) => packets_st h 0 rfl (by rw [hq7]; omega)
        rw [hq7] at hK
        have hT2 := fun (W' : World) (L : List Asr) (Z : Asr) (h : Star w W' (Z :: PtA w.heap.size (po7 l ob sh l.length) :: L)) => tell_st h 1 rfl (by rw [hq7]; omega) ob sh
        rw [tell2] at hT2
        simp only [List.set_cons_zero, List.set_cons_succ] at hT hT2
        generalize watchedN (po5 l ob l.length) (ob + 1) (po5 l ob l.length).ws.length = oth at *
        have HC := Lib.hid hC
        have HT := Lib.hid hT
        have HL := Lib.hid hL
        have HC2 := Lib.hid hC2
        have HK := Lib.hid hK
        have HT2 := Lib.hid hT2
        have z1 : ((n6 : Int) != (n6 : Int)) = false := by simp
        have z2 : ((oth : Int) != (oth : Int)) = false := by simp
        clear hlt hC hT hL hC2 hK hT2 hst hq7 hp5 hp7 hwl hk hl40 hl40'
        go_wp2_with (first
          | (go_at_call 17; (with_reducible refine (HC.out _ _ HS.out).mono ?_); rintro e w3 ⟨rfl, hs3⟩
             have HS3 := Lib.hid hs3
             clear hs3)
          | (go_at_call 14; (with_reducible refine (HT.out _ _ HS3.out).mono ?_); rintro e w4 ⟨rfl, hs4⟩
             have HS4 := Lib.hid hs4
             clear hs4)
          | (go_at_call 12; (with_reducible refine (HL.out _ _ HS4.out).mono ?_); rintro e w5 ⟨rfl, rfl⟩)
          | (go_at_call 17; (with_reducible refine (HC2.out _ _ HS4.out).mono ?_); rintro e w6 ⟨rfl, hs6⟩
             have HS6 := Lib.hid hs6
             clear hs6)
          | (go_at_call 15; (with_reducible refine (HK.out _ _ HS6.out).mono ?_); rintro e w7 ⟨v7, rfl, hs7⟩
             obtain ⟨A7, c7, rfl⟩ := (hs7.rowO 0 rfl).len
             have HS7 := Lib.hid hs7
             clear hs7))
        clear HC HT HL HC2 HK z2 HS3 HS4 HS6
        go_loopw [99] (fun i wx => ∃ (m : Nat), m ≤ n6 ∧ i = .int .i64 m ∧ Hid (Star w wx [RowO 29 3 (.slice A7 n6 c7) n6 (t3V (po7 l ob sh l.length).q), PtA w.heap.size (po7 l ob sh l.length), RowO 3 1 (.slice A6 n6 c6) n6 (ixV (wnt l sh l.length))])) (fun i _ => n6 - (intOf i).toNat)
        case atStart => exact ⟨0, by omega, rfl, HS7⟩
        case round =>
          clear HS HS7
          obtain ⟨m, hm6, rfl, HS⟩ := hrel
          by_cases hlt : m < n6
          · obtain ⟨j0, hj0⟩ : ∃ j0, (wnt l sh l.length)[m]? = some j0 := ⟨_, List.getElem?_eq_getElem (by rw [← HNW.out]; omega)⟩
            have hx : (po7 l ob sh l.length).q[m]? = some ⟨j0, ob, sh⟩ := by
              show (pk5 ob sh (wnt l sh l.length))[m]? = _
              unfold pk5
              rw [List.getElem?_map, hj0]
              rfl
            obtain ⟨g7, o7, cc7, hv7, -, -, hnc7⟩ := (HS.out.rowO 0 rfl).form (by omega)
            simp only [Value.slice.injEq, true_and] at hv7
            obtain ⟨rfl, rfl⟩ := hv7
            have h5 := HS.out.alloc (.cells #[.int .i64 j0, .int .i64 ob, .int .i64 sh] 29)
            obtain ⟨r0, r1, r2⟩ := at3 (HS.out.rowO 0 rfl) (by rw [HNW.out]; exact (pk5_len _ _ _).symm) hx
            simp only at r0 r1 r2
            obtain ⟨g6, o6, cc6, hv6, -, -, hnc6⟩ := (HS.out.rowO 2 rfl).form (by omega)
            simp only [Value.slice.injEq, true_and] at hv6
            obtain ⟨rfl, rfl⟩ := hv6
            have r6 : (wr.alloc (.cells #[.int .i64 j0, .int .i64 ob, .int .i64 sh] 29)).cell? ⟨g6, o6 + m, none⟩ = some (.int .i64 j0) := by
              rw [(h5.rowO 2 rfl).cellAt m (by omega)]
              unfold ixV
              rw [List.getElem?_map, hj0]
              rfl
            have H5 := Lib.hid h5
            have hm0 : (m : Int) < n6 := by omega
            have y1 : ((j0 : Int) != (j0 : Int)) = false := by simp
            have y2 : (ob != ob) = false := by simp
            have y3 : (sh != sh) = false := by simp
            clear hj0 hx h5
            go_wp2
            go_quiet (fail)
            go_wp2
            go_roundw
            case rel => exact ⟨m + 1, by omega, by go_num, Lib.hid (H5.out.drewN nq)⟩
            case measure => simp [intOf]; omega
          · obtain rfl : m = n6 := by omega
            have hlt' : ¬ ((m : Int) < m) := by omega
            clear hlt
            go_wp2_with (first
              | (go_at_call 14; (with_reducible refine (HT2.out _ _ _ HS.out).mono ?_); rintro e w4 ⟨rfl, hs4⟩
                 have HS4 := Lib.hid hs4
                 clear hs4)
              | (go_at_call 9; (with_reducible refine (HA.out _).mono ?_); rintro e w6 ⟨rfl, hb6⟩))
            go_ret
            exact ⟨rfl, HS4.out.below.trans (hb6.mono HS4.out.below.size)⟩
theorem tells_row (A : Option Addr) (c : Nat) (l : List Int) (ob : Int) (hob : (Lit.int .i64 ob).wf = true) (sh : Int) (hsh : (Lit.int .i64 sh).wf = true) (w : World) (hr : Reads w w.heap.size 1 A l.length (l.map (Value.int .i64))) (hm : l.length ≤ maxLen) (hl : ∀ x ∈ l, (Lit.int .i64 x).wf = true) :
    Calls Try.prog 5 #[.slice A l.length c, .int .i64 ob, .int .i64 sh] w fun e w' => e = .returned (.bool true) ∧ Below w.heap.size w w' :=
  tells_walk A c l ob sh (by have := hob; simp [Lit.wf, IntKind.min, IntKind.max, IntKind.signed, IntKind.bits] at this; omega) w hr hm
end Go.Proofs.Ytjkgkoilabbdgaa.Pt
