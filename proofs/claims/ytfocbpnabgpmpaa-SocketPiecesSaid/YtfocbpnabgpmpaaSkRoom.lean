/- The walk of SocketRoom. -/
import Derived.Test.YtfocbpnabgpmpaaSkG
namespace Go.Proofs.Ytfocbpnabgpmpaa.Sk
open Go Go.RowKit Go.Proofs.Ytfocbpnabgpmpaa.Mem
set_option linter.unusedVariables false
set_option linter.unusedSimpArgs false
def zBy (n : Nat) : Array Value := (List.replicate n (Value.int .u8 0)).toArray
theorem made_one (z : Value) (n : Nat) : madeCells #[z] n = (List.replicate n z).toArray := by
  refine Array.ext_getElem? fun i => ?_
  by_cases hi : i < n
  · rw [show (madeCells #[z] n)[i]? = some z from by simp [madeCells, hi, Nat.mod_one]]
    simp [hi]
  · rw [show (madeCells #[z] n)[i]? = none from by simp [madeCells]; omega]
    simp; omega
theorem make_by (n : Nat) (hn : n ≤ 1048576) (W : World) : (Instr.makeSlice 27 (.int .i64 n) (.int .i64 n)).run Try.prog W = .ok (.slice (some ⟨W.heap.size, 0, none⟩) n n) (W.alloc (.cells (zBy n) 5)) := by
  obtain ⟨i0, hi0, hz0, hz1, hz2⟩ := info_parts by_info
  have h := run_make (P := Try.prog) W 27 5 i0 _ Try.underlying27 hi0 hz0 .i64 .i64 n n (by omega) (Int.le_refl _) (by rw [hz2]; omega) (by omega)
  rw [hz1] at h
  simp only [Int.toNat_natCast] at h
  rw [h]
  show Result.ok _ (W.alloc (.cells (madeCells #[.int .u8 0] (n * 1)) 5)) = _
  rw [Nat.mul_one, made_one]
  rfl
theorem make_st {w0 w : World} {L : List Asr} (h : Star w0 w L) (n : Nat) (hn : n ≤ 1048576) : Star w0 (w.alloc (.cells (zBy n) 5)) (RowA 5 1 (.slice (some ⟨w.heap.size, 0, none⟩) n n) n (bytesV (List.replicate n 0)) :: L) := by
  have h1 := h.litRow 5 1 (zBy n) n (by simp only [maxLen]; omega) (by simp [zBy])
  rw [show (zBy n).toList = bytesV (List.replicate n 0) from by simp [zBy, bytesV, byteV, List.map_replicate]] at h1
  exact h1
/-- An end that is open, and shut for nothing. -/
def Free (s : Sd) : Prop := s.c = false ∧ s.m = false ∧ s.d = false
theorem Free.zero : Free sd0 := ⟨rfl, rfl, rfl⟩
theorem free_put {y : Sd} (h : Free y) (dg : Bool) (room : Nat) (l : List UInt8) : Free (putS y dg room l).2.2 := by
  obtain ⟨f1, f2, f3⟩ := put_flags y dg room l
  exact ⟨by rw [f1]; exact h.1, by rw [f2]; exact h.2.1, by rw [f3]; exact h.2.2⟩
theorem free_take {x : Sd} (h : Free x) (n : Nat) (peek : Bool) : Free (takeS x n peek).2 := by
  obtain ⟨f1, f2, f3⟩ := take_flags x n peek
  exact ⟨by rw [f1]; exact h.1, by rw [f2]; exact h.2.1, by rw [f3]; exact h.2.2⟩
theorem write_free0 {x y : Sd} (hx : Free x) (hy : Free y) (dg : Bool) (room : Nat) (l : List UInt8) : writeS x y dg room 0 l = ((putS y dg room l).1, (putS y dg room l).2.1, x, (putS y dg room l).2.2) := by
  unfold writeS
  rw [if_neg (by simp [chkS, sd, hx.1]), if_neg (by simp [wayS, sd, ot, hy.1, hx.2.1, hy.2.2])]
  rfl
theorem write_free1 {x y : Sd} (hx : Free x) (hy : Free y) (dg : Bool) (room : Nat) (l : List UInt8) : writeS y x dg room 1 l = ((putS y dg room l).1, (putS y dg room l).2.1, (putS y dg room l).2.2, x) := by
  unfold writeS
  rw [if_neg (by simp [chkS, sd, hx.1]), if_neg (by simp [wayS, sd, ot, hy.1, hx.2.1, hy.2.2])]
  rfl
theorem read_free1 {x y : Sd} (hx : x.c = false) (n : Nat) (peek : Bool) (hb : x.b ≠ []) : readS y x 1 n peek = ((takeS x n peek).1, 0, (takeS x n peek).2) := by
  unfold readS
  rw [if_neg (by simp [chkS, sd, hx]), if_neg (by omega), if_pos (by simpa [sd] using hb), Int.toNat_natCast]
  rfl
theorem read_free0 {x y : Sd} (hx : x.c = false) (n : Nat) (peek : Bool) (hb : x.b ≠ []) : readS x y 0 n peek = ((takeS x n peek).1, 0, (takeS x n peek).2) := by
  unfold readS
  rw [if_neg (by simp [chkS, sd, hx]), if_neg (by omega), if_pos (by simpa [sd] using hb), Int.toNat_natCast]
  rfl
/-- What a write of k bytes tells. -/
theorem room_step {y : Sd} {dg : Bool} {room : Nat} (hok : SdOk dg room y) (l : List UInt8) (hk : 1 ≤ l.length) {wa r : Nat} (hwa : wa = y.b.length) (hr : room - wa = r) :
    ∃ (n : Nat) (st : Int) (y' : Sd), putS y dg room l = ((n : Int), st, y') ∧ y'.b.length = wa + n ∧ n = (if l.length ≤ r then l.length else if dg = true then 0 else r) ∧ (st = 0 ↔ 0 < n) := by
  have hl := hok.len
  subst hwa
  unfold putS
  by_cases h1 : dg = true ∧ l.length = 0
  · omega
  · rw [if_neg h1]
    by_cases h2 : dg = true ∧ room < l.length
    · rw [if_pos h2]
      exact ⟨0, -14, y, rfl, rfl, by rw [if_neg (by omega), if_pos h2.1], by omega⟩
    · rw [if_neg h2, if_neg (by omega)]
      by_cases h3 : room - y.b.length = 0 ∨ (dg = true ∧ room - y.b.length < l.length)
      · rw [if_pos h3]
        refine ⟨0, -22, y, rfl, rfl, ?_, by omega⟩
        rcases h3 with h3 | ⟨h3, h4⟩
        · rw [if_neg (by omega)]
          split <;> omega
        · rw [if_neg (by omega), if_pos h3]
      · rw [if_neg h3]
        refine ⟨_, 0, _, rfl, by simp only [List.length_append, List.length_take]; omega, ?_, by omega⟩
        by_cases h4 : l.length ≤ r
        · rw [if_pos h4]; omega
        · have h5 : ¬ dg = true := fun h => h3 (.inr ⟨h, by omega⟩)
          rw [if_neg h4, if_neg h5]; omega
def RmI (wa : Nat) (y : Sd) (dg : Bool) (room : Nat) : Prop := wa = y.b.length ∧ Free y ∧ SdOk dg room y
theorem take_some {x : Sd} {dg : Bool} {room : Nat} (hok : SdOk dg room x) (hb : x.b ≠ []) (n : Nat) (hn : 0 < n) (peek : Bool) : 0 < (takeS x n peek).1.length := by
  have hw : 0 < wholeN x n := by
    unfold wholeN
    have := List.length_pos_iff.2 hb
    cases hp : x.p with
    | nil => simp only; omega
    | cons q p => exact hok.pos q (by rw [hp]; simp)
  have := hok.whole n
  unfold takeS
  simp only [List.length_take]
  omega
set_option maxRecDepth 8000 in
set_option maxHeartbeats 8000000 in
theorem room_walk (dg : Bool) (rm : Int) (A : Option Addr) (c : Nat) (l : List Int) (w : World) (hr : Reads w w.heap.size 1 A l.length (l.map (Value.int .i64))) (hm : l.length ≤ maxLen) :
    Calls Try.prog 4 #[.bool dg, .int .i64 rm, .slice A l.length c] w fun e w' => e = .returned (.bool true) ∧ Below w.heap.size w w' := by
  have HA := Lib.hid awake_any
  unfold maxLen at hm
  by_cases hc : rm < 1 ∨ 1048576 < rm
  · have HNo := Lib.hid (new_none dg rm hc)
    clear hr
    rcases hc with hc | hc
    all_goals
      generalize l.length = n at *
      go_enter Try.func4, Try.ntmps4
      go_wp2_with (first
        | (go_at_call 8; (with_reducible refine (HNo.out _).mono ?_); rintro e w1 ⟨rfl, rfl⟩)
        | (go_at_call 9; (with_reducible refine (HA.out _).mono ?_); rintro e w2 ⟨rfl, hb2⟩))
      go_ret
      exact ⟨rfl, hb2⟩
  · obtain ⟨room, rfl⟩ : ∃ k : Nat, rm = k := ⟨rm.toNat, by omega⟩
    have hr1 : 1 ≤ room := by omega
    have hr2 : room ≤ 1048576 := by omega
    have HN := Lib.hid (new_any (Star.nil w) dg room hr1 hr2)
    by_cases hbig : 2000 < room ∨ 40 < l.length
    · clear hr hc
      have hr1' : (1 : Int) ≤ room := by omega
      have hr2' : (room : Int) ≤ 1048576 := by omega
      generalize l.length = n at *
      by_cases h1 : 2000 < room
      · have h1' : (2000 : Int) < room := by omega
        go_enter Try.func4, Try.ntmps4
        go_wp2_with (first
          | (go_at_call 8; (with_reducible refine HN.out.mono ?_); rintro e w1 ⟨rfl, hs1⟩)
          | (go_at_call 9; (with_reducible refine (HA.out _).mono ?_); rintro e w2 ⟨rfl, hb2⟩))
        go_ret
        exact ⟨rfl, hs1.below.trans (hb2.mono hs1.below.size)⟩
      · have h1' : (room : Int) ≤ 2000 := by omega
        have h2' : (40 : Int) < n := by omega
        go_enter Try.func4, Try.ntmps4
        go_wp2_with (first
          | (go_at_call 8; (with_reducible refine HN.out.mono ?_); rintro e w1 ⟨rfl, hs1⟩)
          | (go_at_call 9; (with_reducible refine (HA.out _).mono ?_); rintro e w2 ⟨rfl, hb2⟩))
        go_ret
        exact ⟨rfl, hs1.below.trans (hb2.mono hs1.below.size)⟩
    · have hr3 : (room : Int) ≤ 2000 := by omega
      have hr1' : (1 : Int) ≤ room := by omega
      have hl40 : (l.length : Int) ≤ 40 := by omega
      have HR := Lib.hid hr
      have hmk := fun (n : Nat) (hn : n ≤ 1048576) => make_by n hn
      have HMK := Lib.hid hmk
      clear hr hc hbig hmk
      go_enter Try.func4, Try.ntmps4
      go_wp2_with (first
        | (go_at_call 8; (with_reducible refine HN.out.mono ?_); rintro e w1 ⟨rfl, hs1⟩
           have HS1 := Lib.hid hs1
           clear hs1))
      go_loopw [8, 45] (fun v i wr => ∃ (k wa : Nat) (y : Sd), k ≤ l.length ∧ i = .int .i64 k ∧ v = .int .i64 wa ∧ Hid (RmI wa y dg room) ∧ Hid (Star w wr [SkA w.heap.size sd0 y dg room])) (fun _ i _ => l.length - (intOf i).toNat)
      case atStart => exact ⟨0, 0, sd0, by omega, rfl, rfl, Lib.hid ⟨rfl, Free.zero, SdOk.zero _ _⟩, HS1⟩
      case round =>
        clear HS1 HN
        obtain ⟨k, wa, y, hk, rfl, rfl, HY, HS⟩ := hrel
        by_cases hlt : k < l.length
        · obtain ⟨ad, u, rfl, had, hx, hcl⟩ := (HR.out.below HS.out.below).at_ hlt
          obtain ⟨x, hxk⟩ : ∃ x, l[k]? = some x := ⟨_, List.getElem?_eq_getElem hlt⟩
          obtain rfl : u = .int .i64 x := by
            rw [List.getElem?_map, hxk] at hx
            exact (Option.some.inj hx).symm
          have hk0 : (0 : Int) ≤ k := by omega
          have hkl : (k : Int) < l.length := by omega
          clear hx hxk had
          by_cases hx0 : x < 1 ∨ 3000 < x
          · rcases hx0 with hx0 | hx0
            all_goals
              go_wp2
              go_roundw
              case rel => exact ⟨k + 1, wa, y, by omega, by go_num, rfl, HY, HS⟩
              case measure => simp [intOf]; omega
          ·
            --<M
            obtain ⟨q, rfl⟩ : ∃ q : Nat, x = q := ⟨x.toNat, by omega⟩
            have hq1 : (1 : Int) ≤ q := by omega
            have hq2 : (q : Int) ≤ 3000 := by omega
            have hmk := HMK.out q (by omega)
            obtain ⟨r, er⟩ : ∃ r, room - wa = r := ⟨_, rfl⟩
            obtain ⟨n, st, y', ew, ey, en, es⟩ := room_step HY.out.2.2 (List.replicate q 0) (by simp; omega) HY.out.1 er
            rw [List.length_replicate] at en
            have hwl : wa ≤ room := by rw [HY.out.1]; exact HY.out.2.2.len
            have hw2 : 2000 ≥ wa := by omega
            have hok2 : Ok2 dg room sd0 y := ⟨SdOk.zero _ _, HY.out.2.2, hr2⟩
            have hok3 := hok2.write 0 (List.replicate q 0)
            have hfr := free_put HY.out.2.1 dg room (List.replicate q 0)
            have hwr := write_free0 Free.zero HY.out.2.1 dg room (List.replicate q 0)
            rw [ew] at hwr hfr
            rw [hwr] at hok3
            simp only at hok3 hfr
            have hW := fun (W : World) (h : Star w W [SkA w.heap.size sd0 y dg room]) => write_st (make_st h q (by omega)) 1 rfl hok2 0 (m := q) (c := q) (by simp) (by simp only [maxLen]; omega) (Nat.le_refl _) ((make_st h q (by omega)).reads 0 rfl)
            rw [hwr] at hW
            simp only [List.set_cons_zero, List.set_cons_succ] at hW
            have HW := Lib.hid hW
            obtain ⟨W2, eW2⟩ : ∃ W2, W2 = wa + n := ⟨_, rfl⟩
            have hL := fun (W : World) (S : List Asr) (h : Star w W (SkA w.heap.size sd0 y' dg room :: S)) => len_st h 0 rfl 1
            rw [show lenS sd0 y' 1 = W2 from by rw [eW2, ← ey]; rfl] at hL
            have HL := Lib.hid hL
            have HOK := Lib.hid hok3
            have HEY := Lib.hid (show RmI W2 y' dg room from ⟨by rw [eW2, ey], hfr, hok3.2.1⟩)
            have zW : ((W2 : Int) != (W2 : Int)) = false := by simp
            have zn : ((n : Int) != (n : Int)) = false := by simp
            have hW3 : W2 ≤ room := by rw [HEY.out.1]; exact hok3.2.1.len
            clear ew ey hok2 hok3 hfr hwr hW hL hmk HY
            have hmk := HMK.out q (by omega)
            by_cases hA : q ≤ r
            · rw [if_pos hA] at en
              obtain rfl : n = q := en
              obtain rfl : st = 0 := es.2 (by omega)
              have hA' : (n : Int) ≤ (room : Int) - wa := by omega
              have e5 : (wa : Int) + n = W2 := by omega
              have hnp : (0 : Int) < n := by omega
              have hnp2 : 0 < n := by omega
              clear es er hA eW2 hx0 hwl
              cases dg with
              | true =>
                go_upto_region 16 with (first
                  | (go_at_call 10; (with_reducible refine (HW.out _ HS.out).mono ?_); rintro e w3 ⟨rfl, hs3⟩
                     have HS3 := Lib.hid hs3.tail
                     clear hs3))
                clear hmk
                by_cases hfull : W2 = room
                · have zf : ((W2 : Int) == (room : Int)) = true := beq_iff_eq.mpr (by omega)
                  have hne : y'.b ≠ [] := by
                    intro h0
                    have := HEY.out.1
                    rw [h0] at this
                    simp at this
                    omega
                  have hRd := fun (W : World) (h : Star w W [SkA w.heap.size sd0 y' true room]) => read_st h 0 rfl HOK.out 1 (7 : Nat) (by omega) false
                  have hok4 := HOK.out.read 1 (7 : Nat) false
                  rw [read_free1 HEY.out.2.1.1 7 false hne] at hRd hok4
                  have hfr := free_take HEY.out.2.1 7 false
                  have hpos := take_some HEY.out.2.2 hne 7 (by omega) false
                  obtain ⟨out, y2, e2⟩ : ∃ a b, takeS y' 7 false = (a, b) := ⟨_, _, rfl⟩
                  rw [e2] at hRd hfr hpos hok4
                  simp only [show putD sd0 y' 1 y2 = (sd0, y2) from rfl, List.set_cons_zero, show ((7 : Nat) : Int) = 7 from rfl] at hRd hok4
                  have HRd := Lib.hid hRd
                  have HL2 := Lib.hid (fun (W : World) (v : Value) (h : Star w W [RowA 5 1 v out.length (bytesV out), SkA w.heap.size sd0 y2 true room]) => len_st h 1 rfl 1)
                  rw [show lenS sd0 y2 1 = y2.b.length from rfl] at HL2
                  have HEY2 := Lib.hid (show RmI y2.b.length y2 true room from ⟨rfl, hfr, hok4.2.1⟩)
                  have zo : ((out.length : Int) == 0) = false := beq_eq_false_iff_ne.mpr (by simp only at hpos; omega)
                  clear hRd hfr hpos hok4 e2 hne hfull
                  generalize out.length = no at *
                  go_wp2_with (first
                    | (go_at_call 13; (with_reducible refine (HL.out _ _ HS3.out).mono ?_); rintro e w4 ⟨rfl, rfl⟩)
                    | (go_at_call 11; (with_reducible refine (HRd.out _ HS3.out).mono ?_); rintro e w5 ⟨vo, rfl, hs5⟩
                       obtain ⟨A5, c5, rfl⟩ := own_len (hs5.row 0 rfl)
                       have HS5 := Lib.hid hs5
                       clear hs5)
                    | (go_at_call 13; (with_reducible refine (HL2.out _ _ HS5.out).mono ?_); rintro e w6 ⟨rfl, rfl⟩))
                  go_roundw
                  case rel => exact ⟨k + 1, _, y2, by omega, by go_num, rfl, HEY2, Lib.hid HS5.out.tail⟩
                  case measure => simp [intOf]; omega
                · have zf : ((W2 : Int) == (room : Int)) = false := beq_eq_false_iff_ne.mpr (by omega)
                  clear hfull
                  go_wp2_with (first
                    | (go_at_call 13; (with_reducible refine (HL.out _ _ HS3.out).mono ?_); rintro e w4 ⟨rfl, rfl⟩))
                  go_roundw
                  case rel => exact ⟨k + 1, W2, y', by omega, by go_num, rfl, HEY, HS3⟩
                  case measure => simp [intOf]; omega
              | false =>
                go_upto_region 16 with (first
                  | (go_at_call 10; (with_reducible refine (HW.out _ HS.out).mono ?_); rintro e w3 ⟨rfl, hs3⟩
                     have HS3 := Lib.hid hs3.tail
                     clear hs3))
                clear hmk
                by_cases hfull : W2 = room
                · have zf : ((W2 : Int) == (room : Int)) = true := beq_iff_eq.mpr (by omega)
                  have hne : y'.b ≠ [] := by
                    intro h0
                    have := HEY.out.1
                    rw [h0] at this
                    simp at this
                    omega
                  have hRd := fun (W : World) (h : Star w W [SkA w.heap.size sd0 y' false room]) => read_st h 0 rfl HOK.out 1 (7 : Nat) (by omega) false
                  have hok4 := HOK.out.read 1 (7 : Nat) false
                  rw [read_free1 HEY.out.2.1.1 7 false hne] at hRd hok4
                  have hfr := free_take HEY.out.2.1 7 false
                  have hpos := take_some HEY.out.2.2 hne 7 (by omega) false
                  obtain ⟨out, y2, e2⟩ : ∃ a b, takeS y' 7 false = (a, b) := ⟨_, _, rfl⟩
                  rw [e2] at hRd hfr hpos hok4
                  simp only [show putD sd0 y' 1 y2 = (sd0, y2) from rfl, List.set_cons_zero, show ((7 : Nat) : Int) = 7 from rfl] at hRd hok4
                  have HRd := Lib.hid hRd
                  have HL2 := Lib.hid (fun (W : World) (v : Value) (h : Star w W [RowA 5 1 v out.length (bytesV out), SkA w.heap.size sd0 y2 false room]) => len_st h 1 rfl 1)
                  rw [show lenS sd0 y2 1 = y2.b.length from rfl] at HL2
                  have HEY2 := Lib.hid (show RmI y2.b.length y2 false room from ⟨rfl, hfr, hok4.2.1⟩)
                  have zo : ((out.length : Int) == 0) = false := beq_eq_false_iff_ne.mpr (by simp only at hpos; omega)
                  clear hRd hfr hpos hok4 e2 hne hfull
                  generalize out.length = no at *
                  go_wp2_with (first
                    | (go_at_call 13; (with_reducible refine (HL.out _ _ HS3.out).mono ?_); rintro e w4 ⟨rfl, rfl⟩)
                    | (go_at_call 11; (with_reducible refine (HRd.out _ HS3.out).mono ?_); rintro e w5 ⟨vo, rfl, hs5⟩
                       obtain ⟨A5, c5, rfl⟩ := own_len (hs5.row 0 rfl)
                       have HS5 := Lib.hid hs5
                       clear hs5)
                    | (go_at_call 13; (with_reducible refine (HL2.out _ _ HS5.out).mono ?_); rintro e w6 ⟨rfl, rfl⟩))
                  go_roundw
                  case rel => exact ⟨k + 1, _, y2, by omega, by go_num, rfl, HEY2, Lib.hid HS5.out.tail⟩
                  case measure => simp [intOf]; omega
                · have zf : ((W2 : Int) == (room : Int)) = false := beq_eq_false_iff_ne.mpr (by omega)
                  clear hfull
                  go_wp2_with (first
                    | (go_at_call 13; (with_reducible refine (HL.out _ _ HS3.out).mono ?_); rintro e w4 ⟨rfl, rfl⟩))
                  go_roundw
                  case rel => exact ⟨k + 1, W2, y', by omega, by go_num, rfl, HEY, HS3⟩
                  case measure => simp [intOf]; omega
            · rw [if_neg hA] at en
              have hA' : (room : Int) - wa < q := by omega
              cases dg with
              | true =>
                obtain rfl : n = 0 := en
                have zs : (st == 0) = false := beq_eq_false_iff_ne.mpr (fun e => by have := es.1 e; omega)
                obtain rfl : W2 = wa := by omega
                clear es er hA eW2 hx0 hwl
                go_upto_region 16 with (first
                  | (go_at_call 10; (with_reducible refine (HW.out _ HS.out).mono ?_); rintro e w3 ⟨rfl, hs3⟩
                     have HS3 := Lib.hid hs3.tail
                     clear hs3))
                clear hmk
                by_cases hfull : W2 = room
                · have zf : ((W2 : Int) == (room : Int)) = true := beq_iff_eq.mpr (by omega)
                  have hne : y'.b ≠ [] := by
                    intro h0
                    have := HEY.out.1
                    rw [h0] at this
                    simp at this
                    omega
                  have hRd := fun (W : World) (h : Star w W [SkA w.heap.size sd0 y' true room]) => read_st h 0 rfl HOK.out 1 (7 : Nat) (by omega) false
                  have hok4 := HOK.out.read 1 (7 : Nat) false
                  rw [read_free1 HEY.out.2.1.1 7 false hne] at hRd hok4
                  have hfr := free_take HEY.out.2.1 7 false
                  have hpos := take_some HEY.out.2.2 hne 7 (by omega) false
                  obtain ⟨out, y2, e2⟩ : ∃ a b, takeS y' 7 false = (a, b) := ⟨_, _, rfl⟩
                  rw [e2] at hRd hfr hpos hok4
                  simp only [show putD sd0 y' 1 y2 = (sd0, y2) from rfl, List.set_cons_zero, show ((7 : Nat) : Int) = 7 from rfl] at hRd hok4
                  have HRd := Lib.hid hRd
                  have HL2 := Lib.hid (fun (W : World) (v : Value) (h : Star w W [RowA 5 1 v out.length (bytesV out), SkA w.heap.size sd0 y2 true room]) => len_st h 1 rfl 1)
                  rw [show lenS sd0 y2 1 = y2.b.length from rfl] at HL2
                  have HEY2 := Lib.hid (show RmI y2.b.length y2 true room from ⟨rfl, hfr, hok4.2.1⟩)
                  have zo : ((out.length : Int) == 0) = false := beq_eq_false_iff_ne.mpr (by simp only at hpos; omega)
                  clear hRd hfr hpos hok4 e2 hne hfull
                  generalize out.length = no at *
                  go_wp2_with (first
                    | (go_at_call 13; (with_reducible refine (HL.out _ _ HS3.out).mono ?_); rintro e w4 ⟨rfl, rfl⟩)
                    | (go_at_call 11; (with_reducible refine (HRd.out _ HS3.out).mono ?_); rintro e w5 ⟨vo, rfl, hs5⟩
                       obtain ⟨A5, c5, rfl⟩ := own_len (hs5.row 0 rfl)
                       have HS5 := Lib.hid hs5
                       clear hs5)
                    | (go_at_call 13; (with_reducible refine (HL2.out _ _ HS5.out).mono ?_); rintro e w6 ⟨rfl, rfl⟩))
                  go_roundw
                  case rel => exact ⟨k + 1, _, y2, by omega, by go_num, rfl, HEY2, Lib.hid HS5.out.tail⟩
                  case measure => simp [intOf]; omega
                · have zf : ((W2 : Int) == (room : Int)) = false := beq_eq_false_iff_ne.mpr (by omega)
                  clear hfull
                  go_wp2_with (first
                    | (go_at_call 13; (with_reducible refine (HL.out _ _ HS3.out).mono ?_); rintro e w4 ⟨rfl, rfl⟩))
                  go_roundw
                  case rel => exact ⟨k + 1, W2, y', by omega, by go_num, rfl, HEY, HS3⟩
                  case measure => simp [intOf]; omega
              | false =>
                obtain rfl : n = r := en
                have e6 : (room : Int) - wa = n := by omega
                have hA2 : (n : Int) < q := by omega
                by_cases hn0 : n = 0
                · subst hn0
                  have zs : (st == 0) = false := beq_eq_false_iff_ne.mpr (fun e => by have := es.1 e; omega)
                  obtain rfl : W2 = wa := by omega
                  have e7 : (room : Int) - W2 = 0 := by omega
                  clear es er hA eW2 hx0 hwl e6
                  go_upto_region 16 with (first
                    | (go_at_call 10; (with_reducible refine (HW.out _ HS.out).mono ?_); rintro e w3 ⟨rfl, hs3⟩
                       have HS3 := Lib.hid hs3.tail
                       clear hs3))
                  clear hmk
                  by_cases hfull : W2 = room
                  · have zf : ((W2 : Int) == (room : Int)) = true := beq_iff_eq.mpr (by omega)
                    have hne : y'.b ≠ [] := by
                      intro h0
                      have := HEY.out.1
                      rw [h0] at this
                      simp at this
                      omega
                    have hRd := fun (W : World) (h : Star w W [SkA w.heap.size sd0 y' false room]) => read_st h 0 rfl HOK.out 1 (7 : Nat) (by omega) false
                    have hok4 := HOK.out.read 1 (7 : Nat) false
                    rw [read_free1 HEY.out.2.1.1 7 false hne] at hRd hok4
                    have hfr := free_take HEY.out.2.1 7 false
                    have hpos := take_some HEY.out.2.2 hne 7 (by omega) false
                    obtain ⟨out, y2, e2⟩ : ∃ a b, takeS y' 7 false = (a, b) := ⟨_, _, rfl⟩
                    rw [e2] at hRd hfr hpos hok4
                    simp only [show putD sd0 y' 1 y2 = (sd0, y2) from rfl, List.set_cons_zero, show ((7 : Nat) : Int) = 7 from rfl] at hRd hok4
                    have HRd := Lib.hid hRd
                    have HL2 := Lib.hid (fun (W : World) (v : Value) (h : Star w W [RowA 5 1 v out.length (bytesV out), SkA w.heap.size sd0 y2 false room]) => len_st h 1 rfl 1)
                    rw [show lenS sd0 y2 1 = y2.b.length from rfl] at HL2
                    have HEY2 := Lib.hid (show RmI y2.b.length y2 false room from ⟨rfl, hfr, hok4.2.1⟩)
                    have zo : ((out.length : Int) == 0) = false := beq_eq_false_iff_ne.mpr (by simp only at hpos; omega)
                    clear hRd hfr hpos hok4 e2 hne hfull
                    generalize out.length = no at *
                    go_wp2_with (first
                      | (go_at_call 13; (with_reducible refine (HL.out _ _ HS3.out).mono ?_); rintro e w4 ⟨rfl, rfl⟩)
                      | (go_at_call 11; (with_reducible refine (HRd.out _ HS3.out).mono ?_); rintro e w5 ⟨vo, rfl, hs5⟩
                         obtain ⟨A5, c5, rfl⟩ := own_len (hs5.row 0 rfl)
                         have HS5 := Lib.hid hs5
                         clear hs5)
                      | (go_at_call 13; (with_reducible refine (HL2.out _ _ HS5.out).mono ?_); rintro e w6 ⟨rfl, rfl⟩))
                    go_roundw
                    case rel => exact ⟨k + 1, _, y2, by omega, by go_num, rfl, HEY2, Lib.hid HS5.out.tail⟩
                    case measure => simp [intOf]; omega
                  · have zf : ((W2 : Int) == (room : Int)) = false := beq_eq_false_iff_ne.mpr (by omega)
                    clear hfull
                    go_wp2_with (first
                      | (go_at_call 13; (with_reducible refine (HL.out _ _ HS3.out).mono ?_); rintro e w4 ⟨rfl, rfl⟩))
                    go_roundw
                    case rel => exact ⟨k + 1, W2, y', by omega, by go_num, rfl, HEY, HS3⟩
                    case measure => simp [intOf]; omega
                · obtain rfl : st = 0 := es.2 (by omega)
                  have e5 : (wa : Int) + n = W2 := by omega
                  have hnp : (0 : Int) < n := by omega
                  have hnp2 : 0 < n := by omega
                  clear es er hA eW2 hx0 hwl hA'
                  go_upto_region 16 with (first
                    | (go_at_call 10; (with_reducible refine (HW.out _ HS.out).mono ?_); rintro e w3 ⟨rfl, hs3⟩
                       have HS3 := Lib.hid hs3.tail
                       clear hs3))
                  clear hmk
                  by_cases hfull : W2 = room
                  · have zf : ((W2 : Int) == (room : Int)) = true := beq_iff_eq.mpr (by omega)
                    have hne : y'.b ≠ [] := by
                      intro h0
                      have := HEY.out.1
                      rw [h0] at this
                      simp at this
                      omega
                    have hRd := fun (W : World) (h : Star w W [SkA w.heap.size sd0 y' false room]) => read_st h 0 rfl HOK.out 1 (7 : Nat) (by omega) false
                    have hok4 := HOK.out.read 1 (7 : Nat) false
                    rw [read_free1 HEY.out.2.1.1 7 false hne] at hRd hok4
                    have hfr := free_take HEY.out.2.1 7 false
                    have hpos := take_some HEY.out.2.2 hne 7 (by omega) false
                    obtain ⟨out, y2, e2⟩ : ∃ a b, takeS y' 7 false = (a, b) := ⟨_, _, rfl⟩
                    rw [e2] at hRd hfr hpos hok4
                    simp only [show putD sd0 y' 1 y2 = (sd0, y2) from rfl, List.set_cons_zero, show ((7 : Nat) : Int) = 7 from rfl] at hRd hok4
                    have HRd := Lib.hid hRd
                    have HL2 := Lib.hid (fun (W : World) (v : Value) (h : Star w W [RowA 5 1 v out.length (bytesV out), SkA w.heap.size sd0 y2 false room]) => len_st h 1 rfl 1)
                    rw [show lenS sd0 y2 1 = y2.b.length from rfl] at HL2
                    have HEY2 := Lib.hid (show RmI y2.b.length y2 false room from ⟨rfl, hfr, hok4.2.1⟩)
                    have zo : ((out.length : Int) == 0) = false := beq_eq_false_iff_ne.mpr (by simp only at hpos; omega)
                    clear hRd hfr hpos hok4 e2 hne hfull
                    generalize out.length = no at *
                    go_wp2_with (first
                      | (go_at_call 13; (with_reducible refine (HL.out _ _ HS3.out).mono ?_); rintro e w4 ⟨rfl, rfl⟩)
                      | (go_at_call 11; (with_reducible refine (HRd.out _ HS3.out).mono ?_); rintro e w5 ⟨vo, rfl, hs5⟩
                         obtain ⟨A5, c5, rfl⟩ := own_len (hs5.row 0 rfl)
                         have HS5 := Lib.hid hs5
                         clear hs5)
                      | (go_at_call 13; (with_reducible refine (HL2.out _ _ HS5.out).mono ?_); rintro e w6 ⟨rfl, rfl⟩))
                    go_roundw
                    case rel => exact ⟨k + 1, _, y2, by omega, by go_num, rfl, HEY2, Lib.hid HS5.out.tail⟩
                    case measure => simp [intOf]; omega
                  · have zf : ((W2 : Int) == (room : Int)) = false := beq_eq_false_iff_ne.mpr (by omega)
                    clear hfull
                    go_wp2_with (first
                      | (go_at_call 13; (with_reducible refine (HL.out _ _ HS3.out).mono ?_); rintro e w4 ⟨rfl, rfl⟩))
                    go_roundw
                    case rel => exact ⟨k + 1, W2, y', by omega, by go_num, rfl, HEY, HS3⟩
                    case measure => simp [intOf]; omega
            -->M
        · go_wp2_with (first
            | (go_at_call 9; (with_reducible refine (HA.out _).mono ?_); rintro e w2 ⟨rfl, hb2⟩))
          go_ret
          exact ⟨rfl, HS.out.below.trans (hb2.mono HS.out.below.size)⟩
theorem room_row (dg : Bool) (rm : Int) (hrm : (Lit.int .i64 rm).wf = true) (A : Option Addr) (c : Nat) (l : List Int) (w : World) (hr : Reads w w.heap.size 1 A l.length (l.map (Value.int .i64))) (hm : l.length ≤ maxLen) (hl : ∀ x ∈ l, (Lit.int .i64 x).wf = true) :
    Calls Try.prog 4 #[.bool dg, .int .i64 rm, .slice A l.length c] w fun e w' => e = .returned (.bool true) ∧ Below w.heap.size w w' := room_walk dg rm A c l w hr hm
end Go.Proofs.Ytfocbpnabgpmpaa.Sk
