/- The walk of SocketPieces. -/
import Derived.Test.YtfocbpnabgpmpaaSkStream
namespace Go.Proofs.Ytfocbpnabgpmpaa.Sk
open Go Go.RowKit Go.Proofs.Ytfocbpnabgpmpaa.Mem
set_option linter.unusedVariables false
set_option linter.unusedSimpArgs false
theorem sl_info : (Try.prog.info? 27).map (fun i => (i.zero, i.size, i.bytes)) = some (some (.slice none 0 0), 1, 24) := by kernel_rfl
def YP (ds : List (List UInt8)) : Sd := ⟨false, false, false, ds.flatten, ds.map List.length⟩
theorem yp_ok {ds : List (List UInt8)} (h : ds.flatten.length ≤ 65536) (hp : ∀ d ∈ ds, 0 < d.length) : SdOk true 65536 (YP ds) :=
  ⟨h, fun _ => by simp [YP, List.length_flatten], fun q hq => by
    obtain ⟨d, hd, rfl⟩ := List.mem_map.1 hq
    exact hp d hd, by simp⟩
theorem sp_put {ds : List (List UInt8)} {d : List UInt8} (h : ds.flatten.length + d.length ≤ 65536) (h0 : 0 < d.length) : putS (YP ds) true 65536 d = (((d.length : Nat) : Int), 0, YP (ds ++ [d])) := by
  have h2 : min d.length (65536 - ds.flatten.length) = d.length := by omega
  unfold putS
  rw [if_neg (by omega), if_neg (by omega), if_neg (by omega), show (YP ds).b = ds.flatten from rfl, if_neg (by omega), h2, List.take_length]
  simp [YP]
theorem sp_put0 (ds : List (List UInt8)) : putS (YP ds) true 65536 [] = (0, -10, YP ds) := by
  unfold putS
  rw [if_pos ⟨rfl, rfl⟩]
theorem sp_take (d : List UInt8) (ds : List (List UInt8)) (n : Nat) : takeS (YP (d :: ds)) n false = (d.take n, YP ds) := by
  have hw : wholeN (YP (d :: ds)) n = d.length := rfl
  unfold takeS
  rw [hw, show (YP (d :: ds)).b = d ++ ds.flatten from rfl]
  have h1 : (d ++ ds.flatten).take (min n d.length) = d.take n := by
    rw [List.take_append_of_le_length (by omega)]
    by_cases h : n ≤ d.length
    · rw [show min n d.length = n by omega]
    · rw [show min n d.length = d.length by omega, List.take_length, List.take_of_length_le (by omega)]
  rw [h1, List.drop_left]
  rfl
def PzI (l : List BRw) (k : Nat) (ds : List BRw) : Prop := ds.length ≤ k ∧ (ds.map (·.d)).flatten.length ≤ 500 * k ∧ ∀ r ∈ ds, r ∈ l ∧ 0 < r.d.length
set_option maxRecDepth 8000 in
set_option maxHeartbeats 8000000 in
theorem pieces_walk (A : Option Addr) (c : Nat) (l : List BRw) (nn : Int) (hnn : nn ≤ 9223372036854775807) (w : World) (hr : Reads w w.heap.size 1 A l.length (l.map brV)) (hm : l.length ≤ maxLen) (hl : ∀ r ∈ l, brOk w r) :
    Calls Try.prog 5 #[.slice A l.length c, .int .i64 nn] w fun e w' => e = .returned (.bool true) ∧ Below w.heap.size w w' := by
  have HA := Lib.hid awake_any
  unfold maxLen at hm
  have hN := new_any (Star.nil w) true 65536 (by omega) (by omega)
  rw [show ((65536 : Nat) : Int) = 65536 from rfl] at hN
  have HN := Lib.hid hN
  clear hN
  by_cases hbig : 60 < l.length ∨ nn < 0
  · clear hr hl
    generalize l.length = n at *
    by_cases h1 : 60 < n
    · have h1' : (60 : Int) < n := by omega
      go_enter Try.func5, Try.ntmps5
      go_wp2_with (first
        | (go_at_call 8; (with_reducible refine HN.out.mono ?_); rintro e w1 ⟨rfl, hs1⟩)
        | (go_at_call 9; (with_reducible refine (HA.out _).mono ?_); rintro e w2 ⟨rfl, hb2⟩))
      go_ret
      exact ⟨rfl, hs1.below.trans (hb2.mono hs1.below.size)⟩
    · have h1' : (n : Int) ≤ 60 := by omega
      have h2' : nn < 0 := by omega
      go_enter Try.func5, Try.ntmps5
      go_wp2_with (first
        | (go_at_call 8; (with_reducible refine HN.out.mono ?_); rintro e w1 ⟨rfl, hs1⟩)
        | (go_at_call 9; (with_reducible refine (HA.out _).mono ?_); rintro e w2 ⟨rfl, hb2⟩))
      go_ret
      exact ⟨rfl, hs1.below.trans (hb2.mono hs1.below.size)⟩
  · have h1' : (l.length : Int) ≤ 60 := by omega
    obtain ⟨n0, rfl⟩ : ∃ k : Nat, nn = k := ⟨nn.toNat, by omega⟩
    have hn00 : (0 : Int) ≤ n0 := by omega
    have HR := Lib.hid hr
    have HL := Lib.hid hl
    obtain ⟨i0, hi0, hz0, hz1, hz2⟩ := info_parts sl_info
    clear hr hl hbig
    go_enter Try.func5, Try.ntmps5
    go_wp2_with (first
      | (go_at_call 8; (with_reducible refine HN.out.mono ?_); rintro e w1 ⟨rfl, hs1⟩
         have HS1 := Lib.hid (hs1.nilRow 27 1)
         clear hs1))
    go_loopw [6, 34] (fun v i wr => ∃ (k : Nat) (ds : List BRw), k ≤ l.length ∧ i = .int .i64 k ∧ Hid (PzI l k ds) ∧ Hid (Star w wr [RowA 27 1 v ds.length (ds.map brV), SkA w.heap.size (YP (ds.map (·.d))) sd0 true 65536])) (fun _ i _ => l.length - (intOf i).toNat)
    case atStart => exact ⟨0, [], by omega, rfl, Lib.hid ⟨by simp, by simp, by simp⟩, HS1⟩
    case round =>
      clear HS1 HN
      obtain ⟨k, ds, hk, rfl, HI, HS⟩ := hrel
      by_cases hlt : k < l.length
      ·
        --<A
        obtain ⟨ad, u, rfl, had, hx, hcl⟩ := (HR.out.below HS.out.below).at_ hlt
        obtain ⟨r, hrk⟩ : ∃ r, l[k]? = some r := ⟨_, List.getElem?_eq_getElem hlt⟩
        obtain rfl : u = brV r := by
          rw [List.getElem?_map, hrk] at hx
          exact (Option.some.inj hx).symm
        have hrl := List.mem_of_getElem? hrk
        obtain ⟨hd1, hd2, hd3⟩ := HL.out r hrl
        have hI2 : 0 < r.d.length → r.d.length ≤ 500 → PzI l (k + 1) (ds ++ [r]) := fun hp h5 => by
          obtain ⟨j1, j2, j3⟩ := HI.out
          refine ⟨by simp; omega, (by
            rw [List.map_append, List.flatten_append, List.length_append]
            have h7 : (List.map (·.d) [r]).flatten.length = r.d.length := by simp
            omega), fun x hx => ?_⟩
          rcases List.mem_append.1 hx with h | h
          · exact j3 x h
          · rw [List.mem_singleton.1 h]; exact ⟨hrl, hp⟩
        have hI1 : PzI l (k + 1) ds := by
          obtain ⟨j1, j2, j3⟩ := HI.out
          exact ⟨by omega, by omega, j3⟩
        have hbr : brV r = .slice r.A r.d.length r.c := rfl
        rw [hbr] at hcl
        have hk0 : (0 : Int) ≤ k := by omega
        have hkl : (k : Int) < l.length := by omega
        have hdsl := HI.out.1
        clear hx hrk had
        obtain ⟨nd, end_⟩ : ∃ nd, nd = r.d.length := ⟨_, rfl⟩
        rw [← end_] at hcl hd2 hd3 hI2
        by_cases hb5 : 500 < nd
        · have hb5' : (500 : Int) < nd := by omega
          clear hd1 end_ hd2 hI2 hI1 hbr
          go_wp2_with (first
            | (go_at_call 9; (with_reducible refine (HA.out _).mono ?_); rintro e w2 ⟨rfl, hb2⟩))
          go_ret
          exact ⟨rfl, HS.out.below.trans (hb2.mono HS.out.below.size)⟩
        · have hb5' : (nd : Int) ≤ 500 := by omega
          have hok : Ok2 true 65536 (YP (ds.map (·.d))) sd0 := ⟨yp_ok (by have := HI.out.2.1; omega) (fun d hd => by
            obtain ⟨x, hx, rfl⟩ := List.mem_map.1 hd
            exact (HI.out.2.2 x hx).2), SdOk.zero _ _, by omega⟩
          have hW := fun (W : World) (v : Value) (h : Star w W [RowA 27 1 v ds.length (ds.map brV), SkA w.heap.size (YP (ds.map (·.d))) sd0 true 65536]) => write_st (c := r.c) h 1 rfl hok 1 (l := r.d) (m := nd) end_ (by simp only [maxLen]; omega) hd3 (by rw [end_]; exact hd1.below h.below)
          rw [write_free1 Free.zero ⟨rfl, rfl, rfl⟩] at hW
          by_cases hz : nd = 0
          · have hrd : r.d = [] := List.eq_nil_of_length_eq_zero (by omega)
            rw [hrd, sp_put0] at hW
            simp only [List.set_cons_zero, List.set_cons_succ] at hW
            have HW := Lib.hid hW
            have HI1 := Lib.hid hI1
            subst hz
            clear hd1 end_ hW hI2 hI1 hd2 hok hbr hrd HI
            go_wp2_with (first
              | (go_at_call 10; (with_reducible refine (HW.out _ _ HS.out).mono ?_); rintro e w2 ⟨rfl, hs2⟩
                 have HS2 := Lib.hid hs2
                 clear hs2))
            go_roundw
            case rel => exact ⟨k + 1, ds, by omega, by go_num, HI1, HS2⟩
            case measure => simp [intOf]; omega
          · rw [sp_put (by have := HI.out.2.1; omega) (by omega), ← end_] at hW
            simp only [List.set_cons_zero, List.set_cons_succ] at hW
            have HW := Lib.hid hW
            have HI2 := Lib.hid (hI2 (by omega) (by omega))
            have hnp : (0 : Int) < nd := by omega
            have hnp2 : 0 < nd := by omega
            have HE := Lib.hid (show ds.map brV ++ [.slice r.A nd r.c] = (ds ++ [r]).map brV ∧ ds.length + 1 = (ds ++ [r]).length ∧ ds.map (·.d) ++ [r.d] = (ds ++ [r]).map (·.d) from ⟨by rw [List.map_append, end_]; rfl, by simp, by simp⟩)
            clear hd1 end_ hW hI2 hI1 hd2 hok hbr HI hz
            go_wp2_with (first
              | (go_at_call 10; (with_reducible refine (HW.out _ _ HS.out).mono ?_); rintro e w2 ⟨rfl, hs2⟩
                 have HS2 := Lib.hid hs2
                 clear hs2)
              | (at_builtin; refine wpList_append_st rfl (.tmp 57) (.tmp 59) 22 rfl (HS2.out.alloc _) 0 rfl i0 _ 24 Try.underlying22 hi0 hz0 hz1 hz2 rfl (by omega) rfl (w2.heap.size + 1) (some ⟨w2.heap.size, 0, none⟩) 1 1 [.slice r.A nd r.c] rfl (reads_fresh w2 27 [.slice r.A nd r.c] 1 1 rfl) (by simp [Value.oneCell']) (by simp only [maxLen]; omega) (by omega) ?_
                 intro v' w3 hs3
                 simp only [List.set_cons_zero, List.set_cons_succ] at hs3
                 rw [HE.out.1, HE.out.2.1, HE.out.2.2] at hs3
                 have HS3 := Lib.hid hs3
                 clear hs3))
            go_roundw
            case rel => exact ⟨k + 1, ds ++ [r], by omega, by go_num, HI2, HS3⟩
            case measure => simp [intOf]; omega
        -->A
      ·
        --<B
        obtain rfl : k = l.length := by omega
        obtain ⟨j1, j2, j3⟩ := HI.out
        have HJ3 := Lib.hid j3
        obtain ⟨A6, c6, rfl⟩ := own_len (HS.out.row 0 rfl)
        have hP := pieces_st HS.out 1 rfl 0
        rw [show pcsS (YP (ds.map (·.d))) sd0 0 = ds.length from by simp [pcsS, sd, YP]] at hP
        have HP := Lib.hid hP
        have hdl : ds.length ≤ 60 := by omega
        have hfl : (ds.map (·.d)).flatten.length ≤ 30000 := by omega
        have zp : ((ds.length : Int) != (ds.length : Int)) = false := by simp
        clear hP j1 j2 j3 hlt HI
        go_wp2_with (first
          | (go_at_call 14; (with_reducible refine HP.out.mono ?_); rintro e w2 ⟨rfl, rfl⟩))
        go_loopw [69] (fun i wx => ∃ (j : Nat), j ≤ ds.length ∧ i = .int .i64 j ∧ Hid (Star w wx [RowA 27 1 (.slice A6 ds.length c6) ds.length (ds.map brV), SkA w.heap.size (YP ((ds.drop j).map (·.d))) sd0 true 65536])) (fun i _ => ds.length - (intOf i).toNat)
        case atStart => exact ⟨0, by omega, rfl, HS⟩
        case round =>
          clear HS HP
          obtain ⟨j, hj, rfl, HS⟩ := hrel
          by_cases hlt : j < ds.length
          · obtain ⟨r, hrk⟩ : ∃ r, ds[j]? = some r := ⟨_, List.getElem?_eq_getElem hlt⟩
            obtain ⟨g6, cc, hv, -, -, -⟩ := own_form (HS.out.row 0 rfl) (by omega)
            simp only [Value.slice.injEq, true_and] at hv
            obtain ⟨rfl, rfl⟩ := hv
            have hcl := (HS.out.row 0 rfl).cellAt j (by omega)
            rw [List.getElem?_map, hrk, show (Option.map brV (some r)) = some (.slice r.A r.d.length r.c) from rfl] at hcl
            obtain ⟨hrl, hrp⟩ := HJ3.out r (List.mem_of_getElem? hrk)
            obtain ⟨hd1, hd2, hd3⟩ := HL.out r hrl
            have hdr : ds.drop j = r :: ds.drop (j + 1) := by
              rw [List.drop_eq_getElem_cons hlt]
              rw [(List.getElem?_eq_some_iff.1 hrk).2]
            have hsub : ((ds.drop j).map (·.d)).flatten.length ≤ 65536 := by
              have : ((ds.drop j).map (·.d)).flatten.length ≤ (ds.map (·.d)).flatten.length := by
                conv => rhs; rw [← List.take_append_drop j ds, List.map_append, List.flatten_append, List.length_append]
                omega
              omega
            have hok : Ok2 true 65536 (YP ((ds.drop j).map (·.d))) sd0 := ⟨yp_ok hsub (fun d hd => by
              obtain ⟨x, hx, rfl⟩ := List.mem_map.1 hd
              exact (HJ3.out x (List.mem_of_mem_drop hx)).2), SdOk.zero _ _, by omega⟩
            have hR := read_st HS.out 1 rfl hok 0 n0 hnn false
            rw [hdr, List.map_cons] at hR
            rw [read_free0 rfl n0 false (by intro h; have h2 : r.d ++ ((ds.drop (j + 1)).map (·.d)).flatten = [] := h; rw [List.append_eq_nil_iff] at h2; rw [h2.1] at hrp; simp at hrp), sp_take] at hR
            simp only [show ∀ y, putD (YP (r.d :: (ds.drop (j + 1)).map (·.d))) sd0 0 y = (y, sd0) from fun y => rfl, List.set_cons_zero, List.set_cons_succ] at hR
            have HR2 := Lib.hid hR
            obtain ⟨mk, emk⟩ : ∃ mk, mk = min n0 r.d.length := ⟨_, rfl⟩
            have htk : r.d.take n0 = r.d.take mk := by
              rw [emk]
              by_cases h : n0 ≤ r.d.length
              · rw [show min n0 r.d.length = n0 by omega]
              · rw [show min n0 r.d.length = r.d.length by omega, List.take_length, List.take_of_length_le (by omega)]
            rw [htk] at HR2
            have hol : (r.d.take mk).length = mk := by rw [List.length_take]; omega
            rw [hol] at HR2
            have hrh := reads_head hd1 (k := mk) (by omega)
            have HSm := Lib.hid (fun (W : World) (A5 : Option Addr) (c5 c7 : Nat) (r1 : Reads W W.heap.size 1 A5 mk (bytesV (r.d.take mk))) (hB : Below w.heap.size w W) => same_any (c := c5) (c' := c7) r1 (show Reads W w.heap.size 1 r.A mk (bytesV (r.d.take mk)) from by
              rw [bytesV_take]
              exact hrh.below hB))
            rw [show decide (r.d.take mk = r.d.take mk) = true from by simp] at HSm
            have hj0 : (0 : Int) ≤ j := by omega
            have hjl : (j : Int) < ds.length := by omega
            have hjl2 : j < ds.length := hlt
            obtain ⟨nd, end_⟩ : ∃ nd, nd = r.d.length := ⟨_, rfl⟩
            rw [← end_] at hcl hd3 emk
            have hmc : mk ≤ r.c := by omega
            clear hR htk hol hrh hsub hok hdr hrk hrl hd1 hd2 end_ hrp
            by_cases hle : n0 ≤ nd
            · obtain rfl : mk = n0 := by omega
              have hle' : (mk : Int) ≤ nd := by omega
              clear emk
              go_wp2_with (first
                | (go_at_call 11; (with_reducible refine HR2.out.mono ?_); rintro e w3 ⟨v3, rfl, hs3⟩
                   obtain ⟨A3, c3, rfl⟩ := own_len (hs3.row 0 rfl)
                   have HS3 := Lib.hid hs3
                   clear hs3)
                | (go_at_call 12; (with_reducible refine (HSm.out _ _ _ _ (HS3.out.reads 0 rfl) HS3.out.below).mono ?_); rintro e w4 ⟨rfl, rfl⟩))
              go_roundw
              case rel => exact ⟨j + 1, by omega, by go_num, Lib.hid HS3.out.tail⟩
              case measure => simp [intOf]; omega
            · obtain rfl : mk = nd := by omega
              have hle' : (mk : Int) < n0 := by omega
              clear emk hle
              go_wp2_with (first
                | (go_at_call 11; (with_reducible refine HR2.out.mono ?_); rintro e w3 ⟨v3, rfl, hs3⟩
                   obtain ⟨A3, c3, rfl⟩ := own_len (hs3.row 0 rfl)
                   have HS3 := Lib.hid hs3
                   clear hs3)
                | (go_at_call 12; (with_reducible refine (HSm.out _ _ _ _ (HS3.out.reads 0 rfl) HS3.out.below).mono ?_); rintro e w4 ⟨rfl, rfl⟩))
              go_roundw
              case rel => exact ⟨j + 1, by omega, by go_num, Lib.hid HS3.out.tail⟩
              case measure => simp [intOf]; omega
          · obtain rfl : j = ds.length := by omega
            have hL := len_st HS.out 1 rfl 0
            have hP := pieces_st HS.out 1 rfl 0
            rw [List.drop_length] at hL hP
            rw [show lenS (YP (List.map (·.d) ([] : List BRw))) sd0 0 = 0 from rfl, show ((0 : Nat) : Int) = 0 from rfl] at hL
            rw [show pcsS (YP (List.map (·.d) ([] : List BRw))) sd0 0 = 0 from rfl, show ((0 : Nat) : Int) = 0 from rfl] at hP
            have HL2 := Lib.hid hL
            have HP2 := Lib.hid hP
            clear hL hP
            go_wp2_with (first
              | (go_at_call 13; (with_reducible refine HL2.out.mono ?_); rintro e w2 ⟨rfl, rfl⟩)
              | (go_at_call 14; (with_reducible refine HP2.out.mono ?_); rintro e w2 ⟨rfl, rfl⟩)
              | (go_at_call 9; (with_reducible refine (HA.out _).mono ?_); rintro e w8 ⟨rfl, hb8⟩))
            go_ret
            exact ⟨rfl, HS.out.below.trans (hb8.mono HS.out.below.size)⟩
        -->B
theorem pieces_row (A : Option Addr) (c : Nat) (l : List BRw) (nn : Int) (hnn : (Lit.int .i64 nn).wf = true) (w : World) (hr : Reads w w.heap.size 1 A l.length (l.map brV)) (hm : l.length ≤ maxLen) (hl : ∀ r ∈ l, brOk w r) :
    Calls Try.prog 5 #[.slice A l.length c, .int .i64 nn] w fun e w' => e = .returned (.bool true) ∧ Below w.heap.size w w' := pieces_walk A c l nn (int_bd hnn).2 w hr hm hl
end Go.Proofs.Ytfocbpnabgpmpaa.Sk
