/- The walk of SocketStream. -/
import Derived.Test.YtfocbpnabgpmpaaSkShuts
import Derived.Test.YtfocbpnabgpmpaaArgsD
namespace Go.Proofs.Ytfocbpnabgpmpaa.Sk
open Go Go.RowKit Go.Proofs.Ytfocbpnabgpmpaa.Mem
set_option linter.unusedVariables false
set_option linter.unusedSimpArgs false
theorem int_bd {x : Int} (h : (Lit.int .i64 x).wf = true) : -9223372036854775808 ≤ x ∧ x ≤ 9223372036854775807 := by
  have h2 : IntKind.i64.min ≤ x ∧ x ≤ IntKind.i64.max := by simpa [Lit.wf] using h
  have h3 : IntKind.i64.min = -9223372036854775808 := by decide
  have h4 : IntKind.i64.max = 9223372036854775807 := by decide
  omega
def YF (l : List UInt8) : Sd := ⟨false, false, false, l, []⟩
theorem yf_ok {l : List UInt8} (h : l.length ≤ 65536) : Ok2 false 65536 sd0 (YF l) := ⟨SdOk.zero _ _, ⟨h, by simp, by simp [YF], by simp [YF]⟩, by omega⟩
theorem st_put {D d : List UInt8} (h : D.length + d.length ≤ 65536) : writeS sd0 (YF D) false 65536 0 d = (((d.length : Nat) : Int), 0, sd0, YF (D ++ d)) := by
  rw [write_free0 Free.zero ⟨rfl, rfl, rfl⟩]
  have h1 : putS (YF D) false 65536 d = (((d.length : Nat) : Int), 0, YF (D ++ d)) := by
    unfold putS
    rw [if_neg (by simp), if_neg (by simp)]
    by_cases h0 : d.length = 0
    · rw [if_pos h0]
      obtain rfl : d = [] := List.eq_nil_of_length_eq_zero h0
      simp
    · have h2 : min d.length (65536 - D.length) = d.length := by omega
      rw [if_neg h0, if_neg (by simp [YF]; omega), show (YF D).b = D from rfl, h2, List.take_length]
      rfl
  rw [h1]
def rdS (E : List UInt8) (n : Int) : List UInt8 × Int × List UInt8 := if n < 0 then ([], -10, E) else if E = [] then ([], -22, E) else (E.take n.toNat, 0, E.drop n.toNat)
theorem rd_app (E : List UInt8) (n : Int) : (rdS E n).1 ++ (rdS E n).2.2 = E := by
  unfold rdS
  split
  · rfl
  · split
    · rfl
    · exact List.take_append_drop _ _
theorem take_yf (E : List UInt8) (n : Nat) (peek : Bool) : takeS (YF E) n peek = (E.take n, if peek = true then YF E else YF (E.drop n)) := by
  have hw : wholeN (YF E) n = min n E.length := rfl
  unfold takeS
  rw [hw]
  have h1 : E.take (min n (min n E.length)) = E.take n := by
    by_cases h : n ≤ E.length
    · rw [show min n (min n E.length) = n by omega]
    · rw [show min n (min n E.length) = E.length by omega, List.take_length, List.take_of_length_le (by omega)]
  have h2 : E.drop (min n E.length) = E.drop n := by
    by_cases h : n ≤ E.length
    · rw [show min n E.length = n by omega]
    · rw [show min n E.length = E.length by omega, List.drop_length, List.drop_of_length_le (by omega)]
  rw [show (YF E).b = E from rfl, h1, h2]
  cases peek <;> rfl
theorem st_read (E : List UInt8) (n : Int) (peek : Bool) : readS sd0 (YF E) 1 n peek = ((rdS E n).1, (rdS E n).2.1, if peek = true then YF E else YF (rdS E n).2.2) := by
  unfold rdS
  by_cases h0 : n < 0
  · rw [if_pos h0]
    unfold readS
    rw [if_neg (by simp [chkS, sd, YF]), if_pos h0]
    cases peek <;> rfl
  · rw [if_neg h0]
    by_cases he : E = []
    · subst he
      rw [if_pos rfl]
      unfold readS
      rw [if_neg (by simp [chkS, sd, YF]), if_neg h0]
      cases peek <;> rfl
    · rw [if_neg he]
      obtain ⟨k, rfl⟩ : ∃ k : Nat, n = k := ⟨n.toNat, by omega⟩
      rw [read_free1 rfl k peek (by exact he), take_yf, Int.toNat_natCast]
set_option maxRecDepth 8000 in
set_option maxHeartbeats 8000000 in
theorem stream_walk (A A' : Option Addr) (c c' : Nat) (l : List BRw) (rs : List Int) (w : World) (hr : Reads w w.heap.size 1 A l.length (l.map brV)) (hm : l.length ≤ maxLen) (hl : ∀ r ∈ l, brOk w r)
    (hr' : Reads w w.heap.size 1 A' rs.length (rs.map (Value.int .i64))) (hm' : rs.length ≤ maxLen) (hrs : ∀ x ∈ rs, (Lit.int .i64 x).wf = true) :
    Calls Try.prog 3 #[.slice A l.length c, .slice A' rs.length c'] w fun e w' => e = .returned (.bool true) ∧ Below w.heap.size w w' := by
  have HA := Lib.hid awake_any
  unfold maxLen at hm hm'
  have hN := new_any (Star.nil w) false 65536 (by omega) (by omega)
  rw [show ((65536 : Nat) : Int) = 65536 from rfl] at hN
  have HN := Lib.hid hN
  clear hN
  by_cases hbig : 60 < l.length ∨ 100 < rs.length
  · clear hr hl hr' hrs
    generalize l.length = n at *
    generalize rs.length = n' at *
    by_cases h1 : 60 < n
    · have h1' : (60 : Int) < n := by omega
      go_enter Try.func3, Try.ntmps3
      go_wp2_with (first
        | (go_at_call 8; (with_reducible refine HN.out.mono ?_); rintro e w1 ⟨rfl, hs1⟩)
        | (go_at_call 9; (with_reducible refine (HA.out _).mono ?_); rintro e w2 ⟨rfl, hb2⟩))
      go_ret
      exact ⟨rfl, hs1.below.trans (hb2.mono hs1.below.size)⟩
    · have h1' : (n : Int) ≤ 60 := by omega
      have h2' : (100 : Int) < n' := by omega
      go_enter Try.func3, Try.ntmps3
      go_wp2_with (first
        | (go_at_call 8; (with_reducible refine HN.out.mono ?_); rintro e w1 ⟨rfl, hs1⟩)
        | (go_at_call 9; (with_reducible refine (HA.out _).mono ?_); rintro e w2 ⟨rfl, hb2⟩))
      go_ret
      exact ⟨rfl, hs1.below.trans (hb2.mono hs1.below.size)⟩
  · have h1' : (l.length : Int) ≤ 60 := by omega
    have h2' : (rs.length : Int) ≤ 100 := by omega
    have HR := Lib.hid hr
    have HR' := Lib.hid hr'
    have HL := Lib.hid hl
    have HRS := Lib.hid hrs
    obtain ⟨i0, hi0, hz0, hz1, hz2⟩ := info_parts by_info
    clear hr hr' hl hrs hbig
    go_enter Try.func3, Try.ntmps3
    go_wp2_with (first
      | (go_at_call 8; (with_reducible refine HN.out.mono ?_); rintro e w1 ⟨rfl, hs1⟩
         have HS1 := Lib.hid (hs1.nilRow 5 1)
         clear hs1))
    go_loopw [6, 40] (fun v i wr => ∃ (k : Nat) (D : List UInt8), k ≤ l.length ∧ i = .int .i64 k ∧ D.length ≤ 500 * k ∧ Hid (Star w wr [RowA 5 1 v D.length (bytesV D), SkA w.heap.size sd0 (YF D) false 65536])) (fun _ i _ => l.length - (intOf i).toNat)
    case atStart => exact ⟨0, [], by omega, rfl, by simp, HS1⟩
    case round =>
      clear HS1 HN
      obtain ⟨k, D, hk, rfl, hD, HS⟩ := hrel
      by_cases hlt : k < l.length
      ·
        --<A
        obtain ⟨ad, u, rfl, had, hx, hcl⟩ := (HR.out.below HS.out.below).at_ hlt
        obtain ⟨r, hrk⟩ : ∃ r, l[k]? = some r := ⟨_, List.getElem?_eq_getElem hlt⟩
        obtain rfl : u = brV r := by
          rw [List.getElem?_map, hrk] at hx
          exact (Option.some.inj hx).symm
        obtain ⟨hd1, hd2, hd3⟩ := HL.out r (List.mem_of_getElem? hrk)
        obtain ⟨Ar, cr, d⟩ := r
        simp only [brV] at hd1 hd2 hd3 hcl
        have hk0 : (0 : Int) ≤ k := by omega
        have hkl : (k : Int) < l.length := by omega
        clear hx hrk had
        obtain ⟨nd, end_⟩ : ∃ nd, nd = d.length := ⟨_, rfl⟩
        rw [← end_] at hcl hd2 hd3
        by_cases hb5 : 500 < nd
        · have hb5' : (500 : Int) < nd := by omega
          clear hd1 end_ hd2
          go_wp2_with (first
            | (go_at_call 9; (with_reducible refine (HA.out _).mono ?_); rintro e w2 ⟨rfl, hb2⟩))
          go_ret
          exact ⟨rfl, HS.out.below.trans (hb2.mono HS.out.below.size)⟩
        · have hb5' : (nd : Int) ≤ 500 := by omega
          have hW := fun (W : World) (v : Value) (h : Star w W [RowA 5 1 v D.length (bytesV D), SkA w.heap.size sd0 (YF D) false 65536]) => write_st (c := cr) h 1 rfl (yf_ok (by omega)) 0 (l := d) (m := nd) end_ (by simp only [maxLen]; omega) hd3 (by rw [end_]; exact hd1.below h.below)
          rw [st_put (by omega), ← end_] at hW
          simp only [List.set_cons_zero, List.set_cons_succ] at hW
          have HW := Lib.hid hW
          have HD1 := Lib.hid hd1
          have zn : ((nd : Int) != (nd : Int)) = false := by simp
          have h1d := bytesV_one d
          have HLen := Lib.hid (show D.length + nd = (D ++ d).length by rw [List.length_append, end_])
          have HEN := Lib.hid end_
          have hdl : D.length + nd ≤ 500 * (k + 1) := by omega
          obtain ⟨vv, hvv⟩ : ∃ v : Value, v = v := ⟨.bool true, rfl⟩
          clear hd1 end_ hW hvv
          go_wp2_with (first
            | (go_at_call 10; (with_reducible refine (HW.out _ _ HS.out).mono ?_); rintro e w2 ⟨rfl, hs2⟩
               have HS2 := Lib.hid hs2
               clear hs2)
            | (at_builtin; refine wpList_append_st rfl (.tmp 62) (.tmp 63) 27 rfl HS2.out 0 rfl i0 _ 1 Try.underlying27 hi0 hz0 hz1 hz2 rfl (by omega) rfl w.heap.size Ar nd cr (bytesV d) rfl (by rw [HEN.out]; exact HD1.out.below HS2.out.below) h1d (by simp only [maxLen]; omega) (by omega) ?_
               intro v' w3 hs3
               simp only [List.set_cons_zero, List.set_cons_succ] at hs3
               rw [← bytesV_app, HLen.out] at hs3
               have HS3 := Lib.hid hs3
               clear hs3))
          go_roundw
          case rel => exact ⟨k + 1, D ++ d, by omega, by go_num, by rw [← HLen.out]; exact hdl, HS3⟩
          case measure => simp [intOf]; omega
        -->A
      ·
        --<B
        obtain rfl : k = l.length := by omega
        have hD2 : D.length ≤ 30000 := by omega
        have HS0 := Lib.hid (HS.out.nilRow 5 1)
        obtain ⟨A6, c6, rfl⟩ := own_len (HS.out.row 0 rfl)
        obtain ⟨nD, enD⟩ : ∃ nD, nD = D.length := ⟨_, rfl⟩
        rw [← enD] at HS0 hD2 ⊢
        have HND := Lib.hid enD
        clear HS hD enD hlt
        go_wp2
        go_loopw [7, 68] (fun v i wr => ∃ (k : Nat) (G E : List UInt8), k ≤ rs.length ∧ i = .int .i64 k ∧ Hid (D = G ++ E) ∧ Hid (Star w wr [RowA 5 1 v G.length (bytesV G), RowA 5 1 (.slice A6 nD c6) nD (bytesV D), SkA w.heap.size sd0 (YF E) false 65536])) (fun _ i _ => rs.length - (intOf i).toNat)
        case atStart => exact ⟨0, [], D, by omega, rfl, Lib.hid rfl, HS0⟩
        case round =>
          clear HS0
          obtain ⟨k, G, E, hk, rfl, HGE, HS⟩ := hrel
          have hGl : G.length + E.length = nD := by rw [HND.out, HGE.out, List.length_append]
          by_cases hlt : k < rs.length
          · obtain ⟨ad, u, rfl, had, hx, hcl⟩ := (HR'.out.below HS.out.below).at_ hlt
            obtain ⟨x, hxk⟩ : ∃ x, rs[k]? = some x := ⟨_, List.getElem?_eq_getElem hlt⟩
            obtain rfl : u = .int .i64 x := by
              rw [List.getElem?_map, hxk] at hx
              exact (Option.some.inj hx).symm
            have hxw := HRS.out x (List.mem_of_getElem? hxk)
            have hxb := int_bd hxw
            have hk0 : (0 : Int) ≤ k := by omega
            have hkl : (k : Int) < rs.length := by omega
            clear hx hxk had hxw
            have hok : Ok2 false 65536 sd0 (YF E) := yf_ok (by omega)
            have hR1 := fun (W : World) (v : Value) (h : Star w W [RowA 5 1 v G.length (bytesV G), RowA 5 1 (.slice A6 nD c6) nD (bytesV D), SkA w.heap.size sd0 (YF E) false 65536]) => read_st h 2 rfl hok 1 x hxb.2 true
            have hR2 := fun (W : World) (v v' : Value) (no : Nat) (lo : List Value) (h : Star w W [RowA 5 1 v' no lo, RowA 5 1 v G.length (bytesV G), RowA 5 1 (.slice A6 nD c6) nD (bytesV D), SkA w.heap.size sd0 (YF E) false 65536]) => read_st h 3 rfl hok 1 x hxb.2 false
            have happ := rd_app E x
            rw [st_read] at hR1 hR2
            obtain ⟨out, st, E2, e2⟩ : ∃ a b c, rdS E x = (a, b, c) := ⟨_, _, _, rfl⟩
            rw [e2] at hR1 hR2 happ
            simp only [if_true, Bool.false_eq_true, if_false, List.set_cons_zero, List.set_cons_succ] at hR1 hR2 happ
            simp only [show putD sd0 (YF E) 1 (YF E) = (sd0, YF E) from rfl] at hR1
            simp only [show putD sd0 (YF E) 1 (YF E2) = (sd0, YF E2) from rfl] at hR2
            have HR1 := Lib.hid hR1
            have HR2 := Lib.hid hR2
            have HSm := Lib.hid (fun (W : World) (A5 A7 : Option Addr) (c5 c7 : Nat) (r1 : Reads W W.heap.size 1 A5 out.length (bytesV out)) (r2 : Reads W W.heap.size 1 A7 out.length (bytesV out)) => same_any (c := c5) (c' := c7) r1 r2)
            rw [show decide (out = out) = true from by simp] at HSm
            have z1 : (st != st) = false := by simp
            have h1o := bytesV_one out
            have HGE2 := Lib.hid (show D = (G ++ out) ++ E2 by rw [List.append_assoc, happ]; exact HGE.out)
            have hol : out.length ≤ 65536 := by
              have := congrArg List.length happ
              rw [List.length_append] at this
              omega
            have HLen := Lib.hid (show G.length + out.length = (G ++ out).length by rw [List.length_append])
            clear hR1 hR2 happ e2 hok HGE
            generalize out.length = no at *
            go_wp2_with (first
              | (go_at_call 11; (with_reducible refine (HR1.out _ _ HS.out).mono ?_); rintro e w2 ⟨v2, rfl, hs2⟩
                 obtain ⟨A2, c2, rfl⟩ := own_len (hs2.row 0 rfl)
                 have HS2 := Lib.hid hs2
                 clear hs2)
              | (go_at_call 11; (with_reducible refine (HR2.out _ _ _ _ _ HS2.out).mono ?_); rintro e w3 ⟨v3, rfl, hs3⟩
                 obtain ⟨A3, c3, rfl⟩ := own_len (hs3.row 0 rfl)
                 have HS3 := Lib.hid hs3
                 clear hs3)
              | (go_at_call 12; (with_reducible refine (HSm.out _ _ _ _ _ (HS3.out.reads 1 rfl) (HS3.out.reads 0 rfl)).mono ?_); rintro e w4 ⟨rfl, rfl⟩)
              | (at_builtin; refine wpList_append_st rfl (.tmp 93) (.tmp 94) 27 rfl HS3.out 2 rfl i0 _ 1 Try.underlying27 hi0 hz0 hz1 hz2 rfl (by omega) rfl _ A3 no c3 (bytesV out) rfl (HS3.out.reads 0 rfl) h1o (by simp only [maxLen]; omega) (by omega) ?_
                 intro v5 w5 hs5
                 simp only [List.set_cons_zero, List.set_cons_succ] at hs5
                 rw [← bytesV_app, HLen.out] at hs5
                 have HS5 := Lib.hid hs5.tail.tail
                 clear hs5))
            go_roundw
            case rel => exact ⟨k + 1, G ++ out, E2, by omega, by go_num, HGE2, HS5⟩
            case measure => simp [intOf]; omega
          · have hok : Ok2 false 65536 sd0 (YF E) := yf_ok (by omega)
            obtain ⟨AG, cG, rfl⟩ := own_len (HS.out.row 0 rfl)
            have hR2 := read_st HS.out 2 rfl hok 1 1048576 (by omega) false
            have hrd : ∃ st, rdS E 1048576 = (E, st, []) := by
              unfold rdS
              rw [if_neg (by omega)]
              by_cases he : E = []
              · subst he
                exact ⟨_, rfl⟩
              · rw [if_neg he]
                exact ⟨0, by rw [List.take_of_length_le (by omega), List.drop_of_length_le (by omega)]⟩
            obtain ⟨st, e2⟩ := hrd
            rw [st_read, e2] at hR2
            simp only [Bool.false_eq_true, if_false, List.set_cons_zero, List.set_cons_succ] at hR2
            simp only [show putD sd0 (YF E) 1 (YF []) = (sd0, YF []) from rfl] at hR2
            have HR2 := Lib.hid hR2
            have h1o := bytesV_one E
            have HLen := Lib.hid (show G.length + E.length = nD from hGl)
            have HSm := Lib.hid (fun (W : World) (A5 A7 : Option Addr) (c5 c7 : Nat) (r1 : Reads W W.heap.size 1 A5 nD (bytesV (G ++ E))) (r2 : Reads W W.heap.size 1 A7 nD (bytesV D)) => same_any (c := c5) (c' := c7) r1 r2)
            rw [show decide (G ++ E = D) = true from decide_eq_true HGE.out.symm] at HSm
            have HL := Lib.hid (fun (W : World) (S1 S2 S3 : Asr) (h : Star w W [S1, S2, S3, SkA w.heap.size sd0 (YF []) false 65536]) => len_st h 3 rfl 1)
            rw [show lenS sd0 (YF []) 1 = 0 from rfl, show ((0 : Nat) : Int) = 0 from rfl] at HL
            have hb1 : G.length + E.length ≤ 30000 := by omega
            clear hR2 e2 hok hGl
            generalize E.length = nE at *
            go_wp2_with (first
              | (go_at_call 11; (with_reducible refine HR2.out.mono ?_); rintro e w3 ⟨v3, rfl, hs3⟩
                 obtain ⟨A3, c3, rfl⟩ := own_len (hs3.row 0 rfl)
                 have HS3 := Lib.hid hs3
                 clear hs3)
              | (at_builtin; refine wpList_append_st rfl (.tmp 102) (.tmp 103) 27 rfl HS3.out 1 rfl i0 _ 1 Try.underlying27 hi0 hz0 hz1 hz2 rfl (by omega) rfl _ A3 nE c3 (bytesV E) rfl (HS3.out.reads 0 rfl) h1o (by simp only [maxLen]; omega) (by omega) ?_
                 intro v5 w5 hs5
                 simp only [List.set_cons_zero, List.set_cons_succ] at hs5
                 rw [← bytesV_app, HLen.out] at hs5
                 obtain ⟨A5, c5, rfl⟩ := own_len (hs5.row 1 rfl)
                 have HS5 := Lib.hid hs5
                 clear hs5)
              | (go_at_call 12; (with_reducible refine (HSm.out _ _ _ _ _ (HS5.out.reads 1 rfl) (HS5.out.reads 2 rfl)).mono ?_); rintro e w6 ⟨rfl, rfl⟩)
              | (go_at_call 13; (with_reducible refine (HL.out _ _ _ _ HS5.out).mono ?_); rintro e w7 ⟨rfl, rfl⟩)
              | (go_at_call 9; (with_reducible refine (HA.out _).mono ?_); rintro e w8 ⟨rfl, hb8⟩))
            go_ret
            exact ⟨rfl, HS5.out.below.trans (hb8.mono HS5.out.below.size)⟩
        -->B
theorem stream_row (A : Option Addr) (c : Nat) (l : List BRw) (A' : Option Addr) (c' : Nat) (rs : List Int) (w : World) (hr : Reads w w.heap.size 1 A l.length (l.map brV)) (hm : l.length ≤ maxLen) (hl : ∀ r ∈ l, brOk w r)
    (hr' : Reads w w.heap.size 1 A' rs.length (rs.map (Value.int .i64))) (hm' : rs.length ≤ maxLen) (hrs : ∀ x ∈ rs, (Lit.int .i64 x).wf = true) :
    Calls Try.prog 3 #[.slice A l.length c, .slice A' rs.length c'] w fun e w' => e = .returned (.bool true) ∧ Below w.heap.size w w' := stream_walk A A' c c' l rs w hr hm hl hr' hm' hrs
end Go.Proofs.Ytfocbpnabgpmpaa.Sk
