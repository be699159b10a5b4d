/- The port's reference: Cancel, Forget. -/
import Derived.Test.YtjkgkoilabbdgaaPtR2
namespace Go.Proofs.Ytjkgkoilabbdgaa.Pt
open Go Go.RowKit Go.Proofs.Ytjkgkoilabbdgaa.Mem
set_option linter.unusedVariables false
set_option linter.unusedSimpArgs false
theorem and2_false {a b : Bool} (h : ¬ (a && b) = true) : a = false ∨ (a = true ∧ b = false) := by
  cases a <;> cases b <;> simp_all
theorem and3_false {a b c : Bool} (h : ¬ (a && b && c) = true) : a = false ∨ (a = true ∧ b = false) ∨ (a = true ∧ b = true ∧ c = false) := by
  cases a <;> cases b <;> cases c <;> simp_all
section
variable {w0 w : World} {S : List Asr} {bs : Nat} {s : Po} {t : Value × Value}
set_option maxHeartbeats 8000000 in
theorem forget_ref (h : Star w0 w (rp bs s t ++ S)) (hw : s.ws.length ≤ 1000) (ob : Int) : Calls Try.prog 26 #[.pointer (some ⟨bs, 0, none⟩), .int .i64 ob] w fun r w' => r = .returned (.int .i64 (forgetS s ob).1) ∧ ∃ t', Star w0 w' (rp bs (forgetS s ob).2 t' ++ S) := by
  obtain ⟨t0, t2⟩ := t
  obtain ⟨-, ⟨A, c, rfl⟩⟩ := rp_rows h
  obtain ⟨n, en⟩ : ∃ n, n = s.ws.length := ⟨_, rfl⟩
  have EN := Lib.hid en
  have hs0 : Star w0 w (BlkA bs 50 #[t0, .slice A s.ws.length c, .int .i64 s.d, .int .i64 s.m] :: RowO 52 3 t0 s.q.length (t3V s.q) :: RowO 58 3 (.slice A s.ws.length c) s.ws.length (t3V s.ws) :: RowO 58 3 (.slice none 0 0) 0 [] :: S) := ((((h.nilO 58 3).pick 3 rfl).pick 3 rfl).pick 3 rfl)
  rw [← en] at hs0 hw
  have HS0 := Lib.hid hs0
  have hn' : (n : Int) ≤ 1000 := by omega
  obtain ⟨j0, hj0, hy0, hy1, hy2⟩ := info_parts rw_info
  clear h en hs0
  go_enter Try.func26, Try.ntmps26
  go_wp2
  go_loopg [5, 6] n (fun gg s5 s6 wr => ∃ (k n7 : Nat) (A7 : Option Addr) (c7 : Nat), k ≤ n ∧ n - k ≤ gg ∧ s6 = .int .i64 k ∧ s5 = .slice A7 n7 c7 ∧ n7 ≤ k ∧ Hid (n7 = (nots (ofP ob) (s.ws.take k)).length) ∧
    Hid (Star w0 wr (BlkA bs 50 #[t0, .slice A n c, .int .i64 s.d, .int .i64 s.m] :: RowO 52 3 t0 s.q.length (t3V s.q) :: RowO 58 3 (.slice A n c) n (t3V s.ws) :: RowO 58 3 (.slice A7 n7 c7) n7 (t3V (nots (ofP ob) (s.ws.take k))) :: S)))
  case atStart => exact ⟨0, 0, none, 0, by omega, by omega, rfl, rfl, by omega, Lib.hid rfl, HS0⟩
  case round =>
    clear HS0
    obtain ⟨k, n7, A7, c7, hk, hg, rfl, rfl, hnk, HN7, HS⟩ := hrel
    have k1 : wr.cell? ⟨bs, 1, none⟩ = some (.slice A n c) := (HS.out.blk 0 rfl).cellv (i := 1) rfl
    by_cases hlt : k < n
    · have hltz : (k : Int) < (n : Int) := by omega
      obtain ⟨x, hx⟩ : ∃ x, s.ws[k]? = some x := ⟨_, List.getElem?_eq_getElem (by rw [← EN.out]; exact hlt)⟩
      obtain ⟨g, off, cp, hv, hbg, hgl, hnc⟩ := (HS.out.rowO 2 rfl).form (by omega)
      simp only [Value.slice.injEq, true_and] at hv
      obtain ⟨rfl, rfl⟩ := hv
      obtain ⟨r0, r1, r2⟩ := at3 (HS.out.rowO 2 rfl) EN.out hx
      have et3 := nots_step (p := ofP ob) hx
      have ef : ofP ob x = (x.a == ob) := rfl
      rw [ef] at et3
      have h1x := t3V_one [x]
      have hx1 : t3V [x] = [.int .i64 x.a, .int .i64 x.b, .int .i64 x.c] := rfl
      rw [hx1] at h1x
      clear hx hx1 ef
      by_cases ha : x.a = ob
      · have ha' : (x.a == ob) = true := beq_iff_eq.mpr ha
        rw [ha'] at et3
        simp only [if_true] at et3
        rw [List.append_nil] at et3
        have E3 := Lib.hid et3
        clear ha et3
        go_wp2
        go_roundg (n - (k + 1))
        case measure => omega
        case rel =>
          refine ⟨k + 1, n7, A7, c7, by omega, by omega, by go_num, rfl, by omega, Lib.hid (by rw [E3.out]; exact HN7.out), Lib.hid ?_⟩
          rw [E3.out]
          exact HS.out
      · have ha' : (x.a == ob) = false := beq_eq_false_iff_ne.mpr ha
        rw [ha'] at et3
        simp only [Bool.false_eq_true, if_false] at et3
        have E3 := Lib.hid et3
        clear ha et3
        go_wp2_with (first
          | (at_builtin; refine wpList_append_so rfl (.tmp 27) (.tmp 35) 48 rfl (HS.out.alloc _) 3 rfl j0 _ 24 Try.underlying48 hj0 hy0 hy1 hy2 rfl (by omega) (by rfl) _ (some ⟨wr.heap.size, 0, none⟩) 1 1 [.int .i64 x.a, .int .i64 x.b, .int .i64 x.c] (by rfl) (reads_fresh_at _ 58 [.int .i64 x.a, .int .i64 x.b, .int .i64 x.c] 1 3 wr.heap.size rfl (by simp)) h1x (by simp only [maxLen]; omega) (by omega) ?_
             intro v3 w3 hs3
             simp only [List.cons_append, List.nil_append, List.set_cons_zero, List.set_cons_succ] at hs3
             obtain ⟨A3, c3, rfl⟩ := (hs3.rowO 3 rfl).len
             have HS4 := Lib.hid hs3
             clear hs3))
        go_roundg (n - (k + 1))
        case measure => omega
        case rel =>
          refine ⟨k + 1, n7 + 1, A3, c3, by omega, by omega, by go_num, rfl, by omega, Lib.hid (by rw [E3.out, List.length_append, ← HN7.out]; rfl), Lib.hid ?_⟩
          rw [E3.out, t3V_app]
          exact HS4.out
    · have hltz : ¬ (k : Int) < n := by omega
      obtain rfl : k = n := by omega
      have f1 := (HS.out.blk 0 rfl).frozen 1
      have hn7 : (n7 : Int) ≤ k := by omega
      clear hlt
      go_wp2
      go_ret
      have e0 : s.ws.take k = s.ws := by rw [EN.out, List.take_length]
      have e2 := HN7.out
      rw [e0] at e2
      refine ⟨?_, t0, .slice A7 n7 c7, ?_⟩
      · unfold forgetS
        simp only
        rw [← e2, ← EN.out]
        rfl
      have h5 := HS.out.setBlk 0 rfl 1 (.slice A7 n7 c7)
      simp only [List.set_cons_zero] at h5
      have h6 : Star w0 (wr.setCell ⟨bs, 1, none⟩ (.slice A7 n7 c7)) (BlkA bs 50 #[t0, .slice A7 n7 c7, .int .i64 s.d, .int .i64 s.m] :: RowO 52 3 t0 s.q.length (t3V s.q) :: RowO 58 3 (.slice A7 n7 c7) n7 (t3V (nots (ofP ob) (s.ws.take k))) :: S) := (h5.pick 2 rfl).tail
      rw [e0] at h6
      show Star w0 _ (BlkA bs 50 #[t0, .slice A7 n7 c7, .int .i64 s.d, .int .i64 s.m] :: RowO 52 3 t0 s.q.length (t3V s.q) :: RowO 58 3 (.slice A7 n7 c7) (nots (ofP ob) s.ws).length (t3V (nots (ofP ob) s.ws)) :: S)
      rw [← e2]
      exact h6
set_option maxHeartbeats 8000000 in
theorem cancel_ref (h : Star w0 w (rp bs s t ++ S)) (hw : s.q.length + s.ws.length ≤ 1000) (hpos : ∀ x ∈ s.q, 0 ≤ x.b) (ob ky : Int) : Calls Try.prog 25 #[.pointer (some ⟨bs, 0, none⟩), .int .i64 ob, .int .i64 ky] w fun r w' => r = .returned (.int .i64 (cancelS s ob ky).1) ∧ ∃ t', Star w0 w' (rp bs (cancelS s ob ky).2 t' ++ S) := by
  obtain ⟨t0, t2⟩ := t
  obtain ⟨⟨A0, c0, rfl⟩, ⟨A, c, rfl⟩⟩ := rp_rows h
  obtain ⟨n, en⟩ : ∃ n, n = s.ws.length := ⟨_, rfl⟩
  have EN := Lib.hid en
  obtain ⟨q, eq⟩ : ∃ q, q = s.q.length := ⟨_, rfl⟩
  have EQ := Lib.hid eq
  have hs0 : Star w0 w (BlkA bs 50 #[.slice A0 s.q.length c0, .slice A s.ws.length c, .int .i64 s.d, .int .i64 s.m] :: RowO 52 3 (.slice A0 s.q.length c0) s.q.length (t3V s.q) :: RowO 58 3 (.slice A s.ws.length c) s.ws.length (t3V s.ws) :: RowO 58 3 (.slice none 0 0) 0 [] :: RowO 52 3 (.slice none 0 0) 0 [] :: S) := (((((h.nilO 52 3).nilO 58 3).pick 4 rfl).pick 4 rfl).pick 4 rfl)
  rw [← en, ← eq] at hs0 hw
  have HS0 := Lib.hid hs0
  have hn' : (n : Int) ≤ 1000 := by omega
  have hq' : (q : Int) ≤ 1000 := by omega
  have hnq : (n : Int) + q ≤ 1000 := by omega
  obtain ⟨i0, hi0, hz0, hz1, hz2⟩ := info_parts rk_info
  obtain ⟨j0, hj0, hy0, hy1, hy2⟩ := info_parts rw_info
  have HP := Lib.hid hpos
  clear h en eq hs0 hpos
  go_enter Try.func25, Try.ntmps25
  go_wp2
  go_loopg [7, 9, 10] n (fun gg s7 s9 s10 wr => ∃ (k m n7 : Nat) (A7 : Option Addr) (c7 : Nat), k ≤ n ∧ n - k ≤ gg ∧ s10 = .int .i64 k ∧ s9 = .int .i64 m ∧ s7 = .slice A7 n7 c7 ∧ m + n7 = k ∧ Hid (n7 = (nots (ofK ob ky) (s.ws.take k)).length) ∧
    Hid (Star w0 wr (BlkA bs 50 #[.slice A0 q c0, .slice A n c, .int .i64 s.d, .int .i64 s.m] :: RowO 52 3 (.slice A0 q c0) q (t3V s.q) :: RowO 58 3 (.slice A n c) n (t3V s.ws) :: RowO 58 3 (.slice A7 n7 c7) n7 (t3V (nots (ofK ob ky) (s.ws.take k))) :: RowO 52 3 (.slice none 0 0) 0 [] :: S)))
  case atStart => exact ⟨0, 0, 0, none, 0, by omega, by omega, rfl, rfl, rfl, by omega, Lib.hid rfl, HS0⟩
  case round =>
    clear HS0
    obtain ⟨k, m, n7, A7, c7, hk, hg, rfl, rfl, rfl, hmk, HN7, HS⟩ := hrel
    have HMK := Lib.hid hmk
    have hm1 : m ≤ k := by omega
    have hn7 : n7 ≤ k := by omega
    clear hmk
    have k1 : wr.cell? ⟨bs, 1, none⟩ = some (.slice A n c) := (HS.out.blk 0 rfl).cellv (i := 1) rfl
    by_cases hlt : k < n
    · have hltz : (k : Int) < (n : Int) := by omega
      obtain ⟨x, hx⟩ : ∃ x, s.ws[k]? = some x := ⟨_, List.getElem?_eq_getElem (by rw [← EN.out]; exact hlt)⟩
      obtain ⟨g, off, cp, hv, hbg, hgl, hnc⟩ := (HS.out.rowO 2 rfl).form (by omega)
      simp only [Value.slice.injEq, true_and] at hv
      obtain ⟨rfl, rfl⟩ := hv
      obtain ⟨r0, r1, r2⟩ := at3 (HS.out.rowO 2 rfl) EN.out hx
      have et3 := nots_step (p := ofK ob ky) hx
      have ef : ofK ob ky x = (x.a == ob && x.b == ky) := rfl
      rw [ef] at et3
      have h1x := t3V_one [x]
      have hx1 : t3V [x] = [.int .i64 x.a, .int .i64 x.b, .int .i64 x.c] := rfl
      rw [hx1] at h1x
      have hmz : (m : Int) ≤ 1000 := by omega
      clear hx hx1 ef
      by_cases ha : (x.a == ob && x.b == ky) = true
      · rw [ha] at et3
        simp only [if_true] at et3
        rw [List.append_nil] at et3
        simp only [Bool.and_eq_true] at ha
        obtain ⟨ha1, ha2⟩ := ha
        have E3 := Lib.hid et3
        clear et3
        go_wp2
        go_roundg (n - (k + 1))
        case measure => omega
        case rel =>
          refine ⟨k + 1, m + 1, n7, A7, c7, by omega, by omega, by go_num, by go_num, rfl, by have := HMK.out; omega, Lib.hid (by rw [E3.out]; exact HN7.out), Lib.hid ?_⟩
          rw [E3.out]
          exact HS.out
      · rw [if_neg ha] at et3
        have E3 := Lib.hid et3
        have ha3 := and2_false ha
        clear ha et3
        rcases ha3 with ha1 | ⟨ha1, ha2⟩
        all_goals
          go_wp2_with (first
            | (at_builtin; refine wpList_append_so rfl (.tmp 45) (.tmp 53) 48 rfl (HS.out.alloc _) 3 rfl j0 _ 24 Try.underlying48 hj0 hy0 hy1 hy2 rfl (by omega) (by rfl) _ (some ⟨wr.heap.size, 0, none⟩) 1 1 [.int .i64 x.a, .int .i64 x.b, .int .i64 x.c] (by rfl) (reads_fresh_at _ 58 [.int .i64 x.a, .int .i64 x.b, .int .i64 x.c] 1 3 wr.heap.size rfl (by simp)) h1x (by simp only [maxLen]; omega) (by omega) ?_
               intro v3 w3 hs3
               simp only [List.cons_append, List.nil_append, List.set_cons_zero, List.set_cons_succ] at hs3
               obtain ⟨A3, c3, rfl⟩ := (hs3.rowO 3 rfl).len
               have HS4 := Lib.hid hs3
               clear hs3))
          go_roundg (n - (k + 1))
          case measure => omega
          case rel =>
            refine ⟨k + 1, m, n7 + 1, A3, c3, by omega, by omega, by go_num, rfl, rfl, by have := HMK.out; omega, Lib.hid (by rw [E3.out, List.length_append, ← HN7.out]; rfl), Lib.hid ?_⟩
            rw [E3.out, t3V_app]
            exact HS4.out
    · have hltz : ¬ (k : Int) < n := by omega
      obtain rfl : k = n := by omega
      have e0 : s.ws.take k = s.ws := by rw [EN.out, List.take_length]
      rw [e0] at HS HN7
      have HS1 := HS
      clear hlt HS e0
      go_wp2

      go_loopg [8, 9, 11] q (fun gg s8 s9 s11 wx => ∃ (j p n8 : Nat) (A8 : Option Addr) (c8 : Nat), j ≤ q ∧ q - j ≤ gg ∧ s11 = .int .i64 j ∧ s9 = .int .i64 p ∧ s8 = .slice A8 n8 c8 ∧ p + n8 = m + j ∧ n8 ≤ j ∧ Hid (n8 = (nots (mineP ob ky) (s.q.take j)).length) ∧
        Hid (Star w0 wx (BlkA bs 50 #[.slice A0 q c0, .slice A k c, .int .i64 s.d, .int .i64 s.m] :: RowO 52 3 (.slice A0 q c0) q (t3V s.q) :: RowO 58 3 (.slice A k c) k (t3V s.ws) :: RowO 58 3 (.slice A7 n7 c7) n7 (t3V (nots (ofK ob ky) s.ws)) :: RowO 52 3 (.slice A8 n8 c8) n8 (t3V (nots (mineP ob ky) (s.q.take j))) :: S)))
      case atStart => exact ⟨0, m, 0, none, 0, by omega, by omega, rfl, rfl, rfl, by omega, by omega, Lib.hid rfl, HS1⟩
      case round =>
        clear HS1
        obtain ⟨j, p, n8, A8, c8, hj, hg2, rfl, rfl, rfl, hpj, hn8, HN8, HS⟩ := hrel
        have HPJ := Lib.hid hpj
        have hp1 : p ≤ m + j := by omega
        clear hpj
        have k0 : wr.cell? ⟨bs, 0, none⟩ = some (.slice A0 q c0) := (HS.out.blk 0 rfl).cellv (i := 0) rfl
        by_cases hlt : j < q
        · have hltz : (j : Int) < (q : Int) := by omega
          obtain ⟨x, hx⟩ : ∃ x, s.q[j]? = some x := ⟨_, List.getElem?_eq_getElem (by rw [← EQ.out]; exact hlt)⟩
          obtain ⟨g, off, cp, hv, hbg, hgl, hnc⟩ := (HS.out.rowO 1 rfl).form (by omega)
          simp only [Value.slice.injEq, true_and] at hv
          obtain ⟨rfl, rfl⟩ := hv
          obtain ⟨r0, r1, r2⟩ := at3 (HS.out.rowO 1 rfl) EQ.out hx
          have et3 := nots_step (p := mineP ob ky) hx
          have hxb := HP.out x (List.mem_of_getElem? hx)
          have ef : mineP ob ky x = (ob != 0 && x.b == ob && x.a == ky) := by
            unfold mineP
            by_cases h1 : 0 < ob
            · have : (ob != 0) = true := bne_iff_ne.mpr (by omega)
              rw [this, decide_eq_true h1]
            · rw [decide_eq_false h1]
              by_cases h2 : ob = 0
              · simp [h2]
              · have : (x.b == ob) = false := beq_eq_false_iff_ne.mpr (by omega)
                rw [this]
                simp
          rw [ef] at et3
          have h1x := t3V_one [x]
          have hx1 : t3V [x] = [.int .i64 x.a, .int .i64 x.b, .int .i64 x.c] := rfl
          rw [hx1] at h1x
          have hpz : (p : Int) ≤ 1000 := by omega
          clear hx hx1 ef hxb
          by_cases ha : (ob != 0 && x.b == ob && x.a == ky) = true
          · rw [ha] at et3
            simp only [if_true] at et3
            rw [List.append_nil] at et3
            simp only [Bool.and_eq_true] at ha
            obtain ⟨⟨ha0, ha1⟩, ha2⟩ := ha
            have E3 := Lib.hid et3
            clear et3
            go_wp2
            go_roundg (q - (j + 1))
            case measure => omega
            case rel =>
              refine ⟨j + 1, p + 1, n8, A8, c8, by omega, by omega, by go_num, by go_num, rfl, by have := HPJ.out; omega, by omega, Lib.hid (by rw [E3.out]; exact HN8.out), Lib.hid ?_⟩
              rw [E3.out]
              exact HS.out
          · rw [if_neg ha] at et3
            have E3 := Lib.hid et3
            have ha3 := and3_false ha
            clear ha et3
            rcases ha3 with ha0 | ⟨ha0, ha1⟩ | ⟨ha0, ha1, ha2⟩
            all_goals
              go_wp2_with (first
                | (at_builtin; refine wpList_append_so rfl (.tmp 92) (.tmp 100) 47 rfl (HS.out.alloc _) 4 rfl i0 _ 24 Try.underlying47 hi0 hz0 hz1 hz2 rfl (by omega) (by rfl) _ (some ⟨wr.heap.size, 0, none⟩) 1 1 [.int .i64 x.a, .int .i64 x.b, .int .i64 x.c] (by rfl) (reads_fresh_at _ 52 [.int .i64 x.a, .int .i64 x.b, .int .i64 x.c] 1 3 wr.heap.size rfl (by simp)) h1x (by simp only [maxLen]; omega) (by omega) ?_
                   intro v3 w3 hs3
                   simp only [List.cons_append, List.nil_append, List.set_cons_zero, List.set_cons_succ] at hs3
                   obtain ⟨A3, c3, rfl⟩ := (hs3.rowO 4 rfl).len
                   have HS4 := Lib.hid hs3
                   clear hs3))
              go_roundg (q - (j + 1))
              case measure => omega
              case rel =>
                refine ⟨j + 1, p, n8 + 1, A3, c3, by omega, by omega, by go_num, rfl, rfl, by have := HPJ.out; omega, by omega, Lib.hid (by rw [E3.out, List.length_append, ← HN8.out]; rfl), Lib.hid ?_⟩
                rw [E3.out, t3V_app]
                exact HS4.out
        · have hltz : ¬ (j : Int) < q := by omega
          obtain rfl : j = q := by omega
          have e0 : s.q.take j = s.q := by rw [EQ.out, List.take_length]
          rw [e0] at HS HN8
          have hs1 := HS.out
          have f1 := (hs1.blk 0 rfl).frozen 1
          have k1' : wr.cell? ⟨bs, 1, none⟩ = some (.slice A k c) := (hs1.blk 0 rfl).cellv (i := 1) rfl
          have hs2 := hs1.setBlk 0 rfl 1 (.slice A7 n7 c7)
          simp only [List.set_cons_zero] at hs2
          have f2 := (hs2.blk 0 rfl).frozen 0
          have k2 : (wr.setCell ⟨bs, 1, none⟩ (.slice A7 n7 c7)).cell? ⟨bs, 0, none⟩ = some (.slice A0 j c0) := (hs2.blk 0 rfl).cellv (i := 0) rfl
          have hs3 := hs2.setBlk 0 rfl 0 (.slice A8 n8 c8)
          simp only [List.set_cons_zero] at hs3
          have hs4 : Star w0 ((wr.setCell ⟨bs, 1, none⟩ (.slice A7 n7 c7)).setCell ⟨bs, 0, none⟩ (.slice A8 n8 c8)) (BlkA bs 50 #[.slice A8 n8 c8, .slice A7 n7 c7, .int .i64 s.d, .int .i64 s.m] :: RowO 52 3 (.slice A8 n8 c8) n8 (t3V (nots (mineP ob ky) s.q)) :: RowO 58 3 (.slice A7 n7 c7) n7 (t3V (nots (ofK ob ky) s.ws)) :: S) := (((((hs3.pick 3 rfl).pick 4 rfl).pick 2 rfl).pick 4 rfl).pick 4 rfl).tail.tail
          have HF := Lib.hid hs4
          have er : (cancelS s ob ky).1 = if p = 0 then -25 else 0 := by
            show (if _ then _ else _) = _
            rw [← HN7.out, ← HN8.out, ← EN.out, ← EQ.out]
            have h1 := HMK.out
            have h2 := HPJ.out
            by_cases hp0 : p = 0
            · rw [if_pos hp0, if_pos (by omega)]
            · rw [if_neg hp0, if_neg (by omega)]
          have hfin : Hid (Star w0 ((wr.setCell ⟨bs, 1, none⟩ (.slice A7 n7 c7)).setCell ⟨bs, 0, none⟩ (.slice A8 n8 c8)) (rp bs (cancelS s ob ky).2 (.slice A8 n8 c8, .slice A7 n7 c7) ++ S)) := Lib.hid (by
            show Star w0 _ (BlkA bs 50 #[.slice A8 n8 c8, .slice A7 n7 c7, .int .i64 s.d, .int .i64 s.m] :: RowO 52 3 (.slice A8 n8 c8) (nots (mineP ob ky) s.q).length (t3V (nots (mineP ob ky) s.q)) :: RowO 58 3 (.slice A7 n7 c7) (nots (ofK ob ky) s.ws).length (t3V (nots (ofK ob ky) s.ws)) :: S)
            rw [← HN7.out, ← HN8.out]
            exact hs4)
          by_cases hp0 : p = 0
          · have E1 := Lib.hid (er.trans (if_pos hp0))
            subst hp0
            clear hlt er hs1 hs2 hs3 hs4 e0
            go_wp2
            go_ret
            first | exact ⟨by rw [E1.out]; rfl, .slice A8 n8 c8, .slice A7 n7 c7, hfin.out⟩ | exact ⟨by rw [E1.out]; rfl, (.slice A8 n8 c8, .slice A7 n7 c7), hfin.out⟩
          · have E1 := Lib.hid (er.trans (if_neg hp0))
            have hp1 : ((p : Int) == 0) = false := beq_eq_false_iff_ne.mpr (by omega)
            clear hlt er hs1 hs2 hs3 hs4 e0
            go_wp2
            go_ret
            first | exact ⟨by rw [E1.out]; rfl, .slice A8 n8 c8, .slice A7 n7 c7, hfin.out⟩ | exact ⟨by rw [E1.out]; rfl, (.slice A8 n8 c8, .slice A7 n7 c7), hfin.out⟩
end
end Go.Proofs.Ytjkgkoilabbdgaa.Pt
