/- The contract of Splice. -/
import Derived.Test.YtfahhjbbbimjfaaLiH
namespace Go.Proofs.Ytfahhjbbbimjfaa.Li
open Go Go.RowKit Go.Proofs.Ytfahhjbbbimjfaa.Mem
set_option linter.unusedVariables false
set_option linter.unusedSimpArgs false
def spK (L : List (List Nat)) (t f k : Nat) (A C : List Nat) : List (List Nat) := (L.set t (A ++ C.take k)).set f (C.drop k)
section
variable {L : List (List Nat)} {m t f : Nat} {A C : List Nat}
theorem spK_zero (ht : L[t]? = some A) (hf : L[f]? = some C) : spK L t f 0 A C = L := by
  unfold spK
  rw [List.take_zero, List.append_nil, List.drop_zero]
  have h1 : L.set t A = L := by rw [← (List.getElem?_eq_some_iff.1 ht).2]; exact List.set_getElem_self _
  rw [h1, ← (List.getElem?_eq_some_iff.1 hf).2]
  exact List.set_getElem_self _
theorem spK_step (ht : L[t]? = some A) (hf : L[f]? = some C) (hne : t ≠ f) {k y : Nat} (hy : C[k]? = some y) (hw : WfL (spK L t f k A C) m) :
    ∃ M, removeS (spK L t f k A C) m (y : Int) = (0, M) ∧ pushS M m (t : Int) (y : Int) = (0, spK L t f (k + 1) A C) := by
  have htl := (List.getElem?_eq_some_iff.1 ht).1
  have hfl := (List.getElem?_eq_some_iff.1 hf).1
  have hk := (List.getElem?_eq_some_iff.1 hy).1
  have hyd : C.drop k = y :: C.drop (k + 1) := by
    rw [List.drop_eq_getElem_cons hk, (List.getElem?_eq_some_iff.1 hy).2]
  have hF : (spK L t f k A C)[f]? = some ([] ++ y :: C.drop (k + 1)) := by
    unfold spK
    rw [List.getElem?_set_self (by simpa using hfl), hyd]
    rfl
  have h1 := hw.remove hF
  have hd := hw.drop hF
  refine ⟨_, h1, ?_⟩
  have hM : (spK L t f k A C).set f ([] ++ C.drop (k + 1)) = (L.set t (A ++ C.take k)).set f (C.drop (k + 1)) := by
    unfold spK
    rw [List.set_set]
    rfl
  have hT : ((spK L t f k A C).set f ([] ++ C.drop (k + 1)))[t]? = some (A ++ C.take k) := by
    rw [hM, List.getElem?_set_ne (fun e => hne e.symm), List.getElem?_set_self htl]
  rw [push_ok hT (hw.lt f _ y hF (by simp)) (by rw [← hd]; exact whr_drop _ _), hM]
  congr 1
  unfold spK
  rw [List.set_comm _ _ (fun e => hne e.symm), List.set_set, List.take_add_one, hy, List.append_assoc]
  rfl
theorem spK_end : spK L t f C.length A C = (L.set t (A ++ C)).set f [] := by
  unfold spK
  rw [List.take_length, List.drop_length]
end
theorem set_at {S : List Asr} {j : Nat} (hj : j < S.length) (R X : Asr) : (R :: S.set j X)[j + 1]? = some X := by
  rw [List.getElem?_cons_succ, List.getElem?_set_self hj]
theorem set_again {S : List Asr} {j : Nat} (R X Y : Asr) : (R :: S.set j X).set (j + 1) Y = R :: S.set j Y := by
  rw [List.set_cons_succ, List.set_set]
set_option maxHeartbeats 4000000 in
theorem splice_st {w0 w : World} {S : List Asr} {b : Nat} {L : List (List Nat)} {m : Nat} (h : Star w0 w S) (j : Nat) (hj : S[j]? = some (LzA b L m)) (tq fq : Int) : Calls Try.prog 22 #[.pointer (some ⟨b, 0, none⟩), .int .i64 tq, .int .i64 fq] w fun e w' =>
    e = .returned (.int .i64 (spliceS L tq fq).1) ∧ Star w0 w' (S.set j (LzA b (spliceS L tq fq).2 m)) := by
  have HT := Lib.hid (has_st h j hj tq)
  have HFr := Lib.hid (has_st h j hj fq)
  have hlt := (List.getElem?_eq_some_iff.1 hj).1
  have hset : S.set j (LzA b L m) = S := by rw [← (List.getElem?_eq_some_iff.1 hj).2]; exact List.set_getElem_self hlt
  unfold spliceS
  by_cases h1 : okQ L tq
  · rw [show decide (okQ L tq) = true from decide_eq_true h1] at HT
    by_cases h2 : okQ L fq
    · rw [show decide (okQ L fq) = true from decide_eq_true h2] at HFr
      by_cases h3 : tq = fq
      · rw [if_neg (fun hh => hh.2.2 h3)]
        have HS := Lib.hid h
        have HSe := Lib.hid hset
        have hz : (tq == fq) = true := beq_iff_eq.mpr h3
        clear h hj hset h1 h2 h3
        go_enter Try.func22, Try.ntmps22
        go_wp2_with (first
          | (go_at_call 29; (with_reducible refine HT.out.mono ?_); rintro e w1 ⟨rfl, rfl⟩)
          | (go_at_call 29; (with_reducible refine HFr.out.mono ?_); rintro e w1 ⟨rfl, rfl⟩))
        go_ret
        exact ⟨rfl, by rw [HSe.out]; exact HS.out⟩
      · rw [if_pos ⟨h1, h2, h3⟩]
        have hz : (tq == fq) = false := beq_eq_false_iff_ne.mpr h3
        have HI := Lib.hid (list_st h j hj fq)
        rw [show listS L fq = getQ L fq from if_pos h2] at HI
        obtain ⟨t, A, rfl, hA, hgA⟩ := okQ_at h1
        obtain ⟨f, C, rfl, hC, hgC⟩ := okQ_at h2
        rw [hgC] at HI
        rw [hgA, hgC, Int.toNat_natCast, Int.toNat_natCast]
        have hne : t ≠ f := fun e => h3 (by rw [e])
        obtain ⟨hwf, hs1, hs2⟩ := Star.wf h j hj
        have hCl : C.length ≤ 65536 := by
          have := nodup_le m C (hwf.nd f C hC) (fun x hx => hwf.lt f C x hC hx)
          omega
        have HE := Lib.hid (spK_end (L := L) (t := t) (f := f) (A := A) (C := C))
        have HA := Lib.hid hA
        have HC := Lib.hid hC
        have HSe := Lib.hid hset
        rw [← spK_zero hA hC] at hset
        have HS0 := Lib.hid hset
        obtain ⟨n, hn⟩ : ∃ n, n = C.length := ⟨_, rfl⟩
        rw [← hn] at HI hCl HE
        have HN := Lib.hid hn
        clear h hj hset h1 h2 h3 hA hC hgA hgC hwf hn
        go_enter Try.func22, Try.ntmps22
        go_wp2_with (first
          | (go_at_call 29; (with_reducible refine HT.out.mono ?_); rintro e w1 ⟨rfl, rfl⟩)
          | (go_at_call 29; (with_reducible refine HFr.out.mono ?_); rintro e w1 ⟨rfl, rfl⟩)
          | (go_at_call 12; (with_reducible refine HI.out.mono ?_); rintro e w2 ⟨v, rfl, hs2⟩
             obtain ⟨A2, c2, rfl⟩ := own_len (hs2.row 0 rfl)
             have HS2 := Lib.hid hs2
             clear hs2))
        go_loopw [28] (fun i wr => ∃ k : Nat, k ≤ n ∧ i = .int .i64 k ∧ Hid (Star w0 wr (RowA 3 1 (.slice A2 n c2) n (intsN C) :: S.set j (LzA b (spK L t f k A C) m)))) (fun i _ => n - (intOf i).toNat)
        case atStart => exact ⟨0, by omega, rfl, Lib.hid (by rw [HS0.out]; exact HS2.out)⟩
        case round =>
          clear HS2
          obtain ⟨k, hk, rfl, HS⟩ := hrel
          by_cases hlk : k < n
          · have hkC : k < C.length := by rw [← HN.out]; exact hlk
            obtain ⟨y, hy⟩ : ∃ y, C[k]? = some y := ⟨_, List.getElem?_eq_getElem hkC⟩
            obtain ⟨hwf, -, -⟩ := Star.wf HS.out (j + 1) (set_at hlt _ _)
            obtain ⟨M, hrm, hpu⟩ := spK_step HA.out HC.out hne hy hwf
            have hR := remove_st HS.out (j + 1) (set_at hlt _ _) (y : Int)
            rw [hrm, set_again] at hR
            have HR := Lib.hid hR
            have hP := fun (W : World) (h : Star w0 W (RowA 3 1 (.slice A2 n c2) n (intsN C) :: S.set j (LzA b M m))) => push_st h (j + 1) (set_at hlt _ _) (t : Int) (y : Int)
            rw [hpu] at hP
            simp only [set_again] at hP
            have HP := Lib.hid hP
            obtain ⟨g, cp, hsv, hbg, hgl, hnc⟩ := own_form (HS.out.row 0 rfl) (by omega)
            simp only [Value.slice.injEq] at hsv
            obtain ⟨rfl, -, rfl⟩ := hsv
            have dk := (HS.out.row 0 rfl).cellAt k (by omega)
            rw [show (intsN C)[k]? = some (.int .i64 (y : Int)) by simp [intsN, hy]] at dk
            have hk0 : (0 : Int) ≤ k := by omega
            have hkn : (k : Int) < n := by omega
            clear hwf hrm hpu hR hP hy
            go_wp2_with (first
              | (go_at_call 16; (with_reducible refine HR.out.mono ?_); rintro e w5 ⟨rfl, hs5⟩
                 have HS5 := Lib.hid hs5
                 clear hs5)
              | (go_at_call 9; (with_reducible refine (HP.out _ HS5.out).mono ?_); rintro e w6 ⟨rfl, hs6⟩
                 have HS6 := Lib.hid hs6
                 clear hs6))
            go_roundw
            case rel => exact ⟨k + 1, by omega, by go_num, HS6⟩
            case measure => simp [intOf]; omega
          · obtain rfl : k = n := by omega
            go_wp2
            go_ret
            refine ⟨rfl, ?_⟩
            have h9 := HS.out.tail
            rw [HE.out] at h9
            exact h9
    · rw [show decide (okQ L fq) = false from decide_eq_false h2] at HFr
      rw [if_neg (fun hh => h2 hh.2.1)]
      have HS := Lib.hid h
      have HSe := Lib.hid hset
      clear h hj hset h1 h2
      go_enter Try.func22, Try.ntmps22
      go_wp2_with (first
        | (go_at_call 29; (with_reducible refine HT.out.mono ?_); rintro e w1 ⟨rfl, rfl⟩)
        | (go_at_call 29; (with_reducible refine HFr.out.mono ?_); rintro e w1 ⟨rfl, rfl⟩))
      go_ret
      exact ⟨rfl, by rw [HSe.out]; exact HS.out⟩
  · rw [show decide (okQ L tq) = false from decide_eq_false h1] at HT
    rw [if_neg (fun hh => h1 hh.1)]
    have HS := Lib.hid h
    have HSe := Lib.hid hset
    clear h hj hset h1 HFr
    go_enter Try.func22, Try.ntmps22
    go_wp2_with (first
      | (go_at_call 29; (with_reducible refine HT.out.mono ?_); rintro e w1 ⟨rfl, rfl⟩))
    go_ret
    exact ⟨rfl, by rw [HSe.out]; exact HS.out⟩
end Go.Proofs.Ytfahhjbbbimjfaa.Li
