/- List, Pop, Splice, in the abstract; ints; awake. -/
import Derived.Test.YtfahhjbbbimjfaaLiG
namespace Go.Proofs.Ytfahhjbbbimjfaa.Li
open Go Go.RowKit Go.Proofs.Ytfahhjbbbimjfaa.Mem
set_option linter.unusedVariables false
set_option linter.unusedSimpArgs false
/-- Each item stands at most once. -/
structure WfL (L : List (List Nat)) (m : Nat) : Prop where
  nd : ∀ (q : Nat) (l : List Nat), L[q]? = some l → l.Nodup
  one : ∀ (q q' : Nat) (l l' : List Nat) (i : Nat), L[q]? = some l → L[q']? = some l' → i ∈ l → i ∈ l' → q = q'
  lt : ∀ (q : Nat) (l : List Nat) (i : Nat), L[q]? = some l → i ∈ l → i < m
theorem Rep.wf {qs : List Qn} {ls : List Lk} {L : List (List Nat)} {m : Nat} (h : Rep qs ls L m) : WfL L m := ⟨h.nd, fun q q' l l' i h1 h2 h3 h4 => h.one h1 h2 h3 h4, fun q l i hl hi => by
  have := (h.sg q l hl).lt hi
  rw [h.ll] at this
  exact this⟩
section
variable {L : List (List Nat)} {m : Nat}
theorem WfL.drop (h : WfL L m) {q i : Nat} {a b : List Nat} (hl : L[q]? = some (a ++ i :: b)) : dropL L i = L.set q (a ++ b) := by
  have hnd := h.nd q _ hl
  obtain ⟨hda, hdib, hdis⟩ := List.nodup_append.1 hnd
  obtain ⟨hib, hdb⟩ := List.nodup_cons.1 hdib
  have hia : i ∉ a := fun h' => hdis i h' i (by simp) rfl
  refine List.ext_getElem? fun j => ?_
  unfold dropL
  rw [List.getElem?_map]
  by_cases e : q = j
  · subst e
    rw [List.getElem?_set_self (List.getElem?_eq_some_iff.1 hl).1, hl]
    simp only [Option.map_some, List.filter_append, List.filter_cons]
    rw [filter_ne hia, filter_ne hib]
    simp
  · rw [List.getElem?_set_ne e]
    cases hj : L[j]? with
    | none => rfl
    | some l => simp only [Option.map_some]; rw [filter_ne (fun hm => e (h.one q j _ l i hl hj (by simp) hm))]
theorem WfL.whr_eq (h : WfL L m) {q : Nat} {l : List Nat} (hl : L[q]? = some l) {i : Nat} (hi : i ∈ l) : whr L i = q := by
  cases hf : L.findIdx? (·.contains i) with
  | some q' =>
    obtain ⟨h1, l', hl', hm⟩ := whr_in hf
    rw [h1, h.one _ _ _ _ i hl' hl hm hi]
  | none => exact absurd hi ((whr_no hf).2 q l hl)
theorem whr_out (L : List (List Nat)) (i : Nat) (h : ∀ (q : Nat) (l : List Nat), L[q]? = some l → i ∉ l) : whr L i = -1 := by
  cases hf : L.findIdx? (·.contains i) with
  | some q' =>
    obtain ⟨h1, l', hl', hm⟩ := whr_in hf
    exact absurd hm (h _ _ hl')
  | none => exact (whr_no hf).1
theorem whr_drop (L : List (List Nat)) (i : Nat) : whr (dropL L i) i = -1 := whr_out _ _ fun q l hl => by
  unfold dropL at hl
  rw [List.getElem?_map] at hl
  cases hq : L[q]? with
  | none => rw [hq] at hl; cases hl
  | some l0 =>
    rw [hq] at hl
    simp only [Option.map_some, Option.some.injEq] at hl
    subst hl
    simp
theorem WfL.remove (h : WfL L m) {q i : Nat} {a b : List Nat} (hl : L[q]? = some (a ++ i :: b)) : removeS L m (i : Int) = (0, L.set q (a ++ b)) := by
  unfold removeS
  rw [if_pos ⟨by omega, by have := h.lt q _ i hl (by simp); omega⟩, Int.toNat_natCast, if_neg (by rw [h.whr_eq hl (i := i) (by simp)]; omega), h.drop hl]
theorem push_ok {q i : Nat} {l : List Nat} (hl : L[q]? = some l) (hi : i < m) (hw : whr L i = -1) : pushS L m (q : Int) (i : Int) = (0, L.set q (l ++ [i])) := by
  have hlt := (List.getElem?_eq_some_iff.1 hl).1
  unfold pushS chkS
  rw [if_pos (show okQ L (q : Int) from ⟨by omega, by omega⟩), if_pos (show okI m (i : Int) from ⟨by omega, by omega⟩)]
  rw [Int.toNat_natCast, Int.toNat_natCast, hw, if_pos rfl, if_pos rfl, getQ_at hl]
theorem front_ok {q i : Nat} {l : List Nat} (hl : L[q]? = some l) (hi : i < m) (hw : whr L i = -1) : frontS L m (q : Int) (i : Int) = (0, L.set q (i :: l)) := by
  have hlt := (List.getElem?_eq_some_iff.1 hl).1
  unfold frontS chkS
  rw [if_pos (show okQ L (q : Int) from ⟨by omega, by omega⟩), if_pos (show okI m (i : Int) from ⟨by omega, by omega⟩)]
  rw [Int.toNat_natCast, Int.toNat_natCast, hw, if_pos rfl, if_pos rfl, getQ_at hl]
def listS (L : List (List Nat)) (q : Int) : List Nat := if okQ L q then getQ L q else []
def spliceS (L : List (List Nat)) (t f : Int) : Int × List (List Nat) := if okQ L t ∧ okQ L f ∧ t ≠ f then (0, (L.set t.toNat (getQ L t ++ getQ L f)).set f.toNat []) else (-14, L)
end
section
variable {w0 w : World} {S : List Asr} {b : Nat} {L : List (List Nat)} {m : Nat}
theorem Star.wf (h : Star w0 w S) (j : Nat) (hj : S[j]? = some (LzA b L m)) : WfL L m ∧ L.length ≤ 65536 ∧ m ≤ 65536 := by
  obtain ⟨F, ⟨gq, gl, qs, ls, hl, hr, hF, hs⟩, _⟩ := h.of j hj
  exact ⟨hr.wf, hs⟩
theorem list_st (h : Star w0 w S) (j : Nat) (hj : S[j]? = some (LzA b L m)) (q : Int) : Calls Try.prog 12 #[.pointer (some ⟨b, 0, none⟩), .int .i64 q] w fun e w' => ∃ v, e = .returned v ∧ Star w0 w' (RowA 3 1 v (listS L q).length (intsN (listS L q)) :: S) := by
  obtain ⟨F, ⟨gq, gl, qs, ls, hl, hr, hF, hs⟩, _⟩ := h.of j hj
  have hfi : firstC qs q = hdI (listS L q) (-1) ∧ (∃ k, Seg ls k (-1) (listS L q) (-1)) ∧ (listS L q).Nodup ∧ (listS L q).length ≤ 65536 := by
    unfold firstC listS
    rw [hr.ql]
    by_cases h1 : okQ L q
    · rw [if_pos (show 0 ≤ q ∧ q < (L.length : Int) from h1), if_pos h1]
      obtain ⟨k, l, rfl, hk, hg⟩ := okQ_at h1
      rw [hg, Int.toNat_natCast, gQ_at (hr.qn k l hk)]
      exact ⟨rfl, ⟨k, hr.sg k l hk⟩, hr.nd k l hk, by have := hr.count hk; omega⟩
    · rw [if_neg (show ¬ (0 ≤ q ∧ q < (L.length : Int)) from h1), if_neg h1]
      exact ⟨rfl, ⟨0, trivial⟩, by simp, by simp⟩
  obtain ⟨h1, h2, h3, h4⟩ := hfi
  refine (callsIn_wide.1 (list_in 3 (by omega) _ b gq gl qs ls q (listS L q) h1 h2 h3 h4 w hl)).mono ?_
  rintro e w1 ⟨v, he, ho, hb⟩
  exact ⟨v, he, h.newRow ho hb⟩
set_option maxHeartbeats 1000000 in
theorem pop_st (h : Star w0 w S) (j : Nat) (hj : S[j]? = some (LzA b L m)) (q : Int) : Calls Try.prog 19 #[.pointer (some ⟨b, 0, none⟩), .int .i64 q] w fun e w' => e = .returned (.tuple #[.int .i64 (popS L q).1, .int .i64 (popS L q).2.1]) ∧ Star w0 w' (S.set j (LzA b (popS L q).2.2 m)) := by
  have HC := Lib.hid (has_st h j hj q)
  obtain ⟨F, ⟨gq, gl, qs, ls, hl, hr, hF, hs⟩, _⟩ := h.of j hj
  have c0 : w.cell? ⟨b, 0, none⟩ = some (.slice (some ⟨gq, 0, none⟩) qs.length qs.length) := hl.blk.cellv rfl
  have hlt := (List.getElem?_eq_some_iff.1 hj).1
  have hset : S.set j (LzA b L m) = S := by rw [← (List.getElem?_eq_some_iff.1 hj).2]; exact List.set_getElem_self hlt
  unfold popS
  by_cases h1 : okQ L q
  · rw [if_pos h1]
    rw [show decide (okQ L q) = true from decide_eq_true h1] at HC
    obtain ⟨k, l, rfl, hk, hg⟩ := okQ_at h1
    have hq := hr.qn k l hk
    have hqi : (k : Int) < qs.length := by have := (List.getElem?_eq_some_iff.1 hq).1; omega
    obtain ⟨k0, -, -⟩ := hl.qcell hq
    simp only at k0
    rw [hg]
    cases l with
    | nil =>
      have HS := Lib.hid h
      rw [show hdI ([] : List Nat) (-1) = -1 from rfl] at k0
      simp only
      rw [hset]
      clear h hj hl hr hF hs hq hk hg hset h1
      go_enter Try.func19, Try.ntmps19
      go_wp2_with (first | (go_at_call 29; (with_reducible refine HC.out.mono ?_); rintro e w1 ⟨rfl, rfl⟩))
      go_ret2
      exact ⟨rfl, HS.out⟩
    | cons y l =>
      rw [show hdI (y :: l) (-1) = (y : Int) from rfl] at k0
      simp only
      have hrm := remove_st h j hj (y : Int)
      rw [hr.wf.remove (a := []) (b := l) (q := k) (i := y) (by simpa using hk)] at hrm
      have hd := hr.wf.drop (a := []) (b := l) (q := k) (i := y) (by simpa using hk)
      simp only [← hd] at hrm
      have HR := Lib.hid hrm
      have hyn : ((y : Int) == -1) = false := beq_eq_false_iff_ne.mpr (by omega)
      clear h hj hl hr hF hs hq hk hg hset h1 hd hrm
      go_enter Try.func19, Try.ntmps19
      go_wp2_with (first
        | (go_at_call 29; (with_reducible refine HC.out.mono ?_); rintro e w1 ⟨rfl, rfl⟩)
        | (go_at_call 16; (with_reducible refine HR.out.mono ?_); rintro e w2 ⟨rfl, hs2⟩
           have HS2 := Lib.hid hs2
           clear hs2))
      go_ret2
      exact ⟨rfl, HS2.out⟩
  · rw [if_neg h1]
    rw [show decide (okQ L q) = false from decide_eq_false h1] at HC
    have HS := Lib.hid h
    simp only
    rw [hset]
    clear h hj hl hr hF hs hset h1
    go_enter Try.func19, Try.ntmps19
    go_wp2_with (first | (go_at_call 29; (with_reducible refine HC.out.mono ?_); rintro e w1 ⟨rfl, rfl⟩))
    go_ret2
    exact ⟨rfl, HS.out⟩
end
/-- ints: are they the same? -/
theorem ints_any {A A' : Option Addr} {c c' B B' : Nat} {l l' : List Int} {w : World} (hr : Reads w B 1 A l.length (l.map (.int .i64))) (hr' : Reads w B' 1 A' l'.length (l'.map (.int .i64))) (hm : l.length ≤ maxLen) (hm' : l'.length ≤ maxLen) :
    Calls Try.prog 11 #[.slice A l.length c, .slice A' l'.length c'] w fun e w' => e = .returned (.bool (decide (l = l'))) ∧ ∃ n, w' = w.drewN n := by
  unfold maxLen at hm hm'
  by_cases hl : l.length = l'.length
  · have HR := Lib.hid hr
    have HR' := Lib.hid hr'
    have HL := Lib.hid hl
    clear hr hr' hl
    obtain ⟨n, hn⟩ : ∃ n, n = l.length := ⟨_, rfl⟩
    have hn' : n = l'.length := by rw [hn, HL.out]
    rw [← hn] at HR hm ⊢
    rw [← hn'] at HR' hm' ⊢
    have HN := Lib.hid hn
    have HN' := Lib.hid hn'
    clear hn hn'
    go_enter Try.func11, Try.ntmps11
    go_wp2
    go_loopw [13] (fun i wr => ∃ k d : Nat, k ≤ n ∧ i = .int .i64 k ∧ Hid (l.take k = l'.take k) ∧ Hid (wr = w.drewN d)) (fun i _ => n - (intOf i).toNat)
    case atStart => exact ⟨0, 0, by omega, rfl, Lib.hid (by simp), Lib.hid rfl⟩
    case round =>
      obtain ⟨k, d, hk, rfl, HT, HWd⟩ := hrel
      by_cases hlt : k < n
      · have hkl : k < l.length := by rw [← HN.out]; exact hlt
        have hkl' : k < l'.length := by rw [← HN'.out]; exact hlt
        obtain ⟨ad, u, rfl, had, hx, hcl⟩ := (show Reads wr B 1 A n (l.map (.int .i64)) by rw [HWd.out]; exact HR.out.drewN d).at_ hlt
        obtain ⟨ad', u', rfl, had', hx', hcl'⟩ := (show Reads wr B' 1 A' n (l'.map (.int .i64)) by rw [HWd.out]; exact HR'.out.drewN d).at_ hlt
        have hu : u = .int .i64 l[k] := by
          simp [List.getElem?_eq_getElem hkl] at hx
          exact hx.symm
        have hu' : u' = .int .i64 l'[k] := by
          simp [List.getElem?_eq_getElem hkl'] at hx'
          exact hx'.symm
        subst hu hu'
        have hk0 : (0 : Int) ≤ k := by omega
        have hkn : (k : Int) < n := by omega
        have HTs : l.take (k + 1) = l.take k ++ [l[k]] := by rw [List.take_succ_eq_append_getElem hkl]
        have HTs' : l'.take (k + 1) = l'.take k ++ [l'[k]] := by rw [List.take_succ_eq_append_getElem hkl']
        have HE := Lib.hid HTs
        have HE' := Lib.hid HTs'
        clear hx hx' HTs HTs'
        by_cases he : l[k] = l'[k]
        · have HQ := Lib.hid he
          have hz : (l[k] == l'[k]) = true := beq_iff_eq.mpr he
          rw [he] at hcl
          clear he
          generalize l'[k] = y at *
          go_wp2
          go_quiet (fail)
          go_wp2
          go_roundw
          case rel => exact ⟨k + 1, d + nq, by omega, by go_num, Lib.hid (by rw [HE.out, HE'.out, HT.out, HQ.out]), Lib.hid (by rw [HWd.out, World.drewN_drewN])⟩
          case measure => simp [intOf]; omega
        · have HQ := Lib.hid he
          have hne : l ≠ l' := fun e => he (by subst e; rfl)
          have hz : (l[k] == l'[k]) = false := beq_eq_false_iff_ne.mpr he
          have HNe := Lib.hid (show decide (l = l') = false from decide_eq_false hne)
          clear he HQ hne HE HE'
          generalize l'[k] = y at *
          generalize l[k] = x at *
          go_wp2
          go_quiet (fail)
          go_wp2
          go_ret
          exact ⟨by rw [HNe.out]; rfl, d + nq, by rw [HWd.out, World.drewN_drewN]⟩
      · obtain rfl : k = n := by omega
        have hee : l = l' := by
          have := HT.out
          rw [List.take_of_length_le (by rw [← HN.out]; omega), List.take_of_length_le (by rw [← HN'.out]; omega)] at this
          exact this
        have HEq := Lib.hid (show decide (l = l') = true from decide_eq_true hee)
        clear hee
        go_wp2
        go_ret
        exact ⟨by rw [HEq.out]; rfl, d, HWd.out⟩
  · rw [show decide (l = l') = false from decide_eq_false (fun e => hl (by rw [e]))]
    have hz : ((l.length : Int) == (l'.length : Int)) = false := beq_eq_false_iff_ne.mpr (by omega)
    clear hr hr'
    generalize l.length = n at *
    generalize l'.length = n' at *
    go_enter Try.func11, Try.ntmps11
    go_wp2
    go_ret
    exact ⟨rfl, 0, rfl⟩
set_option maxHeartbeats 2000000 in
theorem awake_any (w : World) : Calls Try.prog 15 #[] w fun e w' => e = .returned (.bool true) ∧ Below w.heap.size w w' := by
  have HN := Lib.hid (show Calls Try.prog 8 #[.int .i64 1, .int .i64 8] w fun e w' => ∃ b, e = .returned (.pointer (some ⟨b, 0, none⟩)) ∧ Star w w' [LzA b [[]] 8] from new_st (Star.nil w) (n := 1) (m := 8) (by omega) (by omega))
  have HP := Lib.hid (fun (W : World) (b : Nat) (h : Star w W [LzA b [[]] 8]) => push_st h 0 rfl 0 4)
  rw [show pushS [[]] 8 0 4 = (0, [[4]]) from rfl] at HP
  have HF := Lib.hid (fun (W : World) (b : Nat) (h : Star w W [LzA b [[4]] 8]) => front_st h 0 rfl 0 7)
  rw [show frontS [[4]] 8 0 7 = (0, [[7, 4]]) from rfl] at HF
  have HL := Lib.hid (fun (W : World) (b : Nat) (h : Star w W [LzA b [[7, 4]] 8]) => len_st h 0 rfl 0)
  rw [show lenS [[7, 4]] 0 = 2 from rfl] at HL
  have HI := Lib.hid (fun (W : World) (b : Nat) (h : Star w W [LzA b [[7, 4]] 8]) => first_st h 0 rfl 0)
  rw [show firstS [[7, 4]] 0 = 7 from rfl] at HI
  have HW := Lib.hid (fun (W : World) (b : Nat) (h : Star w W [LzA b [[7, 4]] 8]) => where_st h 0 rfl 4)
  rw [show whereS [[7, 4]] 8 4 = 0 from rfl] at HW
  simp only [List.set_cons_zero] at HP HF
  go_enter Try.func15, Try.ntmps15
  go_wp2_with (first
    | (go_at_call 8; (with_reducible refine HN.out.mono ?_); rintro e w1 ⟨b, rfl, hs1⟩
       have HS1 := Lib.hid hs1
       clear hs1)
    | (go_at_call 9; (with_reducible refine (HP.out _ _ HS1.out).mono ?_); rintro e w2 ⟨rfl, hs2⟩
       have HS2 := Lib.hid hs2
       clear hs2)
    | (go_at_call 13; (with_reducible refine (HF.out _ _ HS2.out).mono ?_); rintro e w3 ⟨rfl, hs3⟩
       have HS3 := Lib.hid hs3
       clear hs3)
    | (go_at_call 10; (with_reducible refine (HL.out _ _ HS3.out).mono ?_); rintro e w4 ⟨rfl, rfl⟩)
    | (go_at_call 25; (with_reducible refine (HI.out _ _ HS3.out).mono ?_); rintro e w5 ⟨rfl, rfl⟩)
    | (go_at_call 14; (with_reducible refine (HW.out _ _ HS3.out).mono ?_); rintro e w6 ⟨rfl, rfl⟩))
  go_ret
  exact ⟨rfl, HS3.out.below⟩
end Go.Proofs.Ytfahhjbbbimjfaa.Li
