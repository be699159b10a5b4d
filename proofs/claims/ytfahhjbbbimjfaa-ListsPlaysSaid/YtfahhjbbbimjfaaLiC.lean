/- Contracts of package lists: join; has, check, Where, First, Len; New. -/
import Derived.Test.YtfahhjbbbimjfaaLiB
import Derived.Deep.DeepCutAuto
import Derived.Deep.RegionHeld3
namespace Go.Proofs.Ytfahhjbbbimjfaa.Li
open Go Go.RowKit Go.Proofs.Ytfahhjbbbimjfaa.Mem
set_option linter.unusedVariables false
set_option linter.unusedSimpArgs false
section
variable {w w' : World} {B b gq gl : Nat} {qs : List Qn} {ls : List Lk}
theorem inL_len {ls' : List Lk} {z : Int} (h : inL ls z) (e : ls'.length = ls.length) : inL ls' z := by
  rcases h with h | ⟨k, h1, h2⟩
  · exact .inl h
  · exact .inr ⟨k, h1, by omega⟩
theorem gQ_c {q : Nat} (hq : q < qs.length) (p n : Int) : (gQ (qsT qs q p n) q).c = (gQ qs q).c := by
  have h1 := List.getElem?_eq_getElem hq
  rw [gQ_at (qsT_eq h1), gQ_at h1]
set_option maxHeartbeats 2000000 in
theorem join_any (h : Lm w B b gq gl qs ls) {q item : Nat} (hq : q < qs.length) (hi : item < ls.length) {prev next : Int} (hp : inL ls prev) (hn : inL ls next) (hc : 0 ≤ (gQ qs q).c ∧ (gQ qs q).c ≤ 1000000) :
    Calls Try.prog 28 #[.pointer (some ⟨b, 0, none⟩), .int .i64 q, .int .i64 prev, .int .i64 item, .int .i64 next] w fun e w' =>
    (∃ v, e = .returned v) ∧ Lm w' B b gq gl (joinQ qs q prev item next) (joinL ls q prev item next) ∧ Upd (fl b gq gl) w w' ∧ w'.heap.size = w.heap.size := by
  unfold joinQ joinL
  have c1 : w.cell? ⟨b, 1, none⟩ = some (.slice (some ⟨gl, 0, none⟩) ls.length ls.length) := h.blk.cellv rfl
  have hii : (item : Int) < ls.length := by omega
  have hx : ls[item]? = some ls[item] := List.getElem?_eq_getElem hi
  have HH := Lib.hid h
  have HX := Lib.hid hx
  have hl1 : (ls.set item ⟨q, next, prev⟩).length = ls.length := by simp
  have HT1 := Lib.hid (fun (W : World) (h : Lm W B b gq gl qs (ls.set item ⟨q, next, prev⟩)) => tie_any h hq (inL_len hp hl1) (.inr ⟨item, rfl, by omega⟩))
  have hq2 : q < (qsT qs q prev item).length := by rw [len_qsT]; exact hq
  have hl2 : (lsT (ls.set item ⟨q, next, prev⟩) prev item).length = ls.length := by rw [len_lsT, hl1]
  have HT2 := Lib.hid (fun (W : World) (h : Lm W B b gq gl (qsT qs q prev item) (lsT (ls.set item ⟨q, next, prev⟩) prev item)) => tie_any h hq2 (.inr ⟨item, rfl, by omega⟩) (inL_len hn hl2))
  have hq3 : q < (qsT (qsT qs q prev item) q item next).length := by rw [len_qsT]; exact hq2
  have hce : (gQ (qsT (qsT qs q prev item) q item next) q).c = (gQ qs q).c := by rw [gQ_c hq2, gQ_c hq]
  have HCe := Lib.hid hce
  have HQ3 := Lib.hid hq3
  have hL3 : (qsT (qsT qs q prev item) q item next).length = qs.length := by rw [len_qsT, len_qsT]
  have HL3 := Lib.hid hL3
  have hqi : (q : Int) < qs.length := by omega
  have HF := Lib.hid (show item * 3 + #[Value.int .i64 (q : Int), .int .i64 next, .int .i64 prev].size ≤ ls.length * 3 by simp; omega)
  clear h hx hl1 hl2 hce hq3 hL3 hq2 hp hn
  go_enter Try.func28, Try.ntmps28
  go_upto_region 3 with (first
    | (with_reducible refine wpList_store_own rfl 57 (.tmp 19) (.tmp 18) rfl HH.out.l (item * 3) #[.int .i64 q, .int .i64 next, .int .i64 prev] rfl rfl HF.out (by kernel_rfl) (by simp [Value.oneCell']) ?_
       intro w1 ho1 hu1 hs1
       have HP1 := Lib.hid (HH.out.turnL (x' := ⟨q, next, prev⟩) HX.out ho1 hu1)
       have HU1 := Lib.hid hu1
       have HZ1 := Lib.hid hs1
       clear ho1 hu1 hs1)
    | (go_at_call 31; (with_reducible refine (HT1.out _ HP1.out).mono ?_); rintro e w2 ⟨⟨v2, rfl⟩, hp2, hu2, hs2⟩
       have HP2 := Lib.hid hp2
       have HU2 := Lib.hid hu2
       have HZ2 := Lib.hid hs2
       clear hp2 hu2 hs2)
    | (go_at_call 31; (with_reducible refine (HT2.out _ HP2.out).mono ?_); rintro e w3 ⟨⟨v3, rfl⟩, hp3, hu3, hs3⟩
       have HP3 := Lib.hid hp3
       have HU3 := Lib.hid hu3
       have HZ3 := Lib.hid hs3
       clear hp3 hu3 hs3))
  have hx3 := List.getElem?_eq_getElem HQ3.out
  have hP3 := HP3.out
  obtain ⟨-, -, k3⟩ := hP3.qcell hx3
  have f3 := fun o => hP3.q.frozenAt o
  have c3 : w3.cell? ⟨b, 0, none⟩ = some (.slice (some ⟨gq, 0, none⟩) qs.length qs.length) := by
    have := hP3.blk.cellv (i := 0) rfl
    rw [HL3.out] at this
    exact this
  have hce2 : ((qsT (qsT qs q prev item) q item next)[q]'HQ3.out).c = (gQ qs q).c := by rw [← HCe.out, gQ_at hx3]
  rw [hce2] at k3
  have HS := Lib.hid (hP3.ac HQ3.out 1)
  rw [HCe.out] at HS
  have hUA : Upd (fl b gq gl) w w3 := ((HU1.out.mono (fun i _ hi => (.inr (.inr hi) : fl b gq gl i))).trans HU2.out (fun _ _ h => h)).trans HU3.out (fun _ _ h => h)
  have HUA := Lib.hid (upd_fl (o := q * 3 + 2) (u := .int .i64 ((gQ qs q).c + 1)) hUA (.inr (.inl rfl)))
  have HZ := Lib.hid (show w3.heap.size = w.heap.size by rw [HZ3.out, HZ2.out, HZ1.out])
  obtain ⟨hc1, hc2⟩ := hc
  generalize (gQ qs q).c = cc at *
  clear hP3 hx3 hce2 hUA HP1 HP2 HP3 HU1 HU2 HU3 HT1 HT2
  go_wp2
  go_end0
  exact ⟨⟨_, rfl⟩, HS.out, HUA.out, by simp [HZ.out]⟩
theorem has_any (h : Lm w B b gq gl qs ls) (q : Int) : Calls Try.prog 29 #[.pointer (some ⟨b, 0, none⟩), .int .i64 q] w fun e w' => e = .returned (.bool (decide (0 ≤ q ∧ q < qs.length))) ∧ w = w' := by
  have c0 : w.cell? ⟨b, 0, none⟩ = some (.slice (some ⟨gq, 0, none⟩) qs.length qs.length) := h.blk.cellv rfl
  clear h
  by_cases h0 : 0 ≤ q
  · by_cases h1 : q < qs.length
    · rw [show decide (0 ≤ q ∧ q < (qs.length : Int)) = true from decide_eq_true ⟨h0, h1⟩]
      go_enter Try.func29, Try.ntmps29
      go_wp2
      go_ret
      exact ⟨rfl, rfl⟩
    · rw [show decide (0 ≤ q ∧ q < (qs.length : Int)) = false from decide_eq_false (fun h => h1 h.2)]
      go_enter Try.func29, Try.ntmps29
      go_wp2
      go_ret
      exact ⟨rfl, rfl⟩
  · rw [show decide (0 ≤ q ∧ q < (qs.length : Int)) = false from decide_eq_false (fun h => h0 h.1)]
    go_enter Try.func29, Try.ntmps29
    go_wp2
    go_ret
    exact ⟨rfl, rfl⟩
/-- The cell's reading, at any number. -/
def whereC (ls : List Lk) (i : Int) : Int := if 0 ≤ i ∧ i < ls.length then (gL ls i).q else -1
def firstC (qs : List Qn) (q : Int) : Int := if 0 ≤ q ∧ q < qs.length then (gQ qs q.toNat).f else -1
def lenC (qs : List Qn) (q : Int) : Int := if 0 ≤ q ∧ q < qs.length then (gQ qs q.toNat).c else 0
theorem where_any (h : Lm w B b gq gl qs ls) (i : Int) : Calls Try.prog 14 #[.pointer (some ⟨b, 0, none⟩), .int .i64 i] w fun e w' => e = .returned (.int .i64 (whereC ls i)) ∧ w = w' := by
  have c1 : w.cell? ⟨b, 1, none⟩ = some (.slice (some ⟨gl, 0, none⟩) ls.length ls.length) := h.blk.cellv rfl
  unfold whereC
  by_cases h0 : i < 0
  · rw [if_neg (by omega)]
    clear h
    go_enter Try.func14, Try.ntmps14
    go_wp2
    go_ret
    exact ⟨rfl, rfl⟩
  · by_cases h1 : i < ls.length
    · rw [if_pos (by omega)]
      obtain ⟨k, rfl⟩ : ∃ k : Nat, i = k := ⟨i.toNat, by omega⟩
      have hx : ls[k]? = some ls[k] := List.getElem?_eq_getElem (by omega)
      obtain ⟨n0, -, -⟩ := h.lcell hx
      rw [gL_at hx]
      clear h hx
      generalize (ls[k]).q = qq at *
      go_enter Try.func14, Try.ntmps14
      go_wp2
      go_ret
      exact ⟨rfl, rfl⟩
    · rw [if_neg (by omega)]
      clear h
      go_enter Try.func14, Try.ntmps14
      go_wp2
      go_ret
      exact ⟨rfl, rfl⟩
theorem first_any (h : Lm w B b gq gl qs ls) (q : Int) : Calls Try.prog 25 #[.pointer (some ⟨b, 0, none⟩), .int .i64 q] w fun e w' => e = .returned (.int .i64 (firstC qs q)) ∧ w = w' := by
  have c0 : w.cell? ⟨b, 0, none⟩ = some (.slice (some ⟨gq, 0, none⟩) qs.length qs.length) := h.blk.cellv rfl
  have HC := Lib.hid (has_any h q)
  unfold firstC
  by_cases h1 : 0 ≤ q ∧ q < qs.length
  · rw [if_pos h1]
    rw [show decide (0 ≤ q ∧ q < (qs.length : Int)) = true from decide_eq_true h1] at HC
    obtain ⟨k, rfl⟩ : ∃ k : Nat, q = k := ⟨q.toNat, by omega⟩
    have hx : qs[k]? = some qs[k] := List.getElem?_eq_getElem (by omega)
    obtain ⟨n0, -, -⟩ := h.qcell hx
    obtain ⟨h2, h3⟩ := h1
    rw [Int.toNat_natCast, gQ_at hx]
    clear h hx
    generalize (qs[k]).f = qq at *
    go_enter Try.func25, Try.ntmps25
    go_wp2_with (first | (go_at_call 29; (with_reducible refine HC.out.mono ?_); rintro e w1 ⟨rfl, rfl⟩))
    go_ret
    exact ⟨rfl, rfl⟩
  · rw [if_neg h1]
    rw [show decide (0 ≤ q ∧ q < (qs.length : Int)) = false from decide_eq_false h1] at HC
    clear h h1
    go_enter Try.func25, Try.ntmps25
    go_wp2_with (first | (go_at_call 29; (with_reducible refine HC.out.mono ?_); rintro e w1 ⟨rfl, rfl⟩))
    go_ret
    exact ⟨rfl, rfl⟩
theorem len_any (h : Lm w B b gq gl qs ls) (q : Int) : Calls Try.prog 10 #[.pointer (some ⟨b, 0, none⟩), .int .i64 q] w fun e w' => e = .returned (.int .i64 (lenC qs q)) ∧ w = w' := by
  have c0 : w.cell? ⟨b, 0, none⟩ = some (.slice (some ⟨gq, 0, none⟩) qs.length qs.length) := h.blk.cellv rfl
  have HC := Lib.hid (has_any h q)
  unfold lenC
  by_cases h1 : 0 ≤ q ∧ q < qs.length
  · rw [if_pos h1]
    rw [show decide (0 ≤ q ∧ q < (qs.length : Int)) = true from decide_eq_true h1] at HC
    obtain ⟨k, rfl⟩ : ∃ k : Nat, q = k := ⟨q.toNat, by omega⟩
    have hx : qs[k]? = some qs[k] := List.getElem?_eq_getElem (by omega)
    obtain ⟨-, -, n0⟩ := h.qcell hx
    obtain ⟨h2, h3⟩ := h1
    rw [Int.toNat_natCast, gQ_at hx]
    clear h hx
    generalize (qs[k]).c = qq at *
    go_enter Try.func10, Try.ntmps10
    go_wp2_with (first | (go_at_call 29; (with_reducible refine HC.out.mono ?_); rintro e w1 ⟨rfl, rfl⟩))
    go_ret
    exact ⟨rfl, rfl⟩
  · rw [if_neg h1]
    rw [show decide (0 ≤ q ∧ q < (qs.length : Int)) = false from decide_eq_false h1] at HC
    clear h h1
    go_enter Try.func10, Try.ntmps10
    go_wp2_with (first | (go_at_call 29; (with_reducible refine HC.out.mono ?_); rintro e w1 ⟨rfl, rfl⟩))
    go_ret
    exact ⟨rfl, rfl⟩
def checkC (qs : List Qn) (ls : List Lk) (q i : Int) : Int := if 0 ≤ q ∧ q < qs.length then (if 0 ≤ i ∧ i < ls.length then (if (gL ls i).q = -1 then 0 else -26) else -14) else -14
theorem check_any (h : Lm w B b gq gl qs ls) (q i : Int) : Calls Try.prog 27 #[.pointer (some ⟨b, 0, none⟩), .int .i64 q, .int .i64 i] w fun e w' => e = .returned (.int .i64 (checkC qs ls q i)) ∧ w = w' := by
  have c1 : w.cell? ⟨b, 1, none⟩ = some (.slice (some ⟨gl, 0, none⟩) ls.length ls.length) := h.blk.cellv rfl
  have HC := Lib.hid (has_any h q)
  unfold checkC
  by_cases h1 : 0 ≤ q ∧ q < qs.length
  · rw [if_pos h1]
    rw [show decide (0 ≤ q ∧ q < (qs.length : Int)) = true from decide_eq_true h1] at HC
    clear h1
    by_cases h0 : i < 0
    · rw [if_neg (by omega)]
      clear h
      go_enter Try.func27, Try.ntmps27
      go_wp2_with (first | (go_at_call 29; (with_reducible refine HC.out.mono ?_); rintro e w1 ⟨rfl, rfl⟩))
      go_ret
      exact ⟨rfl, rfl⟩
    · by_cases h2 : i < ls.length
      · rw [if_pos (by omega)]
        obtain ⟨k, rfl⟩ : ∃ k : Nat, i = k := ⟨i.toNat, by omega⟩
        have hx : ls[k]? = some ls[k] := List.getElem?_eq_getElem (by omega)
        obtain ⟨n0, -, -⟩ := h.lcell hx
        rw [gL_at hx]
        clear h hx
        generalize (ls[k]).q = qq at *
        by_cases hqq : qq = -1
        · rw [if_pos hqq]
          subst hqq
          go_enter Try.func27, Try.ntmps27
          go_wp2_with (first | (go_at_call 29; (with_reducible refine HC.out.mono ?_); rintro e w1 ⟨rfl, rfl⟩))
          go_ret
          exact ⟨rfl, rfl⟩
        · rw [if_neg hqq]
          have z1 : (qq == -1) = false := beq_eq_false_iff_ne.mpr hqq
          clear hqq
          go_enter Try.func27, Try.ntmps27
          go_wp2_with (first | (go_at_call 29; (with_reducible refine HC.out.mono ?_); rintro e w1 ⟨rfl, rfl⟩))
          go_ret
          exact ⟨rfl, rfl⟩
      · rw [if_neg (by omega)]
        clear h
        go_enter Try.func27, Try.ntmps27
        go_wp2_with (first | (go_at_call 29; (with_reducible refine HC.out.mono ?_); rintro e w1 ⟨rfl, rfl⟩))
        go_ret
        exact ⟨rfl, rfl⟩
  · rw [if_neg h1]
    rw [show decide (0 ≤ q ∧ q < (qs.length : Int)) = false from decide_eq_false h1] at HC
    clear h h1
    go_enter Try.func27, Try.ntmps27
    go_wp2_with (first | (go_at_call 29; (with_reducible refine HC.out.mono ?_); rintro e w1 ⟨rfl, rfl⟩))
    go_ret
    exact ⟨rfl, rfl⟩
end
end Go.Proofs.Ytfahhjbbbimjfaa.Li
