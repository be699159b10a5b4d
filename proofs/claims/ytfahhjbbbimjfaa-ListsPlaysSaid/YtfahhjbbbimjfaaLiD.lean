/- Contracts of package lists: Push, Front, Remove, Pop, on the links. -/
import Derived.Test.YtfahhjbbbimjfaaLiC
import Derived.StillTailTactics
namespace Go.Proofs.Ytfahhjbbbimjfaa.Li
open Go Go.RowKit Go.Proofs.Ytfahhjbbbimjfaa.Mem
set_option linter.unusedVariables false
set_option linter.unusedSimpArgs false
section
variable {w w' : World} {B b gq gl : Nat} {qs : List Qn} {ls : List Lk}
theorem push_no (h : Lm w B b gq gl qs ls) {q i : Int} (hc : checkC qs ls q i ≠ 0) : Calls Try.prog 9 #[.pointer (some ⟨b, 0, none⟩), .int .i64 q, .int .i64 i] w fun e w' => e = .returned (.int .i64 (checkC qs ls q i)) ∧ w = w' := by
  have HC := Lib.hid (check_any h q i)
  clear h
  have z1 : (checkC qs ls q i == 0) = false := beq_eq_false_iff_ne.mpr hc
  clear hc
  generalize checkC qs ls q i = s at *
  go_enter Try.func9, Try.ntmps9
  go_wp2_with (first | (go_at_call 27; (with_reducible refine HC.out.mono ?_); rintro e w1 ⟨rfl, rfl⟩))
  go_ret
  exact ⟨rfl, rfl⟩
theorem front_no (h : Lm w B b gq gl qs ls) {q i : Int} (hc : checkC qs ls q i ≠ 0) : Calls Try.prog 13 #[.pointer (some ⟨b, 0, none⟩), .int .i64 q, .int .i64 i] w fun e w' => e = .returned (.int .i64 (checkC qs ls q i)) ∧ w = w' := by
  have HC := Lib.hid (check_any h q i)
  clear h
  have z1 : (checkC qs ls q i == 0) = false := beq_eq_false_iff_ne.mpr hc
  clear hc
  generalize checkC qs ls q i = s at *
  go_enter Try.func13, Try.ntmps13
  go_wp2_with (first | (go_at_call 27; (with_reducible refine HC.out.mono ?_); rintro e w1 ⟨rfl, rfl⟩))
  go_ret
  exact ⟨rfl, rfl⟩
theorem push_yes (h : Lm w B b gq gl qs ls) {q i : Nat} (hc : checkC qs ls q i = 0) (hq : q < qs.length) (hi : i < ls.length) (hl : inL ls (gQ qs q).l) (hcc : 0 ≤ (gQ qs q).c ∧ (gQ qs q).c ≤ 1000000) : Calls Try.prog 9 #[.pointer (some ⟨b, 0, none⟩), .int .i64 q, .int .i64 i] w fun e w' =>
    e = .returned (.int .i64 0) ∧ Lm w' B b gq gl (joinQ qs q (gQ qs q).l i (-1)) (joinL ls q (gQ qs q).l i (-1)) ∧ Upd (fl b gq gl) w w' := by
  have HC := Lib.hid (check_any h q i)
  rw [hc] at HC
  have c0 : w.cell? ⟨b, 0, none⟩ = some (.slice (some ⟨gq, 0, none⟩) qs.length qs.length) := h.blk.cellv rfl
  have hqi : (q : Int) < qs.length := by omega
  have HJ := Lib.hid (join_any h hq hi hl (.inl rfl : inL ls (-1)) hcc)
  have hx : qs[q]? = some qs[q] := List.getElem?_eq_getElem hq
  obtain ⟨-, k1, -⟩ := h.qcell hx
  rw [← gQ_at hx] at k1
  clear h hc hx hl hcc
  generalize (gQ qs q).l = pv at *
  go_enter Try.func9, Try.ntmps9
  go_wp2_with (first
    | (go_at_call 27; (with_reducible refine HC.out.mono ?_); rintro e w1 ⟨rfl, rfl⟩)
    | (go_at_call 28; (with_reducible refine HJ.out.mono ?_); rintro e w2 ⟨⟨v, rfl⟩, hp2, hu2, hs2⟩))
  go_ret
  exact ⟨rfl, hp2, hu2⟩
theorem front_yes (h : Lm w B b gq gl qs ls) {q i : Nat} (hc : checkC qs ls q i = 0) (hq : q < qs.length) (hi : i < ls.length) (hl : inL ls (gQ qs q).f) (hcc : 0 ≤ (gQ qs q).c ∧ (gQ qs q).c ≤ 1000000) : Calls Try.prog 13 #[.pointer (some ⟨b, 0, none⟩), .int .i64 q, .int .i64 i] w fun e w' =>
    e = .returned (.int .i64 0) ∧ Lm w' B b gq gl (joinQ qs q (-1) i (gQ qs q).f) (joinL ls q (-1) i (gQ qs q).f) ∧ Upd (fl b gq gl) w w' := by
  have HC := Lib.hid (check_any h q i)
  rw [hc] at HC
  have c0 : w.cell? ⟨b, 0, none⟩ = some (.slice (some ⟨gq, 0, none⟩) qs.length qs.length) := h.blk.cellv rfl
  have hqi : (q : Int) < qs.length := by omega
  have HJ := Lib.hid (join_any h hq hi (.inl rfl : inL ls (-1)) hl hcc)
  have hx : qs[q]? = some qs[q] := List.getElem?_eq_getElem hq
  obtain ⟨k1, -, -⟩ := h.qcell hx
  rw [← gQ_at hx] at k1
  clear h hc hx hl hcc
  generalize (gQ qs q).f = pv at *
  go_enter Try.func13, Try.ntmps13
  go_wp2_with (first
    | (go_at_call 27; (with_reducible refine HC.out.mono ?_); rintro e w1 ⟨rfl, rfl⟩)
    | (go_at_call 28; (with_reducible refine HJ.out.mono ?_); rintro e w2 ⟨⟨v, rfl⟩, hp2, hu2, hs2⟩))
  go_ret
  exact ⟨rfl, hp2, hu2⟩
theorem remove_out (h : Lm w B b gq gl qs ls) {i : Int} (hi : i < 0 ∨ (ls.length : Int) ≤ i) : Calls Try.prog 16 #[.pointer (some ⟨b, 0, none⟩), .int .i64 i] w fun e w' => e = .returned (.int .i64 (-14)) ∧ w = w' := by
  have c1 : w.cell? ⟨b, 1, none⟩ = some (.slice (some ⟨gl, 0, none⟩) ls.length ls.length) := h.blk.cellv rfl
  clear h
  by_cases h0 : i < 0
  · clear hi
    go_enter Try.func16, Try.ntmps16
    go_wp2
    go_ret
    exact ⟨rfl, rfl⟩
  · have h1 : (ls.length : Int) ≤ i := by omega
    clear hi
    go_enter Try.func16, Try.ntmps16
    go_wp2
    go_ret
    exact ⟨rfl, rfl⟩
theorem lframe (h : Lm w B b gq gl qs ls) {i : Nat} {x : Lk} (hx : ls[i]? = some x) (j : Nat) (v : Value) (hv : (lC x)[j]? = some v) : w.cell? ((⟨gl, i * 3, none⟩ : Addr).add j) = some v := by
  obtain ⟨n0, n1, n2⟩ := h.lcell hx
  have e1 : ((⟨gl, i * 3, none⟩ : Addr).add j) = ⟨gl, i * 3 + j, none⟩ := by unfold Addr.add; split <;> simp_all
  rw [e1]
  match j, hv with
  | 0, hv => simp [lC] at hv; rw [← hv]; exact n0
  | 1, hv => simp [lC] at hv; rw [← hv]; exact n1
  | 2, hv => simp [lC] at hv; rw [← hv]; exact n2
  | j + 3, hv => simp [lC] at hv
set_option maxHeartbeats 2000000 in
theorem remove_none (h : Lm w B b gq gl qs ls) {i : Nat} {x : Lk} (hx : ls[i]? = some x) (hq : x.q = -1) : Calls Try.prog 16 #[.pointer (some ⟨b, 0, none⟩), .int .i64 i] w fun e w' => e = .returned (.int .i64 (-25)) ∧ Below w.heap.size w w' := by
  have c1 : w.cell? ⟨b, 1, none⟩ = some (.slice (some ⟨gl, 0, none⟩) ls.length ls.length) := h.blk.cellv rfl
  have hlt := (List.getElem?_eq_some_iff.1 hx).1
  have hii : (i : Int) < ls.length := by omega
  have HFr := Lib.hid (lframe h hx)
  obtain ⟨q, n, p⟩ := x
  simp only at hq
  subst hq
  clear h hx
  go_enter Try.func16, Try.ntmps16
  go_upto_region 4 with (first
    | (with_reducible refine wpList_load_add rfl 57 (.tmp 22) rfl ⟨gl, i * 3, none⟩ rfl (lC ⟨-1, n, p⟩) _ HFr.out Try.underlying57 rfl (by kernel_rfl) ?_)
    | (with_reducible refine wpList_box rfl 57 (.tmp 5) (.tmp 23) rfl #[.int .i64 (-1), .int .i64 n, .int .i64 p] rfl rfl (by kernel_rfl) rfl (by simp [Value.oneCell']) ?_
       intro W1 hbx hux hsx))
  have b0 : W1.cell? ⟨w.heap.size, 0, none⟩ = some (.int .i64 (-1)) := hbx.cellv rfl
  go_wp2
  go_ret
  exact ⟨rfl, hux.below (Nat.le_refl _) (fun _ h => h.elim)⟩
set_option maxHeartbeats 4000000 in
theorem remove_some (h : Lm w B b gq gl qs ls) {i q : Nat} {n p : Int} (hx : ls[i]? = some ⟨q, n, p⟩) (hq : q < qs.length) (hn : inL ls n) (hp : inL ls p) (hc : 1 ≤ (gQ qs q).c ∧ (gQ qs q).c ≤ 1000000) : Calls Try.prog 16 #[.pointer (some ⟨b, 0, none⟩), .int .i64 i] w fun e w' =>
    e = .returned (.int .i64 0) ∧ Lm w' B b gq gl (cutQ qs q p n) (cutL ls p i n) ∧ Upd (fl b gq gl) w w' := by
  unfold cutQ cutL
  have c1 : w.cell? ⟨b, 1, none⟩ = some (.slice (some ⟨gl, 0, none⟩) ls.length ls.length) := h.blk.cellv rfl
  have hlt := (List.getElem?_eq_some_iff.1 hx).1
  have hii : (i : Int) < ls.length := by omega
  have hqi : (q : Int) < qs.length := by omega
  have hqn : ((q : Int) == -1) = false := beq_eq_false_iff_ne.mpr (by omega)
  have HFr := Lib.hid (lframe h hx)
  have HH := Lib.hid h
  have HT := Lib.hid (fun (W : World) (h : Lm W B b gq gl qs ls) => tie_any h hq hp hn)
  have hq2 : q < (qsT qs q p n).length := by rw [len_qsT]; exact hq
  have HCe := Lib.hid (gQ_c hq p n)
  have HL2 := Lib.hid (len_qsT qs q p n)
  have HLl := Lib.hid (len_lsT ls p n)
  obtain ⟨hc1, hc2⟩ := hc
  clear h hx hn hp
  go_enter Try.func16, Try.ntmps16
  go_upto_region 4 with (first
    | (with_reducible refine wpList_load_add rfl 57 (.tmp 22) rfl ⟨gl, i * 3, none⟩ rfl (lC ⟨q, n, p⟩) _ HFr.out Try.underlying57 rfl (by kernel_rfl) ?_)
    | (with_reducible refine wpList_box rfl 57 (.tmp 5) (.tmp 23) rfl #[.int .i64 q, .int .i64 n, .int .i64 p] rfl rfl (by kernel_rfl) rfl (by simp [Value.oneCell']) ?_
       intro W1 hbx hux hsx))
  have b0 : W1.cell? ⟨w.heap.size, 0, none⟩ = some (.int .i64 q) := hbx.cellv rfl
  have b1 : W1.cell? ⟨w.heap.size, 1, none⟩ = some (.int .i64 n) := hbx.cellv rfl
  have b2 : W1.cell? ⟨w.heap.size, 2, none⟩ = some (.int .i64 p) := hbx.cellv rfl
  have HH1 := Lib.hid (HH.out.upd hux (fun _ _ h => h))
  have HU1 := Lib.hid (hux.mono (G := fl b gq gl) (fun _ _ h => h.elim))
  have HB1 := Lib.hid hbx
  have HZ1 := Lib.hid hsx
  have hgn : ¬ fl b gq gl w.heap.size := fun hf => by have := (HH.out.lt hf).2; omega
  clear hbx hux hsx
  go_upto_region 7 with (first
    | (go_at_call 31; (with_reducible refine (HT.out _ HH1.out).mono ?_); rintro e w2 ⟨⟨v, rfl⟩, hp2, hu2, hs2⟩
       have HP2 := Lib.hid hp2
       have HU2 := Lib.hid hu2
       have HZ2 := Lib.hid hs2
       clear hp2 hu2 hs2))
  have hb2 := HB1.out.upd HU2.out hgn
  have d0 : w2.cell? ⟨w.heap.size, 0, none⟩ = some (.int .i64 q) := hb2.cellv rfl
  have c0 : w2.cell? ⟨b, 0, none⟩ = some (.slice (some ⟨gq, 0, none⟩) qs.length qs.length) := by
    have := HP2.out.blk.cellv (i := 0) rfl
    rw [HL2.out] at this
    exact this
  have hx2 := List.getElem?_eq_getElem hq2
  have k3 := (HP2.out.qcell hx2).2.2
  rw [← gQ_at hx2, HCe.out] at k3
  have hq0 : (0 : Int) ≤ (q : Int) := by omega
  clear b0 b1 b2 c1
  go_still_tail 12, (by kernel_rfl)
  change wpList _ _ _ _ _ w2.drew
  have hP3 : Lm w2.drew B b gq gl (qsT qs q p n) (lsT ls p n) := ⟨HP2.out.base, HP2.out.blk, HP2.out.q, HP2.out.l⟩
  have hU3 : Upd (fl b gq gl) w w2.drew := ((HU1.out.trans HU2.out (fun _ _ h => h))).drew
  clear d0 c0 k3 hb2
  generalize w2.drew = W3 at *
  have k4 := (hP3.qcell hx2).2.2
  rw [← gQ_at hx2, HCe.out] at k4
  have f4 := hP3.q.frozenAt (q * 3 + 2)
  have hP4 := hP3.ac hq2 (-1)
  rw [HCe.out] at hP4
  have hU4 := upd_fl (o := q * 3 + 2) (u := .int .i64 ((gQ qs q).c + -1)) hU3 (.inr (.inl rfl))
  have hcm : (gQ qs q).c + -1 = (gQ qs q).c - 1 := by omega
  rw [hcm] at hP4 hU4
  have HP4 := Lib.hid hP4
  have HU4 := Lib.hid hU4
  clear hP3 hU3 hP4 hU4 hx2 hcm HP2
  generalize (gQ qs q).c = cc at *
  obtain ⟨W4, hW4⟩ : ∃ W4, W4 = W3.setCell ⟨gq, q * 3 + 2, none⟩ (.int .i64 (cc - 1)) := ⟨_, rfl⟩
  rw [← hW4] at HP4 HU4
  have c4 : W4.cell? ⟨b, 1, none⟩ = some (.slice (some ⟨gl, 0, none⟩) ls.length ls.length) := by
    have := HP4.out.blk.cellv (i := 1) rfl
    rw [HLl.out] at this
    exact this
  rw [hW4] at c4
  have HW4 := Lib.hid hW4
  have hli : i < (lsT ls p n).length := by rw [HLl.out]; exact hlt
  have HF := Lib.hid (show i * 3 + #[Value.int .i64 (-1), .int .i64 (-1), .int .i64 (-1)].size ≤ (lsT ls p n).length * 3 by simp; omega)
  have hrow := HP4.out.l
  rw [HLl.out] at hrow HF
  have HR := Lib.hid hrow
  rw [HW4.out] at HR
  clear hW4 hrow
  go_wp2_with (first
    | (with_reducible refine wpList_store_own rfl 57 (.tmp 53) (.tmp 52) rfl HR.out (i * 3) #[.int .i64 (-1), .int .i64 (-1), .int .i64 (-1)] rfl rfl HF.out (by kernel_rfl) (by simp [Value.oneCell']) ?_
       intro w5 ho5 hu5 hs5))
  go_ret
  rw [← HW4.out] at hu5
  refine ⟨rfl, HP4.out.turnL (x' := nl) (List.getElem?_eq_getElem hli) (by rw [HLl.out]; exact ho5) hu5, HU4.out.trans hu5 (fun k _ hk => .inr (.inr hk))⟩
end
end Go.Proofs.Ytfahhjbbbimjfaa.Li
