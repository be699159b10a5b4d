/- The socket: take. -/
import Derived.Test.YtfocbpnabgpmpaaSkC
namespace Go.Proofs.Ytfocbpnabgpmpaa.Sk
open Go Go.RowKit Go.Proofs.Ytfocbpnabgpmpaa.Mem
set_option linter.unusedVariables false
set_option linter.unusedSimpArgs false
def wholeN (x : Sd) (n : Nat) : Nat := match x.p with
  | [] => min n x.b.length
  | q :: _ => q
def takeS (x : Sd) (n : Nat) (peek : Bool) : List UInt8 × Sd := (x.b.take (min n (wholeN x n)), if peek = true then x else { x with b := x.b.drop (wholeN x n), p := x.p.tail })
theorem delete_st {w0 w : World} {L : List Asr} {v : Value} {n : Nat} {xs : List Value} (h : Star w0 w L) (q : Nat) (hq : L[q]? = some (RowO 5 1 v n xs)) (h1 : ∀ u ∈ xs, u.oneCell' = true) (j : Nat) (hjn : j ≤ n) (hn : n ≤ 1099511627776) :
    Calls Try.prog 31 #[v, .int .i64 0, .int .i64 j] w fun e w' => ∃ v', e = .returned v' ∧ Star w0 w' (L.set q (RowO 5 1 v' (n - j) (xs.drop j))) := by
  refine (delete_any (h.front q hq) h1 0 j (by omega) hjn hn).mono ?_
  rintro e w1 ⟨v', rfl, hs⟩
  rw [List.take_zero, List.nil_append, Nat.sub_zero] at hs
  exact ⟨v', rfl, Star.back (N := []) q hq hs⟩
theorem nats_at {w : World} {B k n : Nat} {A : Option Addr} {l : List Nat} (h : Reads w B 1 A n (intsN l)) (hk : k < n) : ∃ ad y, A = some ad ∧ l[k]? = some y ∧ w.cell? (ad.add k) = some (.int .i64 (y : Int)) := by
  obtain ⟨ad, u, rfl, had, hx, hc⟩ := h.at_ hk
  have hkl : k < l.length := by have := h.1; rw [intsN_len] at this; omega
  refine ⟨ad, l[k], rfl, List.getElem?_eq_getElem hkl, ?_⟩
  rw [show (intsN l)[k]? = some (.int .i64 (l[k] : Int)) by simp [intsN, List.getElem?_eq_getElem hkl]] at hx
  rw [hc, Option.some.inj hx]
section
variable {w0 w : World} {S : List Asr} {bs : Nat} {x : Sd} {cs : Array Value} {vx qx : Value}
set_option maxRecDepth 8000 in
set_option maxHeartbeats 8000000 in
theorem take_core (ox : Nat) (hox : ox = 0 ∨ ox = 5) (h : Star w0 w (BlkA bs 62 cs :: RowO 5 1 vx x.b.length (bytesV x.b) :: RowO 3 1 qx x.p.length (intsN x.p) :: S))
    (c3 : cs[ox + 3]? = some vx) (c4 : cs[ox + 4]? = some qx) (n : Nat) (peek : Bool) (hb0 : 0 < x.b.length) (hbm : x.b.length ≤ 1048576) (hn : (n : Int) ≤ 9223372036854775807) (hq : wholeN x n ≤ x.b.length) (hpm : x.p.length ≤ 1048576) :
    Calls Try.prog 26 #[.pointer (some ⟨bs, ox, none⟩), .int .i64 n, .bool peek] w fun r w' => ∃ vo vx' qx', r = .returned vo ∧
      Star w0 w' (RowA 5 1 vo (takeS x n peek).1.length (bytesV (takeS x n peek).1) :: BlkA bs 62 ((cs.setIfInBounds (ox + 3) vx').setIfInBounds (ox + 4) qx') :: RowO 5 1 vx' (takeS x n peek).2.b.length (bytesV (takeS x n peek).2.b) :: RowO 3 1 qx' (takeS x n peek).2.p.length (intsN (takeS x n peek).2.p) :: S) := by
  obtain ⟨Ax, cx, rfl⟩ := (h.rowO 1 rfl).len
  obtain ⟨Aq, cq, rfl⟩ := (h.rowO 2 rfl).len
  obtain ⟨nb, enb⟩ : ∃ k, k = x.b.length := ⟨_, rfl⟩
  obtain ⟨np, enp⟩ : ∃ k, k = x.p.length := ⟨_, rfl⟩
  obtain ⟨wh, ewh⟩ : ∃ k, k = wholeN x n := ⟨_, rfl⟩
  obtain ⟨mk, emk⟩ : ∃ k, k = min n wh := ⟨_, rfl⟩
  obtain ⟨out, x', et⟩ : ∃ a b, takeS x n peek = (a, b) := ⟨_, _, rfl⟩
  rw [et]
  rw [← enb, ← enp] at h
  rw [← enb] at c3 hb0 hbm hq
  rw [← enp] at c4 hpm
  rw [← ewh] at hq
  have k3 := (h.blk 0 rfl).cellv c3
  have k4 := (h.blk 0 rfl).cellv c4
  have hmin : mk ≤ nb := by rw [emk]; omega
  have hcap : nb ≤ cx := by
    obtain ⟨g, off, cap, hv, -, -, hnc⟩ := (h.rowO 1 rfl).form hb0
    simp only [Value.slice.injEq, true_and] at hv
    rw [hv.2]
    exact hnc
  have hrd := reads_head (h.readsO 1 rfl) (k := mk) hmin
  rw [← bytesV_take] at hrd
  have hC := clone_any (c := cx) h hrd (Nat.le_refl _) (by omega)
  have HC := Lib.hid hC
  have HD := Lib.hid (fun (W' : World) (vo : Value) (m : Nat) (l : List Value) (h : Star w0 W' (RowA 5 1 vo m l :: BlkA bs 62 cs :: RowO 5 1 (.slice Ax nb cx) nb (bytesV x.b) :: RowO 3 1 (.slice Aq np cq) np (intsN x.p) :: S)) =>
    delete_st h 2 rfl (bytesV_one _) wh hq (by omega))
  have HF := Lib.hid (fun (W' : World) (A : Asr) (S' : List Asr) (h : Star w0 W' (A :: BlkA bs 62 cs :: S')) => show W'.cell? ⟨bs, ox + 3, none⟩ = some (.slice Ax nb cx) ∧ W'.frozen? ⟨bs, ox + 3, none⟩ = false ∧ W'.cell? ⟨bs, ox + 4, none⟩ = some (.slice Aq np cq) ∧ W'.frozen? ⟨bs, ox + 4, none⟩ = false from ⟨(h.blk 1 rfl).cellv c3, (h.blk 1 rfl).frozen _, (h.blk 1 rfl).cellv c4, (h.blk 1 rfl).frozen _⟩)
  have HG := Lib.hid (fun (W' : World) (A : Asr) (v : Value) (S' : List Asr) (h : Star w0 W' (A :: BlkA bs 62 cs :: S')) => show Star w0 (W'.setCell ⟨bs, ox + 3, none⟩ v) (A :: BlkA bs 62 (cs.setIfInBounds (ox + 3) v) :: S') from h.setBlk 1 rfl (ox + 3) v)
  have HH := Lib.hid (fun (W' : World) (A : Asr) (v u : Value) (S' : List Asr) (h : Star w0 W' (A :: BlkA bs 62 (cs.setIfInBounds (ox + 3) v) :: S')) => show Star w0 (W'.setCell ⟨bs, ox + 4, none⟩ u) (A :: BlkA bs 62 ((cs.setIfInBounds (ox + 3) v).setIfInBounds (ox + 4) u) :: S') from h.setBlk 1 rfl (ox + 4) u)
  have HZ := Lib.hid (fun (v : Value) => set_self2 (u := v) c4 (show ox + 4 ≠ ox + 3 by omega))
  have HZ0 := Lib.hid (show (cs.setIfInBounds (ox + 3) (.slice Ax nb cx)).setIfInBounds (ox + 4) (.slice Aq np cq) = cs by rw [set_self c3, set_self c4])
  have HNB := Lib.hid enb
  have HNP := Lib.hid enp
  have HWH := Lib.hid ewh
  have HMK := Lib.hid emk
  have HT := Lib.hid et
  have hnb2 : (nb : Int) ≤ 1048576 := by omega
  have hb1 : (0 : Int) < nb := by omega
  have hmkc : mk ≤ cx := by omega
  have l1 : (x.b.take mk).length = mk := by rw [List.length_take, ← enb]; omega
  have l2 : (x.b.drop wh).length = nb - wh := by rw [List.length_drop, ← enb]
  have L1 := Lib.hid l1
  have L2 := Lib.hid l2
  have HS0 := Lib.hid h
  unfold wholeN at ewh
  clear h c3 c4 hrd hC et hb0 hbm l1 l2
  cases hp : x.p with
  | nil =>
    --<P
    rw [hp] at ewh
    simp only at ewh
    obtain rfl : np = 0 := by rw [HNP.out, hp]; rfl
    have HP := Lib.hid hp
    clear hp
    by_cases hx : n ≤ nb
    · obtain rfl : wh = n := by omega
      obtain rfl : mk = wh := by omega
      have hx' : (mk : Int) ≤ nb := by omega
      clear emk ewh hx enb enp
      rcases hox with rfl | rfl
      all_goals
        simp only [Nat.reduceAdd] at k3 k4 HF HG HH
        cases peek
        · go_enter Try.func26, Try.ntmps26
          go_wp2_with (first
            | (go_at_call 30; (with_reducible refine HC.out.mono ?_); rintro e w2 ⟨vo, rfl, hs2⟩
               have HS2 := Lib.hid hs2
               obtain ⟨q3, q4, q5, q6⟩ := HF.out _ _ _ hs2
               clear hs2)
            | (go_at_call 31; (with_reducible refine (HD.out _ _ _ _ HS2.out).mono ?_); rintro e w3 ⟨vd, rfl, hs3⟩
               simp only [List.set_cons_zero, List.set_cons_succ] at hs3
               obtain ⟨Ad, cd, rfl⟩ := (hs3.rowO 2 rfl).len
               have HS3 := Lib.hid hs3
               obtain ⟨r3, r4, r5, r6⟩ := HF.out _ _ _ hs3
               clear hs3))
          go_ret
          have e := HT.out
          unfold takeS at e
          simp only [Bool.false_eq_true, if_false] at e
          rw [← HWH.out, ← HMK.out, HP.out] at e
          obtain ⟨rfl, rfl⟩ := e
          refine ⟨_, .slice Ad (nb - mk) cd, .slice Aq 0 cq, rfl, ?_⟩
          show Star w0 _ (RowA 5 1 _ (x.b.take mk).length (bytesV (x.b.take mk)) :: BlkA bs 62 _ :: RowO 5 1 _ (x.b.drop mk).length (bytesV (x.b.drop mk)) :: RowO 3 1 _ 0 (intsN []) :: S)
          have := HG.out _ _ (.slice Ad (nb - mk) cd) _ HS3.out
          rw [← HZ.out, HP.out, ← bytesV_drop] at this
          rw [L1.out, L2.out]
          exact this
        · go_enter Try.func26, Try.ntmps26
          go_wp2_with (first
            | (go_at_call 30; (with_reducible refine HC.out.mono ?_); rintro e w2 ⟨vo, rfl, hs2⟩
               have HS2 := Lib.hid hs2
               clear hs2))
          go_ret
          have e := HT.out
          unfold takeS at e
          simp only [if_true] at e
          rw [← HWH.out, ← HMK.out] at e
          obtain ⟨rfl, rfl⟩ := e
          refine ⟨_, .slice Ax nb cx, .slice Aq 0 cq, rfl, ?_⟩
          rw [HZ0.out, L1.out, ← HNB.out, ← HNP.out]
          exact HS2.out
    · obtain rfl : wh = nb := by omega
      obtain rfl : mk = wh := by omega
      have hx' : (mk : Int) < n := by omega
      clear emk ewh hx enb enp
      rcases hox with rfl | rfl
      all_goals
        simp only [Nat.reduceAdd] at k3 k4 HF HG HH
        cases peek
        · go_enter Try.func26, Try.ntmps26
          go_wp2_with (first
            | (go_at_call 30; (with_reducible refine HC.out.mono ?_); rintro e w2 ⟨vo, rfl, hs2⟩
               have HS2 := Lib.hid hs2
               obtain ⟨q3, q4, q5, q6⟩ := HF.out _ _ _ hs2
               clear hs2)
            | (go_at_call 31; (with_reducible refine (HD.out _ _ _ _ HS2.out).mono ?_); rintro e w3 ⟨vd, rfl, hs3⟩
               simp only [List.set_cons_zero, List.set_cons_succ] at hs3
               obtain ⟨Ad, cd, rfl⟩ := (hs3.rowO 2 rfl).len
               have HS3 := Lib.hid hs3
               obtain ⟨r3, r4, r5, r6⟩ := HF.out _ _ _ hs3
               clear hs3))
          go_ret
          have e := HT.out
          unfold takeS at e
          simp only [Bool.false_eq_true, if_false] at e
          rw [← HWH.out, ← HMK.out, HP.out] at e
          obtain ⟨rfl, rfl⟩ := e
          refine ⟨_, .slice Ad 0 cd, .slice Aq 0 cq, rfl, ?_⟩
          show Star w0 _ (RowA 5 1 _ (x.b.take mk).length (bytesV (x.b.take mk)) :: BlkA bs 62 _ :: RowO 5 1 _ (x.b.drop mk).length (bytesV (x.b.drop mk)) :: RowO 3 1 _ 0 (intsN []) :: S)
          have := HG.out _ _ (.slice Ad (mk - mk) cd) _ HS3.out
          rw [← HZ.out, HP.out, ← bytesV_drop, Nat.sub_self] at this
          rw [L1.out, L2.out, Nat.sub_self]
          exact this
        · go_enter Try.func26, Try.ntmps26
          go_wp2_with (first
            | (go_at_call 30; (with_reducible refine HC.out.mono ?_); rintro e w2 ⟨vo, rfl, hs2⟩
               have HS2 := Lib.hid hs2
               clear hs2))
          go_ret
          have e := HT.out
          unfold takeS at e
          simp only [if_true] at e
          rw [← HWH.out, ← HMK.out] at e
          obtain ⟨rfl, rfl⟩ := e
          refine ⟨_, .slice Ax mk cx, .slice Aq 0 cq, rfl, ?_⟩
          rw [HZ0.out, L1.out, ← HNB.out, ← HNP.out]
          exact HS2.out
    -->P
  | cons q p' =>
    --<Q
    rw [hp] at ewh
    simp only at ewh
    subst ewh
    have hnp : np = p'.length + 1 := by rw [HNP.out, hp]; rfl
    obtain ⟨g, off, cap, hv, hbg, hgl, hnc⟩ := (HS0.out.rowO 2 rfl).form (by omega)
    simp only [Value.slice.injEq, true_and] at hv
    obtain ⟨rfl, rfl⟩ := hv
    have hq0 := (HS0.out.rowO 2 rfl).cellAt 0 (by omega)
    rw [hp, show (intsN (wh :: p'))[0]? = some (.int .i64 (wh : Int)) from rfl, Nat.add_zero] at hq0
    have hnp1 : (0 : Int) < np := by omega
    have hnp2 : (1 : Int) ≤ np := by omega
    have hnpc : (np : Int) ≤ cq := by omega
    have hc1 : 1 ≤ cq := by omega
    obtain ⟨A9, hA9⟩ : ∃ A9 : Option Addr, (if cq = 1 then (some ⟨g, off, none⟩ : Option Addr) else some ⟨g, off + 1, none⟩) = A9 := ⟨_, rfl⟩
    have HCut := Lib.hid (fun (W' : World) (A B : Asr) (C : Asr) (S' : List Asr) (h : Star w0 W' (A :: B :: C :: RowO 3 1 (.slice (some ⟨g, off, none⟩) np cq) np (intsN x.p) :: S')) => show Star w0 W' (A :: B :: C :: RowO 3 1 (.slice A9 (np - 1) (cq - 1)) (np - 1) (intsN p') :: S') from by
      have h2 := h.cutO 3 rfl (k := 1) (by omega)
      simp only [List.set_cons_zero, List.set_cons_succ, Nat.mul_one] at h2
      rw [hp, show (intsN (wh :: p')).drop 1 = intsN p' from rfl] at h2
      rw [← hA9]
      by_cases hcq : cq = 1
      · rw [if_pos hcq] at h2 ⊢
        exact h2
      · rw [if_neg hcq] at h2 ⊢
        simpa [Addr.add_lit] using h2)
    have HP := Lib.hid hp
    have HN2 := Lib.hid hnp
    clear hp hnp hbg hgl hnc HS0
    by_cases hx : n ≤ wh
    · obtain rfl : mk = n := by omega
      have hx' : (mk : Int) ≤ wh := by omega
      have hx2 : (wh : Int) ≤ nb := by omega
      have hx3 : (mk : Int) ≤ nb := by omega
      have hwp : (0 : Int) ≤ wh := by omega
      clear emk hx enb enp
      rcases hox with rfl | rfl
      all_goals
        simp only [Nat.reduceAdd] at k3 k4 HF HG HH
        cases peek
        · go_enter Try.func26, Try.ntmps26
          go_wp2_with (first
            | (go_at_call 30; (with_reducible refine HC.out.mono ?_); rintro e w2 ⟨vo, rfl, hs2⟩
               have HS2 := Lib.hid hs2
               obtain ⟨q3, q4, q5, q6⟩ := HF.out _ _ _ hs2
               clear hs2)
            | (go_at_call 31; (with_reducible refine (HD.out _ _ _ _ HS2.out).mono ?_); rintro e w3 ⟨vd, rfl, hs3⟩
               simp only [List.set_cons_zero, List.set_cons_succ] at hs3
               obtain ⟨Ad, cd, rfl⟩ := (hs3.rowO 2 rfl).len
               have HS3 := Lib.hid hs3
               obtain ⟨r3, r4, r5, r6⟩ := HF.out _ _ _ hs3
               clear hs3))
          go_ret
          have e := HT.out
          unfold takeS at e
          simp only [Bool.false_eq_true, if_false] at e
          rw [← HWH.out, ← HMK.out, HP.out] at e
          obtain ⟨rfl, rfl⟩ := e
          refine ⟨_, .slice Ad (nb - wh) cd, .slice A9 (np - 1) (cq - 1), rfl, ?_⟩
          show Star w0 _ (RowA 5 1 _ (x.b.take mk).length (bytesV (x.b.take mk)) :: BlkA bs 62 _ :: RowO 5 1 _ (x.b.drop wh).length (bytesV (x.b.drop wh)) :: RowO 3 1 _ p'.length (intsN p') :: S)
          have := HH.out _ _ (.slice Ad (nb - wh) cd) (.slice A9 (np - 1) (cq - 1)) _ (HG.out _ _ (.slice Ad (nb - wh) cd) _ HS3.out)
          rw [← bytesV_drop] at this
          have := HCut.out _ _ _ _ _ this
          rw [show p'.length = np - 1 by rw [HN2.out]; rfl, L1.out, L2.out]
          exact this
        · go_enter Try.func26, Try.ntmps26
          go_wp2_with (first
            | (go_at_call 30; (with_reducible refine HC.out.mono ?_); rintro e w2 ⟨vo, rfl, hs2⟩
               have HS2 := Lib.hid hs2
               clear hs2))
          go_ret
          have e := HT.out
          unfold takeS at e
          simp only [if_true] at e
          rw [← HWH.out, ← HMK.out] at e
          obtain ⟨rfl, rfl⟩ := e
          refine ⟨_, .slice Ax nb cx, .slice (some ⟨g, off, none⟩) np cq, rfl, ?_⟩
          rw [HZ0.out, L1.out, ← HNB.out, ← HNP.out]
          exact HS2.out
    · obtain rfl : mk = wh := by omega
      have hx' : (mk : Int) < n := by omega
      have hx2 : (mk : Int) ≤ nb := by omega
      clear emk hx enb enp
      rcases (show (nb : Int) < n ∨ (n : Int) ≤ nb by omega) with hnb | hnb
      all_goals
        rcases hox with rfl | rfl
        all_goals
          simp only [Nat.reduceAdd] at k3 k4 HF HG HH
          cases peek
          · go_enter Try.func26, Try.ntmps26
            go_wp2_with (first
              | (go_at_call 30; (with_reducible refine HC.out.mono ?_); rintro e w2 ⟨vo, rfl, hs2⟩
                 have HS2 := Lib.hid hs2
                 obtain ⟨q3, q4, q5, q6⟩ := HF.out _ _ _ hs2
                 clear hs2)
              | (go_at_call 31; (with_reducible refine (HD.out _ _ _ _ HS2.out).mono ?_); rintro e w3 ⟨vd, rfl, hs3⟩
                 simp only [List.set_cons_zero, List.set_cons_succ] at hs3
                 obtain ⟨Ad, cd, rfl⟩ := (hs3.rowO 2 rfl).len
                 have HS3 := Lib.hid hs3
                 obtain ⟨r3, r4, r5, r6⟩ := HF.out _ _ _ hs3
                 clear hs3))
            go_ret
            have e := HT.out
            unfold takeS at e
            simp only [Bool.false_eq_true, if_false] at e
            rw [← HWH.out, ← HMK.out, HP.out] at e
            obtain ⟨rfl, rfl⟩ := e
            refine ⟨_, .slice Ad (nb - mk) cd, .slice A9 (np - 1) (cq - 1), rfl, ?_⟩
            show Star w0 _ (RowA 5 1 _ (x.b.take mk).length (bytesV (x.b.take mk)) :: BlkA bs 62 _ :: RowO 5 1 _ (x.b.drop mk).length (bytesV (x.b.drop mk)) :: RowO 3 1 _ p'.length (intsN p') :: S)
            have := HH.out _ _ (.slice Ad (nb - mk) cd) (.slice A9 (np - 1) (cq - 1)) _ (HG.out _ _ (.slice Ad (nb - mk) cd) _ HS3.out)
            rw [← bytesV_drop] at this
            have := HCut.out _ _ _ _ _ this
            rw [show p'.length = np - 1 by rw [HN2.out]; rfl, L1.out, L2.out]
            exact this
          · go_enter Try.func26, Try.ntmps26
            go_wp2_with (first
              | (go_at_call 30; (with_reducible refine HC.out.mono ?_); rintro e w2 ⟨vo, rfl, hs2⟩
                 have HS2 := Lib.hid hs2
                 clear hs2))
            go_ret
            have e := HT.out
            unfold takeS at e
            simp only [if_true] at e
            rw [← HWH.out, ← HMK.out] at e
            obtain ⟨rfl, rfl⟩ := e
            refine ⟨_, .slice Ax nb cx, .slice (some ⟨g, off, none⟩) np cq, rfl, ?_⟩
            rw [HZ0.out, L1.out, ← HNB.out, ← HNP.out]
            exact HS2.out
    -->Q
end
end Go.Proofs.Ytfocbpnabgpmpaa.Sk
