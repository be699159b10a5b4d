/- The socket: Write. -/
import Derived.Test.YtfocbpnabgpmpaaSkB
import Derived.WalkLawsBesides
import Derived.Deep.CutBlock
import Derived.Deep.CutRange
namespace Go.Proofs.Ytfocbpnabgpmpaa.Sk
open Go Go.RowKit Go.Proofs.Ytfocbpnabgpmpaa.Mem
set_option linter.unusedVariables false
set_option linter.unusedSimpArgs false
def putS (y : Sd) (dg : Bool) (room : Nat) (l : List UInt8) : Int × Int × Sd :=
  if dg = true ∧ l.length = 0 then (0, -10, y) else if dg = true ∧ room < l.length then (0, -14, y) else if l.length = 0 then (0, 0, y) else
  if room - y.b.length = 0 ∨ (dg = true ∧ room - y.b.length < l.length) then (0, -22, y) else
  ((min l.length (room - y.b.length) : Nat), 0, { y with b := y.b ++ l.take (min l.length (room - y.b.length)), p := if dg then y.p ++ [min l.length (room - y.b.length)] else y.p })
theorem reads_head {w : World} {B n k : Nat} {A : Option Addr} {xs : List Value} (h : Reads w B 1 A n xs) (hk : k ≤ n) : Reads w B 1 A k (xs.take k) := by
  have hl := h.1
  refine ⟨by simp; omega, fun h0 => ?_⟩
  obtain ⟨ad, e, hb, hc⟩ := h.2 (by omega)
  refine ⟨ad, e, hb, fun j u hj => hc j u ?_⟩
  rw [List.getElem?_take] at hj
  split at hj
  · exact hj
  · cases hj
theorem reads_fresh_at (w : World) (e : TypeId) (cs : List Value) (n size B : Nat) (h : cs.length = n * size) (hB : w.heap.size = B) : Reads (w.alloc (.cells cs.toArray e)) (B + 1) size (some ⟨B, 0, none⟩) n cs := by
  subst hB
  exact reads_fresh w e cs n size h
theorem set_self {cs : Array Value} {i : Nat} {v : Value} (h : cs[i]? = some v) : cs.setIfInBounds i v = cs := by
  obtain ⟨h1, h2⟩ := Array.getElem?_eq_some_iff.1 h
  refine Array.ext_getElem? fun j => ?_
  rw [Array.getElem?_setIfInBounds]
  split
  · rename_i e
    subst e
    first | (rw [if_pos h1, h]) | (rw [h])
  · rfl
theorem set_self2 {cs : Array Value} {i j : Nat} {v u : Value} (h : cs[i]? = some v) (hij : i ≠ j) : (cs.setIfInBounds j u).setIfInBounds i v = cs.setIfInBounds j u :=
  set_self (by rw [Array.getElem?_setIfInBounds, if_neg (fun e => hij e.symm)]; exact h)
section
variable {w0 w : World} {S : List Asr} {bs room : Nat} {y : Sd} {dg : Bool} {cs : Array Value} {vy qy : Value}
set_option maxRecDepth 8000 in
set_option maxHeartbeats 4000000 in
theorem write_core (e : Int) (oy : Nat) (heo : (e = 0 ∧ oy = 5) ∨ (e = 1 ∧ oy = 0)) (h : Star w0 w (BlkA bs 62 cs :: RowO 5 1 vy y.b.length (bytesV y.b) :: RowO 3 1 qy y.p.length (intsN y.p) :: S))
    (c3 : cs[oy + 3]? = some vy) (c4 : cs[oy + 4]? = some qy) (c10 : cs[10]? = some (.bool dg)) (c11 : cs[11]? = some (.int .i64 room))
    (HC : Hid (Calls Try.prog 24 #[.pointer (some ⟨bs, 0, none⟩), .int .i64 e] w fun r w' => r = .returned (.int .i64 0) ∧ w = w'))
    (HW : Hid (Calls Try.prog 25 #[.pointer (some ⟨bs, 0, none⟩), .int .i64 e] w fun r w' => r = .returned (.int .i64 0) ∧ w = w'))
    (hyb : y.b.length ≤ room) (hro : room ≤ 1048576) (hyp : y.p.length ≤ 1048576) {A : Option Addr} {m c Br : Nat} {l : List UInt8} (hml : m = l.length) (hm : m ≤ maxLen) (hmc : m ≤ c) (hr : Reads w Br 1 A m (bytesV l)) :
    Calls Try.prog 10 #[.pointer (some ⟨bs, 0, none⟩), .int .i64 e, .slice A m c] w fun r w' => r = .returned (.tuple #[.int .i64 (putS y dg room l).1, .int .i64 (putS y dg room l).2.1]) ∧
      ∃ vy' qy', Star w0 w' (BlkA bs 62 ((cs.setIfInBounds (oy + 3) vy').setIfInBounds (oy + 4) qy') :: RowO 5 1 vy' (putS y dg room l).2.2.b.length (bytesV (putS y dg room l).2.2.b) :: RowO 3 1 qy' (putS y dg room l).2.2.p.length (intsN (putS y dg room l).2.2.p) :: S) := by
  have HS := Lib.hid h
  have k3 := (h.blk 0 rfl).cellv c3
  have k4 := (h.blk 0 rfl).cellv c4
  have k10 := (h.blk 0 rfl).cellv c10
  have k11 := (h.blk 0 rfl).cellv c11
  obtain ⟨Ay, cy, rfl⟩ := (h.rowO 1 rfl).len
  obtain ⟨Aq, cq, rfl⟩ := (h.rowO 2 rfl).len
  have HS0 : Hid (∀ n, Star w0 (w.drewN n) (BlkA bs 62 ((cs.setIfInBounds (oy + 3) (.slice Ay y.b.length cy)).setIfInBounds (oy + 4) (.slice Aq y.p.length cq)) :: RowO 5 1 (.slice Ay y.b.length cy) y.b.length (bytesV y.b) :: RowO 3 1 (.slice Aq y.p.length cq) y.p.length (intsN y.p) :: S)) := Lib.hid (fun n => by
    rw [set_self c3, set_self c4]
    exact h.drewN n)
  obtain ⟨ny, eny⟩ : ∃ n, n = y.b.length := ⟨_, rfl⟩
  obtain ⟨np, enp⟩ : ∃ n, n = y.p.length := ⟨_, rfl⟩
  have hnr : (ny : Int) ≤ room := by omega
  have hn0 : (0 : Int) ≤ ny := by omega
  have hr0 : (room : Int) ≤ 1048576 := by omega
  have hmm : (m : Int) ≤ 9223372036854775807 := by unfold maxLen at hm; omega
  rw [← eny] at k3
  rw [← enp] at k4
  obtain ⟨pn, ps, py, ep⟩ : ∃ a b c, putS y dg room l = (a, b, c) := ⟨_, _, _, rfl⟩
  rw [ep]
  unfold putS at ep
  rw [← hml, ← eny] at ep
  have HE := Lib.hid ep
  clear ep
  have HEN := Lib.hid eny
  have HEP := Lib.hid enp
  have HML := Lib.hid hml
  have HR := Lib.hid hr
  have HF := Lib.hid (fun (W' : World) (S' : List Asr) (h : Star w0 W' (BlkA bs 62 cs :: S')) => show W'.cell? ⟨bs, oy + 3, none⟩ = some (.slice Ay y.b.length cy) ∧ W'.frozen? ⟨bs, oy + 3, none⟩ = false from ⟨(h.blk 0 rfl).cellv c3, (h.blk 0 rfl).frozen _⟩)
  have HG := Lib.hid (fun (W' : World) (v : Value) (S' : List Asr) (h : Star w0 W' (BlkA bs 62 cs :: S')) => show Star w0 (W'.setCell ⟨bs, oy + 3, none⟩ v) (BlkA bs 62 (cs.setIfInBounds (oy + 3) v) :: S') from h.setBlk 0 rfl (oy + 3) v)
  have hoy : oy + 3 ≠ 10 := by omega
  have HQ := Lib.hid (fun (W' : World) (v : Value) (S' : List Asr) (h : Star w0 W' (BlkA bs 62 (cs.setIfInBounds (oy + 3) v) :: S')) => show W'.cell? ⟨bs, 10, none⟩ = some (.bool dg) ∧ W'.cell? ⟨bs, oy + 4, none⟩ = some (.slice Aq y.p.length cq) ∧ W'.frozen? ⟨bs, oy + 4, none⟩ = false from
    ⟨(h.blk 0 rfl).cellv (by rw [Array.getElem?_setIfInBounds, if_neg hoy]; exact c10), (h.blk 0 rfl).cellv (by rw [Array.getElem?_setIfInBounds, if_neg (by omega)]; exact c4), (h.blk 0 rfl).frozen _⟩)
  have HZ := Lib.hid (fun (v : Value) => set_self2 (u := v) c4 (show oy + 4 ≠ oy + 3 by omega))
  have HH := Lib.hid (fun (W' : World) (v u : Value) (S' : List Asr) (h : Star w0 W' (BlkA bs 62 (cs.setIfInBounds (oy + 3) v) :: S')) => show Star w0 (W'.setCell ⟨bs, oy + 4, none⟩ u) (BlkA bs 62 ((cs.setIfInBounds (oy + 3) v).setIfInBounds (oy + 4) u) :: S') from h.setBlk 0 rfl (oy + 4) u)
  have h1l := bytesV_one l
  obtain ⟨i5, hi5, hz50, hz51, hz52⟩ := info_parts by_info
  obtain ⟨i3, hi3, hz30, hz31, hz32⟩ := info_parts in_info
  clear hoy h c3 c4 c10 c11 hyb eny enp hml hr
  rcases heo with ⟨rfl, rfl⟩ | ⟨rfl, rfl⟩
  all_goals
    simp only [Nat.reduceAdd] at k3 k4 HF HG HQ HH
    go_enter Try.func10, Try.ntmps10
    go_upto_region 8 with (first
      | (go_at_call 24; (with_reducible refine HC.out.mono ?_); rintro e w1 ⟨rfl, rfl⟩)
      | (go_at_call 25; (with_reducible refine HW.out.mono ?_); rintro e w1 ⟨rfl, rfl⟩))
    go_quiet (fail)
    clear HC HW
    by_cases hA : dg = true ∧ m = 0
    · obtain ⟨rfl, rfl⟩ := hA
      have e := HE.out
      rw [if_pos ⟨rfl, rfl⟩] at e
      obtain ⟨rfl, rfl, rfl⟩ := e
      go_wp2
      go_ret2
      exact ⟨rfl, _, _, HS0.out _⟩
    · by_cases hB : dg = true ∧ room < m
      · have e := HE.out
        rw [if_neg hA, if_pos hB] at e
        obtain ⟨rfl, rfl, rfl⟩ := e
        obtain ⟨rfl, hB⟩ := hB
        have hB' : (room : Int) < m := by omega
        have hm0 : ((m : Int) == 0) = false := beq_eq_false_iff_ne.mpr (by omega)
        clear hA hB
        go_wp2
        go_ret2
        exact ⟨rfl, _, _, HS0.out _⟩
      · by_cases hz : m = 0
        · subst hz
          have e := HE.out
          rw [if_neg hA, if_neg hB, if_pos rfl] at e
          obtain ⟨rfl, rfl, rfl⟩ := e
          have hd : dg = false := by cases dg <;> simp_all
          subst hd
          clear hA hB
          go_wp2
          go_ret2
          exact ⟨rfl, _, _, HS0.out _⟩
        · have hm0 : ((m : Int) == 0) = false := beq_eq_false_iff_ne.mpr (by omega)
          have hmp : (0 : Int) < m := by omega
          by_cases hF : room - ny = 0 ∨ (dg = true ∧ room - ny < m)
          · have e := HE.out
            rw [if_neg hA, if_neg hB, if_neg hz, if_pos hF] at e
            obtain ⟨rfl, rfl, rfl⟩ := e
            by_cases hr9 : room = ny
            · have hr8 : (room : Int) - ny = 0 := by omega
              cases dg
              · clear hA hB hF hz
                go_wp2
                go_ret2
                exact ⟨rfl, _, _, HS0.out _⟩
              · have hmr : (m : Int) ≤ room := by
                  have : ¬ room < m := fun h => hB ⟨rfl, h⟩
                  omega
                clear hA hB hF hz
                go_wp2
                go_ret2
                exact ⟨rfl, _, _, HS0.out _⟩
            · obtain ⟨rfl, hF2⟩ : dg = true ∧ room - ny < m := by
                rcases hF with h1 | h1
                · omega
                · exact h1
              have hmr : (m : Int) ≤ room := by
                have : ¬ room < m := fun h => hB ⟨rfl, h⟩
                omega
              have hr8 : (((room : Int) - ny) == 0) = false := beq_eq_false_iff_ne.mpr (by omega)
              have hr7 : (room : Int) - ny < m := by omega
              clear hA hB hF hz hF2 hr9
              go_wp2
              go_ret2
              exact ⟨rfl, _, _, HS0.out _⟩
          · have e := HE.out
            rw [if_neg hA, if_neg hB, if_neg hz, if_neg hF] at e
            have hr9 : ¬ room = ny := fun h => hF (.inl (by omega))
            have hr8 : (((room : Int) - ny) == 0) = false := beq_eq_false_iff_ne.mpr (by omega)
            have hr7 : (0 : Int) < (room : Int) - ny := by omega
            obtain ⟨kk, hkk⟩ : ∃ kk, kk = min m (room - ny) := ⟨_, rfl⟩
            rw [← hkk] at e
            have hkm : kk ≤ m := by omega
            have hnp : np ≤ 1048576 := by rw [HEP.out]; exact hyp
            have hkr : (kk : Int) ≤ room - ny := by omega
            have hk0 : 0 < kk := by omega
            have hrd := Reads.drew (reads_head HR.out hkm)
            rw [← bytesV_take] at hrd
            have hs1 := HS.out.drewN nq
            rw [← HEN.out, ← HEP.out] at hs1
            have HRd := Lib.hid (Reads.drewN (reads_head HR.out hkm) nq)
            rw [← bytesV_take] at HRd
            have h1t := bytesV_one (l.take kk)
            have HE2 := Lib.hid e
            have k3' : (w.drewN nq).cell? _ = _ := k3
            have k4' : (w.drewN nq).cell? _ = _ := k4
            have k10' : (w.drewN nq).cell? _ = _ := k10
            have k11' : (w.drewN nq).cell? _ = _ := k11
            clear k3 k4 k10 k11 hrd e HE
            generalize w.drewN nq = W at *
            have HS1 := Lib.hid hs1
            clear hs1 HS HS0
            cases dg
            ·
              --<S
              have hkc : kk ≤ c := by omega
              clear hA hB hF hz
              by_cases hx2 : (m : Int) ≤ (room : Int) - ny
              · obtain rfl : kk = m := by omega
                clear hkk
                clear hr8
                go_upto_region 18 with fail
                clear k4' k11'
                go_region_law (first
                  | (refine step_append_so (by rfl) (.tmp 92) (.tmp 95) 27 (by rfl) (star_dr HS1.out) 1 rfl i5 _ 1 Try.underlying27 hi5 hz50 hz51 hz52 rfl (by omega) (by rfl) Br A kk _ (bytesV (l.take kk)) (by rfl) HRd.out.drew h1t (by simp only [maxLen]; omega) (by omega) ?_
                     intro v3 w3 hs3
                     simp only [List.set_cons_zero, List.set_cons_succ] at hs3
                     obtain ⟨A3, c3, rfl⟩ := (hs3.rowO 1 rfl).len
                     have HS3 := Lib.hid hs3
                     obtain ⟨q3, q4⟩ := HF.out _ _ hs3
                     rw [← HEN.out] at q3
                     clear hs3))
                all_goals
                  have hs4 := HG.out _ (.slice A3 (ny + kk) c3) _ HS3.out
                  obtain ⟨r10, r5, r6⟩ := HQ.out _ _ _ hs4
                  have HS4 := Lib.hid hs4
                  clear hs4 q3 q4 HS3 k3' k10' r5 r6
                  go_wp2
                  go_ret2
                  have e := HE2.out
                  simp only [Bool.false_eq_true, if_false] at e
                  obtain ⟨rfl, rfl, rfl⟩ := e
                  have e1 : (y.b ++ l.take kk).length = ny + kk := by rw [List.length_append, ← HEN.out, List.length_take, ← HML.out]; omega
                  refine ⟨rfl, .slice A3 (ny + kk) c3, .slice Aq y.p.length cq, ?_⟩
                  show Star w0 _ (BlkA bs 62 _ :: RowO 5 1 _ (y.b ++ l.take kk).length (bytesV (y.b ++ l.take kk)) :: RowO 3 1 _ y.p.length (intsN y.p) :: S)
                  rw [e1, bytesV_app]
                  have := HS4.out
                  rw [← HZ.out, HEP.out] at this
                  exact this
              · have hx1 : (room : Int) - ny = kk := by omega
                have hx3 : (kk : Int) < m := by omega
                clear hkk hx2
                clear hr8
                go_upto_region 18 with fail
                clear k4' k11'
                go_region_law (first
                  | (refine step_append_so (by rfl) (.tmp 92) (.tmp 95) 27 (by rfl) (star_dr HS1.out) 1 rfl i5 _ 1 Try.underlying27 hi5 hz50 hz51 hz52 rfl (by omega) (by rfl) Br A kk _ (bytesV (l.take kk)) (by rfl) HRd.out.drew h1t (by simp only [maxLen]; omega) (by omega) ?_
                     intro v3 w3 hs3
                     simp only [List.set_cons_zero, List.set_cons_succ] at hs3
                     obtain ⟨A3, c3, rfl⟩ := (hs3.rowO 1 rfl).len
                     have HS3 := Lib.hid hs3
                     obtain ⟨q3, q4⟩ := HF.out _ _ hs3
                     rw [← HEN.out] at q3
                     clear hs3))
                all_goals
                  have hs4 := HG.out _ (.slice A3 (ny + kk) c3) _ HS3.out
                  obtain ⟨r10, r5, r6⟩ := HQ.out _ _ _ hs4
                  have HS4 := Lib.hid hs4
                  clear hs4 q3 q4 HS3 k3' k10' r5 r6
                  go_wp2
                  go_ret2
                  have e := HE2.out
                  simp only [Bool.false_eq_true, if_false] at e
                  obtain ⟨rfl, rfl, rfl⟩ := e
                  have e1 : (y.b ++ l.take kk).length = ny + kk := by rw [List.length_append, ← HEN.out, List.length_take, ← HML.out]; omega
                  refine ⟨rfl, .slice A3 (ny + kk) c3, .slice Aq y.p.length cq, ?_⟩
                  show Star w0 _ (BlkA bs 62 _ :: RowO 5 1 _ (y.b ++ l.take kk).length (bytesV (y.b ++ l.take kk)) :: RowO 3 1 _ y.p.length (intsN y.p) :: S)
                  rw [e1, bytesV_app]
                  have := HS4.out
                  rw [← HZ.out, HEP.out] at this
                  exact this
              -->S
            ·
              --<D
              have hmr : (m : Int) ≤ (room : Int) - ny := by
                have : ¬ room - ny < m := fun h => hF (.inr ⟨rfl, h⟩)
                omega
              obtain rfl : kk = m := by omega
              clear hA hB hF hz hkk
              have hmr2 : (kk : Int) ≤ room := by omega
              go_upto_region 18 with fail
              clear k4' k11'
              go_region_law (first
                | (refine step_append_so (by rfl) (.tmp 92) (.tmp 95) 27 (by rfl) (star_dr HS1.out) 1 rfl i5 _ 1 Try.underlying27 hi5 hz50 hz51 hz52 rfl (by omega) (by rfl) Br A kk _ (bytesV (l.take kk)) (by rfl) HRd.out.drew h1t (by simp only [maxLen]; omega) (by omega) ?_
                   intro v3 w3 hs3
                   simp only [List.set_cons_zero, List.set_cons_succ] at hs3
                   obtain ⟨A3, c3, rfl⟩ := (hs3.rowO 1 rfl).len
                   have HS3 := Lib.hid hs3
                   obtain ⟨q3, q4⟩ := HF.out _ _ hs3
                   rw [← HEN.out] at q3
                   clear hs3))
              all_goals
                have hs4 := HG.out _ (.slice A3 (ny + kk) c3) _ HS3.out
                obtain ⟨r10, r5, r6⟩ := HQ.out _ _ _ hs4
                rw [← HEP.out] at r5
                have HS4 := Lib.hid hs4
                clear hs4 q3 q4 HS3 k3' k10'
                go_wp2_with (first
                  | (at_builtin; refine wpList_append_so rfl (.tmp 107) (.tmp 109) 23 rfl (HS4.out.alloc _) 2 rfl i3 _ 8 Try.underlying23 hi3 hz30 hz31 hz32 rfl (by omega) rfl _ (some ⟨w3.heap.size, 0, none⟩) 1 1 [.int .i64 (kk : Int)] rfl (reads_fresh_at _ 3 [.int .i64 (kk : Int)] 1 1 w3.heap.size rfl (by simp)) (by simp [Value.oneCell']) (by simp only [maxLen]; omega) (by omega) ?_
                     intro v5 w5 hs5
                     simp only [List.set_cons_zero, List.set_cons_succ] at hs5
                     obtain ⟨A5, c5, rfl⟩ := (hs5.rowO 2 rfl).len
                     obtain ⟨-, t5, t6⟩ := HQ.out _ _ _ hs5
                     rw [← HEP.out] at t5
                     have HS5 := Lib.hid hs5
                     clear hs5))
                go_ret2
                have e := HE2.out
                simp only [if_true] at e
                obtain ⟨rfl, rfl, rfl⟩ := e
                have hs6 := HH.out _ _ (.slice A5 (np + 1) c5) _ HS5.out
                have e1 : (y.b ++ l.take kk).length = ny + kk := by rw [List.length_append, ← HEN.out, List.length_take, ← HML.out]; omega
                have e2 : (y.p ++ [kk]).length = np + 1 := by rw [List.length_append, ← HEP.out]; rfl
                refine ⟨rfl, .slice A3 (ny + kk) c3, .slice A5 (np + 1) c5, ?_⟩
                show Star w0 _ (BlkA bs 62 _ :: RowO 5 1 _ (y.b ++ l.take kk).length (bytesV (y.b ++ l.take kk)) :: RowO 3 1 _ (y.p ++ [kk]).length (intsN (y.p ++ [kk])) :: S)
                rw [e1, e2, bytesV_app, intsN_app]
                exact hs6
              -->D
end
end Go.Proofs.Ytfocbpnabgpmpaa.Sk
