/- The port's reference: Users, Add, Take, Watch. -/
import Derived.Test.YtjkgkoilabbdgaaPtO
namespace Go.Proofs.Ytjkgkoilabbdgaa.Pt
open Go Go.RowKit Go.Proofs.Ytjkgkoilabbdgaa.Mem
set_option linter.unusedVariables false
set_option linter.unusedSimpArgs false
theorem rk_info : (Try.prog.info? 52).map (fun i => (i.zero, i.size, i.bytes)) = some (some (.agg #[.int .i64 0, .int .i64 0, .int .i64 0]), 3, 24) := by kernel_rfl
theorem rw_info : (Try.prog.info? 58).map (fun i => (i.zero, i.size, i.bytes)) = some (some (.agg #[.int .i64 0, .int .i64 0, .int .i64 0]), 3, 24) := by kernel_rfl
theorem u52 : Try.prog.underlying 52 = some (.struct (match Try.prog.underlying 52 with | some (.struct f) => f | _ => #[])) := by kernel_rfl
theorem i52 : (Try.prog.info? 52).map (·.size) = some 3 := by kernel_rfl
def rpC (s : Po) (t : Value × Value) : Array Value := #[t.1, t.2, .int .i64 s.d, .int .i64 s.m]
abbrev rp (bs : Nat) (s : Po) (t : Value × Value) : List Asr := [BlkA bs 50 (rpC s t), RowO 52 3 t.1 s.q.length (t3V s.q), RowO 58 3 t.2 s.ws.length (t3V s.ws)]
abbrev RpA (bs : Nat) (s : Po) : Asr := ExA fun t => Grp (rp bs s t)
theorem quiet_left {P : Program} {f : FuncId} {args : Array Value} {w : World} {n : Nat} {v : Value}
    (h : Calls P f args (w.drewN n) fun e w' => e = .returned v ∧ w.drewN n = w') : Calls P f args (w.drewN n) fun e w'' => e = .returned v ∧ ∃ m, w'' = w.drewN m :=
  h.mono fun _ _ ⟨he, hm⟩ => ⟨he, n, hm.symm⟩
def usersK (q : List T3) (k : Nat) : Nat := usersN (q.take k)
theorem usersK_step {q : List T3} {k : Nat} {x : T3} (hx : q[k]? = some x) : usersK q (k + 1) = usersK q k + (if x.b = 0 then 1 else 0) := by
  obtain ⟨hj, e⟩ := List.getElem?_eq_some_iff.1 hx
  unfold usersK
  rw [List.take_succ_eq_append_getElem hj, usersN_app, e]
theorem users_objs (q : List T3) : usersN q + objsN q = q.length := by
  induction q with
  | nil => rfl
  | cons x q ih => rw [usersN_cons, objsN_cons, List.length_cons]; split <;> omega
section
variable {w0 w : World} {S : List Asr} {bs : Nat} {s : Po} {t : Value × Value}
theorem rp_cells (h : Star w0 w (rp bs s t ++ S)) : w.cell? ⟨bs, 0, none⟩ = some t.1 ∧ w.cell? ⟨bs, 1, none⟩ = some t.2 ∧ w.cell? ⟨bs, 2, none⟩ = some (.int .i64 s.d) ∧ w.cell? ⟨bs, 3, none⟩ = some (.int .i64 s.m) :=
  have hb := h.blk 0 rfl
  ⟨hb.cellv rfl, hb.cellv rfl, hb.cellv rfl, hb.cellv rfl⟩
theorem rp_rows (h : Star w0 w (rp bs s t ++ S)) : (∃ A c, t.1 = .slice A s.q.length c) ∧ (∃ A c, t.2 = .slice A s.ws.length c) := ⟨(h.rowO 1 rfl).len, (h.rowO 2 rfl).len⟩
set_option maxHeartbeats 1000000 in
theorem users_ref (h : Star w0 w (rp bs s t ++ S)) (hq : s.q.length ≤ 1000) : Calls Try.prog 38 #[.pointer (some ⟨bs, 0, none⟩)] w fun r w' => r = .returned (.int .i64 (usersN s.q)) ∧ w = w' := by
  obtain ⟨t0, t2⟩ := t
  obtain ⟨⟨A, c, rfl⟩, -⟩ := rp_rows h
  obtain ⟨k0, -⟩ := rp_cells h
  have HO := Lib.hid (h.rowO 1 rfl)
  obtain ⟨n, en⟩ : ∃ n, n = s.q.length := ⟨_, rfl⟩
  have EN := Lib.hid en
  simp only at k0 HO
  rw [← en] at k0 hq HO
  have hn' : (n : Int) ≤ 1000 := by omega
  clear h en
  go_enter Try.func38, Try.ntmps38
  go_wp2
  go_loopw [3, 4] (fun v i wr => ∃ k m : Nat, k ≤ n ∧ i = .int .i64 k ∧ v = .int .i64 m ∧ m ≤ k ∧ Hid (m = usersK s.q k) ∧ wr = w) (fun _ i _ => n - (intOf i).toNat)
  case atStart => exact ⟨0, 0, by omega, rfl, rfl, by omega, Lib.hid rfl, rfl⟩
  case round =>
    obtain ⟨k, m, hk, rfl, rfl, hmk, HM, rfl⟩ := hrel
    by_cases hlt : k < n
    · obtain ⟨x, hx⟩ : ∃ x, s.q[k]? = some x := ⟨_, List.getElem?_eq_getElem (by rw [← EN.out]; exact hlt)⟩
      obtain ⟨g, off, cp, hv, hbg, hgl, hnc⟩ := HO.out.form (by omega)
      simp only [Value.slice.injEq, true_and] at hv
      obtain ⟨rfl, rfl⟩ := hv
      obtain ⟨r0, r1, r2⟩ := at3 HO.out EN.out hx
      have hltz : (k : Int) < n := by omega
      have e := usersK_step hx
      rw [← HM.out] at e
      have hmz : (m : Int) ≤ 1000 := by omega
      clear hx
      by_cases hz : x.b = 0
      · have hz' : (x.b == 0) = true := beq_iff_eq.mpr hz
        rw [if_pos hz] at e
        have E := Lib.hid e
        clear hz e
        go_wp2
        go_roundw
        case rel => exact ⟨k + 1, m + 1, by omega, by go_num, by go_num, by omega, Lib.hid E.out.symm, by first | rfl | trivial⟩
        case measure => simp [intOf]; omega
      · have hz' : (x.b == 0) = false := beq_eq_false_iff_ne.mpr hz
        rw [if_neg hz] at e
        have E := Lib.hid e
        clear hz e
        go_wp2
        go_roundw
        case rel => exact ⟨k + 1, m, by omega, by go_num, rfl, by omega, Lib.hid E.out.symm, by first | rfl | trivial⟩
        case measure => simp [intOf]; omega
    · have hltz : ¬ (k : Int) < n := by omega
      obtain rfl : k = n := by omega
      clear hlt
      go_wp2
      go_ret
      refine ⟨?_, rfl⟩
      have e1 : usersN s.q = m := by rw [HM.out]; unfold usersK; rw [EN.out, List.take_length]
      rw [e1]
      rfl
set_option maxHeartbeats 4000000 in
theorem add_ref (h : Star w0 w (rp bs s t ++ S)) (hq : s.q.length ≤ 1000) (k v : Int) : Calls Try.prog 20 #[.pointer (some ⟨bs, 0, none⟩), .int .i64 k, .int .i64 v] w fun r w' => r = .returned (.int .i64 (queueS s k v).1) ∧ ∃ t', Star w0 w' (rp bs (queueS s k v).2 t' ++ S) := by
  obtain ⟨t0, t2⟩ := t
  have HU := Lib.hid (fun j => quiet_left (users_ref (h.drewN j) hq))
  obtain ⟨⟨A, c, rfl⟩, -⟩ := rp_rows h
  obtain ⟨k0, -, k2, -⟩ := rp_cells h
  have hul := usersN_le s.q
  unfold queueS
  have HS := Lib.hid h
  obtain ⟨u, eu⟩ : ∃ u, u = usersN s.q := ⟨_, rfl⟩
  rw [← eu] at HU hul ⊢
  by_cases hd : s.d ≤ u
  · rw [if_pos hd]
    have hd' : (s.d : Int) ≤ u := by omega
    have hd2 : decide ((s.d : Int) ≤ u) = true := decide_eq_true hd'
    clear h hd eu
    go_enter Try.func20, Try.ntmps20
    go_wp2
    go_quiet (first | (go_at_call 38; with_reducible exact HU.out _))
    go_wp2
    go_ret
    exact ⟨rfl, _, HS.out.drewN nq⟩
  · rw [if_neg hd]
    have hd' : (u : Int) < s.d := by omega
    have hd2 : decide ((s.d : Int) ≤ u) = false := decide_eq_false (by omega)
    obtain ⟨i0, hi0, hz0, hz1, hz2⟩ := info_parts rk_info
    obtain ⟨n, en⟩ : ∃ n, n = s.q.length := ⟨_, rfl⟩
    have EN := Lib.hid en
    have h1x := t3V_one [⟨k, 0, v⟩]
    have hx1 : t3V [⟨k, 0, v⟩] = [.int .i64 k, .int .i64 0, .int .i64 v] := rfl
    rw [hx1] at h1x
    simp only at k0
    rw [← en] at k0 hq
    have HS0 : Star w0 w (BlkA bs 50 #[.slice A s.q.length c, t2, .int .i64 s.d, .int .i64 s.m] :: RowO 52 3 (.slice A s.q.length c) s.q.length (t3V s.q) :: RowO 58 3 t2 s.ws.length (t3V s.ws) :: S) := h
    rw [← en] at HS0
    have HS1 := Lib.hid HS0
    clear h hd eu en hx1 HS0 HS
    go_enter Try.func20, Try.ntmps20
    go_wp2
    go_quiet (first | (go_at_call 38; with_reducible exact HU.out _))
    have HS2 := Lib.hid (HS1.out.drewN nq)
    go_wp2_with (first
      | (at_builtin; refine wpList_append_so rfl (.tmp 18) (.tmp 22) 47 rfl (HS2.out.alloc _) 1 rfl i0 _ 24 Try.underlying47 hi0 hz0 hz1 hz2 rfl (by omega) (by rfl) _ (some ⟨w.heap.size, 0, none⟩) 1 1 [.int .i64 k, .int .i64 0, .int .i64 v] (by rfl) (reads_fresh_at _ 52 [.int .i64 k, .int .i64 0, .int .i64 v] 1 3 w.heap.size rfl (by simp)) h1x (by simp only [maxLen]; omega) (by omega) ?_
         intro v3 w3 hs3
         simp only [List.cons_append, List.nil_append, List.set_cons_zero, List.set_cons_succ] at hs3
         obtain ⟨A3, c3, rfl⟩ := (hs3.rowO 1 rfl).len
         have hs4 := hs3.setBlk 0 rfl 0 (.slice A3 (n + 1) c3)
         simp only [List.set_cons_zero, List.set_cons_succ] at hs4
         have HS4 := Lib.hid hs4
         have q3 : w3.cell? ⟨bs, 0, none⟩ = some (.slice A n c) := (hs3.blk 0 rfl).cellv rfl
         have q4 := (hs3.blk 0 rfl).frozen 0
         clear hs3 hs4))
    all_goals
      go_ret
      refine ⟨rfl, (.slice A3 (n + 1) c3, t2), ?_⟩
      have hs6 := HS4.out
      have e1 : (s.q ++ [(⟨k, 0, v⟩ : T3)]).length = n + 1 := by rw [List.length_append, ← EN.out]; rfl
      have e2 : t3V (s.q ++ [(⟨k, 0, v⟩ : T3)]) = t3V s.q ++ [.int .i64 k, .int .i64 0, .int .i64 v] := by rw [t3V_app]; rfl
      show Star w0 _ (BlkA bs 50 (rpC (putS s ⟨k, 0, v⟩) (.slice A3 (n + 1) c3, t2)) :: RowO 52 3 (.slice A3 (n + 1) c3) (s.q ++ [(⟨k, 0, v⟩ : T3)]).length (t3V (s.q ++ [(⟨k, 0, v⟩ : T3)])) :: RowO 58 3 t2 s.ws.length (t3V s.ws) :: S)
      rw [e1, e2]
      exact hs6
set_option maxHeartbeats 4000000 in
theorem watch_ref (h : Star w0 w (rp bs s t ++ S)) (hq : s.q.length ≤ 1000) (hw : s.ws.length ≤ 100000) (o k m : Int) : Calls Try.prog 23 #[.pointer (some ⟨bs, 0, none⟩), .int .i64 o, .int .i64 k, .int .i64 m] w fun r w' => r = .returned (.int .i64 (watchS s o k m).1) ∧ ∃ t', Star w0 w' (rp bs (watchS s o k m).2 t' ++ S) := by
  obtain ⟨t0, t2⟩ := t
  unfold watchS
  by_cases h1 : o < 1 ∨ m = 0
  · rw [if_pos h1]
    have HS := Lib.hid h
    clear h hq hw
    by_cases h2 : o < 1
    · clear h1
      go_enter Try.func23, Try.ntmps23
      go_wp2
      go_ret
      exact ⟨rfl, _, HS.out⟩
    · obtain rfl : m = 0 := by omega
      have h3 : 1 ≤ o := by omega
      clear h1 h2
      go_enter Try.func23, Try.ntmps23
      go_wp2
      go_ret
      exact ⟨rfl, _, HS.out⟩
  · rw [if_neg h1]
    have h3 : 1 ≤ o := by omega
    have h4 : (m == 0) = false := beq_eq_false_iff_ne.mpr (by omega)
    have HU := Lib.hid (fun j => quiet_left (users_ref (h.drewN j) hq))
    obtain ⟨⟨A0, c0, rfl⟩, ⟨A, c, rfl⟩⟩ := rp_rows h
    obtain ⟨k0, k1, -, k3⟩ := rp_cells h
    have huo := users_objs s.q
    obtain ⟨n, en⟩ : ∃ n, n = s.ws.length := ⟨_, rfl⟩
    have EN := Lib.hid en
    obtain ⟨q, eq⟩ : ∃ q, q = s.q.length := ⟨_, rfl⟩
    have EQ := Lib.hid eq
    obtain ⟨ob, eb⟩ : ∃ ob, ob = objsN s.q := ⟨_, rfl⟩
    obtain ⟨u, eu⟩ : ∃ u, u = usersN s.q := ⟨_, rfl⟩
    have HS0 : Star w0 w (BlkA bs 50 #[.slice A0 s.q.length c0, .slice A s.ws.length c, .int .i64 s.d, .int .i64 s.m] :: RowO 52 3 (.slice A0 s.q.length c0) s.q.length (t3V s.q) :: RowO 58 3 (.slice A s.ws.length c) s.ws.length (t3V s.ws) :: S) := h
    have HS := Lib.hid h
    simp only at k0 k1 k3
    rw [← en] at k1 hw HS0 ⊢
    rw [← eq] at k0 hq HS0 huo
    rw [← eb] at huo ⊢
    rw [← eu] at HU huo
    have HS1 := Lib.hid HS0
    have b1 : (q : Int) ≤ 1000 := by omega
    have b2 : (n : Int) ≤ 100000 := by omega
    have b3 : (u : Int) ≤ q := by omega
    by_cases h5 : s.m ≤ n + ob
    · rw [if_pos h5]
      have h6 : (s.m : Int) ≤ (n : Int) + q - u := by omega
      have h7 : decide ((s.m : Int) ≤ (n : Int) + q - u) = true := decide_eq_true h6
      clear en eq eb eu h1 h h5 huo HS0 HS1
      go_enter Try.func23, Try.ntmps23
      go_wp2
      go_quiet (first | (go_at_call 38; with_reducible exact HU.out _))
      go_wp2
      go_ret
      exact ⟨rfl, _, HS.out.drewN nq⟩
    · rw [if_neg h5]
      have h6 : (n : Int) + q - u < s.m := by omega
      have h7 : decide ((s.m : Int) ≤ (n : Int) + q - u) = false := decide_eq_false (by omega)
      obtain ⟨i0, hi0, hz0, hz1, hz2⟩ := info_parts rw_info
      have h1x := t3V_one [⟨o, k, m⟩]
      have hx1 : t3V [⟨o, k, m⟩] = [.int .i64 o, .int .i64 k, .int .i64 m] := rfl
      rw [hx1] at h1x
      clear en eq eb eu h1 h h5 huo HS HS0 hx1
      go_enter Try.func23, Try.ntmps23
      go_wp2
      go_quiet (first | (go_at_call 38; with_reducible exact HU.out _))
      have HS2 := Lib.hid (HS1.out.drewN nq)
      go_wp2_with (first
        | (at_builtin; refine wpList_append_so rfl (.tmp 38) (.tmp 43) 48 rfl (HS2.out.alloc _) 2 rfl i0 _ 24 Try.underlying48 hi0 hz0 hz1 hz2 rfl (by omega) (by rfl) _ (some ⟨w.heap.size, 0, none⟩) 1 1 [.int .i64 o, .int .i64 k, .int .i64 m] (by rfl) (reads_fresh_at _ 58 [.int .i64 o, .int .i64 k, .int .i64 m] 1 3 w.heap.size rfl (by simp)) h1x (by simp only [maxLen]; omega) (by omega) ?_
           intro v3 w3 hs3
           simp only [List.cons_append, List.nil_append, List.set_cons_zero, List.set_cons_succ] at hs3
           obtain ⟨A3, c3, rfl⟩ := (hs3.rowO 2 rfl).len
           have hs4 := hs3.setBlk 0 rfl 1 (.slice A3 (n + 1) c3)
           simp only [List.set_cons_zero, List.set_cons_succ] at hs4
           have HS4 := Lib.hid hs4
           have q3 : w3.cell? ⟨bs, 1, none⟩ = some (.slice A n c) := (hs3.blk 0 rfl).cellv rfl
           have q4 := (hs3.blk 0 rfl).frozen 1
           clear hs3 hs4))
      all_goals
        go_ret
        refine ⟨rfl, (.slice A0 q c0, .slice A3 (n + 1) c3), ?_⟩
        have hs6 := HS4.out
        have e1 : (s.ws ++ [(⟨o, k, m⟩ : T3)]).length = n + 1 := by rw [List.length_append, ← EN.out]; rfl
        have e2 : t3V (s.ws ++ [(⟨o, k, m⟩ : T3)]) = t3V s.ws ++ [.int .i64 o, .int .i64 k, .int .i64 m] := by rw [t3V_app]; rfl
        show Star w0 _ (BlkA bs 50 (rpC (addS s ⟨o, k, m⟩) (.slice A0 q c0, .slice A3 (n + 1) c3)) :: RowO 52 3 (.slice A0 q c0) s.q.length (t3V s.q) :: RowO 58 3 (.slice A3 (n + 1) c3) (s.ws ++ [(⟨o, k, m⟩ : T3)]).length (t3V (s.ws ++ [(⟨o, k, m⟩ : T3)])) :: S)
        rw [e1, e2, ← EQ.out]
        exact hs6
end
end Go.Proofs.Ytjkgkoilabbdgaa.Pt
