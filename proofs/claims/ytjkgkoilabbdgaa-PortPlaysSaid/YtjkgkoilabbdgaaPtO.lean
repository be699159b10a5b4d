/- The port: Packets, Watched; Cancel, Forget, Packets, Watched among other objects. -/
import Derived.Test.YtjkgkoilabbdgaaPtN
import Derived.Test.YtjkgkoilabbdgaaPtJ
namespace Go.Proofs.Ytjkgkoilabbdgaa.Pt
open Go Go.RowKit Go.Proofs.Ytjkgkoilabbdgaa.Mem
set_option linter.unusedVariables false
set_option linter.unusedSimpArgs false
theorem set_same {L : List Asr} {A : Asr} {i : Nat} (hi : L[i]? = some A) : L.set i A = L := by
  obtain ⟨hlt, rfl⟩ := List.getElem?_eq_some_iff.1 hi
  exact List.set_getElem_self _
section
variable {w0 w : World} {S L : List Asr} {bs : Nat} {s : Po} {t : Value × Value}
set_option maxHeartbeats 1000000 in
theorem clone_p {A : Option Addr} {n c B : Nat} {q : List T3} (h : Star w0 w S) (hr : Reads w B 3 A n (t3V q)) (hB : B ≤ w.heap.size) (hn : n ≤ 1048576) : Calls Try.prog 33 #[.slice A n c] w fun e w' => ∃ v, e = .returned v ∧ Star w0 w' (RowO 29 3 v n (t3V q) :: S) := by
  obtain ⟨i0, hi0, hz0, hz1, hz2⟩ := info_parts pk_info
  have h1 := t3V_one q
  cases A with
  | none =>
    have h0 : n = 0 := by
      rcases Nat.eq_zero_or_pos n with h | h
      · exact h
      · obtain ⟨ad, e, _⟩ := hr.2 h
        cases e
    subst h0
    obtain rfl : q = [] := List.eq_nil_of_length_eq_zero (by have := hr.1; rw [t3V_len] at this; omega)
    have HS := Lib.hid (h.nilO 29 3)
    have hnil := fun (w : World) => Lib.run_eql_slice_nil (P := Try.prog) w 40 29 none 0 c 0 0 Try.underlying40
    clear h hr
    go_enter Try.func33, Try.ntmps33
    go_wp2
    go_ret
    exact ⟨_, rfl, HS.out⟩
  | some ad =>
    have hnil := fun (w : World) => Lib.run_eql_slice_nil (P := Try.prog) w 40 29 (some ad) n c 0 0 Try.underlying40
    have h2 : Star w0 (w.alloc (.cells #[] 29)) (RowO 29 3 (.slice (some ⟨w.heap.size, 0, none⟩) 0 0) 0 [] :: S) := (h.newRow (World.ownsRow_made w #[] 0 (Nat.le_refl _) (by simp [maxLen]) rfl) ((Below.refl _ _).alloc (Nat.le_refl _) _)).toO 0 rfl
    have HS := Lib.hid h2
    have HR := Lib.hid (hr.alloc hB (.cells #[] 29))
    clear h hr h2
    go_enter Try.func33, Try.ntmps33
    go_wp2_with (first
      | (at_builtin; refine wpList_append_so rfl (.tmp 5) (.tmp 6) 40 rfl HS.out 0 rfl i0 _ 24 Try.underlying40 hi0 hz0 hz1 hz2 rfl (by omega) rfl _ (some ad) n c (t3V q) rfl HR.out h1 (by simp only [maxLen]; omega) (by omega) ?_
         intro v' w3 hs3
         have HS3 := Lib.hid hs3
         clear hs3))
    go_ret
    refine ⟨_, rfl, ?_⟩
    have := HS3.out
    simp only [List.set_cons_zero, Nat.zero_add, List.nil_append] at this
    exact this
theorem packets_any (h : Star w0 w (pt bs s t ++ S)) (hq : s.q.length ≤ 1000) : Calls Try.prog 15 #[.pointer (some ⟨bs, 0, none⟩)] w fun r w' => ∃ v, r = .returned v ∧ Star w0 w' (RowO 29 3 v s.q.length (t3V s.q) :: pt bs s t ++ S) := by
  obtain ⟨k0, -⟩ := pt_cells h
  obtain ⟨⟨A, c, e⟩, -⟩ := pt_rows h
  have hr := h.readsO 1 (by rw [← e]; rfl)
  have HC := Lib.hid (clone_p (c := c) h hr (Nat.le_refl _) (by omega))
  rw [e] at k0
  generalize s.q.length = n at *
  clear h e hr
  go_enter Try.func15, Try.ntmps15
  go_wp2_with (first
    | (go_at_call 33; (with_reducible refine HC.out.mono ?_); rintro e w1 ⟨v1, rfl, hs1⟩
       have HS1 := Lib.hid hs1
       clear hs1))
  go_ret
  exact ⟨v1, rfl, HS1.out⟩
def watchedN (s : Po) (ob : Int) (k : Nat) : Nat := (s.ws.take k).countP (ofP ob)
theorem watchedN_step {ob : Int} {k : Nat} {x : T3} (hx : s.ws[k]? = some x) : watchedN s ob (k + 1) = watchedN s ob k + (if ofP ob x then 1 else 0) := by
  obtain ⟨hj, e⟩ := List.getElem?_eq_some_iff.1 hx
  unfold watchedN
  rw [List.take_succ_eq_append_getElem hj, List.countP_append, e]
  cases h : ofP ob x <;> simp [h]
set_option maxHeartbeats 1000000 in
theorem watched_any (h : Star w0 w (pt bs s t ++ S)) (hw : s.ws.length ≤ 100000) (ob : Int) : Calls Try.prog 17 #[.pointer (some ⟨bs, 0, none⟩), .int .i64 ob] w fun r w' => r = .returned (.int .i64 (watchedN s ob s.ws.length)) ∧ Star w0 w' (pt bs s t ++ S) := by
  obtain ⟨t0, t2⟩ := t
  obtain ⟨-, ⟨A, c, hv⟩⟩ := pt_rows h
  simp only at hv
  subst hv
  obtain ⟨-, k1, -⟩ := pt_cells h
  simp only at k1
  have HS := Lib.hid h
  obtain ⟨n, en⟩ : ∃ n, n = s.ws.length := ⟨_, rfl⟩
  have EN := Lib.hid en
  rw [← en] at k1 hw ⊢
  have hn' : (n : Int) ≤ 100000 := by omega
  clear h en
  go_enter Try.func17, Try.ntmps17
  go_wp2
  go_loopw [5, 13] (fun v i wr => ∃ k m : Nat, k ≤ n ∧ i = .int .i64 k ∧ v = .int .i64 m ∧ m ≤ k ∧ Hid (m = watchedN s ob k) ∧ Hid (Star w0 wr (pt bs s (t0, .slice A s.ws.length c) ++ S))) (fun _ i _ => n - (intOf i).toNat)
  case atStart => exact ⟨0, 0, by omega, rfl, rfl, by omega, Lib.hid (by simp [watchedN]), HS⟩
  case round =>
    clear HS
    obtain ⟨k, m, hk, rfl, rfl, hmk, HM, HS⟩ := hrel
    by_cases hlt : k < n
    · obtain ⟨x, hx⟩ : ∃ x, s.ws[k]? = some x := ⟨_, List.getElem?_eq_getElem (by rw [← EN.out]; exact hlt)⟩
      have ho := HS.out.rowO 2 rfl
      simp only at ho
      obtain ⟨g, off, cp, hv, hbg, hgl, hnc⟩ := ho.form (by rw [← EN.out]; omega)
      simp only [Value.slice.injEq, true_and] at hv
      obtain ⟨rfl, rfl⟩ := hv
      obtain ⟨r0, r1, r2⟩ := at3 ho rfl hx
      have hltz : (k : Int) < n := by omega
      have e := watchedN_step (ob := ob) hx
      rw [← HM.out] at e
      unfold ofP at e
      have hmz : (m : Int) ≤ 100000 := by omega
      clear hx ho
      by_cases hq : x.a = ob
      · have hq' : (x.a == ob) = true := beq_iff_eq.mpr hq
        rw [hq'] at e
        simp only [if_true] at e
        have E := Lib.hid e
        clear hq e
        go_wp2
        go_roundw
        case rel => exact ⟨k + 1, m + 1, by omega, by go_num, by go_num, by omega, Lib.hid E.out.symm, Lib.hid (HS.out.alloc _)⟩
        case measure => simp [intOf]; omega
      · have hq' : (x.a == ob) = false := beq_eq_false_iff_ne.mpr hq
        rw [hq'] at e
        simp only [Bool.false_eq_true, if_false, Nat.add_zero] at e
        have E := Lib.hid e
        clear hq e
        go_wp2
        go_roundw
        case rel => exact ⟨k + 1, m, by omega, by go_num, rfl, by omega, Lib.hid E.out.symm, Lib.hid (HS.out.alloc _)⟩
        case measure => simp [intOf]; omega
    · have hltz : ¬ (k : Int) < n := by omega
      obtain rfl : k = n := by omega
      clear hlt
      go_wp2
      go_ret
      refine ⟨by rw [← HM.out]; rfl, ?_⟩
      rw [EN.out]
      exact HS.out
theorem packets_st (h : Star w0 w L) (i : Nat) (hi : L[i]? = some (PtA bs s)) (hq : s.q.length ≤ 1000) : Calls Try.prog 15 #[.pointer (some ⟨bs, 0, none⟩)] w fun r w' => ∃ v, r = .returned v ∧ Star w0 w' (RowO 29 3 v s.q.length (t3V s.q) :: L) := by
  refine (ex_call (Q' := pt bs s) (R := fun r N => ∃ v, r = .returned v ∧ N = [RowO 29 3 v s.q.length (t3V s.q)]) h i hi fun t S hS => ?_).mono ?_
  · refine (packets_any hS hq).mono ?_
    rintro r w1 ⟨v, rfl, hs⟩
    exact ⟨_, t, ⟨v, rfl, rfl⟩, hs⟩
  · rintro r w1 ⟨N, ⟨v, rfl, rfl⟩, hs⟩
    refine ⟨v, rfl, ?_⟩
    rw [set_same hi] at hs
    exact hs
theorem watched_st (h : Star w0 w L) (i : Nat) (hi : L[i]? = some (PtA bs s)) (hw : s.ws.length ≤ 100000) (ob : Int) : Calls Try.prog 17 #[.pointer (some ⟨bs, 0, none⟩), .int .i64 ob] w fun r w' => r = .returned (.int .i64 (watchedN s ob s.ws.length)) ∧ Star w0 w' L := by
  refine (ex_call (Q' := pt bs s) (R := fun r N => r = .returned (.int .i64 (watchedN s ob s.ws.length)) ∧ N = []) h i hi fun t S hS => ?_).mono ?_
  · refine (watched_any hS hw ob).mono ?_
    rintro r w1 ⟨rfl, hs⟩
    exact ⟨[], t, ⟨rfl, rfl⟩, hs⟩
  · rintro r w1 ⟨N, ⟨rfl, rfl⟩, hs⟩
    refine ⟨rfl, ?_⟩
    rw [set_same hi] at hs
    exact hs
theorem cancel_st (h : Star w0 w L) (i : Nat) (hi : L[i]? = some (PtA bs s)) (hq : s.q.length ≤ 1000) (hw : s.ws.length ≤ 100000) (ob ky : Int) : Calls Try.prog 18 #[.pointer (some ⟨bs, 0, none⟩), .int .i64 ob, .int .i64 ky] w fun r w' => r = .returned (.int .i64 (cancelS s ob ky).1) ∧ Star w0 w' (L.set i (PtA bs (cancelS s ob ky).2)) := by
  refine (ex_call (Q' := pt bs (cancelS s ob ky).2) (R := fun r N => r = .returned (.int .i64 (cancelS s ob ky).1) ∧ N = []) h i hi fun t S hS => ?_).mono ?_
  · refine (cancel_any hS hq hw ob ky).mono ?_
    rintro r w1 ⟨rfl, t', hs⟩
    exact ⟨[], t', ⟨rfl, rfl⟩, hs⟩
  · rintro r w1 ⟨N, ⟨rfl, rfl⟩, hs⟩
    exact ⟨rfl, hs⟩
theorem forget_st (h : Star w0 w L) (i : Nat) (hi : L[i]? = some (PtA bs s)) (hw : s.ws.length ≤ 100000) (ob : Int) : Calls Try.prog 19 #[.pointer (some ⟨bs, 0, none⟩), .int .i64 ob] w fun r w' => r = .returned (.int .i64 (forgetS s ob).1) ∧ Star w0 w' (L.set i (PtA bs (forgetS s ob).2)) := by
  refine (ex_call (Q' := pt bs (forgetS s ob).2) (R := fun r N => r = .returned (.int .i64 (forgetS s ob).1) ∧ N = []) h i hi fun t S hS => ?_).mono ?_
  · refine (forget_any hS hw ob).mono ?_
    rintro r w1 ⟨rfl, t', hs⟩
    exact ⟨[], t', ⟨rfl, rfl⟩, hs⟩
  · rintro r w1 ⟨N, ⟨rfl, rfl⟩, hs⟩
    exact ⟨rfl, hs⟩
end
end Go.Proofs.Ytjkgkoilabbdgaa.Pt
