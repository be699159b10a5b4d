/- The port: Queue, slices.Delete of the first packet. -/
import Derived.Test.YtjkgkoilabbdgaaPtB
namespace Go.Proofs.Ytjkgkoilabbdgaa.Pt
open Go Go.RowKit Go.Proofs.Ytjkgkoilabbdgaa.Mem
set_option linter.unusedVariables false
set_option linter.unusedSimpArgs false
def queueS (s : Po) (k v : Int) : Int × Po := if s.d ≤ usersN s.q then (-22, s) else (0, putS s ⟨k, 0, v⟩)
theorem pk_zero (w : World) : (zeroValue 29).run Try.prog w = .ok (.agg #[.int .i64 0, .int .i64 0, .int .i64 0]) w := by kernel_rfl
theorem wt_zero (w : World) : (zeroValue 67).run Try.prog w = .ok (.agg #[.int .i64 0, .int .i64 0, .int .i64 0]) w := by kernel_rfl
section
variable {w0 w : World} {S : List Asr} {bs : Nat} {s : Po} {t : Value × Value}
set_option maxHeartbeats 1000000 in
theorem queue_any (h : Star w0 w (pt bs s t ++ S)) (hq : s.q.length ≤ 1000) (k v : Int) : Calls Try.prog 10 #[.pointer (some ⟨bs, 0, none⟩), .int .i64 k, .int .i64 v] w fun r w' => r = .returned (.int .i64 (queueS s k v).1) ∧ ∃ t', Star w0 w' (pt bs (queueS s k v).2 t' ++ S) := by
  obtain ⟨-, -, k2, -, k4, -⟩ := pt_cells h
  have HP := Lib.hid (fun n => put_any (h.drewN n) ⟨k, 0, v⟩ hq)
  have HS := Lib.hid h
  unfold t3G at HP
  simp only at HP
  unfold queueS
  by_cases hd : s.d ≤ usersN s.q
  · rw [if_pos hd]
    have hd' : (s.d : Int) ≤ usersN s.q := by omega
    clear h hd
    go_enter Try.func10, Try.ntmps10
    go_wp2
    go_quiet (fail)
    go_wp2
    go_ret
    exact ⟨rfl, _, HS.out.drewN nq⟩
  · rw [if_neg hd]
    have hd' : (usersN s.q : Int) < s.d := by omega
    clear h hd
    go_enter Try.func10, Try.ntmps10
    go_wp2
    go_quiet (fail)
    go_wp2_with (first
      | (go_at_call 27; (with_reducible refine (HP.out _).mono ?_); rintro e w1 ⟨rfl, v1, hs1⟩
         have HS1 := Lib.hid hs1
         clear hs1))
    go_ret
    exact ⟨rfl, _, HS1.out⟩
set_option maxHeartbeats 2000000 in
theorem delete_any {v : Value} {q : List T3} {n : Nat} (h : Star w0 w (RowO 29 3 v n (t3V q) :: S)) (hnq : n = q.length) (h0 : 0 < n) (hn : n ≤ 1048576) : Calls Try.prog 28 #[v, .int .i64 0, .int .i64 1] w fun e w' => ∃ v', e = .returned v' ∧ Star w0 w' (RowO 29 3 v' (n - 1) (t3V q.tail) :: S) := by
  have ho := h.rowO 0 rfl
  obtain ⟨g, off, c, hv, hbg, hgl, hnc⟩ := ho.form h0
  subst hv
  have HS := Lib.hid h
  obtain ⟨p, rfl⟩ : ∃ p, n = p + 1 := ⟨n - 1, by omega⟩
  have hdr : (t3V q).drop (1 * 3) = t3V q.tail := by rw [t3V_drop q 1 (by omega), List.drop_one]
  obtain ⟨A9, hA9, HA9⟩ : ∃ A9 : Option Addr, (if c = 1 then (some ⟨g, off, none⟩ : Option Addr) else some ⟨g, off + 3, none⟩) = A9 ∧ Hid (Reads w.drew w.drew.heap.size 3 A9 p (t3V q.tail)) := ⟨_, rfl, Lib.hid (by
    have := (ho.cut (k := 1) (by omega)).reads.drew
    rw [hdr] at this
    by_cases hcj : c = 1
    · rw [if_pos hcj] at this ⊢
      exact this
    · rw [if_neg hcj] at this ⊢
      simpa [Addr.add_lit] using this)⟩
  obtain ⟨i0, hi0, hz0, hz1, hz2⟩ := info_parts pk_info
  have h1' := t3V_one q.tail
  have e1 : p + 1 ≤ c := hnc
  have e2 : (p : Int) + 1 ≤ c := by omega
  have e3 : (0 : Int) ≤ p := by omega
  have e4 : ¬ c = p := by omega
  have e5 : p ≤ c := by omega
  have e6 : 1 ≤ c := by omega
  have e7 : (1 : Int) ≤ (p : Int) + 1 := by omega
  have e8 : 1 ≤ p + 1 := by omega
  have e9 : p ≤ p + 1 := by omega
  have e10 : (p : Int) ≤ (p : Int) + 1 := by omega
  have e11 : p + (p + 1 - p) ≤ c := by omega
  have HZ := pk_zero
  have hm63 : (p : Int) ≤ 1048576 := by omega
  clear h ho hdr hnq h0
  go_enter Try.func28, Try.ntmps28
  go_wp2
  go_region_law (first
    | (refine step_append_in (by rfl) (.tmp 22) (.tmp 25) 40 (by rfl) (star_dr HS.out) 0 rfl i0 Try.underlying40 hi0 hz1 0 (by omega) (by rfl) _ A9 p _ (t3V q.tail) (by rfl) HA9.out h1' (by omega) ?_
       intro w3 hs3
       simp only [List.set_cons_zero, Nat.zero_add, Nat.zero_mul, List.take_zero, List.nil_append] at hs3
       have HS3 := Lib.hid hs3
       clear hs3))
  all_goals
    go_wp2_with (first
      | (refine wpList_clear_off rfl (.tmp 31) 40 rfl HS3.out 0 rfl (.agg #[.int .i64 0, .int .i64 0, .int .i64 0]) Try.underlying40 HZ rfl (by simp [Value.cells, Value.oneCell']) (off + p * 3) rfl 1 _ rfl e1 ?_
         intro w4 hs4
         have HS4 := Lib.hid hs4
         clear hs4))
    go_ret
    exact ⟨_, rfl, HS4.out⟩
end
end Go.Proofs.Ytjkgkoilabbdgaa.Pt
