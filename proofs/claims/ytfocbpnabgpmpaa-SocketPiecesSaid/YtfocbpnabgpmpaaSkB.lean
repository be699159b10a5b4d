/- Copy, Same, bytes.Clone, slices.Delete on bytes. -/
import Derived.Test.YtfocbpnabgpmpaaSkA
namespace Go.Proofs.Ytfocbpnabgpmpaa.Sk
open Go Go.RowKit Go.Proofs.Ytfocbpnabgpmpaa.Mem
set_option linter.unusedVariables false
set_option linter.unusedSimpArgs false
theorem star_dr {w0 w : World} {L : List Asr} (h : Star w0 w L) : Star w0 w.drew L := h.drewN 1
section
variable {w0 w : World} {S : List Asr}
set_option maxHeartbeats 1000000 in
theorem copy_any {A : Option Addr} {n c B : Nat} {d : List UInt8} (h : Star w0 w S) (hr : Reads w B 1 A n (bytesV d)) (hn : n ≤ 16777216) : Calls Try.prog 16 #[.slice A n c] w fun e w' => ∃ v, e = .returned v ∧ Star w0 w' (RowA 5 1 v n (bytesV d) :: S) := by
  obtain ⟨i0, hi0, hz0, hz1, hz2⟩ := info_parts by_info
  have HS := Lib.hid h
  have HR := Lib.hid hr
  have h1 := bytesV_one d
  clear h hr
  go_enter Try.func16, Try.ntmps16
  go_wp2_with (first
    | (at_builtin; refine wpList_append_st rfl (.tmp 4) (.tmp 5) 27 rfl (HS.out.nilRow 5 1) 0 rfl i0 _ 1 Try.underlying27 hi0 hz0 hz1 hz2 rfl (by omega) rfl _ A n c (bytesV d) rfl HR.out h1 (by simp only [maxLen]; omega) (by omega) ?_
       intro v' w3 hs3
       have HS3 := Lib.hid hs3
       clear hs3))
  go_ret
  refine ⟨_, rfl, ?_⟩
  have := HS3.out
  simp only [List.set_cons_zero, Nat.zero_add, List.nil_append] at this
  exact this
set_option maxHeartbeats 1000000 in
theorem clone_any {A : Option Addr} {n c B : Nat} {d : List UInt8} (h : Star w0 w S) (hr : Reads w B 1 A n (bytesV d)) (hB : B ≤ w.heap.size) (hn : n ≤ 16777216) : Calls Try.prog 30 #[.slice A n c] w fun e w' => ∃ v, e = .returned v ∧ Star w0 w' (RowA 5 1 v n (bytesV d) :: S) := by
  obtain ⟨i0, hi0, hz0, hz1, hz2⟩ := info_parts by_info
  have h1 := bytesV_one d
  cases A with
  | none =>
    have h0 : n = 0 := by
      rcases Nat.eq_zero_or_pos n with h | h
      · exact h
      · obtain ⟨ad, e, _⟩ := hr.2 h
        cases e
    subst h0
    obtain rfl : d = [] := List.eq_nil_of_length_eq_zero (by have := hr.1; rw [bytesV_len] at this; omega)
    have HS := Lib.hid (h.nilRow 5 1)
    have hnil := fun (w : World) => Lib.run_eql_slice_nil (P := Try.prog) w 27 5 none 0 c 0 0 Try.underlying27
    clear h hr
    go_enter Try.func30, Try.ntmps30
    go_wp2
    go_ret
    exact ⟨_, rfl, HS.out⟩
  | some ad =>
    have hnil := fun (w : World) => Lib.run_eql_slice_nil (P := Try.prog) w 27 5 (some ad) n c 0 0 Try.underlying27
    have h2 : Star w0 (w.alloc (.cells #[] 5)) (RowA 5 1 (.slice (some ⟨w.heap.size, 0, none⟩) 0 0) 0 [] :: S) := h.newRow (World.ownsRow_made w #[] 0 (Nat.le_refl _) (by simp [maxLen]) rfl) ((Below.refl _ _).alloc (Nat.le_refl _) _)
    have HS := Lib.hid h2
    have HR := Lib.hid (hr.alloc hB (.cells #[] 5))
    clear h hr h2
    go_enter Try.func30, Try.ntmps30
    go_wp2_with (first
      | (at_builtin; refine wpList_append_st rfl (.tmp 5) (.tmp 6) 27 rfl HS.out 0 rfl i0 _ 1 Try.underlying27 hi0 hz0 hz1 hz2 rfl (by omega) rfl _ (some ad) n c (bytesV d) rfl HR.out h1 (by simp only [maxLen]; omega) (by omega) ?_
         intro v' w3 hs3
         have HS3 := Lib.hid hs3
         clear hs3))
    go_ret
    refine ⟨_, rfl, ?_⟩
    have := HS3.out
    simp only [List.set_cons_zero, Nat.zero_add, List.nil_append] at this
    exact this
end
theorem conv_bytes {A : Option Addr} {n c B : Nat} {l : List UInt8} {w : World} (hr : Reads w B 1 A n (bytesV l)) : (convert 27 9 (.slice A n c)).run Try.prog w = .ok (.string ⟨l.toArray⟩) w := by
  have hl : l.length = n := by have := hr.1; rw [bytesV_len] at this; omega
  cases A with
  | none =>
    have h0 : n = 0 := by
      rcases Nat.eq_zero_or_pos n with h | h
      · exact h
      · obtain ⟨ad, e, _⟩ := hr.2 h
        cases e
    subst h0
    obtain rfl : l = [] := List.eq_nil_of_length_eq_zero hl
    exact Lib.run_convert_nil_bytes w 27 9 5 c Try.underlying27 Try.underlying5 Try.underlying9
  | some a =>
    subst hl
    refine run_convert_bytes_back w 27 9 5 a c l Try.underlying27 Try.underlying5 Try.underlying9 fun j hj => ?_
    obtain ⟨ad, e, _, hc⟩ := hr.2 (by omega)
    injection e with e
    subst e
    exact hc j _ (by simp [bytesV, byteV, hj])
set_option maxHeartbeats 1000000 in
theorem same_any {A A' : Option Addr} {n n' c c' B B' : Nat} {l l' : List UInt8} {w : World} (hr : Reads w B 1 A n (bytesV l)) (hr' : Reads w B' 1 A' n' (bytesV l')) : Calls Try.prog 12 #[.slice A n c, .slice A' n' c'] w fun e w' => e = .returned (.bool (decide (l = l'))) ∧ w = w' := by
  have h1 := conv_bytes (c := c) hr
  have h2 := conv_bytes (c := c') hr'
  clear hr hr'
  have HE := Lib.hid (show ((ByteArray.mk l.toArray).toList == (ByteArray.mk l'.toArray).toList) = decide (l = l') by rw [Lib.toList_data, Lib.toList_data, Bool.eq_iff_iff]; simp)
  generalize ByteArray.mk l.toArray = s1 at *
  generalize ByteArray.mk l'.toArray = s2 at *
  go_enter Try.func12, Try.ntmps12
  go_wp2
  go_ret
  exact ⟨by rw [← HE.out]; rfl, rfl⟩
section
variable {w0 w : World} {S : List Asr}
set_option maxHeartbeats 2000000 in
theorem delete_any {v : Value} {n : Nat} {xs : List Value} (h : Star w0 w (RowO 5 1 v n xs :: S)) (h1 : ∀ u ∈ xs, u.oneCell' = true) (i j : Nat) (hij : i ≤ j) (hjn : j ≤ n) (hn : n ≤ 1099511627776) : Calls Try.prog 31 #[v, .int .i64 i, .int .i64 j] w fun e w' => ∃ v', e = .returned v' ∧ Star w0 w' (RowO 5 1 v' (n - (j - i)) (xs.take i ++ xs.drop j) :: S) := by
  obtain ⟨A, c, rfl⟩ := (h.rowO 0 rfl).len
  have ho := h.rowO 0 rfl
  have HS := Lib.hid h
  have hi0' : (0 : Int) ≤ i := by omega
  have hij' : (i : Int) ≤ j := by omega
  have hjn' : (j : Int) ≤ n := by omega
  by_cases he : i = j
  · subst he
    have hnc : A = none ∨ n ≤ c := by
      rcases ho.2 with ⟨h', h0⟩ | ⟨g, off, cap, cur, h', hb, hg, hnc, _⟩
      · simp only [Value.slice.injEq] at h'
        exact .inl h'.1
      · simp only [Value.slice.injEq, true_and] at h'
        obtain ⟨rfl, rfl⟩ := h'
        exact .inr hnc
    have hnc2 : n ≤ c := by
      rcases hnc with h2 | h2
      · rcases ho.2 with ⟨h', h0⟩ | ⟨g, off, cap, cur, h', hb, hg, hnc, _⟩
        · omega
        · simp only [Value.slice.injEq, true_and] at h'
          obtain ⟨rfl, rfl⟩ := h'
          cases h2
      · exact h2
    have hnc' : (n : Int) ≤ c := by omega
    clear h ho hnc
    by_cases hni : n = i
    · subst hni
      go_enter Try.func31, Try.ntmps31
      go_wp2
      all_goals
        go_ret
        exact ⟨_, rfl, by simpa using HS.out⟩
    · go_enter Try.func31, Try.ntmps31
      go_wp2
      all_goals
        go_ret
        exact ⟨_, rfl, by simpa using HS.out⟩
  · obtain ⟨g, off, cp, hv, hbg, hgl, hnc⟩ := ho.form (by omega)
    simp only [Value.slice.injEq, true_and] at hv
    obtain ⟨rfl, rfl⟩ := hv
    have hnc' : (n : Int) ≤ c := by omega
    have hlt : (i : Int) < j := by omega
    obtain ⟨i0, hi0, hz0, hz1, hz2⟩ := info_parts by_info
    obtain ⟨A9, hA9, HA9⟩ : ∃ A9 : Option Addr, (if c = j then (some ⟨g, off, none⟩ : Option Addr) else some ⟨g, off + j, none⟩) = A9 ∧ Hid (Reads w.drew w.drew.heap.size 1 A9 (n - j) (xs.drop j)) := ⟨_, rfl, Lib.hid (by
      have := (ho.cut hjn).reads.drew
      rw [Nat.mul_one] at this
      by_cases hcj : c = j
      · rw [if_pos hcj] at this ⊢
        exact this
      · rw [if_neg hcj] at this ⊢
        simpa [Addr.add_lit] using this)⟩
    have h1' : ∀ u ∈ xs.drop j, u.oneCell' = true := fun u hu => h1 u (List.mem_of_mem_drop hu)
    have hmn2 : i + (n - j) < n := by omega
    have hmc : ¬ c = i + (n - j) := by omega
    have hroom : i + (n - j) ≤ c := by omega
    have hic : i ≤ c := by omega
    have hjc : j ≤ c := by omega
    have hij2 : i ≤ n := by omega
    have hin : i ≤ n := by omega
    have hmn3 : (i : Int) + (n - j : Nat) ≤ n := by omega
    have hm0 : (0 : Int) ≤ (i : Int) + (n - j : Nat) := by omega
    have hms : i + (n - j) + (n - (i + (n - j))) ≤ c := by omega
    have HZ := by_zero
    have HMS := Lib.hid (show n - (j - i) = i + (n - j) by omega)
    clear h ho h1
    go_enter Try.func31, Try.ntmps31
    go_wp2
    go_region_law (first
      | (refine step_append_in (by rfl) (.tmp 22) (.tmp 25) 27 (by rfl) (star_dr HS.out) 0 rfl i0 Try.underlying27 hi0 hz1 i hin (by rfl) _ A9 (n - j) _ (xs.drop j) (by rfl) HA9.out h1' hroom ?_
         intro w3 hs3
         have HS3 := Lib.hid hs3
         clear hs3))
    all_goals
      go_wp2_with (first
        | (refine wpList_clear_off rfl (.tmp 31) 27 rfl HS3.out 0 rfl (.int .u8 0) Try.underlying27 HZ rfl (by simp [Value.cells, Value.oneCell']) (off + (i + (n - j))) (by rw [Nat.mul_one]) (n - (i + (n - j))) _ rfl hms ?_
           intro w4 hs4
           have HS4 := Lib.hid hs4
           clear hs4))
      go_ret
      exact ⟨_, rfl, by rw [HMS.out]; simpa using HS4.out⟩
end
end Go.Proofs.Ytfocbpnabgpmpaa.Sk
