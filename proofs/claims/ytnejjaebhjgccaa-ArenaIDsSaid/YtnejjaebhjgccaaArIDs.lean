/- The walk of ArenaIDs. -/
import Derived.Test.YtnejjaebhjgccaaArJ
namespace Go.Proofs.Ytnejjaebhjgccaa.Ar
open Go Go.RowKit Go.Proofs.Ytnejjaebhjgccaa.Mem Go.Proofs.Ytnejjaebhjgccaa.Bits
set_option linter.unusedVariables false
set_option linter.unusedSimpArgs false
theorem wf_range {a : Int} (h : (Lit.int .i64 a).wf = true) : -9223372036854775808 ≤ a ∧ a ≤ 9223372036854775807 := by
  simp [Lit.wf, IntKind.min, IntKind.max, IntKind.signed, IntKind.bits] at h
  omega
def sI (i : Nat) : List Sl := if i = 0 then [] else [⟨i, false, 0⟩]
def fI (i : Nat) : List Nat := if i = 0 then [] else [0]
theorem goodI (i : Nat) : Good i (sI i) (fI i) 3 := by
  unfold sI fI
  by_cases h : i = 0
  · subst h
    exact ⟨by simp, by simp, by omega, by simp, by simp, by simp⟩
  · rw [if_neg h, if_neg h]
    exact ⟨by simp, by simp, by omega, by simp, by simp, by simp⟩
theorem allocI (i : Nat) (v : Int) : allocS (sI i) (fI i) 3 v = (((i : Int) + 1) * 65536, 0, [⟨(i : Int) + 1, true, v⟩], []) := by
  unfold sI fI allocS
  by_cases h : i = 0
  · subst h
    simp
  · rw [if_neg h, if_neg h]
    simp
theorem findI (i : Nat) (v : Int) : findN [⟨(i : Int) + 1, true, v⟩] (((i : Int) + 1) * 65536) = some 0 := by
  unfold findN
  rw [if_pos (by omega), show ((((i : Int) + 1) * 65536) % 65536).toNat = 0 by omega]
  simp
theorem freeI (i : Nat) (v : Int) : freeS [⟨(i : Int) + 1, true, v⟩] [] (((i : Int) + 1) * 65536) = (0, sI (i + 1), fI (i + 1)) := by
  unfold freeS
  rw [findI]
  simp [sI, fI]
theorem noneI (i : Nat) (id : Int) : findN (sI i) id = none := by
  unfold findN sI
  split
  · split
    · rename_i s hs
      split
      · rename_i h2
        split at hs
        · simp at hs
        · have := List.mem_of_getElem? hs
          simp at this
          subst this
          simp at h2
      · rfl
    · rfl
  · rfl
theorem freeNI (i : Nat) (id : Int) : freeS (sI i) (fI i) id = (-25, sI i, fI i) := by
  unfold freeS
  rw [noneI]
theorem cntI (i : Nat) : cntN (sI i) = 0 := by
  unfold sI
  split <;> simp [cntN]
theorem goodA (i : Nat) (v : Int) : Good (i + 1) [⟨(i : Int) + 1, true, v⟩] [] 3 := by
  have := (goodI i).alloc v
  rwa [allocI] at this
set_option maxHeartbeats 2000000 in
theorem ids_walk (id n : Int) (hid : (Lit.int .i64 id).wf = true) (w : World) : Calls Try.prog 6 #[.int .i64 id, .int .i64 n] w fun e w' => e = .returned (.bool true) ∧ Below w.heap.size w w' := by
  have HA := Lib.hid awake_any
  have HS := Lib.hid slot_any
  have HG := Lib.hid gen_any
  by_cases h0 : id < 0
  · have e1 : slotN id = -1 := if_pos h0
    have e2 : genN id = -1 := if_pos h0
    have HS1 := Lib.hid (HS.out id)
    have HG1 := Lib.hid (HG.out id)
    rw [e1] at HS1
    rw [e2] at HG1
    clear HS HG e1 e2
    go_enter Try.func6, Try.ntmps6
    go_wp2_with (first
      | (go_at_call 16; (with_reducible refine (HS1.out _).mono ?_); rintro e w1 ⟨rfl, rfl⟩)
      | (go_at_call 17; (with_reducible refine (HG1.out _).mono ?_); rintro e w1 ⟨rfl, rfl⟩)
      | (go_at_call 10; (with_reducible refine (HA.out _).mono ?_); rintro e w2 ⟨rfl, hb2⟩))
    go_ret
    exact ⟨rfl, hb2⟩
  · have e1 : slotN id = id % 65536 := if_neg h0
    have e2 : genN id = id / 65536 := if_neg h0
    have HS1 := Lib.hid (HS.out id)
    have HG1 := Lib.hid (HG.out id)
    rw [e1] at HS1
    rw [e2] at HG1
    have hx : id / 65536 * 65536 + id % 65536 = id := by omega
    have hm0 : 0 ≤ id % 65536 := by omega
    have hm1 : id % 65536 < 65536 := by omega
    have hd0 : 0 ≤ id / 65536 := by omega
    have hd1 : id / 65536 ≤ 140737488355328 := by
      have := (wf_range hid).2
      omega
    generalize id % 65536 = md at *
    generalize id / 65536 = dv at *
    clear e1 e2
    have hw1 : wrap64 (dv * 65536) = dv * 65536 := by have := wf_range hid; unfold wrap64; omega
    have hw2 : wrap64 (dv * 65536 + md) = dv * 65536 + md := by have := wf_range hid; unfold wrap64; omega
    have z1 : (wrap64 (wrap64 (dv * 65536) + md) != id) = false := by rw [hw1, hw2, hx]; simp
    clear hw1 hw2 hx
    have HNew := Lib.hid (new_az 3 (by decide) (by decide) w w.heap.size (Nat.le_refl _))
    by_cases hn : n < 0 ∨ 20 < n
    · rcases hn with hn | hn
      all_goals
        go_enter Try.func6, Try.ntmps6
        go_wp2_with (first
          | (go_at_call 16; (with_reducible refine (HS1.out _).mono ?_); rintro e w1 ⟨rfl, rfl⟩)
          | (go_at_call 17; (with_reducible refine (HG1.out _).mono ?_); rintro e w1 ⟨rfl, rfl⟩)
          | (go_at_call 9; (with_reducible refine HNew.out.mono ?_); rintro e w1 ⟨rfl, ha1, hb1⟩)
          | (go_at_call 10; (with_reducible refine (HA.out _).mono ?_); rintro e w2 ⟨rfl, hb2⟩))
        go_ret
        exact ⟨rfl, hb1.trans (hb2.mono hb1.size)⟩
    · obtain ⟨N, rfl, hN⟩ : ∃ N : Nat, n = N ∧ N ≤ 20 := ⟨n.toNat, by omega, by omega⟩
      clear hn
      go_enter Try.func6, Try.ntmps6
      go_wp2_with (first
        | (go_at_call 16; (with_reducible refine (HS1.out _).mono ?_); rintro e w1 ⟨rfl, rfl⟩)
        | (go_at_call 17; (with_reducible refine (HG1.out _).mono ?_); rintro e w1 ⟨rfl, rfl⟩)
        | (go_at_call 9; (with_reducible refine HNew.out.mono ?_); rintro e w1 ⟨rfl, ha1, hb1⟩))
      go_loopw [57] (fun i wr => ∃ (k : Nat) (F : Blocks), k ≤ N ∧ i = .int .i64 k ∧ Hid (Az wr w.heap.size w.heap.size F (sI k) (fI k) 3) ∧ Hid (Below w.heap.size w wr)) (fun i _ => N - (intOf i).toNat)
      case atStart => exact ⟨0, _, by omega, rfl, Lib.hid ha1, Lib.hid hb1⟩
      case round =>
        obtain ⟨k, F, hk, rfl, HAz, HB⟩ := hrel
        by_cases hlt : k < N
        · have hAl := alloc_az HAz.out (goodI k) (by omega) HB.out.size k
          rw [allocI] at hAl
          have HAl := Lib.hid hAl
          have hgk := HG.out (((k : Int) + 1) * 65536)
          have hsk := HS.out (((k : Int) + 1) * 65536)
          rw [show genN (((k : Int) + 1) * 65536) = (k : Int) + 1 by unfold genN; rw [if_neg (by omega)]; omega] at hgk
          rw [show slotN (((k : Int) + 1) * 65536) = 0 by unfold slotN; rw [if_neg (by omega)]; omega] at hsk
          have HGk := Lib.hid hgk
          have HSk := Lib.hid hsk
          have HFr := Lib.hid (fun (W : World) (F : Blocks) (h : Az W w.heap.size w.heap.size F [⟨(k : Int) + 1, true, k⟩] [] 3) (hs : w.heap.size ≤ W.heap.size) => freeI k k ▸ free_az h (goodA k k) (by omega) hs (((k : Int) + 1) * 65536))
          clear hAl hgk hsk
          have hq1 : ((k : Int) + 1) * 65536 ≤ 1376256 := by omega
          have hq0 : 0 ≤ ((k : Int) + 1) * 65536 := by omega
          simp only [freeI] at HFr
          generalize ((k : Int) + 1) * 65536 = q at *
          go_wp2_with (first
            | (go_at_call 11; (with_reducible refine HAl.out.mono ?_); rintro e w2 ⟨rfl, F2, hA2, hU2, hN2⟩
               have hB2 := below_upd HB.out hU2 HAz.out.in_ (Nat.le_refl _)
               have HFr2 := Lib.hid (HFr.out w2 F2 hA2 hB2.size))
            | (go_at_call 17; (with_reducible refine (HGk.out _).mono ?_); rintro e w3 ⟨rfl, rfl⟩)
            | (go_at_call 16; (with_reducible refine (HSk.out _).mono ?_); rintro e w3 ⟨rfl, rfl⟩)
            | (go_at_call 15; (with_reducible refine HFr2.out.mono ?_); rintro e w4 ⟨rfl, F4, hA4, hU4, hN4⟩))
          go_roundw
          case rel => exact ⟨k + 1, F4, by omega, by go_num, Lib.hid hA4, Lib.hid (below_upd hB2 hU4 hA2.in_ (Nat.le_refl _))⟩
          case measure => simp [intOf]; omega
        · have hHs := has_az HAz.out id
          rw [noneI] at hHs
          have HHs := Lib.hid hHs
          have HFr := Lib.hid (fun (m : Nat) => freeNI k id ▸ free_az (HAz.out.drewN m) (goodI k) (by omega) (show w.heap.size ≤ (wr.drewN m).heap.size from HB.out.size) id)
          simp only [freeNI] at HFr
          clear hHs
          go_wp2_with (first
            | (go_at_call 18; (with_reducible refine HHs.out.mono ?_); rintro e w2 ⟨rfl, m, rfl⟩)
            | (go_at_call 15; (with_reducible refine (HFr.out m).mono ?_); rintro e w4 ⟨rfl, F4, hA4, hU4, hN4⟩
               have hC := count_az hA4
               rw [cntI] at hC
               have HC := Lib.hid hC
               have hB4 := below_upd (below_drewN HB.out m) hU4 (HAz.out.drewN m).in_ (Nat.le_refl _))
            | (go_at_call 14; (with_reducible refine HC.out.mono ?_); rintro e w5 ⟨rfl, rfl⟩)
            | (go_at_call 10; (with_reducible refine (HA.out _).mono ?_); rintro e w6 ⟨rfl, hb6⟩))
          go_ret
          exact ⟨rfl, hB4.trans (hb6.mono hB4.size)⟩
end Go.Proofs.Ytnejjaebhjgccaa.Ar
