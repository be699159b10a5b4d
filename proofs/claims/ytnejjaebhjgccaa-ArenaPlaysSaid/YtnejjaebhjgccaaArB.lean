/- The contract of find. -/
import Derived.Test.YtnejjaebhjgccaaArA
namespace Go.Proofs.Ytnejjaebhjgccaa.Ar
open Go Go.RowKit Go.Proofs.Ytnejjaebhjgccaa.Mem Go.Proofs.Ytnejjaebhjgccaa.Bits
set_option linter.unusedVariables false
set_option linter.unusedSimpArgs false
/-- The slot of an id. -/
def findN (sl : List Sl) (id : Int) : Option Nat :=
  if 0 ≤ id then
    match sl[(id % 65536).toNat]? with
    | some s => if s.tk = true ∧ s.gen = id / 65536 then some (id % 65536).toNat else none
    | none => none
  else none
def findV (sv : Value) : Option Nat → Value
  | some i => .pointer (some ⟨sv.ownBlock.getD 0, i * 3, none⟩)
  | none => .pointer none
set_option maxHeartbeats 2000000 in
theorem find_any {w : World} {B b : Nat} {sl : List Sl} {fr : List Int} {cap cnt : Int} {sv fv : Value} (h : Arn w B b sl fr cap cnt sv fv) (id : Int) :
    Calls Try.prog 31 #[.pointer (some ⟨b, 0, none⟩), .int .i64 id] w fun e w' => e = .returned (findV sv (findN sl id)) ∧ ∃ n, w' = w.drewN n := by
  have H1 := Lib.hid (slot_any id)
  have H2 := Lib.hid (gen_any id)
  have c0 : w.cell? ⟨b, 0, none⟩ = some sv := h.blk.cellv rfl
  by_cases hneg : id < 0
  · rw [show findN sl id = none from if_neg (by omega)]
    clear h
    go_enter Try.func31, Try.ntmps31
    go_wp2
    go_quiet ((first | (go_at_call 16; exact quiet_left (H1.out _)) | (go_at_call 17; exact quiet_left (H2.out _))))
    go_wp2
    go_ret
    exact ⟨rfl, _, rfl⟩
  · have h0 : 0 ≤ id := by omega
    rw [show slotN id = id % 65536 from if_neg hneg] at H1
    rw [show genN id = id / 65536 from if_neg hneg] at H2
    have hf : findN sl id = match sl[(id % 65536).toNat]? with
      | some s => if s.tk = true ∧ s.gen = id / 65536 then some (id % 65536).toNat else none
      | none => none := if_pos h0
    obtain ⟨k, hk⟩ : ∃ k : Nat, id % 65536 = k := ⟨(id % 65536).toNat, by omega⟩
    rw [hk] at H1 hf
    rw [Int.toNat_natCast] at hf
    clear hk
    generalize id / 65536 = gn at *
    by_cases hlt : k < sl.length
    · obtain ⟨g, cp, rfl, hbg, hgl, hnc⟩ := own_form h.slots (by omega)
      obtain ⟨s, hs⟩ : ∃ s, sl[k]? = some s := ⟨_, List.getElem?_eq_getElem hlt⟩
      have hc := fun j hj => (h.slots.cellAt (k * 3 + j) (by omega)).trans (slCs_at sl k j s hs hj)
      have d0 := hc 0 (by omega)
      have d1 := hc 1 (by omega)
      simp only [slC, Nat.add_zero, List.getElem?_cons_zero, List.getElem?_cons_succ] at d0 d1
      rw [hs] at hf
      simp only at hf
      clear hc hs h
      rw [hf]
      clear hf
      obtain ⟨gen, tk, v⟩ := s
      simp only at *
      cases tk
      · rw [if_neg (by simp)]
        go_enter Try.func31, Try.ntmps31
        go_wp2
        go_quiet ((first | (go_at_call 16; exact quiet_left (H1.out _)) | (go_at_call 17; exact quiet_left (H2.out _))))
        go_wp2
        replace c0 : (w.drewN nq).cell? ⟨b, 0, none⟩ = _ := c0
        replace d0 : (w.drewN nq).cell? ⟨g, k * 3, none⟩ = _ := d0
        replace d1 : (w.drewN nq).cell? ⟨g, k * 3 + 1, none⟩ = _ := d1
        generalize hW : w.drewN nq = W1 at *
        have HW := Lib.hid hW
        clear hW
        go_quiet ((first | (go_at_call 16; exact quiet_left (H1.out _)) | (go_at_call 17; exact quiet_left (H2.out _))))
        go_wp2
        replace c0 : (W1.drewN nq).cell? ⟨b, 0, none⟩ = _ := c0
        replace d0 : (W1.drewN nq).cell? ⟨g, k * 3, none⟩ = _ := d0
        replace d1 : (W1.drewN nq).cell? ⟨g, k * 3 + 1, none⟩ = _ := d1
        generalize hW : W1.drewN nq = W2 at *
        have HV := Lib.hid hW
        clear hW
        go_quiet ((first | (go_at_call 16; exact quiet_left (H1.out _)) | (go_at_call 17; exact quiet_left (H2.out _))))
        go_wp2
        go_ret
        exact ⟨rfl, _, by rw [← HV.out, ← HW.out, World.drewN_drewN, World.drewN_drewN]⟩
      · by_cases hg : gen = gn
        · have z1 : (gen == gn) = true := beq_iff_eq.mpr hg
          rw [if_pos ⟨rfl, hg⟩]
          clear hg
          go_enter Try.func31, Try.ntmps31
          go_wp2
          go_quiet ((first | (go_at_call 16; exact quiet_left (H1.out _)) | (go_at_call 17; exact quiet_left (H2.out _))))
          go_wp2
          replace c0 : (w.drewN nq).cell? ⟨b, 0, none⟩ = _ := c0
          replace d0 : (w.drewN nq).cell? ⟨g, k * 3, none⟩ = _ := d0
          replace d1 : (w.drewN nq).cell? ⟨g, k * 3 + 1, none⟩ = _ := d1
          generalize hW : w.drewN nq = W1 at *
          have HW := Lib.hid hW
          clear hW
          go_quiet ((first | (go_at_call 16; exact quiet_left (H1.out _)) | (go_at_call 17; exact quiet_left (H2.out _))))
          go_wp2
          replace c0 : (W1.drewN nq).cell? ⟨b, 0, none⟩ = _ := c0
          replace d0 : (W1.drewN nq).cell? ⟨g, k * 3, none⟩ = _ := d0
          replace d1 : (W1.drewN nq).cell? ⟨g, k * 3 + 1, none⟩ = _ := d1
          generalize hW : W1.drewN nq = W2 at *
          have HV := Lib.hid hW
          clear hW
          go_quiet ((first | (go_at_call 16; exact quiet_left (H1.out _)) | (go_at_call 17; exact quiet_left (H2.out _))))
          go_wp2
          go_ret
          exact ⟨rfl, _, by rw [← HV.out, ← HW.out, World.drewN_drewN, World.drewN_drewN]⟩
        · have z1 : (gen == gn) = false := beq_eq_false_iff_ne.mpr hg
          rw [if_neg (by simpa using hg)]
          clear hg
          go_enter Try.func31, Try.ntmps31
          go_wp2
          go_quiet ((first | (go_at_call 16; exact quiet_left (H1.out _)) | (go_at_call 17; exact quiet_left (H2.out _))))
          go_wp2
          replace c0 : (w.drewN nq).cell? ⟨b, 0, none⟩ = _ := c0
          replace d0 : (w.drewN nq).cell? ⟨g, k * 3, none⟩ = _ := d0
          replace d1 : (w.drewN nq).cell? ⟨g, k * 3 + 1, none⟩ = _ := d1
          generalize hW : w.drewN nq = W1 at *
          have HW := Lib.hid hW
          clear hW
          go_quiet ((first | (go_at_call 16; exact quiet_left (H1.out _)) | (go_at_call 17; exact quiet_left (H2.out _))))
          go_wp2
          replace c0 : (W1.drewN nq).cell? ⟨b, 0, none⟩ = _ := c0
          replace d0 : (W1.drewN nq).cell? ⟨g, k * 3, none⟩ = _ := d0
          replace d1 : (W1.drewN nq).cell? ⟨g, k * 3 + 1, none⟩ = _ := d1
          generalize hW : W1.drewN nq = W2 at *
          have HV := Lib.hid hW
          clear hW
          go_quiet ((first | (go_at_call 16; exact quiet_left (H1.out _)) | (go_at_call 17; exact quiet_left (H2.out _))))
          go_wp2
          go_ret
          exact ⟨rfl, _, by rw [← HV.out, ← HW.out, World.drewN_drewN, World.drewN_drewN]⟩
    · have e : sl[k]? = none := by simp; omega
      rw [e] at hf
      simp only at hf
      rw [hf]
      obtain ⟨A, c, rfl⟩ := own_len h.slots
      clear h hf e
      go_enter Try.func31, Try.ntmps31
      go_wp2
      go_quiet ((first | (go_at_call 16; exact quiet_left (H1.out _)) | (go_at_call 17; exact quiet_left (H2.out _))))
      go_wp2
      go_ret
      exact ⟨rfl, _, rfl⟩
end Go.Proofs.Ytnejjaebhjgccaa.Ar
