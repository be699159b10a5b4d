/- FifoOwn: what is handed in may be written over, and what is told, too: elements that wait stay as they were. For all sizes and all bytes. -/
import Derived.Test.YtaiggfoeobehlaaFfEnds
import Derived.Test.YtaiggfoeobehlaaArgsB
namespace Go.Proofs.Ytaiggfoeobehlaa.Mem
open Go Go.RowKit
theorem Star.headO {w0 w : World} {L : List Asr} {e : TypeId} {size n c k : Nat} {A : Option Addr} {xs : List Value} (h : Star w0 w L) (i : Nat) (hi : L[i]? = some (RowO e size (.slice A n c) n xs)) (hk : k ≤ n) : Star w0 w (L.set i (RowO e size (.slice A k c) k (xs.take (k * size)))) := by
  obtain ⟨F, ⟨ha, hF⟩, hin, hkp⟩ := h.at_ i hi
  subst hF
  refine hkp inferInstance ⟨ha.head hk, rfl⟩ (Upd.refl _ _) ?_
  intro j hj
  exact .inl (by cases A <;> exact hj)
end Go.Proofs.Ytaiggfoeobehlaa.Mem
namespace Go.Proofs.Ytaiggfoeobehlaa.Ff
open Go Go.RowKit Go.Shelf Go.Proofs.Ytaiggfoeobehlaa.Mem
set_option linter.unusedVariables false
set_option linter.unusedSimpArgs false
def OW (z : Nat) (b : List UInt8) (k : Nat) : Fo := ⟨false, false, [], List.replicate k b, 4, z⟩
theorem own_w {z k : Nat} {b : List UInt8} (hz : 1 ≤ z) (hb : b.length = z) (hk : k < 3) : writeO (OW z b k) 0 b = ((1, 0), OW z b (k + 1)) := by
  have hc : chunk b z 0 = b := by
    unfold chunk
    rw [Nat.zero_mul, List.drop_zero, List.take_of_length_le (by omega)]
  have hm : min 1 (4 - k) = 1 := by omega
  have h1 : List.replicate k b ++ (List.range 1).map (chunk b z) = List.replicate (k + 1) b := by
    rw [List.replicate_succ']
    simp [hc]
  unfold writeO
  rw [show checkO (OW z b k) 0 = 0 from rfl, if_neg (by simp), show (OW z b k).z = z from rfl, hb, if_neg (by rw [Nat.mod_self]; omega), show toC (OW z b k) 0 = false from rfl, if_neg (by simp), show toE (OW z b k) 0 = List.replicate k b from rfl, show (OW z b k).n = 4 from rfl, List.length_replicate, if_neg (by omega), Nat.div_self (by omega), hm, h1]
  rfl
theorem own_r {z k : Nat} {b : List UInt8} : readO (OW z b (k + 1)) 1 1 = ((b, 0), OW z b k) := by
  have hm : min (1 : Int).toNat (k + 1) = 1 := by
    show min 1 (k + 1) = 1
    omega
  unfold readO
  rw [show checkO (OW z b (k + 1)) 1 = 0 from rfl, if_neg (by simp), if_neg (by omega), show atE (OW z b (k + 1)) 1 = List.replicate (k + 1) b from rfl, List.length_replicate, if_neg (by omega), hm, List.replicate_succ]
  simp
  rfl
theorem ok4 {z : Int} : okN 4 z = decide (1 ≤ z ∧ z ≤ 64) := by
  unfold okN
  rw [show pow10 (4 : Int).toNat = true by decide, Bool.and_true, decide_eq_decide]
  omega
theorem by_byU (l : List UInt8) : l.map byteU = byV l := rfl
set_option maxHeartbeats 4000000 in
theorem own_no (a : Int) (A : Option Addr) (m c : Nat) (h : okN 4 a = false ∨ (m : Int) ≠ a) (w : World) :
    Calls Try.prog 4 #[.int .i64 a, .slice A m c] w fun r w' => r = .returned (.bool true) ∧ Below w.heap.size w w' := by
  have HA := Lib.hid awake_any
  by_cases hok : okN 4 a = true
  · have h2 : (m : Int) ≠ a := by
      rcases h with h | h
      · rw [hok] at h
        cases h
      · exact h
    have hz := hok
    rw [ok4, decide_eq_true_eq] at hz
    obtain ⟨z, rfl⟩ : ∃ z : Nat, a = z := ⟨a.toNat, by omega⟩
    have hN := new_st (Star.nil w) 4 z hok
    rw [show ((4 : Nat) : Int) = 4 from rfl] at hN
    have HN := Lib.hid hN
    have hne : ((m : Int) != (z : Int)) = true := by simpa using h2
    clear h hok hz hN h2
    go_enter Try.func4, Try.ntmps4
    go_wp2_with (first
      | (go_at_call 8; (with_reducible refine HN.out.mono ?_); rintro e w1 ⟨rfl, hs1⟩; have HS1 := Lib.hid hs1; clear hs1)
      | (go_at_call 10; (with_reducible refine (HA.out _).mono ?_); rintro e w9 ⟨rfl, hb9⟩))
    go_ret
    exact ⟨rfl, HS1.out.below.trans (hb9.mono HS1.out.hb)⟩
  · have hf := Bool.eq_false_iff.2 hok
    have HN := Lib.hid (new_none 4 a hf w)
    rw [ok4, decide_eq_false_iff_not] at hf
    have h2 : a < 1 ∨ (¬ a < 1 ∧ 64 < a) := by omega
    clear h hok hf
    rcases h2 with h2 | ⟨h2, h3⟩
    all_goals
      go_enter Try.func4, Try.ntmps4
      go_wp2_with (first
        | (go_at_call 8; (with_reducible refine HN.out.mono ?_); rintro e w1 ⟨rfl, rfl⟩)
        | (go_at_call 10; (with_reducible refine (HA.out _).mono ?_); rintro e w9 ⟨rfl, hb9⟩))
      go_ret
      exact ⟨rfl, hb9⟩
set_option maxHeartbeats 4000000 in
theorem own_yes (z : Nat) (hz : 1 ≤ z) (hz2 : z ≤ 64) (A : Option Addr) (c : Nat) (b : List UInt8) (hb : b.length = z) (w : World) (hr : Reads w w.heap.size 1 A z (byV b)) :
    Calls Try.prog 4 #[.int .i64 z, .slice A z c] w fun r w' => r = .returned (.bool true) ∧ Below w.heap.size w w' := by
  have HA := Lib.hid awake_any
  have hN := new_st (Star.nil w) 4 z (by rw [show ((4 : Nat) : Int) = 4 from rfl, ok4]; exact decide_eq_true (by omega))
  rw [show ((4 : Nat) : Int) = 4 from rfl, show newO 4 z = OW z b 0 from rfl] at hN
  have HN := Lib.hid hN
  have HC := Lib.hid (fun (W : World) (h : Star w W [FoA w.heap.size (OW z b 0)]) => copy_any (c := c) h (hr.below h.below) (by omega))
  have HW : Hid (∀ (k : Nat) (hk : k < 3) (W : World) (A1 : Option Addr) (c1 : Nat) (h : Star w W [RowO 5 1 (.slice A1 z c1) z (byV b), FoA w.heap.size (OW z b k)]), Calls Try.prog 12 #[.pointer (some ⟨w.heap.size, 0, none⟩), .int .i64 0, .slice A1 z c1] W fun r w' => r = .returned (.tuple #[.int .i64 1, .int .i64 0]) ∧ Star w w' [RowO 5 1 (.slice A1 z c1) z (byV b), FoA w.heap.size (OW z b (k + 1))]) := Lib.hid (fun k hk W A1 c1 h => by
    have := write_st h 1 rfl 0 A1 z c1 b 0 rfl (by omega)
    rw [own_w hz hb hk] at this
    exact this)
  have HR : Hid (∀ (k : Nat) (W : World) (A1 : Option Addr) (c1 : Nat) (l : List UInt8) (h : Star w W [RowO 5 1 (.slice A1 z c1) z (byV l), FoA w.heap.size (OW z b (k + 1))]), Calls Try.prog 13 #[.pointer (some ⟨w.heap.size, 0, none⟩), .int .i64 1, .int .i64 1] W fun r w' => ∃ v, r = .returned (.tuple #[v, .int .i64 0]) ∧ Star w w' [RowO 5 1 v z (byV b), RowO 5 1 (.slice A1 z c1) z (byV l), FoA w.heap.size (OW z b k)]) := Lib.hid (fun k W A1 c1 l h => by
    have := read_st h 1 rfl 1 1 (by omega)
    rw [own_r, hb] at this
    exact this)
  have HS1 := Lib.hid (fun (W : World) (h : Below w.heap.size w W) (A2 : Option Addr) (c2 : Nat) (r2 : Reads W W.heap.size 1 A2 z (byV b)) => same_any (c := c2) (c' := c) r2 (hr.below h))
  have HS2 := Lib.hid (fun (W : World) (l : List UInt8) (A2 A3 : Option Addr) (c2 c3 : Nat) (r2 : Reads W W.heap.size 1 A2 z (byV l)) (r3 : Reads W W.heap.size 1 A3 z (byV l)) => same_any (c := c2) (c' := c3) r2 r3)
  simp only [decide_true] at HS1 HS2
  have HL := Lib.hid (fun (W : World) (A' : Asr) (h : Star w W [A', FoA w.heap.size (OW z b 0)]) => len_st h 1 rfl 1)
  rw [show lenO (OW z b 0) 1 = 0 from rfl] at HL
  obtain ⟨F, hF⟩ : ∃ F : Nat → Fo, F = OW z b := ⟨_, rfl⟩
  rw [← hF] at HN HC HW HR HL
  have hzi : (z : Int) ≤ 64 := by omega
  have hz1 : (1 : Int) ≤ z := by omega
  have hz0 : 0 < z := by omega
  have hB := Lib.hid hb
  obtain ⟨i0, hi0, hz0', hz1', hz2'⟩ := info_parts by_info
  clear hN hF hb
  go_enter Try.func4, Try.ntmps4
  go_wp2_with (first
    | (go_at_call 8; (with_reducible refine HN.out.mono ?_); rintro e w1 ⟨rfl, hs1⟩; have HT1 := Lib.hid hs1; clear hs1)
    | (go_at_call 16; (with_reducible refine (HC.out _ HT1.out).mono ?_); rintro e w2 ⟨v2, rfl, hs2⟩
       obtain ⟨A2, c2, rfl⟩ := (hs2.rowO 0 rfl).len
       have HT2 := Lib.hid hs2
       clear hs2))
  go_loopw [37] (fun s37 wr => ∃ k : Nat, k ≤ 3 ∧ s37 = .int .i64 k ∧ Hid (Star w wr [RowO 5 1 (.slice A2 z c2) z (byV b), FoA w.heap.size (F k)])) (fun s37 _ => 3 - (intOf s37).toNat)
  case atStart => exact ⟨0, by omega, rfl, HT2⟩
  case round =>
    obtain ⟨k, hk, rfl, HT⟩ := hrel
    by_cases hlt : k < 3
    · have hkz : (k : Int) < 3 := by omega
      have HWk := Lib.hid (HW.out k hlt wr A2 c2 HT.out)
      clear HW HR HS1 HS2 HL HC
      go_wp2_with (first
        | (go_at_call 12; (with_reducible refine HWk.out.mono ?_); rintro e w3 ⟨rfl, hs3⟩; have HT3 := Lib.hid hs3; clear hs3))
      go_roundw
      case rel => exact ⟨k + 1, by omega, by go_num, HT3⟩
      case measure => simp [intOf]; omega
    · have hkz : ¬ (k : Int) < 3 := by omega
      obtain rfl : k = 3 := by omega
      clear HW HC HT2
      go_wp2
      go_loopw [54] (fun s54 wr2 => ∃ (j : Nat) (l : List UInt8), j ≤ z ∧ s54 = .int .i64 j ∧ Hid (l.length = z) ∧ Hid (Star w wr2 [RowO 5 1 (.slice A2 z c2) z (byV l), FoA w.heap.size (F 3)])) (fun s54 _ => z - (intOf s54).toNat)
      case atStart => exact ⟨0, b, by omega, rfl, hB, HT⟩
      case round =>
        obtain ⟨j, l, hj, rfl, HLl, HU⟩ := hrel
        by_cases hlt2 : j < z
        · have hjz : (j : Int) < z := by omega
          have ho := HU.out.rowO 0 rfl
          obtain ⟨g, off, cc, hv, -, -, -⟩ := ho.form hz0
          simp only [Value.slice.injEq, true_and] at hv
          obtain ⟨rfl, rfl⟩ := hv
          obtain ⟨x, hx⟩ : ∃ x, l[j]? = some x := ⟨_, List.getElem?_eq_getElem (by rw [HLl.out]; exact hlt2)⟩
          have d1 := ho.cellAt j (by omega)
          rw [show (byV l)[j]? = some (.int .u8 (x.toNat : Int)) by simp [byV, hx]] at d1
          have d2 := ho.frozenAt (off + j)
          have hxx : IntKind.u8.wrap ((x.toNat : Int) + 1) = ((x + 1 : UInt8).toNat : Int) := by
            rw [IntKind.wrap_u8, UInt8.toNat_add]
            simp
          obtain ⟨y, ey⟩ : ∃ y : UInt8, y = x + 1 := ⟨_, rfl⟩
          rw [← ey] at hxx
          have h5 := HU.out.setO 0 rfl j (by omega) (.int .u8 (y.toNat : Int))
          have e5 : (byV l).set j (.int .u8 (y.toNat : Int)) = byV (l.set j y) := by
            unfold byV
            rw [List.map_set]
          rw [e5] at h5
          simp only [List.set_cons_zero] at h5
          have H5 := Lib.hid h5
          have hxb : (x.toNat : Int) ≤ 255 := by have := x.toNat_lt; omega
          have HL5 : Hid ((l.set j y).length = z) := Lib.hid (by rw [List.length_set]; exact HLl.out)
          clear ho h5 e5 ey hx HR HS1 HS2 HL
          go_wp2
          go_roundw
          case rel => exact ⟨j + 1, _, by omega, by go_num, HL5, H5⟩
          case measure => simp [intOf]; omega
        · have hjz : ¬ (j : Int) < z := by omega
          obtain rfl : j = z := by omega
          clear HT
          go_wp2
          go_loopw [64] (fun s64 wr3 => ∃ (i : Nat), i ≤ 3 ∧ s64 = .int .i64 i ∧ Hid (Star w wr3 [RowO 5 1 (.slice A2 j c2) j (byV l), FoA w.heap.size (F (3 - i))])) (fun s64 _ => 3 - (intOf s64).toNat)
          case atStart => exact ⟨0, by omega, rfl, HU⟩
          case round =>
            obtain ⟨i, hi, rfl, HV⟩ := hrel
            by_cases hlt3 : i < 3
            · have hiz : (i : Int) < 3 := by omega
              have hV := HV.out
              rw [show 3 - i = (3 - (i + 1)) + 1 by omega] at hV
              have HRi := Lib.hid (HR.out _ _ A2 c2 l hV)
              clear HR hV HL
              go_wp2_with (first
                | (go_at_call 13; (with_reducible refine HRi.out.mono ?_); rintro e w4 ⟨v4, rfl, hs4⟩
                   obtain ⟨A4, c4, rfl⟩ := (hs4.rowO 0 rfl).len
                   have HT4 := Lib.hid hs4
                   have HT5 := Lib.hid (hs4.headO (k := 0) 0 rfl (by omega))
                   clear hs4)
                | (go_at_call 14; (with_reducible refine (HS1.out _ HT4.out.below _ _ (HT4.out.readsO 0 rfl)).mono ?_); rintro e w5 ⟨rfl, rfl⟩)
                | (at_builtin; refine wpList_append_so rfl (.tmp 80) (.tmp 81) 27 rfl HT5.out 0 rfl i0 _ 1 Try.underlying27 hi0 hz0' hz1' hz2' rfl (by omega) rfl _ A2 _ c2 (byV l) rfl (HT4.out.readsO 1 rfl) (byV_one _) (by simp only [maxLen]; omega) (by omega) ?_
                   intro v6 w6 hs6
                   simp only [List.set_cons_zero, Nat.zero_add, Nat.zero_mul, List.take_zero, List.nil_append] at hs6
                   obtain ⟨A6, c6, rfl⟩ := (hs6.rowO 0 rfl).len
                   have HT6 := Lib.hid hs6
                   clear hs6)
                | (go_at_call 14; (with_reducible refine (HS2.out _ _ _ _ _ _ (HT6.out.readsO 0 rfl) (HT6.out.readsO 1 rfl)).mono ?_); rintro e w7 ⟨rfl, rfl⟩))
              go_roundw
              case rel => exact ⟨i + 1, by omega, by go_num, Lib.hid HT6.out.tail⟩
              case measure => simp [intOf]; omega
            · have hiz : ¬ (i : Int) < 3 := by omega
              obtain rfl : i = 3 := by omega
              clear HR HS1 HS2
              go_wp2_with (first
                | (go_at_call 15; (with_reducible refine (HL.out _ _ HV.out).mono ?_); rintro e w8 ⟨rfl, hs8⟩; have HT8 := Lib.hid hs8; clear hs8)
                | (go_at_call 10; (with_reducible refine (HA.out _).mono ?_); rintro e w9 ⟨rfl, hb9⟩))
              go_ret
              exact ⟨rfl, HT8.out.below.trans (hb9.mono HT8.out.hb)⟩
theorem own_row (a : Int) (ha : (Lit.int .i64 a).wf = true) (A : Option Addr) (c : Nat) (b : List UInt8) (w : World) (hr : Reads w w.heap.size 1 A b.length (b.map byteU)) (hm : b.length ≤ maxLen) :
    Calls Try.prog 4 #[.int .i64 a, .slice A b.length c] w fun r w' => r = .returned (.bool true) ∧ Below w.heap.size w w' := by
  by_cases h : okN 4 a = false ∨ (b.length : Int) ≠ a
  · exact own_no a A b.length c h w
  · have hok : okN 4 a = true := by
      cases h2 : okN 4 a
      · exact absurd (.inl h2) h
      · rfl
    have hl : (b.length : Int) = a := Decidable.byContradiction fun h2 => h (.inr h2)
    rw [ok4, decide_eq_true_eq] at hok
    subst hl
    exact own_yes b.length (by omega) (by omega) A c b rfl w hr
end Go.Proofs.Ytaiggfoeobehlaa.Ff
