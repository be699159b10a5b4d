/- rights.Default, Kinds, Name and the reference's Default (the door seat, the table of names laid). -/
import Derived.Test.YtpkmpenjnbpblaaDoorRtTexts
import Derived.Test.YtpkmpenjnbpblaaDoorOwn2
import Derived.Test.YtpkmpenjnbpblaaDoorRows
import Derived.Deep.QuietTactic
import Derived.BigQuiet
import Derived.MakeChecks
import Derived.Lib.LaidTab
namespace Go.Proofs.YtpkmpenjnbpblaaDoor.Rt
open Go Go.RowKit Go.Proofs.YtpkmpenjnbpblaaDoor.Mem Go.Proofs.YtpkmpenjnbpblaaDoor.Bits
set_option linter.unusedVariables false
set_option linter.unusedSimpArgs false
/-- The names, in the table's order. -/
def nameB : List ByteArray := [⟨#[]⟩, ⟨#[106, 111, 98]⟩, ⟨#[112, 114, 111, 99, 101, 115, 115]⟩, ⟨#[116, 104, 114, 101, 97, 100]⟩, ⟨#[99, 104, 97, 110, 110, 101, 108]⟩, ⟨#[115, 111, 99, 107, 101, 116]⟩, ⟨#[102, 105, 102, 111]⟩, ⟨#[101, 118, 101, 110, 116]⟩, ⟨#[101, 118, 101, 110, 116, 112, 97, 105, 114]⟩, ⟨#[112, 111, 114, 116]⟩, ⟨#[116, 105, 109, 101, 114]⟩, ⟨#[118, 109, 111]⟩]
def nm (i : Nat) : ByteArray := nameB.getD i ⟨#[]⟩
theorem nm_len : ∀ k : Nat, k < 11 → (nm (k + 1)).size ≠ 0 := by decide
def LaidN (w : World) : Prop := ∀ i, i < 12 → w.cell? ⟨0, i, none⟩ = some (.string (nm i))
theorem LaidN.lt {w : World} (h : LaidN w) : 0 < w.heap.size := by
  have := h 0 (by omega)
  rcases Nat.eq_zero_or_pos w.heap.size with h0 | h0
  · simp [World.cell?, h0] at this
  · exact h0
theorem LaidN.below {w a : World} (h : LaidN w) (hb : Below w.heap.size w a) : LaidN a := fun i hi => (hb.cell (p := ⟨0, i, none⟩) h.lt).trans (h i hi)
theorem gN : Tryd.prog.globalNamed "jacinth/rights.names" = some 0 := by kernel_rfl
theorem tN : (Tryd.prog.globals[0]?).map (·.type) = some 37 := by kernel_rfl
/-- An array of strings that reads as the table holds the table's strings, cell for cell. -/
theorem strs_of_tab {H : Type} {enc : TypeId × Value → H} {P : Program} {w : World} {base : Nat} {sp : Nat → Bool} {held : Bool} {fuel : Nat} {t e : TypeId} {n : Nat} {cs : List Value} {zs : List ByteArray} {p : List MemPlace}
    (ht : P.underlying t = some (.array n e)) (he : P.underlying e = some .string) (hce : P.cellsOf e = 1) (hct : P.cellsOf t = n)
    (h : DataW.trod enc P w base sp held fuel t cs = some (.agg (zs.map fun z => .lit (.string z.data.toList)), p)) : cs = zs.map Value.string := by
  cases fuel with
  | zero => simp [DataW.trod] at h
  | succ fuel =>
    simp only [DataW.trod, ht, hce, hct, Nat.mul_one] at h
    split at h
    · rename_i hl
      obtain ⟨xs, hm, hx⟩ := Option.map_eq_some_iff.1 h
      have hxs : xs.map (·.1) = zs.map fun z => (DataW.lit (.string z.data.toList) : DataW H) := by
        have := congrArg Prod.fst hx
        simpa using this
      have hxl : xs.length = n := by simpa using Lib.mapM_length hm
      have hzl : zs.length = n := by
        have := congrArg List.length hxs
        simp at this
        omega
      apply List.ext_getElem?
      intro i
      by_cases hi : i < n
      · obtain ⟨b, hb, hf⟩ := Lib.mapM_at hm i i (by simp [hi])
        obtain ⟨z, hc, rfl, _⟩ := DataW.trod_string he hf
        have h1 : cs[i]? = some (.string z) := by
          have := congrArg (·[0]?) hc
          simpa [List.getElem?_take, List.getElem?_drop] using this
        have h2 : (xs.map (·.1))[i]? = some (DataW.lit (.string z.data.toList) : DataW H) := by simp [hb]
        rw [hxs] at h2
        simp only [List.getElem?_map, Option.map_eq_some_iff, DataW.lit.injEq, Lit.string.injEq] at h2
        obtain ⟨z', hz', hzz⟩ := h2
        obtain rfl : z' = z := ByteArray.ext (Array.toList_inj.mp hzz)
        simp [h1, hz']
      · rw [List.getElem?_eq_none (by omega), List.getElem?_eq_none (by simp; omega)]
    · cases h
theorem of_laid {W : World} (h : laidMetH Tryd.prog [("jacinth/rights.names", Rows.laid_jacinth_rights_names)] W) : LaidN W := by
  rw [MakeChecks.laidMetH_plain _ _ _ (by kernel_rfl)] at h
  obtain ⟨ps, ⟨g', t', cs, fuel, p, q, hg', ht', hvar, hd, _, _⟩, _⟩ := h
  obtain rfl := Option.some.inj (gN.symm.trans hg')
  obtain rfl := Option.some.inj (tN.symm.trans ht')
  have hc := strs_of_tab (zs := nameB) Tryd.underlying37 Tryd.underlying9 (by kernel_rfl) (by kernel_rfl) hd
  intro i hi
  have := World.var?_cell hg' hvar i
  rw [this, ← Array.getElem?_toList, hc]
  have hl : nameB.length = 12 := rfl
  simp [nm, List.getD, hl, hi]
/-! ### Default -/
def dflL : List Int := [0, 3779, 1743, 1731, 255, 255, 255, 211, 243, 207, 219, 2527]
def dfl (k : Int) : Int := if 1 ≤ k ∧ k ≤ 11 then dflL.getD k.toNat 0 else 0
theorem default_any (k : Int) (w : World) : Calls Tryd.prog 5 #[.int .i64 k] w fun e w' => e = .returned (.int .i64 (dfl k)) ∧ w = w' := by
  by_cases h : 1 ≤ k ∧ k ≤ 11
  · obtain ⟨h1, h2⟩ := h
    have hc : k = 1 ∨ k = 2 ∨ k = 3 ∨ k = 4 ∨ k = 5 ∨ k = 6 ∨ k = 7 ∨ k = 8 ∨ k = 9 ∨ k = 10 ∨ k = 11 := by omega
    rcases hc with rfl | rfl | rfl | rfl | rfl | rfl | rfl | rfl | rfl | rfl | rfl
    all_goals
      go_enter Tryd.func5, Tryd.ntmps5
      go_wp2
      go_ret
      exact ⟨rfl, rfl⟩
  · have hz : dfl k = 0 := if_neg h
    rw [hz]
    have z1 : (k == 1) = false := beq_eq_false_iff_ne.mpr (by omega)
    have z2 : (k == 2) = false := beq_eq_false_iff_ne.mpr (by omega)
    have z3 : (k == 3) = false := beq_eq_false_iff_ne.mpr (by omega)
    have z4 : (k == 4) = false := beq_eq_false_iff_ne.mpr (by omega)
    have z5 : (k == 5) = false := beq_eq_false_iff_ne.mpr (by omega)
    have z6 : (k == 6) = false := beq_eq_false_iff_ne.mpr (by omega)
    have z7 : (k == 7) = false := beq_eq_false_iff_ne.mpr (by omega)
    have z8 : (k == 8) = false := beq_eq_false_iff_ne.mpr (by omega)
    have z9 : (k == 9) = false := beq_eq_false_iff_ne.mpr (by omega)
    have z10 : (k == 10) = false := beq_eq_false_iff_ne.mpr (by omega)
    have z11 : (k == 11) = false := beq_eq_false_iff_ne.mpr (by omega)
    clear h hz
    go_enter Tryd.func5, Tryd.ntmps5
    go_wp2
    go_ret
    exact ⟨rfl, rfl⟩
/-! ### Name -/
theorem name_in {i : Nat} (hi : i < 12) {w : World} (hL : LaidN w) : Calls Tryd.prog 9 #[.int .i64 (i : Int)] w fun e w' => e = .returned (.string (nm i)) ∧ w = w' := by
  have hc := hL i hi
  go_enter Tryd.func9, Tryd.ntmps9
  go_wp2
  go_ret
  exact ⟨rfl, rfl⟩
theorem name_out {k : Int} (hk : k < 0 ∨ 12 ≤ k) (w : World) : Calls Tryd.prog 9 #[.int .i64 k] w fun e w' => e = .returned (.string ⟨#[]⟩) ∧ w = w' := by
  rcases hk with h | h
  all_goals
    go_enter Tryd.func9, Tryd.ntmps9
    go_wp2
    go_ret
    exact ⟨rfl, rfl⟩
/-! ### Kinds -/
def kv (k : Nat) : List Value := (List.range k).map fun i : Nat => Value.int .i64 ((i : Int) + 1)
theorem kv_succ (k : Nat) : kv (k + 1) = kv k ++ [.int .i64 ((k : Int) + 1)] := by simp [kv, List.range_succ]
theorem reads_new1 (w : World) (e : TypeId) (u : Value) : Reads (w.alloc (.cells #[u] e)) (w.heap.size + 1) 1 (some ⟨w.heap.size, 0, none⟩) 1 [u] :=
  ⟨rfl, fun _ => ⟨_, rfl, by simp, fun j x hx => by
    rcases j with _ | j
    · simp at hx; subst hx; simp [Addr.add]
    · simp at hx⟩⟩
theorem int_info : (Tryd.prog.info? 3).map (fun i => (i.zero, i.size, i.bytes)) = some (some (.int .i64 0), 1, 8) := by kernel_rfl
set_option maxHeartbeats 1000000 in
theorem kinds_any {w : World} (hL : LaidN w) : Calls Tryd.prog 8 #[] w fun e w' => ∃ v, e = .returned v ∧ w'.ownsRow w.heap.size 3 1 v 11 (kv 11) ∧ Below w.heap.size w w' := by
  have HL := Lib.hid hL
  obtain ⟨i0, hi0, hz0, hz1, hz2⟩ := info_parts int_info
  clear hL
  go_enter Tryd.func8, Tryd.ntmps8
  go_wp2
  go_loopw [1, 3] (fun out i wr => ∃ k : Nat, k ≤ 12 ∧ i = .int .i64 k ∧ Hid (wr.ownsRow w.heap.size 3 1 out (k - 1) (kv (k - 1))) ∧ Hid (Below w.heap.size w wr)) (fun _ i _ => 12 - (intOf i).toNat)
  case atStart => exact ⟨0, by omega, rfl, Lib.hid (World.ownsRow_nil _ _ _ _), Lib.hid (Below.refl _ _)⟩
  case round =>
    obtain ⟨k, hk, rfl, HO, HB⟩ := hrel
    by_cases hlt : k < 12
    · have hc := (HL.out.below HB.out) k hlt
      rcases k with _ | k
      · replace hc : wr.cell? ⟨0, 0, none⟩ = some (.string ⟨#[]⟩) := hc
        go_wp2
        go_roundw
        case rel => exact ⟨1, by omega, rfl, HO, HB⟩
        case measure => simp [intOf]
      · have hne := nm_len k (by omega)
        have n1 : ¬ nm (k + 1) = ⟨#[]⟩ := fun e => hne (by rw [e]; rfl)
        have n3 : ((nm (k + 1)).toList == []) = false := beq_eq_false_iff_ne.mpr (fun e => n1 (by rw [Lib.toList_data] at e; exact ByteArray.ext (Array.toList_inj.mp (by simpa using e))))
        generalize nm (k + 1) = S at *
        clear hne
        simp only [Nat.add_sub_cancel] at HO
        obtain ⟨A3, c3, rfl⟩ := own_len HO.out
        go_wp2_with (first
          | (at_builtin
             refine wpList_append_any _ rfl (.tmp 10) (.tmp 12) _ rfl w.heap.size 3 i0 _ 1 8 Tryd.underlying27 hi0 hz0 hz1 hz2 rfl (by omega) (.slice A3 k c3) k (kv k) rfl
               (HO.out.alloc _) (wr.heap.size + 1) (some ⟨wr.heap.size, 0, none⟩) 1 1 [_] rfl (reads_new1 wr 3 _) (by simp [Value.oneCell']) (by simp only [maxLen]; omega) (by omega) (by have := HB.out.size; simp; omega) ?_
             intro v3 w3 hO3 hg3 hat3))
        go_roundw
        case rel =>
          have hB3 : Below w.heap.size w w3 := (HB.out.alloc HB.out.size _).grown hg3 (by have := HB.out.size; simp; omega) (fun g hg => (HO.out.lt g hg).1)
          refine ⟨k + 2, by omega, by go_num, Lib.hid ?_, Lib.hid hB3⟩
          show w3.ownsRow w.heap.size 3 1 v3 (k + 1) (kv (k + 1))
          rw [kv_succ]
          simpa using hO3
        case measure => simp [intOf]; omega
    · obtain rfl : k = 12 := by omega
      go_wp2
      go_ret
      exact ⟨_, rfl, HO.out, HB.out⟩
end Go.Proofs.YtpkmpenjnbpblaaDoor.Rt
