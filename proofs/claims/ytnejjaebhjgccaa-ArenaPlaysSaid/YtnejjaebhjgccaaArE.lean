/- The contract of Alloc. -/
import Derived.Test.YtnejjaebhjgccaaArD
import Derived.Test.YtnejjaebhjgccaaOwn2
import Derived.Deep.DeepCutAuto
namespace Go.Proofs.Ytnejjaebhjgccaa.Ar
open Go Go.RowKit Go.Proofs.Ytnejjaebhjgccaa.Mem Go.Proofs.Ytnejjaebhjgccaa.Bits
set_option linter.unusedVariables false
set_option linter.unusedSimpArgs false
theorem sl_info : (Try.prog.info? 59).map (fun i => (i.zero, i.size, i.bytes)) = some (some (.agg #[.int .i64 0, .bool false, .int .i64 0]), 3, 24) := by kernel_rfl
/-- What Alloc tells of a slot. -/
def idOf (gen : Int) (at_ : Nat) : Int := gen * 65536 + at_
theorem reads_new (w : World) (e : TypeId) (cs : List Value) (size : Nat) (h : cs.length = 1 * size) : Reads (w.alloc (.cells cs.toArray e)) (w.heap.size + 1) size (some ⟨w.heap.size, 0, none⟩) 1 cs :=
  ⟨h, fun _ => ⟨_, rfl, by show w.heap.size < _; omega, fun j u hu => by
    have e1 : ((⟨w.heap.size, 0, none⟩ : Addr).add j) = ⟨w.heap.size, j, none⟩ := by unfold Addr.add; split <;> simp_all
    rw [e1, (Blk.new w e cs.toArray).cell j]
    simpa using hu⟩⟩
theorem slCs_snoc (l : List Sl) (s : Sl) : slCs l ++ slC s = slCs (l ++ [s]) := by simp [slCs]
/-- The struct's slice is stored behind an append. -/
theorem arn_more {w1 : World} {B b : Nat} {sl : List Sl} {fr : List Int} {cap cnt : Int} {sv fv v1 : Value} (hb : B ≤ b) (h : Blk w1 b 57 #[sv, fv, .int .i64 cap, .int .i64 cnt]) (ho : w1.ownsRow B 59 3 v1 (sl.length + 1) (slCs sl ++ [.int .i64 0, .bool false, .int .i64 0]))
    (hf : w1.ownsRow B 3 1 fv fr.length (ints fr)) : Arn (w1.setCell ⟨b, 0, none⟩ v1) B b (sl ++ [⟨0, false, 0⟩]) fr cap cnt v1 fv := by
  have e : slCs sl ++ [.int .i64 0, .bool false, .int .i64 0] = slCs (sl ++ [⟨0, false, 0⟩]) := slCs_snoc sl ⟨0, false, 0⟩
  rw [e] at ho
  refine ⟨hb, h.setv 0 _ rfl, ?_, own_far hf (p := ⟨b, 0, none⟩) (own_blk_ne hf h (by decide)) _⟩
  have := own_far ho (p := ⟨b, 0, none⟩) (own_blk_ne ho h (by decide)) v1
  simpa using this
theorem or_low16 (x k : Nat) (hx : x < 140737488355328) (hk : k < 65536) : bits .or .i64 ((x : Int) * 65536) k = (x : Int) * 65536 + k := by
  have key : (BitVec.ofInt 64 ((x : Int) * 65536) ||| BitVec.ofInt 64 (k : Int)).toNat = x * 65536 + k := by
    rw [BitVec.toNat_or, BitVec.toNat_ofInt, BitVec.toNat_ofInt]
    have e1 : (((x : Int) * 65536) % ((2 ^ 64 : Nat) : Int)).toNat = x * 65536 := by omega
    have e2 : ((k : Int) % ((2 ^ 64 : Nat) : Int)).toNat = k := by omega
    rw [e1, e2, show x * 65536 = x <<< 16 by rw [Nat.shiftLeft_eq], ← Nat.shiftLeft_add_eq_or_of_lt (by omega)]
  show IntKind.i64.wrap (((BitVec.ofInt 64 ((x : Int) * 65536) ||| BitVec.ofInt 64 (k : Int)).toNat : Nat) : Int) = _
  rw [key, IntKind.wrap_i64]
  omega
theorem Arn.cells {W : World} {B b : Nat} {L : List Sl} {fr : List Int} {cap cnt : Int} {g cp : Nat} {fv : Value} (h : Arn W B b L fr cap cnt (.slice (some ⟨g, 0, none⟩) L.length cp) fv) {i : Nat} {s : Sl} (hs : L[i]? = some s) :
    W.cell? ⟨g, i * 3, none⟩ = some (.int .i64 s.gen) ∧ W.cell? ⟨g, i * 3 + 1, none⟩ = some (.bool s.tk) ∧ W.cell? ⟨g, i * 3 + 2, none⟩ = some (.int .i64 s.v) ∧ (∀ j, W.frozen? ⟨g, j, none⟩ = false) ∧ (∀ j, W.frozen? ⟨b, j, none⟩ = false) := by
  have hlt : i < L.length := (List.getElem?_eq_some_iff.1 hs).1
  have d0 := (h.slots.cellAt (i * 3 + 0) (by omega)).trans (slCs_at L i 0 s hs (by omega))
  have d1 := (h.slots.cellAt (i * 3 + 1) (by omega)).trans (slCs_at L i 1 s hs (by omega))
  have d2 := (h.slots.cellAt (i * 3 + 2) (by omega)).trans (slCs_at L i 2 s hs (by omega))
  simp only [slC, Nat.add_zero, List.getElem?_cons_zero, List.getElem?_cons_succ] at d0 d1 d2
  exact ⟨d0, d1, d2, fun j => h.slots.frozenAt j, fun j => h.blk.frozen j⟩
section
variable {w : World} {B b : Nat} {sl : List Sl} {fr : List Int} {cap cnt : Int} {sv fv : Value}
theorem alloc_full (h : Arn w B b sl [] cap cnt sv fv) (hc : (sl.length : Int) = cap) (v : Int) : Calls Try.prog 11 #[.pointer (some ⟨b, 0, none⟩), .int .i64 v] w fun e w' => e = .returned (.tuple #[.int .i64 0, .int .i64 (-4)]) ∧ w = w' := by
  have c0 : w.cell? ⟨b, 0, none⟩ = some sv := h.blk.cellv rfl
  have c1 : w.cell? ⟨b, 1, none⟩ = some fv := h.blk.cellv rfl
  have c2 : w.cell? ⟨b, 2, none⟩ = some (.int .i64 cap) := h.blk.cellv rfl
  obtain ⟨A, c, rfl⟩ := own_len h.slots
  obtain ⟨A2, c', rfl⟩ := own_len h.free
  subst hc
  clear h
  go_enter Try.func11, Try.ntmps11
  go_wp2
  go_ret2
  exact ⟨rfl, rfl⟩
set_option maxHeartbeats 2000000 in
theorem alloc_more (h : Arn w B b sl [] cap cnt sv fv) (hB : B ≤ w.heap.size) (hc : (sl.length : Int) < cap) (hcap : cap ≤ 65536) (hcnt : 0 ≤ cnt ∧ cnt ≤ 65536) (v : Int) : Calls Try.prog 11 #[.pointer (some ⟨b, 0, none⟩), .int .i64 v] w fun e w' =>
    e = .returned (.tuple #[.int .i64 (65536 + (sl.length : Int)), .int .i64 0]) ∧ ∃ sv', Arn w' B b (sl ++ [⟨1, true, v⟩]) [] cap (cnt + 1) sv' fv ∧ Upd (ft b sv fv) w w' ∧ (∀ k, sv'.ownBlock = some k → sv.ownBlock = some k ∨ w.heap.size ≤ k) := by
  have c0 : w.cell? ⟨b, 0, none⟩ = some sv := h.blk.cellv rfl
  have c1 : w.cell? ⟨b, 1, none⟩ = some fv := h.blk.cellv rfl
  have c2 : w.cell? ⟨b, 2, none⟩ = some (.int .i64 cap) := h.blk.cellv rfl
  have c3 : w.cell? ⟨b, 3, none⟩ = some (.int .i64 cnt) := h.blk.cellv rfl
  obtain ⟨i0, hi0, hz0, hz1, hz2⟩ := info_parts sl_info
  have hz3 : ((sl.length : Int) == cap) = false := beq_eq_false_iff_ne.mpr (by omega)
  obtain ⟨A, c, hsv⟩ := own_len h.slots
  obtain ⟨A2, c', hfv⟩ := own_len h.free
  have HH := Lib.hid h
  subst hsv hfv
  have hL : sl.length ≤ 65536 := by omega
  clear h
  go_enter Try.func11, Try.ntmps11
  go_upto_region 9 with (first
    | (at_builtin
       refine wpList_append_any _ rfl (.tmp 23) (.tmp 25) _ rfl B 59 i0 _ 3 24 Try.underlying55 hi0 hz0 hz1 hz2 rfl (by omega) (.slice A sl.length c) sl.length (slCs sl) rfl
         (HH.out.slots.alloc _) (w.heap.size + 1) (some ⟨w.heap.size, 0, none⟩) 1 1 [.int .i64 0, .bool false, .int .i64 0] rfl (reads_new w 59 [.int .i64 0, .bool false, .int .i64 0] 3 rfl) (by decide) (by simp only [maxLen]; omega) (by omega) (by simp; omega) ?_
       intro v1 w1 hown hg hat
       have hne : (some b : Option Nat) ≠ (Value.slice A sl.length c).ownBlock := fun e => own_blk_ne HH.out.slots HH.out.blk (by decide) e.symm
       have hB1 := (HH.out.blk.alloc _).grown hg hne
       have hF1 := (HH.out.free.alloc _).kept hg (by
         cases hb : (Value.slice A2 ([] : List Int).length c').ownBlock with
         | none => exact .inl rfl
         | some k => exact .inr (fun e => own_own_ne HH.out.free HH.out.slots (by decide) hb e.symm))
       obtain ⟨g1, cp1, rfl, hbg, hgl, hnc⟩ := own_form hown (by omega)
       have hA1 := arn_more HH.out.base hB1 hown hF1
       have hU1 := Upd.of_grown hg (F := ft b (Value.slice A sl.length c) (Value.slice A2 ([] : List Int).length c')) (fun i hi => .inr (.inl hi))
       have c0' := hB1.cellv (i := 0) rfl
       have f0' := hB1.frozen 0))
  have hG : g1 < w.heap.size → ft b (Value.slice A sl.length c) (Value.slice A2 ([] : List Int).length c') g1 := fun hlt => by
    rcases hat with e | e
    · exact .inr (.inl (by rw [← e]; rfl))
    · simp [Value.ownBlock] at e; omega
  have hN : ∀ k, (Value.slice (some ⟨g1, 0, none⟩) (sl.length + 1) cp1).ownBlock = some k → (Value.slice A sl.length c).ownBlock = some k ∨ w.heap.size ≤ k := fun k hk => by
    rcases hat with e | e
    · exact .inl (by rw [← e]; exact hk)
    · rw [e] at hk
      have : w.heap.size + 1 = k := by simpa using hk
      exact .inr (by omega)
  have hs0 : (sl ++ [(⟨0, false, 0⟩ : Sl)])[sl.length]? = some ⟨0, false, 0⟩ := by simp
  have hU2 := (((Upd.refl (ft b (Value.slice A sl.length c) (Value.slice A2 ([] : List Int).length c')) w).alloc _).trans hU1 (fun _ _ h => h)).setCell (p := ⟨b, 0, none⟩) (fun _ => .inl rfl) (Value.slice (some ⟨g1, 0, none⟩) (sl.length + 1) cp1)
  have hl1 : sl.length + 1 = (sl ++ [(⟨0, false, 0⟩ : Sl)]).length := by simp
  rw [hl1] at hA1 hU2 hN
  have HN := Lib.hid hN
  have HG := Lib.hid hG
  clear hB1 hF1 hU1 c0' f0' hown hg c0 c1 c2 c3 hN hG hat
  simp only [hl1]
  generalize World.setCell _ _ _ = W2 at *
  have hor : bits .or .i64 65536 (sl.length : Int) = 65536 + (sl.length : Int) := by have := or_low16 1 sl.length (by omega) (by omega); simpa using this
  have hnl : sl.length < (sl ++ [(⟨0, false, 0⟩ : Sl)]).length := by simp
  have hfin : ((sl ++ [(⟨0, false, 0⟩ : Sl)]).set sl.length ⟨1, false, 0⟩).set sl.length ⟨1, true, v⟩ = sl ++ [⟨1, true, v⟩] := by simp
  generalize (sl ++ [(⟨0, false, 0⟩ : Sl)]) = L at *
  have HU := Lib.hid hU2
  have HS := Lib.hid hs0
  have HFin := Lib.hid hfin
  have a0 : W2.cell? ⟨b, 0, none⟩ = some (.slice (some ⟨g1, 0, none⟩) L.length cp1) := hA1.blk.cellv rfl
  obtain ⟨p0, p1, p2, pf, pb⟩ := hA1.cells hs0
  clear hU2 hs0 hfin
  go_upto_region 11 with fail
  have hA2 : Arn (W2.setCell ⟨g1, sl.length * 3, none⟩ (.int .i64 1)) B b _ [] cap cnt _ _ := hA1.store (j := 0) (s' := ⟨1, false, 0⟩) HS.out (by omega) rfl
  have HU3 := Lib.hid (HU.out.setCell (p := ⟨g1, sl.length * 3, none⟩) HG.out (Value.int .i64 1))
  clear a0 p0 p1 p2 pf pb HU hA1
  generalize World.setCell _ _ _ = W3 at *
  have hL2 : (L.set sl.length ⟨1, false, 0⟩).length = L.length := by simp
  have hs1 : (L.set sl.length ⟨1, false, 0⟩)[sl.length]? = some ⟨1, false, 0⟩ := by simp [hnl]
  rw [← hL2] at hA2 HN
  simp only [← hL2]
  obtain ⟨p0, p1, p2, pf, pb⟩ := hA2.cells hs1
  have HS1 := Lib.hid hs1
  clear hs1
  go_upto_region 12 with fail
  have hL3 : ((L.set sl.length ⟨1, false, 0⟩).set sl.length ⟨1, true, 0⟩).length = (L.set sl.length ⟨1, false, 0⟩).length := by simp
  have hA3 := (hA2.store (j := 1) (u := .bool true) (s' := ⟨1, true, 0⟩) HS1.out (by omega) rfl)
  rw [← hL3] at hA3
  have hA4 := (hA3.store (i := sl.length) (j := 2) (u := .int .i64 v) (s := ⟨1, true, 0⟩) (s' := ⟨1, true, v⟩) (by simp [hnl]) (by omega) rfl)
  have HU4 := Lib.hid ((HU3.out.setCell (p := ⟨g1, sl.length * 3 + 1, none⟩) HG.out (Value.bool true)).setCell (p := ⟨g1, sl.length * 3 + 2, none⟩) HG.out (Value.int .i64 v))
  rw [List.set_set, HFin.out] at hA4
  have hL4 : ((L.set sl.length ⟨1, false, 0⟩).set sl.length ⟨1, true, 0⟩).length = (sl ++ [(⟨1, true, v⟩ : Sl)]).length := by simp [← HFin.out]
  rw [hL4] at hA4
  have hL5 : (L.set sl.length ⟨1, false, 0⟩).length = (sl ++ [(⟨1, true, v⟩ : Sl)]).length := by simp [← HFin.out]
  rw [hL5] at HN
  simp only [hL5]
  clear p0 p1 p2 pf pb HU3 hA2 hA3
  generalize World.setCell _ _ _ = W4 at *
  have a3 : W4.cell? ⟨b, 3, none⟩ = some (.int .i64 cnt) := hA4.blk.cellv rfl
  have pb : W4.frozen? ⟨b, 3, none⟩ = false := hA4.blk.frozen 3
  go_upto_region 13 with fail
  have hA5 := hA4.cnt_ (cnt + 1)
  have HU5 := Lib.hid (HU4.out.setCell (p := ⟨b, 3, none⟩) (fun _ => .inl rfl) (Value.int .i64 (cnt + 1)))
  clear a3 pb HU4 hA4
  generalize World.setCell _ _ _ = W5 at *
  obtain ⟨p0, -, -, -, -⟩ := hA5.cells (i := sl.length) (s := ⟨1, true, v⟩) (by simp)
  have HA5 := Lib.hid hA5
  clear hA5 hL2 hL3 hL4 hL5 hl1
  go_wp2
  go_ret2
  exact ⟨rfl, _, HA5.out, HU5.out, HN.out⟩
end
end Go.Proofs.Ytnejjaebhjgccaa.Ar
