/- The reference's arena: what it is; the contracts of Find and IDs. -/
import Derived.Test.YtnejjaebhjgccaaArK
import Derived.Test.YtnejjaebhjgccaaArIt
import Derived.Test.YtnejjaebhjgccaaSep
import Derived.Test.YtnejjaebhjgccaaArLast
namespace Go.Proofs.Ytnejjaebhjgccaa.Ar
open Go Go.RowKit Go.Proofs.Ytnejjaebhjgccaa.Mem Go.Proofs.Ytnejjaebhjgccaa.Bits
set_option linter.unusedVariables false
set_option linter.unusedSimpArgs false
/-- The block of an address. -/
def AdB (A : Option Addr) : Blocks := fun k => ∃ ad, A = some ad ∧ ad.block = k
def gensV (sl : List Sl) : List Value := sl.map fun s => .int .i64 s.gen
def valsV (sl : List Sl) : List Value := sl.map fun s => .int .i64 s.v
def taksV (sl : List Sl) : List Value := sl.map fun s => .bool s.tk
/-- The reference's arena behind b holds the same slots; which were freed it has the last one first. -/
structure Rf0 (w : World) (B b : Nat) (sl : List Sl) (fr : List Nat) (cap : Int) (gv vv tv : Value) (A : Option Addr) (c : Nat) : Prop where
  blk : Blk w b 54 #[gv, vv, tv, .slice A fr.length c, .int .i64 cap]
  gen : w.ownsRow B 3 1 gv sl.length (gensV sl)
  val : w.ownsRow B 3 1 vv sl.length (valsV sl)
  tak : w.ownsRow B 4 1 tv sl.length (taksV sl)
  fre : Reads w w.heap.size 1 A fr.length (ints (nats fr.reverse))
  cap : fr.length ≤ c
  sep : Sep B w [Just b, OwnB gv, OwnB vv, OwnB tv, AdB A]
def rf (b : Nat) (gv vv tv : Value) (A : Option Addr) : Blocks := fun k => k = b ∨ OwnB gv k ∨ OwnB vv k ∨ OwnB tv k ∨ AdB A k
def Rf (w : World) (B b : Nat) (F : Blocks) (sl : List Sl) (fr : List Nat) (cap : Int) : Prop := ∃ gv vv tv A c, Rf0 w B b sl fr cap gv vv tv A c ∧ ∀ k, F k ↔ rf b gv vv tv A k
section
variable {w w' : World} {B b : Nat} {F G : Blocks} {sl : List Sl} {fr : List Nat} {cap : Int} {gv vv tv : Value} {A : Option Addr} {c : Nat}
theorem Rf0.in_ (h : Rf0 w B b sl fr cap gv vv tv A c) : In B w (rf b gv vv tv A) := fun k hk => by
  rcases hk with e | e | e | e | e
  · exact h.sep.at_ 0 rfl k e
  · exact h.sep.at_ 1 rfl k e
  · exact h.sep.at_ 2 rfl k e
  · exact h.sep.at_ 3 rfl k e
  · exact h.sep.at_ 4 rfl k e
theorem Rf.in_ (h : Rf w B b F sl fr cap) : In B w F := by
  obtain ⟨gv, vv, tv, A, c, h0, hF⟩ := h
  exact fun k hk => h0.in_ k ((hF k).1 hk)
theorem Reads.upd {B size n : Nat} {xs : List Value} (h : Reads w B size A n xs) (hu : Upd G w w') (hd : Dis (AdB A) G) (hB : B ≤ w.heap.size) : Reads w' B size A n xs :=
  ⟨h.1, fun hn => by
    obtain ⟨ad, e, hb, hc⟩ := h.2 hn
    exact ⟨ad, e, hb, fun j u hj => (World.cell?_of_block (hu.block _ (by rw [block_of_add]; omega) (fun hg => hd ad.block ⟨ad, e, rfl⟩ (by rw [block_of_add] at hg; exact hg)))).trans (hc j u hj)⟩⟩
theorem Rf0.keep (h : Rf0 w B b sl fr cap gv vv tv A c) (hu : Upd G w w') (hd : Dis (rf b gv vv tv A) G) : Rf0 w' B b sl fr cap gv vv tv A c :=
  ⟨h.blk.upd hu (hd b (.inl rfl)), own_keep h.gen hu (hd.mono fun k e => .inr (.inl e)), own_keep h.val hu (hd.mono fun k e => .inr (.inr (.inl e))), own_keep h.tak hu (hd.mono fun k e => .inr (.inr (.inr (.inl e)))),
    (Reads.upd h.fre hu (hd.mono fun k e => .inr (.inr (.inr (.inr e)))) (Nat.le_refl _)).more hu.size, h.cap, h.sep.size hu.size⟩
theorem Rf.keep (h : Rf w B b F sl fr cap) (hu : Upd G w w') (hd : Dis F G) : Rf w' B b F sl fr cap := by
  obtain ⟨gv, vv, tv, A, c, h0, hF⟩ := h
  exact ⟨gv, vv, tv, A, c, h0.keep hu (hd.mono fun k hk => (hF k).2 hk), hF⟩
theorem Rf.drewN (h : Rf w B b F sl fr cap) (n : Nat) : Rf (w.drewN n) B b F sl fr cap := by
  obtain ⟨gv, vv, tv, A, c, h0, hF⟩ := h
  exact ⟨gv, vv, tv, A, c, ⟨h0.blk, h0.gen, h0.val, h0.tak, h0.fre, h0.cap, h0.sep.drewN n⟩, hF⟩
end
/-- A new one: a struct of nil slices. -/
theorem rf_new {w : World} {B : Nat} (cap : Int) (hB : B ≤ w.heap.size) : Rf (w.alloc (.cells #[.slice none 0 0, .slice none 0 0, .slice none 0 0, .slice none 0 0, .int .i64 cap] 54)) B w.heap.size (Just w.heap.size) [] [] cap := by
  refine ⟨.slice none 0 0, .slice none 0 0, .slice none 0 0, none, 0, ⟨Blk.new _ _ _, World.ownsRow_nil _ _ _ _, World.ownsRow_nil _ _ _ _, World.ownsRow_nil _ _ _ _, Reads.none_, by simp, ⟨fun F hF => ?_, ?_⟩⟩, fun k => ?_⟩
  · have hn : ∀ k, ¬ OwnB (.slice none 0 0) k := nil_empty
    have hA : ∀ k, ¬ AdB none k := fun k ⟨ad, h, _⟩ => by cases h
    simp only [List.mem_cons, List.not_mem_nil, or_false] at hF
    rcases hF with rfl | rfl | rfl | rfl | rfl
    · exact fun k hk => by obtain rfl : k = w.heap.size := hk; exact ⟨hB, by simp⟩
    · exact fun k hk => absurd hk (hn k)
    · exact fun k hk => absurd hk (hn k)
    · exact fun k hk => absurd hk (hn k)
    · exact fun k hk => absurd hk (hA k)
  · have hn : ∀ F : Blocks, Dis F (OwnB (.slice none 0 0)) := fun F k _ hk => nil_empty k hk
    have hA : ∀ F : Blocks, Dis F (AdB none) := fun F k _ ⟨ad, h, _⟩ => by cases h
    simp only [List.pairwise_cons, List.mem_cons, List.not_mem_nil, or_false, false_implies, implies_true, List.Pairwise.nil, and_true, forall_eq_or_imp, forall_eq]
    exact ⟨⟨hn _, hn _, hn _, hA _⟩, ⟨hn _, hn _, hA _⟩, ⟨hn _, hA _⟩, hA _⟩
  · simp [rf, Just, OwnB, AdB, Value.ownBlock]
/-- The slot of an id as the reference tells it. -/
def findI (sl : List Sl) (id : Int) : Int :=
  match findN sl id with
  | some i => i
  | none => -1
theorem find_match {N : Nat} {sl : List Sl} {fr : List Nat} {cap : Int} (h : Good N sl fr cap) {j : Nat} {s : Sl} (hs : sl[j]? = some s) (id : Int) : (s.tk = true ∧ s.gen * 65536 + (j : Int) = id) ↔ findN sl id = some j := by
  have hj : j < sl.length := (List.getElem?_eq_some_iff.1 hs).1
  have hg := h.gens s (List.mem_of_getElem? hs)
  have hle := h.len
  have hc := h.cap
  constructor
  · rintro ⟨ht, he⟩
    unfold findN
    rw [if_pos (by omega), show (id % 65536).toNat = j by omega, hs]
    simp only
    rw [if_pos ⟨ht, by omega⟩]
  · intro hf
    obtain ⟨h0, hi, u, hu, ht, hug⟩ := findN_some hf
    rw [hs] at hu
    injection hu with hu
    subst hu
    exact ⟨ht, by omega⟩
theorem find_no {sl : List Sl} {id : Int} (h : ∀ j, j < sl.length → findN sl id ≠ some j) : findI sl id = -1 := by
  unfold findI
  cases hf : findN sl id with
  | none => rfl
  | some i =>
    obtain ⟨_, _, s, hs, _⟩ := findN_some hf
    exact absurd hf (h i (List.getElem?_eq_some_iff.1 hs).1)
section
variable {w : World} {B b : Nat} {F : Blocks} {sl : List Sl} {fr : List Nat} {cap : Int} {N : Nat}
theorem gens_at {j : Nat} {s : Sl} (h : sl[j]? = some s) : (gensV sl)[j]? = some (.int .i64 s.gen) := by simp [gensV, h]
theorem vals_at {j : Nat} {s : Sl} (h : sl[j]? = some s) : (valsV sl)[j]? = some (.int .i64 s.v) := by simp [valsV, h]
theorem taks_at {j : Nat} {s : Sl} (h : sl[j]? = some s) : (taksV sl)[j]? = some (.bool s.tk) := by simp [taksV, h]
set_option maxHeartbeats 1000000 in
theorem rfind_any (h : Rf w B b F sl fr cap) (hg : Good N sl fr cap) (hN : N ≤ 1073741823) (id : Int) : Calls Try.prog 28 #[.pointer (some ⟨b, 0, none⟩), .int .i64 id] w fun e w' => e = .returned (.int .i64 (findI sl id)) ∧ w = w' := by
  obtain ⟨gv, vv, tv, A, c, h0, hF⟩ := h
  have c0 : w.cell? ⟨b, 0, none⟩ = some gv := h0.blk.cellv rfl
  have c2 : w.cell? ⟨b, 2, none⟩ = some tv := h0.blk.cellv rfl
  obtain ⟨Ag, cg, rfl⟩ := own_len h0.gen
  obtain ⟨At, ct, rfl⟩ := own_len h0.tak
  have hle := hg.len
  have hcp := hg.cap
  have HH := Lib.hid h0
  clear h0 hF
  go_enter Try.func28, Try.ntmps28
  go_wp2
  go_loopw [5] (fun i wr => ∃ k : Nat, k ≤ sl.length ∧ i = .int .i64 k ∧ (∀ j, j < k → findN sl id ≠ some j) ∧ wr = w) (fun i _ => sl.length - (intOf i).toNat)
  case atStart => exact ⟨0, by omega, rfl, fun j hj => by omega, rfl⟩
  case round =>
    obtain ⟨k, hk, rfl, hno, rfl⟩ := hrel
    by_cases hlt : k < sl.length
    · obtain ⟨s, hs⟩ : ∃ s, sl[k]? = some s := ⟨_, List.getElem?_eq_getElem hlt⟩
      have hm := find_match hg hs id
      have hgs := hg.gens s (List.mem_of_getElem? hs)
      obtain ⟨gg, cp1, e1, -, -, -⟩ := own_form HH.out.gen (by omega)
      have d0 := (e1 ▸ HH.out.gen).cellAt k (by omega)
      rw [gens_at hs] at d0
      simp only [Value.slice.injEq] at e1
      obtain ⟨rfl, -, rfl⟩ := e1
      obtain ⟨gt, cp2, e2, -, -, -⟩ := own_form HH.out.tak (by omega)
      have d1 := (e2 ▸ HH.out.tak).cellAt k (by omega)
      rw [taks_at hs] at d1
      simp only [Value.slice.injEq] at e2
      obtain ⟨rfl, -, rfl⟩ := e2
      obtain ⟨gen, tk, v⟩ := s
      simp only at *
      clear hs
      cases tk
      · have hne : findN sl id ≠ some k := fun e => by simpa using (hm.2 e).1
        clear hm
        go_wp2
        go_roundw
        case rel => exact ⟨k + 1, by omega, by go_num, fun j hj => by
          rcases Nat.lt_or_ge j k with h1 | h1
          · exact hno j h1
          · obtain rfl : j = k := by omega
            exact hne, by first | rfl | trivial⟩
        case measure => simp [intOf]; omega
      · by_cases he : gen * 65536 + (k : Int) = id
        · have hf := hm.1 ⟨rfl, he⟩
          have hfi : (k : Int) = findI sl id := by unfold findI; rw [hf]
          have z1 : (gen * 65536 + (k : Int) == id) = true := beq_iff_eq.mpr he
          have HFi := Lib.hid hfi
          clear hm he hf hfi
          go_wp2
          go_ret
          exact ⟨by rw [← HFi.out]; rfl, rfl⟩
        · have hne : findN sl id ≠ some k := fun e => he (hm.2 e).2
          have z1 : (gen * 65536 + (k : Int) == id) = false := beq_eq_false_iff_ne.mpr he
          clear hm he
          go_wp2
          go_roundw
          case rel => exact ⟨k + 1, by omega, by go_num, fun j hj => by
            rcases Nat.lt_or_ge j k with h1 | h1
            · exact hno j h1
            · obtain rfl : j = k := by omega
              exact hne, by first | rfl | trivial⟩
          case measure => simp [intOf]; omega
    · obtain rfl : k = sl.length := by omega
      have HFi := Lib.hid (find_no hno)
      clear hno
      go_wp2
      go_ret
      exact ⟨by rw [HFi.out]; rfl, rfl⟩
theorem rids_any (h : Rf w B b F sl fr cap) (hg : Good N sl fr cap) (hN : N ≤ 1073741823) : Calls Try.prog 29 #[.pointer (some ⟨b, 0, none⟩)] w fun e w' =>
    ∃ v, e = .returned v ∧ w'.ownsRow w.heap.size 3 1 v (idsTo sl sl.length).length (ints (idsTo sl sl.length)) ∧ Below w.heap.size w w' := by
  obtain ⟨gv, vv, tv, A, c, h0, hF⟩ := h
  obtain ⟨Ag, cg, rfl⟩ := own_len h0.gen
  obtain ⟨At, ct, rfl⟩ := own_len h0.tak
  have hle := hg.len
  have hcp := hg.cap
  obtain ⟨i0, hi0, hz0, hz1, hz2⟩ := info_parts it_info
  have c0 : w.cell? ⟨b, 0, none⟩ = some (.slice Ag sl.length cg) := h0.blk.cellv rfl
  have c2 : w.cell? ⟨b, 2, none⟩ = some (.slice At sl.length ct) := h0.blk.cellv rfl
  have hb : b < w.heap.size := h0.blk.lt
  have HG := Lib.hid h0.gen
  have HT := Lib.hid h0.tak
  have C0 := Lib.hid c0
  have C2 := Lib.hid c2
  clear h0 hF c0 c2
  go_enter Try.func29, Try.ntmps29
  go_wp2
  go_loopw [3, 4] (fun o i wr => ∃ k : Nat, k ≤ sl.length ∧ i = .int .i64 k ∧ Hid (wr.ownsRow w.heap.size 3 1 o (idsTo sl k).length (ints (idsTo sl k))) ∧ Hid (Below w.heap.size w wr)) (fun _ i _ => sl.length - (intOf i).toNat)
  case atStart => exact ⟨0, by omega, rfl, Lib.hid (World.ownsRow_nil _ _ _ _), Lib.hid (Below.refl _ _)⟩
  case round =>
    obtain ⟨k, hk, rfl, HO, HB⟩ := hrel
    have hil := idsTo_len sl k
    have c0 : wr.cell? ⟨b, 0, none⟩ = some (.slice Ag sl.length cg) := (HB.out.cell (p := ⟨b, 0, none⟩) hb).trans C0.out
    have c2 : wr.cell? ⟨b, 2, none⟩ = some (.slice At sl.length ct) := (HB.out.cell (p := ⟨b, 2, none⟩) hb).trans C2.out
    by_cases hlt : k < sl.length
    · obtain ⟨s, hs⟩ : ∃ s, sl[k]? = some s := ⟨_, List.getElem?_eq_getElem hlt⟩
      have hgd : sl.getD k sl0 = s := by rw [List.getD_eq_getElem?_getD, hs]; rfl
      have hgs := hg.gens s (List.mem_of_getElem? hs)
      obtain ⟨gg, cp1, e1, -, hgl1, -⟩ := own_form HG.out (by omega)
      have d0 := (HB.out.cell (p := ⟨gg, k, none⟩) hgl1).trans ((e1 ▸ HG.out).cellAt k (by omega))
      rw [gens_at hs] at d0
      simp only [Value.slice.injEq] at e1
      obtain ⟨rfl, -, rfl⟩ := e1
      obtain ⟨gt, cp2, e2, -, hgl2, -⟩ := own_form HT.out (by omega)
      have d1 := (HB.out.cell (p := ⟨gt, k, none⟩) hgl2).trans ((e2 ▸ HT.out).cellAt k (by omega))
      rw [taks_at hs] at d1
      simp only [Value.slice.injEq] at e2
      obtain ⟨rfl, -, rfl⟩ := e2
      obtain ⟨gen, tk, v⟩ := s
      simp only at *
      clear hs
      cases tk
      · have hid := idsTo_no (sl := sl) (k := k) (by rw [hgd])
        have HId := Lib.hid hid
        clear hid hgd
        go_wp2
        go_roundw
        case rel => exact ⟨k + 1, by omega, by go_num, by rw [HId.out]; exact HO, HB⟩
        case measure => simp [intOf]; omega
      · have hid := idsTo_yes (sl := sl) (k := k) (by rw [hgd])
        rw [hgd] at hid
        simp only at hid
        have HId := Lib.hid hid
        clear hid hgd
        obtain ⟨A3, c3, rfl⟩ := own_len HO.out
        go_wp2_with (first
          | (at_builtin
             refine wpList_append1 rfl (.tmp 21) (.tmp 32) _ rfl w.heap.size 3 i0 _ 8 Try.underlying22 hi0 hz0 hz1 hz2 rfl (.slice A3 (idsTo sl k).length c3) (idsTo sl k).length (ints (idsTo sl k)) rfl
               HO.out (.int .i64 (gen * 65536 + (k : Int))) rfl (by simp [Value.oneCell']) (by simp only [maxLen]; omega) (by omega) HB.out.size ?_
             intro v3 w3 hO3 hU3 hN3))
        go_roundw
        case rel =>
          refine ⟨k + 1, by omega, by go_num, Lib.hid ?_, Lib.hid (below_upd HB.out hU3 (own_in HO.out) (Nat.le_refl _))⟩
          rw [HId.out, ← ints_snoc, List.length_append]
          exact hO3
        case measure => simp [intOf]; omega
    · obtain rfl : k = sl.length := by omega
      go_wp2
      go_ret
      exact ⟨_, rfl, HO.out, HB.out⟩
end
end Go.Proofs.Ytnejjaebhjgccaa.Ar
