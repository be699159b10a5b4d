/- The reference's Alloc and Free over the abstract arena; a store of a value. -/
import Derived.Test.YtnejjaebhjgccaaArP3
namespace Go.Proofs.Ytnejjaebhjgccaa.Ar
open Go Go.RowKit Go.Proofs.Ytnejjaebhjgccaa.Mem Go.Proofs.Ytnejjaebhjgccaa.Bits
set_option linter.unusedVariables false
set_option linter.unusedSimpArgs false
section
variable {w : World} {B b : Nat} {F : Blocks} {sl : List Sl} {fr : List Nat} {cap : Int} {N : Nat} {gl vl tl : List Value} {gv vv tv : Value} {A : Option Addr} {c : Nat}
/-- A freed slot goes in front. -/
theorem Rg.push {w6 : World} {g6 cp6 i : Nat} (h : Rg w B b gl vl tl fr cap gv vv tv A c) (hB : B ≤ w.heap.size) (hown : w6.ownsRow B 3 1 (.slice (some ⟨g6, 0, none⟩) (1 + fr.length) cp6) (1 + fr.length) ([.int .i64 (i : Int)] ++ ints (nats fr.reverse))) (hu : Upd (fun _ => False) w w6) (hf : w.heap.size ≤ g6) :
    Rg (w6.setCell ⟨b, 3, none⟩ (.slice (some ⟨g6, 0, none⟩) (1 + fr.length) cp6)) B b gl vl tl (fr ++ [i]) cap gv vv tv (some ⟨g6, 0, none⟩) cp6 := by
  have hs : Upd (Just b) w6 (w6.setCell ⟨b, 3, none⟩ (.slice (some ⟨g6, 0, none⟩) (1 + fr.length) cp6)) := upd_at rfl
  have hno : ∀ F : Blocks, Dis F (fun _ => False) := fun F => Dis.no F
  have hb6 : Blk w6 b 54 #[gv, vv, tv, .slice A fr.length c, .int .i64 cap] := Blk.upd h.blk hu (fun e => e)
  have hb : b < w.heap.size := h.blk.lt
  have hg6 : g6 < w6.heap.size := (hown.lt g6 rfl).2
  have hgb : b ≠ g6 := by omega
  have hS := h.sep.size hu.size
  have hS2 := hS.size (w' := w6.setCell ⟨b, 3, none⟩ (.slice (some ⟨g6, 0, none⟩) (1 + fr.length) cp6)) hs.size
  have hown2 := own_keep hown hs (fun k hk e => hgb (by
    have : g6 = k := by simpa [OwnB, Value.ownBlock] using hk
    have e' : k = b := e
    omega))
  have e : (fr ++ [i]).length = 1 + fr.length := by simp; omega
  refine ⟨hb6.setv 3 _ (by rw [e]; rfl), own_keep (own_keep h.gen hu (hno _)) hs (hS.dis 1 0 rfl rfl (by decide)), own_keep (own_keep h.val hu (hno _)) hs (hS.dis 2 0 rfl rfl (by decide)), own_keep (own_keep h.tak hu (hno _)) hs (hS.dis 3 0 rfl rfl (by decide)), ?_, ?_, ?_⟩
  · have hr := Reads.of_own hown2
    rw [e]
    simpa [ints, nats] using hr
  · rw [e]
    obtain ⟨g, cap', hv, _, _, hle⟩ := own_form hown (by omega)
    injection hv with _ _ hc
    omega
  · have hA : ∀ k, AdB (some ⟨g6, 0, none⟩) k → k = g6 := fun k hk => by
      obtain ⟨ad, h1, h2⟩ := hk
      injection h1 with h1
      subst h1
      exact h2.symm
    have hd : ∀ F, In B w F → Dis F (AdB (some ⟨g6, 0, none⟩)) := fun F hF k hk ha => by
      have := (hF k hk).2
      have := hA k ha
      omega
    refine ⟨fun F hF => ?_, ?_⟩
    · simp only [List.mem_cons, List.not_mem_nil, or_false] at hF
      rcases hF with rfl | rfl | rfl | rfl | rfl
      · exact hS2.at_ 0 rfl
      · exact hS2.at_ 1 rfl
      · exact hS2.at_ 2 rfl
      · exact hS2.at_ 3 rfl
      · exact fun k hk => by
          rw [hA k hk]
          exact ⟨by omega, by simpa using hg6⟩
    · simp only [List.pairwise_cons, List.mem_cons, List.not_mem_nil, or_false, false_implies, implies_true, List.Pairwise.nil, and_true, forall_eq_or_imp, forall_eq]
      exact ⟨⟨hS2.dis 0 1 rfl rfl (by decide), hS2.dis 0 2 rfl rfl (by decide), hS2.dis 0 3 rfl rfl (by decide), hd _ (h.sep.at_ 0 rfl)⟩, ⟨hS2.dis 1 2 rfl rfl (by decide), hS2.dis 1 3 rfl rfl (by decide), hd _ (h.sep.at_ 1 rfl)⟩, ⟨hS2.dis 2 3 rfl rfl (by decide), hd _ (h.sep.at_ 2 rfl)⟩, hd _ (h.sep.at_ 3 rfl)⟩
/-- Alloc, over the abstract arena. -/
theorem ralloc_x (h : Rf w B b F sl fr cap) (hg : Good N sl fr cap) (hN : N ≤ 1073741823) (hB : B ≤ w.heap.size) (v : Int) : Calls Try.prog 26 #[.pointer (some ⟨b, 0, none⟩), .int .i64 v] w fun e w' =>
    e = .returned (.int .i64 (if (allocS sl fr cap v).2.1 = 0 then (allocS sl fr cap v).1 else -1)) ∧ ∃ F', Rf w' B b F' (allocS sl fr cap v).2.2.1 (allocS sl fr cap v).2.2.2 cap ∧ Upd F w w' ∧ Grow w F F' := by
  have hle := hg.len
  have hcp := hg.cap
  obtain ⟨gv, vv, tv, A, c, h0, hF⟩ := h
  unfold allocS
  cases hl : fr.getLast? with
  | some k =>
    have hfr := getLast_some hl
    obtain ⟨s, hs, ht⟩ := hg.free k (by rw [hfr]; simp)
    have hgd : sl.getD k ⟨0, false, 0⟩ = s := by rw [List.getD_eq_getElem?_getD, hs]; rfl
    have hgs := hg.gens s (List.mem_of_getElem? hs)
    have h1 := h0.rg
    rw [hfr] at h1
    simp only [hgd, if_true]
    refine (ralloc_again h1 hs (by omega) ⟨hgs.1, by omega⟩ v).mono ?_
    rintro e w1 ⟨he, A', c', ha, hu, hn⟩
    refine ⟨he, rf b gv vv tv A', ⟨gv, vv, tv, A', c', ha.rf0, fun _ => Iff.rfl⟩, hu.mono (fun i _ hi => (hF i).2 hi), fun q hq => .inl ((hF q).2 ?_)⟩
    rcases hq with e | e | e | e | e
    · exact .inl e
    · exact .inr (.inl e)
    · exact .inr (.inr (.inl e))
    · exact .inr (.inr (.inr (.inl e)))
    · exact .inr (.inr (.inr (.inr (hn q e))))
  | none =>
    have hnil : fr = [] := List.getLast?_eq_none_iff.mp hl
    subst hnil
    simp only
    by_cases hc : (sl.length : Int) = cap
    · rw [if_pos hc]
      refine (ralloc_full h0.rg hc v).mono ?_
      rintro e w1 ⟨he, rfl⟩
      exact ⟨he, F, ⟨gv, vv, tv, A, c, h0, hF⟩, Upd.refl _ _, Grow.refl _ _⟩
    · rw [if_neg hc]
      have hl1 : (gensV sl).length = sl.length := by simp [gensV]
      simp only [if_true]
      have := ralloc_more h0.rg (by simp [gensV, valsV]) (by simp [gensV, taksV]) hB (by rw [hl1]; omega) hcp v
      rw [hl1] at this
      refine this.mono ?_
      rintro e w1 ⟨he, gv', vv', tv', ha, hu, hn⟩
      refine ⟨he, rf b gv' vv' tv' A, ⟨gv', vv', tv', A, c, ?_, fun _ => Iff.rfl⟩, hu.mono (fun i _ hi => (hF i).2 hi), fun q hq => (hn q hq).imp (fun h => (hF q).2 h) id⟩
      refine Rg.rf0 ?_
      rw [gensV_snoc, valsV_snoc, taksV_snoc]
      exact ha
theorem rfree_none (h : Rf w B b F sl fr cap) (hg : Good N sl fr cap) (hN : N ≤ 1073741823) {id : Int} (hf : findN sl id = none) : Calls Try.prog 27 #[.pointer (some ⟨b, 0, none⟩), .int .i64 id] w fun e w' =>
    e = .returned (.bool false) ∧ w = w' := by
  have H := rfind_any h hg hN id
  unfold findI at H
  rw [hf] at H
  simp only at H
  have HH := Lib.hid H
  clear H h hf
  go_enter Try.func27, Try.ntmps27
  go_wp2_with (first | (go_at_call 28; (with_reducible refine HH.out.mono ?_); rintro e w1 ⟨rfl, rfl⟩))
  go_ret
  exact ⟨rfl, rfl⟩
set_option maxHeartbeats 2000000 in
theorem rfree_some (h : Rf w B b F sl fr cap) (hg : Good N sl fr cap) (hN : N ≤ 1073741823) (hB : B ≤ w.heap.size) {id : Int} {i : Nat} {s : Sl} (hf : findN sl id = some i) (hs : sl[i]? = some s) : Calls Try.prog 27 #[.pointer (some ⟨b, 0, none⟩), .int .i64 id] w fun e w' =>
    e = .returned (.bool true) ∧ ∃ F', Rf w' B b F' (sl.set i ⟨s.gen, false, 0⟩) (fr ++ [i]) cap ∧ Upd F w w' ∧ Grow w F F' := by
  have hil : i < sl.length := (List.getElem?_eq_some_iff.1 hs).1
  have hle := hg.len
  have hcp := hg.cap
  have hfl := hg.frlen
  have H := rfind_any h hg hN id
  unfold findI at H
  rw [hf] at H
  simp only at H
  have HH := Lib.hid H
  obtain ⟨gv, vv, tv, A, c, h0, hF⟩ := h
  have h1 := h0.rg
  obtain ⟨i0, hi0, hz0, hz1, hz2⟩ := info_parts it_info
  obtain ⟨gn, cn, rfl, -, -, -⟩ := own_form h0.val (by omega)
  obtain ⟨gt, ct, rfl, -, -, -⟩ := own_form h0.tak (by omega)
  have HU := Lib.hid (Upd.refl (rf b gv (.slice (some ⟨gn, 0, none⟩) sl.length cn) (.slice (some ⟨gt, 0, none⟩) sl.length ct) A) w)
  have HF := Lib.hid hF
  have HS := Lib.hid hs
  have HR := Lib.hid h1
  have c2 : w.cell? ⟨b, 2, none⟩ = some (.slice (some ⟨gt, 0, none⟩) sl.length ct) := h1.blk.cellv rfl
  have d2 : w.cell? ⟨gt, i, none⟩ = some (.bool s.tk) := ((own_n h1.tak).1.cellAt i (by omega)).trans (taks_at hs)
  have f2 : w.frozen? ⟨gt, i, none⟩ = false := (own_n h1.tak).1.frozenAt _
  clear H hf h0 h1 hF hs
  go_enter Try.func27, Try.ntmps27
  go_upto_region 5 with (first | (go_at_call 28; (with_reducible refine HH.out.mono ?_); rintro e w1 ⟨rfl, rfl⟩))
  have hA1 := HR.out.set_tak i (.bool false)
  have HU1 := Lib.hid (HU.out.setCell (p := ⟨gt, i, none⟩) (fun _ => .inr (.inr (.inr (.inl rfl)))) (Value.bool false))
  clear c2 d2 f2 HR HU HH
  generalize World.setCell _ _ _ = W1 at *
  have c1 : W1.cell? ⟨b, 1, none⟩ = some (.slice (some ⟨gn, 0, none⟩) sl.length cn) := hA1.blk.cellv rfl
  have d1 : W1.cell? ⟨gn, i, none⟩ = some (.int .i64 s.v) := ((own_n hA1.val).1.cellAt i (by omega)).trans (vals_at HS.out)
  have f1 : W1.frozen? ⟨gn, i, none⟩ = false := (own_n hA1.val).1.frozenAt _
  have HA1 := Lib.hid hA1
  clear hA1
  go_upto_region 6 with fail
  have hA2 := HA1.out.set_val i (.int .i64 0)
  have HU2 := Lib.hid (HU1.out.setCell (p := ⟨gn, i, none⟩) (fun _ => .inr (.inr (.inl rfl))) (Value.int .i64 0))
  clear c1 d1 f1 HA1 HU1
  generalize World.setCell _ _ _ = W2 at *
  have c3 : W2.cell? ⟨b, 3, none⟩ = some (.slice A fr.length c) := hA2.blk.cellv rfl
  have c3a : (W2.alloc (.cells #[.int .i64 (i : Int)] 3)).cell? ⟨b, 3, none⟩ = some (.slice A fr.length c) := (hA2.blk.alloc _).cellv rfl
  have hB2 : B ≤ W2.heap.size := Nat.le_trans hB HU2.out.size
  have hws : w.heap.size ≤ W2.heap.size := HU2.out.size
  have HA2 := Lib.hid hA2
  clear hA2
  have hlit : (W2.alloc (.cells #[.int .i64 (i : Int)] 3)).ownsRow B 3 1 (.slice (some ⟨W2.heap.size, 0, none⟩) 1 1) 1 [.int .i64 (i : Int)] := by
    have := World.ownsRow_lit (base := B) (e := 3) (size := 1) W2 #[.int .i64 (i : Int)] 1 hB2 (by simp [maxLen]) rfl
    simpa using this
  have HL := Lib.hid hlit
  clear hlit
  go_upto_region 8 with (first
    | (at_builtin
       refine wpList_append_any _ rfl (.tmp 27) (.tmp 31) _ rfl B 3 i0 _ 1 8 Try.underlying22 hi0 hz0 hz1 hz2 rfl (by omega) (.slice (some ⟨W2.heap.size, 0, none⟩) 1 1) 1 [.int .i64 (i : Int)] rfl
         HL.out W2.heap.size A fr.length c (ints (nats fr.reverse)) rfl (HA2.out.fre.alloc (Nat.le_refl _) _) (fun u hu => by simp [ints] at hu; obtain ⟨x, _, rfl⟩ := hu; rfl) (by simp only [maxLen]; omega) (by omega) (by simp; omega) ?_
       intro v6 w6 hown hg6 hat
       obtain ⟨g6, cp6, rfl, hbg6, hgl6, hnc6⟩ := own_form hown (by omega)
       have hu6 : Upd (fun _ => False) W2 w6 := (((Upd.refl (fun k => W2.heap.size ≤ k) W2).alloc (.cells #[.int .i64 (i : Int)] 3)).trans (grown_upd hg6) (fun k _ hk => by
         have : W2.heap.size = k := by simpa [OwnB, Value.ownBlock] using hk
         omega)).mono (fun k hk hf => by omega)
       have hfr6 : W2.heap.size ≤ g6 := by
         rcases hat with e | e
         · have : g6 = W2.heap.size := by simpa [Value.ownBlock] using e
           omega
         · have : g6 = W2.heap.size + 1 := by simpa [Value.ownBlock] using e
           omega
       have hb6 : Blk w6 b 54 _ := Blk.upd HA2.out.blk hu6 (fun e => e)
       have f6 : w6.frozen? ⟨b, 3, none⟩ = false := hb6.frozen 3
       have e6 : w6.cell? ⟨b, 3, none⟩ = some _ := hb6.cellv rfl))
  have hA3 := HA2.out.push hB2 hown hu6 hfr6
  have HU3 := Lib.hid ((HU2.out.trans hu6 (fun _ _ h => h.elim)).setCell (p := ⟨b, 3, none⟩) (fun _ => .inl rfl) (.slice (some ⟨g6, 0, none⟩) (1 + fr.length) cp6))
  have HA3 := Lib.hid hA3
  clear hA3 hown hg6 hat hu6 hb6 f6 e6 c3 c3a HL HA2 HU2
  generalize World.setCell _ _ _ = W3 at *
  go_wp2
  go_ret
  refine ⟨rfl, rf b gv (.slice (some ⟨gn, 0, none⟩) sl.length cn) (.slice (some ⟨gt, 0, none⟩) sl.length ct) (some ⟨g6, 0, none⟩), ⟨gv, .slice (some ⟨gn, 0, none⟩) sl.length cn, .slice (some ⟨gt, 0, none⟩) sl.length ct, some ⟨g6, 0, none⟩, cp6, Rg.rf0 ?_, fun _ => Iff.rfl⟩, HU3.out.mono (fun k _ hk => (HF.out k).2 hk), fun q hq => ?_⟩
  · rw [gensV_set, valsV_set, taksV_set]
    have hge : (gensV sl).set i (.int .i64 s.gen) = gensV sl := by
      apply List.ext_getElem?
      intro j
      by_cases hj : i = j
      · subst hj
        rw [List.getElem?_set_self (by simp [gensV, hil]), gens_at HS.out]
      · rw [List.getElem?_set_ne hj]
    rw [hge]
    exact HA3.out
  · rcases hq with e | e | e | e | e
    · exact .inl ((HF.out q).2 (.inl e))
    · exact .inl ((HF.out q).2 (.inr (.inl e)))
    · exact .inl ((HF.out q).2 (.inr (.inr (.inl e))))
    · exact .inl ((HF.out q).2 (.inr (.inr (.inr (.inl e)))))
    · obtain ⟨ad, h1, h2⟩ := e
      injection h1 with h1
      subst h1
      have h3 : g6 = q := h2
      exact .inr (by omega)
/-- Free, over the abstract arena. -/
theorem rfree_x (h : Rf w B b F sl fr cap) (hg : Good N sl fr cap) (hN : N ≤ 1073741823) (hB : B ≤ w.heap.size) (id : Int) : Calls Try.prog 27 #[.pointer (some ⟨b, 0, none⟩), .int .i64 id] w fun e w' =>
    e = .returned (.bool (findN sl id).isSome) ∧ ∃ F', Rf w' B b F' (freeS sl fr id).2.1 (freeS sl fr id).2.2 cap ∧ Upd F w w' ∧ Grow w F F' := by
  unfold freeS
  cases hf : findN sl id with
  | none =>
    refine (rfree_none h hg hN hf).mono ?_
    rintro e w1 ⟨he, rfl⟩
    exact ⟨he, F, h, Upd.refl _ _, Grow.refl _ _⟩
  | some i =>
    obtain ⟨_, _, s, hs, ht, _⟩ := findN_some hf
    have hgd : sl.getD i ⟨0, false, 0⟩ = s := by rw [List.getD_eq_getElem?_getD, hs]; rfl
    simp only [hgd]
    exact rfree_some h hg hN hB hf hs
end
end Go.Proofs.Ytnejjaebhjgccaa.Ar
