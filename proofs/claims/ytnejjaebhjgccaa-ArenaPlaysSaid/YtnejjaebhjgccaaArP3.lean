/- The contract of the reference's Alloc. -/
import Derived.Test.YtnejjaebhjgccaaArP2
import Derived.Deep.DeepCutAuto
namespace Go.Proofs.Ytnejjaebhjgccaa.Ar
open Go Go.RowKit Go.Proofs.Ytnejjaebhjgccaa.Mem Go.Proofs.Ytnejjaebhjgccaa.Bits
set_option linter.unusedVariables false
set_option linter.unusedSimpArgs false
section
variable {w : World} {B b : Nat} {sl : List Sl} {fr : List Nat} {cap : Int} {gv vv tv : Value} {A : Option Addr} {c : Nat}
set_option maxHeartbeats 2000000 in
theorem ralloc_again {k : Nat} {s : Sl} (h : Rg w B b (gensV sl) (valsV sl) (taksV sl) (fr ++ [k]) cap gv vv tv A c) (hs : sl[k]? = some s) (hsl : sl.length ≤ 65536) (hg0 : 0 ≤ s.gen ∧ s.gen ≤ 1073741824) (v : Int) : Calls Try.prog 26 #[.pointer (some ⟨b, 0, none⟩), .int .i64 v] w fun e w' =>
    e = .returned (.int .i64 ((s.gen + 1) * 65536 + (k : Int))) ∧ ∃ A' c', Rg w' B b (gensV (sl.set k ⟨s.gen + 1, true, v⟩)) (valsV (sl.set k ⟨s.gen + 1, true, v⟩)) (taksV (sl.set k ⟨s.gen + 1, true, v⟩)) fr cap gv vv tv A' c' ∧ Upd (rf b gv vv tv A) w w' ∧ (∀ q, AdB A' q → AdB A q) := by
  have hkl : k < sl.length := (List.getElem?_eq_some_iff.1 hs).1
  have c0 : w.cell? ⟨b, 0, none⟩ = some gv := h.blk.cellv rfl
  have c1 : w.cell? ⟨b, 1, none⟩ = some vv := h.blk.cellv rfl
  have c2 : w.cell? ⟨b, 2, none⟩ = some tv := h.blk.cellv rfl
  have c3 : w.cell? ⟨b, 3, none⟩ = some (.slice A (fr ++ [k]).length c) := h.blk.cellv rfl
  have f3 : w.frozen? ⟨b, 3, none⟩ = false := h.blk.frozen 3
  obtain ⟨gg, cg, rfl, -, -, -⟩ := own_form h.gen (by simp [gensV]; omega)
  obtain ⟨gn, cn, rfl, -, -, -⟩ := own_form h.val (by simp [valsV]; omega)
  obtain ⟨gt, ct, rfl, -, -, -⟩ := own_form h.tak (by simp [taksV]; omega)
  obtain ⟨ad, u, rfl, hadb, hu, hcu⟩ := h.fre.at_ (k := 0) (by simp)
  have hu2 : u = .int .i64 k := by simp [ints, nats] at hu; exact hu.symm
  subst hu2
  have hlen : (fr ++ [k]).length = fr.length + 1 := by simp
  have hcap := h.cap
  rw [hlen] at c3 hcap
  have hP := h.pop
  have HU := Lib.hid ((Upd.refl (rf b (.slice (some ⟨gg, 0, none⟩) (gensV sl).length cg) (.slice (some ⟨gn, 0, none⟩) (valsV sl).length cn) (.slice (some ⟨gt, 0, none⟩) (taksV sl).length ct) (some ad)) w).setCell (p := ⟨b, 3, none⟩) (fun _ => .inl rfl) (Value.slice (if c = 1 then some ad else some { block := ad.block, off := ad.off + 1 }) fr.length (c - 1)))
  have HP := Lib.hid hP
  have hl1 : (gensV sl).length = sl.length := by simp [gensV]
  have hl2 : (valsV sl).length = sl.length := by simp [valsV]
  have hl3 : (taksV sl).length = sl.length := by simp [taksV]
  rw [hl1] at c0
  rw [hl2] at c1
  rw [hl3] at c2
  have hcu' : w.cell? ad = some (.int .i64 (k : Int)) := hcu
  clear hcu
  have HAd : Hid (∀ q, AdB (if c = 1 then some ad else some { block := ad.block, off := ad.off + 1 }) q → AdB (some ad) q) := Lib.hid (fun q hq => by
    obtain ⟨a1, h1, h2⟩ := hq
    split at h1
    · exact ⟨a1, h1, h2⟩
    · injection h1 with h1
      subst h1
      exact ⟨ad, rfl, h2⟩)
  clear h hP hu
  go_enter Try.func26, Try.ntmps26
  go_upto_region 10 with fail
  have hA1 := HP.out
  clear c0 c1 c2 c3 f3 HP hcu' hlen
  generalize World.setCell _ _ _ = W2 at *
  generalize (if c = 1 then some ad else some { block := ad.block, off := ad.off + 1 } : Option Addr) = A2 at *
  generalize c - 1 = c2 at *
  have hAd : ∀ q, AdB A2 q → AdB (some ad) q := HAd.out
  have HAq := Lib.hid hAd
  clear hAd HAd
  have HG1 : Hid (gg < w.heap.size → rf b (.slice (some ⟨gg, 0, none⟩) (gensV sl).length cg) (.slice (some ⟨gn, 0, none⟩) (valsV sl).length cn) (.slice (some ⟨gt, 0, none⟩) (taksV sl).length ct) (some ad) gg) := Lib.hid (fun _ => .inr (.inl rfl))
  have HG2 : Hid (gn < w.heap.size → rf b (.slice (some ⟨gg, 0, none⟩) (gensV sl).length cg) (.slice (some ⟨gn, 0, none⟩) (valsV sl).length cn) (.slice (some ⟨gt, 0, none⟩) (taksV sl).length ct) (some ad) gn) := Lib.hid (fun _ => .inr (.inr (.inl rfl)))
  have HG3 : Hid (gt < w.heap.size → rf b (.slice (some ⟨gg, 0, none⟩) (gensV sl).length cg) (.slice (some ⟨gn, 0, none⟩) (valsV sl).length cn) (.slice (some ⟨gt, 0, none⟩) (taksV sl).length ct) (some ad) gt) := Lib.hid (fun _ => .inr (.inr (.inr (.inl rfl))))
  obtain ⟨gen, tk, vo⟩ := s
  simp only at hg0 ⊢
  have HS := Lib.hid hs
  have a0 : W2.cell? ⟨b, 0, none⟩ = some (.slice (some ⟨gg, 0, none⟩) sl.length cg) := hl1 ▸ hA1.blk.cellv rfl
  have d0 : W2.cell? ⟨gg, k, none⟩ = some (.int .i64 gen) := (hA1.gen.cellAt k (by omega)).trans (gens_at hs)
  have g0 : W2.frozen? ⟨gg, k, none⟩ = false := hA1.gen.frozenAt k
  have HA1 := Lib.hid hA1
  clear hs hA1
  go_upto_region 11 with fail
  have hA2 := HA1.out.set_gen k (.int .i64 (gen + 1))
  have HU2 := Lib.hid (HU.out.setCell (p := ⟨gg, k, none⟩) HG1.out (Value.int .i64 (gen + 1)))
  clear a0 d0 g0 HA1 HU
  generalize World.setCell _ _ _ = W3 at *
  have a1 : W3.cell? ⟨b, 1, none⟩ = some (.slice (some ⟨gn, 0, none⟩) sl.length cn) := hl2 ▸ hA2.blk.cellv rfl
  have d1 : W3.cell? ⟨gn, k, none⟩ = some (.int .i64 vo) := (hA2.val.cellAt k (by omega)).trans (vals_at HS.out)
  have g1 : W3.frozen? ⟨gn, k, none⟩ = false := hA2.val.frozenAt k
  have HA2 := Lib.hid hA2
  clear hA2
  go_upto_region 12 with fail
  have hA3 := HA2.out.set_val k (.int .i64 v)
  have HU3 := Lib.hid (HU2.out.setCell (p := ⟨gn, k, none⟩) HG2.out (Value.int .i64 v))
  clear a1 d1 g1 HA2 HU2
  generalize World.setCell _ _ _ = W4 at *
  have a2 : W4.cell? ⟨b, 2, none⟩ = some (.slice (some ⟨gt, 0, none⟩) sl.length ct) := hl3 ▸ hA3.blk.cellv rfl
  have d2 : W4.cell? ⟨gt, k, none⟩ = some (.bool tk) := (hA3.tak.cellAt k (by omega)).trans (taks_at HS.out)
  have g2 : W4.frozen? ⟨gt, k, none⟩ = false := hA3.tak.frozenAt k
  have HA3 := Lib.hid hA3
  clear hA3
  go_upto_region 13 with fail
  have hA4 := HA3.out.set_tak k (.bool true)
  have HU4 := Lib.hid (HU3.out.setCell (p := ⟨gt, k, none⟩) HG3.out (Value.bool true))
  clear a2 d2 g2 HA3 HU3
  generalize World.setCell _ _ _ = W5 at *
  have hG4 := hA4.gen
  rw [List.length_set] at hG4
  have a0 : W5.cell? ⟨b, 0, none⟩ = some (.slice (some ⟨gg, 0, none⟩) sl.length cg) := hl1 ▸ hA4.blk.cellv rfl
  have d0 : W5.cell? ⟨gg, k, none⟩ = some (.int .i64 (gen + 1)) := (hG4.cellAt k (by omega)).trans (by rw [List.getElem?_set_self (by omega)])
  clear hG4
  have HA4 := Lib.hid hA4
  clear hA4
  go_wp2
  go_ret
  have hf1 := HA4.out
  have hf2 := HU4.out
  rw [hl1, hl2, hl3] at hf1 hf2
  refine ⟨rfl, A2, ⟨c2, ?_⟩, hf2, HAq.out⟩
  rw [gensV_set, valsV_set, taksV_set]
  exact hf1
theorem ralloc_full (h : Rg w B b (gensV sl) (valsV sl) (taksV sl) [] cap gv vv tv A c) (hc : (sl.length : Int) = cap) (v : Int) : Calls Try.prog 26 #[.pointer (some ⟨b, 0, none⟩), .int .i64 v] w fun e w' =>
    e = .returned (.int .i64 (-1)) ∧ w = w' := by
  have c0 : w.cell? ⟨b, 0, none⟩ = some gv := h.blk.cellv rfl
  have c3 : w.cell? ⟨b, 3, none⟩ = some (.slice A ([] : List Nat).length c) := h.blk.cellv rfl
  have c4 : w.cell? ⟨b, 4, none⟩ = some (.int .i64 cap) := h.blk.cellv rfl
  have hl1 : (gensV sl).length = sl.length := by simp [gensV]
  obtain ⟨Ag, cg, rfl⟩ := own_len h.gen
  rw [hl1] at c0
  simp only [List.length_nil] at c3
  subst hc
  clear h
  go_enter Try.func26, Try.ntmps26
  go_wp2
  go_ret
  exact ⟨rfl, rfl⟩
theorem bool_info : (Try.prog.info? 4).map (fun i => (i.zero, i.size, i.bytes)) = some (some (.bool false), 1, 1) := by kernel_rfl
theorem own_n {w : World} {base : Nat} {e : TypeId} {size n m g cp : Nat} {xs : List Value} (h : w.ownsRow base e size (.slice (some ⟨g, 0, none⟩) n cp) m xs) : w.ownsRow base e size (.slice (some ⟨g, 0, none⟩) n cp) n xs ∧ n = m := by
  obtain ⟨A', c', e'⟩ := own_len h
  obtain rfl : n = m := by injection e'
  exact ⟨h, rfl⟩
variable {gl vl tl : List Value}
set_option maxHeartbeats 2000000 in
theorem ralloc_more (h : Rg w B b gl vl tl [] cap gv vv tv A c) (hvl : vl.length = gl.length) (htl : tl.length = gl.length) (hB : B ≤ w.heap.size) (hc : (gl.length : Int) < cap) (hcap : cap ≤ 65536) (v : Int) : Calls Try.prog 26 #[.pointer (some ⟨b, 0, none⟩), .int .i64 v] w fun e w' =>
    e = .returned (.int .i64 (65536 + (gl.length : Int))) ∧ ∃ gv' vv' tv', Rg w' B b (gl ++ [.int .i64 1]) (vl ++ [.int .i64 v]) (tl ++ [.bool true]) [] cap gv' vv' tv' A c ∧ Upd (rf b gv vv tv A) w w' ∧ Grow w (rf b gv vv tv A) (rf b gv' vv' tv' A) := by
  have c0 : w.cell? ⟨b, 0, none⟩ = some gv := h.blk.cellv rfl
  have c3 : w.cell? ⟨b, 3, none⟩ = some (.slice A ([] : List Nat).length c) := h.blk.cellv rfl
  have c4 : w.cell? ⟨b, 4, none⟩ = some (.int .i64 cap) := h.blk.cellv rfl
  obtain ⟨Ag, cg, rfl⟩ := own_len h.gen
  obtain ⟨An, cn, rfl⟩ := own_len h.val
  obtain ⟨At, ct, rfl⟩ := own_len h.tak
  simp only [List.length_nil] at c3
  obtain ⟨i0, hi0, hz0, hz1, hz2⟩ := info_parts it_info
  obtain ⟨i1, hi1, hy0, hy1, hy2⟩ := info_parts bool_info
  have HH := Lib.hid h
  have hL : gl.length ≤ 65536 := by omega
  have hU0 : Upd (rf b (.slice Ag gl.length cg) (.slice An vl.length cn) (.slice At tl.length ct) A) w w := Upd.refl _ _
  have hF0 : Grow w (rf b (.slice Ag gl.length cg) (.slice An vl.length cn) (.slice At tl.length ct) A) (rf b (.slice Ag gl.length cg) (.slice An vl.length cn) (.slice At tl.length ct) A) := Grow.refl _ _
  have HU0 := Lib.hid hU0
  have HV := Lib.hid hvl
  have HT := Lib.hid htl
  have hL2 : vl.length ≤ 65536 := by omega
  have hL3 : tl.length ≤ 65536 := by omega
  have hq2 : gl.length < vl.length + 1 := by omega
  have hq3 : gl.length < tl.length + 1 := by omega
  clear h hU0 hF0 hvl htl
  go_enter Try.func26, Try.ntmps26
  go_upto_region 8 with (first
    | (at_builtin
       refine wpList_append1 rfl (.tmp 41) (.tmp 42) _ rfl B 3 i0 _ 8 Try.underlying22 hi0 hz0 hz1 hz2 rfl (.slice Ag gl.length cg) gl.length gl rfl
         HH.out.gen (.int .i64 0) rfl (by simp [Value.oneCell']) (by simp only [maxLen]; omega) (by omega) hB ?_
       intro v1 w1 hO1 hU1 hN1
       obtain ⟨g1, cp1, rfl, hbg1, hgl1, hnc1⟩ := own_form hO1 (by omega)
       have hb1 : Blk w1 b 54 _ := Blk.upd HH.out.blk hU1 (fun e => HH.out.sep.dis 0 1 rfl rfl (by decide) b rfl e)
       have f1 : w1.frozen? ⟨b, 0, none⟩ = false := hb1.frozen 0
       have e1 : w1.cell? ⟨b, 0, none⟩ = some _ := hb1.cellv rfl))
  have hA1 := HH.out.app_gen hB hO1 hU1 hN1
  have HU1 := Lib.hid ((HU0.out.trans hU1 (fun _ _ h => .inr (.inl h))).setCell (p := ⟨b, 0, none⟩) (fun _ => .inl rfl) (.slice (some ⟨g1, 0, none⟩) (gl.length + 1) cp1))
  have HN1 := Lib.hid hN1
  have hB1 : B ≤ (w1.setCell ⟨b, 0, none⟩ (.slice (some ⟨g1, 0, none⟩) (gl.length + 1) cp1)).heap.size := Nat.le_trans hB HU1.out.size
  clear hO1 hU1 hN1 hb1 f1 e1 HH HU0 c0 c3 c4
  generalize World.setCell _ _ _ = W1 at *
  have HA1 := Lib.hid hA1
  have c1 : W1.cell? ⟨b, 1, none⟩ = some (.slice An vl.length cn) := hA1.blk.cellv rfl
  clear hA1
  go_upto_region 9 with (first
    | (at_builtin
       refine wpList_append1 rfl (.tmp 50) (.tmp 51) _ rfl B 3 i0 _ 8 Try.underlying22 hi0 hz0 hz1 hz2 rfl (.slice An vl.length cn) vl.length vl rfl
         HA1.out.val (.int .i64 0) rfl (by simp [Value.oneCell']) (by simp only [maxLen]; omega) (by omega) hB1 ?_
       intro v2 w2 hO2 hU2 hN2
       obtain ⟨g2, cp2, rfl, hbg2, hgl2, hnc2⟩ := own_form hO2 (by omega)
       have hb2 : Blk w2 b 54 _ := Blk.upd HA1.out.blk hU2 (fun e => HA1.out.sep.dis 0 2 rfl rfl (by decide) b rfl e)
       have f2 : w2.frozen? ⟨b, 1, none⟩ = false := hb2.frozen 1
       have e2 : w2.cell? ⟨b, 1, none⟩ = some _ := hb2.cellv rfl))
  have hA2 := HA1.out.app_val hB1 hO2 hU2 hN2
  have HU2 := Lib.hid ((HU1.out.trans hU2 (fun _ _ h => .inr (.inr (.inl h)))).setCell (p := ⟨b, 1, none⟩) (fun _ => .inl rfl) (.slice (some ⟨g2, 0, none⟩) (vl.length + 1) cp2))
  have HN2 : Hid (Grow w (OwnB (.slice An vl.length cn)) (OwnB (.slice (some ⟨g2, 0, none⟩) (vl.length + 1) cp2))) := Lib.hid (fun q hq => (hN2 q hq).imp id (fun h => Nat.le_trans HU1.out.size h))
  have hB2 : B ≤ (w2.setCell ⟨b, 1, none⟩ (.slice (some ⟨g2, 0, none⟩) (vl.length + 1) cp2)).heap.size := Nat.le_trans hB HU2.out.size
  clear hO2 hU2 hN2 hb2 f2 e2 HA1 HU1 c1
  generalize World.setCell _ _ _ = W2 at *
  have HA2 := Lib.hid hA2
  have c2 : W2.cell? ⟨b, 2, none⟩ = some (.slice At tl.length ct) := hA2.blk.cellv rfl
  clear hA2
  go_upto_region 10 with (first
    | (at_builtin
       refine wpList_append1 rfl (.tmp 59) (.tmp 60) _ rfl B 4 i1 _ 1 Try.underlying52 hi1 hy0 hy1 hy2 rfl (.slice At tl.length ct) tl.length tl rfl
         HA2.out.tak (.bool false) rfl (by simp [Value.oneCell']) (by simp only [maxLen]; omega) (by omega) hB2 ?_
       intro v3 w3 hO3 hU3 hN3
       obtain ⟨g3, cp3, rfl, hbg3, hgl3, hnc3⟩ := own_form hO3 (by omega)
       have hb3 : Blk w3 b 54 _ := Blk.upd HA2.out.blk hU3 (fun e => HA2.out.sep.dis 0 3 rfl rfl (by decide) b rfl e)
       have f3 : w3.frozen? ⟨b, 2, none⟩ = false := hb3.frozen 2
       have e3 : w3.cell? ⟨b, 2, none⟩ = some _ := hb3.cellv rfl))
  have hA3 := HA2.out.app_tak hB2 hO3 hU3 hN3
  have HU3 := Lib.hid ((HU2.out.trans hU3 (fun _ _ h => .inr (.inr (.inr (.inl h))))).setCell (p := ⟨b, 2, none⟩) (fun _ => .inl rfl) (.slice (some ⟨g3, 0, none⟩) (tl.length + 1) cp3))
  have HN3 : Hid (Grow w (OwnB (.slice At tl.length ct)) (OwnB (.slice (some ⟨g3, 0, none⟩) (tl.length + 1) cp3))) := Lib.hid (fun q hq => (hN3 q hq).imp id (fun h => Nat.le_trans HU2.out.size h))
  clear hO3 hU3 hN3 hb3 f3 e3 HA2 HU2 c2
  generalize World.setCell _ _ _ = W3 at *
  have hgr : Grow w (rf b (.slice Ag gl.length cg) (.slice An vl.length cn) (.slice At tl.length ct) A) (rf b (.slice (some ⟨g1, 0, none⟩) (gl.length + 1) cp1) (.slice (some ⟨g2, 0, none⟩) (vl.length + 1) cp2) (.slice (some ⟨g3, 0, none⟩) (tl.length + 1) cp3) A) := fun q hq => by
    rcases hq with e | e | e | e | e
    · exact .inl (.inl e)
    · exact (HN1.out q e).imp (fun h => .inr (.inl h)) id
    · exact (HN2.out q e).imp (fun h => .inr (.inr (.inl h))) id
    · exact (HN3.out q e).imp (fun h => .inr (.inr (.inr (.inl h)))) id
    · exact .inl (.inr (.inr (.inr (.inr e))))
  have HGr := Lib.hid hgr
  have HG1 : Hid (g1 < w.heap.size → rf b (.slice Ag gl.length cg) (.slice An vl.length cn) (.slice At tl.length ct) A g1) := Lib.hid (fun hl => (hgr g1 (.inr (.inl rfl))).resolve_right (by omega))
  have HG2 : Hid (g2 < w.heap.size → rf b (.slice Ag gl.length cg) (.slice An vl.length cn) (.slice At tl.length ct) A g2) := Lib.hid (fun hl => (hgr g2 (.inr (.inr (.inl rfl)))).resolve_right (by omega))
  have HG3 : Hid (g3 < w.heap.size → rf b (.slice Ag gl.length cg) (.slice An vl.length cn) (.slice At tl.length ct) A g3) := Lib.hid (fun hl => (hgr g3 (.inr (.inr (.inr (.inl rfl))))).resolve_right (by omega))
  clear hgr HN1 HN2 HN3
  have a0 : W3.cell? ⟨b, 0, none⟩ = some (.slice (some ⟨g1, 0, none⟩) (gl.length + 1) cp1) := hA3.blk.cellv rfl
  have d0 : W3.cell? ⟨g1, gl.length, none⟩ = some (.int .i64 0) := ((own_n hA3.gen).1.cellAt gl.length (by omega)).trans (by simp)
  have g0 : W3.frozen? ⟨g1, gl.length, none⟩ = false := (own_n hA3.gen).1.frozenAt _
  have HA3 := Lib.hid hA3
  clear hA3
  go_upto_region 11 with fail
  have hA4 := HA3.out.set_gen gl.length (.int .i64 1)
  have HU4 := Lib.hid (HU3.out.setCell (p := ⟨g1, gl.length, none⟩) HG1.out (Value.int .i64 1))
  clear a0 d0 g0 HA3 HU3
  generalize World.setCell _ _ _ = W4 at *
  have hv0 : (vl ++ [Value.int .i64 0])[gl.length]? = some (.int .i64 0) := by rw [← HV.out]; simp
  have ht0 : (tl ++ [Value.bool false])[gl.length]? = some (.bool false) := by rw [← HT.out]; simp
  have a1 : W4.cell? ⟨b, 1, none⟩ = some (.slice (some ⟨g2, 0, none⟩) (vl.length + 1) cp2) := hA4.blk.cellv rfl
  have d1 : W4.cell? ⟨g2, gl.length, none⟩ = some (.int .i64 0) := ((own_n hA4.val).1.cellAt gl.length (by have := HV.out; omega)).trans hv0
  have g1' : W4.frozen? ⟨g2, gl.length, none⟩ = false := (own_n hA4.val).1.frozenAt _
  have HA4 := Lib.hid hA4
  clear hA4
  go_upto_region 12 with fail
  have hA5 := HA4.out.set_val gl.length (.int .i64 v)
  have HU5 := Lib.hid (HU4.out.setCell (p := ⟨g2, gl.length, none⟩) HG2.out (Value.int .i64 v))
  clear a1 d1 g1' HA4 HU4
  generalize World.setCell _ _ _ = W5 at *
  have a2 : W5.cell? ⟨b, 2, none⟩ = some (.slice (some ⟨g3, 0, none⟩) (tl.length + 1) cp3) := hA5.blk.cellv rfl
  have d2 : W5.cell? ⟨g3, gl.length, none⟩ = some (.bool false) := ((own_n hA5.tak).1.cellAt gl.length (by have := HT.out; omega)).trans ht0
  have g2' : W5.frozen? ⟨g3, gl.length, none⟩ = false := (own_n hA5.tak).1.frozenAt _
  have HA5 := Lib.hid hA5
  clear hA5
  go_upto_region 13 with fail
  have hA6 := HA5.out.set_tak gl.length (.bool true)
  have HU6 := Lib.hid (HU5.out.setCell (p := ⟨g3, gl.length, none⟩) HG3.out (Value.bool true))
  clear a2 d2 g2' HA5 HU5
  generalize World.setCell _ _ _ = W6 at *
  have s1 : (gl ++ [Value.int .i64 0]).set gl.length (.int .i64 1) = gl ++ [.int .i64 1] := by simp
  have s2 : (vl ++ [Value.int .i64 0]).set gl.length (.int .i64 v) = vl ++ [.int .i64 v] := by rw [← HV.out]; simp
  have s3 : (tl ++ [Value.bool false]).set gl.length (.bool true) = tl ++ [.bool true] := by rw [← HT.out]; simp
  rw [s1, s2, s3] at hA6
  have a0 : W6.cell? ⟨b, 0, none⟩ = some (.slice (some ⟨g1, 0, none⟩) (gl.length + 1) cp1) := hA6.blk.cellv rfl
  have d0 : W6.cell? ⟨g1, gl.length, none⟩ = some (.int .i64 1) := ((own_n hA6.gen).1.cellAt gl.length (by omega)).trans (by simp)
  have HA6 := Lib.hid hA6
  clear hA6 s1 s2 s3 hv0 ht0
  go_wp2
  go_ret
  exact ⟨rfl, _, _, _, HA6.out, HU6.out, HGr.out⟩
end
end Go.Proofs.Ytnejjaebhjgccaa.Ar
