/- The contract of Own. -/
import Derived.Test.YtllofdfldoaedaaPgG
import Derived.Deep.RegionHeld3
namespace Go.Proofs.Ytllofdfldoaedaa.Pg
open Go Go.RowKit Go.Proofs.Ytllofdfldoaedaa.Mem
set_option linter.unusedVariables false
set_option linter.unusedSimpArgs false
/-- What Alloc takes: which frame, and the frames behind it. -/
def allocN (fs : List Fr) : Nat := (freeN fs).getD fs.length
def allocL (fs : List Fr) : List Fr := match freeN fs with
  | some k => fs.set k newFr
  | none => fs ++ [newFr]
theorem allocL_at (fs : List Fr) : (allocL fs)[allocN fs]? = some newFr := by
  unfold allocL allocN
  cases h : freeN fs with
  | some k =>
    obtain ⟨x, hx, _⟩ := freeN_at h
    have : k < fs.length := (List.getElem?_eq_some_iff.1 hx).1
    simp [this]
  | none => simp
theorem allocL_keep {fs : List Fr} {k : Nat} {x : Fr} (hx : fs[k]? = some x) (hu : x.u ≠ 0) : (allocL fs)[k]? = some x ∧ allocN fs ≠ k := by
  unfold allocL allocN
  have hlt : k < fs.length := (List.getElem?_eq_some_iff.1 hx).1
  cases h : freeN fs with
  | some j =>
    obtain ⟨y, hy, hyu⟩ := freeN_at h
    have hne : j ≠ k := fun e => by
      subst e
      rw [hx] at hy
      injection hy with hy
      rw [hy] at hu
      exact hu hyu
    simp only [Option.getD_some]
    exact ⟨by rw [List.getElem?_set_ne hne]; exact hx, hne⟩
  | none =>
    simp only [Option.getD_none]
    exact ⟨by rw [List.getElem?_append_left hlt]; exact hx, by omega⟩
theorem allocL_len (fs : List Fr) : fs.length ≤ (allocL fs).length ∧ (allocL fs).length ≤ fs.length + 1 := by
  unfold allocL
  cases h : freeN fs <;> simp
section
variable {w : World} {B b : Nat} {fs : List Fr} {cap used : Int} {sv : Value}
theorem alloc_some (h : Pl w B b fs cap used sv) (hc : used ≠ cap) (hl : fs.length ≤ 65536) (hn : freeN fs = none → fs.length ≤ 65535) (hB : B ≤ w.heap.size) (hu : 0 ≤ used ∧ used ≤ 65536) : Calls Try.prog 11 #[.pointer (some ⟨b, 0, none⟩)] w fun e w' =>
    e = .returned (.tuple #[.int .i64 (allocN fs : Nat), .int .i64 0]) ∧ ∃ sv', Pl w' B b (allocL fs) cap (used + 1) sv' ∧ Upd (ft b sv) w w' ∧ Grow w (ft b sv) (ft b sv') := by
  unfold allocN allocL
  cases hf : freeN fs with
  | some k =>
    refine (alloc_again h hc hl hf hu).mono ?_
    rintro e w1 ⟨he, hp, hup⟩
    exact ⟨he, sv, hp, hup, Grow.refl _ _⟩
  | none => exact alloc_more h hc (hn hf) hB hf hu
theorem own_none (h : Pl w B b fs cap used sv) {f : Int} (hz : usersN fs f = 0) : Calls Try.prog 20 #[.pointer (some ⟨b, 0, none⟩), .int .i64 f] w fun e w' => e = .returned (.tuple #[.int .i64 0, .int .i64 (-25)]) ∧ w = w' := by
  have H := Lib.hid (find_none h hz)
  clear h hz
  go_enter Try.func20, Try.ntmps20
  go_wp2_with (first | (go_at_call 30; (with_reducible refine H.out.mono ?_); rintro e w1 ⟨rfl, rfl⟩))
  go_ret2
  exact ⟨rfl, rfl⟩
theorem own_one (h : Pl w B b fs cap used sv) {k : Nat} {x : Fr} (hx : fs[k]? = some x) (hu : x.u = 1) : Calls Try.prog 20 #[.pointer (some ⟨b, 0, none⟩), .int .i64 k] w fun e w' => e = .returned (.tuple #[.int .i64 k, .int .i64 0]) ∧ w = w' := by
  have hlt : k < fs.length := (List.getElem?_eq_some_iff.1 hx).1
  obtain ⟨g, cp, rfl, hbg, hgl, hnc⟩ := own_form h.row (by omega)
  have H := Lib.hid (find_some h hx (by omega))
  have hc := h.user hx
  rw [hu] at hc
  clear h hx hu
  go_enter Try.func20, Try.ntmps20
  go_wp2_with (first | (go_at_call 30; (with_reducible refine H.out.mono ?_); rintro e w1 ⟨rfl, rfl⟩))
  go_ret2
  exact ⟨rfl, rfl⟩
set_option maxHeartbeats 2000000 in
theorem own_full (h : Pl w B b fs cap used sv) {k : Nat} {x : Fr} (hx : fs[k]? = some x) (hu : 1 < x.u) (hc : used = cap) : Calls Try.prog 20 #[.pointer (some ⟨b, 0, none⟩), .int .i64 k] w fun e w' =>
    e = .returned (.tuple #[.int .i64 0, .int .i64 (-4)]) ∧ Below w.heap.size w w' := by
  have hlt : k < fs.length := (List.getElem?_eq_some_iff.1 hx).1
  obtain ⟨g, cp, rfl, hbg, hgl, hnc⟩ := own_form h.row (by omega)
  have H := Lib.hid (find_some h hx (by omega))
  have hcu := h.user hx
  have hok := h.ok x (List.mem_of_getElem? hx)
  have z1 : (x.u == 1) = false := beq_eq_false_iff_ne.mpr (by omega)
  have HFr := Lib.hid (show ∀ j v, (bytesV x.d)[j]? = some v → w.cell? ((⟨g, k * 65, none⟩ : Addr).add j) = some v from fun j v hv => h.frame hx j v (by
    have : j < (bytesV x.d).length := (List.getElem?_eq_some_iff.1 hv).1
    unfold frC
    rw [List.getElem?_append_left (by simpa [bytesV] using this)]
    exact hv))
  have HS := Lib.hid (show (bytesV x.d).length = 64 by rw [bytesV_len]; exact hok)
  have HH := Lib.hid h
  have HC := Lib.hid hc
  have H1 := Lib.hid (all_oneCell_toArray (bytesV_one x.d))
  have HI := Lib.hid (show (Try.prog.info? 64).map (·.size) = some (bytesV x.d).toArray.size by simp only [List.size_toArray]; rw [HS.out]; kernel_rfl)
  clear h hx hc
  generalize x.u = u at *
  generalize bytesV x.d = dv at *
  go_enter Try.func20, Try.ntmps20
  go_wp2_with (first
    | (go_at_call 30; (with_reducible refine H.out.mono ?_); rintro e w1 ⟨rfl, rfl⟩)
    | (with_reducible refine wpList_load_add rfl 64 (.tmp 25) rfl ⟨g, k * 65, none⟩ rfl dv _ HFr.out Try.underlying64 rfl (by rw [HS.out]; kernel_rfl) ?_)
    | ((with_reducible refine wpList_box rfl 64 (.tmp 7) (.tmp 26) rfl dv.toArray rfl rfl HI.out ?_ H1.out ?_)
       · simp only [List.size_toArray]; rw [HS.out]; rfl
       intro W1 hbx hux hsx
       have HH1 := Lib.hid (HH.out.upd hux (fun _ _ h => h)))
    | (go_at_call 11; (with_reducible refine (alloc_full HH1.out HC.out).mono ?_); rintro e w2 ⟨rfl, n2, rfl⟩))
  go_ret2
  exact ⟨rfl, below_drewN (hux.below (Nat.le_refl _) (fun _ h => h.elim)) n2⟩
set_option maxHeartbeats 2000000 in
theorem own_some (h : Pl w B b fs cap used sv) {k : Nat} {x : Fr} (hx : fs[k]? = some x) (hu : 1 < x.u) (hc : used ≠ cap) (hl : fs.length ≤ 65536) (hn : freeN fs = none → fs.length ≤ 65535) (hB : B ≤ w.heap.size) (hu0 : 0 ≤ used ∧ used ≤ 65536) (hux9 : x.u ≤ 1000000000) : Calls Try.prog 20 #[.pointer (some ⟨b, 0, none⟩), .int .i64 k] w fun e w' =>
    e = .returned (.tuple #[.int .i64 (allocN fs : Nat), .int .i64 0]) ∧ ∃ sv', Pl w' B b (((allocL fs).set (allocN fs) ⟨x.d, 1⟩).set k ⟨x.d, x.u - 1⟩) cap (used + 1) sv' ∧ Upd (ft b sv) w w' ∧ Grow w (ft b sv) (ft b sv') := by
  have hlt : k < fs.length := (List.getElem?_eq_some_iff.1 hx).1
  obtain ⟨g, cp, rfl, hbg, hgl, hnc⟩ := own_form h.row (by omega)
  have H := Lib.hid (find_some h hx (by omega))
  have hcu := h.user hx
  have hok := h.ok x (List.mem_of_getElem? hx)
  have z1 : (x.u == 1) = false := beq_eq_false_iff_ne.mpr (by omega)
  have HFr := Lib.hid (show ∀ j v, (bytesV x.d)[j]? = some v → w.cell? ((⟨g, k * 65, none⟩ : Addr).add j) = some v from fun j v hv => h.frame hx j v (by
    have : j < (bytesV x.d).length := (List.getElem?_eq_some_iff.1 hv).1
    unfold frC
    rw [List.getElem?_append_left (by simpa [bytesV] using this)]
    exact hv))
  have HS := Lib.hid (show (bytesV x.d).length = 64 by rw [bytesV_len]; exact hok)
  have HH := Lib.hid h
  have HC := Lib.hid hc
  have H1 := Lib.hid (all_oneCell_toArray (bytesV_one x.d))
  have HI := Lib.hid (show (Try.prog.info? 64).map (·.size) = some (bytesV x.d).toArray.size by simp only [List.size_toArray]; rw [HS.out]; kernel_rfl)
  have HKe := Lib.hid (allocL_keep hx (by omega))
  have HX := Lib.hid hx
  clear h hx hc
  obtain ⟨d, u⟩ := x
  simp only at *
  obtain ⟨dv, hdv⟩ : ∃ dv, dv = bytesV d := ⟨_, rfl⟩
  rw [← hdv] at HFr HS H1 HI
  have HDV := Lib.hid hdv
  clear hdv
  go_enter Try.func20, Try.ntmps20
  go_upto_region 10 with (first
    | (go_at_call 30; (with_reducible refine H.out.mono ?_); rintro e w1 ⟨rfl, rfl⟩)
    | (with_reducible refine wpList_load_add rfl 64 (.tmp 25) rfl ⟨g, k * 65, none⟩ rfl dv _ HFr.out Try.underlying64 rfl (by rw [HS.out]; kernel_rfl) ?_)
    | ((with_reducible refine wpList_box rfl 64 (.tmp 7) (.tmp 26) rfl dv.toArray rfl rfl HI.out ?_ H1.out ?_)
       · simp only [List.size_toArray]; rw [HS.out]; rfl
       intro W1 hbx hux hsx
       have HH1 := Lib.hid (HH.out.upd hux (fun _ _ h => h)))
    | (go_at_call 11; (with_reducible refine (alloc_some HH1.out HC.out hl hn (by omega) hu0).mono ?_); rintro e w2 ⟨rfl, sv2, hp2, hup2, hgr2⟩))
  obtain ⟨hkl, hkj⟩ := HKe.out
  have hjn := allocL_at fs
  have hjl : allocN fs < (allocL fs).length := (List.getElem?_eq_some_iff.1 hjn).1
  obtain ⟨g2, cp2, rfl, hbg2, hgl2, hnc2⟩ := own_form hp2.row (by omega)
  have hdd : ¬ ft b (.slice (some ⟨g, 0, none⟩) fs.length cp) w.heap.size := fun hf => by have := (HH.out.ft_lt hf).2; omega
  have hbd := hbx.upd hup2 hdd
  have hrg : w2.rangeAt w.heap.size 0 dv := fun i v hv => by
    rw [Nat.zero_add]
    exact hbd.cellv (by simpa using hv)
  have hth : w2.there g2 (allocN fs * 65) 64 := own_there hp2.row (by omega)
  have hcb : w2.cell? ⟨b, 0, none⟩ = some (.slice (some ⟨g2, 0, none⟩) (allocL fs).length cp2) := hp2.blk.cellv rfl
  have hne1 : b ≠ g2 := hp2.gb
  have hne2 : w.heap.size ≠ g2 := fun e => by
    rcases hgr2 g2 (.inr rfl) with h3 | h3
    · have := (HH.out.ft_lt h3).2; omega
    · omega
  have HP2 := Lib.hid hp2
  have HU2 := Lib.hid hup2
  have HG2 := Lib.hid hgr2
  have HU1 := Lib.hid hux
  have HJN := Lib.hid hjn
  have HKL := Lib.hid hkl
  have hkl2 : k < (allocL fs).length := (List.getElem?_eq_some_iff.1 hkl).1
  have HH9 := Lib.hid hsx
  clear hp2 hup2 hgr2 hbd hdd hjn hkl hbx hux hcu hsx
  obtain ⟨j, hj⟩ : ∃ j, j = allocN fs := ⟨_, rfl⟩
  obtain ⟨L, hL⟩ : ∃ L, L = allocL fs := ⟨_, rfl⟩
  rw [← hj] at HJN hth hjl hkj
  rw [← hL] at HJN HP2 HG2 HKL hcb hjl hkl2
  simp only [← hj]
  have HJ := Lib.hid hj
  have HL := Lib.hid hL
  clear hj hL
  have hj0 : (0 : Int) ≤ (j : Int) := by omega
  have hj1 : (j : Int) < (L.length : Int) := by omega
  have hu64 := Try.underlying64
  have hi64 : (Try.prog.info? 64).map (·.size) = some dv.length := by rw [HS.out]; kernel_rfl
  have hl64 := HS.out
  have ho64 : ∀ v ∈ dv, v.oneCell' = true := by rw [HDV.out]; exact bytesV_one d
  go_region_held3 (fun W => W.cell? ⟨b, 0, none⟩ = some (.slice (some ⟨g2, 0, none⟩) L.length cp2) ∧ W.rangeAt w.heap.size 0 dv ∧ W.there g2 (j * 65) 64) (first | go_keep_ranges | (refine ⟨?_, World.rangeAt_setCells_apart (by first | assumption | simpa using hrg) _ _ _ (.inl hne2), World.there_setCells (by first | assumption | simpa using hth) _ _ _⟩; rw [World.cell?_setCells_out _ _ _ _ _ (fun hb _ => absurd hb hne1)]; first | assumption | simpa using hcb)) (fail)
  have hown2 : (w2.drew).ownsRow B 66 65 (.slice (some ⟨g2, 0, none⟩) L.length cp2) L.length (frCs L) := HP2.out.row.drew
  obtain ⟨ho3, hu3, hs3⟩ := own_setCells Try.prog 64 (off := j * 65) (cells := dv) hown2 (by omega) hi64 ho64
  have hd64 : d.length = 64 := hok
  have hP3 : Pl (w2.drew.setCells g2 (j * 65) dv) B b (L.set j ⟨d, 1⟩) cap (used + 1) (.slice (some ⟨g2, 0, none⟩) (L.set j ⟨d, 1⟩).length cp2) := by
    refine Pl.turn (w := w2.drew) ⟨HP2.out.base, HP2.out.blk, HP2.out.row, HP2.out.ok⟩ hu3 ?_ (by simp) (ok_set HP2.out.ok j hok)
    have e := frCs_set HP2.out.ok (k := j) (j := 0) (cs := bytesV d) HJN.out (by rw [bytesV_len]; omega) (x' := ⟨d, 1⟩) (by
      rw [frC_splice newFr_ok (by omega), splice_all _ _ (by rw [hd64]; rfl)]
      rfl)
    rw [Nat.add_zero, ← HDV.out] at e
    rw [← e]
    exact ho3
  have hx3 : (L.set j ⟨d, 1⟩)[k]? = some ⟨d, u⟩ := by rw [List.getElem?_set_ne hkj]; exact HKL.out
  have c3 := hP3.user hx3
  have f3 := hP3.row.frozenAt (k * 65 + 64)
  have c30 := hP3.blk.cellv (i := 0) rfl
  have HS4 := Lib.hid (hP3.setU hx3 (u - 1))
  have hUa : Upd (ft b (.slice (some ⟨g, 0, none⟩) fs.length cp)) w (w2.drew.setCells g2 (j * 65) dv) := by
    have e1 := (HU1.out.mono (G := ft b (.slice (some ⟨g, 0, none⟩) fs.length cp)) (fun _ _ h => h.elim)).trans HU2.out (fun _ _ h => h)
    refine e1.drew.trans hu3 (fun i hi h => ?_)
    have e : i = g2 := h
    subst e
    rcases HG2.out i (.inr rfl) with h3 | h3
    · exact h3
    · have := HH9.out; omega
  have HU5 := Lib.hid (hUa.setCell (p := ⟨g2, k * 65 + 64, none⟩) (fun hi => by
    rcases HG2.out g2 (.inr rfl) with h3 | h3
    · exact h3
    · simp only at hi; have := HH9.out; omega) (.int .i64 (u - 1)))
  have hGw : Grow w (ft b (.slice (some ⟨g, 0, none⟩) fs.length cp)) (ft b (.slice (some ⟨g2, 0, none⟩) L.length cp2)) := fun i hi => by
    rcases HG2.out i hi with h3 | h3
    · exact .inl h3
    · exact .inr (by have := HH9.out; omega)
  have HGw := Lib.hid hGw
  rw [List.length_set, List.length_set] at HS4
  rw [List.length_set] at c30
  clear hP3 ho3 hu3 hs3 hx3 hUa hGw hown2 hrg hth hcb hd64 hu64 hi64 hl64 ho64
  generalize World.setCells _ _ _ _ = W3 at *
  have hk1 : (k : Int) < (L.length : Int) := by omega
  go_wp2
  go_ret2
  have HLo := HL.out
  have HJo := HJ.out
  subst HLo HJo
  exact ⟨rfl, _, HS4.out, HU5.out, HGw.out⟩
end
end Go.Proofs.Ytllofdfldoaedaa.Pg
