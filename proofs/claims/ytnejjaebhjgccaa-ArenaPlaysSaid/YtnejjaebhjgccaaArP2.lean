/- The reference's arena, its columns apart (by arp2.py). -/
import Derived.Test.YtnejjaebhjgccaaArP1
namespace Go.Proofs.Ytnejjaebhjgccaa.Ar
open Go Go.RowKit Go.Proofs.Ytnejjaebhjgccaa.Mem Go.Proofs.Ytnejjaebhjgccaa.Bits
set_option linter.unusedVariables false
set_option linter.unusedSimpArgs false
theorem upd_at {F : Blocks} {w : World} {p : Addr} {u : Value} (h : F p.block) : Upd F w (w.setCell p u) := (Upd.refl F w).setCell (fun _ => h) u
structure Rg (w : World) (B b : Nat) (gl vl tl : List Value) (fr : List Nat) (cap : Int) (gv vv tv : Value) (A : Option Addr) (c : Nat) : Prop where
  blk : Blk w b 54 #[gv, vv, tv, .slice A fr.length c, .int .i64 cap]
  gen : w.ownsRow B 3 1 gv gl.length gl
  val : w.ownsRow B 3 1 vv vl.length vl
  tak : w.ownsRow B 4 1 tv tl.length tl
  fre : Reads w w.heap.size 1 A fr.length (ints (nats fr.reverse))
  cap : fr.length ≤ c
  sep : Sep B w [Just b, OwnB gv, OwnB vv, OwnB tv, AdB A]
section
variable {w w' : World} {B b : Nat} {sl : List Sl} {gl vl tl : List Value} {fr : List Nat} {cap : Int} {gv vv tv : Value} {A : Option Addr} {c : Nat}
theorem Rf0.rg (h : Rf0 w B b sl fr cap gv vv tv A c) : Rg w B b (gensV sl) (valsV sl) (taksV sl) fr cap gv vv tv A c :=
  ⟨h.blk, by have := h.gen; simpa [gensV] using this, by have := h.val; simpa [valsV] using this, by have := h.tak; simpa [taksV] using this, h.fre, h.cap, h.sep⟩
theorem Rg.rf0 (h : Rg w B b (gensV sl) (valsV sl) (taksV sl) fr cap gv vv tv A c) : Rf0 w B b sl fr cap gv vv tv A c :=
  ⟨h.blk, by have := h.gen; simpa [gensV] using this, by have := h.val; simpa [valsV] using this, by have := h.tak; simpa [taksV] using this, h.fre, h.cap, h.sep⟩
theorem gensV_set (i : Nat) (s : Sl) : gensV (sl.set i s) = (gensV sl).set i (.int .i64 s.gen) := by simp [gensV, List.map_set]
theorem valsV_set (i : Nat) (s : Sl) : valsV (sl.set i s) = (valsV sl).set i (.int .i64 s.v) := by simp [valsV, List.map_set]
theorem taksV_set (i : Nat) (s : Sl) : taksV (sl.set i s) = (taksV sl).set i (.bool s.tk) := by simp [taksV, List.map_set]
theorem gensV_snoc (s : Sl) : gensV (sl ++ [s]) = gensV sl ++ [.int .i64 s.gen] := by simp [gensV]
theorem valsV_snoc (s : Sl) : valsV (sl ++ [s]) = valsV sl ++ [.int .i64 s.v] := by simp [valsV]
theorem taksV_snoc (s : Sl) : taksV (sl ++ [s]) = taksV sl ++ [.bool s.tk] := by simp [taksV]
theorem Rg.frozen_b (h : Rg w B b gl vl tl fr cap gv vv tv A c) (j : Nat) : w.frozen? ⟨b, j, none⟩ = false := h.blk.frozen j
/-- The freed slots, the first one taken off. -/
theorem Rg.pop {k : Nat} {ad : Addr} (h : Rg w B b gl vl tl (fr ++ [k]) cap gv vv tv (some ad) c) :
    Rg (w.setCell ⟨b, 3, none⟩ (.slice (if c = 1 then some ad else some { block := ad.block, off := ad.off + 1 }) fr.length (c - 1))) B b gl vl tl fr cap gv vv tv (if c = 1 then some ad else some { block := ad.block, off := ad.off + 1 }) (c - 1) := by
  have hu : Upd (Just b) w (w.setCell ⟨b, 3, none⟩ (.slice (if c = 1 then some ad else some { block := ad.block, off := ad.off + 1 }) fr.length (c - 1))) := upd_at rfl
  have hA : ∀ q, AdB (if c = 1 then some ad else some { block := ad.block, off := ad.off + 1 }) q → AdB (some ad) q := fun q hq => by
    obtain ⟨a1, h1, h2⟩ := hq
    split at h1
    · exact ⟨a1, h1, h2⟩
    · injection h1 with h1
      subst h1
      exact ⟨ad, rfl, h2⟩
  have hcp := h.cap
  have hlen : (fr ++ [k]).length = fr.length + 1 := by simp
  have hcut := h.fre.cut (k := 1) (cap := c) (by omega) hcp
  have hR : Reads w w.heap.size 1 (if c = 1 then some ad else some { block := ad.block, off := ad.off + 1 }) fr.length (ints (nats fr.reverse)) := by
    have e : (ints (nats (fr ++ [k]).reverse)).drop (1 * 1) = ints (nats fr.reverse) := by simp [ints, nats]
    rw [e, hlen, Nat.add_sub_cancel] at hcut
    have e2 : ad.add 1 = ⟨ad.block, ad.off + 1, none⟩ := rfl
    simpa [e2] using hcut
  refine ⟨h.blk.setv 3 _ rfl, own_keep h.gen hu (h.sep.dis 1 0 rfl rfl (by decide)), own_keep h.val hu (h.sep.dis 2 0 rfl rfl (by decide)), own_keep h.tak hu (h.sep.dis 3 0 rfl rfl (by decide)),
    (Reads.upd hR hu ((h.sep.dis 4 0 rfl rfl (by decide)).mono hA) (Nat.le_refl _)).more hu.size, by omega, ?_⟩
  have hs := h.sep.size (w' := w.setCell ⟨b, 3, none⟩ (.slice (if c = 1 then some ad else some { block := ad.block, off := ad.off + 1 }) fr.length (c - 1))) hu.size
  refine ⟨fun F hF => ?_, ?_⟩
  · simp only [List.mem_cons, List.not_mem_nil, or_false] at hF
    rcases hF with rfl | rfl | rfl | rfl | rfl
    · exact hs.at_ 0 rfl
    · exact hs.at_ 1 rfl
    · exact hs.at_ 2 rfl
    · exact hs.at_ 3 rfl
    · exact fun q hq => hs.at_ 4 rfl q (hA q hq)
  · have d := fun i (hi : i < 4) F (hF : [Just b, OwnB gv, OwnB vv, OwnB tv, AdB (some ad)][i]? = some F) => ((hs.dis 4 i rfl hF (by omega)).mono hA).symm
    simp only [List.pairwise_cons, List.mem_cons, List.not_mem_nil, or_false, false_implies, implies_true, List.Pairwise.nil, and_true, forall_eq_or_imp, forall_eq]
    exact ⟨⟨hs.dis 0 1 rfl rfl (by decide), hs.dis 0 2 rfl rfl (by decide), hs.dis 0 3 rfl rfl (by decide), d 0 (by decide) _ rfl⟩, ⟨hs.dis 1 2 rfl rfl (by decide), hs.dis 1 3 rfl rfl (by decide), d 1 (by decide) _ rfl⟩, ⟨hs.dis 2 3 rfl rfl (by decide), d 2 (by decide) _ rfl⟩, d 3 (by decide) _ rfl⟩
/-- A store into the column. -/
theorem Rg.set_gen {g cp n : Nat} (h : Rg w B b gl vl tl fr cap (.slice (some ⟨g, 0, none⟩) n cp) vv tv A c) (k : Nat) (u : Value) :
    Rg (w.setCell ⟨g, k, none⟩ u) B b (gl.set k u) vl tl fr cap (.slice (some ⟨g, 0, none⟩) n cp) vv tv A c := by
  obtain rfl : n = gl.length := by
    obtain ⟨A', c', e⟩ := own_len h.gen
    injection e
  have hu : Upd (OwnB (.slice (some ⟨g, 0, none⟩) gl.length cp)) w (w.setCell ⟨g, k, none⟩ u) := upd_at rfl
  refine ⟨Blk.upd h.blk hu (fun e => h.sep.dis 0 1 rfl rfl (by decide) b rfl e), ?_, own_keep h.val hu (h.sep.dis 2 1 rfl rfl (by decide)), own_keep h.tak hu (h.sep.dis 3 1 rfl rfl (by decide)), (Reads.upd h.fre hu (h.sep.dis 4 1 rfl rfl (by decide)) (Nat.le_refl _)).more hu.size, h.cap, h.sep.size hu.size⟩
  have := (h.gen.stored k u).1
  simpa using this
/-- The column is longer by one. -/
theorem Rg.app_gen {w1 : World} {v1 u : Value} (h : Rg w B b gl vl tl fr cap gv vv tv A c) (hB : B ≤ w.heap.size) (hn : w1.ownsRow B 3 1 v1 (gl.length + 1) (gl ++ [u])) (hu : Upd (OwnB gv) w w1) (hg : Grow w (OwnB gv) (OwnB v1)) :
    Rg (w1.setCell ⟨b, 0, none⟩ v1) B b (gl ++ [u]) vl tl fr cap v1 vv tv A c := by
  have S1 := h.sep.step [Just b] [OwnB vv, OwnB tv, AdB A] (F' := OwnB v1) hu.size hg (fun k hk => (hn.lt k hk).2) hB
  have hs : Upd (Just b) w1 (w1.setCell ⟨b, 0, none⟩ v1) := upd_at rfl
  have S2 := S1.size (w' := w1.setCell ⟨b, 0, none⟩ v1) hs.size
  have hb1 : Blk w1 b 54 #[gv, vv, tv, .slice A fr.length c, .int .i64 cap] := Blk.upd h.blk hu (fun e => h.sep.dis 0 1 rfl rfl (by decide) b rfl e)
  exact ⟨hb1.setv 0 _ rfl, by rw [List.length_append]; exact own_keep hn hs (S2.dis 1 0 rfl rfl (by decide)), own_keep (own_keep h.val hu (h.sep.dis 2 1 rfl rfl (by decide))) hs (S2.dis 2 0 rfl rfl (by decide)), own_keep (own_keep h.tak hu (h.sep.dis 3 1 rfl rfl (by decide))) hs (S2.dis 3 0 rfl rfl (by decide)), (Reads.upd ((Reads.upd h.fre hu (h.sep.dis 4 1 rfl rfl (by decide)) (Nat.le_refl _)).more hu.size) hs (S2.dis 4 0 rfl rfl (by decide)) (Nat.le_refl _)).more hs.size, h.cap, S2⟩
/-- A store into the column. -/
theorem Rg.set_val {g cp n : Nat} (h : Rg w B b gl vl tl fr cap gv (.slice (some ⟨g, 0, none⟩) n cp) tv A c) (k : Nat) (u : Value) :
    Rg (w.setCell ⟨g, k, none⟩ u) B b gl (vl.set k u) tl fr cap gv (.slice (some ⟨g, 0, none⟩) n cp) tv A c := by
  obtain rfl : n = vl.length := by
    obtain ⟨A', c', e⟩ := own_len h.val
    injection e
  have hu : Upd (OwnB (.slice (some ⟨g, 0, none⟩) vl.length cp)) w (w.setCell ⟨g, k, none⟩ u) := upd_at rfl
  refine ⟨Blk.upd h.blk hu (fun e => h.sep.dis 0 2 rfl rfl (by decide) b rfl e), own_keep h.gen hu (h.sep.dis 1 2 rfl rfl (by decide)), ?_, own_keep h.tak hu (h.sep.dis 3 2 rfl rfl (by decide)), (Reads.upd h.fre hu (h.sep.dis 4 2 rfl rfl (by decide)) (Nat.le_refl _)).more hu.size, h.cap, h.sep.size hu.size⟩
  have := (h.val.stored k u).1
  simpa using this
/-- The column is longer by one. -/
theorem Rg.app_val {w1 : World} {v1 u : Value} (h : Rg w B b gl vl tl fr cap gv vv tv A c) (hB : B ≤ w.heap.size) (hn : w1.ownsRow B 3 1 v1 (vl.length + 1) (vl ++ [u])) (hu : Upd (OwnB vv) w w1) (hg : Grow w (OwnB vv) (OwnB v1)) :
    Rg (w1.setCell ⟨b, 1, none⟩ v1) B b gl (vl ++ [u]) tl fr cap gv v1 tv A c := by
  have S1 := h.sep.step [Just b, OwnB gv] [OwnB tv, AdB A] (F' := OwnB v1) hu.size hg (fun k hk => (hn.lt k hk).2) hB
  have hs : Upd (Just b) w1 (w1.setCell ⟨b, 1, none⟩ v1) := upd_at rfl
  have S2 := S1.size (w' := w1.setCell ⟨b, 1, none⟩ v1) hs.size
  have hb1 : Blk w1 b 54 #[gv, vv, tv, .slice A fr.length c, .int .i64 cap] := Blk.upd h.blk hu (fun e => h.sep.dis 0 2 rfl rfl (by decide) b rfl e)
  exact ⟨hb1.setv 1 _ rfl, own_keep (own_keep h.gen hu (h.sep.dis 1 2 rfl rfl (by decide))) hs (S2.dis 1 0 rfl rfl (by decide)), by rw [List.length_append]; exact own_keep hn hs (S2.dis 2 0 rfl rfl (by decide)), own_keep (own_keep h.tak hu (h.sep.dis 3 2 rfl rfl (by decide))) hs (S2.dis 3 0 rfl rfl (by decide)), (Reads.upd ((Reads.upd h.fre hu (h.sep.dis 4 2 rfl rfl (by decide)) (Nat.le_refl _)).more hu.size) hs (S2.dis 4 0 rfl rfl (by decide)) (Nat.le_refl _)).more hs.size, h.cap, S2⟩
/-- A store into the column. -/
theorem Rg.set_tak {g cp n : Nat} (h : Rg w B b gl vl tl fr cap gv vv (.slice (some ⟨g, 0, none⟩) n cp) A c) (k : Nat) (u : Value) :
    Rg (w.setCell ⟨g, k, none⟩ u) B b gl vl (tl.set k u) fr cap gv vv (.slice (some ⟨g, 0, none⟩) n cp) A c := by
  obtain rfl : n = tl.length := by
    obtain ⟨A', c', e⟩ := own_len h.tak
    injection e
  have hu : Upd (OwnB (.slice (some ⟨g, 0, none⟩) tl.length cp)) w (w.setCell ⟨g, k, none⟩ u) := upd_at rfl
  refine ⟨Blk.upd h.blk hu (fun e => h.sep.dis 0 3 rfl rfl (by decide) b rfl e), own_keep h.gen hu (h.sep.dis 1 3 rfl rfl (by decide)), own_keep h.val hu (h.sep.dis 2 3 rfl rfl (by decide)), ?_, (Reads.upd h.fre hu (h.sep.dis 4 3 rfl rfl (by decide)) (Nat.le_refl _)).more hu.size, h.cap, h.sep.size hu.size⟩
  have := (h.tak.stored k u).1
  simpa using this
/-- The column is longer by one. -/
theorem Rg.app_tak {w1 : World} {v1 u : Value} (h : Rg w B b gl vl tl fr cap gv vv tv A c) (hB : B ≤ w.heap.size) (hn : w1.ownsRow B 4 1 v1 (tl.length + 1) (tl ++ [u])) (hu : Upd (OwnB tv) w w1) (hg : Grow w (OwnB tv) (OwnB v1)) :
    Rg (w1.setCell ⟨b, 2, none⟩ v1) B b gl vl (tl ++ [u]) fr cap gv vv v1 A c := by
  have S1 := h.sep.step [Just b, OwnB gv, OwnB vv] [AdB A] (F' := OwnB v1) hu.size hg (fun k hk => (hn.lt k hk).2) hB
  have hs : Upd (Just b) w1 (w1.setCell ⟨b, 2, none⟩ v1) := upd_at rfl
  have S2 := S1.size (w' := w1.setCell ⟨b, 2, none⟩ v1) hs.size
  have hb1 : Blk w1 b 54 #[gv, vv, tv, .slice A fr.length c, .int .i64 cap] := Blk.upd h.blk hu (fun e => h.sep.dis 0 3 rfl rfl (by decide) b rfl e)
  exact ⟨hb1.setv 2 _ rfl, own_keep (own_keep h.gen hu (h.sep.dis 1 3 rfl rfl (by decide))) hs (S2.dis 1 0 rfl rfl (by decide)), own_keep (own_keep h.val hu (h.sep.dis 2 3 rfl rfl (by decide))) hs (S2.dis 2 0 rfl rfl (by decide)), by rw [List.length_append]; exact own_keep hn hs (S2.dis 3 0 rfl rfl (by decide)), (Reads.upd ((Reads.upd h.fre hu (h.sep.dis 4 3 rfl rfl (by decide)) (Nat.le_refl _)).more hu.size) hs (S2.dis 4 0 rfl rfl (by decide)) (Nat.le_refl _)).more hs.size, h.cap, S2⟩
end
end Go.Proofs.Ytnejjaebhjgccaa.Ar
