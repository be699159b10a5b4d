/- For ListsPlays: objects in another order; a slice of slices is made; ints by reads. -/
import Derived.Test.YtfahhjbbbimjfaaLiRfD
import Derived.Test.YtfahhjbbbimjfaaLiRfF
namespace Go.Proofs.Ytfahhjbbbimjfaa.Mem
open Go Go.RowKit
theorem val_perm {B : Nat} {w : World} {L L' : List Asr} (hp : L.Perm L') : ∀ Fs : List Blocks, Fs.length = L.length → (∀ (i : Nat) (A : Asr) (F : Blocks), L[i]? = some A → Fs[i]? = some F → A.Ok ∧ A B F w) →
    ∃ Fs' : List Blocks, Fs'.length = L'.length ∧ (∀ (i : Nat) (A : Asr) (F : Blocks), L'[i]? = some A → Fs'[i]? = some F → A.Ok ∧ A B F w) ∧ Fs.Perm Fs' := by
  induction hp with
  | nil => exact fun Fs hl h => ⟨Fs, hl, h, List.Perm.refl _⟩
  | cons A hp ih =>
    intro Fs hl h
    match Fs, hl with
    | F :: Gs, hl =>
      obtain ⟨Gs', h1, h2, h3⟩ := ih Gs (by simpa using hl) (fun i X G hi hG => h (i + 1) X G (by simpa using hi) (by simpa using hG))
      refine ⟨F :: Gs', by simp [h1], fun i X G hi hG => ?_, h3.cons F⟩
      cases i with
      | zero => exact h 0 X G (by simpa using hi) (by simpa using hG)
      | succ i => exact h2 i X G (by simpa using hi) (by simpa using hG)
  | swap A A' L =>
    intro Fs hl h
    match Fs, hl with
    | F :: G :: Hs, hl =>
      refine ⟨G :: F :: Hs, by simpa using hl, fun i X H hi hH => ?_, List.Perm.swap _ _ _⟩
      match i with
      | 0 => exact h 1 X H (by simpa using hi) (by simpa using hH)
      | 1 => exact h 0 X H (by simpa using hi) (by simpa using hH)
      | i + 2 => exact h (i + 2) X H (by simpa using hi) (by simpa using hH)
  | trans _ _ ih1 ih2 =>
    intro Fs hl h
    obtain ⟨Gs, h1, h2, h3⟩ := ih1 Fs hl h
    obtain ⟨Hs, h4, h5, h6⟩ := ih2 Gs h1 h2
    exact ⟨Hs, h4, h5, h3.trans h6⟩
theorem Star.perm {w0 w : World} {L L' : List Asr} (h : Star w0 w L) (hp : L.Perm L') : Star w0 w L' := by
  obtain ⟨hb, Fs, hsep, hl, hA⟩ := h
  obtain ⟨Gs, h1, h2, h3⟩ := val_perm hp Fs hl hA
  exact ⟨hb, Gs, ⟨fun G hG => hsep.in_ G (h3.mem_iff.2 hG), (h3.pairwise_iff (fun h => h.symm)).1 hsep.pair⟩, h1, h2⟩
/-- The first one goes to the end. -/
theorem Star.last {w0 w : World} {L : List Asr} {A : Asr} (h : Star w0 w (A :: L)) : Star w0 w (L ++ [A]) := h.perm (List.perm_append_comm (l₁ := [A]))
/-- The last one falls away. -/
theorem Star.unlast {w0 w : World} {L : List Asr} {A : Asr} (h : Star w0 w (L ++ [A])) : Star w0 w L := (h.perm (List.perm_append_comm (l₂ := [A]))).tail
end Go.Proofs.Ytfahhjbbbimjfaa.Mem
namespace Go.Proofs.Ytfahhjbbbimjfaa.Li
open Go Go.RowKit Go.Proofs.Ytfahhjbbbimjfaa.Mem
set_option linter.unusedVariables false
set_option linter.unusedSimpArgs false
theorem ints_rd {w : World} {A A' : Option Addr} {n c c' B B' : Nat} {l : List Nat} (r1 : Reads w B 1 A n (intsN l)) (r2 : Reads w B' 1 A' n (intsN l)) (hn : n = l.length) (hm : n ≤ 65536) :
    Calls Try.prog 11 #[.slice A n c, .slice A' n c'] w fun e w' => e = .returned (.bool true) ∧ ∃ k, w' = w.drewN k := by
  subst hn
  have e1 : intsN l = (l.map (fun (x : Nat) => (x : Int))).map (.int .i64) := by simp [intsN]
  have e2 : l.length = (l.map (fun (x : Nat) => (x : Int))).length := by simp
  rw [e1] at r1 r2
  have := ints_any (l := l.map (fun (x : Nat) => (x : Int))) (l' := l.map (fun (x : Nat) => (x : Int))) (c := c) (c' := c') (by rw [← e2]; exact r1) (by rw [← e2]; exact r2) (by rw [← e2]; simp only [maxLen]; omega) (by rw [← e2]; simp only [maxLen]; omega)
  rw [← e2] at this
  refine this.mono ?_
  rintro e w1 ⟨rfl, k, rfl⟩
  exact ⟨by simp, k, rfl⟩
theorem sl_info : (Try.prog.info? 28).map (fun i => (i.zero, i.size, i.bytes)) = some (some (.slice none 0 0), 1, 24) := by kernel_rfl
def zN (n : Nat) : Array Value := (List.replicate n (Value.slice none 0 0)).toArray
theorem made1 (z : Value) (n : Nat) : madeCells #[z] n = (List.replicate n z).toArray := by
  refine Array.ext_getElem? fun i => ?_
  by_cases hi : i < n
  · rw [show (madeCells #[z] n)[i]? = some z from by simp [madeCells, hi, Nat.mod_one]]
    simp [hi]
  · rw [show (madeCells #[z] n)[i]? = none from by simp [madeCells]; omega]
    simp; omega
theorem make_s (n : Nat) (hn : n ≤ 65536) (W : World) : (Instr.makeSlice 36 (.int .i64 n) (.int .i64 n)).run Try.prog W = .ok (.slice (some ⟨W.heap.size, 0, none⟩) n n) (W.alloc (.cells (zN n) 28)) := by
  obtain ⟨i0, hi0, hz0, hz1, hz2⟩ := info_parts sl_info
  have h := run_make (P := Try.prog) W 36 28 i0 _ Try.underlying36 hi0 hz0 .i64 .i64 n n (by omega) (Int.le_refl _) (by rw [hz2]; omega) (by omega)
  rw [hz1] at h
  simp only [Int.toNat_natCast] at h
  rw [h]
  show Result.ok _ (W.alloc (.cells (madeCells #[.slice none 0 0] (n * 1)) 28)) = _
  rw [Nat.mul_one, made1]
  rfl
theorem rf_new {w0 w : World} {S : List Asr} (h : Star w0 w S) (n m : Nat) (hn : n ≤ 65536) : Star w0 ((w.alloc (.cells (zN n) 28)).alloc (.cells #[.slice (some ⟨w.heap.size, 0, none⟩) n n, .int .i64 m] 38)) (rf (w.heap.size + 1) (.slice (some ⟨w.heap.size, 0, none⟩) n n) (List.replicate n (.slice none 0 0)) (List.replicate n []) m S) := by
  have h1 := h.nilRows 3 n
  have h2 := h1.litRow 28 1 (zN n) n (by simp only [maxLen]; omega) (by simp [zN])
  have h3 := h2.newBlk 38 #[.slice (some ⟨w.heap.size, 0, none⟩) n n, .int .i64 m]
  rw [World.size_alloc] at h3
  unfold rf
  rw [List.length_replicate, List.map_replicate]
  exact h3
end Go.Proofs.Ytfahhjbbbimjfaa.Li
