/- The pool beside other objects; Same; awake. -/
import Derived.Test.YtllofdfldoaedaaPgI
import Derived.Test.YtllofdfldoaedaaStar
import Derived.Deep.RegionWith
import Derived.Laws.IdiomStrings
import Derived.Lib.BufferRead
import Derived.Lib.AtoiErrMem
namespace Go.Proofs.Ytllofdfldoaedaa.Pg
open Go Go.RowKit Go.Proofs.Ytllofdfldoaedaa.Mem
set_option linter.unusedVariables false
set_option linter.unusedSimpArgs false
def PzA (b : Nat) (fs : List Fr) (cap : Int) : Asr := fun B F w => Pz w B b F fs cap
instance (b : Nat) (fs : List Fr) (cap : Int) : (PzA b fs cap).Ok where
  in_ := fun h => Pz.in_ h
  keep := fun h hu hd => Pz.keep h hu hd
section
variable {w0 w : World} {L : List Asr} {b : Nat} {fs : List Fr} {cap : Int} {N : Nat}
theorem new_st (h : Star w0 w L) {cap : Int} (hc : 0 ≤ cap ∧ cap ≤ 65536) : Calls Try.prog 9 #[.int .i64 cap] w fun e w' => e = .returned (.pointer (some ⟨w.heap.size, 0, none⟩)) ∧ Star w0 w' (PzA w.heap.size [] cap :: L) := by
  refine (new_pz hc w h.hb).mono ?_
  rintro e w1 ⟨he, hp, hb⟩
  exact ⟨he, h.new (A := PzA w.heap.size [] cap) inferInstance hp (Upd.of_below hb _) (fun k hk => by rw [show k = w.heap.size from hk]; exact Nat.le_refl _)⟩
theorem alloc_st (h : Star w0 w L) (i : Nat) (hi : L[i]? = some (PzA b fs cap)) (hg : Gd N fs cap) : Calls Try.prog 11 #[.pointer (some ⟨b, 0, none⟩)] w fun e w' =>
    e = .returned (.tuple #[.int .i64 (allocS fs cap).1, .int .i64 (allocS fs cap).2.1]) ∧ Star w0 w' (L.set i (PzA b (allocS fs cap).2.2 cap)) :=
  star_call h i hi fun F ha hB => alloc_pz ha hg hB
theorem own_st (h : Star w0 w L) (i : Nat) (hi : L[i]? = some (PzA b fs cap)) (hg : Gd N fs cap) (hN : N ≤ 1000000) (f : Int) : Calls Try.prog 20 #[.pointer (some ⟨b, 0, none⟩), .int .i64 f] w fun e w' =>
    e = .returned (.tuple #[.int .i64 (ownS fs cap f).1, .int .i64 (ownS fs cap f).2.1]) ∧ Star w0 w' (L.set i (PzA b (ownS fs cap f).2.2 cap)) :=
  star_call h i hi fun F ha hB => own_pz ha hg hN hB f
theorem share_st (h : Star w0 w L) (i : Nat) (hi : L[i]? = some (PzA b fs cap)) (hg : Gd N fs cap) (hN : N ≤ 1000000) (f : Int) : Calls Try.prog 15 #[.pointer (some ⟨b, 0, none⟩), .int .i64 f] w fun e w' =>
    e = .returned (.int .i64 (shareS fs f).1) ∧ Star w0 w' (L.set i (PzA b (shareS fs f).2 cap)) :=
  star_call h i hi fun F ha hB => (share_pz ha hg hN f).mono fun _ _ ⟨h1, h2, h3⟩ => ⟨h1, F, h2, h3, Grow.refl _ _⟩
theorem release_st (h : Star w0 w L) (i : Nat) (hi : L[i]? = some (PzA b fs cap)) (hg : Gd N fs cap) (hN : N ≤ 1000000) (f : Int) : Calls Try.prog 17 #[.pointer (some ⟨b, 0, none⟩), .int .i64 f] w fun e w' =>
    e = .returned (.int .i64 (releaseS fs f).1) ∧ Star w0 w' (L.set i (PzA b (releaseS fs f).2 cap)) :=
  star_call h i hi fun F ha hB => (release_pz ha hg hN f).mono fun _ _ ⟨h1, h2, h3⟩ => ⟨h1, F, h2, h3, Grow.refl _ _⟩
theorem write_st (h : Star w0 w L) (i : Nat) (hi : L[i]? = some (PzA b fs cap)) (hg : Gd N fs cap) (f at_ : Int) {Br : Nat} {A : Option Addr} {m c : Nat} {l : List UInt8} (hr : Reads w Br 1 A m (bytesV l)) (hm : m ≤ maxLen) : Calls Try.prog 12 #[.pointer (some ⟨b, 0, none⟩), .int .i64 f, .int .i64 at_, .slice A m c] w fun e w' =>
    e = .returned (.int .i64 (writeS fs f at_ l).1) ∧ Star w0 w' (L.set i (PzA b (writeS fs f at_ l).2 cap)) :=
  star_call h i hi fun F ha hB => (write_pz ha hg f at_ hr hm).mono fun _ _ ⟨h1, h2, h3⟩ => ⟨h1, F, h2, h3, Grow.refl _ _⟩
theorem users_st (h : Star w0 w L) (i : Nat) (hi : L[i]? = some (PzA b fs cap)) (f : Int) : Calls Try.prog 16 #[.pointer (some ⟨b, 0, none⟩), .int .i64 f] w fun e w' => e = .returned (.int .i64 (usersN fs f)) ∧ w = w' :=
  (h.of i hi).elim fun _ hx => users_pz hx.1 f
theorem used_st (h : Star w0 w L) (i : Nat) (hi : L[i]? = some (PzA b fs cap)) : Calls Try.prog 18 #[.pointer (some ⟨b, 0, none⟩)] w fun e w' => e = .returned (.int .i64 (usedN fs)) ∧ w = w' :=
  (h.of i hi).elim fun _ hx => used_pz hx.1
theorem room_st (h : Star w0 w L) (i : Nat) (hi : L[i]? = some (PzA b fs cap)) (hg : Gd N fs cap) : Calls Try.prog 19 #[.pointer (some ⟨b, 0, none⟩)] w fun e w' => e = .returned (.int .i64 (cap - usedN fs)) ∧ ∃ n, w' = w.drewN n :=
  (h.of i hi).elim fun _ hx => room_pz hx.1 hg
theorem read_st (h : Star w0 w L) (i : Nat) (hi : L[i]? = some (PzA b fs cap)) (f at_ n : Int) (hn : -9223372036854775808 ≤ n ∧ n ≤ 9223372036854775807) : Calls Try.prog 13 #[.pointer (some ⟨b, 0, none⟩), .int .i64 f, .int .i64 at_, .int .i64 n] w fun e w' =>
    ∃ v, e = .returned (.tuple #[v, .int .i64 (readS fs f at_ n).2]) ∧ Star w0 w' (RowA 5 1 v (readS fs f at_ n).1.length (bytesV (readS fs f at_ n).1) :: L) :=
  (h.of i hi).elim fun _ hx => (read_pz hx.1 f at_ n hn).mono fun _ _ ⟨v, h1, h2, h3⟩ => ⟨v, h1, h.newRow h2 h3⟩
end
theorem conv_bytes {A : Option Addr} {n c B : Nat} {l : List UInt8} {w : World} (hr : Reads w B 1 A n (bytesV l)) : (convert 22 9 (.slice A n c)).run Try.prog w = .ok (.string ⟨l.toArray⟩) w := by
  have hl : l.length = n := by have := hr.1; rw [bytesV_len] at this; omega
  cases A with
  | none =>
    have h0 : n = 0 := by
      rcases Nat.eq_zero_or_pos n with h | h
      · exact h
      · obtain ⟨ad, e, _⟩ := hr.2 h
        cases e
    subst h0
    obtain rfl : l = [] := List.eq_nil_of_length_eq_zero hl
    exact Lib.run_convert_nil_bytes w 22 9 5 c Try.underlying22 Try.underlying5 Try.underlying9
  | some a =>
    subst hl
    refine run_convert_bytes_back w 22 9 5 a c l Try.underlying22 Try.underlying5 Try.underlying9 fun j hj => ?_
    obtain ⟨ad, e, _, hc⟩ := hr.2 (by omega)
    injection e with e
    subst e
    exact hc j _ (by simp [bytesV, byteV, hj])
set_option maxHeartbeats 1000000 in
theorem same_any {A A' : Option Addr} {n n' c c' B B' : Nat} {l l' : List UInt8} {w : World} (hr : Reads w B 1 A n (bytesV l)) (hr' : Reads w B' 1 A' n' (bytesV l')) : Calls Try.prog 14 #[.slice A n c, .slice A' n' c'] w fun e w' => e = .returned (.bool (decide (l = l'))) ∧ w = w' := by
  have h1 := conv_bytes (c := c) hr
  have h2 := conv_bytes (c := c') hr'
  clear hr hr'
  have HE := Lib.hid (show ((ByteArray.mk l.toArray).toList == (ByteArray.mk l'.toArray).toList) = decide (l = l') by rw [Lib.toList_data, Lib.toList_data, Bool.eq_iff_iff]; simp)
  generalize ByteArray.mk l.toArray = s1 at *
  generalize ByteArray.mk l'.toArray = s2 at *
  go_enter Try.func14, Try.ntmps14
  go_wp2
  go_ret
  exact ⟨by rw [← HE.out]; rfl, rfl⟩
theorem reads_lit (w : World) (e : TypeId) (l : List UInt8) (fz : Nat × Nat) : Reads (w.alloc (.cells (bytesV l).toArray e fz)) (w.heap.size + 1) 1 (some ⟨w.heap.size, 0, none⟩) l.length (bytesV l) :=
  ⟨by rw [bytesV_len]; omega, fun _ => ⟨_, rfl, by show w.heap.size < _; omega, fun j u hu => by
    have e1 : ((⟨w.heap.size, 0, none⟩ : Addr).add j) = ⟨w.heap.size, j, none⟩ := by unfold Addr.add; split <;> simp_all
    have hb : (w.alloc (.cells (bytesV l).toArray e fz)).heap[w.heap.size]? = some (.cells (bytesV l).toArray e fz) := heap_alloc_new w _
    rw [e1, cell_of_row _ _ _ _ _ _ hb]
    simpa using hu⟩⟩
set_option maxHeartbeats 2000000 in
theorem awake_any (w : World) : Calls Try.prog 10 #[] w fun e w' => e = .returned (.bool true) ∧ Below w.heap.size w w' := by
  have kc := fun (w : World) (C : Array Value) (n c : Nat) => Lib.run_convert_bytes_const (P := Try.prog) w 22 5 C n c Try.underlying22 Try.underlying5
  have HR1 := Lib.hid (fun W : World => (reads_lit W 5 [97, 98] (2, 3) : Reads (W.alloc (.cells #[.int .u8 97, .int .u8 98] 5 (2, 3))) (W.heap.size + 1) 1 (some ⟨W.heap.size, 0, none⟩) 2 (bytesV [97, 98])))
  have HR2 := Lib.hid (fun W : World => (reads_lit W 5 [120] (1, 2) : Reads (W.alloc (.cells #[.int .u8 120] 5 (1, 2))) (W.heap.size + 1) 1 (some ⟨W.heap.size, 0, none⟩) 1 (bytesV [120])))
  have HN := Lib.hid (new_st (Star.nil w) (cap := 2) (by omega))
  have g1 : Gd 2 [newFr] 2 := ⟨by omega, by omega, by simp, by simp [newFr]⟩
  have e1 : allocS [] 2 = (0, 0, [newFr]) := rfl
  obtain ⟨x1, hx1⟩ : ∃ x1, writeS [newFr] 0 1 [97, 98] = (0, [⟨x1, 1⟩]) := ⟨_, rfl⟩
  have e3 : shareS [⟨x1, 1⟩] 0 = (0, [⟨x1, 2⟩]) := rfl
  have g2 : Gd 2 [⟨x1, 1⟩] 2 := ⟨by omega, by omega, by simp, by simp⟩
  have g3 : Gd 2 [⟨x1, 2⟩] 2 := ⟨by omega, by omega, by simp, by simp⟩
  have e4 : writeS [⟨x1, 2⟩] 0 0 [120] = (-20, [⟨x1, 2⟩]) := rfl
  have e5 : usedN [⟨x1, 2⟩] = 1 := rfl
  have HA1 := Lib.hid (fun (W : World) (h : Star w W [PzA w.heap.size [] 2]) => alloc_st (N := 1) h 0 rfl (gd_nil (by omega) 1))
  have HW1 := Lib.hid (fun (W : World) (h : Star w W [PzA w.heap.size [newFr] 2]) => write_st (h.alloc (.cells #[.int .u8 97, .int .u8 98] 5 (2, 3))) 0 rfl g1 0 1 (m := 2) (c := 2) (HR1.out W) (by simp [maxLen]))
  have HSh := Lib.hid (fun (W : World) (h : Star w W [PzA w.heap.size [⟨x1, 1⟩] 2]) => share_st h 0 rfl g2 (by omega) 0)
  have HW2 := Lib.hid (fun (W : World) (h : Star w W [PzA w.heap.size [⟨x1, 2⟩] 2]) => write_st (h.alloc (.cells #[.int .u8 120] 5 (1, 2))) 0 rfl g3 0 0 (m := 1) (c := 1) (HR2.out W) (by simp [maxLen]))
  have HU := Lib.hid (fun (W : World) (h : Star w W [PzA w.heap.size [⟨x1, 2⟩] 2]) => used_st h 0 rfl)
  rw [e1] at HA1
  rw [hx1] at HW1
  rw [e3] at HSh
  rw [e4] at HW2
  rw [e5] at HU
  simp only [List.set_cons_zero] at HA1 HW1 HSh HW2
  clear g1 g2 g3 e1 hx1 e3 e4 e5
  go_enter Try.func10, Try.ntmps10
  go_wp2_with (first
    | (go_at_call 9; (with_reducible refine HN.out.mono ?_); rintro e w1 ⟨rfl, hs1⟩
       have HS1 := Lib.hid hs1
       clear hs1)
    | (go_at_call 11; (with_reducible refine (HA1.out _ HS1.out).mono ?_); rintro e w2 ⟨rfl, hs2⟩
       have HS2 := Lib.hid hs2
       clear hs2)
    | (go_at_call 12; (with_reducible refine (HW1.out _ HS2.out).mono ?_); rintro e w3 ⟨rfl, hs3⟩
       have HS3 := Lib.hid hs3
       clear hs3 HS2)
    | (go_at_call 15; (with_reducible refine (HSh.out _ HS3.out).mono ?_); rintro e w4 ⟨rfl, hs4⟩
       have HS4 := Lib.hid hs4
       clear hs4)
    | (go_at_call 12; (with_reducible refine (HW2.out _ HS4.out).mono ?_); rintro e w5 ⟨rfl, hs5⟩
       have HS5 := Lib.hid hs5
       clear hs5)
    | (go_at_call 18; (with_reducible refine (HU.out _ HS5.out).mono ?_); rintro e w6 ⟨rfl, rfl⟩))
  go_ret
  exact ⟨rfl, HS5.out.below⟩
end Go.Proofs.Ytllofdfldoaedaa.Pg
