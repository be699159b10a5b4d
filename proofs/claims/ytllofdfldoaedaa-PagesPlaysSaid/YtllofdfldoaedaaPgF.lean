/- Contracts of bytes.Clone, Read, Write. -/
import Derived.Test.YtllofdfldoaedaaPgE
import Derived.WalkSpells
import Derived.Lib.SlBytesConst
namespace Go.Proofs.Ytllofdfldoaedaa.Pg
open Go Go.RowKit Go.Proofs.Ytllofdfldoaedaa.Mem
set_option linter.unusedVariables false
set_option linter.unusedSimpArgs false
def bytesV (l : List UInt8) : List Value := l.map byteV
theorem bytesV_len (l : List UInt8) : (bytesV l).length = l.length := by simp [bytesV]
theorem bytesV_one (l : List UInt8) : ∀ u ∈ bytesV l, u.oneCell' = true := fun u hu => by
  obtain ⟨c, hc, rfl⟩ := List.mem_map.1 hu
  rfl
theorem byte_info : (Try.prog.info? 5).map (fun i => (i.zero, i.size, i.bytes)) = some (some (.int .u8 0), 1, 1) := by kernel_rfl
set_option maxHeartbeats 1000000 in
theorem clone_any {ad : Addr} {n c B : Nat} {l : List UInt8} {w : World} (hr : Reads w B 1 (some ad) n (bytesV l)) (hn : n ≤ 1000000) (hB : B ≤ w.heap.size) : Calls Try.prog 32 #[.slice (some ad) n c] w fun e w' => ∃ v, e = .returned v ∧ w'.ownsRow w.heap.size 5 1 v n (bytesV l) ∧ Below w.heap.size w w' := by
  have heq := fun W => Lib.run_eql_slice_nil (P := Try.prog) W 22 5 (some ad) n c 0 0 Try.underlying22
  obtain ⟨i0, hi0, hz0, hz1, hz2⟩ := info_parts byte_info
  have HR := Lib.hid hr
  clear hr
  go_enter Try.func32, Try.ntmps32
  go_wp2_with (first
    | (at_builtin
       (with_reducible refine wpList_append_any _ rfl (.tmp 5) (.tmp 6) _ rfl w.heap.size 5 i0 _ 1 1 Try.underlying22 hi0 hz0 hz1 hz2 rfl (by omega) (.slice (some ⟨w.heap.size, 0, none⟩) 0 0) 0 [] rfl (World.ownsRow_made w #[] 0 (Nat.le_refl _) (by simp [maxLen]) rfl) B (some ad) n c (bytesV l) rfl (HR.out.alloc hB _) (bytesV_one l) (by simp only [maxLen]; omega) (by omega) (by simp) ?_)
       intro v1 w1 hown hg hat))
  go_ret
  refine ⟨_, rfl, by simpa using hown, ?_⟩
  exact (((Upd.refl (fun k => w.heap.size ≤ k) w).alloc _).trans (grown_upd hg) (fun i _ h => by
    simp [OwnB, Value.ownBlock] at h
    show w.heap.size ≤ i
    omega)).below (Nat.le_refl _) (fun _ h => h)
section
variable {w : World} {B b : Nat} {fs : List Fr} {cap used : Int} {sv : Value}
theorem read_none (h : Pl w B b fs cap used sv) {f : Int} (at_ n : Int) (hz : usersN fs f = 0) : Calls Try.prog 13 #[.pointer (some ⟨b, 0, none⟩), .int .i64 f, .int .i64 at_, .int .i64 n] w fun e w' => e = .returned (.tuple #[.slice none 0 0, .int .i64 (-25)]) ∧ w = w' := by
  have H := Lib.hid (find_none h hz)
  clear h hz
  go_enter Try.func13, Try.ntmps13
  go_wp2_with (first | (go_at_call 30; (with_reducible refine H.out.mono ?_); rintro e w1 ⟨rfl, rfl⟩))
  go_ret2
  exact ⟨rfl, rfl⟩
theorem read_out (h : Pl w B b fs cap used sv) {k : Nat} {x : Fr} (hx : fs[k]? = some x) (hu : x.u ≠ 0) (at_ n : Int) (hn : -9223372036854775808 ≤ n ∧ n ≤ 9223372036854775807) (ho : withinN at_ n 64 = false) : Calls Try.prog 13 #[.pointer (some ⟨b, 0, none⟩), .int .i64 k, .int .i64 at_, .int .i64 n] w fun e w' =>
    e = .returned (.tuple #[.slice none 0 0, .int .i64 (-14)]) ∧ w = w' := by
  have hlt : k < fs.length := (List.getElem?_eq_some_iff.1 hx).1
  obtain ⟨g, cp, rfl, hbg, hgl, hnc⟩ := own_form h.row (by omega)
  have H := Lib.hid (find_some h hx hu)
  have HW := Lib.hid (within_any at_ n hn w)
  rw [ho] at HW
  clear h hx hu ho
  go_enter Try.func13, Try.ntmps13
  go_wp2_with (first | (go_at_call 30; (with_reducible refine H.out.mono ?_); rintro e w1 ⟨rfl, rfl⟩) | (go_at_call 31; (with_reducible refine HW.out.mono ?_); rintro e w1 ⟨rfl, rfl⟩))
  go_ret2
  exact ⟨rfl, rfl⟩
set_option maxHeartbeats 1000000 in
theorem read_some (h : Pl w B b fs cap used sv) {k : Nat} {x : Fr} (hx : fs[k]? = some x) (hu : x.u ≠ 0) (at_ n : Nat) (ho : at_ + n ≤ 64) : Calls Try.prog 13 #[.pointer (some ⟨b, 0, none⟩), .int .i64 k, .int .i64 at_, .int .i64 n] w fun e w' =>
    ∃ v, e = .returned (.tuple #[v, .int .i64 0]) ∧ w'.ownsRow w.heap.size 5 1 v n (bytesV ((x.d.drop at_).take n)) ∧ Below w.heap.size w w' := by
  have hlt : k < fs.length := (List.getElem?_eq_some_iff.1 hx).1
  obtain ⟨g, cp, rfl, hbg, hgl, hnc⟩ := own_form h.row (by omega)
  have H := Lib.hid (find_some h hx hu)
  have HW := Lib.hid (within_any at_ n (by omega) w)
  rw [show withinN at_ n 64 = true from decide_eq_true (by omega)] at HW
  have hok := h.ok x (List.mem_of_getElem? hx)
  have hd : x.d.length = 64 := hok
  have hrd : ∀ a : Addr, (a = ⟨g, k * 65 + at_, none⟩ ∨ n = 0) → a.block = g → Reads w w.heap.size 1 (some a) n (bytesV ((x.d.drop at_).take n)) := fun a ha hag => by
    refine ⟨by simp [bytesV, hd]; omega, fun hp => ⟨_, rfl, by rw [hag]; exact hgl, fun j u hj => ?_⟩⟩
    rcases ha with rfl | h0
    · have hjn : j < n := by
        have := (List.getElem?_eq_some_iff.1 hj).1
        simp [bytesV, hd] at this
        omega
      have e1 : ((⟨g, k * 65 + at_, none⟩ : Addr).add j) = (⟨g, k * 65, none⟩ : Addr).add (at_ + j) := by unfold Addr.add; (repeat' split) <;> simp_all <;> omega
      rw [e1]
      refine h.frame hx _ _ ?_
      rw [← hj]
      simp [frC, bytesV, List.getElem?_append, hd, hjn, show at_ + j < 64 by omega]
    · omega
  obtain ⟨a0, ha0⟩ : ∃ a0 : Addr, a0 = if (64 : Nat) = at_ then ⟨g, k * 65, none⟩ else ⟨g, k * 65 + at_, none⟩ := ⟨_, rfl⟩
  have hsl : ∀ W, (Instr.sliceAt 64 (.pointer (some ⟨g, k * 65, none⟩)) (some (.int .i64 at_)) (some (.int .i64 ((at_ : Int) + n))) none).run Try.prog W = .ok (.slice (some a0) n (64 - at_)) W := fun W => by
    have h1 := run_sliceAt_array_lh (P := Try.prog) W 64 ⟨g, k * 65, none⟩ Try.underlying64 .i64 .i64 at_ ((at_ : Int) + n) (by omega) (by omega) (by show _ ≤ ((64 : Nat) : Int); omega)
    rw [h1]
    have h2 : (sizeOf (Try.prog.elem 64)).run Try.prog W = .ok 1 W := by kernel_rfl
    rw [h2]
    simp only [Result.andThen_ok, slicedAt, show Try.prog.arrayLen 64 = 64 from rfl, Int.toNat_natCast, show ((at_ : Int) + n).toNat = at_ + n by omega, show at_ + n - at_ = n by omega, ha0]
    by_cases e : 64 = at_
    · rw [if_pos e, if_pos e]
    · rw [if_neg e, if_neg e]
      unfold Addr.add
      split
      · rename_i h0; rw [show at_ = 0 by omega]; rfl
      · simp
  have HRD := Lib.hid (hrd a0 (by
    rw [ha0]
    split
    · exact .inr (by omega)
    · exact .inl rfl) (by rw [ha0]; split <;> rfl))
  have HC := Lib.hid (clone_any (c := 64 - at_) HRD.out (by omega) (Nat.le_refl _))
  have HA := Lib.hid ha0
  clear ha0
  clear h hx hu hok hrd HRD
  go_enter Try.func13, Try.ntmps13
  go_wp2_with (first | (go_at_call 30; (with_reducible refine H.out.mono ?_); rintro e w1 ⟨rfl, rfl⟩) | (go_at_call 31; (with_reducible refine HW.out.mono ?_); rintro e w1 ⟨rfl, rfl⟩) | (go_at_call 32; (with_reducible refine HC.out.mono ?_); rintro e w1 ⟨v, rfl, ho1, hb1⟩))
  go_ret2
  exact ⟨_, rfl, ho1, hb1⟩
end
end Go.Proofs.Ytllofdfldoaedaa.Pg
