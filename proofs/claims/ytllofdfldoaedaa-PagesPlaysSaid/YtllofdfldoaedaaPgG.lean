/- The contract of Write. -/
import Derived.Test.YtllofdfldoaedaaPgF
namespace Go.Proofs.Ytllofdfldoaedaa.Pg
open Go Go.RowKit Go.Proofs.Ytllofdfldoaedaa.Mem
set_option linter.unusedVariables false
set_option linter.unusedSimpArgs false
section
variable {w : World} {B b : Nat} {fs : List Fr} {cap used : Int} {sv : Value}
theorem write_none (h : Pl w B b fs cap used sv) {f : Int} (at_ : Int) (v : Value) (hz : usersN fs f = 0) : Calls Try.prog 12 #[.pointer (some ⟨b, 0, none⟩), .int .i64 f, .int .i64 at_, v] w fun e w' => e = .returned (.int .i64 (-25)) ∧ w = w' := by
  have H := Lib.hid (find_none h hz)
  clear h hz
  go_enter Try.func12, Try.ntmps12
  go_wp2_with (first | (go_at_call 30; (with_reducible refine H.out.mono ?_); rintro e w1 ⟨rfl, rfl⟩))
  go_ret
  exact ⟨rfl, rfl⟩
theorem write_out (h : Pl w B b fs cap used sv) {k : Nat} {x : Fr} (hx : fs[k]? = some x) (hu : x.u ≠ 0) (at_ : Int) (A : Option Addr) (m c : Nat) (hm : m ≤ maxLen) (ho : withinN at_ m 64 = false) : Calls Try.prog 12 #[.pointer (some ⟨b, 0, none⟩), .int .i64 k, .int .i64 at_, .slice A m c] w fun e w' =>
    e = .returned (.int .i64 (-14)) ∧ w = w' := by
  unfold maxLen at hm
  have hlt : k < fs.length := (List.getElem?_eq_some_iff.1 hx).1
  obtain ⟨g, cp, rfl, hbg, hgl, hnc⟩ := own_form h.row (by omega)
  have H := Lib.hid (find_some h hx hu)
  have HW := Lib.hid (within_any at_ m (by omega) w)
  rw [ho] at HW
  clear h hx hu ho
  go_enter Try.func12, Try.ntmps12
  go_wp2_with (first | (go_at_call 30; (with_reducible refine H.out.mono ?_); rintro e w1 ⟨rfl, rfl⟩) | (go_at_call 31; (with_reducible refine HW.out.mono ?_); rintro e w1 ⟨rfl, rfl⟩))
  go_ret
  exact ⟨rfl, rfl⟩
theorem write_shared (h : Pl w B b fs cap used sv) {k : Nat} {x : Fr} (hx : fs[k]? = some x) (hu : 1 < x.u) (at_ : Int) (A : Option Addr) (m c : Nat) (hm : m ≤ maxLen) (ho : withinN at_ m 64 = true) : Calls Try.prog 12 #[.pointer (some ⟨b, 0, none⟩), .int .i64 k, .int .i64 at_, .slice A m c] w fun e w' =>
    e = .returned (.int .i64 (-20)) ∧ w = w' := by
  unfold maxLen at hm
  have hlt : k < fs.length := (List.getElem?_eq_some_iff.1 hx).1
  obtain ⟨g, cp, rfl, hbg, hgl, hnc⟩ := own_form h.row (by omega)
  have H := Lib.hid (find_some h hx (by omega))
  have HW := Lib.hid (within_any at_ m (by omega) w)
  have hc := h.user hx
  rw [ho] at HW
  clear h hx ho
  generalize x.u = u at *
  go_enter Try.func12, Try.ntmps12
  go_wp2_with (first | (go_at_call 30; (with_reducible refine H.out.mono ?_); rintro e w1 ⟨rfl, rfl⟩) | (go_at_call 31; (with_reducible refine HW.out.mono ?_); rintro e w1 ⟨rfl, rfl⟩))
  go_ret
  exact ⟨rfl, rfl⟩
theorem bytesV_splice (d l : List UInt8) (k : Nat) : splice (bytesV d) k (bytesV l) = bytesV (splice d k l) := by
  simp [splice, bytesV, List.map_take, List.map_drop]
theorem frC_splice {x : Fr} (h : FrOk x) {k : Nat} {l : List UInt8} (hk : k + l.length ≤ 64) : splice (frC x) k (bytesV l) = frC ⟨splice x.d k l, x.u⟩ := by
  have h64 : x.d.length = 64 := h
  show _ = bytesV (splice x.d k l) ++ [.int .i64 x.u]
  rw [← bytesV_splice]
  show splice (bytesV x.d ++ [.int .i64 x.u]) k (bytesV l) = _
  unfold splice
  rw [List.take_append_of_le_length (by rw [bytesV_len]; omega), List.drop_append_of_le_length (by simp [bytesV_len]; omega)]
  simp
theorem splice_ok {x : Fr} (h : FrOk x) {k : Nat} {l : List UInt8} (hk : k + l.length ≤ 64) : FrOk ⟨splice x.d k l, x.u⟩ := by
  have h64 : x.d.length = 64 := h
  show (splice x.d k l).length = 64
  rw [length_splice _ _ _ (by omega), h64]
set_option maxHeartbeats 1000000 in
theorem write_some (h : Pl w B b fs cap used sv) {k : Nat} {x : Fr} (hx : fs[k]? = some x) (hu : x.u = 1) (at_ : Nat) {Br : Nat} {A : Option Addr} {m c : Nat} {l : List UInt8} (hr : Reads w Br 1 A m (bytesV l)) (ho : at_ + m ≤ 64) :
    Calls Try.prog 12 #[.pointer (some ⟨b, 0, none⟩), .int .i64 k, .int .i64 at_, .slice A m c] w fun e w' =>
    e = .returned (.int .i64 0) ∧ Pl w' B b (fs.set k ⟨splice x.d at_ l, x.u⟩) cap used sv ∧ Upd (ft b sv) w w' := by
  have hlt : k < fs.length := (List.getElem?_eq_some_iff.1 hx).1
  obtain ⟨g, cp, rfl, hbg, hgl, hnc⟩ := own_form h.row (by omega)
  have H := Lib.hid (find_some h hx (by omega))
  have HW := Lib.hid (within_any at_ m (by omega) w)
  rw [show withinN at_ m 64 = true from decide_eq_true (by omega)] at HW
  have hc := h.user hx
  rw [hu] at hc
  have hok := h.ok x (List.mem_of_getElem? hx)
  have hml : l.length = m := by have := hr.1; rw [bytesV_len] at this; omega
  obtain ⟨a0, ha0⟩ : ∃ a0 : Addr, a0 = if (64 : Nat) = at_ then ⟨g, k * 65, none⟩ else ⟨g, k * 65 + at_, none⟩ := ⟨_, rfl⟩
  have hsl : ∀ W, (Instr.sliceAt 64 (.pointer (some ⟨g, k * 65, none⟩)) (some (.int .i64 at_)) none none).run Try.prog W = .ok (.slice (some a0) (64 - at_) (64 - at_)) W := fun W => by
    have h1 := run_sliceAt_array_l (P := Try.prog) W 64 ⟨g, k * 65, none⟩ Try.underlying64 .i64 at_ (by omega) (by show _ ≤ ((64 : Nat) : Int); omega)
    rw [h1]
    have h2 : (sizeOf (Try.prog.elem 64)).run Try.prog W = .ok 1 W := by kernel_rfl
    rw [h2]
    simp only [Result.andThen_ok, slicedAt, show Try.prog.arrayLen 64 = 64 from rfl, Int.toNat_natCast, ha0]
    by_cases e : 64 = at_
    · rw [if_pos e, if_pos e]
    · rw [if_neg e, if_neg e]
      unfold Addr.add
      split
      · rename_i h0; rw [show at_ = 0 by omega]; rfl
      · simp
  have HDP := Lib.hid (show 0 < m → some a0 = some ⟨g, k * 65 + at_, none⟩ from fun hp => by rw [ha0, if_neg (by omega)])
  have HH := Lib.hid h
  have HX := Lib.hid hx
  have HR := Lib.hid hr
  have HL := Lib.hid hml
  have HF := Lib.hid (show k * 65 + at_ + m ≤ fs.length * 65 by omega)
  have HM := Lib.hid (show m ≤ 64 - at_ by omega)
  clear ha0 h hx hu hr hml
  go_enter Try.func12, Try.ntmps12
  go_wp2_with (first
    | (go_at_call 30; (with_reducible refine H.out.mono ?_); rintro e w1 ⟨rfl, rfl⟩)
    | (go_at_call 31; (with_reducible refine HW.out.mono ?_); rintro e w1 ⟨rfl, rfl⟩)
    | (with_reducible refine wpList_copy_in rfl (.tmp 32) (.tmp 33) 22 22 rfl 5 Try.underlying22 (by kernel_rfl) HH.out.row (some a0) (64 - at_) (64 - at_) (k * 65 + at_) rfl Br A m c rfl (bytesV l) HR.out HM.out HDP.out HF.out (bytesV_one l) ?_
       intro w1 ho1 hu1 hs1))
  go_ret
  refine ⟨rfl, ?_, hu1.mono (fun i _ hi => .inr (by rw [show i = g from hi]; rfl))⟩
  have := HH.out.turn hu1 (fs' := fs.set k ⟨splice x.d at_ l, x.u⟩) (by
    rw [← frCs_set HH.out.ok HX.out (by rw [bytesV_len, HL.out]; omega) (frC_splice hok (by rw [HL.out]; omega))]
    exact ho1) (by simp) (ok_set HH.out.ok k (splice_ok hok (by rw [HL.out]; omega)))
  rw [List.length_set] at this
  exact this
end
end Go.Proofs.Ytllofdfldoaedaa.Pg
