/- Contracts of package pages: Users, Share, Release. -/
import Derived.Test.YtllofdfldoaedaaPgB
import Derived.Test.YtllofdfldoaedaaOwn3
namespace Go.Proofs.Ytllofdfldoaedaa.Pg
open Go Go.RowKit Go.Proofs.Ytllofdfldoaedaa.Mem
set_option linter.unusedVariables false
set_option linter.unusedSimpArgs false
def usedN (fs : List Fr) : Nat := fs.countP (fun f => f.u != 0)
theorem usersN_some {fs : List Fr} {f : Int} (h : usersN fs f ≠ 0) : ∃ (k : Nat) (x : Fr), f = k ∧ fs[k]? = some x ∧ x.u ≠ 0 ∧ usersN fs f = x.u := by
  unfold usersN at *
  by_cases h0 : 0 ≤ f
  · rw [if_pos h0] at *
    cases hx : fs[f.toNat]? with
    | none => rw [hx] at h; simp at h
    | some x =>
      rw [hx] at h
      exact ⟨f.toNat, x, by omega, hx, by simpa using h, by simp⟩
  · rw [if_neg h0] at h
    simp at h
theorem usersN_at {fs : List Fr} {k : Nat} {x : Fr} (h : fs[k]? = some x) : usersN fs (k : Int) = x.u := by
  unfold usersN
  rw [if_pos (by omega), Int.toNat_natCast, h]
  rfl
theorem fr_rows {l : List Fr} (h : ∀ f ∈ l, FrOk f) : ∀ r ∈ l.map frC, r.length = 65 := fun r hr => by
  obtain ⟨f, hf, rfl⟩ := List.mem_map.1 hr
  exact frC_len (h f hf)
theorem frCs_set {l : List Fr} (h : ∀ f ∈ l, FrOk f) {k j : Nat} {x x' : Fr} {cs : List Value} (hx : l[k]? = some x) (hj : j + cs.length ≤ 65) (hc : splice (frC x) j cs = frC x') : splice (frCs l) (k * 65 + j) cs = frCs (l.set k x') := by
  unfold frCs
  rw [splice_flat (l.map frC) 65 k j (frC x) cs (fr_rows h) (by simp [hx]) hj, hc, List.map_set]
theorem frC_one {x : Fr} {u : Int} (h : FrOk x) : splice (frC x) 64 [.int .i64 u] = frC ⟨x.d, u⟩ := by
  have h64 : x.d.length = 64 := h
  rw [splice_one _ _ _ (by rw [frC_len h]; omega)]
  unfold frC
  rw [List.set_append_right _ _ (by simp [h64])]
  simp [h64]
section
variable {w w' : World} {B b : Nat} {fs fs' : List Fr} {cap used : Int} {g cp : Nat}
theorem Pl.gb (h : Pl w B b fs cap used (.slice (some ⟨g, 0, none⟩) fs.length cp)) : b ≠ g := fun e => own_blk_ne h.row h.blk (by decide) (by simp [Value.ownBlock, e])
theorem Pl.turn (h : Pl w B b fs cap used (.slice (some ⟨g, 0, none⟩) fs.length cp)) (hu : Upd (Just g) w w') (ho : w'.ownsRow B 66 65 (.slice (some ⟨g, 0, none⟩) fs.length cp) fs.length (frCs fs')) (hl : fs'.length = fs.length) (hok : ∀ f ∈ fs', FrOk f) :
    Pl w' B b fs' cap used (.slice (some ⟨g, 0, none⟩) fs'.length cp) := by
  rw [hl]
  exact ⟨h.base, h.blk.upd hu (fun e => h.gb e), by rw [hl]; exact ho, hok⟩
theorem ok_set {l : List Fr} (h : ∀ f ∈ l, FrOk f) (k : Nat) {x : Fr} (hx : FrOk x) : ∀ f ∈ l.set k x, FrOk f := fun f hf => by
  rcases List.mem_or_eq_of_mem_set hf with h1 | rfl
  · exact h f h1
  · exact hx
theorem Pl.setU (h : Pl w B b fs cap used (.slice (some ⟨g, 0, none⟩) fs.length cp)) {k : Nat} {x : Fr} (hx : fs[k]? = some x) (u : Int) :
    Pl (w.setCell ⟨g, k * 65 + 64, none⟩ (.int .i64 u)) B b (fs.set k ⟨x.d, u⟩) cap used (.slice (some ⟨g, 0, none⟩) (fs.set k ⟨x.d, u⟩).length cp) := by
  have hok := h.ok x (List.mem_of_getElem? hx)
  have hlt : k < fs.length := (List.getElem?_eq_some_iff.1 hx).1
  refine h.turn (upd_set _ _ _ _) ?_ (by simp) (ok_set h.ok k (show FrOk ⟨x.d, u⟩ from hok))
  have := (h.row.stored (k * 65 + 64) (.int .i64 u)).1
  rw [← splice_one _ _ _ (by rw [frCs_len h.ok]; omega), frCs_set h.ok hx (by simp) (frC_one hok)] at this
  exact this
theorem Pl.setUsed {sv : Value} (h : Pl w B b fs cap used sv) (c : Int) : Pl (w.setCell ⟨b, 2, none⟩ (.int .i64 c)) B b fs cap c sv :=
  ⟨h.base, h.blk.setv 2 _ rfl, own_keep h.row (upd_set _ _ _ _) (own_dis_blk h.row h.blk (by decide)), h.ok⟩
end
section
variable {w : World} {B b : Nat} {fs : List Fr} {cap used : Int} {sv : Value}
theorem users_any (h : Pl w B b fs cap used sv) (f : Int) : Calls Try.prog 16 #[.pointer (some ⟨b, 0, none⟩), .int .i64 f] w fun e w' => e = .returned (.int .i64 (usersN fs f)) ∧ w = w' := by
  by_cases hz : usersN fs f = 0
  · have H := Lib.hid (find_none h hz)
    rw [hz]
    clear h hz
    go_enter Try.func16, Try.ntmps16
    go_wp2_with (first | (go_at_call 30; (with_reducible refine H.out.mono ?_); rintro e w1 ⟨rfl, rfl⟩))
    go_ret
    exact ⟨rfl, rfl⟩
  · obtain ⟨k, x, rfl, hx, hu, he⟩ := usersN_some hz
    have hlt : k < fs.length := (List.getElem?_eq_some_iff.1 hx).1
    obtain ⟨g, cp, rfl, hbg, hgl, hnc⟩ := own_form h.row (by omega)
    have H := Lib.hid (find_some h hx hu)
    have hc := h.user hx
    rw [he]
    clear h hz hu he hx
    generalize x.u = u at *
    go_enter Try.func16, Try.ntmps16
    go_wp2_with (first | (go_at_call 30; (with_reducible refine H.out.mono ?_); rintro e w1 ⟨rfl, rfl⟩))
    go_ret
    exact ⟨rfl, rfl⟩
theorem share_none (h : Pl w B b fs cap used sv) {f : Int} (hz : usersN fs f = 0) : Calls Try.prog 15 #[.pointer (some ⟨b, 0, none⟩), .int .i64 f] w fun e w' => e = .returned (.int .i64 (-25)) ∧ w = w' := by
  have H := Lib.hid (find_none h hz)
  clear h hz
  go_enter Try.func15, Try.ntmps15
  go_wp2_with (first | (go_at_call 30; (with_reducible refine H.out.mono ?_); rintro e w1 ⟨rfl, rfl⟩))
  go_ret
  exact ⟨rfl, rfl⟩
theorem share_some (h : Pl w B b fs cap used sv) {k : Nat} {x : Fr} (hx : fs[k]? = some x) (hu : x.u ≠ 0) (hb : 0 ≤ x.u ∧ x.u ≤ 1000000000) : Calls Try.prog 15 #[.pointer (some ⟨b, 0, none⟩), .int .i64 k] w fun e w' =>
    e = .returned (.int .i64 0) ∧ Pl w' B b (fs.set k ⟨x.d, x.u + 1⟩) cap used sv ∧ Upd (ft b sv) w w' := by
  have hlt : k < fs.length := (List.getElem?_eq_some_iff.1 hx).1
  obtain ⟨g, cp, rfl, hbg, hgl, hnc⟩ := own_form h.row (by omega)
  have H := Lib.hid (find_some h hx hu)
  have hc := h.user hx
  have hf := h.row.frozenAt (k * 65 + 64)
  have HS := Lib.hid (h.setU hx (x.u + 1))
  have HU := Lib.hid ((Upd.refl (ft b (.slice (some ⟨g, 0, none⟩) fs.length cp)) w).setCell (p := ⟨g, k * 65 + 64, none⟩) (fun _ => .inr rfl) (.int .i64 (x.u + 1)))
  rw [List.length_set] at HS
  obtain ⟨h1, h2⟩ := hb
  clear h hu hx
  obtain ⟨d, u⟩ := x
  simp only at *
  go_enter Try.func15, Try.ntmps15
  go_wp2_with (first | (go_at_call 30; (with_reducible refine H.out.mono ?_); rintro e w1 ⟨rfl, rfl⟩))
  go_ret
  exact ⟨rfl, HS.out, HU.out⟩
theorem release_none (h : Pl w B b fs cap used sv) {f : Int} (hz : usersN fs f = 0) : Calls Try.prog 17 #[.pointer (some ⟨b, 0, none⟩), .int .i64 f] w fun e w' => e = .returned (.int .i64 (-25)) ∧ w = w' := by
  have H := Lib.hid (find_none h hz)
  clear h hz
  go_enter Try.func17, Try.ntmps17
  go_wp2_with (first | (go_at_call 30; (with_reducible refine H.out.mono ?_); rintro e w1 ⟨rfl, rfl⟩))
  go_ret
  exact ⟨rfl, rfl⟩
theorem release_some (h : Pl w B b fs cap used sv) {k : Nat} {x : Fr} (hx : fs[k]? = some x) (hu : x.u ≠ 0) (hb : 0 ≤ x.u ∧ x.u ≤ 1000000000) (hn : 0 ≤ used ∧ used ≤ 65536) : Calls Try.prog 17 #[.pointer (some ⟨b, 0, none⟩), .int .i64 k] w fun e w' =>
    e = .returned (.int .i64 0) ∧ Pl w' B b (fs.set k ⟨x.d, x.u - 1⟩) cap (if x.u = 1 then used - 1 else used) sv ∧ Upd (ft b sv) w w' := by
  have hlt : k < fs.length := (List.getElem?_eq_some_iff.1 hx).1
  obtain ⟨g, cp, rfl, hbg, hgl, hnc⟩ := own_form h.row (by omega)
  have H := Lib.hid (find_some h hx hu)
  have hc := h.user hx
  have hf := h.row.frozenAt (k * 65 + 64)
  have HS := Lib.hid (h.setU hx (x.u - 1))
  have HU := Lib.hid ((Upd.refl (ft b (.slice (some ⟨g, 0, none⟩) fs.length cp)) w).setCell (p := ⟨g, k * 65 + 64, none⟩) (fun _ => .inr rfl) (.int .i64 (x.u - 1)))
  have hx1 : (fs.set k ⟨x.d, x.u - 1⟩)[k]? = some ⟨x.d, x.u - 1⟩ := by simp [hlt]
  have hc1 := HS.out.user hx1
  have c2 := HS.out.blk.cellv (i := 2) rfl
  have f2 := HS.out.blk.frozen 2
  have HS2 := Lib.hid (HS.out.setUsed (used - 1))
  have HU2 := Lib.hid (HU.out.setCell (p := ⟨b, 2, none⟩) (fun _ => .inl rfl) (.int .i64 (used - 1)))
  rw [List.length_set] at HS HS2
  obtain ⟨h1, h2⟩ := hb
  obtain ⟨h3, h4⟩ := hn
  clear h hx hx1
  obtain ⟨d, u⟩ := x
  simp only at *
  by_cases h9 : u = 1
  · rw [if_pos h9]
    have z1 : (u - 1 == 0) = true := beq_iff_eq.mpr (by omega)
    clear h9 hu
    go_enter Try.func17, Try.ntmps17
    go_wp2_with (first | (go_at_call 30; (with_reducible refine H.out.mono ?_); rintro e w1 ⟨rfl, rfl⟩))
    go_ret
    exact ⟨rfl, HS2.out, HU2.out⟩
  · rw [if_neg h9]
    have z1 : (u - 1 == 0) = false := beq_eq_false_iff_ne.mpr (by omega)
    clear h9 hu
    go_enter Try.func17, Try.ntmps17
    go_wp2_with (first | (go_at_call 30; (with_reducible refine H.out.mono ?_); rintro e w1 ⟨rfl, rfl⟩))
    go_ret
    exact ⟨rfl, HS.out, HU.out⟩
end
end Go.Proofs.Ytllofdfldoaedaa.Pg
