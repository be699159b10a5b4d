/- The pool in the abstract: its methods as functions of lists. -/
import Derived.Test.YtllofdfldoaedaaPgH
namespace Go.Proofs.Ytllofdfldoaedaa.Pg
open Go Go.RowKit Go.Proofs.Ytllofdfldoaedaa.Mem
set_option linter.unusedVariables false
set_option linter.unusedSimpArgs false
def cnt1 (f : Fr) : Nat := if f.u = 0 then 0 else 1
theorem usedN_cons (f : Fr) (l : List Fr) : usedN (f :: l) = usedN l + cnt1 f := by
  unfold usedN cnt1
  rw [List.countP_cons]
  by_cases h : f.u = 0 <;> simp [h]
theorem usedN_snoc (l : List Fr) (f : Fr) : usedN (l ++ [f]) = usedN l + cnt1 f := by
  unfold usedN cnt1
  rw [List.countP_append]
  by_cases h : f.u = 0 <;> simp [h]
theorem usedN_set : ∀ (l : List Fr) (k : Nat) (x y : Fr) (h : l[k]? = some x), usedN (l.set k y) + cnt1 x = usedN l + cnt1 y
  | [], k, x, y, h => by simp at h
  | f :: l, 0, x, y, h => by
    obtain rfl : f = x := by simpa using h
    simp only [List.set_cons_zero, usedN_cons]
    omega
  | f :: l, k + 1, x, y, h => by
    have := usedN_set l k x y (by simpa using h)
    simp only [List.set_cons_succ, usedN_cons]
    omega
theorem usedN_le (l : List Fr) : usedN l ≤ l.length := List.countP_le_length
theorem usedN_all {l : List Fr} (h : freeN l = none) : usedN l = l.length := by
  unfold usedN
  rw [List.countP_eq_length]
  intro x hx
  have := freeN_all h x hx
  simpa using this
theorem usedN_alloc (fs : List Fr) : usedN (allocL fs) = usedN fs + 1 := by
  unfold allocL
  cases h : freeN fs with
  | some k =>
    obtain ⟨x, hx, hu⟩ := freeN_at h
    have := usedN_set fs k x newFr hx
    show usedN (fs.set k newFr) = _
    have e1 : cnt1 x = 0 := if_pos hu
    have e2 : cnt1 newFr = 1 := rfl
    omega
  | none =>
    show usedN (fs ++ [newFr]) = _
    rw [usedN_snoc, show cnt1 newFr = 1 from rfl]
structure Gd (N : Nat) (fs : List Fr) (cap : Int) : Prop where
  c0 : 0 ≤ cap
  c1 : cap ≤ 65536
  len : (fs.length : Int) ≤ cap
  us : ∀ f ∈ fs, 0 ≤ f.u ∧ f.u ≤ N
theorem Gd.mono {N M : Nat} {fs : List Fr} {cap : Int} (h : Gd N fs cap) (hM : N ≤ M) : Gd M fs cap := ⟨h.c0, h.c1, h.len, fun f hf => by have := h.us f hf; omega⟩
theorem Gd.set {N : Nat} {fs : List Fr} {cap : Int} (h : Gd N fs cap) (k : Nat) {x : Fr} (hx : 0 ≤ x.u ∧ x.u ≤ N) : Gd N (fs.set k x) cap := ⟨h.c0, h.c1, by rw [List.length_set]; exact h.len, fun f hf => by
  rcases List.mem_or_eq_of_mem_set hf with h1 | rfl
  · exact h.us f h1
  · exact hx⟩
theorem Gd.alloc {N : Nat} {fs : List Fr} {cap : Int} (h : Gd N fs cap) (hN : 1 ≤ N) (hc : (usedN fs : Int) ≠ cap) : Gd N (allocL fs) cap := by
  unfold allocL
  cases hf : freeN fs with
  | some k => exact h.set k (by simp only [newFr]; omega)
  | none =>
    refine ⟨h.c0, h.c1, ?_, fun f hm => ?_⟩
    · have := usedN_all hf
      have := h.len
      simp only [List.length_append, List.length_singleton]
      omega
    · rcases List.mem_append.1 hm with h1 | h1
      · exact h.us f h1
      · rw [List.mem_singleton.1 h1]; simp only [newFr]; omega
def Pz (w : World) (B b : Nat) (F : Blocks) (fs : List Fr) (cap : Int) : Prop := ∃ sv, Pl w B b fs cap (usedN fs) sv ∧ ∀ k, F k ↔ ft b sv k
def getF (fs : List Fr) (f : Int) : Fr := fs.getD f.toNat noFr
def allocS (fs : List Fr) (cap : Int) : Int × Int × List Fr := if (usedN fs : Int) = cap then (0, -4, fs) else ((allocN fs : Nat), 0, allocL fs)
def addU (fs : List Fr) (f d : Int) : List Fr := fs.set f.toNat ⟨(getF fs f).d, (getF fs f).u + d⟩
def shareS (fs : List Fr) (f : Int) : Int × List Fr := if usersN fs f = 0 then (-25, fs) else (0, addU fs f 1)
def releaseS (fs : List Fr) (f : Int) : Int × List Fr := if usersN fs f = 0 then (-25, fs) else (0, addU fs f (-1))
def ownS (fs : List Fr) (cap f : Int) : Int × Int × List Fr :=
  if usersN fs f = 0 then (0, -25, fs) else if usersN fs f = 1 then (f, 0, fs) else if (usedN fs : Int) = cap then (0, -4, fs) else
    ((allocN fs : Nat), 0, ((allocL fs).set (allocN fs) ⟨(getF fs f).d, 1⟩).set f.toNat ⟨(getF fs f).d, (getF fs f).u - 1⟩)
def readS (fs : List Fr) (f at_ n : Int) : List UInt8 × Int :=
  if usersN fs f = 0 then ([], -25) else if withinN at_ n 64 = true then (((getF fs f).d.drop at_.toNat).take n.toNat, 0) else ([], -14)
def writeS (fs : List Fr) (f at_ : Int) (l : List UInt8) : Int × List Fr :=
  if usersN fs f = 0 then (-25, fs) else if withinN at_ l.length 64 = true then (if 1 < usersN fs f then (-20, fs) else (0, fs.set f.toNat ⟨splice (getF fs f).d at_.toNat l, (getF fs f).u⟩)) else (-14, fs)
theorem getF_at {fs : List Fr} {k : Nat} {x : Fr} (h : fs[k]? = some x) : getF fs (k : Int) = x := by
  unfold getF
  rw [Int.toNat_natCast, List.getD_eq_getElem?_getD, h]
  rfl
section
variable {w w' : World} {B b : Nat} {F G : Blocks} {fs : List Fr} {cap : Int} {N : Nat}
theorem Pz.in_ (h : Pz w B b F fs cap) : In B w F := by
  obtain ⟨sv, ha, hF⟩ := h
  exact fun k hk => ha.ft_lt ((hF k).1 hk)
theorem Pz.ok (h : Pz w B b F fs cap) : ∀ f ∈ fs, FrOk f := by
  obtain ⟨sv, ha, hF⟩ := h
  exact ha.ok
theorem Pz.keep (h : Pz w B b F fs cap) (hu : Upd G w w') (hd : Dis F G) : Pz w' B b F fs cap := by
  obtain ⟨sv, ha, hF⟩ := h
  exact ⟨sv, ha.upd hu (fun k hk => hd k ((hF k).2 hk)), hF⟩
theorem Pz.drewN (h : Pz w B b F fs cap) (n : Nat) : Pz (w.drewN n) B b F fs cap := by
  obtain ⟨sv, ha, hF⟩ := h
  exact ⟨sv, ⟨ha.base, ha.blk, ha.row, ha.ok⟩, hF⟩
theorem Pz.below (h : Pz w B b F fs cap) (hb : Below w.heap.size w w') : Pz w' B b F fs cap := h.keep (Upd.of_below hb (fun _ => False)) (Dis.no F)
theorem new_pz {cap : Int} (h : 0 ≤ cap ∧ cap ≤ 65536) (w : World) {B : Nat} (hB : B ≤ w.heap.size) : Calls Try.prog 9 #[.int .i64 cap] w fun e w' => e = .returned (.pointer (some ⟨w.heap.size, 0, none⟩)) ∧ Pz w' B w.heap.size (Just w.heap.size) [] cap ∧ Below w.heap.size w w' := by
  refine (new_any h w).mono ?_
  rintro e w1 ⟨he, hp, hb⟩
  exact ⟨he, ⟨_, ⟨hB, hp.blk, World.ownsRow_nil _ _ _ _, hp.ok⟩, fun k => by simp [ft, Just, Value.ownBlock]⟩, hb⟩
theorem gd_nil {cap : Int} (h : 0 ≤ cap ∧ cap ≤ 65536) (N : Nat) : Gd N [] cap := ⟨h.1, h.2, by simpa using h.1, by simp⟩
theorem used_pz (h : Pz w B b F fs cap) : Calls Try.prog 18 #[.pointer (some ⟨b, 0, none⟩)] w fun e w' => e = .returned (.int .i64 (usedN fs)) ∧ w = w' := by
  obtain ⟨sv, ha, hF⟩ := h
  exact used_any ha
theorem room_pz (h : Pz w B b F fs cap) (hg : Gd N fs cap) : Calls Try.prog 19 #[.pointer (some ⟨b, 0, none⟩)] w fun e w' => e = .returned (.int .i64 (cap - usedN fs)) ∧ ∃ n, w' = w.drewN n := by
  obtain ⟨sv, ha, hF⟩ := h
  have := usedN_le fs
  have := hg.len
  have := hg.c1
  exact room_any ha (by omega)
theorem users_pz (h : Pz w B b F fs cap) (f : Int) : Calls Try.prog 16 #[.pointer (some ⟨b, 0, none⟩), .int .i64 f] w fun e w' => e = .returned (.int .i64 (usersN fs f)) ∧ w = w' := by
  obtain ⟨sv, ha, hF⟩ := h
  exact users_any ha f
theorem alloc_pz (h : Pz w B b F fs cap) (hg : Gd N fs cap) (hB : B ≤ w.heap.size) : Calls Try.prog 11 #[.pointer (some ⟨b, 0, none⟩)] w fun e w' =>
    e = .returned (.tuple #[.int .i64 (allocS fs cap).1, .int .i64 (allocS fs cap).2.1]) ∧ ∃ F', Pz w' B b F' (allocS fs cap).2.2 cap ∧ Upd F w w' ∧ Grow w F F' := by
  have h1 := usedN_le fs
  have h2 := hg.len
  have h3 := hg.c1
  obtain ⟨sv, ha, hF⟩ := h
  unfold allocS
  by_cases hc : (usedN fs : Int) = cap
  · rw [if_pos hc]
    refine (alloc_full ha hc).mono ?_
    rintro e w1 ⟨he, n, rfl⟩
    exact ⟨he, F, ⟨sv, ⟨ha.base, ha.blk, ha.row, ha.ok⟩, hF⟩, (Upd.refl _ _).drewN n, Grow.refl _ _⟩
  · rw [if_neg hc]
    refine (alloc_some ha hc (by omega) (fun hn => by have := usedN_all hn; omega) hB (by omega)).mono ?_
    rintro e w1 ⟨he, sv', ha', hu, hgr⟩
    refine ⟨he, ft b sv', ⟨sv', ?_, fun _ => Iff.rfl⟩, hu.mono (fun i _ hi => (hF i).2 hi), fun i hi => ?_⟩
    · rw [usedN_alloc]
      simpa using ha'
    · rcases hgr i hi with h4 | h4
      · exact .inl ((hF i).2 h4)
      · exact .inr h4
theorem share_pz (h : Pz w B b F fs cap) (hg : Gd N fs cap) (hN : N ≤ 1000000) (f : Int) : Calls Try.prog 15 #[.pointer (some ⟨b, 0, none⟩), .int .i64 f] w fun e w' =>
    e = .returned (.int .i64 (shareS fs f).1) ∧ Pz w' B b F (shareS fs f).2 cap ∧ Upd F w w' := by
  obtain ⟨sv, ha, hF⟩ := h
  unfold shareS addU
  by_cases hz : usersN fs f = 0
  · rw [if_pos hz]
    refine (share_none ha hz).mono ?_
    rintro e w1 ⟨he, rfl⟩
    exact ⟨he, ⟨sv, ha, hF⟩, Upd.refl _ _⟩
  · rw [if_neg hz]
    obtain ⟨k, x, rfl, hx, hu, _⟩ := usersN_some hz
    have hb := hg.us x (List.mem_of_getElem? hx)
    rw [getF_at hx, Int.toNat_natCast]
    refine (share_some ha hx hu (by omega)).mono ?_
    rintro e w1 ⟨he, ha', hup⟩
    refine ⟨he, ⟨sv, ?_, hF⟩, hup.mono (fun i _ hi => (hF i).2 hi)⟩
    have h1 := usedN_set fs k x ⟨x.d, x.u + 1⟩ hx
    simp only [cnt1, if_neg hu, if_neg (show ¬ x.u + 1 = 0 by omega)] at h1
    rw [show usedN (fs.set k ⟨x.d, x.u + 1⟩) = usedN fs by omega]
    exact ha'
theorem release_pz (h : Pz w B b F fs cap) (hg : Gd N fs cap) (hN : N ≤ 1000000) (f : Int) : Calls Try.prog 17 #[.pointer (some ⟨b, 0, none⟩), .int .i64 f] w fun e w' =>
    e = .returned (.int .i64 (releaseS fs f).1) ∧ Pz w' B b F (releaseS fs f).2 cap ∧ Upd F w w' := by
  have h1 := usedN_le fs
  have h2 := hg.len
  have h3 := hg.c1
  obtain ⟨sv, ha, hF⟩ := h
  unfold releaseS addU
  by_cases hz : usersN fs f = 0
  · rw [if_pos hz]
    refine (release_none ha hz).mono ?_
    rintro e w1 ⟨he, rfl⟩
    exact ⟨he, ⟨sv, ha, hF⟩, Upd.refl _ _⟩
  · rw [if_neg hz]
    obtain ⟨k, x, rfl, hx, hu, _⟩ := usersN_some hz
    have hb := hg.us x (List.mem_of_getElem? hx)
    rw [getF_at hx, Int.toNat_natCast]
    refine (release_some ha hx hu (by omega) (by omega)).mono ?_
    rintro e w1 ⟨he, ha', hup⟩
    refine ⟨he, ⟨sv, ?_, hF⟩, hup.mono (fun i _ hi => (hF i).2 hi)⟩
    have h4 := usedN_set fs k x ⟨x.d, x.u + -1⟩ hx
    have e9 : x.u - 1 = x.u + -1 := by omega
    rw [e9] at ha'
    by_cases h9 : x.u = 1
    · simp only [cnt1, if_neg hu, if_pos (show x.u + -1 = 0 by omega)] at h4
      rw [if_pos h9] at ha'
      rw [show ((usedN (fs.set k ⟨x.d, x.u + -1⟩) : Nat) : Int) = (usedN fs : Int) - 1 by omega]
      exact ha'
    · simp only [cnt1, if_neg hu, if_neg (show ¬ x.u + -1 = 0 by omega)] at h4
      rw [if_neg h9] at ha'
      rw [show usedN (fs.set k ⟨x.d, x.u + -1⟩) = usedN fs by omega]
      exact ha'
theorem own_pz (h : Pz w B b F fs cap) (hg : Gd N fs cap) (hN : N ≤ 1000000) (hB : B ≤ w.heap.size) (f : Int) : Calls Try.prog 20 #[.pointer (some ⟨b, 0, none⟩), .int .i64 f] w fun e w' =>
    e = .returned (.tuple #[.int .i64 (ownS fs cap f).1, .int .i64 (ownS fs cap f).2.1]) ∧ ∃ F', Pz w' B b F' (ownS fs cap f).2.2 cap ∧ Upd F w w' ∧ Grow w F F' := by
  have h1 := usedN_le fs
  have h2 := hg.len
  have h3 := hg.c1
  obtain ⟨sv, ha, hF⟩ := h
  unfold ownS
  by_cases hz : usersN fs f = 0
  · rw [if_pos hz]
    refine (own_none ha hz).mono ?_
    rintro e w1 ⟨he, rfl⟩
    exact ⟨he, F, ⟨sv, ha, hF⟩, Upd.refl _ _, Grow.refl _ _⟩
  · rw [if_neg hz]
    obtain ⟨k, x, rfl, hx, hu, he9⟩ := usersN_some hz
    have hb := hg.us x (List.mem_of_getElem? hx)
    rw [getF_at hx, Int.toNat_natCast, he9]
    by_cases h9 : x.u = 1
    · rw [if_pos h9]
      refine (own_one ha hx h9).mono ?_
      rintro e w1 ⟨he, rfl⟩
      exact ⟨he, F, ⟨sv, ha, hF⟩, Upd.refl _ _, Grow.refl _ _⟩
    · rw [if_neg h9]
      by_cases hc : (usedN fs : Int) = cap
      · rw [if_pos hc]
        refine (own_full ha hx (by omega) hc).mono ?_
        rintro e w1 ⟨he, hbl⟩
        exact ⟨he, F, ⟨sv, ha.below hbl, hF⟩, Upd.of_below hbl _, Grow.refl _ _⟩
      · rw [if_neg hc]
        refine (own_some ha hx (by omega) hc (by omega) (fun hn => by have := usedN_all hn; omega) hB (by omega) (by omega)).mono ?_
        rintro e w1 ⟨he, sv', ha', hup, hgr⟩
        refine ⟨he, ft b sv', ⟨sv', ?_, fun _ => Iff.rfl⟩, hup.mono (fun i _ hi => (hF i).2 hi), fun i hi => ?_⟩
        · obtain ⟨hk1, hk2⟩ := allocL_keep hx hu
          have e1 := usedN_set (allocL fs) (allocN fs) newFr ⟨x.d, 1⟩ (allocL_at fs)
          have e2 := usedN_set ((allocL fs).set (allocN fs) ⟨x.d, 1⟩) k x ⟨x.d, x.u - 1⟩ (by rw [List.getElem?_set_ne hk2]; exact hk1)
          have e3 := usedN_alloc fs
          have a1 : cnt1 newFr = 1 := rfl
          have a2 : cnt1 ⟨x.d, 1⟩ = 1 := rfl
          have a3 : cnt1 x = 1 := if_neg hu
          have a4 : cnt1 ⟨x.d, x.u - 1⟩ = 1 := if_neg (show ¬ x.u - 1 = 0 by omega)
          rw [show ((usedN (((allocL fs).set (allocN fs) ⟨x.d, 1⟩).set k ⟨x.d, x.u - 1⟩) : Nat) : Int) = (usedN fs : Int) + 1 by omega]
          exact ha'
        · rcases hgr i hi with h4 | h4
          · exact .inl ((hF i).2 h4)
          · exact .inr h4
theorem read_pz (h : Pz w B b F fs cap) (f at_ n : Int) (hn : -9223372036854775808 ≤ n ∧ n ≤ 9223372036854775807) : Calls Try.prog 13 #[.pointer (some ⟨b, 0, none⟩), .int .i64 f, .int .i64 at_, .int .i64 n] w fun e w' =>
    ∃ v, e = .returned (.tuple #[v, .int .i64 (readS fs f at_ n).2]) ∧ w'.ownsRow w.heap.size 5 1 v (readS fs f at_ n).1.length (bytesV (readS fs f at_ n).1) ∧ Below w.heap.size w w' := by
  obtain ⟨sv, ha, hF⟩ := h
  unfold readS
  by_cases hz : usersN fs f = 0
  · rw [if_pos hz]
    refine (read_none ha at_ n hz).mono ?_
    rintro e w1 ⟨he, rfl⟩
    exact ⟨_, he, World.ownsRow_nil _ _ _ _, Below.refl _ _⟩
  · rw [if_neg hz]
    obtain ⟨k, x, rfl, hx, hu, he9⟩ := usersN_some hz
    rw [getF_at hx]
    by_cases hw : withinN at_ n 64 = true
    · rw [if_pos hw]
      have hw2 : 0 ≤ at_ ∧ 0 ≤ n ∧ at_ ≤ 64 ∧ n ≤ 64 - at_ := of_decide_eq_true hw
      obtain ⟨a, rfl⟩ : ∃ a : Nat, at_ = a := ⟨at_.toNat, by omega⟩
      obtain ⟨m, rfl⟩ : ∃ m : Nat, n = m := ⟨n.toNat, by omega⟩
      have hd : x.d.length = 64 := ha.ok x (List.mem_of_getElem? hx)
      simp only [Int.toNat_natCast]
      rw [show ((x.d.drop a).take m).length = m by simp [hd]; omega]
      exact read_some ha hx hu a m (by omega)
    · rw [if_neg hw]
      refine (read_out ha hx hu at_ n hn (by simpa using hw)).mono ?_
      rintro e w1 ⟨he, rfl⟩
      exact ⟨_, he, World.ownsRow_nil _ _ _ _, Below.refl _ _⟩
theorem write_pz (h : Pz w B b F fs cap) (hg : Gd N fs cap) (f at_ : Int) {Br : Nat} {A : Option Addr} {m c : Nat} {l : List UInt8} (hr : Reads w Br 1 A m (bytesV l)) (hm : m ≤ maxLen) :
    Calls Try.prog 12 #[.pointer (some ⟨b, 0, none⟩), .int .i64 f, .int .i64 at_, .slice A m c] w fun e w' => e = .returned (.int .i64 (writeS fs f at_ l).1) ∧ Pz w' B b F (writeS fs f at_ l).2 cap ∧ Upd F w w' := by
  have hml : l.length = m := by have := hr.1; rw [bytesV_len] at this; omega
  obtain ⟨sv, ha, hF⟩ := h
  unfold writeS
  rw [hml]
  by_cases hz : usersN fs f = 0
  · rw [if_pos hz]
    refine (write_none ha at_ _ hz).mono ?_
    rintro e w1 ⟨he, rfl⟩
    exact ⟨he, ⟨sv, ha, hF⟩, Upd.refl _ _⟩
  · rw [if_neg hz]
    obtain ⟨k, x, rfl, hx, hu, he9⟩ := usersN_some hz
    have hb := hg.us x (List.mem_of_getElem? hx)
    rw [getF_at hx, he9, Int.toNat_natCast]
    by_cases hw : withinN at_ m 64 = true
    · rw [if_pos hw]
      have hw2 : 0 ≤ at_ ∧ 0 ≤ (m : Int) ∧ at_ ≤ 64 ∧ (m : Int) ≤ 64 - at_ := of_decide_eq_true hw
      by_cases h1 : 1 < x.u
      · rw [if_pos h1]
        refine (write_shared ha hx h1 at_ A m c hm hw).mono ?_
        rintro e w1 ⟨he, rfl⟩
        exact ⟨he, ⟨sv, ha, hF⟩, Upd.refl _ _⟩
      · rw [if_neg h1]
        obtain ⟨a, rfl⟩ : ∃ a : Nat, at_ = a := ⟨at_.toNat, by omega⟩
        refine (write_some ha hx (by omega) a hr (by omega)).mono ?_
        rintro e w1 ⟨he, ha', hup⟩
        refine ⟨he, ⟨sv, ?_, hF⟩, hup.mono (fun i _ hi => (hF i).2 hi)⟩
        simp only [Int.toNat_natCast]
        have e1 := usedN_set fs k x ⟨splice x.d a l, x.u⟩ hx
        simp only [cnt1] at e1
        rw [show usedN (fs.set k ⟨splice x.d a l, x.u⟩) = usedN fs by omega]
        exact ha'
    · rw [if_neg hw]
      refine (write_out ha hx hu at_ A m c hm (by simpa using hw)).mono ?_
      rintro e w1 ⟨he, rfl⟩
      exact ⟨he, ⟨sv, ha, hF⟩, Upd.refl _ _⟩
end
end Go.Proofs.Ytllofdfldoaedaa.Pg
