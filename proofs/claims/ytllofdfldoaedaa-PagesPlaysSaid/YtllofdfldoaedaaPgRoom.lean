/- The walk of PagesRoom. -/
import Derived.Test.YtllofdfldoaedaaPgOver
import Derived.Test.YtllofdfldoaedaaArgs
import Derived.Deep.LoopGhost
import Derived.Deep.DeepCutAuto
namespace Go.Proofs.Ytllofdfldoaedaa.Pg
open Go Go.RowKit Go.Proofs.Ytllofdfldoaedaa.Mem
set_option linter.unusedVariables false
set_option linter.unusedSimpArgs false
theorem new_none {cap : Int} (h : cap < 0 ∨ 65536 < cap) (w : World) : Calls Try.prog 9 #[.int .i64 cap] w fun e w' => e = .returned (.pointer none) ∧ w = w' := new_no h w
/-- All in use, at most N users each. -/
def Busy (N : Nat) (fs : List Fr) : Prop := ∀ f ∈ fs, 1 ≤ f.u ∧ f.u ≤ N
theorem Busy.free {N : Nat} {fs : List Fr} (h : Busy N fs) : freeN fs = none := freeN_none fun j hj x hx => by have := h x (List.mem_of_getElem? hx); omega
theorem Busy.used {N : Nat} {fs : List Fr} (h : Busy N fs) : usedN fs = fs.length := usedN_all h.free
theorem Busy.alloc {N : Nat} {fs : List Fr} (h : Busy N fs) {cap : Int} (hc : (fs.length : Int) ≠ cap) : allocS fs cap = ((fs.length : Int), (0 : Int), fs ++ [newFr]) := by
  unfold allocS
  rw [h.used, if_neg hc]
  unfold allocN allocL
  rw [h.free]
  rfl
theorem Busy.full {N : Nat} {fs : List Fr} (h : Busy N fs) {cap : Int} (hc : (fs.length : Int) = cap) : allocS fs cap = (0, -4, fs) := by
  unfold allocS
  rw [h.used, if_pos hc]
theorem Busy.snoc {N : Nat} {fs : List Fr} (h : Busy N fs) {x : Fr} (hx : 1 ≤ x.u ∧ x.u ≤ N) : Busy N (fs ++ [x]) := fun f hf => by
  rcases List.mem_append.1 hf with h1 | h1
  · exact h f h1
  · rw [List.mem_singleton.1 h1]; exact hx
theorem Busy.gd {N : Nat} {fs : List Fr} (h : Busy N fs) {cap : Int} (hc : 0 ≤ cap ∧ cap ≤ 65536) (hl : (fs.length : Int) ≤ cap) : Gd N fs cap := ⟨hc.1, hc.2, hl, fun f hf => by have := h f hf; omega⟩
theorem last_at (fs : List Fr) (x : Fr) : (fs ++ [x])[fs.length]? = some x := by simp
theorem write_last (fs : List Fr) (d l : List UInt8) {a : Int} (h : withinN a l.length 64 = true) : writeS (fs ++ [⟨d, 1⟩]) (fs.length : Nat) a l = (0, fs ++ [⟨splice d a.toNat l, 1⟩]) := by
  unfold writeS
  rw [usersN_at (last_at fs _), getF_at (last_at fs _), if_neg (by show ¬ (1 : Int) = 0; omega), if_pos h, if_neg (by show ¬ (1 : Int) < 1; omega)]
  simp
theorem share_last (fs : List Fr) (d : List UInt8) {u : Int} (h : u ≠ 0) : shareS (fs ++ [⟨d, u⟩]) (fs.length : Nat) = (0, fs ++ [⟨d, u + 1⟩]) := by
  unfold shareS addU
  rw [usersN_at (last_at fs _), getF_at (last_at fs _), if_neg h]
  simp
/-- The first k free, the others in use. -/
def Half (N k : Nat) (fs : List Fr) : Prop := ∀ (j : Nat) (x : Fr), fs[j]? = some x → (j < k → x.u = 0) ∧ (k ≤ j → 1 ≤ x.u ∧ x.u ≤ N)
theorem Half.gd {N k : Nat} {fs : List Fr} (h : Half N k fs) {cap : Int} (hc : 0 ≤ cap ∧ cap ≤ 65536) (hl : (fs.length : Int) ≤ cap) : Gd N fs cap := ⟨hc.1, hc.2, hl, fun f hf => by
  obtain ⟨j, hj, rfl⟩ := List.getElem_of_mem hf
  have := h j _ (List.getElem?_eq_getElem hj)
  rcases Nat.lt_or_ge j k with h1 | h1
  · have := this.1 h1; omega
  · have := this.2 h1; omega⟩
theorem Half.set {N k : Nat} {fs : List Fr} (h : Half N k fs) {x : Fr} (hx : 1 ≤ x.u ∧ x.u ≤ N) : Half N k (fs.set k x) := fun j y hy => by
  by_cases e : k = j
  · subst e
    rw [List.getElem?_set] at hy
    simp at hy
    obtain ⟨_, rfl⟩ := hy
    exact ⟨fun h => by omega, fun _ => hx⟩
  · rw [List.getElem?_set_ne e] at hy
    exact h j y hy
theorem Half.zero {N k : Nat} {fs : List Fr} (h : Half N k fs) {x : Fr} (hx : x.u = 0) : Half N (k + 1) (fs.set k x) := fun j y hy => by
  by_cases e : k = j
  · subst e
    rw [List.getElem?_set] at hy
    simp at hy
    obtain ⟨_, rfl⟩ := hy
    exact ⟨fun _ => hx, fun h => by omega⟩
  · rw [List.getElem?_set_ne e] at hy
    have := h j y hy
    exact ⟨fun h1 => this.1 (by omega), fun h1 => this.2 (by omega)⟩
theorem Busy.half {N : Nat} {fs : List Fr} (h : Busy N fs) : Half N 0 fs := fun j x hx => ⟨fun h1 => by omega, fun _ => h x (List.mem_of_getElem? hx)⟩
theorem Half.used {N : Nat} {fs : List Fr} (h : Half N fs.length fs) : usedN fs = 0 := by
  unfold usedN
  rw [List.countP_eq_zero]
  intro x hx
  obtain ⟨j, hj, rfl⟩ := List.getElem_of_mem hx
  have := (h j _ (List.getElem?_eq_getElem hj)).1 hj
  simp [this]
theorem Half.alloc {N : Nat} {fs : List Fr} (h : Half N fs.length fs) {cap : Int} (hc : 0 < cap) : ∃ L, allocS fs cap = (0, 0, L) ∧ L[0]? = some newFr := by
  unfold allocS
  rw [h.used, if_neg (by omega)]
  have h0 : allocN fs = 0 := by
    unfold allocN
    cases fs with
    | nil => rfl
    | cons f l =>
      have hu := (h 0 f (by simp)).1 (by simp)
      rw [freeN_some (k := 0) (fun j hj => by omega) (x := f) (by simp) hu]
      rfl
  refine ⟨allocL fs, by rw [h0]; rfl, ?_⟩
  have := allocL_at fs
  rw [h0] at this
  exact this
theorem Half.nofull {N : Nat} {fs : List Fr} (h : Half N fs.length fs) : allocS fs 0 = (0, -4, fs) := by
  unfold allocS
  rw [h.used]
  rfl
theorem read_first {L : List Fr} (h : L[0]? = some newFr) : readS L 0 0 1 = ([0], 0) := by
  unfold readS
  have e := usersN_at h
  have e2 := getF_at h
  rw [show usersN L 0 = 1 from e, show getF L 0 = newFr from e2, if_neg (by omega), if_pos (within_true (by omega))]
  rfl
theorem release_at {fs : List Fr} {k : Nat} {x : Fr} (hx : fs[k]? = some x) (hu : x.u ≠ 0) : releaseS fs (k : Int) = (0, fs.set k ⟨x.d, x.u - 1⟩) := by
  unfold releaseS addU
  rw [usersN_at hx, getF_at hx, if_neg hu, Int.toNat_natCast]
  rfl
theorem release_zero {fs : List Fr} {k : Nat} {x : Fr} (hx : fs[k]? = some x) (hu : x.u = 0) : releaseS fs (k : Int) = (-25, fs) := by
  unfold releaseS
  rw [usersN_at hx, if_pos hu]
/-- .. the k-th with some users. -/
def HalfX (N k : Nat) (fs : List Fr) : Prop := ∀ (j : Nat) (x : Fr), fs[j]? = some x → (j < k → x.u = 0) ∧ (k < j → 1 ≤ x.u ∧ x.u ≤ N) ∧ (j = k → 0 ≤ x.u ∧ x.u ≤ N)
theorem Half.x {N k : Nat} {fs : List Fr} (h : Half N k fs) : HalfX N k fs := fun j x hx => ⟨(h j x hx).1, fun h1 => (h j x hx).2 (by omega), fun h1 => by have := (h j x hx).2 (by omega); omega⟩
theorem HalfX.gd {N k : Nat} {fs : List Fr} (h : HalfX N k fs) {cap : Int} (hc : 0 ≤ cap ∧ cap ≤ 65536) (hl : (fs.length : Int) ≤ cap) : Gd N fs cap := ⟨hc.1, hc.2, hl, fun f hf => by
  obtain ⟨j, hj, rfl⟩ := List.getElem_of_mem hf
  have := h j _ (List.getElem?_eq_getElem hj)
  rcases Nat.lt_trichotomy j k with h1 | h1 | h1
  · have := this.1 h1; omega
  · have := this.2.2 h1; omega
  · have := this.2.1 h1; omega⟩
theorem HalfX.set {N k : Nat} {fs : List Fr} (h : HalfX N k fs) {x : Fr} (hx : 0 ≤ x.u ∧ x.u ≤ N) : HalfX N k (fs.set k x) := fun j y hy => by
  by_cases e : k = j
  · subst e
    rw [List.getElem?_set] at hy
    simp at hy
    obtain ⟨_, rfl⟩ := hy
    exact ⟨fun h => by omega, fun h => by omega, fun _ => hx⟩
  · rw [List.getElem?_set_ne e] at hy
    exact h j y hy
theorem HalfX.done {N k : Nat} {fs : List Fr} (h : HalfX N k fs) {x : Fr} (hx : fs[k]? = some x) (hu : x.u = 0) : Half N (k + 1) fs := fun j y hy => by
  have := h j y hy
  refine ⟨fun h1 => ?_, fun h1 => this.2.1 (by omega)⟩
  by_cases e : j = k
  · subst e
    rw [hx] at hy
    injection hy with hy
    rw [← hy]
    exact hu
  · exact this.1 (by omega)
set_option maxRecDepth 8000 in
set_option maxHeartbeats 8000000 in
theorem room_walk (cap : Int) (hcw : -9223372036854775808 ≤ cap ∧ cap ≤ 9223372036854775807) (A : Option Addr) (c : Nat) (l : List Int) (w : World) (hr : Reads w w.heap.size 1 A l.length (l.map (.int .i64))) (hm : l.length ≤ maxLen) (hw : ∀ x ∈ l, -9223372036854775808 ≤ x ∧ x ≤ 9223372036854775807) :
    Calls Try.prog 4 #[.int .i64 cap, .slice A l.length c] w fun e w' => e = .returned (.bool true) ∧ Below w.heap.size w w' := by
  have HA := Lib.hid awake_any
  unfold maxLen at hm
  by_cases hc : cap < 0 ∨ 65536 < cap
  · have HNo := Lib.hid (new_none hc)
    clear hr hw
    rcases hc with hc | hc
    all_goals
      go_enter Try.func4, Try.ntmps4
      go_wp2_with (first
        | (go_at_call 9; (with_reducible refine (HNo.out _).mono ?_); rintro e w1 ⟨rfl, rfl⟩)
        | (go_at_call 10; (with_reducible refine (HA.out _).mono ?_); rintro e w2 ⟨rfl, hb2⟩))
      go_ret
      exact ⟨rfl, hb2⟩
  · have hc1 : 0 ≤ cap := by omega
    have hc2 : cap ≤ 65536 := by omega
    have HN := Lib.hid (new_st (Star.nil w) (cap := cap) ⟨hc1, hc2⟩)
    by_cases hn : 60 < l.length
    · clear hr hw hc
      generalize l.length = n at *
      go_enter Try.func4, Try.ntmps4
      go_wp2_with (first
        | (go_at_call 9; (with_reducible refine HN.out.mono ?_); rintro e w1 ⟨rfl, hs1⟩)
        | (go_at_call 10; (with_reducible refine (HA.out _).mono ?_); rintro e w2 ⟨rfl, hb2⟩))
      go_ret
      exact ⟨rfl, hs1.below.trans (hb2.mono hs1.below.size)⟩
    · have HR := Lib.hid hr
      have HW := Lib.hid hw
      have hn2 : l.length ≤ 60 := by omega
      have HNine := Lib.hid (fun W : World => (reads_lit W 5 [9] (0, 0) : Reads (W.alloc (.cells #[.int .u8 9] 5)) (W.heap.size + 1) 1 (some ⟨W.heap.size, 0, none⟩) 1 (bytesV [9])))
      clear hr hw hn hc
      go_enter Try.func4, Try.ntmps4
      go_wp2_with (first
        | (go_at_call 9; (with_reducible refine HN.out.mono ?_); rintro e w1 ⟨rfl, hs1⟩
           have HS1 := Lib.hid hs1
           clear hs1))
      go_loopw [6, 41] (fun n i wr => ∃ (k : Nat) (fs : List Fr), k ≤ l.length ∧ i = .int .i64 k ∧ n = .int .i64 fs.length ∧ fs.length ≤ k ∧ (fs.length : Int) ≤ cap ∧ Hid (Busy 6 fs) ∧ Hid (Star w wr [PzA w.heap.size fs cap])) (fun _ i _ => l.length - (intOf i).toNat)
      case atStart => exact ⟨0, [], by omega, rfl, rfl, by simp, by simpa using hc1, Lib.hid (fun f hf => by simp at hf), HS1⟩
      case round =>
        clear HS1 HN
        obtain ⟨k, fs, hk, rfl, rfl, hfk, hfc, HB, HS⟩ := hrel
        by_cases hlt : k < l.length
        · obtain ⟨ad, u, rfl, had, hx, hcl⟩ := (HR.out.below HS.out.below).at_ hlt
          have hu : u = .int .i64 l[k] := by
            simp [List.getElem?_eq_getElem hlt] at hx
            exact hx.symm
          subst hu
          have hxw := HW.out l[k] (List.getElem_mem _)
          clear hx
          generalize l[k] = x at *
          by_cases hfull : (fs.length : Int) = cap
          · have hAl := alloc_st HS.out 0 rfl (HB.out.gd ⟨hc1, hc2⟩ hfc)
            rw [HB.out.full hfull] at hAl
            simp only [List.set_cons_zero] at hAl
            have HAl := Lib.hid hAl
            have hz : decide ((fs.length : Int) < cap) = false := decide_eq_false (by omega)
            have hz2 : ¬ (fs.length : Int) < cap := by omega
            clear hAl hfull
            go_wp2_with (first
              | (go_at_call 11; (with_reducible refine HAl.out.mono ?_); rintro e w2 ⟨rfl, hs2⟩
                 have HS2 := Lib.hid hs2
                 clear hs2))
            go_roundw
            case rel => exact ⟨k + 1, fs, by omega, by go_num, rfl, by omega, by omega, HB, HS2⟩
            case measure => simp [intOf]; omega
          · have hAl := alloc_st HS.out 0 rfl (HB.out.gd ⟨hc1, hc2⟩ hfc)
            rw [HB.out.alloc hfull] at hAl
            simp only [List.set_cons_zero] at hAl
            have HAl := Lib.hid hAl
            have hz2 : (fs.length : Int) < cap := by omega
            clear hAl hfull
            obtain ⟨d9, hd9⟩ : ∃ d9, writeS (fs ++ [newFr]) (fs.length : Nat) 0 [9] = (0, fs ++ [⟨d9, 1⟩]) := ⟨_, write_last fs _ _ (within_true (by simp))⟩
            have HB2 := Lib.hid (HB.out.snoc (x := newFr) (by simp [newFr]))
            have HWr := Lib.hid (fun (W : World) (h : Star w W [PzA w.heap.size (fs ++ [newFr]) cap]) => write_st (h.alloc (.cells #[.int .u8 9] 5)) 0 rfl (HB2.out.gd ⟨hc1, hc2⟩ (by simp; omega)) (fs.length : Nat) 0 (m := 1) (c := 1) (HNine.out W) (by simp [maxLen]))
            rw [hd9] at HWr
            simp only [List.set_cons_zero] at HWr
            clear hd9
            go_upto_region 15 with (first
              | (go_at_call 11; (with_reducible refine HAl.out.mono ?_); rintro e w2 ⟨rfl, hs2⟩
                 have HS2 := Lib.hid hs2
                 clear hs2)
              | (go_at_call 12; (with_reducible refine (HWr.out _ HS2.out).mono ?_); rintro e w3 ⟨rfl, hs3⟩
                 have HS3 := Lib.hid hs3
                 clear hs3 HS2))
            clear HWr HAl HS
            go_cut [41, 67, 68] from 41 to 74 (fun i a b wx => i = .int .i64 k ∧ b = .int .i64 0 ∧ wx = w3 ∧ ∃ t : Nat, t ≤ 5 ∧ a = .int .i64 t)
            case first =>
              have hx3 : x < 0 ∨ (0 ≤ x ∧ x ≤ 5) ∨ 5 < x := by omega
              rcases hx3 with h1 | ⟨h1, h2⟩ | h1
              · go_wp2
                go_meet
                case rel => exact ⟨rfl, rfl, rfl, 0, by omega, rfl⟩
              · obtain ⟨t, rfl⟩ : ∃ t : Nat, x = t := ⟨x.toNat, by omega⟩
                go_wp2
                go_meet
                case rel => exact ⟨rfl, rfl, rfl, t, by omega, rfl⟩
              · go_wp2
                go_meet
                case rel => exact ⟨rfl, rfl, rfl, 5, by omega, rfl⟩
            case rest =>
              obtain ⟨rfl, rfl, hwx, t, ht, rfl⟩ := hcut
              have hwx' := hwx.symm
              subst hwx'
              go_wp2
              go_loopw [68] (fun j wx => ∃ (m : Nat) (u : Int), j = .int .i64 m ∧ m ≤ t ∧ u = 1 + m ∧ Hid (Star w wx [PzA w.heap.size (fs ++ [⟨d9, u⟩]) cap])) (fun j _ => t - (intOf j).toNat)
              case atStart => exact ⟨0, 1, rfl, by omega, by simp, HS3⟩
              case round =>
                clear HS3
                obtain ⟨m, u, rfl, hmt, hu, HS4⟩ := hrel
                have hu1 : 1 ≤ u := by omega
                have hu2 : u ≤ 6 := by omega
                have HU := Lib.hid hu
                clear hu
                by_cases hmlt : m < t
                · have hSh := share_st HS4.out 0 rfl ((HB.out.snoc (x := ⟨d9, u⟩) ⟨hu1, hu2⟩).gd ⟨hc1, hc2⟩ (by simp; omega)) (by omega) (fs.length : Nat)
                  rw [share_last fs d9 (show u ≠ 0 by omega)] at hSh
                  simp only [List.set_cons_zero] at hSh
                  have HSh := Lib.hid hSh
                  clear hSh
                  go_wp2_with (first
                    | (go_at_call 15; (with_reducible refine HSh.out.mono ?_); rintro e w5 ⟨rfl, hs5⟩
                       have HS5 := Lib.hid hs5
                       clear hs5))
                  go_roundw
                  case rel => exact ⟨m + 1, u + 1, by go_num, by omega, by have := HU.out; omega, HS5⟩
                  case measure => simp [intOf]; omega
                · go_wp2
                  go_roundw
                  case rel => exact ⟨k + 1, fs ++ [⟨d9, u⟩], by omega, by go_num, by simp, by simp; omega, by simp; omega, Lib.hid (HB.out.snoc ⟨hu1, hu2⟩), HS4⟩
                  case measure => simp [intOf]; omega
        · obtain rfl : k = l.length := by omega
          obtain ⟨n, hn⟩ : ∃ n, n = fs.length := ⟨_, rfl⟩
          have HNe := Lib.hid hn
          rw [← hn] at hfk hfc
          simp only [← hn]
          clear hn
          have HB0 := Lib.hid HB.out.half
          clear HB HR HW HNine
          go_wp2
          go_loopw [76] (fun i wx => ∃ (k : Nat) (fs : List Fr), k ≤ n ∧ i = .int .i64 k ∧ Hid (fs.length = n) ∧ Hid (Half 6 k fs) ∧ Hid (Star w wx [PzA w.heap.size fs cap])) (fun i _ => n - (intOf i).toNat)
          case atStart => exact ⟨0, fs, by omega, rfl, Lib.hid HNe.out.symm, HB0, HS⟩
          case round =>
            clear HB0 HNe HS fs
            obtain ⟨k, fs, hk, rfl, HL, HF, HS⟩ := hrel
            by_cases hlt2 : k < n
            · have hlf : k < fs.length := by rw [HL.out]; exact hlt2
              obtain ⟨x, hx⟩ : ∃ x, fs[k]? = some x := ⟨_, List.getElem?_eq_getElem hlf⟩
              have hxu := (HF.out k x hx).2 (Nat.le_refl _)
              have HX := Lib.hid hx
              have HFx := Lib.hid HF.out.x
              clear hx
              go_wp2
              go_loopg [79] 6 (fun g _ wy => ∃ (fs : List Fr) (x : Fr), x.u.toNat ≤ g ∧ Hid (fs.length = n) ∧ Hid (fs[k]? = some x) ∧ Hid (HalfX 6 k fs) ∧ Hid (Star w wy [PzA w.heap.size fs cap]))
              case atStart => exact ⟨fs, x, by omega, HL, HX, HFx, HS⟩
              case round =>
                clear HL HX HFx HS HF hxu hlf
                obtain ⟨fs, x, hg, HL, HX, HF, HS⟩ := hrel
                have hxu := ((HF.out k x HX.out).2.2 rfl)
                have hlf : k < fs.length := by rw [HL.out]; exact hlt2
                have hgd := Lib.hid (HF.out.gd ⟨hc1, hc2⟩ (by rw [HL.out]; exact hfc))
                have hU := users_st HS.out 0 rfl (k : Int)
                rw [usersN_at HX.out] at hU
                have HU := Lib.hid hU
                clear hU
                by_cases hu0 : x.u = 0
                · have hRe := release_st HS.out 0 rfl hgd.out (by omega) (k : Int)
                  rw [release_zero HX.out hu0] at hRe
                  simp only [List.set_cons_zero] at hRe
                  have HRe := Lib.hid hRe
                  clear hRe
                  have HDn := Lib.hid (HF.out.done HX.out hu0)
                  rw [hu0] at HU
                  clear hu0 hxu
                  go_wp2_with (first
                    | (go_at_call 16; (with_reducible refine HU.out.mono ?_); rintro e w5 ⟨rfl, rfl⟩)
                    | (go_at_call 17; (with_reducible refine HRe.out.mono ?_); rintro e w6 ⟨rfl, hs6⟩
                       have HS6 := Lib.hid hs6
                       clear hs6))
                  go_roundw
                  case rel => exact ⟨k + 1, fs, by omega, by go_num, HL, HDn, HS6⟩
                  case measure => simp [intOf]; omega
                · have hRe := release_st HS.out 0 rfl hgd.out (by omega) (k : Int)
                  rw [release_at HX.out hu0] at hRe
                  simp only [List.set_cons_zero] at hRe
                  have HRe := Lib.hid hRe
                  clear hRe
                  have HFs := Lib.hid (HF.out.set (x := ⟨x.d, x.u - 1⟩) (by simp only; omega))
                  have HXs := Lib.hid (show (fs.set k ⟨x.d, x.u - 1⟩)[k]? = some ⟨x.d, x.u - 1⟩ by simp [hlf])
                  have HLs := Lib.hid (show (fs.set k ⟨x.d, x.u - 1⟩).length = n by rw [List.length_set]; exact HL.out)
                  have hpos : 0 < x.u := by omega
                  clear hu0 HX HF
                  obtain ⟨d, u⟩ := x
                  simp only at *
                  go_wp2_with (first
                    | (go_at_call 16; (with_reducible refine HU.out.mono ?_); rintro e w5 ⟨rfl, rfl⟩)
                    | (go_at_call 17; (with_reducible refine HRe.out.mono ?_); rintro e w6 ⟨rfl, hs6⟩
                       have HS6 := Lib.hid hs6
                       clear hs6))
                  go_roundg (u.toNat - 1)
                  case rel => exact ⟨_, _, by simp only; omega, HLs, HXs, HFs, HS6⟩
                  case measure => omega
            · have hkn : k = n := by omega
              have hFn := HF.out
              rw [hkn, ← HL.out] at hFn
              have HFn := Lib.hid hFn
              have hUs := used_st HS.out 0 rfl
              rw [hFn.used] at hUs
              have HUs := Lib.hid hUs
              have hRm := room_st HS.out 0 rfl (HF.out.gd ⟨hc1, hc2⟩ (by rw [HL.out]; exact hfc))
              rw [hFn.used] at hRm
              simp only [Int.natCast_zero, Int.sub_zero] at hRm
              have HRm := Lib.hid hRm
              have HGd := Lib.hid (HF.out.gd ⟨hc1, hc2⟩ (by rw [HL.out]; exact hfc))
              clear hUs hRm hFn
              by_cases hz : cap = 0
              · subst hz
                have hAl := fun n => alloc_st (HS.out.drewN n) 0 rfl HGd.out
                rw [HFn.out.nofull] at hAl
                simp only [List.set_cons_zero] at hAl
                have HAl := Lib.hid hAl
                clear hAl
                go_wp2_with (first
                  | (go_at_call 18; (with_reducible refine HUs.out.mono ?_); rintro e w5 ⟨rfl, rfl⟩)
                  | (go_at_call 19; (with_reducible refine HRm.out.mono ?_); rintro e w6 ⟨rfl, n6, rfl⟩)
                  | (go_at_call 11; (with_reducible refine (HAl.out _).mono ?_); rintro e w7 ⟨rfl, hs7⟩
                     have HS7 := Lib.hid hs7
                     clear hs7)
                  | (go_at_call 10; (with_reducible refine (HA.out _).mono ?_); rintro e w10 ⟨rfl, hb10⟩))
                go_ret
                exact ⟨rfl, HS7.out.below.trans (hb10.mono HS7.out.below.size)⟩
              · obtain ⟨L, hL, hL0⟩ := HFn.out.alloc (show 0 < cap by omega)
                have hAl := fun n => alloc_st (HS.out.drewN n) 0 rfl HGd.out
                rw [hL] at hAl
                simp only [List.set_cons_zero] at hAl
                have HAl := Lib.hid hAl
                clear hAl
                have z0 : (cap == 0) = false := beq_eq_false_iff_ne.mpr hz
                have hRd := fun (W : World) (h : Star w W [PzA w.heap.size L cap]) => read_st h 0 rfl 0 0 1 (by omega)
                rw [read_first hL0] at hRd
                simp only [List.length_singleton] at hRd
                have HRd := Lib.hid hRd
                clear hRd hz hL hL0
                go_wp2_with (first
                  | (go_at_call 18; (with_reducible refine HUs.out.mono ?_); rintro e w5 ⟨rfl, rfl⟩)
                  | (go_at_call 19; (with_reducible refine HRm.out.mono ?_); rintro e w6 ⟨rfl, n6, rfl⟩)
                  | (go_at_call 11; (with_reducible refine (HAl.out _).mono ?_); rintro e w7 ⟨rfl, hs7⟩
                     have HS7 := Lib.hid hs7
                     clear hs7)
                  | (go_at_call 13; (with_reducible refine (HRd.out _ HS7.out).mono ?_); rintro e w8 ⟨v, rfl, hs8⟩
                     obtain ⟨g9, c9, rfl, hg9, hg9l, hc9⟩ := own_form (hs8.row 0 rfl) (by omega)
                     have d9 := (hs8.row 0 rfl).cellAt 0 (by omega)
                     simp only [bytesV, byteV, List.map_cons, List.map_nil, List.getElem?_cons_zero] at d9
                     have HS8 := Lib.hid hs8
                     clear hs8)
                  | (go_at_call 10; (with_reducible refine (HA.out _).mono ?_); rintro e w10 ⟨rfl, hb10⟩))
                go_ret
                exact ⟨rfl, HS8.out.below.trans (hb10.mono HS8.out.below.size)⟩
end Go.Proofs.Ytllofdfldoaedaa.Pg
