/- The walk of PagesPlays. -/
import Derived.Test.YtllofdfldoaedaaPgRfI
import Derived.Test.YtllofdfldoaedaaPgOps
namespace Go.Proofs.Ytllofdfldoaedaa.Mem
open Go Go.RowKit
theorem val_perm {B : Nat} {w : World} {L L' : List Asr} (hp : L.Perm L') : ∀ Fs : List Blocks, Fs.length = L.length → (∀ (i : Nat) (A : Asr) (F : Blocks), L[i]? = some A → Fs[i]? = some F → A.Ok ∧ A B F w) →
    ∃ Fs' : List Blocks, Fs'.length = L'.length ∧ (∀ (i : Nat) (A : Asr) (F : Blocks), L'[i]? = some A → Fs'[i]? = some F → A.Ok ∧ A B F w) ∧ Fs.Perm Fs' := by
  induction hp with
  | nil => exact fun Fs hl h => ⟨Fs, hl, h, List.Perm.refl _⟩
  | cons A hp ih =>
    intro Fs hl h
    match Fs, hl with
    | F :: Gs, hl =>
      obtain ⟨Gs', h1, h2, h3⟩ := ih Gs (by simpa using hl) (fun i X G hi hG => h (i + 1) X G (by simpa using hi) (by simpa using hG))
      refine ⟨F :: Gs', by simp [h1], fun i X G hi hG => ?_, h3.cons F⟩
      cases i with
      | zero => exact h 0 X G (by simpa using hi) (by simpa using hG)
      | succ i => exact h2 i X G (by simpa using hi) (by simpa using hG)
  | swap A A' L =>
    intro Fs hl h
    match Fs, hl with
    | F :: G :: Hs, hl =>
      refine ⟨G :: F :: Hs, by simpa using hl, fun i X H hi hH => ?_, List.Perm.swap _ _ _⟩
      match i with
      | 0 => exact h 1 X H (by simpa using hi) (by simpa using hH)
      | 1 => exact h 0 X H (by simpa using hi) (by simpa using hH)
      | i + 2 => exact h (i + 2) X H (by simpa using hi) (by simpa using hH)
  | trans _ _ ih1 ih2 =>
    intro Fs hl h
    obtain ⟨Gs, h1, h2, h3⟩ := ih1 Fs hl h
    obtain ⟨Hs, h4, h5, h6⟩ := ih2 Gs h1 h2
    exact ⟨Hs, h4, h5, h3.trans h6⟩
theorem Star.perm {w0 w : World} {L L' : List Asr} (h : Star w0 w L) (hp : L.Perm L') : Star w0 w L' := by
  obtain ⟨hb, Fs, hsep, hl, hA⟩ := h
  obtain ⟨Gs, h1, h2, h3⟩ := val_perm hp Fs hl hA
  exact ⟨hb, Gs, ⟨fun G hG => hsep.in_ G (h3.mem_iff.2 hG), (h3.pairwise_iff (fun h => h.symm)).1 hsep.pair⟩, h1, h2⟩
/-- The first one goes to the end. -/
theorem Star.last {w0 w : World} {L : List Asr} {A : Asr} (h : Star w0 w (A :: L)) : Star w0 w (L ++ [A]) := h.perm (List.perm_append_comm (l₁ := [A]))
/-- The last one falls away. -/
theorem Star.unlast {w0 w : World} {L : List Asr} {A : Asr} (h : Star w0 w (L ++ [A])) : Star w0 w L := (h.perm (List.perm_append_comm (l₂ := [A]))).tail
end Go.Proofs.Ytllofdfldoaedaa.Mem
namespace Go.Proofs.Ytllofdfldoaedaa.Pg
open Go Go.RowKit Go.Proofs.Ytllofdfldoaedaa.Mem
set_option linter.unusedVariables false
set_option linter.unusedSimpArgs false
theorem rp_first {w0 w : World} {S : List Asr} (h : Star w0 w S) (cap : Int) : Star w0 (w.alloc (.cells #[.slice none 0 0, .slice none 0 0, .int .i64 cap] 51)) (rp w.heap.size (.slice none 0 0) (.slice none 0 0) [] [] cap S) := by
  have h1 : Star w0 w (RowsD 5 [] [] :: S) := h.new (F := fun _ => False) inferInstance ⟨rfl, fun q v l hq => by simp at hq, fun i j u v hi => by simp at hi, fun k => by simp⟩ (Upd.refl _ _) (fun k hk => hk.elim)
  exact ((h1.nilRow 3 1).nilRow 22 1).newBlk 51 _
def Bt (l : List Value) : Prop := ∀ v ∈ l, ∃ z : Int, v = .int .u8 z
theorem Bt.of (l : List UInt8) : Bt (bytesV l) := fun v hv => by
  obtain ⟨x, -, rfl⟩ := List.mem_map.1 hv
  exact ⟨_, rfl⟩
theorem Bt.set {l : List Value} (h : Bt l) (j : Nat) (z : Int) : Bt (l.set j (.int .u8 z)) := fun v hv => by
  rcases List.mem_or_eq_of_mem_set hv with h1 | rfl
  · exact h v h1
  · exact ⟨z, rfl⟩
theorem CI_write {N : Nat} {fs : List Fr} {cap : Int} (h : CI N fs cap) (f at_ : Int) (l : List UInt8) : CI (N + 1) (writeS fs f at_ l).2 cap := by
  have h2 := h.mono (show N ≤ N + 1 by omega)
  unfold writeS
  by_cases hz : usersN fs f = 0
  · rw [if_pos hz]; exact h2
  · rw [if_neg hz]
    obtain ⟨k, x, rfl, hx, hu, -⟩ := usersN_some hz
    have := h.at_ hx
    rw [getF_at hx]
    split
    · split
      · exact h2
      · exact ⟨h2.gd.set _ (by simp only; omega), by simp only [List.length_set]; exact h2.len⟩
    · exact h2
set_option maxRecDepth 8000 in
set_option maxHeartbeats 16000000 in
theorem plays_walk (cap : Int) (A : Option Addr) (c : Nat) (l : List OpR) (w : World) (hr : Reads w w.heap.size 5 A l.length (l.map opC).flatten) (hm : l.length ≤ maxLen) (hl : ∀ o ∈ l, opOk w o) :
    Calls Try.prog 8 #[.int .i64 cap, .slice A l.length c] w fun e w' => e = .returned (.bool true) ∧ Below w.heap.size w w' := by
  have HA := Lib.hid awake_any
  unfold maxLen at hm
  by_cases hc : cap < 0 ∨ 65536 < cap
  · have HNo := Lib.hid (new_none hc)
    clear hr hl
    rcases hc with hc | hc
    all_goals
      go_enter Try.func8, Try.ntmps8
      go_wp2_with (first
        | (go_at_call 9; (with_reducible refine (HNo.out _).mono ?_); rintro e w1 ⟨rfl, rfl⟩)
        | (go_at_call 10; (with_reducible refine (HA.out _).mono ?_); rintro e w2 ⟨rfl, hb2⟩))
      go_ret
      exact ⟨rfl, hb2⟩
  · have hc1 : 0 ≤ cap := by omega
    have hc2 : cap ≤ 65536 := by omega
    have HN := Lib.hid (new_st (Star.nil w) (cap := cap) ⟨hc1, hc2⟩)
    by_cases hn : 120 < l.length
    · clear hr hl hc
      generalize l.length = n at *
      go_enter Try.func8, Try.ntmps8
      go_wp2_with (first
        | (go_at_call 9; (with_reducible refine HN.out.mono ?_); rintro e w1 ⟨rfl, hs1⟩)
        | (go_at_call 10; (with_reducible refine (HA.out _).mono ?_); rintro e w2 ⟨rfl, hb2⟩))
      go_ret
      exact ⟨rfl, hs1.below.trans (hb2.mono hs1.below.size)⟩
    · have HR := Lib.hid hr
      have HL := Lib.hid hl
      have hn2 : l.length ≤ 120 := by omega
      clear hr hl hn hc
      go_enter Try.func8, Try.ntmps8
      go_wp2_with (first
        | (go_at_call 9; (with_reducible refine HN.out.mono ?_); rintro e w1 ⟨rfl, hs1⟩
           have HS1 := Lib.hid (rp_first hs1 cap)
           clear hs1))
      clear HN
      generalize w1.heap.size = bx at *
      go_loopw [62] (fun i wr => ∃ (k : Nat) (fs : List Fr) (vD vU : Value) (vs : List Value), k ≤ l.length ∧ i = .int .i64 k ∧ Hid (CI k fs cap) ∧ Hid (Star w wr (rp bx vD vU vs fs cap [PzA w.heap.size fs cap]))) (fun i _ => l.length - (intOf i).toNat)
      case atStart => exact ⟨0, [], _, _, _, by omega, rfl, Lib.hid (CI.nil ⟨hc1, hc2⟩), HS1⟩
      case round =>
        clear HS1
        obtain ⟨k, fs, vD, vU, vs, hk, rfl, HC, HS⟩ := hrel
        by_cases hlt : k < l.length
        · obtain ⟨o, ho⟩ : ∃ o, l[k]? = some o := ⟨_, List.getElem?_eq_getElem hlt⟩
          have hok := HL.out o (List.mem_of_getElem? ho)
          obtain ⟨ad, rfl, had, hcl⟩ := (HR.out.below HS.out.below).row (k := k) (r := opC o) (fun r hr => by
            obtain ⟨r0, hr0, rfl⟩ := List.mem_map.1 hr
            rfl) hlt (by simp [ho])
          have HCL := Lib.hid hcl
          clear hcl ho had
          obtain ⟨kd, f, at_, n, A3, c3, d3⟩ := o
          obtain ⟨⟨hnl, hnh⟩, hrd, hdm⟩ := hok
          simp only at hnl hnh hrd hdm
          go_upto_region 10 with (first
            | (with_reducible refine wpList_load_add rfl 41 (.tmp 64) rfl _ rfl (opC ⟨kd, f, at_, n, A3, c3, d3⟩) _ HCL.out Try.underlying41 rfl (by kernel_rfl) ?_)
            | (with_reducible refine wpList_box_st rfl 41 (.tmp 8) (.tmp 65) rfl HS.out #[.int .i64 kd, .int .i64 f, .int .i64 at_, .int .i64 n, .slice A3 d3.length c3] rfl rfl (by kernel_rfl) rfl (by simp [Value.oneCell']) ?_
               intro W1 hs1))
          obtain ⟨g0, eg0⟩ : ∃ g, g = wr.heap.size := ⟨_, rfl⟩
          rw [← eg0] at hs1 ⊢
          have hs2 : Star w W1 (rp bx vD vU vs fs cap [PzA w.heap.size fs cap, BlkA g0 41 #[.int .i64 kd, .int .i64 f, .int .i64 at_, .int .i64 n, .slice A3 d3.length c3]]) := hs1.last
          have hG := fun (W : World) (L : List Asr) (i : Nat) (hi : L[i]? = some (BlkA g0 41 #[.int .i64 kd, .int .i64 f, .int .i64 at_, .int .i64 n, .slice A3 d3.length c3])) (h : Star w W L) => show W.cell? ⟨g0, 0, none⟩ = some (.int .i64 kd) ∧ W.cell? ⟨g0, 1, none⟩ = some (.int .i64 f) ∧ W.cell? ⟨g0, 2, none⟩ = some (.int .i64 at_) ∧ W.cell? ⟨g0, 3, none⟩ = some (.int .i64 n) ∧ W.cell? ⟨g0, 4, none⟩ = some (.slice A3 d3.length c3) from ⟨(h.blk i hi).cellv rfl, (h.blk i hi).cellv rfl, (h.blk i hi).cellv rfl, (h.blk i hi).cellv rfl, (h.blk i hi).cellv rfl⟩
          have HG := Lib.hid hG
          obtain ⟨b0, b1, b2, b3, b4⟩ := hG W1 _ 5 rfl hs2
          have HS2 := Lib.hid hs2
          have HRD := Lib.hid hrd
          clear hs1 HS HCL hG eg0 hs2 hrd
          by_cases hbig : 200 < d3.length
          · clear hnl hnh
            generalize d3.length = n3 at *
            go_wp2_with (first
              | (go_at_call 10; (with_reducible refine (HA.out _).mono ?_); rintro e w2 ⟨rfl, hb2⟩))
            go_ret
            exact ⟨rfl, HS2.out.below.trans (hb2.mono HS2.out.below.size)⟩
          · obtain ⟨n3, en3⟩ : ∃ n3, n3 = d3.length := ⟨_, rfl⟩
            have hn3 : n3 ≤ 200 := by omega
            rw [← en3] at b4
            have HEN3 := Lib.hid en3
            clear hbig hdm en3
            go_upto_block 2 with fail
            go_cut [62] from 62 to 274 (fun i wx => i = .int .i64 k ∧ ∃ fs' vD' vU' vs', Hid (CI (k + 1) fs' cap) ∧ Hid (Star w wx (rp bx vD' vU' vs' fs' cap [PzA w.heap.size fs' cap, BlkA g0 41 #[.int .i64 kd, .int .i64 f, .int .i64 at_, .int .i64 n, .slice A3 d3.length c3]])))
            case first =>
              have hgd := HC.out.gd
              have hus : ∀ f ∈ fs, 0 ≤ f.u := fun f hf => (hgd.us f hf).1
              have hum : ∀ f ∈ fs, f.u ≤ 1000000 := fun f hf => by have := hgd.us f hf; omega
              have hd64 : ∀ f ∈ fs, f.d.length = 64 := by
                obtain ⟨F, hF, -⟩ := HS2.out.of 4 rfl
                exact fun f hf => Pz.ok hF f hf
              by_cases hk1 : kd = 1
              · subst hk1
                --<K1
                as_aux_lemma =>
                  have hp := alloc_st HS2.out 4 rfl hgd
                  have hq := fun (W : World) (h : Star w W (rp bx vD vU vs fs cap [PzA w.heap.size (allocS fs cap).2.2 cap, BlkA g0 41 #[.int .i64 1, .int .i64 f, .int .i64 at_, .int .i64 n, .slice A3 d3.length c3]])) => ralloc h hus hgd.len hc2
                  have hC := HC.out.alloc
                  obtain ⟨it, st, fs', e⟩ : ∃ it st fs', allocS fs cap = (it, st, fs') := ⟨_, _, _, rfl⟩
                  rw [e] at hp hq hC
                  simp only [List.set_cons_zero, List.set_cons_succ] at hp
                  have HP := Lib.hid hp
                  have HQ := Lib.hid hq
                  have HC2 := Lib.hid hC
                  have z1 : (st != st) = false := by simp
                  have z2 : (it != it) = false := by simp
                  clear hp hq hC e hgd hus hum hd64
                  go_wp2_with (first
                    | (go_at_call 11; (with_reducible refine HP.out.mono ?_); rintro e w2 ⟨rfl, hs3⟩
                       have HS3 := Lib.hid hs3
                       clear hs3)
                    | (go_at_call 21; (with_reducible refine (HQ.out _ HS3.out).mono ?_); rintro e w3 ⟨rfl, vD2, vU2, vs2, hs4⟩
                       have HS4 := Lib.hid hs4
                       clear hs4))
                  go_meet
                  case rel => exact ⟨rfl, _, _, _, _, HC2, HS4⟩
                -->K1
              · by_cases hk2 : kd = 2
                · subst hk2
                  --<K2
                  as_aux_lemma =>
                    by_cases hz : usersN fs f = 0
                    · have hm := share_st HS2.out 4 rfl hgd (by omega) f
                      rw [show shareS fs f = (-25, fs) from if_pos hz] at hm
                      simp only [List.set_cons_zero, List.set_cons_succ] at hm
                      have HM := Lib.hid hm
                      have hh := rhas HS2.out f
                      rw [hz, show decide ((0 : Int) < 0) = false from rfl] at hh
                      have HH := Lib.hid hh
                      have HC2 := Lib.hid (HC.out.mono (show k ≤ k + 1 by omega))
                      clear hm hh hz hgd hus hum hd64
                      go_wp2_with (first
                        | (go_at_call 22; (with_reducible refine HH.out.mono ?_); rintro e w2 ⟨rfl, rfl⟩)
                        | (go_at_call 15; (with_reducible refine HM.out.mono ?_); rintro e w3 ⟨rfl, hs3⟩
                           have HS3 := Lib.hid hs3
                           clear hs3))
                      go_meet
                      case rel => exact ⟨rfl, _, _, _, _, HC2, HS3⟩
                    · obtain ⟨q, x, rfl, hx, hx0, hxe⟩ := usersN_some hz
                      have hm := share_st HS2.out 4 rfl hgd (by omega) (q : Int)
                      have hC := HC.out.share (q : Int)
                      have e9 : shareS fs (q : Int) = (0, fs.set q ⟨x.d, x.u + 1⟩) := by
                        unfold shareS
                        rw [if_neg hz]
                        unfold addU
                        rw [getF_at hx, Int.toNat_natCast]
                      rw [e9] at hm hC
                      simp only [List.set_cons_zero, List.set_cons_succ] at hm
                      have HM := Lib.hid hm
                      have HC2 := Lib.hid hC
                      have hh := rhas HS2.out (q : Int)
                      rw [hxe, show decide (0 < x.u) = true from decide_eq_true (by have := hus x (List.mem_of_getElem? hx); omega)] at hh
                      have HH := Lib.hid hh
                      have hx1 := hum x (List.mem_of_getElem? hx)
                      have hx2 := hus x (List.mem_of_getElem? hx)
                      have hql := (List.getElem?_eq_some_iff.1 hx).1
                      obtain ⟨gu, cu, rfl, -, -, -⟩ := rp_user HS2.out hx
                      have HX := Lib.hid hx
                      have hq0 : (0 : Int) ≤ q := by omega
                      have hq1 : (q : Int) < fs.length := by omega
                      clear hm hC hh hz hgd hus hum hd64 e9 hx hx0 hxe
                      go_upto_region 28 with (first
                        | (go_at_call 22; (with_reducible refine HH.out.mono ?_); rintro e w2 ⟨rfl, rfl⟩)
                        | (go_at_call 15; (with_reducible refine HM.out.mono ?_); rintro e w3 ⟨rfl, hs3⟩
                           have HS3 := Lib.hid hs3
                           clear hs3))
                      obtain ⟨gu2, cu2, e2, hcu, hfu, -⟩ := rp_user HS3.out HX.out
                      simp only [Value.slice.injEq, Option.some.injEq, Addr.mk.injEq] at e2
                      obtain ⟨⟨rfl, -, -⟩, -, rfl⟩ := e2
                      have kk := (rp_cells HS3.out).2.1
                      obtain ⟨c0, c1, -, -, -⟩ := HG.out _ _ 5 rfl HS3.out
                      have HS4 := Lib.hid (star_dr (rp_user_set HS3.out HX.out (x.u + 1)))
                      obtain ⟨N, eN⟩ : ∃ N, N = fs.length := ⟨_, rfl⟩
                      rw [← eN] at hq1 kk
                      clear HM HH b0 b1 b2 b3 b4 hql HS2 HS3 eN
                      generalize x.u = u at *
                      go_region
                      all_goals
                        go_wp2
                        go_meet
                        case rel => exact ⟨rfl, _, _, _, _, HC2, HS4⟩
                  -->K2
                · by_cases hk3 : kd = 3
                  · subst hk3
                    --<K3
                    as_aux_lemma =>
                      by_cases hz : usersN fs f = 0
                      · have hm := release_st HS2.out 4 rfl hgd (by omega) f
                        rw [show releaseS fs f = (-25, fs) from if_pos hz] at hm
                        simp only [List.set_cons_zero, List.set_cons_succ] at hm
                        have HM := Lib.hid hm
                        have hh := rhas HS2.out f
                        rw [hz, show decide ((0 : Int) < 0) = false from rfl] at hh
                        have HH := Lib.hid hh
                        have HC2 := Lib.hid (HC.out.mono (show k ≤ k + 1 by omega))
                        clear hm hh hz hgd hus hum hd64
                        go_wp2_with (first
                          | (go_at_call 22; (with_reducible refine HH.out.mono ?_); rintro e w2 ⟨rfl, rfl⟩)
                          | (go_at_call 17; (with_reducible refine HM.out.mono ?_); rintro e w3 ⟨rfl, hs3⟩
                             have HS3 := Lib.hid hs3
                             clear hs3))
                        go_meet
                        case rel => exact ⟨rfl, _, _, _, _, HC2, HS3⟩
                      · obtain ⟨q, x, rfl, hx, hx0, hxe⟩ := usersN_some hz
                        have hm := release_st HS2.out 4 rfl hgd (by omega) (q : Int)
                        have hC := HC.out.release (q : Int)
                        have e9 : releaseS fs (q : Int) = (0, fs.set q ⟨x.d, x.u + -1⟩) := by
                          unfold releaseS
                          rw [if_neg hz]
                          unfold addU
                          rw [getF_at hx, Int.toNat_natCast]
                        rw [e9] at hm hC
                        simp only [List.set_cons_zero, List.set_cons_succ] at hm
                        have HM := Lib.hid hm
                        have HC2 := Lib.hid hC
                        have hh := rhas HS2.out (q : Int)
                        rw [hxe, show decide (0 < x.u) = true from decide_eq_true (by have := hus x (List.mem_of_getElem? hx); omega)] at hh
                        have HH := Lib.hid hh
                        have hx1 := hum x (List.mem_of_getElem? hx)
                        have hx2 := hus x (List.mem_of_getElem? hx)
                        have hql := (List.getElem?_eq_some_iff.1 hx).1
                        obtain ⟨gu, cu, rfl, -, -, -⟩ := rp_user HS2.out hx
                        have HX := Lib.hid hx
                        have hq0 : (0 : Int) ≤ q := by omega
                        have hq1 : (q : Int) < fs.length := by omega
                        clear hm hC hh hz hgd hus hum hd64 e9 hx hx0 hxe
                        go_upto_region 28 with (first
                          | (go_at_call 22; (with_reducible refine HH.out.mono ?_); rintro e w2 ⟨rfl, rfl⟩)
                          | (go_at_call 17; (with_reducible refine HM.out.mono ?_); rintro e w3 ⟨rfl, hs3⟩
                             have HS3 := Lib.hid hs3
                             clear hs3))
                        obtain ⟨gu2, cu2, e2, hcu, hfu, -⟩ := rp_user HS3.out HX.out
                        simp only [Value.slice.injEq, Option.some.injEq, Addr.mk.injEq] at e2
                        obtain ⟨⟨rfl, -, -⟩, -, rfl⟩ := e2
                        have kk := (rp_cells HS3.out).2.1
                        obtain ⟨c0, c1, -, -, -⟩ := HG.out _ _ 5 rfl HS3.out
                        have HS4 := Lib.hid (star_dr (rp_user_set HS3.out HX.out (x.u + -1)))
                        obtain ⟨N, eN⟩ : ∃ N, N = fs.length := ⟨_, rfl⟩
                        rw [← eN] at hq1 kk
                        clear HM HH b0 b1 b2 b3 b4 hql HS2 HS3 eN
                        generalize x.u = u at *
                        go_region
                        all_goals
                          go_wp2
                          go_meet
                          case rel => exact ⟨rfl, _, _, _, _, HC2, HS4⟩
                    -->K3
                  · by_cases hk4 : kd = 4
                    · subst hk4
                      --<K4
                      as_aux_lemma =>
                        have hp := own_st HS2.out 4 rfl hgd (by omega) f
                        have hq := fun (W : World) (h : Star w W (rp bx vD vU vs fs cap [PzA w.heap.size (ownS fs cap f).2.2 cap, BlkA g0 41 #[.int .i64 4, .int .i64 f, .int .i64 at_, .int .i64 n, .slice A3 d3.length c3]])) => rown h hus hum hd64 hgd.len hc2 f
                        have hC := HC.out.own f
                        obtain ⟨it, st, fs', e⟩ : ∃ it st fs', ownS fs cap f = (it, st, fs') := ⟨_, _, _, rfl⟩
                        rw [e] at hp hq hC
                        simp only [List.set_cons_zero, List.set_cons_succ] at hp
                        have HP := Lib.hid hp
                        have HQ := Lib.hid hq
                        have HC2 := Lib.hid hC
                        have z1 : (st != st) = false := by simp
                        have z2 : (it != it) = false := by simp
                        clear hp hq hC e hgd hus hum hd64
                        go_wp2_with (first
                          | (go_at_call 20; (with_reducible refine HP.out.mono ?_); rintro e w2 ⟨rfl, hs3⟩
                             have HS3 := Lib.hid hs3
                             obtain ⟨-, b1', -, -, -⟩ := HG.out _ _ 5 rfl hs3
                             clear hs3)
                          | (go_at_call 23; (with_reducible refine (HQ.out _ HS3.out).mono ?_); rintro e w3 ⟨rfl, vD2, vU2, vs2, hs4⟩
                             have HS4 := Lib.hid hs4
                             clear hs4))
                        go_meet
                        case rel => exact ⟨rfl, _, _, _, _, HC2, HS4⟩
                      -->K4
                    · by_cases hk5 : kd = 5
                      · subst hk5
                        --<K5
                        as_aux_lemma =>
                          have hp := read_st HS2.out 4 rfl f at_ n ⟨hnl, hnh⟩
                          have hq := fun (W : World) (v : Value) (h : Star w W (rp bx vD vU vs fs cap [PzA w.heap.size fs cap, BlkA g0 41 #[.int .i64 5, .int .i64 f, .int .i64 at_, .int .i64 n, .slice A3 d3.length c3], RowA 5 1 v (readS fs f at_ n).1.length (bytesV (readS fs f at_ n).1)])) => rread h hus hd64 f at_ n ⟨hnl, hnh⟩
                          obtain ⟨rb, st, e⟩ : ∃ rb st, readS fs f at_ n = (rb, st) := ⟨_, _, rfl⟩
                          rw [e] at hp hq
                          have HP := Lib.hid hp
                          have HQ := Lib.hid hq
                          have HC2 := Lib.hid (HC.out.mono (show k ≤ k + 1 by omega))
                          have HSm := Lib.hid (fun (W : World) (A5 A6 : Option Addr) (c5 c6 : Nat) (r1 : Reads W W.heap.size 1 A5 rb.length (bytesV rb)) (r2 : Reads W W.heap.size 1 A6 rb.length (bytesV rb)) => same_any (c := c5) (c' := c6) r1 r2)
                          rw [show decide (rb = rb) = true from by simp] at HSm
                          have hrl : rb.length ≤ 64 := by
                            rw [show rb = (readS fs f at_ n).1 by rw [e]]
                            unfold readS
                            split
                            · simp
                            · split
                              · rename_i h1 h2
                                obtain ⟨q, x, rfl, hx, -, -⟩ := usersN_some h1
                                rw [getF_at hx]
                                have := hd64 x (List.mem_of_getElem? hx)
                                simp only [List.length_take, List.length_drop]
                                omega
                              · simp
                          have HB0 := Lib.hid (Bt.of rb)
                          have z1 : (st != st) = false := by simp
                          obtain ⟨m, em⟩ : ∃ m, m = rb.length := ⟨_, rfl⟩
                          rw [← em] at hrl HP HQ HSm
                          clear hp hq e hgd hus hum hd64 em
                          go_wp2_with (first
                            | (go_at_call 13; (with_reducible refine HP.out.mono ?_); rintro e w2 ⟨v2, rfl, hs3⟩
                               obtain ⟨A5, c5, rfl⟩ := own_len (hs3.row 0 rfl)
                               have hs3' : Star w w2 (rp bx vD vU vs fs cap [PzA w.heap.size fs cap, BlkA g0 41 #[.int .i64 5, .int .i64 f, .int .i64 at_, .int .i64 n, .slice A3 d3.length c3], RowA 5 1 (.slice A5 m c5) m (bytesV rb)]) := hs3.last
                               have HS3 := Lib.hid hs3'
                               obtain ⟨-, b1', b2', b3', -⟩ := HG.out _ _ 5 rfl hs3'
                               clear hs3 hs3')
                            | (go_at_call 24; (with_reducible refine (HQ.out _ _ HS3.out).mono ?_); rintro e w3 ⟨v3, rfl, hs4⟩
                               obtain ⟨A6, c6, rfl⟩ := own_len (hs4.row 0 rfl)
                               have HS4 := Lib.hid hs4
                               clear hs4)
                            | (go_at_call 14; (with_reducible refine (HSm.out _ _ _ _ _ (HS4.out.reads 7 rfl) (HS4.out.reads 0 rfl)).mono ?_); rintro e w4 ⟨rfl, rfl⟩))
                          have HS5 := Lib.hid HS4.out.tail
                          clear HS4 HS3 HP HQ HSm b0 b1 b2 b3 b4 b1' b2' b3' HS2
                          go_loopw [197] (fun a wx => ∃ (q : Nat) (bt : List Value), q ≤ m ∧ a = .int .i64 q ∧ Hid (Bt bt) ∧ Hid (Star w wx (rp bx vD vU vs fs cap [PzA w.heap.size fs cap, BlkA g0 41 #[.int .i64 5, .int .i64 f, .int .i64 at_, .int .i64 n, .slice A3 d3.length c3], RowA 5 1 (.slice A5 m c5) m bt]))) (fun a _ => m - (intOf a).toNat)
                          case atStart => exact ⟨0, _, by omega, rfl, HB0, HS5⟩
                          case round =>
                            clear HS5
                            obtain ⟨q, bt, hq, rfl, HB, HS⟩ := hrel
                            by_cases hlt2 : q < m
                            · obtain ⟨g5, c5', e5, -, -, hc5⟩ := own_form (HS.out.row 6 rfl) (by omega)
                              simp only [Value.slice.injEq, true_and] at e5
                              obtain ⟨rfl, rfl⟩ := e5
                              have h5 := (HS.out.row 6 rfl).cellAt q (by omega)
                              have h6 := (HS.out.row 6 rfl).frozenAt q
                              have hbl := (HS.out.row 6 rfl).1
                              obtain ⟨z, hz⟩ := HB.out (bt[q]'(by omega)) (List.getElem_mem _)
                              rw [List.getElem?_eq_getElem (by omega), hz] at h5
                              have HN := Lib.hid (fun u => HS.out.setRow 6 rfl q u)
                              have hq0 : (0 : Int) ≤ q := by omega
                              have hq1 : (q : Int) < m := by omega
                              clear hbl hz
                              go_wp2
                              go_roundw
                              case rel => exact ⟨q + 1, _, by omega, by go_num, Lib.hid (HB.out.set q _), Lib.hid (HN.out _)⟩
                              case measure => simp [intOf]; omega
                            · obtain rfl : q = m := by omega
                              go_wp2
                              go_meet
                              case rel => exact ⟨rfl, _, _, _, _, HC2, Lib.hid (Star.unlast (L := rp bx vD vU vs fs cap [PzA w.heap.size fs cap, BlkA g0 41 #[.int .i64 5, .int .i64 f, .int .i64 at_, .int .i64 n, .slice A3 d3.length c3]]) HS.out)⟩
                        -->K5
                      · by_cases hk6 : kd = 6
                        · subst hk6
                          --<K6
                          as_aux_lemma =>
                            have hrd1 := HRD.out.below HS2.out.below
                            rw [← HEN3.out] at hrd1
                            have hcp := rcopy (n := n3) (c := c3) HS2.out hrd1 (by omega)
                            have HCP := Lib.hid hcp
                            have hmx : n3 ≤ maxLen := by simp only [maxLen]; omega
                            have hrd2 := HRD.out
                            rw [← HEN3.out] at hrd2
                            have hp := fun (W : World) (A5 : Option Addr) (c5 : Nat) (h : Star w W (rp bx vD vU vs fs cap [PzA w.heap.size fs cap, BlkA g0 41 #[.int .i64 6, .int .i64 f, .int .i64 at_, .int .i64 n, .slice A3 d3.length c3], RowA 5 1 (.slice A5 n3 c5) n3 (bytesV d3)])) => write_st (c := c5) h 4 rfl hgd f at_ (h.reads 6 rfl) hmx
                            have hq := fun (W : World) (A5 : Option Addr) (c5 : Nat) (h : Star w W (rp bx vD vU vs fs cap [PzA w.heap.size (writeS fs f at_ d3).2 cap, BlkA g0 41 #[.int .i64 6, .int .i64 f, .int .i64 at_, .int .i64 n, .slice A3 d3.length c3], RowA 5 1 (.slice A5 n3 c5) n3 (bytesV d3)])) => rwrite (c := c3) h hus hd64 f at_ HEN3.out (by omega) hrd2
                            have hC := CI_write HC.out f at_ d3
                            obtain ⟨st, fs', e⟩ : ∃ st fs', writeS fs f at_ d3 = (st, fs') := ⟨_, _, rfl⟩
                            rw [e] at hp hq hC
                            simp only [List.set_cons_zero, List.set_cons_succ] at hp
                            have HP := Lib.hid hp
                            have HQ := Lib.hid hq
                            have HC2 := Lib.hid hC
                            have HB0 := Lib.hid (Bt.of d3)
                            have z1 : (st != st) = false := by simp
                            clear hp hq hC e hgd hus hum hd64 hcp hrd2 hrd1
                            go_upto_region 46 with (first
                              | (go_at_call 25; (with_reducible refine HCP.out.mono ?_); rintro e w2 ⟨v2, rfl, hs3⟩
                                 obtain ⟨A5, c5, rfl⟩ := own_len (hs3.row 0 rfl)
                                 have hs3' : Star w w2 (rp bx vD vU vs fs cap [PzA w.heap.size fs cap, BlkA g0 41 #[.int .i64 6, .int .i64 f, .int .i64 at_, .int .i64 n, .slice A3 d3.length c3], RowA 5 1 (.slice A5 n3 c5) n3 (bytesV d3)]) := hs3.last
                                 have HS3 := Lib.hid (star_dr hs3')
                                 clear hs3 hs3'))
                            clear b0 b1 b2 b3 b4 HS2 HCP
                            have HG2 := Lib.hid (fun (W : World) (L : List Asr) (i : Nat) (hi : L[i]? = some (BlkA g0 41 #[.int .i64 6, .int .i64 f, .int .i64 at_, .int .i64 n, .slice A3 d3.length c3])) (h : Star w W L) => show W.cell? ⟨g0, 1, none⟩ = some (.int .i64 f) ∧ W.cell? ⟨g0, 2, none⟩ = some (.int .i64 at_) ∧ W.cell? ⟨g0, 4, none⟩ = some (.slice A3 n3 c3) from by
                              obtain ⟨-, b1, b2, -, b4⟩ := HG.out W L i hi h
                              rw [← HEN3.out] at b4
                              exact ⟨b1, b2, b4⟩)
                            have hk1 := HG2.out _ _ 5 rfl HS3.out
                            go_region_held3 (fun w' => w'.cell? ⟨g0, 1, none⟩ = some (.int .i64 f) ∧ w'.cell? ⟨g0, 2, none⟩ = some (.int .i64 at_) ∧ w'.cell? ⟨g0, 4, none⟩ = some (.slice A3 n3 c3)) (first | exact hk3 | exact hk2 | exact hk1)
                              (first
                              | (go_at_call 12; (with_reducible refine (HP.out _ _ _ HS3.out).mono ?_); rintro e w4 ⟨rfl, hs4⟩
                                 have HS4 := Lib.hid hs4
                                 have hk2 := HG2.out _ _ 5 rfl hs4
                                 clear hs4)
                              | (go_at_call 26; (with_reducible refine (HQ.out _ _ _ HS4.out).mono ?_); rintro e w5 ⟨rfl, hs5⟩
                                 have HS5 := Lib.hid hs5
                                 have hk3 := HG2.out _ _ 5 rfl hs5
                                 clear hs5))
                            all_goals
                              clear hk1 hk2 hk3 HS3 HS4 HP HQ
                              go_wp2
                              go_loopw [230] (fun a wx => ∃ (q : Nat) (bt : List Value), q ≤ n3 ∧ a = .int .i64 q ∧ Hid (Bt bt) ∧ Hid (Star w wx (rp bx vD vU vs fs' cap [PzA w.heap.size fs' cap, BlkA g0 41 #[.int .i64 6, .int .i64 f, .int .i64 at_, .int .i64 n, .slice A3 d3.length c3], RowA 5 1 (.slice A5 n3 c5) n3 bt]))) (fun a _ => n3 - (intOf a).toNat)
                              case atStart => exact ⟨0, _, by omega, rfl, HB0, HS5⟩
                              case round =>
                                clear HS5
                                obtain ⟨q, bt, hq, rfl, HB, HS⟩ := hrel
                                by_cases hlt2 : q < n3
                                · obtain ⟨g5, c5', e5, -, -, hc5⟩ := own_form (HS.out.row 6 rfl) (by omega)
                                  simp only [Value.slice.injEq, true_and] at e5
                                  obtain ⟨rfl, rfl⟩ := e5
                                  have h5 := (HS.out.row 6 rfl).cellAt q (by omega)
                                  have h6 := (HS.out.row 6 rfl).frozenAt q
                                  have hbl := (HS.out.row 6 rfl).1
                                  obtain ⟨z, hz⟩ := HB.out (bt[q]'(by omega)) (List.getElem_mem _)
                                  rw [List.getElem?_eq_getElem (by omega), hz] at h5
                                  have HN := Lib.hid (fun u => HS.out.setRow 6 rfl q u)
                                  have hq0 : (0 : Int) ≤ q := by omega
                                  have hq1 : (q : Int) < n3 := by omega
                                  clear hbl hz
                                  go_wp2
                                  go_roundw
                                  case rel => exact ⟨q + 1, _, by omega, by go_num, Lib.hid (HB.out.set q _), Lib.hid (HN.out _)⟩
                                  case measure => simp [intOf]; omega
                                · obtain rfl : q = n3 := by omega
                                  go_wp2
                                  go_meet
                                  case rel => exact ⟨rfl, _, _, _, _, HC2, Lib.hid (Star.unlast (L := rp bx vD vU vs fs' cap [PzA w.heap.size fs' cap, BlkA g0 41 #[.int .i64 6, .int .i64 f, .int .i64 at_, .int .i64 n, .slice A3 d3.length c3]]) HS.out)⟩
                          -->K6
                        ·
                          --<K7
                          as_aux_lemma =>
                            have z1 : (kd == 1) = false := beq_eq_false_iff_ne.mpr hk1
                            have z2 : (kd == 2) = false := beq_eq_false_iff_ne.mpr hk2
                            have z3 : (kd == 3) = false := beq_eq_false_iff_ne.mpr hk3
                            have z4 : (kd == 4) = false := beq_eq_false_iff_ne.mpr hk4
                            have z5 : (kd == 5) = false := beq_eq_false_iff_ne.mpr hk5
                            have z6 : (kd == 6) = false := beq_eq_false_iff_ne.mpr hk6
                            have HC2 := Lib.hid (HC.out.mono (show k ≤ k + 1 by omega))
                            clear hk1 hk2 hk3 hk4 hk5 hk6 hgd hus hum hd64
                            go_wp2
                            go_meet
                            case rel => exact ⟨rfl, _, _, _, _, HC2, HS2⟩
                          -->K7
            case rest =>
              --<R
              as_aux_lemma =>
                clear b0 b1 b2 b3 b4 HS2 HC
                obtain ⟨rfl, fs', vD', vU', vs', HC, HS⟩ := hcut
                have hgd := HC.out.gd
                have hfl := HC.out.len
                have hgl := hgd.len
                have hul := usersN fs' f
                have hus : ∀ x ∈ fs', 0 ≤ x.u := fun x hx => (hgd.us x hx).1
                have HH := Lib.hid (rhas HS.out f)
                have HU := Lib.hid (fun (W : World) (L : List Asr) (h : Star w W L) (hi : L[4]? = some (PzA w.heap.size fs' cap)) => users_st h 4 hi f)
                have HUd := Lib.hid (fun (W : World) (L : List Asr) (h : Star w W L) (hi : L[4]? = some (PzA w.heap.size fs' cap)) => used_st h 4 hi)
                have HRm := Lib.hid (fun (W : World) (L : List Asr) (h : Star w W L) (hi : L[4]? = some (PzA w.heap.size fs' cap)) => room_st h 4 hi hgd)
                have HRu := Lib.hid (fun (W : World) (h : Star w W (rp bx vD' vU' vs' fs' cap [PzA w.heap.size fs' cap, BlkA g0 41 #[.int .i64 kd, .int .i64 f, .int .i64 at_, .int .i64 n, .slice A3 d3.length c3]])) => rused h hus (by omega))
                have hqq := usedN_le fs'
                obtain ⟨-, b1, -, -, -⟩ := HG.out _ _ 5 rfl HS.out
                generalize usedN fs' = qn at *
                have z2 : ((qn : Int) != (qn : Int)) = false := by simp
                have z3 : ((cap - (qn : Int)) != (cap - (qn : Int))) = false := by simp
                have hqn : (qn : Int) ≤ 65536 := by omega
                by_cases hz : usersN fs' f = 0
                · rw [hz] at HH HU
                  rw [show decide ((0 : Int) < 0) = false from rfl] at HH
                  clear hz hgd hus
                  go_wp2_with (first
                    | (go_at_call 22; (with_reducible refine HH.out.mono ?_); rintro e w2 ⟨rfl, rfl⟩)
                    | (go_at_call 16; (with_reducible refine (HU.out _ _ HS.out rfl).mono ?_); rintro e w2 ⟨rfl, rfl⟩)
                    | (go_at_call 18; (with_reducible refine (HUd.out _ _ HS.out rfl).mono ?_); rintro e w2 ⟨rfl, rfl⟩)
                    | (go_at_call 27; (with_reducible refine (HRu.out _ HS.out).mono ?_); rintro e w2 ⟨rfl, rfl⟩)
                    | (go_at_call 19; (with_reducible refine (HRm.out _ _ HS.out rfl).mono ?_); rintro e w2 ⟨rfl, d2, rfl⟩
                       have HS3 := Lib.hid (HS.out.drewN d2))
                    | (go_at_call 27; (with_reducible refine (HRu.out _ HS3.out).mono ?_); rintro e w2 ⟨rfl, rfl⟩))
                  go_roundw
                  case rel => exact ⟨k + 1, fs', vD', vU', vs', by omega, by go_num, HC, Lib.hid (Star.unlast (L := rp bx vD' vU' vs' fs' cap [PzA w.heap.size fs' cap]) HS3.out)⟩
                  case measure => simp [intOf]; omega
                · obtain ⟨q, x, rfl, hx, hx0, hxe⟩ := usersN_some hz
                  have hx2 := hus x (List.mem_of_getElem? hx)
                  rw [hxe] at HH HU
                  rw [show decide (0 < x.u) = true from decide_eq_true (by omega)] at HH
                  obtain ⟨gu, cu, rfl, hcu, -, -⟩ := rp_user HS.out hx
                  have kk := (rp_cells HS.out).2.1
                  have hql := (List.getElem?_eq_some_iff.1 hx).1
                  have hq0 : (0 : Int) ≤ q := by omega
                  have hq1 : (q : Int) < fs'.length := by omega
                  obtain ⟨N, eN⟩ : ∃ N, N = fs'.length := ⟨_, rfl⟩
                  rw [← eN] at kk hq1
                  have zx : (x.u != x.u) = false := by simp
                  clear hz hgd hus hx hx0 hxe eN
                  generalize x.u = u at *
                  go_upto_region 55 with (first
                    | (go_at_call 22; (with_reducible refine HH.out.mono ?_); rintro e w2 ⟨rfl, rfl⟩))
                  go_quiet (fail)
                  have HS2 := Lib.hid (HS.out.drewN nq)
                  clear kk hcu b1 HS
                  generalize wc.drewN nq = W5 at *
                  obtain ⟨-, b1', -, -, -⟩ := HG.out _ _ 5 rfl HS2.out
                  go_wp2_with (first
                    | (go_at_call 16; (with_reducible refine (HU.out _ _ HS2.out rfl).mono ?_); rintro e w2 ⟨rfl, rfl⟩)
                    | (go_at_call 18; (with_reducible refine (HUd.out _ _ HS2.out rfl).mono ?_); rintro e w2 ⟨rfl, rfl⟩)
                    | (go_at_call 27; (with_reducible refine (HRu.out _ HS2.out).mono ?_); rintro e w2 ⟨rfl, rfl⟩)
                    | (go_at_call 19; (with_reducible refine (HRm.out _ _ HS2.out rfl).mono ?_); rintro e w2 ⟨rfl, d2, rfl⟩
                       have HS3 := Lib.hid (HS2.out.drewN d2))
                    | (go_at_call 27; (with_reducible refine (HRu.out _ HS3.out).mono ?_); rintro e w2 ⟨rfl, rfl⟩))
                  go_roundw
                  case rel => exact ⟨k + 1, fs', vD', _, vs', by omega, by go_num, HC, Lib.hid (Star.unlast (L := rp bx vD' _ vs' fs' cap [PzA w.heap.size fs' cap]) HS3.out)⟩
                  case measure => simp [intOf]; omega
              -->R
        · obtain rfl : k = l.length := by omega
          --<E
          as_aux_lemma =>
            have hgd := HC.out.gd
            have hgl := hgd.len
            have hus : ∀ x ∈ fs, 0 ≤ x.u := fun x hx => (hgd.us x hx).1
            have hd64 : ∀ f ∈ fs, f.d.length = 64 := by
              obtain ⟨F, hF, -⟩ := HS.out.of 4 rfl
              exact fun f hf => Pz.ok hF f hf
            have HUS := Lib.hid hus
            have HD64 := Lib.hid hd64
            obtain ⟨AU, cU, rfl⟩ := rp_size HS.out
            have kk := (rp_cells HS.out).2.1
            obtain ⟨N, eN⟩ : ∃ N, N = fs.length := ⟨_, rfl⟩
            rw [← eN] at kk
            have HEN := Lib.hid eN
            have hN : N ≤ 65536 := by omega
            clear hgd hus hd64 eN hgl
            go_wp2
            go_loopw [280] (fun a wx => ∃ (q : Nat), q ≤ N ∧ a = .int .i64 q ∧ Hid (Star w wx (rp bx vD (.slice AU fs.length cU) vs fs cap [PzA w.heap.size fs cap]))) (fun a _ => N - (intOf a).toNat)
            case atStart => exact ⟨0, by omega, rfl, HS⟩
            case round =>
              clear HS kk
              obtain ⟨q, hq, rfl, HS⟩ := hrel
              by_cases hlt2 : q < N
              · have hp := read_st HS.out 4 rfl (q : Int) 0 64 (by omega)
                have hqq := fun (W : World) (v : Value) (h : Star w W (rp bx vD (.slice AU fs.length cU) vs fs cap [PzA w.heap.size fs cap, RowA 5 1 v (readS fs (q : Int) 0 64).1.length (bytesV (readS fs (q : Int) 0 64).1)])) => rread h HUS.out HD64.out (q : Int) 0 64 (by omega)
                obtain ⟨rb, st, e⟩ : ∃ rb st, readS fs (q : Int) 0 64 = (rb, st) := ⟨_, _, rfl⟩
                rw [e] at hp hqq
                have HP := Lib.hid hp
                have HQ := Lib.hid hqq
                have HSm := Lib.hid (fun (W : World) (A5 A6 : Option Addr) (c5 c6 : Nat) (r1 : Reads W W.heap.size 1 A5 rb.length (bytesV rb)) (r2 : Reads W W.heap.size 1 A6 rb.length (bytesV rb)) => same_any (c := c5) (c' := c6) r1 r2)
                rw [show decide (rb = rb) = true from by simp] at HSm
                have z1 : (st != st) = false := by simp
                clear hp hqq e
                generalize rb.length = m at *
                go_wp2_with (first
                  | (go_at_call 13; (with_reducible refine HP.out.mono ?_); rintro e w2 ⟨v2, rfl, hs3⟩
                     obtain ⟨A5, c5, rfl⟩ := own_len (hs3.row 0 rfl)
                     have hs3' : Star w w2 (rp bx vD (.slice AU fs.length cU) vs fs cap [PzA w.heap.size fs cap, RowA 5 1 (.slice A5 m c5) m (bytesV rb)]) := hs3.last
                     have HS3 := Lib.hid hs3'
                     clear hs3 hs3')
                  | (go_at_call 24; (with_reducible refine (HQ.out _ _ HS3.out).mono ?_); rintro e w3 ⟨v3, rfl, hs4⟩
                     obtain ⟨A6, c6, rfl⟩ := own_len (hs4.row 0 rfl)
                     have HS4 := Lib.hid hs4
                     clear hs4)
                  | (go_at_call 14; (with_reducible refine (HSm.out _ _ _ _ _ (HS4.out.reads 6 rfl) (HS4.out.reads 0 rfl)).mono ?_); rintro e w4 ⟨rfl, rfl⟩))
                go_roundw
                case rel => exact ⟨q + 1, by omega, by go_num, Lib.hid (Star.unlast (L := rp bx vD (.slice AU fs.length cU) vs fs cap [PzA w.heap.size fs cap]) HS4.out.tail)⟩
                case measure => simp [intOf]; omega
              · obtain rfl : q = N := by omega
                go_wp2_with (first
                  | (go_at_call 10; (with_reducible refine (HA.out _).mono ?_); rintro e w2 ⟨rfl, hb2⟩))
                go_ret
                exact ⟨rfl, HS.out.below.trans (hb2.mono HS.out.below.size)⟩
          -->E
theorem plays_row (a : Int) (ha : (Lit.int .i64 a).wf = true) (A : Option Addr) (c : Nat) (l : List OpR) (w : World) (hr : Reads w w.heap.size 5 A l.length (l.map opC).flatten) (hm : l.length ≤ maxLen) (hl : ∀ o ∈ l, opOk w o) :
    Calls Try.prog 8 #[.int .i64 a, .slice A l.length c] w fun e w' => e = .returned (.bool true) ∧ Below w.heap.size w w' := plays_walk a A c l w hr hm hl
end Go.Proofs.Ytllofdfldoaedaa.Pg
