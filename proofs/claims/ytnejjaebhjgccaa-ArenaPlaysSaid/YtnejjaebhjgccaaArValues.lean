/- The walk of ArenaValues. -/
import Derived.Test.YtnejjaebhjgccaaArG
namespace Go.Proofs.Ytnejjaebhjgccaa.Ar
open Go Go.RowKit Go.Proofs.Ytnejjaebhjgccaa.Mem Go.Proofs.Ytnejjaebhjgccaa.Bits
set_option linter.unusedVariables false
set_option linter.unusedSimpArgs false
theorem int_info : (Try.prog.info? 3).map (fun i => (i.zero, i.size, i.bytes)) = some (some (.int .i64 0), 1, 8) := by kernel_rfl
def full (l : List Int) : List Sl := l.map fun x => ⟨1, true, x⟩
def idl (k : Nat) : List Int := (List.range k).map fun (i : Nat) => 65536 + (i : Int)
theorem idl_succ (k : Nat) : idl (k + 1) = idl k ++ [65536 + (k : Int)] := by simp [idl, List.range_succ]
theorem full_take {l : List Int} {k : Nat} (h : k < l.length) : full (l.take (k + 1)) = full (l.take k) ++ [⟨1, true, l[k]⟩] := by
  unfold full
  rw [List.take_succ_eq_append_getElem h, List.map_append]
  rfl
theorem full_at {l : List Int} {q : Nat} (h : q < l.length) : (full l)[q]? = some ⟨1, true, l[q]⟩ := by simp [full, h]
theorem findN_at {L : List Sl} {q : Nat} {s : Sl} (hq : q < 65536) (hs : L[q]? = some s) (ht : s.tk = true) (hg : s.gen = 1) : findN L (65536 + (q : Int)) = some q := by
  unfold findN
  rw [if_pos (by omega), show ((65536 + (q : Int)) % 65536).toNat = q by omega, hs]
  simp only
  rw [if_pos ⟨ht, by rw [hg]; omega⟩]
theorem find_full {l : List Int} {q : Nat} (h : q < l.length) (hl : l.length ≤ 60 := by omega) : findN (full l) (65536 + (q : Int)) = some q := findN_at (by omega) (full_at h) rfl rfl
/-- The slots behind the store. -/
def slF (l : List Int) (a v : Int) : List Sl := (List.range l.length).map fun (i : Nat) => ⟨1, true, if (i : Int) = a then v else l.getD i 0⟩
theorem slF_at {l : List Int} {a v : Int} {j : Nat} (h : j < l.length) : (slF l a v)[j]? = some ⟨1, true, if (j : Int) = a then v else l[j]⟩ := by
  simp [slF, h]
theorem slF_out {l : List Int} {a v : Int} (h : a < 0 ∨ (l.length : Int) ≤ a) : full l = slF l a v := by
  apply List.ext_getElem?
  intro j
  by_cases hj : j < l.length
  · rw [full_at hj, slF_at hj, if_neg (by omega)]
  · rw [List.getElem?_eq_none (by simp [full]; omega), List.getElem?_eq_none (by simp [slF]; omega)]
theorem slF_in {l : List Int} {v : Int} {q : Nat} (hq : q < l.length) : (full l).set q ⟨1, true, v⟩ = slF l q v := by
  apply List.ext_getElem?
  intro j
  by_cases hj : j < l.length
  · rw [slF_at hj, List.getElem?_set]
    by_cases hqj : q = j
    · subst hqj
      simp [full, hq]
    · rw [if_neg hqj, full_at hj, if_neg (by omega)]
  · rw [List.getElem?_eq_none (by simp [full]; omega), List.getElem?_eq_none (by simp [slF]; omega)]
set_option maxHeartbeats 4000000 in
theorem values_walk (A : Option Addr) (c : Nat) (l : List Int) (at_ v : Int) (w : World) (hr : Reads w w.heap.size 1 A l.length (ints l)) : Calls Try.prog 3 #[.slice A l.length c, .int .i64 at_, .int .i64 v] w fun e w' => e = .returned (.bool true) ∧ Below w.heap.size w w' := by
  have H1 := Lib.hid (new_some 64 (by decide) (by decide) w w.heap.size (Nat.le_refl _))
  have HA := Lib.hid awake_any
  have HR := Lib.hid hr
  clear hr
  by_cases hl : 60 < l.length
  · go_enter Try.func3, Try.ntmps3
    go_wp2_with (first
      | (go_at_call 9; (with_reducible refine H1.out.mono ?_); rintro e w1 ⟨rfl, hA1, hb1⟩)
      | (go_at_call 10; (with_reducible refine (HA.out _).mono ?_); rintro e w2 ⟨rfl, hb2⟩))
    go_ret
    exact ⟨rfl, hb1.trans (hb2.mono hb1.size)⟩
  · have hl2 : l.length ≤ 60 := by omega
    obtain ⟨i0, hi0, hz0, hz1, hz2⟩ := info_parts int_info
    go_enter Try.func3, Try.ntmps3
    go_wp2_with (first
      | (go_at_call 9; (with_reducible refine H1.out.mono ?_); rintro e w1 ⟨rfl, hA1, hb1⟩))
    go_loopw [8, 33] (fun ids i wr => ∃ (k : Nat) (sv : Value), k ≤ l.length ∧ i = .int .i64 k ∧ Hid (Arn wr w.heap.size w.heap.size (full (l.take k)) [] 64 k sv (.slice none 0 0)) ∧ Hid (wr.ownsRow w.heap.size 3 1 ids k (ints (idl k))) ∧ Hid (Below w.heap.size w wr)) (fun _ i _ => l.length - (intOf i).toNat)
    case atStart => exact ⟨0, _, by omega, rfl, Lib.hid hA1, Lib.hid (show w1.ownsRow w.heap.size 3 1 (.slice none 0 0) 0 [] from World.ownsRow_nil _ _ _ _), Lib.hid hb1⟩
    case round =>
      obtain ⟨k, sv, hk, rfl, HAr, HO, HB⟩ := hrel
      by_cases hlt : k < l.length
      · obtain ⟨ad, u, rfl, had, hx, hc⟩ := (HR.out.below HB.out).at_ hlt
        have hu : u = .int .i64 l[k] := by
          simp [ints, List.getElem?_eq_getElem hlt] at hx
          exact hx.symm
        subst hu
        have hft := full_take hlt
        have hlen : (full (l.take k)).length = k := by simp [full]; omega
        have hAl := alloc_more HAr.out HB.out.size (by omega) (by decide) (by omega) l[k]
        rw [hlen, ← hft] at hAl
        have HAl := Lib.hid hAl
        clear hx hft hAl
        generalize l[k] = x at *
        obtain ⟨A3, c3, rfl⟩ := own_len HO.out
        go_wp2_with (first
          | (go_at_call 11; (with_reducible refine HAl.out.mono ?_); rintro e w2 ⟨rfl, sv2, hA2, hU2, hN2⟩
             have hO2 := own_upd HO.out hU2 (fun g hg e => by
               rcases e with e | e | e
               · exact own_blk_ne HO.out HAr.out.blk (by decide) (by rw [hg, e])
               · exact own_own_ne HO.out HAr.out.slots (by decide) hg e
               · simp [Value.ownBlock] at e)
             have hB2 := HB.out.trans (hU2.below HB.out.size (fun g hg => (HAr.out.ft_lt hg).1)))
          | (at_builtin
             refine wpList_append_any _ rfl (.tmp 43) (.tmp 45) _ rfl w.heap.size 3 i0 _ 1 8 Try.underlying22 hi0 hz0 hz1 hz2 rfl (by omega) (.slice A3 k c3) k (ints (idl k)) rfl
               (hO2.alloc _) (w2.heap.size + 1) (some ⟨w2.heap.size, 0, none⟩) 1 1 [.int .i64 (65536 + (k : Int))] rfl (reads_new w2 3 [.int .i64 (65536 + (k : Int))] 1 rfl) (by simp [Value.oneCell']) (by simp only [maxLen]; omega) (by omega) (by have := hB2.size; simp; omega) ?_
             intro v3 w3 hO3 hg3 hat3))
        go_roundw
        case rel =>
          have hA3 : Arn w3 w.heap.size w.heap.size (full (l.take (k + 1))) [] 64 ((k : Int) + 1) sv2 (.slice none 0 0) := (hA2.upd ((Upd.refl (fun _ => False) w2).alloc _) (fun _ _ h => h)).upd (Upd.of_grown hg3 (F := fun i => (Value.slice A3 k c3).ownBlock = some i) (fun i hi => hi)) (fun g hg e => by
            rcases hg with hg | hg | hg
            · exact own_blk_ne hO2 hA2.blk (by decide) (by rw [e, hg])
            · exact own_own_ne hO2 hA2.slots (by decide) e hg
            · simp [Value.ownBlock] at hg)
          have hB3 : Below w.heap.size w w3 := (hB2.alloc hB2.size _).grown hg3 (by have := hB2.size; simp; omega) (fun g hg => (hO2.lt g hg).1)
          refine ⟨k + 1, sv2, by omega, by go_num, Lib.hid hA3, Lib.hid ?_, Lib.hid hB3⟩
          rw [idl_succ]
          simpa [ints] using hO3
        case measure => simp [intOf]; omega
      · obtain rfl : k = l.length := by omega
        rw [List.take_length] at HAr
        obtain ⟨A3, c3, rfl⟩ := own_len HO.out
        have hcase : at_ < 0 ∨ (l.length : Int) ≤ at_ ∨ ∃ q : Nat, at_ = q ∧ q < l.length := by
          rcases Int.lt_or_le at_ 0 with h | h
          · exact .inl h
          · rcases Int.lt_or_le at_ l.length with h2 | h2
            · exact .inr (.inr ⟨at_.toNat, by omega, by omega⟩)
            · exact .inr (.inl h2)
        rcases hcase with hat | hat | ⟨q, rfl, hq⟩
        case' inr.inr =>
          obtain ⟨g3, cp3, hsl, hbg3, hgl3, hnc3⟩ := own_form HO.out (by omega)
          have dq := (hsl ▸ HO.out).cellAt q (by omega)
          simp only [Value.slice.injEq] at hsl
          obtain ⟨rfl, -, rfl⟩ := hsl
          have hid : (ints (idl l.length))[q]? = some (.int .i64 (65536 + (q : Int))) := by simp [ints, idl, hq]
          rw [hid] at dq
          have HS := Lib.hid (set_some HAr.out v (find_full hq) (full_at hq))
          go_upto_region 13 with (first
            | (go_at_call 12; (with_reducible refine HS.out.mono ?_); rintro e w5 ⟨rfl, hA5, hU5⟩
               have hO5 := own_upd HO.out hU5 (fun g hg e => by
                 rcases e with e | e | e
                 · exact own_blk_ne HO.out HAr.out.blk (by decide) (by rw [hg, e])
                 · exact own_own_ne HO.out HAr.out.slots (by decide) hg e
                 · simp [Value.ownBlock] at e)
               have hB5 := HB.out.trans (hU5.below HB.out.size (fun g hg => (HAr.out.ft_lt hg).1))))
          have HA5 : Hid (Arn w5 w.heap.size w.heap.size (slF l q v) [] 64 l.length sv (.slice none 0 0)) := Lib.hid (slF_in (l := l) (v := v) hq ▸ hA5)
          have HO5 := Lib.hid hO5
          have HB5 := Lib.hid hB5
          clear hA5 hO5 hB5 hU5 dq hid HS hq HAr HO HB
          generalize ((q : Nat) : Int) = at_ at *
          generalize (some (⟨g3, 0, none⟩ : Addr)) = A3 at *
        case' inl =>
          have HA5 : Hid (Arn wr w.heap.size w.heap.size (slF l at_ v) [] 64 l.length sv (.slice none 0 0)) := Lib.hid (slF_out (l := l) (v := v) (.inl hat) ▸ HAr.out)
          have HO5 := HO
          have HB5 := HB
          clear HAr HO HB
          go_upto_region 13 with fail
        case' inr.inl =>
          have HA5 : Hid (Arn wr w.heap.size w.heap.size (slF l at_ v) [] 64 l.length sv (.slice none 0 0)) := Lib.hid (slF_out (l := l) (v := v) (.inr hat) ▸ HAr.out)
          have HO5 := HO
          have HB5 := HB
          clear HAr HO HB
          go_upto_region 13 with fail
        all_goals
          go_wp2
          go_loopw [68] (fun i wx => ∃ j : Nat, j ≤ l.length ∧ i = .int .i64 j ∧ Hid (Arn wx w.heap.size w.heap.size (slF l _ v) [] 64 l.length sv (.slice none 0 0)) ∧ Hid (wx.ownsRow w.heap.size 3 1 (.slice _ l.length c3) l.length (ints (idl l.length))) ∧ Hid (Below w.heap.size w wx)) (fun i _ => l.length - (intOf i).toNat)
          case atStart => exact ⟨0, by omega, rfl, HA5, HO5, HB5⟩
          case round =>
            obtain ⟨j, hj, rfl, HAj, HOj, HBj⟩ := hrel
            by_cases hlt : j < l.length
            · obtain ⟨g4, cp4, hsl, hbg4, hgl4, hnc4⟩ := own_form HOj.out (by omega)
              have dj := (hsl ▸ HOj.out).cellAt j (by omega)
              simp only [Value.slice.injEq] at hsl
              obtain ⟨rfl, -, rfl⟩ := hsl
              have hid : (ints (idl l.length))[j]? = some (.int .i64 (65536 + (j : Int))) := by simp [ints, idl, hlt]
              rw [hid] at dj
              obtain ⟨ad, u, rfl, had, hx, hc⟩ := (HR.out.below HBj.out).at_ hlt
              have hu : u = .int .i64 l[j] := by
                simp [ints, List.getElem?_eq_getElem hlt] at hx
                exact hx.symm
              subst hu
              have hG := get_some HAj.out (id := 65536 + (j : Int)) (findN_at (by omega) (slF_at hlt) rfl rfl) (slF_at hlt)
              simp only at hG
              have hDr : ∀ n, Hid (Arn (wr.drewN n) w.heap.size w.heap.size (slF l at_ v) [] 64 l.length sv (.slice none 0 0)) := fun n => Lib.hid (HAj.out.drewN n)
              have hDo : ∀ n, Hid ((wr.drewN n).ownsRow w.heap.size 3 1 (.slice (some ⟨g4, 0, none⟩) l.length c3) l.length (ints (idl l.length))) := fun n => Lib.hid HOj.out
              have hDb : ∀ n, Hid (Below w.heap.size w (wr.drewN n)) := fun n => Lib.hid (below_drewN HBj.out n)
              have HDr := Lib.hid hDr
              have HDo := Lib.hid hDo
              have HDb := Lib.hid hDb
              clear hid hx hDr hDo hDb HAj HOj HBj HA5 HO5 HB5
              generalize l[j] = x at *
              by_cases hja : (j : Int) = at_
              · rw [if_pos hja] at hG
                have HG := Lib.hid hG
                have z1 : ((j : Int) == at_) = true := beq_iff_eq.mpr hja
                clear hja hG
                go_wp2_with (first
                  | (go_at_call 13; (with_reducible refine HG.out.mono ?_); rintro e w6 ⟨rfl, n6, rfl⟩))
                go_roundw
                case rel => exact ⟨j + 1, by omega, by go_num, HDr.out _, HDo.out _, HDb.out _⟩
                case measure => simp [intOf]; omega
              · rw [if_neg hja] at hG
                have HG := Lib.hid hG
                have z1 : ((j : Int) == at_) = false := beq_eq_false_iff_ne.mpr hja
                clear hja hG
                go_wp2_with (first
                  | (go_at_call 13; (with_reducible refine HG.out.mono ?_); rintro e w6 ⟨rfl, n6, rfl⟩))
                go_roundw
                case rel => exact ⟨j + 1, by omega, by go_num, HDr.out _, HDo.out _, HDb.out _⟩
                case measure => simp [intOf]; omega
            · obtain rfl : j = l.length := by omega
              have HC := Lib.hid (count_any HAj.out)
              clear HA5 HO5 HB5
              go_wp2_with (first
                | (go_at_call 14; (with_reducible refine HC.out.mono ?_); rintro e w6 ⟨rfl, rfl⟩)
                | (go_at_call 10; (with_reducible refine (HA.out _).mono ?_); rintro e w7 ⟨rfl, hb7⟩))
              go_ret
              exact ⟨rfl, HBj.out.trans (hb7.mono HBj.out.size)⟩
end Go.Proofs.Ytnejjaebhjgccaa.Ar
