/- The walk of the statement NumRounds. -/
import Derived.Test.YtfdnbefeidpccaaNumLaws
namespace Go.Proofs.Ytfdnbefeidpccaa.Big
open Go Go.RowKit Go.Proofs.Ytfdnbefeidpccaa.Mem
open Go.Proofs.Ytfdnbefeidpccaa.Num (fits mag okV okB tells tells_yes tells_no awake_any emod_le down_no down_yes up_no up_same up_more)
set_option linter.unusedVariables false
set_option linter.unusedSimpArgs false
set_option maxHeartbeats 1000000 in
theorem rounds_no (n t : Int) (h : t < 1 ∨ n < 0) (w : World) :
    Calls Try.prog 7 #[.int .i64 n, .int .i64 t] w fun e w' => e = .returned (.bool true) ∧ Below w.heap.size w w' := by
  have H1 := Lib.hid (down_no n t h)
  have H2 := Lib.hid (up_no n t h)
  by_cases h1 : t < 1
  · clear h
    go_enter Try.func7, Try.ntmps7
    go_wp2_with (first
      | (go_at_call 22; (with_reducible refine (H1.out _).mono ?_); rintro e w1 ⟨rfl, rfl⟩)
      | (go_at_call 23; (with_reducible refine (H2.out _).mono ?_); rintro e w1 ⟨rfl, rfl⟩)
      | (go_at_call 14; (with_reducible refine (awake_any _).mono ?_); rintro e w5 ⟨rfl, rfl⟩))
    go_ret
    exact ⟨rfl, Below.refl _ _⟩
  · have h2 : n < 0 := by omega
    clear h
    go_enter Try.func7, Try.ntmps7
    go_wp2_with (first
      | (go_at_call 22; (with_reducible refine (H1.out _).mono ?_); rintro e w1 ⟨rfl, rfl⟩)
      | (go_at_call 23; (with_reducible refine (H2.out _).mono ?_); rintro e w1 ⟨rfl, rfl⟩)
      | (go_at_call 14; (with_reducible refine (awake_any _).mono ?_); rintro e w5 ⟨rfl, rfl⟩))
    go_ret
    exact ⟨rfl, Below.refl _ _⟩
theorem sub_emod_self (n t : Int) : (n - n % t) % t = 0 := by
  have h1 := Int.mul_ediv_add_emod n t
  rw [show n - n % t = t * (n / t) by omega, Int.mul_emod_right]
set_option maxHeartbeats 1000000 in
theorem rounds_same (n t : Int) (h : 1 ≤ t) (h0 : 0 ≤ n) (hn : n ≤ 9223372036854775807) (hm : n % t = 0) (w : World) :
    Calls Try.prog 7 #[.int .i64 n, .int .i64 t] w fun e w' => e = .returned (.bool true) ∧ Below w.heap.size w w' := by
  have D1 := down_yes n t h h0 hn
  rw [hm, Int.sub_zero] at D1
  have H1 := Lib.hid D1
  have H2 := Lib.hid (up_same n t h h0 hn hm)
  have H3 := Lib.hid (of_any n ⟨by omega, hn⟩)
  have hf : fits n := ⟨by omega, hn⟩
  have H4 : Hid (okV n = n) := Lib.hid (by simp [okV, hf])
  have H5 : Hid (okB n = true) := Lib.hid (by simp [okB, hf])
  have e1 : n.tmod t = 0 := by rw [Int.tmod_eq_emod_of_nonneg h0]; exact hm
  have hz1 : (t == 0) = false := beq_eq_false_iff_ne.mpr (by omega)
  have hz2 : (t != 0) = true := bne_iff_ne.mpr (by omega)
  have hz3 : ¬ t = 0 := by omega
  clear D1 hm hf
  go_enter Try.func7, Try.ntmps7
  go_wp2_with (first
      | (go_at_call 22; (with_reducible refine (H1.out _).mono ?_); rintro e w1 ⟨rfl, rfl⟩)
      | (go_at_call 23; (with_reducible refine (H2.out _).mono ?_); rintro e w1 ⟨rfl, rfl⟩)
      | (go_at_call 15; (with_reducible refine (H3.out _).mono ?_); rintro e w1 ⟨A, rfl, vA, lA, hb1⟩)
      | (with_reducible refine store_big rfl (.tmp 9) (.tmp 70) rfl _ A _ rfl rfl vA.len _ (Blk.newAt rfl) rfl ?_)
      | (with_reducible refine load_big rfl (.tmp 9) rfl _ A _ rfl vA.len (Blk.row (Blk.newAt rfl) _) ?_)
      | (go_at_call 18; (with_reducible refine (same_at vA (sg_mag n) H4.out H5.out _).mono ?_); rintro e w2 ⟨rfl, hb2⟩)
      | (go_at_call 14; (with_reducible refine (awake_any _).mono ?_); rintro e w5 ⟨rfl, rfl⟩))
  go_ret
  exact ⟨rfl, (hb1.trans (below_setRow ((Below.refl _ _).alloc hb1.size _) hb1.size _)).trans (hb2.mono (by simp; have := hb1.size; omega))⟩
section
variable {w w1 W : World} {g g9 : Nat} {v0 v1 v2 v3 v4 v5 v6 v7 v8 v9 v10 v11 v12 : Value}
theorem keep1 (h : (w.cell? ⟨g9, 0, none⟩ = some v0 ∧ w.cell? ⟨g9, 1, none⟩ = some v1 ∧ w.cell? ⟨g9, 2, none⟩ = some v2 ∧ w.cell? ⟨g9, 3, none⟩ = some v3 ∧ w.cell? ⟨g9, 4, none⟩ = some v4 ∧ w.cell? ⟨g9, 5, none⟩ = some v5 ∧ w.cell? ⟨g9, 6, none⟩ = some v6 ∧ w.cell? ⟨g9, 7, none⟩ = some v7 ∧ w.cell? ⟨g9, 8, none⟩ = some v8 ∧ w.cell? ⟨g9, 9, none⟩ = some v9 ∧ w.cell? ⟨g9, 10, none⟩ = some v10 ∧ w.cell? ⟨g9, 11, none⟩ = some v11 ∧ w.cell? ⟨g9, 12, none⟩ = some v12) ∧ (∀ j, w.frozen? ⟨g9, j, none⟩ = false) ∧ Below W.heap.size W w) (h9 : g9 < W.heap.size) (hb : Below w.heap.size w w1) : (w1.cell? ⟨g9, 0, none⟩ = some v0 ∧ w1.cell? ⟨g9, 1, none⟩ = some v1 ∧ w1.cell? ⟨g9, 2, none⟩ = some v2 ∧ w1.cell? ⟨g9, 3, none⟩ = some v3 ∧ w1.cell? ⟨g9, 4, none⟩ = some v4 ∧ w1.cell? ⟨g9, 5, none⟩ = some v5 ∧ w1.cell? ⟨g9, 6, none⟩ = some v6 ∧ w1.cell? ⟨g9, 7, none⟩ = some v7 ∧ w1.cell? ⟨g9, 8, none⟩ = some v8 ∧ w1.cell? ⟨g9, 9, none⟩ = some v9 ∧ w1.cell? ⟨g9, 10, none⟩ = some v10 ∧ w1.cell? ⟨g9, 11, none⟩ = some v11 ∧ w1.cell? ⟨g9, 12, none⟩ = some v12) ∧ (∀ j, w1.frozen? ⟨g9, j, none⟩ = false) ∧ Below W.heap.size W w1 :=
  ⟨c13_next h.1 hb (Nat.lt_of_lt_of_le h9 h.2.2.size), fun j => (hb.frozen (p := ⟨g9, j, none⟩) (Nat.lt_of_lt_of_le h9 h.2.2.size)).trans (h.2.1 j), h.2.2.trans (hb.mono h.2.2.size)⟩
theorem keep1_drew (h : (w.cell? ⟨g9, 0, none⟩ = some v0 ∧ w.cell? ⟨g9, 1, none⟩ = some v1 ∧ w.cell? ⟨g9, 2, none⟩ = some v2 ∧ w.cell? ⟨g9, 3, none⟩ = some v3 ∧ w.cell? ⟨g9, 4, none⟩ = some v4 ∧ w.cell? ⟨g9, 5, none⟩ = some v5 ∧ w.cell? ⟨g9, 6, none⟩ = some v6 ∧ w.cell? ⟨g9, 7, none⟩ = some v7 ∧ w.cell? ⟨g9, 8, none⟩ = some v8 ∧ w.cell? ⟨g9, 9, none⟩ = some v9 ∧ w.cell? ⟨g9, 10, none⟩ = some v10 ∧ w.cell? ⟨g9, 11, none⟩ = some v11 ∧ w.cell? ⟨g9, 12, none⟩ = some v12) ∧ (∀ j, w.frozen? ⟨g9, j, none⟩ = false) ∧ Below W.heap.size W w) : (w.drew.cell? ⟨g9, 0, none⟩ = some v0 ∧ w.drew.cell? ⟨g9, 1, none⟩ = some v1 ∧ w.drew.cell? ⟨g9, 2, none⟩ = some v2 ∧ w.drew.cell? ⟨g9, 3, none⟩ = some v3 ∧ w.drew.cell? ⟨g9, 4, none⟩ = some v4 ∧ w.drew.cell? ⟨g9, 5, none⟩ = some v5 ∧ w.drew.cell? ⟨g9, 6, none⟩ = some v6 ∧ w.drew.cell? ⟨g9, 7, none⟩ = some v7 ∧ w.drew.cell? ⟨g9, 8, none⟩ = some v8 ∧ w.drew.cell? ⟨g9, 9, none⟩ = some v9 ∧ w.drew.cell? ⟨g9, 10, none⟩ = some v10 ∧ w.drew.cell? ⟨g9, 11, none⟩ = some v11 ∧ w.drew.cell? ⟨g9, 12, none⟩ = some v12) ∧ (∀ j, w.drew.frozen? ⟨g9, j, none⟩ = false) ∧ Below W.heap.size W w.drew := ⟨h.1, h.2.1, h.2.2.drew⟩
end
theorem run_store_big {w : World} {g : Nat} {t : TypeId} {old : Array Value} {D : List Int} {neg : Bool} (hb : Blk w g t old) (hl : D.length = 12) (ho : old.size = 13 := by rfl) :
    (storeCells ⟨g, 0, none⟩ (bigA D neg).toList).run Try.prog w = .ok () (w.setRow g (bigA D neg)) := by
  have := run_storeCells_from (P := Try.prog) g t (bigA D neg).toList 0 old w hb.heap (by simp [bigA, bigL, hl, ho]) (fun v hv => (Array.all_eq_true_iff_forall_mem.1 (bigA_one D neg)) v (by simpa using hv))
  simpa using this
theorem one_new (W : World) (Z cs : Array Value) {C : World → Prop} (h : ∀ W', Blk W' W.heap.size 30 cs → Below W.heap.size W W' → W.heap.size < W'.heap.size → C W') :
    C ((W.alloc (.cells Z 30)).setRow W.heap.size cs) :=
  h _ (Blk.row (Blk.newAt rfl) _) (below_setRow ((Below.refl _ _).alloc (Nat.le_refl _) _) (Nat.le_refl _) _) (by simp)
set_option maxHeartbeats 4000000 in
theorem rounds_more (n t : Int) (h : 1 ≤ t) (ht : t ≤ 9223372036854775807) (h0 : 0 ≤ n) (hn : n ≤ 9223372036854775807) (hm : n % t ≠ 0) (w : World) :
    Calls Try.prog 7 #[.int .i64 n, .int .i64 t] w fun e w' => e = .returned (.bool true) ∧ Below w.heap.size w w' := by
  have H1 := Lib.hid (down_yes n t h h0 hn)
  have H2 := Lib.hid (up_more n t h ht h0 hn hm)
  have r0 := Int.emod_nonneg n (b := t) (by omega)
  have r1 := emod_le h0 h
  have r2 := Int.emod_lt_of_pos n (show 0 < t by omega)
  have hlow : 0 ≤ n - n % t := by omega
  have e1 : (n - n % t).tmod t = 0 := by rw [Int.tmod_eq_emod_of_nonneg hlow]; exact sub_emod_self n t
  have hz1 : (t == 0) = false := beq_eq_false_iff_ne.mpr (by omega)
  have hz2 : (t != 0) = true := bne_iff_ne.mpr (by omega)
  have hz3 : ¬ t = 0 := by omega
  have hlt : n - n % t < n := by omega
  have hge : n - (n - n % t) < t := by omega
  generalize n - n % t = l at *
  have H3 := Lib.hid (of_any l ⟨by omega, by omega⟩)
  have H4 := Lib.hid (of_any t ⟨by omega, by omega⟩)
  have EA := Lib.hid (sg_mag l)
  have EB := Lib.hid (sg_mag t)
  have MA := mag_le (n := l) ⟨by omega, by omega⟩
  have MB := mag_le (n := t) ⟨by omega, by omega⟩
  have z1 : (l == n) = false := beq_eq_false_iff_ne.mpr (by omega)
  have z2 : (l != n) = true := bne_iff_ne.mpr (by omega)
  clear hm r0 r1 r2
  go_enter Try.func7, Try.ntmps7
  go_wp2_with (first
      | (go_at_call 22; (with_reducible refine (H1.out _).mono ?_); rintro e w1 ⟨rfl, rfl⟩)
      | (go_at_call 23; (with_reducible refine (H2.out _).mono ?_); rintro e w1 ⟨rfl, rfl⟩; simp only [tells])
      | (go_at_call 15; (with_reducible refine (H3.out _).mono ?_); rintro e w1 ⟨A, rfl, vA, lA, hb1⟩)
      | (with_reducible refine store_big rfl (.tmp 9) (.tmp 70) rfl _ A _ rfl rfl vA.len _ (Blk.newAt rfl) rfl ?_; refine one_new (C := fun W => wpList _ _ _ _ _ W) w1 _ _ ?_; intro W0 bA hb2 hsz))
  have hA := big_range bA
  have hF : ∀ j, W0.frozen? ⟨w1.heap.size, j, none⟩ = false := fun j => bA.frozen j
  have h9 : w1.heap.size < W0.heap.size := hsz
  have hbw : Below w.heap.size w W0 := hb1.trans (hb2.mono hb1.size)
  have hg9 : w.heap.size ≤ w1.heap.size := hb1.size
  generalize w1.heap.size = g9 at *
  clear hb1 hb2 hsz
  generalize decide (l < 0) = na at *
  generalize decide (t < 0) = nb at *
  generalize mag l = ma at *
  generalize mag t = mb at *
  obtain ⟨a0, a1, a2, a3, a4, a5, a6, a7, a8, a9, a10, a11, rfl⟩ := twelve vA.len
  have bA0 := bA
  obtain ⟨hc0, hc1, hc2, hc3, hc4, hc5, hc6, hc7, hc8, hc9, hc10, hc11, hc12⟩ := c13_mk hA
  clear hF
  have hs : ma + mb < 65536 ^ 12 := by have : (65536 : Int) ^ 12 = 6277101735386680763835789423207666416102355444464034512896 := by decide
                                       omega
  have HS := Lib.hid hs
  clear hs
  have C1 : Hid (∀ (T : List Int), V T mb → ∀ W, Calls Try.prog 19 #[.agg #[.int .i64 a0, .int .i64 a1, .int .i64 a2, .int .i64 a3, .int .i64 a4, .int .i64 a5, .int .i64 a6, .int .i64 a7, .int .i64 a8, .int .i64 a9, .int .i64 a10, .int .i64 a11, .bool na], .agg (bigA T nb)] W (SBig (sg na ma + sg nb mb) (ma + mb) W)) := Lib.hid (fun T vT W => add_any na nb vA vT HS.out W)
  go_region_with (first
      | (go_at_call 15; (with_reducible refine (H4.out _).mono ?_); rintro e w2 ⟨T, rfl, vT, lT, hb2⟩; have bA2 := (Blk.drew bA).below hb2 (by simpa using h9); obtain ⟨hd0, hd1, hd2, hd3, hd4, hd5, hd6, hd7, hd8, hd9, hd10, hd11, hd12⟩ := c13_mk (big_range bA2))
      | (go_at_call 19; (with_reducible refine (C1.out T vT _).mono ?_); rintro e w3 ⟨D, nd, md, rfl, vD, hsg, _, hb3⟩; have HD := Lib.hid hsg; clear hsg; have bA3 := bA2.below hb3 bA2.lt; have hst := run_store_big (neg := nd) bA3 vD.len; have hsz3 := bigA_size (neg := nd) vD.len))
  all_goals
    have hv : sg nd md = l + t := HD.out.trans (by rw [EA.out, EB.out])
    have HV := Lib.hid hv
    have bA4 := bA3.row (bigA D nd)
    clear hv hst hsz3
    go_wp2_with (first
      | (with_reducible refine load_big rfl (.tmp 9) rfl _ D _ rfl vD.len bA4 ?_)
      | (go_at_call 18; (with_reducible refine (same_at vD HV.out rfl rfl _).mono ?_); rintro e w4 ⟨rfl, hb4⟩)
      | (go_at_call 14; (with_reducible refine (awake_any _).mono ?_); rintro e w5 ⟨rfl, rfl⟩))
    go_ret
    exact ⟨rfl, (below_setRow ((hbw.drew.trans (hb2.mono hbw.size)).trans (hb3.mono (Nat.le_trans hbw.size hb2.size))) hg9 _).trans (hb4.mono (by rw [setRow_size]; exact Nat.le_trans (Nat.le_trans hbw.size hb2.size) hb3.size))⟩
theorem rounds_walk (n t : Int) (hn : fits n) (ht : fits t) (w : World) :
    Calls Try.prog 7 #[.int .i64 n, .int .i64 t] w fun e w' => e = .returned (.bool true) ∧ Below w.heap.size w w' := by
  by_cases h : t < 1 ∨ n < 0
  · exact rounds_no n t h w
  · by_cases hm : n % t = 0
    · exact rounds_same n t (by omega) (by omega) hn.2 hm w
    · exact rounds_more n t (by omega) ht.2 (by omega) hn.2 hm w
end Go.Proofs.Ytfdnbefeidpccaa.Big
