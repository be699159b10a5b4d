/- The fifo: Read at the other end (printed by ffn.py out of FfM). -/
import Derived.Test.YtaiggfoeobehlaaFfM
namespace Go.Proofs.Ytaiggfoeobehlaa.Ff
open Go Go.RowKit Go.Shelf Go.Proofs.Ytaiggfoeobehlaa.Mem
set_option linter.unusedVariables false
set_option linter.unusedSimpArgs false
theorem pop_star2 {w0 w : World} {S : List Asr} {bs q p n z : Nat} {t : Value × Value} {rb R : Ring} {A : Asr} (h : Star w0 w (A :: BlkA bs 65 (((ffC ⟨rb, R, n, z⟩ t).setIfInBounds 6 (.int .i64 p)).setIfInBounds 7 (.int .i64 ((q : Int) - 1))) :: RowO 5 1 t.1 rb.raw.length (byV rb.raw) :: RowO 5 1 t.2 R.raw.length (byV R.raw) :: S))
    (hq : R.el.length = q) (hq1 : 1 ≤ q) (hp : p = (R.fi + 1) % n) : Star w0 w (A :: (ff bs ⟨rb, popR n R, n, z⟩ t ++ S)) := by
  subst hq hp
  have h2 : ((ffC ⟨rb, R, n, z⟩ t).setIfInBounds 6 (.int .i64 (((R.fi + 1) % n : Nat) : Int))).setIfInBounds 7 (.int .i64 ((R.el.length : Int) - 1)) = ffC ⟨rb, popR n R, n, z⟩ t := by
    show #[_, _, _, _, _, _, _, _, _, _] = _
    unfold ffC popR
    simp
    omega
  rw [h2] at h
  exact h
section
variable {w0 w : World} {S : List Asr} {bs : Nat} {t : Value × Value}
set_option maxRecDepth 100000 in
set_option maxHeartbeats 4000000 in
theorem read_ok2 {rb : Ring} {raw : List UInt8} {fi n z : Nat} {el : List (List UInt8)} (h : Star w0 w (ff bs ⟨rb, ⟨false, raw, fi, el⟩, n, z⟩ t ++ S)) (hR : RingOk n z ⟨false, raw, fi, el⟩) (kk : Nat) (hpow : n = 2 ^ kk) (hkk : kk ≤ 10)
    (hz : 1 ≤ z) (hz2 : z ≤ 64) (nn K : Nat) (hnn : 1 ≤ nn) (hnn2 : nn ≤ 9223372036854775807) (hel : 0 < el.length) (hK : K = min nn el.length) :
    Calls Try.prog 13 #[.pointer (some ⟨bs, 0, none⟩), .int .i64 1, .int .i64 nn] w fun r w' => ∃ v, r = .returned (.tuple #[v, .int .i64 0]) ∧ Star w0 w' (RowO 5 1 v (K * z) (byV (el.take K).flatten) :: (ff bs ⟨rb, pops n ⟨false, raw, fi, el⟩ K, n, z⟩ t ++ S)) := by
  obtain ⟨t1, t2⟩ := t
  have hrl : raw.length = n * z := (hR.2.2.2.2 rfl).1
  have hn0 : 0 < n := by have := hR.2.1; omega
  have hnz : 0 < n * z := Nat.mul_pos hn0 hz
  obtain ⟨g, off, cp, ht2, -, -, hcp⟩ := (h.rowO 2 rfl).form (by simp only; omega)
  simp only at ht2 hcp
  rw [hrl] at ht2 hcp
  subst ht2
  have h2k : 2 ^ kk ≤ 2 ^ 10 := Nat.pow_le_pow_right (by omega) hkk
  rw [← hpow] at h2k
  have hml : el.length ≤ n := hR.1
  have HC := Lib.hid (check_any h 1)
  rw [show checkF ⟨rb, ⟨false, raw, fi, el⟩, n, z⟩ 1 = 0 by simp [checkF]] at HC
  obtain ⟨-, -, -, -, k0, -, -, k3, -, -⟩ := ff_cells h
  simp only at k0 k3
  have HS := Lib.hid (h.nilO 5 1)
  have HR := Lib.hid hR
  have HP := Lib.hid hpow
  have HRL := Lib.hid hrl
  obtain ⟨i0, hi0, hz0, hz1, hz2'⟩ := info_parts by_info
  obtain ⟨ml, eml⟩ : ∃ ml, ml = el.length := ⟨_, rfl⟩
  rw [← eml] at hml hel hK k3
  have EL := Lib.hid eml
  have hne : ((ml : Int) == 0) = false := by simp; omega
  have hm1 : ¬ (ml : Int) = 0 := by omega
  have hn1 : ¬ (nn : Int) < 1 := by omega
  have hKm : K ≤ ml := by omega
  have HKE := Lib.hid hK
  have HAT := Lib.hid (fun (W : World) (R : Ring) (A : Asr) (hW : Star w0 W (A :: (ff bs ⟨rb, R, n, z⟩ (t1, .slice (some ⟨g, off, none⟩) (n * z) cp) ++ S))) (hf : R.fi < n) =>
    at_core (w := W) (r := 4) 0 kk ((hW.blk 1 rfl).cellv (i := 5) rfl) (show W.cell? ⟨bs, 6, none⟩ = some (.int .i64 R.fi) from (hW.blk 1 rfl).cellv (i := 6) rfl) ((hW.blk 1 rfl).cellv (i := 8) rfl) ((hW.blk 1 rfl).cellv (i := 9) rfl) hpow hkk hz2 hz rfl hcp (by omega) (by omega))
  have HAND := Lib.hid (fun (x : Nat) (hx : x ≤ 1024) => and_low (x + 1) kk (by omega) hkk)
  have hmin : ((ml : Int) < nn ∧ K = ml) ∨ (¬ (ml : Int) < nn ∧ K = nn) := by omega
  clear h hR hpow hrl eml hK hnn
  rcases hmin with ⟨hlt, rfl⟩ | ⟨hlt, rfl⟩
  all_goals
    go_enter Try.func13, Try.ntmps13
    go_wp2_with (first | (go_at_call 25; (with_reducible refine HC.out.mono ?_); rintro e w1 ⟨rfl, rfl⟩))
    go_loopw [10, 53] (fun s10 s53 wr => ∃ (k : Nat) (v : Value), k ≤ K ∧ s10 = v ∧ s53 = .int .i64 k ∧ Hid (Star w0 wr (RowO 5 1 v (k * z) (byV (el.take k).flatten) :: (ff bs ⟨rb, pops n ⟨false, raw, fi, el⟩ k, n, z⟩ (t1, .slice (some ⟨g, off, none⟩) (n * z) cp) ++ S)))) (fun _ s53 _ => K - (intOf s53).toNat)
    case atStart => exact ⟨0, _, by omega, rfl, rfl, Lib.hid (by simpa [pops, byV] using HS.out)⟩
    case round =>
      clear HS HC k0 k3
      obtain ⟨k, v, hk, rfl, rfl, HW⟩ := hrel
      by_cases hlt2 : k < K
      · have hkz : (k : Int) < K := by omega
        obtain ⟨R, eR⟩ : ∃ R, R = pops n ⟨false, raw, fi, el⟩ k := ⟨_, rfl⟩
        have hRk : RingOk n z R := by rw [eR]; exact pops_ok HR.out k
        have hRc : R.cl = false := by rw [eR, pops_cl]
        have hRr : R.raw = raw := by rw [eR, pops_raw]
        have hRe : R.el = el.drop k := by rw [eR, pops_el]
        rw [← eR] at HW
        have hke : k < el.length := by have := EL.out; omega
        obtain ⟨x, hx⟩ : ∃ x, el[k]? = some x := ⟨_, List.getElem?_eq_getElem hke⟩
        have hx0 : R.el[0]? = some x := by rw [hRe, List.getElem?_drop]; exact hx
        have hxl : x.length = z := hRk.2.2.1 x (List.mem_of_getElem? hx0)
        have hxr := (hRk.2.2.2.2 hRc).2 0 x hx0
        have hRf := hRk.2.1
        have hsl := slot_in ((R.fi + 0) % n) n z (Nat.mod_lt _ hn0)
        have HRd : Hid (∀ (W : World) (A : Asr), Star w0 W (A :: (ff bs ⟨rb, R, n, z⟩ (t1, .slice (some ⟨g, off, none⟩) (n * z) cp) ++ S)) → Reads W W.heap.size 1 (some ⟨g, off + (R.fi + 0) % n * z, none⟩) z (byV x)) := Lib.hid (fun W A hW => by
          have ho := hW.rowO 3 rfl
          simp only [hRr, HRL.out] at ho
          have h1 := (ho.cut (k := (R.fi + 0) % n * z) (by omega)).head (k := z) (by omega)
          rw [if_neg (by omega)] at h1
          simp only [Option.map_some, Nat.mul_one, addr_at] at h1
          have h2 : ((byV raw).drop ((R.fi + 0) % n * z)).take z = byV x := by
            rw [← hxr, hRr]
            simp [byV]
          rw [h2] at h1
          exact h1.reads)
        obtain ⟨q, eq⟩ : ∃ q, R.el.length = q := ⟨_, rfl⟩
        have hq1 : 1 ≤ q := by rw [← eq, hRe, List.length_drop]; omega
        have hqn : q ≤ n := by rw [← eq]; exact hRk.1
        have hqz : (1 : Int) ≤ q := by omega
        have hqz2 : (q : Int) ≤ 1024 := by omega
        have hfz : (R.fi : Int) ≤ 1024 := by omega
        have hnz1 : (1 : Int) ≤ n := by omega
        have hnz2 : (n : Int) ≤ 1024 := by omega
        obtain ⟨p, ep⟩ : ∃ p, p = (R.fi + 1) % n := ⟨_, rfl⟩
        have hand : bits .and .i64 ((R.fi : Int) + 1) ((n : Int) - 1) = (p : Int) := by
          have := HAND.out R.fi (by omega)
          rw [← HP.out, ← ep] at this
          rw [← this]
          congr 1
        have hlen : k * z + z ≤ 65536 := by
          have h1 : (k + 1) * z ≤ 1024 * 64 := Nat.mul_le_mul (by omega) hz2
          rw [Nat.add_mul, Nat.one_mul] at h1
          omega
        have HX := Lib.hid hx
        have HER := Lib.hid eR
        have HEQ := Lib.hid eq
        have HEP := Lib.hid ep
        have h0 := HAT.out wr R _ HW.out hRf
        rw [show ((0 : Nat) : Int) = 0 from rfl] at h0
        have HATk := Lib.hid h0
        clear h0 eR hRk hRc hRr hRe hx hx0 hxl hxr hsl eq ep HAND hke
        go_wp2_with (first
          | (go_at_call 27; (with_reducible refine HATk.out.mono ?_); rintro e w1 ⟨rfl, d, rfl⟩; have HS1 := Lib.hid (HW.out.drewN d))
          | (at_builtin; refine wpList_append_so rfl (.tmp 55) (.tmp 58) 27 rfl HS1.out 0 rfl i0 _ 1 Try.underlying27 hi0 hz0 hz1 hz2' rfl (by omega) rfl _ _ z z (byV x) rfl (HRd.out _ _ HS1.out) (byV_one _) (by simp only [maxLen]; omega) (by omega) ?_
             intro v' w2 hs2
             simp only [List.set_cons_zero] at hs2
             have c2 : w2.cell? ⟨bs, 6, none⟩ = some (.int .i64 R.fi) := (hs2.blk 1 rfl).cellv (i := 6) rfl
             have c3 : w2.cell? ⟨bs, 7, none⟩ = some (.int .i64 q) := by rw [(hs2.blk 1 rfl).cellv (i := 7) rfl, ← HEQ.out]; rfl
             have c8 : w2.cell? ⟨bs, 8, none⟩ = some (.int .i64 n) := (hs2.blk 1 rfl).cellv (i := 8) rfl
             have f2 := (hs2.blk 1 rfl).frozen 6
             have f3 := (hs2.blk 1 rfl).frozen 7
             have HS2 := Lib.hid hs2
             clear hs2))
        go_region
        all_goals
          go_wp2
          go_roundw
          case rel =>
            refine ⟨k + 1, v', by omega, rfl, by go_num, Lib.hid ?_⟩
            have h6 := ((HS2.out.setBlk 1 rfl 6 (.int .i64 p)).setBlk 1 rfl 7 (.int .i64 ((q : Int) - 1)))
            rw [show (k + 1) * z = k * z + z by rw [Nat.add_mul, Nat.one_mul], show byV (el.take (k + 1)).flatten = byV (el.take k).flatten ++ byV x by rw [List.take_add_one, HX.out]; simp [byV], show pops n ⟨false, raw, fi, el⟩ (k + 1) = popR n R by rw [HER.out]; rfl]
            exact pop_star2 (star_dr h6) HEQ.out hq1 HEP.out
          case measure => simp [intOf]; omega
      · have hkz : ¬ (k : Int) < K := by omega
        obtain rfl : k = K := by omega
        clear HAT HAND
        go_wp2
        go_ret2
        exact ⟨_, rfl, HW.out⟩
end
end Go.Proofs.Ytaiggfoeobehlaa.Ff
