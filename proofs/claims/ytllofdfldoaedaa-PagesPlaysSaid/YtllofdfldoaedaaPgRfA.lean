/- The reference of the pool: has, used. -/
import Derived.Test.YtllofdfldoaedaaPgJ
import Derived.Test.YtllofdfldoaedaaPackD
namespace Go.Proofs.Ytllofdfldoaedaa.Pg
open Go Go.RowKit Go.Proofs.Ytllofdfldoaedaa.Mem
set_option linter.unusedVariables false
set_option linter.unusedSimpArgs false
/-- The reference's pool, beside other objects: its block, its rows of data and of users, its frames' bytes. -/
abbrev rp (b : Nat) (vD vU : Value) (vs : List Value) (fs : List Fr) (cap : Int) (S : List Asr) : List Asr := BlkA b 51 #[vD, vU, .int .i64 cap] :: RowA 22 1 vD fs.length vs :: RowA 3 1 vU fs.length (fs.map fun f => .int .i64 f.u) :: RowsD 5 vs (fs.map fun f => bytesV f.d) :: S
section
variable {w0 w : World} {b : Nat} {vD vU : Value} {vs : List Value} {fs : List Fr} {cap : Int} {S : List Asr}
theorem rp_cells (h : Star w0 w (rp b vD vU vs fs cap S)) : w.cell? ⟨b, 0, none⟩ = some vD ∧ w.cell? ⟨b, 1, none⟩ = some vU ∧ w.cell? ⟨b, 2, none⟩ = some (.int .i64 cap) := ⟨(h.blk 0 rfl).cellv rfl, (h.blk 0 rfl).cellv rfl, (h.blk 0 rfl).cellv rfl⟩
theorem rp_user (h : Star w0 w (rp b vD vU vs fs cap S)) {k : Nat} {x : Fr} (hx : fs[k]? = some x) : ∃ g c, vU = .slice (some ⟨g, 0, none⟩) fs.length c ∧ w.cell? ⟨g, k, none⟩ = some (.int .i64 x.u) ∧ w.frozen? ⟨g, k, none⟩ = false ∧ fs.length ≤ c := by
  have hlt := (List.getElem?_eq_some_iff.1 hx).1
  obtain ⟨g, c, hsv, hbg, hgl, hnc⟩ := own_form (h.row 2 rfl) (by omega)
  subst hsv
  have h1 := (h.row 2 rfl).cellAt k (by omega)
  exact ⟨g, c, rfl, h1.trans (by rw [List.getElem?_map, hx]; rfl), (h.row 2 rfl).frozenAt k, hnc⟩
theorem rp_size (h : Star w0 w (rp b vD vU vs fs cap S)) : ∃ A c, vU = .slice A fs.length c := own_len (h.row 2 rfl)
set_option maxHeartbeats 4000000 in
theorem rhas (h : Star w0 w (rp b vD vU vs fs cap S)) (f : Int) : Calls Try.prog 22 #[.pointer (some ⟨b, 0, none⟩), .int .i64 f] w fun e w' => e = .returned (.bool (decide (0 < usersN fs f))) ∧ w = w' := by
  obtain ⟨AU, cU, rfl⟩ := rp_size h
  obtain ⟨-, k1, -⟩ := rp_cells h
  by_cases hb : f < 0 ∨ (0 ≤ f ∧ (fs.length : Int) ≤ f)
  · rw [show usersN fs f = 0 from by
      unfold usersN
      by_cases h0 : 0 ≤ f
      · rw [if_pos h0, List.getElem?_eq_none (by omega)]
        rfl
      · rw [if_neg h0]]
    clear h
    generalize fs.length = n at *
    rcases hb with h1 | ⟨h1, h2⟩
    all_goals
      go_enter Try.func22, Try.ntmps22
      go_wp2
      go_ret
      exact ⟨rfl, rfl⟩
  · obtain ⟨k, rfl⟩ : ∃ n : Nat, f = n := ⟨f.toNat, by omega⟩
    obtain ⟨x, hx⟩ : ∃ x, fs[k]? = some x := ⟨_, List.getElem?_eq_getElem (by omega)⟩
    obtain ⟨g, c, hU, hc, -, -⟩ := rp_user h hx
    simp only [Value.slice.injEq] at hU
    obtain ⟨rfl, -, rfl⟩ := hU
    have hu : usersN fs (k : Int) = x.u := by
      unfold usersN
      rw [if_pos (by omega), Int.toNat_natCast, hx]
      rfl
    rw [hu]
    have hk0 : (0 : Int) ≤ k := by omega
    have hk1 : (k : Int) < fs.length := by omega
    obtain ⟨n, en⟩ : ∃ n, n = fs.length := ⟨_, rfl⟩
    rw [← en] at hk1 k1
    generalize x.u = u at *
    clear h hb hu hx en
    go_enter Try.func22, Try.ntmps22
    go_wp2
    go_ret
    exact ⟨rfl, rfl⟩
set_option maxHeartbeats 4000000 in
theorem rused (h : Star w0 w (rp b vD vU vs fs cap S)) (hu : ∀ f ∈ fs, 0 ≤ f.u) (hn : fs.length ≤ 65536) : Calls Try.prog 27 #[.pointer (some ⟨b, 0, none⟩)] w fun e w' => e = .returned (.int .i64 (usedN fs)) ∧ w = w' := by
  obtain ⟨AU, cU, rfl⟩ := rp_size h
  obtain ⟨-, k1, -⟩ := rp_cells h
  have HS := Lib.hid h
  have HU := Lib.hid hu
  obtain ⟨n, en⟩ : ∃ n, n = fs.length := ⟨_, rfl⟩
  rw [← en] at hn k1
  have EN := Lib.hid en
  clear h hu en
  go_enter Try.func27, Try.ntmps27
  go_wp2
  go_loopw [3, 4] (fun t a wr => wr = w ∧ ∃ k T : Nat, k ≤ n ∧ T ≤ k ∧ a = .int .i64 k ∧ t = .int .i64 T ∧ Hid (T = usedN (fs.take k))) (fun _ a _ => n - (intOf a).toNat)
  case atStart => exact ⟨rfl, 0, 0, by omega, by omega, rfl, rfl, Lib.hid rfl⟩
  case round =>
    obtain ⟨rfl, k, T, hk, hT, rfl, rfl, HT⟩ := hrel
    by_cases hlt : k < n
    · obtain ⟨x, hx⟩ : ∃ x, fs[k]? = some x := ⟨_, List.getElem?_eq_getElem (by rw [← EN.out]; exact hlt)⟩
      obtain ⟨g, c, hU, hc, -, -⟩ := rp_user HS.out hx
      simp only [Value.slice.injEq] at hU
      obtain ⟨rfl, -, rfl⟩ := hU
      have hx0 := HU.out x (List.mem_of_getElem? hx)
      have hs : usedN (fs.take (k + 1)) = usedN (fs.take k) + if x.u != 0 then 1 else 0 := by
        unfold usedN
        rw [List.take_add_one, hx, List.countP_append]
        simp [List.countP_cons]
      have hk0 : (0 : Int) ≤ k := by omega
      have hkn : (k : Int) < n := by omega
      by_cases hz : x.u = 0
      · rw [hz] at hc hs
        have HS1 := Lib.hid (show T = usedN (fs.take (k + 1)) by rw [hs, ← HT.out]; rfl)
        clear hs hx hx0 hz
        go_wp2
        go_roundw
        case rel => exact ⟨by trivial, k + 1, T, by omega, by omega, by go_num, rfl, HS1⟩
        case measure => simp [intOf]; omega
      · have HS1 := Lib.hid (show T + 1 = usedN (fs.take (k + 1)) by rw [hs, ← HT.out, if_pos (by simpa using hz)])
        have hx1 : 0 < x.u := by omega
        clear hs hx hx0 hz
        generalize x.u = u at *
        go_wp2
        go_roundw
        case rel => exact ⟨by trivial, k + 1, T + 1, by omega, by omega, by go_num, by go_num, HS1⟩
        case measure => simp [intOf]; omega
    · obtain rfl : k = n := by omega
      have HE := Lib.hid (show T = usedN fs by rw [HT.out, List.take_of_length_le (by have := EN.out; omega)])
      go_wp2
      go_ret
      exact ⟨by rw [← HE.out]; rfl, rfl⟩
end
end Go.Proofs.Ytllofdfldoaedaa.Pg
