/- The walk of PortCancels. -/
import Derived.Test.YtjkgkoilabbdgaaPtO
namespace Go.Proofs.Ytjkgkoilabbdgaa.Pt
open Go Go.RowKit Go.Proofs.Ytjkgkoilabbdgaa.Mem
set_option linter.unusedVariables false
set_option linter.unusedSimpArgs false
def cwx (l : List Int) (i : Nat) : T3 := ⟨7, l.getD i 0, 1 + ((i % 2 : Nat) : Int)⟩
def cws (l : List Int) (k : Nat) : List T3 := (List.range k).map (cwx l)
theorem cws_succ (l : List Int) (k : Nat) : cws l (k + 1) = cws l k ++ [cwx l k] := by simp [cws, List.range_succ]
theorem cws_len (l : List Int) (k : Nat) : (cws l k).length = k := by simp [cws]
theorem cws_of (l : List Int) (k : Nat) : ∀ x ∈ cws l k, x.a = 7 := fun x hx => by
  obtain ⟨i, -, rfl⟩ := List.mem_map.1 hx
  rfl
def hasN (key : Int) (X : List T3) : Nat := X.countP (fun x => x.b == key)
theorem hasN_le (key : Int) (X : List T3) : hasN key X ≤ X.length := List.countP_le_length
theorem hasN_succ (l : List Int) (key : Int) (k : Nat) : hasN key (cws l (k + 1)) = hasN key (cws l k) + (if (l.getD k 0 == key) = true then 1 else 0) := by
  rw [cws_succ]
  unfold hasN
  rw [List.countP_append, List.countP_singleton]
  rfl
theorem nots_len (p : T3 → Bool) (l : List T3) : (nots p l).length + (l.filter p).length = l.length := by
  induction l with
  | nil => rfl
  | cons x l ih =>
    unfold nots at ih ⊢
    cases h : p x <;> simp [h] <;> omega
def fired1 (X : List T3) : List T3 := (X.filter (firesP 7 1)).map fun x => ⟨x.b, 7, 1⟩
theorem both_len (key : Int) : ∀ X : List T3, (∀ x ∈ X, x.a = 7) → (nots (ofK 7 key) (nots (firesP 7 1) X)).length + (nots (mineP 7 key) (fired1 X)).length + hasN key X = X.length
  | [], _ => rfl
  | x :: X, h => by
    have ih := both_len key X fun y hy => h y (List.mem_cons_of_mem _ hy)
    have ha := h x List.mem_cons_self
    unfold nots fired1 hasN at ih ⊢
    cases hf : firesP 7 1 x <;> cases hk : (x.b == key)
    · have e : ofK 7 key x = false := by simp [ofK, hk]
      simp [hf, hk, e, -List.filter_filter]; omega
    · have e : ofK 7 key x = true := by simp [ofK, hk, ha]
      simp [hf, hk, e, -List.filter_filter]; omega
    · have e : mineP 7 key ⟨x.b, 7, 1⟩ = false := by simp [mineP, hk]
      simp [hf, hk, e, -List.filter_filter]; omega
    · have e : mineP 7 key ⟨x.b, 7, 1⟩ = true := by simp [mineP, hk]
      simp [hf, hk, e, -List.filter_filter]; omega
def po8 (l : List Int) (k : Nat) : Po := ⟨[], cws l k, 1, 200⟩
def cs1 (l : List Int) (n : Nat) : Po := ⟨fired1 (cws l n), nots (firesP 7 1) (cws l n), 1, 200⟩
def cs2 (l : List Int) (n : Nat) (key : Int) : Po := (cancelS (cs1 l n) 7 key).2
def cs3 (l : List Int) (n : Nat) (key : Int) : Po := (forgetS (cs2 l n key) 7).2
theorem watch8 (l : List Int) (k : Nat) (x : Int) (hx : l.getD k 0 = x) (hk : k ≤ 60) : watchS (po8 l k) 7 x (1 + ((k % 2 : Nat) : Int)) = (0, po8 l (k + 1)) := by
  have hl := cws_len l k
  unfold watchS
  have h3 : ¬ (po8 l k).m ≤ (po8 l k).ws.length + objsN (po8 l k).q := by show ¬ 200 ≤ (cws l k).length + 0; omega
  rw [if_neg (by omega), if_neg h3]
  unfold addS po8
  rw [cws_succ, ← hx]
  rfl
theorem tell8 (l : List Int) (n : Nat) : tellS (po8 l n) 7 1 = (((fired1 (cws l n)).length : Int), cs1 l n) := by
  unfold tellS toldN toldQ po8 cs1 fired1
  simp only
  rw [List.take_length]
  simp
theorem cs1_len (l : List Int) (n : Nat) : (cs1 l n).ws.length + (fired1 (cws l n)).length = n := by
  have h := nots_len (firesP 7 1) (cws l n)
  rw [cws_len] at h
  unfold cs1 fired1
  rw [List.length_map]
  exact h
theorem cs2_len (l : List Int) (n : Nat) (key : Int) : (cs2 l n key).ws.length + (cs2 l n key).q.length + hasN key (cws l n) = n := by
  have := both_len key (cws l n) (cws_of l n)
  rw [cws_len] at this
  exact this
theorem cancel8 (l : List Int) (n : Nat) (key : Int) : cancelS (cs1 l n) 7 key = (if hasN key (cws l n) = 0 then -25 else 0, cs2 l n key) := by
  have h1 := cs1_len l n
  have h2 := cs2_len l n key
  refine Prod.ext ?_ rfl
  show (if (cs2 l n key).ws.length + (cs2 l n key).q.length = (cs1 l n).ws.length + (fired1 (cws l n)).length then (-25 : Int) else 0) = _
  by_cases h : hasN key (cws l n) = 0
  · rw [if_pos h, if_pos (by omega)]
  · rw [if_neg h, if_neg (by omega)]
theorem cs2_of (l : List Int) (n : Nat) (key : Int) : nots (ofP 7) (cs2 l n key).ws = [] := by
  refine List.filter_eq_nil_iff.2 fun x hx => ?_
  have hx1 : x ∈ nots (ofK 7 key) (nots (firesP 7 1) (cws l n)) := hx
  have h1 : x ∈ cws l n := (List.mem_filter.1 (List.mem_filter.1 hx1).1).1
  have := cws_of l n x h1
  simp [ofP, this]
theorem forget8 (l : List Int) (n : Nat) (key : Int) : forgetS (cs2 l n key) 7 = (((cs2 l n key).ws.length : Int), cs3 l n key) := by
  refine Prod.ext ?_ rfl
  show ((cs2 l n key).ws.length : Int) - ((nots (ofP 7) (cs2 l n key).ws).length : Nat) = _
  rw [cs2_of]
  simp
theorem cs3_ws (l : List Int) (n : Nat) (key : Int) : (cs3 l n key).ws.length = 0 := by
  show (nots (ofP 7) (cs2 l n key).ws).length = 0
  rw [cs2_of]
  rfl
theorem cs3_q (l : List Int) (n : Nat) (key : Int) : ∀ x ∈ (cs3 l n key).q, (x.a == key) = false ∧ x.b = 7 := fun x hx => by
  have hx : x ∈ nots (mineP 7 key) (fired1 (cws l n)) := hx
  obtain ⟨h1, h2⟩ := List.mem_filter.1 hx
  obtain ⟨y, -, rfl⟩ := List.mem_map.1 h1
  refine ⟨?_, rfl⟩
  simpa [mineP] using h2
set_option maxRecDepth 8000 in
set_option maxHeartbeats 8000000 in
theorem cancels_walk (A : Option Addr) (c : Nat) (l : List Int) (key : Int) (w : World) (hr : Reads w w.heap.size 1 A l.length (l.map (Value.int .i64))) (hm : l.length ≤ maxLen) :
    Calls Try.prog 6 #[.slice A l.length c, .int .i64 key] w fun e w' => e = .returned (.bool true) ∧ Below w.heap.size w w' := by
  have HA := Lib.hid awake_any
  unfold maxLen at hm
  have hN := new_any (Star.nil w) 1 200 (by omega) (by omega) (by omega)
  rw [show ((1 : Nat) : Int) = 1 from rfl, show ((200 : Nat) : Int) = 200 from rfl] at hN
  have HN := Lib.hid hN
  clear hN
  by_cases hbig : 60 < l.length
  · clear hr
    generalize l.length = n at *
    have h4 : (60 : Int) < n := by omega
    go_enter Try.func6, Try.ntmps6
    go_wp2_with (first
      | (go_at_call 8; (with_reducible refine HN.out.mono ?_); rintro e w1 ⟨rfl, hs1⟩)
      | (go_at_call 9; (with_reducible refine (HA.out _).mono ?_); rintro e w2 ⟨rfl, hb2⟩))
    go_ret
    exact ⟨rfl, hs1.below.trans (hb2.mono hs1.below.size)⟩
  · have hl60' : l.length ≤ 60 := by omega
    have hl60 : (l.length : Int) ≤ 60 := by omega
    have HR := Lib.hid hr
    clear hr hbig
    go_enter Try.func6, Try.ntmps6
    go_wp2_with (first
      | (go_at_call 8; (with_reducible refine HN.out.mono ?_); rintro e w1 ⟨rfl, hs1⟩
         have HS1 : Hid (Star w w1 [PtA w.heap.size (po8 l 0)]) := Lib.hid hs1
         clear hs1))
    go_loopw [6, 29] (fun v i wr => ∃ (k m : Nat), k ≤ l.length ∧ i = .int .i64 k ∧ v = .int .i64 m ∧ m ≤ k ∧ Hid (m = hasN key (cws l k)) ∧ Hid (Star w wr [PtA w.heap.size (po8 l k)])) (fun _ i _ => l.length - (intOf i).toNat)
    case atStart => exact ⟨0, 0, by omega, rfl, rfl, by omega, Lib.hid rfl, HS1⟩
    case round =>
      clear HS1 HN
      obtain ⟨k, m, hk, rfl, rfl, hmk, HM, HS⟩ := hrel
      by_cases hlt : k < l.length
      · obtain ⟨ad, u, rfl, had, hx, hcl⟩ := (HR.out.below HS.out.below).at_ hlt
        obtain ⟨x, hxk⟩ : ∃ x, l[k]? = some x := ⟨_, List.getElem?_eq_getElem hlt⟩
        obtain rfl : u = .int .i64 x := by
          rw [List.getElem?_map, hxk] at hx
          exact (Option.some.inj hx).symm
        have hk0 : (0 : Int) ≤ k := by omega
        have hkl : (k : Int) < l.length := by omega
        have hgd : l.getD k 0 = x := by rw [List.getD_eq_getElem?_getD, hxk]; rfl
        have hwl : (po8 l k).ws.length = k := cws_len l k
        have hQ1 := fun (W' : World) (L : List Asr) (h : Star w W' (PtA w.heap.size (po8 l k) :: L)) => watch_st h 0 rfl (by show 0 ≤ _; omega) (by omega) 7 x (1 + ((k % 2 : Nat) : Int))
        rw [watch8 l k x hgd (by omega)] at hQ1
        have hs := hasN_succ l key k
        rw [hgd, ← HM.out] at hs
        obtain ⟨r, hr2, er⟩ : ∃ r : Nat, r ≤ 1 ∧ k % 2 = r := ⟨k % 2, by omega, rfl⟩
        have etm : (k : Int).tmod 2 = r := by
          rw [Int.tmod_eq_emod_of_nonneg hk0]
          omega
        rw [er] at hQ1
        have r0 : (r : Int) ≤ 1 := by omega
        simp only [List.set_cons_zero] at hQ1
        have HQ1 := Lib.hid hQ1
        have e60 : (m : Int) ≤ 60 := by omega
        clear hx hxk had hgd hwl hQ1 er
        by_cases hb : (x == key) = true
        · rw [if_pos hb] at hs
          have HH := Lib.hid hs
          clear hs
          go_wp2_with (first
            | (go_at_call 13; (with_reducible refine (HQ1.out _ _ HS.out).mono ?_); rintro e w3 ⟨rfl, hs3⟩
               have HS3 := Lib.hid hs3
               clear hs3))
          go_roundw
          case rel => exact ⟨k + 1, m + 1, by omega, by go_num, by go_num, by omega, Lib.hid HH.out.symm, HS3⟩
          case measure => simp [intOf]; omega
        · rw [if_neg hb] at hs
          have HH := Lib.hid hs
          have hb' : (x == key) = false := by simpa using hb
          clear hs hb
          go_wp2_with (first
            | (go_at_call 13; (with_reducible refine (HQ1.out _ _ HS.out).mono ?_); rintro e w3 ⟨rfl, hs3⟩
               have HS3 := Lib.hid hs3
               clear hs3))
          go_roundw
          case rel => exact ⟨k + 1, m, by omega, by go_num, rfl, by omega, Lib.hid HH.out.symm, HS3⟩
          case measure => simp [intOf]; omega
      · have hkl : k = l.length := by omega
        have hlt' : ¬ ((k : Int) < l.length) := by omega
        obtain ⟨n, en⟩ : ∃ n, l.length = n := ⟨_, rfl⟩
        rw [en] at hkl hlt' hl60 hl60' hm hlt ⊢
        subst hkl
        have hwl : (po8 l k).ws.length = k := cws_len l k
        have h1 := cs1_len l k
        have h2 := cs2_len l k key
        have h3 := cs3_ws l k key
        have h4 : (cs3 l k key).q.length = (cs2 l k key).q.length := rfl
        have h5 : (cs1 l k).q.length = (fired1 (cws l k)).length := rfl
        rw [← HM.out] at h2
        have hT := fun (W' : World) (L : List Asr) (h : Star w W' (PtA w.heap.size (po8 l k) :: L)) => tell_st h 0 rfl (by show 0 + _ ≤ _; omega) 7 1
        rw [tell8] at hT
        have hW1 := fun (W' : World) (L : List Asr) (h : Star w W' (PtA w.heap.size (cs1 l k) :: L)) => watches_st h 0 rfl
        have hK1 := fun (W' : World) (L : List Asr) (h : Star w W' (PtA w.heap.size (cs1 l k) :: L)) => cancel_st h 0 rfl (by omega) (by omega) 7 key
        rw [cancel8, ← HM.out] at hK1
        have hW2 := fun (W' : World) (L : List Asr) (h : Star w W' (PtA w.heap.size (cs2 l k key) :: L)) => watches_st h 0 rfl
        have hL2 := fun (W' : World) (L : List Asr) (h : Star w W' (PtA w.heap.size (cs2 l k key) :: L)) => len_st h 0 rfl
        have hF2 := fun (W' : World) (L : List Asr) (h : Star w W' (PtA w.heap.size (cs2 l k key) :: L)) => forget_st h 0 rfl (by omega) 7
        rw [forget8] at hF2
        have hP3 := fun (W' : World) (L : List Asr) (h : Star w W' (PtA w.heap.size (cs3 l k key) :: L)) => packets_st h 0 rfl (by omega)
        have hL3 := fun (W' : World) (L : List Asr) (Z : Asr) (h : Star w W' (Z :: PtA w.heap.size (cs3 l k key) :: L)) => len_st h 1 rfl
        have hW3 := fun (W' : World) (L : List Asr) (Z : Asr) (h : Star w W' (Z :: PtA w.heap.size (cs3 l k key) :: L)) => watches_st h 1 rfl
        rw [h3, show ((0 : Nat) : Int) = 0 from rfl] at hW3
        rw [h4] at hP3 hL3
        simp only [List.set_cons_zero, List.set_cons_succ] at hT hK1 hF2
        have HQ3 := Lib.hid (cs3_q l k key)
        have HL3 := Lib.hid h4
        generalize (fired1 (cws l k)).length = f at *
        generalize (cs1 l k).ws.length = a1 at *
        generalize (cs2 l k key).ws.length = a2 at *
        obtain ⟨q2, eq2⟩ : ∃ q2, (cs2 l k key).q.length = q2 := ⟨_, rfl⟩
        rw [eq2] at h2 HL3 hL2 hP3 hL3
        have HT := Lib.hid hT
        have HW1 := Lib.hid hW1
        have HK1 := Lib.hid hK1
        have HW2 := Lib.hid hW2
        have HL2 := Lib.hid hL2
        have HF2 := Lib.hid hF2
        have HP3 := Lib.hid hP3
        have HP4 := Lib.hid hL3
        have HW3 := Lib.hid hW3
        have z1 : ((a1 : Int) != (k : Int) - f) = false := bne_eq_false_iff_eq.mpr (by omega)
        have z2 : ((a2 : Int) + q2 != (k : Int) - m) = false := bne_eq_false_iff_eq.mpr (by omega)
        have z3 : ((a2 : Int) == (k : Int) - m - q2) = true := beq_iff_eq.mpr (by omega)
        have b1 : (f : Int) ≤ k := by omega
        have b2 : (a2 : Int) ≤ 60 := by omega
        have b3 : (q2 : Int) ≤ 60 := by omega
        have b4 : (m : Int) ≤ k := by omega
        have b5 : (q2 : Int) ≤ (k : Int) - m := by omega
        clear hlt hT hW1 hK1 hW2 hL2 hF2 hP3 hL3 hW3 h1 h2 h3 h4 h5 hwl eq2 en
        obtain ⟨st, Z, hst⟩ : ∃ st : Int, Hid (st = if m = 0 then (-25 : Int) else 0) ∧ (st == 0) = decide (0 < m) := by
          refine ⟨_, Lib.hid rfl, ?_⟩
          by_cases h0 : m = 0
          · subst h0
            rfl
          · rw [if_neg h0]
            rw [decide_eq_true (show 0 < m by omega)]
            rfl
        have HK2 := HK1.out
        rw [← Z.out] at HK2
        have HK3 := Lib.hid HK2
        clear HK1 HK2 Z
        go_wp2_with (first
          | (go_at_call 14; (with_reducible refine (HT.out _ _ HS.out).mono ?_); rintro e w3 ⟨rfl, hs3⟩
             have HS3 := Lib.hid hs3
             clear hs3)
          | (go_at_call 16; (with_reducible refine (HW1.out _ _ HS3.out).mono ?_); rintro e w4 ⟨rfl, rfl⟩)
          | (go_at_call 18; (with_reducible refine (HK3.out _ _ HS3.out).mono ?_); rintro e w5 ⟨rfl, hs5⟩
             have HS5 := Lib.hid hs5
             clear hs5)
          | (go_at_call 16; (with_reducible refine (HW2.out _ _ HS5.out).mono ?_); rintro e w4 ⟨rfl, rfl⟩)
          | (go_at_call 12; (with_reducible refine (HL2.out _ _ HS5.out).mono ?_); rintro e w4 ⟨rfl, rfl⟩)
          | (go_at_call 19; (with_reducible refine (HF2.out _ _ HS5.out).mono ?_); rintro e w6 ⟨rfl, hs6⟩
             have HS6 := Lib.hid hs6
             clear hs6)
          | (go_at_call 15; (with_reducible refine (HP3.out _ _ HS6.out).mono ?_); rintro e w7 ⟨v7, rfl, hs7⟩
             obtain ⟨A7, c7, rfl⟩ := (hs7.rowO 0 rfl).len
             have HS7 := Lib.hid hs7
             clear hs7))
        clear HT HW1 HK3 HW2 HL2 HF2 HP3 HS3 HS5 HS6
        go_loopw [84] (fun i wx => ∃ (j : Nat), j ≤ q2 ∧ i = .int .i64 j ∧ Hid (Star w wx [RowO 29 3 (.slice A7 q2 c7) q2 (t3V (cs3 l k key).q), PtA w.heap.size (cs3 l k key)])) (fun i _ => q2 - (intOf i).toNat)
        case atStart => exact ⟨0, by omega, rfl, HS7⟩
        case round =>
          clear HS HS7
          obtain ⟨j, hj, rfl, HS⟩ := hrel
          by_cases hlt : j < q2
          · obtain ⟨x, hx⟩ : ∃ x, (cs3 l k key).q[j]? = some x := ⟨_, List.getElem?_eq_getElem (by rw [HL3.out]; omega)⟩
            obtain ⟨hxk, hx7⟩ := HQ3.out x (List.mem_of_getElem? hx)
            obtain ⟨g7, o7, cc7, hv7, -, -, hnc7⟩ := (HS.out.rowO 0 rfl).form (by omega)
            simp only [Value.slice.injEq, true_and] at hv7
            obtain ⟨rfl, rfl⟩ := hv7
            obtain ⟨r0, r1, r2⟩ := at3 (HS.out.rowO 0 rfl) HL3.out.symm hx
            rw [hx7] at r1
            have HX := Lib.hid hx
            have hj0 : (j : Int) < q2 := by omega
            clear hx hx7
            go_wp2
            go_roundw
            case rel => exact ⟨j + 1, by omega, by go_num, Lib.hid (HS.out.alloc _)⟩
            case measure => simp [intOf]; omega
          · obtain rfl : j = q2 := by omega
            have hlt' : ¬ ((j : Int) < j) := by omega
            clear hlt
            go_wp2_with (first
              | (go_at_call 12; (with_reducible refine (HP4.out _ _ _ HS.out).mono ?_); rintro e w4 ⟨rfl, rfl⟩)
              | (go_at_call 16; (with_reducible refine (HW3.out _ _ _ HS.out).mono ?_); rintro e w4 ⟨rfl, rfl⟩)
              | (go_at_call 9; (with_reducible refine (HA.out _).mono ?_); rintro e w6 ⟨rfl, hb6⟩))
            go_ret
            exact ⟨rfl, HS.out.below.trans (hb6.mono HS.out.below.size)⟩
theorem cancels_row (A : Option Addr) (c : Nat) (l : List Int) (key : Int) (hkey : (Lit.int .i64 key).wf = true) (w : World) (hr : Reads w w.heap.size 1 A l.length (l.map (Value.int .i64))) (hm : l.length ≤ maxLen) (hl : ∀ x ∈ l, (Lit.int .i64 x).wf = true) :
    Calls Try.prog 6 #[.slice A l.length c, .int .i64 key] w fun e w' => e = .returned (.bool true) ∧ Below w.heap.size w w' :=
  cancels_walk A c l key w hr hm
end Go.Proofs.Ytjkgkoilabbdgaa.Pt
