/- The socket: Read; its methods among other objects. -/
import Derived.Test.YtfocbpnabgpmpaaSkD
namespace Go.Proofs.Ytfocbpnabgpmpaa.Sk
open Go Go.RowKit Go.Proofs.Ytfocbpnabgpmpaa.Mem
set_option linter.unusedVariables false
set_option linter.unusedSimpArgs false
theorem swap4 {w0 w : World} {A B1 B2 C1 C2 : Asr} {S : List Asr} (h : Star w0 w (A :: B1 :: B2 :: C1 :: C2 :: S)) : Star w0 w (A :: C1 :: C2 :: B1 :: B2 :: S) :=
  h.perm (List.Perm.cons A (List.Perm.append_right S (List.perm_append_comm (l₁ := [B1, B2]) (l₂ := [C1, C2]))))
theorem swap5 {w0 w : World} {A' A B1 B2 C1 C2 : Asr} {S : List Asr} (h : Star w0 w (A' :: A :: B1 :: B2 :: C1 :: C2 :: S)) : Star w0 w (A' :: A :: C1 :: C2 :: B1 :: B2 :: S) :=
  h.perm (List.Perm.cons A' (List.Perm.cons A (List.Perm.append_right S (List.perm_append_comm (l₁ := [B1, B2]) (l₂ := [C1, C2])))))
structure SdOk (dg : Bool) (room : Nat) (s : Sd) : Prop where
  len : s.b.length ≤ room
  sum : dg = true → s.p.sum = s.b.length
  pos : ∀ q ∈ s.p, 0 < q
  no : dg = false → s.p = []
theorem len_le_sum : ∀ l : List Nat, (∀ q ∈ l, 0 < q) → l.length ≤ l.sum
  | [], _ => by simp
  | a :: l, h => by
    have := len_le_sum l (fun q hq => h q (by simp [hq]))
    have := h a (by simp)
    simp only [List.length_cons, List.sum_cons]
    omega
theorem SdOk.plen {dg : Bool} {room : Nat} {s : Sd} (h : SdOk dg room s) : s.p.length ≤ room := by
  cases dg with
  | false => rw [h.no rfl]; simp
  | true =>
    have := len_le_sum s.p h.pos
    have := h.sum rfl
    have := h.len
    omega
theorem SdOk.whole {dg : Bool} {room : Nat} {s : Sd} (h : SdOk dg room s) (n : Nat) : wholeN s n ≤ s.b.length := by
  unfold wholeN
  cases hp : s.p with
  | nil => simp only; omega
  | cons q p =>
    simp only
    cases dg with
    | false => have := h.no rfl; rw [hp] at this; cases this
    | true =>
      have := h.sum rfl
      rw [hp, List.sum_cons] at this
      omega
theorem SdOk.zero (dg : Bool) (room : Nat) : SdOk dg room sd0 := ⟨by simp [sd0], by simp [sd0], by simp [sd0], by simp [sd0]⟩
theorem SdOk.take_ {dg : Bool} {room : Nat} {s : Sd} (h : SdOk dg room s) (n : Nat) (peek : Bool) : SdOk dg room (takeS s n peek).2 := by
  have hw := h.whole n
  unfold takeS
  cases peek with
  | true => exact h
  | false =>
    refine ⟨by simp only [Bool.false_eq_true, if_false, List.length_drop]; have := h.len; omega, fun hd => ?_, fun q hq => h.pos q (List.mem_of_mem_tail hq), fun hd => by simp [h.no hd]⟩
    simp only [Bool.false_eq_true, if_false, List.length_drop]
    have hs := h.sum hd
    unfold wholeN
    cases hp : s.p with
    | nil =>
      rw [hp] at hs
      simp at hs
      simp
      omega
    | cons q p =>
      rw [hp, List.sum_cons] at hs
      simp only [List.tail_cons]
      omega
theorem SdOk.put_ {dg : Bool} {room : Nat} {y : Sd} (h : SdOk dg room y) (l : List UInt8) : SdOk dg room (putS y dg room l).2.2 := by
  unfold putS
  split
  · exact h
  · split
    · exact h
    · split
      · exact h
      · split
        · exact h
        · rename_i h1 h2 h3 h4
          have hl := h.len
          refine ⟨?_, fun hd => ?_, fun q hq => ?_, fun hd => by simp [hd, h.no hd]⟩
          · simp only [List.length_append, List.length_take]; omega
          · subst hd
            simp only [if_true, List.sum_append, List.length_append, List.length_take, h.sum rfl]
            simp
          · simp only at hq
            split at hq
            · rcases List.mem_append.1 hq with h5 | h5
              · exact h.pos q h5
              · rw [List.mem_singleton.1 h5]
                have : ¬ room - y.b.length = 0 := fun e => h4 (.inl e)
                omega
            · exact h.pos q hq
def readS (s0 s1 : Sd) (e n : Int) (peek : Bool) : List UInt8 × Int × Sd :=
  if chkS s0 s1 e ≠ 0 then ([], chkS s0 s1 e, sd s0 s1 e) else if n < 0 then ([], -10, sd s0 s1 e) else
  if (sd s0 s1 e).b ≠ [] then ((takeS (sd s0 s1 e) n.toNat peek).1, 0, (takeS (sd s0 s1 e) n.toNat peek).2) else
  if (ot s0 s1 e).c = true then ([], -24, sd s0 s1 e) else if (sd s0 s1 e).d = true ∨ (ot s0 s1 e).m = true then ([], -20, sd s0 s1 e) else ([], -22, sd s0 s1 e)
section
variable {w0 w : World} {S : List Asr} {bs room : Nat} {x y : Sd} {dg : Bool} {cs : Array Value} {vx qx : Value}
set_option maxHeartbeats 4000000 in
theorem read_core (e : Int) (ox oy : Nat) (heo : (e = 0 ∧ ox = 0 ∧ oy = 5) ∨ (e = 1 ∧ ox = 5 ∧ oy = 0)) (h : Star w0 w (BlkA bs 62 cs :: RowO 5 1 vx x.b.length (bytesV x.b) :: RowO 3 1 qx x.p.length (intsN x.p) :: S))
    (c3 : cs[ox + 3]? = some vx) (c4 : cs[ox + 4]? = some qx) (c2 : cs[ox + 2]? = some (.bool x.d)) (y0 : cs[oy]? = some (.bool y.c)) (y1 : cs[oy + 1]? = some (.bool y.m))
    (HC : Hid (Calls Try.prog 24 #[.pointer (some ⟨bs, 0, none⟩), .int .i64 e] w fun r w' => r = .returned (.int .i64 0) ∧ w = w'))
    (hok : SdOk dg room x) (hro : room ≤ 1048576) (n : Int) (hn0 : 0 ≤ n) (hn : n ≤ 9223372036854775807) (peek : Bool) {R : List UInt8 × Int × Sd}
    (hR : R = if x.b ≠ [] then ((takeS x n.toNat peek).1, 0, (takeS x n.toNat peek).2) else if y.c = true then ([], -24, x) else if x.d = true ∨ y.m = true then ([], -20, x) else ([], -22, x)) :
    Calls Try.prog 11 #[.pointer (some ⟨bs, 0, none⟩), .int .i64 e, .int .i64 n, .bool peek] w fun r w' => ∃ vo vx' qx', r = .returned (.tuple #[vo, .int .i64 R.2.1]) ∧
      Star w0 w' (RowA 5 1 vo R.1.length (bytesV R.1) :: BlkA bs 62 ((cs.setIfInBounds (ox + 3) vx').setIfInBounds (ox + 4) qx') :: RowO 5 1 vx' R.2.2.b.length (bytesV R.2.2.b) :: RowO 3 1 qx' R.2.2.p.length (intsN R.2.2.p) :: S) := by
  obtain ⟨n, rfl⟩ : ∃ k : Nat, n = k := ⟨n.toNat, by omega⟩
  rw [Int.toNat_natCast] at hR
  have HT := Lib.hid (fun (hb : 0 < x.b.length) => take_core ox (by omega) h c3 c4 n peek hb (by have := hok.len; omega) hn (hok.whole n) (by have := hok.plen; omega))
  have k2 := (h.blk 0 rfl).cellv c2
  have k3 := (h.blk 0 rfl).cellv c3
  have j0 := (h.blk 0 rfl).cellv y0
  have j1 := (h.blk 0 rfl).cellv y1
  have HS0 : Hid (Star w0 w (RowA 5 1 (.slice none 0 0) 0 [] :: BlkA bs 62 ((cs.setIfInBounds (ox + 3) vx).setIfInBounds (ox + 4) qx) :: RowO 5 1 vx x.b.length (bytesV x.b) :: RowO 3 1 qx x.p.length (intsN x.p) :: S)) := Lib.hid (by
    rw [set_self c3, set_self c4]
    exact h.nilRow 5 1)
  obtain ⟨Ax, cx, rfl⟩ := (h.rowO 1 rfl).len
  obtain ⟨nb, enb⟩ : ∃ k, k = x.b.length := ⟨_, rfl⟩
  have hnb : x.b ≠ [] ↔ 0 < nb := by
    rw [enb]
    exact List.length_pos_iff.symm
  have hnb2 : (nb : Int) ≤ 1048576 := by have := hok.len; omega
  rw [← enb] at k3
  have HNB := Lib.hid enb
  by_cases hb : 0 < nb
  · rw [if_pos (hnb.2 hb)] at hR
    subst hR
    have HT2 := Lib.hid (HT.out (by rw [← enb]; exact hb))
    have hb' : (0 : Int) < nb := by omega
    clear h c3 c4 c2 y0 y1 hok hnb HT hb enb HS0
    rcases heo with ⟨rfl, rfl, rfl⟩ | ⟨rfl, rfl, rfl⟩
    all_goals
      simp only [Nat.reduceAdd] at k2 k3 j0 j1
      go_enter Try.func11, Try.ntmps11
      go_wp2_with (first
        | (go_at_call 24; (with_reducible refine HC.out.mono ?_); rintro e w1 ⟨rfl, rfl⟩)
        | (go_at_call 26; (with_reducible refine HT2.out.mono ?_); rintro e w2 ⟨vo, vx', qx', rfl, hs2⟩
           have HS2 := Lib.hid hs2
           clear hs2))
      go_ret2
      exact ⟨_, _, _, rfl, HS2.out⟩
  · obtain rfl : nb = 0 := by omega
    have hbe : x.b = [] := List.eq_nil_of_length_eq_zero enb.symm
    rw [if_neg (fun hh => hh hbe)] at hR
    clear h c3 c4 c2 y0 y1 hok hnb HT hb enb
    have hfin : ∀ st : Int, R = ([], st, x) → Hid (R = ([], st, x)) := fun st e => Lib.hid e
    cases hyc : y.c with
    | true =>
      rw [hyc, if_pos rfl] at hR
      rw [hyc] at j0
      subst hR
      rcases heo with ⟨rfl, rfl, rfl⟩ | ⟨rfl, rfl, rfl⟩
      all_goals
        simp only [Nat.reduceAdd] at k2 k3 j0 j1
        go_enter Try.func11, Try.ntmps11
        go_wp2_with (first
          | (go_at_call 24; (with_reducible refine HC.out.mono ?_); rintro e w1 ⟨rfl, rfl⟩))
        go_ret2
        exact ⟨_, _, _, rfl, HS0.out⟩
    | false =>
      rw [hyc, if_neg (by simp)] at hR
      rw [hyc] at j0
      cases hxd : x.d with
      | true =>
        rw [if_pos (.inl hxd)] at hR
        rw [hxd] at k2
        subst hR
        rcases heo with ⟨rfl, rfl, rfl⟩ | ⟨rfl, rfl, rfl⟩
        all_goals
          simp only [Nat.reduceAdd] at k2 k3 j0 j1
          go_enter Try.func11, Try.ntmps11
          go_wp2_with (first
            | (go_at_call 24; (with_reducible refine HC.out.mono ?_); rintro e w1 ⟨rfl, rfl⟩))
          go_ret2
          exact ⟨_, _, _, rfl, HS0.out⟩
      | false =>
        rw [hxd] at k2
        cases hym : y.m with
        | true =>
          rw [if_pos (.inr hym)] at hR
          rw [hym] at j1
          subst hR
          rcases heo with ⟨rfl, rfl, rfl⟩ | ⟨rfl, rfl, rfl⟩
          all_goals
            simp only [Nat.reduceAdd] at k2 k3 j0 j1
            go_enter Try.func11, Try.ntmps11
            go_wp2_with (first
              | (go_at_call 24; (with_reducible refine HC.out.mono ?_); rintro e w1 ⟨rfl, rfl⟩))
            go_ret2
            exact ⟨_, _, _, rfl, HS0.out⟩
        | false =>
          rw [if_neg (by simp [hxd, hym])] at hR
          rw [hym] at j1
          subst hR
          rcases heo with ⟨rfl, rfl, rfl⟩ | ⟨rfl, rfl, rfl⟩
          all_goals
            simp only [Nat.reduceAdd] at k2 k3 j0 j1
            go_enter Try.func11, Try.ntmps11
            go_wp2_with (first
              | (go_at_call 24; (with_reducible refine HC.out.mono ?_); rintro e w1 ⟨rfl, rfl⟩))
            go_ret2
            exact ⟨_, _, _, rfl, HS0.out⟩
end
end Go.Proofs.Ytfocbpnabgpmpaa.Sk
