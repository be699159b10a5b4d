/- The port: Cancel. -/
import Derived.Test.YtjkgkoilabbdgaaPtL
namespace Go.Proofs.Ytjkgkoilabbdgaa.Pt
open Go Go.RowKit Go.Proofs.Ytjkgkoilabbdgaa.Mem
set_option linter.unusedVariables false
set_option linter.unusedSimpArgs false
def mineN (ob ky : Int) (q : List T3) (k : Nat) : Nat := (q.take k).countP (mineP ob ky)
theorem mineN_step {ob ky : Int} {q : List T3} {k : Nat} {x : T3} (hx : q[k]? = some x) : mineN ob ky q (k + 1) = mineN ob ky q k + (if mineP ob ky x then 1 else 0) := by
  obtain ⟨hj, e⟩ := List.getElem?_eq_some_iff.1 hx
  unfold mineN
  rw [List.take_succ_eq_append_getElem hj, List.countP_append, e]
  cases h : mineP ob ky x <;> simp [h]
theorem mine_source {ob ky : Int} {x : T3} (h : mineP ob ky x = true) : x.b ≠ 0 := by
  unfold mineP at h
  simp only [Bool.and_eq_true, decide_eq_true_eq, beq_iff_eq] at h
  omega
theorem mineN_le (ob ky : Int) (q : List T3) (k : Nat) : mineN ob ky q k ≤ objsN q := by
  unfold mineN objsN
  refine Nat.le_trans ((List.take_sublist k q).countP_le) (List.countP_mono_left fun x _ h => ?_)
  have := mine_source h
  simpa using this
theorem users_nots (ob ky : Int) (q : List T3) : usersN (nots (mineP ob ky) q) = usersN q := by
  unfold usersN nots
  rw [List.countP_filter]
  refine List.countP_congr fun x _ => ?_
  by_cases h : mineP ob ky x = true
  · have := mine_source h
    simp [h, this]
  · simp [h]
theorem objs_nots (ob ky : Int) (q : List T3) : objsN (nots (mineP ob ky) q) + mineN ob ky q q.length = objsN q := by
  unfold mineN
  rw [List.take_length]
  induction q with
  | nil => rfl
  | cons x q ih =>
    unfold objsN nots at ih ⊢
    by_cases h : mineP ob ky x = true
    · have := mine_source h
      simp [h, this]
      omega
    · by_cases hb : x.b = 0 <;> simp [h, hb] <;> omega
section
variable {w0 : World} {bs : Nat}
theorem cancel1_at {bo bk : Nat} {ob ky : Int} {R : Asr} (x : T3) (W : World) (S : List Asr) (h : Star w0 W (R :: Grp [BlkA bo 3 #[.int .i64 ob], BlkA bk 3 #[.int .i64 ky]] :: S)) :
    Calls Try.prog 34 (#[t3G x] ++ #[.pointer (some ⟨bo, 0, none⟩), .pointer (some ⟨bk, 0, none⟩)]) W fun r W' => r = .returned (.bool (ofK ob ky x)) ∧ Star w0 W' (R :: Grp [BlkA bo 3 #[.int .i64 ob], BlkA bk 3 #[.int .i64 ky]] :: S) := by
  refine (cancel1_core (front2 (Star.open1 (swap2 h))) x).mono ?_
  rintro r w1 ⟨rfl, hs⟩
  exact ⟨rfl, swap2 (Star.close1 (L := [BlkA bo 3 #[.int .i64 ob], BlkA bk 3 #[.int .i64 ky]]) (back2 hs))⟩
def canC (s : Po) (v t2 : Value) (ob ky : Int) (k : Nat) : Array Value := #[v, t2, .int .i64 s.d, .int .i64 s.m, .int .i64 (usersN s.q), .int .i64 ((objsN s.q : Int) - mineN ob ky s.q k)]
abbrev JC (bs bo bk bp : Nat) (s : Po) (v t2 : Value) (ob ky : Int) (k : Nat) : Asr := Grp [BlkA bs 62 (canC s v t2 ob ky k), BlkA bo 3 #[.int .i64 ob], BlkA bk 3 #[.int .i64 ky], BlkA bp 23 #[.pointer (some ⟨bs, 0, none⟩)]]
theorem in4 {A B1 B2 B3 B4 : Asr} {S : List Asr} {W : World} (h : Star w0 W (B1 :: B2 :: B3 :: B4 :: A :: S)) : Star w0 W (A :: B1 :: B2 :: B3 :: B4 :: S) := h.perm (List.Perm.append_right S (List.perm_append_comm (l₁ := [B1, B2, B3, B4]) (l₂ := [A])))
theorem out4 {A B1 B2 B3 B4 : Asr} {S : List Asr} {W : World} (h : Star w0 W (A :: B1 :: B2 :: B3 :: B4 :: S)) : Star w0 W (B1 :: B2 :: B3 :: B4 :: A :: S) := h.perm (List.Perm.append_right S (List.perm_append_comm (l₁ := [A]) (l₂ := [B1, B2, B3, B4])))
theorem cancel2_at {bo bk bp : Nat} {s : Po} {v t2 : Value} {ob ky : Int} {R : Asr} (hq : s.q.length ≤ 1000) (k : Nat) (x : T3) (hx : s.q[k]? = some x) (W : World) (S : List Asr) (h : Star w0 W (R :: JC bs bo bk bp s v t2 ob ky k :: S)) :
    Calls Try.prog 36 (#[t3G x] ++ #[.pointer (some ⟨bo, 0, none⟩), .pointer (some ⟨bk, 0, none⟩), .pointer (some ⟨bp, 0, none⟩)]) W fun r W' => r = .returned (.bool (mineP ob ky x)) ∧ Star w0 W' (R :: JC bs bo bk bp s v t2 ob ky (k + 1) :: S) := by
  have h1 := usersN_le s.q
  have h2 := objsN_le s.q
  have h3 := mineN_le ob ky s.q k
  refine (cancel2_core (Star.open1 (swap2 h)) rfl rfl (by omega) (by omega) x).mono ?_
  rintro r w1 ⟨rfl, hs⟩
  refine ⟨rfl, swap2 (Star.close1 (L := [BlkA bs 62 (canC s v t2 ob ky (k + 1)), BlkA bo 3 #[.int .i64 ob], BlkA bk 3 #[.int .i64 ky], BlkA bp 23 #[.pointer (some ⟨bs, 0, none⟩)]]) ?_)⟩
  have e := mineN_step (ob := ob) (ky := ky) hx
  by_cases hp : mineP ob ky x = true
  · rw [hp] at hs e
    simp only [if_true] at hs e
    unfold canC at hs ⊢
    rw [e, show (objsN s.q : Int) - ((mineN ob ky s.q k + 1 : Nat) : Int) = (objsN s.q : Int) - mineN ob ky s.q k + -1 by omega]
    exact hs
  · have hp' : mineP ob ky x = false := by simpa using hp
    rw [hp'] at hs e
    simp only [Bool.false_eq_true, if_false, Nat.add_zero] at hs e
    unfold canC at hs ⊢
    rw [e]
    exact hs
end
end Go.Proofs.Ytjkgkoilabbdgaa.Pt
