/- FifoOrder: elements come in order, each once, whole, however they are written and read in portions, round and round the ring. For all numbers of places, all sizes, all steps. -/
import Derived.Test.YtaiggfoeobehlaaFfOwn
import Derived.Test.YtaiggfoeobehlaaArgs
namespace Go.Proofs.Ytaiggfoeobehlaa.Ff
open Go Go.RowKit Go.Shelf Go.Proofs.Ytaiggfoeobehlaa.Mem
set_option linter.unusedVariables false
set_option linter.unusedSimpArgs false
/-- Element number m. -/
def elm (z m : Nat) : List UInt8 :=
  let b := (List.replicate z 0).set 0 (UInt8.ofNat m)
  b.set (z - 1) ((b[z - 1]?.getD 0) ^^^ UInt8.ofNat (m / 256))
theorem elm_len (z m : Nat) : (elm z m).length = z := by simp [elm]
def elms (z o k : Nat) : List (List UInt8) := (List.range k).map fun i => elm z (o + i)
theorem elms_len (z o k : Nat) : (elms z o k).length = k := by simp [elms]
theorem elms_add (z o k j : Nat) : elms z o (k + j) = elms z o k ++ elms z (o + k) j := by
  unfold elms
  rw [List.range_add, List.map_append, List.map_map]
  congr 1
  refine List.map_congr_left fun i _ => ?_
  show elm z (o + (k + i)) = elm z (o + k + i)
  rw [Nat.add_assoc]
theorem elms_flat (z o k : Nat) : (elms z o k).flatten.length = k * z := by
  rw [flat_len (z := z) _ (fun e he => by obtain ⟨i, -, rfl⟩ := List.mem_map.1 he; exact elm_len _ _), elms_len]
theorem chunk_flat {z : Nat} : ∀ (l : List (List UInt8)) (i : Nat), (∀ e ∈ l, e.length = z) → i < l.length → chunk l.flatten z i = l[i]?.getD []
  | [], i, _, hi => by simp at hi
  | e :: l, 0, h, _ => by
    unfold chunk
    rw [Nat.zero_mul, List.drop_zero, List.flatten_cons, List.take_append_of_le_length (by rw [h e (by simp)]; exact Nat.le_refl _), List.take_of_length_le (by rw [h e (by simp)]; exact Nat.le_refl _)]
    rfl
  | e :: l, i + 1, h, hi => by
    have ih := chunk_flat l i (fun x hx => h x (by simp [hx])) (by simpa using hi)
    unfold chunk at ih ⊢
    rw [List.flatten_cons, show (i + 1) * z = e.length + i * z by rw [h e (by simp), Nat.add_mul, Nat.one_mul, Nat.add_comm], List.drop_length_add_append, ih]
    rfl
/-- The fifo with the elements from number o on, so many. -/
def OF (n z o k : Nat) : Fo := ⟨false, false, elms z o k, [], n, z⟩
theorem chunks_elms (z o k d : Nat) (hd : d ≤ k) : (List.range d).map (chunk (elms z o k).flatten z) = elms z o d := by
  unfold elms
  refine List.map_congr_left fun i hi => ?_
  have hi' := List.mem_range.1 hi
  rw [chunk_flat _ _ (fun e he => by obtain ⟨j, -, rfl⟩ := List.mem_map.1 he; exact elm_len _ _) (by simp; omega)]
  simp [show i < k by omega]
/-- How many of k elements go in. -/
def goIn (n len k : Nat) : Nat := if k = 0 then 0 else if len = n then 0 else min k (n - len)
def goSt (n len k : Nat) : Int := if k = 0 then -14 else if len = n then -22 else 0
theorem order_w {n z o len k : Nat} (hz : 1 ≤ z) (hl : len ≤ n) : writeO (OF n z o len) 1 (elms z (o + len) k).flatten = ((((goIn n len k : Nat) : Int), goSt n len k), OF n z o (len + goIn n len k)) := by
  unfold writeO
  rw [show checkO (OF n z o len) 1 = 0 from rfl, if_neg (by simp), elms_flat, show (OF n z o len).z = z from rfl]
  unfold goIn goSt
  by_cases hk : k = 0
  · subst hk
    rw [if_pos (by simp), if_pos rfl, if_pos rfl]
    rfl
  · have hkz : k * z ≠ 0 := by
      have := Nat.mul_pos (show 0 < k by omega) (show 0 < z by omega)
      omega
    rw [if_neg (by simp [hkz]), show toC (OF n z o len) 1 = false from rfl, if_neg (by simp), show toE (OF n z o len) 1 = elms z o len from rfl, show (OF n z o len).n = n from rfl, elms_len, if_neg hk, if_neg hk]
    by_cases hf : len = n
    · rw [if_pos hf, if_pos hf, if_pos hf]
      rfl
    · rw [if_neg hf, if_neg hf, if_neg hf, Nat.mul_div_cancel _ (by omega), chunks_elms _ _ _ _ (Nat.min_le_left _ _), ← elms_add]
      rfl
/-- How many come out. -/
def goOut (len k : Nat) : Nat := min k len
theorem order_r {n z o len k : Nat} : ∃ st, readO (OF n z o len) 0 (k : Int) = (((elms z o (goOut len k)).flatten, st), OF n z (o + goOut len k) (len - goOut len k)) := by
  unfold readO goOut
  rw [show checkO (OF n z o len) 0 = 0 from rfl, if_neg (by simp), show atE (OF n z o len) 0 = elms z o len from rfl, elms_len]
  by_cases hk : (k : Int) < 1
  · obtain rfl : k = 0 := by omega
    rw [if_pos hk, Nat.zero_min]
    exact ⟨_, rfl⟩
  · rw [if_neg hk]
    by_cases hl : len = 0
    · subst hl
      rw [if_pos rfl, Nat.min_zero]
      exact ⟨_, rfl⟩
    · rw [if_neg hl, Int.toNat_natCast]
      obtain ⟨d, hd⟩ : ∃ d, d = min k len := ⟨_, rfl⟩
      rw [← hd]
      have e : elms z o len = elms z o d ++ elms z (o + d) (len - d) := by
        rw [← elms_add]
        congr 1
        omega
      rw [e, List.take_left' (elms_len _ _ _), List.drop_left' (elms_len _ _ _)]
      exact ⟨0, rfl⟩
theorem xor_u8 (x y : UInt8) : bits .xor .u8 (x.toNat : Int) (y.toNat : Int) = ((x ^^^ y).toNat : Int) := by
  show IntKind.u8.wrap ((BitVec.ofInt 8 (x.toNat : Int) ^^^ BitVec.ofInt 8 (y.toNat : Int)).toNat : Int) = _
  have hx := x.toNat_lt
  have hy := y.toNat_lt
  have t1 : (BitVec.ofInt 8 (x.toNat : Int)).toNat = x.toNat := by rw [BitVec.toNat_ofInt]; omega
  have t2 : (BitVec.ofInt 8 (y.toNat : Int)).toNat = y.toNat := by rw [BitVec.toNat_ofInt]; omega
  rw [BitVec.toNat_xor, t1, t2, ← UInt8.toNat_xor, IntKind.wrap_u8]
  have := (x ^^^ y).toNat_lt
  omega
section
variable {w0 w : World} {L : List Asr}
set_option maxHeartbeats 2000000 in
theorem element_any (h : Star w0 w L) (i B z m : Nat) (hi : L[i]? = some (BlkA B 3 #[.int .i64 z])) (hz : 1 ≤ z) (hz2 : z ≤ 64) (hm : m ≤ 65535) :
    Calls Try.prog 11 #[.int .i64 m, .pointer (some ⟨B, 0, none⟩)] w fun r w' => r = .returned (.slice (some ⟨w.heap.size, 0, none⟩) z z) ∧ Star w0 w' (RowO 5 1 (.slice (some ⟨w.heap.size, 0, none⟩) z z) z (byV (elm z m)) :: L) := by
  have c0 := (h.blk i hi).cellv (i := 0) rfl
  have HM := fun W => make_b z (by omega) W
  obtain ⟨l1, el1⟩ : ∃ l1, l1 = (List.replicate z 0).set 0 (UInt8.ofNat m) := ⟨_, rfl⟩
  have hl1 : l1.length = z := by rw [el1]; simp
  obtain ⟨p, ep⟩ : ∃ p, p = z - 1 := ⟨_, rfl⟩
  obtain ⟨x, hx⟩ : ∃ x, l1[p]? = some x := ⟨_, List.getElem?_eq_getElem (by omega)⟩
  obtain ⟨y, ey⟩ : ∃ y, y = UInt8.ofNat (m / 256) := ⟨_, rfl⟩
  have hel : elm z m = l1.set p (x ^^^ y) := by
    unfold elm
    simp only [← el1, ← ep, hx, Option.getD_some, ← ey]
  obtain ⟨u, eu⟩ : ∃ u : UInt8, u = UInt8.ofNat m := ⟨_, rfl⟩
  have hy : y.toNat = m / 256 := by rw [ey, UInt8.toNat_ofNat']; omega
  have hu : u.toNat = m % 256 := by rw [eu, UInt8.toNat_ofNat']
  have hw1 : IntKind.u8.wrap (m : Int) = (u.toNat : Int) := by
    rw [IntKind.wrap_u8, hu]
    omega
  have hset1 : (byV (List.replicate z 0)).set 0 (.int .u8 (u.toNat : Int)) = byV l1 := by
    rw [el1, ← eu]
    unfold byV
    rw [List.map_set]
  have hset2 : (byV l1).set p (.int .u8 ((x ^^^ y).toNat : Int)) = byV (elm z m) := by
    rw [hel]
    unfold byV
    rw [List.map_set]
  have hs3 : (byV l1).set p (.int .u8 ((x.toNat ^^^ y.toNat : Nat) : Int)) = byV (elm z m) := by
    rw [← hset2, UInt8.toNat_xor]
  have hd : (m : Int) / 256 = (y.toNat : Int) := by rw [hy]; omega
  have hd2 : Int.tdiv (m : Int) 256 = (y.toNat : Int) := by rw [hy]; rfl
  have hwy : IntKind.u8.wrap (y.toNat : Int) = (y.toNat : Int) := by
    rw [IntKind.wrap_u8]
    have := y.toNat_lt
    omega
  have hxor := xor_u8 x y
  have hp : (z : Int) - 1 = (p : Int) := by omega
  have hpz : (p : Int) < z := by omega
  have hpz2 : p < z := by omega
  have hz0 : 0 < z := by omega
  have hzi : (1 : Int) ≤ z := by omega
  have hzi2 : (z : Int) ≤ 64 := by omega
  have hmi : (m : Int) ≤ 65535 := by omega
  have hr := fun (l : List UInt8) (hl : l.length = z) => (h.litRow 5 1 (byV l).toArray z (by simp only [maxLen]; omega) (by simp [byV, hl])).toO 0 rfl
  simp only [List.set_cons_zero] at hr
  have h0 := hr (List.replicate z 0) (by simp)
  have h1 := hr l1 hl1
  have d0 : (w.alloc (.cells (byV (List.replicate z 0)).toArray 5)).cell? ⟨w.heap.size, 0, none⟩ = some (.int .u8 0) := by
    rw [(h0.rowO 0 rfl).cellAt 0 (by omega)]
    obtain ⟨y, rfl⟩ : ∃ y, z = y + 1 := ⟨z - 1, by omega⟩
    simp [byV, List.replicate_succ]
  have f0 := (h0.rowO 0 rfl).frozenAt 0
  have b0 := (h0.blk (i + 1) (by simpa using hi)).cellv (i := 0) rfl
  have b1 := (h1.blk (i + 1) (by simpa using hi)).cellv (i := 0) rfl
  have d1 : (w.alloc (.cells (byV l1).toArray 5)).cell? ⟨w.heap.size, p, none⟩ = some (.int .u8 (x.toNat : Int)) := by
    have := (h1.rowO 0 rfl).cellAt p (by omega)
    rw [Nat.zero_add] at this
    rw [this]
    simp [byV, hx]
  have f1 := (h1.rowO 0 rfl).frozenAt p
  have H2 := Lib.hid (hr (elm z m) (elm_len z m))
  have hbw : B < w.heap.size := (Array.getElem?_eq_some_iff.1 (h.blk i hi)).1
  have hbn : ¬ B = w.heap.size := by omega
  clear h0 h1 hr el1 ep hx ey hel eu hy hu h
  have HS3 := Lib.hid hs3
  clear hs3
  generalize elm z m = lf at *
  go_enter Try.func11, Try.ntmps11
  go_wp2
  go_ret
  exact ⟨rfl, by rw [HS3.out]; exact H2.out⟩
end
end Go.Proofs.Ytaiggfoeobehlaa.Ff
