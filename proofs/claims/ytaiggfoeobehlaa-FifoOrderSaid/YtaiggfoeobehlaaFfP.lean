/- The fifo: Write, Read, New in the star. -/
import Derived.Test.YtaiggfoeobehlaaFfO
namespace Go.Proofs.Ytaiggfoeobehlaa.Ff
open Go Go.RowKit Go.Shelf Go.Proofs.Ytaiggfoeobehlaa.Mem
set_option linter.unusedVariables false
set_option linter.unusedSimpArgs false
section
variable {w0 w : World} {L : List Asr} {bs : Nat} {x : Fo}
theorem pow_pos10 {n : Nat} (h : ∃ k, k ≤ 10 ∧ n = 2 ^ k) : 1 ≤ n := by
  obtain ⟨k, -, rfl⟩ := h
  exact Nat.one_le_two_pow
theorem write_sx (h : Star w0 w L) (i : Nat) (hi : L[i]? = some (FoA bs x)) (e : Int) (A : Option Addr) (m c : Nat) (xs : List UInt8) (X : Asr) (k : Nat) (hk : (L.eraseIdx i)[k]? = some X) (hrd : ∀ F W, X w0.heap.size F W → ∃ B, Reads W B 1 A m (byV xs)) (hmc : m ≤ c) (hcm : c ≤ maxLen) (hm : m ≤ 100000) :
    Calls Try.prog 12 #[.pointer (some ⟨bs, 0, none⟩), .int .i64 e, .slice A m c] w fun r w' => r = .returned (.tuple #[.int .i64 (writeO x e xs).1.1, .int .i64 (writeO x e xs).1.2]) ∧ Star w0 w' (L.set i (FoA bs (writeO x e xs).2)) := by
  refine (fo_call (R := fun r N x' => r = .returned (.tuple #[.int .i64 (writeO x e xs).1.1, .int .i64 (writeO x e xs).1.2]) ∧ N = [] ∧ x' = (writeO x e xs).2) h i hi ?_).mono ?_
  · intro s t hw hx hs
    have hxm : xs.length = m := by
      obtain ⟨F, hF, -⟩ := hs.of (k + 3) (by simpa using hk)
      obtain ⟨B, hB⟩ := hrd F w hF
      have := hB.1
      simpa [byV_len] using this
    have hc : checkO x e = checkF s e := by rw [← hx]; rfl
    have hzz : x.z = s.z := by rw [← hx]; rfl
    have hnn : x.n = s.n := by rw [← hx]; rfl
    obtain ⟨hp, hz1, hz2, hRa, hRb⟩ := hw
    have hn1 := pow_pos10 hp
    obtain ⟨kk, hkk, hpow⟩ := hp
    have hw' : WfF s := ⟨⟨kk, hkk, hpow⟩, hz1, hz2, hRa, hRb⟩
    unfold writeO
    rw [hc, hzz, hnn, hxm]
    by_cases h1 : checkF s e ≠ 0
    · simp only [if_pos h1]
      refine (write_bad1 hs e h1 A m c).mono ?_
      rintro r w' ⟨rfl, hs'⟩
      exact ⟨s, t, [], hw', ⟨rfl, rfl, hx⟩, hs'⟩
    · simp only [if_neg h1]
      replace h1 : checkF s e = 0 := Decidable.byContradiction h1
      have he : e = 0 ∨ e = 1 := by rcases check_two h1 with h | h; exact .inl h.1; exact .inr h.1
      by_cases h2 : m = 0 ∨ m % s.z ≠ 0
      · simp only [if_pos h2]
        refine (write_bad2 hs e he h1 hz1 A m c h2 hm).mono ?_
        rintro r w' ⟨rfl, hs'⟩
        exact ⟨s, t, [], hw', ⟨rfl, rfl, hx⟩, hs'⟩
      · simp only [if_neg h2]
        have hm0 : 0 < m := by omega
        have hmm : m % s.z = 0 := by omega
        have htc : toC x e = (toR s e).cl := by rw [← hx]; unfold toC toR; split <;> rfl
        have hte : toE x e = (toR s e).el := by rw [← hx]; unfold toE toR; split <;> rfl
        rw [htc, hte]
        by_cases h3 : (toR s e).cl = true
        · simp only [if_pos h3]
          refine (write_bad3 hs e he h1 hz1 A m c hm0 hmm hm (.inl h3)).mono ?_
          rintro r w' ⟨rfl, hs'⟩
          exact ⟨s, t, [], hw', ⟨by rw [if_pos h3], rfl, hx⟩, hs'⟩
        · simp only [if_neg h3]
          by_cases h4 : (toR s e).el.length = s.n
          · simp only [if_pos h4]
            refine (write_bad3 hs e he h1 hz1 A m c hm0 hmm hm (.inr h4)).mono ?_
            rintro r w' ⟨rfl, hs'⟩
            exact ⟨s, t, [], hw', ⟨by rw [if_neg h3], rfl, hx⟩, hs'⟩
          · simp only [if_neg h4]
            obtain ⟨N, hN⟩ : ∃ N, N = m / s.z := ⟨_, rfl⟩
            have hmN : m = N * s.z := by
              have := Nat.div_add_mod m s.z
              rw [hmm, Nat.add_zero, Nat.mul_comm, ← hN] at this
              exact this.symm
            have hN1 : 1 ≤ N := by
              rcases Nat.eq_zero_or_pos N with h0 | h0
              · rw [h0, Nat.zero_mul] at hmN
                omega
              · exact h0
            rw [← hN]
            subst hmN
            obtain ⟨⟨ca, raw, fi, ea⟩, ⟨cb, rawb, fib, eb⟩, n, z⟩ := s
            simp only at *
            rcases check_two h1 with ⟨rfl, hcl⟩ | ⟨rfl, hcl⟩
            · simp only at hcl
              subst hcl
              have h3' : cb = false := by cases cb; rfl; exact absurd rfl h3
              subst h3'
              have hle : eb.length ≤ n := hRb.1
              have h4' : eb.length ≠ n := h4
              refine (callsIn_wide.1 (write_ok1 (ra := ⟨false, raw, fi, ea⟩) hs rfl hRb kk hpow hkk N hN1 A c xs X k hk hrd hmc hcm hz1 hz2 (by omega) hm)).mono ?_
              rintro r w' ⟨K, hK, rfl, hs'⟩
              have hxN : xs.length = N * z := hxm
              refine ⟨_, t, [], ?_, ⟨?_, rfl, ?_⟩, hs'⟩
              · exact ⟨⟨kk, hkk, hpow⟩, hz1, hz2, hRa, psh_ok hxN hRb rfl K (by omega) (by show eb.length + K ≤ n; omega)⟩
              · rw [hK]
                rfl
              · rw [← hx]
                unfold absF putTo
                simp only [if_pos rfl]
                rw [psh_cl, psh_el, hK]
                rfl
            · simp only at hcl
              subst hcl
              have h3' : ca = false := by cases ca; rfl; exact absurd rfl h3
              subst h3'
              have hle : ea.length ≤ n := hRa.1
              have h4' : ea.length ≠ n := h4
              refine (callsIn_wide.1 (write_ok2 (ra := ⟨false, rawb, fib, eb⟩) hs rfl hRa kk hpow hkk N hN1 A c xs X k hk hrd hmc hcm hz1 hz2 (by omega) hm)).mono ?_
              rintro r w' ⟨K, hK, rfl, hs'⟩
              have hxN : xs.length = N * z := hxm
              refine ⟨_, t, [], ?_, ⟨?_, rfl, ?_⟩, hs'⟩
              · exact ⟨⟨kk, hkk, hpow⟩, hz1, hz2, psh_ok hxN hRa rfl K (by omega) (by show ea.length + K ≤ n; omega), hRb⟩
              · rw [hK]
                rfl
              · rw [← hx]
                unfold absF putTo
                simp only [if_neg (show ¬ ((1 : Int) = 0) by decide)]
                rw [psh_cl, psh_el, hK]
                rfl
  · rintro r w' ⟨N, x', ⟨rfl, rfl, rfl⟩, hs⟩
    exact ⟨rfl, hs⟩
theorem write_st (h : Star w0 w L) (i : Nat) (hi : L[i]? = some (FoA bs x)) (e : Int) (A : Option Addr) (m c : Nat) (xs : List UInt8) (k : Nat) (hk : (L.eraseIdx i)[k]? = some (RowO 5 1 (.slice A m c) m (byV xs))) (hm : m ≤ 100000) :
    Calls Try.prog 12 #[.pointer (some ⟨bs, 0, none⟩), .int .i64 e, .slice A m c] w fun r w' => r = .returned (.tuple #[.int .i64 (writeO x e xs).1.1, .int .i64 (writeO x e xs).1.2]) ∧ Star w0 w' (L.set i (FoA bs (writeO x e xs).2)) := by
  have h1 := h.front i hi
  rw [erase_take] at h1
  have ho := h1.rowO (k + 1) (by simpa using hk)
  have hb : m ≤ c ∧ c ≤ maxLen := by
    rcases ho.2 with ⟨hv, -⟩ | ⟨g, off, c', cur, hv, -, -, h4, h5, -⟩
    · simp only [Value.slice.injEq] at hv
      obtain ⟨-, rfl, rfl⟩ := hv
      exact ⟨Nat.le_refl _, Nat.zero_le _⟩
    · simp only [Value.slice.injEq, true_and] at hv
      obtain ⟨-, rfl⟩ := hv
      exact ⟨h4, h5⟩
  exact write_sx h i hi e A m c xs _ k hk (fun F W hF => ⟨_, hF.1.reads⟩) hb.1 hb.2 hm
theorem flat_len {z : Nat} : ∀ l : List (List UInt8), (∀ e ∈ l, e.length = z) → l.flatten.length = l.length * z
  | [], _ => by simp
  | e :: l, h => by
    rw [List.flatten_cons, List.length_append, flat_len l (fun x hx => h x (by simp [hx])), h e (by simp), List.length_cons, Nat.add_mul, Nat.one_mul, Nat.add_comm]
theorem read_st (h : Star w0 w L) (i : Nat) (hi : L[i]? = some (FoA bs x)) (e nn : Int) (hnm : nn ≤ 9223372036854775807) :
    Calls Try.prog 13 #[.pointer (some ⟨bs, 0, none⟩), .int .i64 e, .int .i64 nn] w fun r w' => ∃ v, r = .returned (.tuple #[v, .int .i64 (readO x e nn).1.2]) ∧ Star w0 w' (RowO 5 1 v (readO x e nn).1.1.length (byV (readO x e nn).1.1) :: L.set i (FoA bs (readO x e nn).2)) := by
  refine (fo_call (R := fun r N x' => ∃ v, r = .returned (.tuple #[v, .int .i64 (readO x e nn).1.2]) ∧ N = [RowO 5 1 v (readO x e nn).1.1.length (byV (readO x e nn).1.1)] ∧ x' = (readO x e nn).2) h i hi ?_).mono ?_
  · intro s t hw hx hs
    have hc : checkO x e = checkF s e := by rw [← hx]; rfl
    obtain ⟨hp, hz1, hz2, hRa, hRb⟩ := hw
    obtain ⟨kk, hkk, hpow⟩ := hp
    have hw' : WfF s := ⟨⟨kk, hkk, hpow⟩, hz1, hz2, hRa, hRb⟩
    unfold readO
    rw [hc]
    by_cases h1 : checkF s e ≠ 0
    · simp only [if_pos h1]
      refine (read_bad1 hs e h1 nn).mono ?_
      rintro r w' ⟨rfl, hs'⟩
      exact ⟨s, t, _, hw', ⟨_, rfl, rfl, hx⟩, hs'.nilO 5 1⟩
    · simp only [if_neg h1]
      replace h1 : checkF s e = 0 := Decidable.byContradiction h1
      have he : e = 0 ∨ e = 1 := by rcases check_two h1 with h | h; exact .inl h.1; exact .inr h.1
      by_cases h2 : nn < 1
      · simp only [if_pos h2]
        refine (read_bad2 hs e he h1 nn h2).mono ?_
        rintro r w' ⟨rfl, hs'⟩
        exact ⟨s, t, _, hw', ⟨_, rfl, rfl, hx⟩, hs'.nilO 5 1⟩
      · simp only [if_neg h2]
        have hae : atE x e = (atR s e).el := by rw [← hx]; unfold atE atR; split <;> rfl
        have htc : toC x e = (toR s e).cl := by rw [← hx]; unfold toC toR; split <;> rfl
        rw [hae, htc]
        by_cases h3 : (atR s e).el.length = 0
        · simp only [if_pos h3]
          refine (read_bad3 hs e he h1 nn h2 h3).mono ?_
          rintro r w' ⟨rfl, hs'⟩
          exact ⟨s, t, _, hw', ⟨_, rfl, rfl, hx⟩, hs'.nilO 5 1⟩
        · simp only [if_neg h3]
          obtain ⟨m, rfl⟩ : ∃ m : Nat, nn = m := ⟨nn.toNat, by omega⟩
          rw [Int.toNat_natCast]
          obtain ⟨⟨ca, raw, fi, ea⟩, ⟨cb, rawb, fib, eb⟩, n, z⟩ := s
          simp only at *
          rcases check_two h1 with ⟨rfl, hcl⟩ | ⟨rfl, hcl⟩
          · simp only at hcl
            subst hcl
            have h3' : ea.length ≠ 0 := h3
            refine (read_ok1 (rb := ⟨cb, rawb, fib, eb⟩) hs hRa kk hpow hkk hz1 hz2 m _ (by omega) (by omega) (by omega) rfl).mono ?_
            rintro r w' ⟨v, rfl, hs'⟩
            refine ⟨⟨pops n ⟨false, raw, fi, ea⟩ (min m ea.length), ⟨cb, rawb, fib, eb⟩, n, z⟩, t, [_], ?_, ⟨v, rfl, rfl, ?_⟩, ?_⟩
            · exact ⟨⟨kk, hkk, hpow⟩, hz1, hz2, pops_ok hRa (min m ea.length), hRb⟩
            · rw [← hx]
              unfold absF putAt
              simp only [if_pos rfl]
              rw [pops_cl, pops_el]
              rfl
            · have hl : ((ea.take (min m ea.length)).flatten).length = min m ea.length * z := by
                rw [flat_len _ (fun y hy => hRa.2.2.1 y (List.mem_of_mem_take hy)), List.length_take]
                show min (min m ea.length) ea.length * z = min m ea.length * z
                rw [Nat.min_eq_left (Nat.min_le_right _ _)]
              rw [← hl] at hs'
              exact hs'
          · simp only at hcl
            subst hcl
            have h3' : eb.length ≠ 0 := h3
            refine (read_ok2 (rb := ⟨ca, raw, fi, ea⟩) hs hRb kk hpow hkk hz1 hz2 m _ (by omega) (by omega) (by omega) rfl).mono ?_
            rintro r w' ⟨v, rfl, hs'⟩
            refine ⟨⟨⟨ca, raw, fi, ea⟩, pops n ⟨false, rawb, fib, eb⟩ (min m eb.length), n, z⟩, t, [_], ?_, ⟨v, rfl, rfl, ?_⟩, ?_⟩
            · exact ⟨⟨kk, hkk, hpow⟩, hz1, hz2, hRa, pops_ok hRb (min m eb.length)⟩
            · rw [← hx]
              unfold absF putAt
              simp only [if_neg (show ¬ ((1 : Int) = 0) by decide)]
              rw [pops_cl, pops_el]
              rfl
            · have hl : ((eb.take (min m eb.length)).flatten).length = min m eb.length * z := by
                rw [flat_len _ (fun y hy => hRb.2.2.1 y (List.mem_of_mem_take hy)), List.length_take]
                show min (min m eb.length) eb.length * z = min m eb.length * z
                rw [Nat.min_eq_left (Nat.min_le_right _ _)]
              rw [← hl] at hs'
              exact hs'
  · rintro r w' ⟨N, x', ⟨v, rfl, rfl, rfl⟩, hs⟩
    exact ⟨v, rfl, hs⟩
/-- May there be such a fifo? -/
def okN (n z : Int) : Bool := decide (1 ≤ n ∧ n ≤ 1024 ∧ 1 ≤ z ∧ z ≤ 64 ∧ n * z ≤ 4096) && pow10 n.toNat
theorem pow10_spec {n : Nat} (h : pow10 n = true) : ∃ k, k ≤ 10 ∧ n = 2 ^ k := by
  unfold pow10 at h
  obtain ⟨k, hk, he⟩ := List.any_eq_true.1 h
  exact ⟨k, by have := List.mem_range.1 hk; omega, by simpa using he⟩
def newO (n z : Nat) : Fo := ⟨false, false, [], [], n, z⟩
theorem newK_ok {n z : Nat} (h : 0 < n) : RingOk n z (zR n z 2 0) ∧ RingOk n z (zR n z 2 1) := by
  refine ⟨⟨by simp [zR], h, fun e he => by simp [zR] at he, fun h => by simp [zR] at h, fun _ => ⟨by simp [zR], fun i e he => by simp [zR] at he⟩⟩, ⟨by simp [zR], h, fun e he => by simp [zR] at he, fun h => by simp [zR] at h, fun _ => ⟨by simp [zR], fun i e he => by simp [zR] at he⟩⟩⟩
theorem new_st (h : Star w0 w L) (n z : Nat) (hok : okN n z = true) : Calls Try.prog 8 #[.int .i64 n, .int .i64 z] w fun r w' => r = .returned (.pointer (some ⟨w.heap.size, 0, none⟩)) ∧ Star w0 w' (FoA w.heap.size (newO n z) :: L) := by
  unfold okN at hok
  rw [Bool.and_eq_true, decide_eq_true_eq, Int.toNat_natCast] at hok
  obtain ⟨⟨h1, h2, h3, h4, h5⟩, h6⟩ := hok
  have h5' : n * z ≤ 4096 := by
    have : ((n * z : Nat) : Int) ≤ 4096 := by rw [Int.natCast_mul]; exact h5
    omega
  refine (new_any h n z h6 (by omega) (by omega) (by omega) h5').mono ?_
  rintro r w' ⟨rfl, hs⟩
  obtain ⟨t, ht⟩ := hs.exOpen
  exact ⟨rfl, Star.foClose (s := newK n z 2) ht ⟨pow10_spec h6, by show 1 ≤ z; omega, by show z ≤ 64; omega, newK_ok (show 0 < n by omega)⟩⟩
set_option maxHeartbeats 1000000 in
theorem new_none (n z : Int) (hok : okN n z = false) (w : World) : Calls Try.prog 8 #[.int .i64 n, .int .i64 z] w fun r w' => r = .returned (.pointer none) ∧ w = w' := by
  by_cases hn : n < 1
  · clear hok
    go_enter Try.func8, Try.ntmps8
    go_wp2
    go_ret
    exact ⟨rfl, rfl⟩
  · by_cases hn2 : 1024 < n
    · clear hok
      go_enter Try.func8, Try.ntmps8
      go_wp2
      go_ret
      exact ⟨rfl, rfl⟩
    · obtain ⟨m, rfl⟩ : ∃ m : Nat, n = m := ⟨n.toNat, by omega⟩
      have HO := Lib.hid (ones m (by omega))
      have hoc := oc_pow m (by omega)
      by_cases hp : pow10 m = true
      · rw [hp] at hoc
        have hoc2 : (oc m != 1) = false := by simpa using hoc
        by_cases hz : z < 1
        · clear hok hoc hp
          generalize oc m = v at *
          go_enter Try.func8, Try.ntmps8
          go_wp2_with (first | (go_at_call 24; (with_reducible refine (HO.out _).mono ?_); rintro e w1 ⟨rfl, rfl⟩))
          go_ret
          exact ⟨rfl, rfl⟩
        · by_cases hz2 : 64 < z
          · clear hok hoc hp
            generalize oc m = v at *
            go_enter Try.func8, Try.ntmps8
            go_wp2_with (first | (go_at_call 24; (with_reducible refine (HO.out _).mono ?_); rintro e w1 ⟨rfl, rfl⟩))
            go_ret
            exact ⟨rfl, rfl⟩
          · obtain ⟨y, rfl⟩ : ∃ y : Nat, z = y := ⟨z.toNat, by omega⟩
            have hq : 4096 < m * y := by
              have h1 : ¬ ((m : Int) * y ≤ 4096) := fun h => by
                unfold okN at hok
                rw [Int.toNat_natCast, hp, Bool.and_true, decide_eq_true ⟨by omega, by omega, by omega, by omega, h⟩] at hok
                cases hok
              have : ((m * y : Nat) : Int) = (m : Int) * y := Int.natCast_mul m y
              omega
            have hq2 : m * y ≤ 1024 * 64 := Nat.mul_le_mul (by omega) (by omega)
            obtain ⟨q, eq⟩ : ∃ q, q = m * y := ⟨_, rfl⟩
            have hw : IntKind.i64.wrap ((m : Int) * y) = (q : Int) := by
              rw [IntKind.wrap_i64, ← Int.natCast_mul]
              omega
            have hqz : (4096 : Int) < q := by omega
            clear hok hoc hp eq hq hq2
            generalize oc m = v at *
            go_enter Try.func8, Try.ntmps8
            go_wp2_with (first | (go_at_call 24; (with_reducible refine (HO.out _).mono ?_); rintro e w1 ⟨rfl, rfl⟩))
            go_ret
            exact ⟨rfl, rfl⟩
      · rw [Bool.eq_false_iff.2 hp] at hoc
        have hoc2 : (oc m != 1) = true := by simpa using hoc
        clear hok hoc hp
        generalize oc m = v at *
        go_enter Try.func8, Try.ntmps8
        go_wp2_with (first | (go_at_call 24; (with_reducible refine (HO.out _).mono ?_); rintro e w1 ⟨rfl, rfl⟩))
        go_ret
        exact ⟨rfl, rfl⟩
end
end Go.Proofs.Ytaiggfoeobehlaa.Ff
