/- The port's reference among other objects; what holds of both along a script. -/
import Derived.Test.YtjkgkoilabbdgaaPtR3
import Derived.Test.YtjkgkoilabbdgaaPtR4
import Derived.Test.YtjkgkoilabbdgaaPtJ
namespace Go.Proofs.Ytjkgkoilabbdgaa.Pt
open Go Go.RowKit Go.Proofs.Ytjkgkoilabbdgaa.Mem
set_option linter.unusedVariables false
set_option linter.unusedSimpArgs false
section
variable {w0 w : World} {L : List Asr} {bs : Nat} {s : Po}
theorem add_rst (h : Star w0 w L) (i : Nat) (hi : L[i]? = some (RpA bs s)) (hq : s.q.length ≤ 1000) (k v : Int) : Calls Try.prog 20 #[.pointer (some ⟨bs, 0, none⟩), .int .i64 k, .int .i64 v] w fun r w' => r = .returned (.int .i64 (queueS s k v).1) ∧ Star w0 w' (L.set i (RpA bs (queueS s k v).2)) := by
  refine (ex_call (Q' := rp bs (queueS s k v).2) (R := fun r N => r = .returned (.int .i64 (queueS s k v).1) ∧ N = []) h i hi fun t S hS => ?_).mono ?_
  · refine (add_ref hS hq k v).mono ?_
    rintro r w1 ⟨rfl, t', hs⟩
    exact ⟨[], t', ⟨rfl, rfl⟩, hs⟩
  · rintro r w1 ⟨N, ⟨rfl, rfl⟩, hs⟩
    exact ⟨rfl, hs⟩
theorem watch_rst (h : Star w0 w L) (i : Nat) (hi : L[i]? = some (RpA bs s)) (hq : s.q.length ≤ 1000) (hw : s.ws.length ≤ 100000) (o k m : Int) : Calls Try.prog 23 #[.pointer (some ⟨bs, 0, none⟩), .int .i64 o, .int .i64 k, .int .i64 m] w fun r w' => r = .returned (.int .i64 (watchS s o k m).1) ∧ Star w0 w' (L.set i (RpA bs (watchS s o k m).2)) := by
  refine (ex_call (Q' := rp bs (watchS s o k m).2) (R := fun r N => r = .returned (.int .i64 (watchS s o k m).1) ∧ N = []) h i hi fun t S hS => ?_).mono ?_
  · refine (watch_ref hS hq hw o k m).mono ?_
    rintro r w1 ⟨rfl, t', hs⟩
    exact ⟨[], t', ⟨rfl, rfl⟩, hs⟩
  · rintro r w1 ⟨N, ⟨rfl, rfl⟩, hs⟩
    exact ⟨rfl, hs⟩
theorem tell_rst (h : Star w0 w L) (i : Nat) (hi : L[i]? = some (RpA bs s)) (hq : s.q.length + s.ws.length ≤ 1000) (ob sh : Int) : Calls Try.prog 24 #[.pointer (some ⟨bs, 0, none⟩), .int .i64 ob, .int .i64 sh] w fun r w' => r = .returned (.int .i64 (tellS s ob sh).1) ∧ Star w0 w' (L.set i (RpA bs (tellS s ob sh).2)) := by
  refine (ex_call (Q' := rp bs (tellS s ob sh).2) (R := fun r N => r = .returned (.int .i64 (tellS s ob sh).1) ∧ N = []) h i hi fun t S hS => ?_).mono ?_
  · refine (tell_ref hS hq ob sh).mono ?_
    rintro r w1 ⟨rfl, t', hs⟩
    exact ⟨[], t', ⟨rfl, rfl⟩, hs⟩
  · rintro r w1 ⟨N, ⟨rfl, rfl⟩, hs⟩
    exact ⟨rfl, hs⟩
theorem cancel_rst (h : Star w0 w L) (i : Nat) (hi : L[i]? = some (RpA bs s)) (hq : s.q.length + s.ws.length ≤ 1000) (hpos : ∀ x ∈ s.q, 0 ≤ x.b) (ob ky : Int) : Calls Try.prog 25 #[.pointer (some ⟨bs, 0, none⟩), .int .i64 ob, .int .i64 ky] w fun r w' => r = .returned (.int .i64 (cancelS s ob ky).1) ∧ Star w0 w' (L.set i (RpA bs (cancelS s ob ky).2)) := by
  refine (ex_call (Q' := rp bs (cancelS s ob ky).2) (R := fun r N => r = .returned (.int .i64 (cancelS s ob ky).1) ∧ N = []) h i hi fun t S hS => ?_).mono ?_
  · refine (cancel_ref hS hq hpos ob ky).mono ?_
    rintro r w1 ⟨rfl, t', hs⟩
    exact ⟨[], t', ⟨rfl, rfl⟩, hs⟩
  · rintro r w1 ⟨N, ⟨rfl, rfl⟩, hs⟩
    exact ⟨rfl, hs⟩
theorem forget_rst (h : Star w0 w L) (i : Nat) (hi : L[i]? = some (RpA bs s)) (hw : s.ws.length ≤ 1000) (ob : Int) : Calls Try.prog 26 #[.pointer (some ⟨bs, 0, none⟩), .int .i64 ob] w fun r w' => r = .returned (.int .i64 (forgetS s ob).1) ∧ Star w0 w' (L.set i (RpA bs (forgetS s ob).2)) := by
  refine (ex_call (Q' := rp bs (forgetS s ob).2) (R := fun r N => r = .returned (.int .i64 (forgetS s ob).1) ∧ N = []) h i hi fun t S hS => ?_).mono ?_
  · refine (forget_ref hS hw ob).mono ?_
    rintro r w1 ⟨rfl, t', hs⟩
    exact ⟨[], t', ⟨rfl, rfl⟩, hs⟩
  · rintro r w1 ⟨N, ⟨rfl, rfl⟩, hs⟩
    exact ⟨rfl, hs⟩
theorem take_rst (h : Star w0 w L) (i : Nat) (hi : L[i]? = some (RpA bs s)) (hq : s.q.length ≤ 1000) : Calls Try.prog 21 #[.pointer (some ⟨bs, 0, none⟩)] w fun r w' => r = .returned (.tuple #[t3G (takeS s).1, .int .i64 (takeS s).2.1]) ∧ Star w0 w' (L.set i (RpA bs (takeS s).2.2)) := by
  refine (ex_call (Q' := rp bs (takeS s).2.2) (R := fun r N => r = .returned (.tuple #[t3G (takeS s).1, .int .i64 (takeS s).2.1]) ∧ N = []) h i hi fun t S hS => ?_).mono ?_
  · refine (take_ref hS hq).mono ?_
    rintro r w1 ⟨rfl, t', hs⟩
    exact ⟨[], t', ⟨rfl, rfl⟩, hs⟩
  · rintro r w1 ⟨N, ⟨rfl, rfl⟩, hs⟩
    exact ⟨rfl, hs⟩
end
/-- Behind so many calls. -/
structure PlI (k : Nat) (s : Po) : Prop where
  len : s.q.length + s.ws.length ≤ k
  pos : ∀ x ∈ s.q, 0 ≤ x.b
  obs : ∀ x ∈ s.ws, 1 ≤ x.a
section
variable {k : Nat} {s : Po}
theorem PlI.step (h : PlI k s) : PlI (k + 1) s := { h with len := by have := h.len; omega }
theorem PlI.queue (h : PlI k s) (a v : Int) : PlI (k + 1) (queueS s a v).2 := by
  unfold queueS
  split
  · exact h.step
  · refine ⟨?_, fun x hx => ?_, h.obs⟩
    · have := h.len
      simp only [putS, List.length_append, List.length_singleton]
      omega
    · simp only [putS, List.mem_append, List.mem_singleton] at hx
      rcases hx with hx | rfl
      · exact h.pos x hx
      · exact Int.le_refl _
theorem PlI.take (h : PlI k s) : PlI (k + 1) (takeS s).2.2 := by
  obtain ⟨q, ws, d, m⟩ := s
  cases q with
  | nil => exact h.step
  | cons x q => exact ⟨by have := h.len; simp only [List.length_cons] at this; show q.length + ws.length ≤ _; omega, fun y hy => h.pos y (List.mem_cons_of_mem _ hy), h.obs⟩
theorem PlI.watch (h : PlI k s) (o a m : Int) : PlI (k + 1) (watchS s o a m).2 := by
  unfold watchS
  split
  · exact h.step
  · split
    · exact h.step
    · refine ⟨?_, h.pos, fun x hx => ?_⟩
      · have := h.len
        simp only [addS, List.length_append, List.length_singleton]
        omega
      · simp only [addS, List.mem_append, List.mem_singleton] at hx
        rcases hx with hx | rfl
        · exact h.obs x hx
        · simp only
          omega
theorem nots_len3 (p : T3 → Bool) (l : List T3) : (nots p l).length + (l.filter p).length = l.length := by
  induction l with
  | nil => rfl
  | cons x l ih =>
    unfold nots at ih ⊢
    cases h : p x <;> simp [h] <;> omega
theorem PlI.tell (h : PlI k s) (o v : Int) : PlI (k + 1) (tellS s o v).2 := by
  have hl := nots_len3 (firesP o v) s.ws
  have := h.len
  unfold tellS toldQ
  rw [List.take_length]
  refine ⟨?_, fun x hx => ?_, fun x hx => h.obs x (List.mem_filter.1 hx).1⟩
  · simp only [List.length_append, List.length_map]
    omega
  · simp only [List.mem_append] at hx
    rcases hx with hx | hx
    · exact h.pos x hx
    · obtain ⟨y, hy, rfl⟩ := List.mem_map.1 hx
      obtain ⟨hy1, hy2⟩ := List.mem_filter.1 hy
      have := h.obs y hy1
      unfold firesP at hy2
      simp only [Bool.and_eq_true, beq_iff_eq] at hy2
      simp only
      omega
theorem PlI.cancel (h : PlI k s) (o v : Int) : PlI (k + 1) (cancelS s o v).2 := by
  have h1 := nots_le (mineP o v) s.q
  have h2 := nots_le (ofK o v) s.ws
  have := h.len
  exact ⟨by show (nots (mineP o v) s.q).length + (nots (ofK o v) s.ws).length ≤ _; omega, fun x hx => h.pos x (List.mem_filter.1 hx).1, fun x hx => h.obs x (List.mem_filter.1 hx).1⟩
theorem PlI.forget (h : PlI k s) (o : Int) : PlI (k + 1) (forgetS s o).2 := by
  have h2 := nots_le (ofP o) s.ws
  have := h.len
  exact ⟨by show s.q.length + (nots (ofP o) s.ws).length ≤ _; omega, h.pos, fun x hx => h.obs x (List.mem_filter.1 hx).1⟩
end
theorem same_pair (W : World) (x : T3) (g : Nat) (hg : W.heap.size = g) : Calls Try.prog 22 #[.slice (some ⟨g, 0, none⟩) 1 1, .slice (some ⟨g + 1, 0, none⟩) 1 1] ((W.alloc (.cells #[.int .i64 x.a, .int .i64 x.b, .int .i64 x.c] 29)).alloc (.cells #[.int .i64 x.a, .int .i64 x.b, .int .i64 x.c] 52)) fun e w' => e = .returned (.bool true) ∧ ∃ m, w' = ((W.alloc (.cells #[.int .i64 x.a, .int .i64 x.b, .int .i64 x.c] 29)).alloc (.cells #[.int .i64 x.a, .int .i64 x.b, .int .i64 x.c] 52)).drewN m := by
  subst hg
  have r1 : Reads ((W.alloc (.cells #[.int .i64 x.a, .int .i64 x.b, .int .i64 x.c] 29)).alloc (.cells #[.int .i64 x.a, .int .i64 x.b, .int .i64 x.c] 52)) (W.heap.size + 1) 3 (some ⟨W.heap.size, 0, none⟩) 1 (t3V [x]) :=
    (reads_fresh_at W 29 [.int .i64 x.a, .int .i64 x.b, .int .i64 x.c] 1 3 W.heap.size rfl rfl).alloc (by show _ ≤ (W.heap.push _).size; simp) _
  have r2 : Reads ((W.alloc (.cells #[.int .i64 x.a, .int .i64 x.b, .int .i64 x.c] 29)).alloc (.cells #[.int .i64 x.a, .int .i64 x.b, .int .i64 x.c] 52)) (W.heap.size + 1 + 1) 3 (some ⟨W.heap.size + 1, 0, none⟩) 1 (t3V [x]) :=
    reads_fresh_at (W.alloc _) 52 [.int .i64 x.a, .int .i64 x.b, .int .i64 x.c] 1 3 (W.heap.size + 1) (by rfl) (by simp)
  exact same_any r1 r2 (by omega)
end Go.Proofs.Ytjkgkoilabbdgaa.Pt
