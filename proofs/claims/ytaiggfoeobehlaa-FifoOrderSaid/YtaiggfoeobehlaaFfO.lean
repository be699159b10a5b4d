/- The fifo: Read refused; the fifo in the abstract, and its methods in the star. -/
import Derived.Test.YtaiggfoeobehlaaFfN
namespace Go.Proofs.Ytaiggfoeobehlaa.Ff
open Go Go.RowKit Go.Shelf Go.Proofs.Ytaiggfoeobehlaa.Mem
set_option linter.unusedVariables false
set_option linter.unusedSimpArgs false
section
variable {w0 w : World} {S : List Asr} {bs : Nat} {s : Fi} {t : Value × Value}
theorem read_bad1 (h : Star w0 w (ff bs s t ++ S)) (e : Int) (hc : checkF s e ≠ 0) (nn : Int) :
    Calls Try.prog 13 #[.pointer (some ⟨bs, 0, none⟩), .int .i64 e, .int .i64 nn] w fun r w' => r = .returned (.tuple #[.slice none 0 0, .int .i64 (checkF s e)]) ∧ Star w0 w' (ff bs s t ++ S) := by
  have HC := Lib.hid (check_any h e)
  have HS := Lib.hid h
  have hn : (checkF s e == 0) = false := by simpa using hc
  generalize checkF s e = v at *
  clear h hc
  go_enter Try.func13, Try.ntmps13
  go_wp2_with (first | (go_at_call 25; (with_reducible refine HC.out.mono ?_); rintro e w1 ⟨rfl, rfl⟩))
  go_ret2
  exact ⟨rfl, HS.out⟩
set_option maxHeartbeats 2000000 in
theorem read_bad2 (h : Star w0 w (ff bs s t ++ S)) (e : Int) (he : e = 0 ∨ e = 1) (hc : checkF s e = 0) (nn : Int) (hnn : nn < 1) :
    Calls Try.prog 13 #[.pointer (some ⟨bs, 0, none⟩), .int .i64 e, .int .i64 nn] w fun r w' => r = .returned (.tuple #[.slice none 0 0, .int .i64 (-14)]) ∧ Star w0 w' (ff bs s t ++ S) := by
  have HC := Lib.hid (check_any h e)
  rw [hc] at HC
  have HS := Lib.hid h
  clear h hc
  rcases he with rfl | rfl
  all_goals
    go_enter Try.func13, Try.ntmps13
    go_wp2_with (first | (go_at_call 25; (with_reducible refine HC.out.mono ?_); rintro e w1 ⟨rfl, rfl⟩))
    go_ret2
    exact ⟨rfl, HS.out⟩
def atR (s : Fi) (e : Int) : Ring := if e = 0 then s.a else s.b
set_option maxHeartbeats 2000000 in
theorem read_bad3 (h : Star w0 w (ff bs s t ++ S)) (e : Int) (he : e = 0 ∨ e = 1) (hc : checkF s e = 0) (nn : Int) (hnn : ¬ nn < 1) (hel : (atR s e).el.length = 0) :
    Calls Try.prog 13 #[.pointer (some ⟨bs, 0, none⟩), .int .i64 e, .int .i64 nn] w fun r w' => r = .returned (.tuple #[.slice none 0 0, .int .i64 (if (toR s e).cl then -24 else -22)]) ∧ Star w0 w' (ff bs s t ++ S) := by
  have HC := Lib.hid (check_any h e)
  rw [hc] at HC
  obtain ⟨k0, -, -, k3, k4, -, -, k7, -, -⟩ := ff_cells h
  have HS := Lib.hid h
  clear h hc
  rcases he with rfl | rfl
  · rw [show atR s 0 = s.a from rfl] at hel
    rw [show toR s 0 = s.b from rfl]
    rw [hel] at k3
    clear hel k7 k0
    generalize s.b.cl = b at *
    cases b
    all_goals
      go_enter Try.func13, Try.ntmps13
      go_wp2_with (first | (go_at_call 25; (with_reducible refine HC.out.mono ?_); rintro e w1 ⟨rfl, rfl⟩))
      go_ret2
      exact ⟨rfl, HS.out⟩
  · rw [show atR s 1 = s.b from rfl] at hel
    rw [show toR s 1 = s.a from rfl]
    rw [hel] at k7
    clear hel k3 k4
    generalize s.a.cl = b at *
    cases b
    all_goals
      go_enter Try.func13, Try.ntmps13
      go_wp2_with (first | (go_at_call 25; (with_reducible refine HC.out.mono ?_); rintro e w1 ⟨rfl, rfl⟩))
      go_ret2
      exact ⟨rfl, HS.out⟩
end
/-- The fifo in the abstract. -/
structure Fo where
  ca : Bool
  cb : Bool
  ea : List (List UInt8)
  eb : List (List UInt8)
  n : Nat
  z : Nat
def absF (s : Fi) : Fo := ⟨s.a.cl, s.b.cl, s.a.el, s.b.el, s.n, s.z⟩
def WfF (s : Fi) : Prop := (∃ k, k ≤ 10 ∧ s.n = 2 ^ k) ∧ 1 ≤ s.z ∧ s.z ≤ 64 ∧ RingOk s.n s.z s.a ∧ RingOk s.n s.z s.b
abbrev FoA (bs : Nat) (x : Fo) : Asr := ExA fun p : { p : Fi × (Value × Value) // WfF p.1 ∧ absF p.1 = x } => Grp (ff bs p.1.1 p.1.2)
def checkO (x : Fo) (e : Int) : Int := if e = 0 then (if x.ca then -24 else 0) else if e = 1 then (if x.cb then -24 else 0) else -10
def openO (x : Fo) (e : Int) : Bool := checkO x e == 0
def lenO (x : Fo) (e : Int) : Int := if e = 0 then x.ea.length else if e = 1 then x.eb.length else 0
def showsE (n : Nat) (el ol : List (List UInt8)) (oc : Bool) : Int := (if 0 < el.length then 1 else 0) + (if oc then 4 else if ol.length < n then 2 else 0)
def showsO (x : Fo) (e : Int) : Int := if openO x e then (if e = 0 then showsE x.n x.ea x.eb x.cb else showsE x.n x.eb x.ea x.ca) else 0
def closeO (x : Fo) (e : Int) : Fo := if openO x e then (if e = 0 then { x with ca := true, ea := [] } else { x with cb := true, eb := [] }) else x
def toE (x : Fo) (e : Int) : List (List UInt8) := if e = 0 then x.eb else x.ea
def atE (x : Fo) (e : Int) : List (List UInt8) := if e = 0 then x.ea else x.eb
def toC (x : Fo) (e : Int) : Bool := if e = 0 then x.cb else x.ca
def putTo (x : Fo) (e : Int) (l : List (List UInt8)) : Fo := if e = 0 then { x with eb := l } else { x with ea := l }
def putAt (x : Fo) (e : Int) (l : List (List UInt8)) : Fo := if e = 0 then { x with ea := l } else { x with eb := l }
def writeO (x : Fo) (e : Int) (xs : List UInt8) : (Int × Int) × Fo :=
  if checkO x e ≠ 0 then ((0, checkO x e), x)
  else if xs.length = 0 ∨ xs.length % x.z ≠ 0 then ((0, -14), x)
  else if toC x e = true then ((0, -24), x)
  else if (toE x e).length = x.n then ((0, -22), x)
  else (((min (xs.length / x.z) (x.n - (toE x e).length) : Nat), 0), putTo x e (toE x e ++ (List.range (min (xs.length / x.z) (x.n - (toE x e).length))).map (chunk xs x.z)))
def readO (x : Fo) (e nn : Int) : (List UInt8 × Int) × Fo :=
  if checkO x e ≠ 0 then (([], checkO x e), x)
  else if nn < 1 then (([], -14), x)
  else if (atE x e).length = 0 then (([], if toC x e then -24 else -22), x)
  else ((((atE x e).take (min nn.toNat (atE x e).length)).flatten, 0), putAt x e ((atE x e).drop (min nn.toNat (atE x e).length)))
section
variable {w0 w : World} {L : List Asr} {bs : Nat} {x : Fo}
theorem erase_take {α : Type} (L : List α) (i : Nat) : L.take i ++ L.drop (i + 1) = L.eraseIdx i := by rw [List.eraseIdx_eq_take_drop_succ]
theorem Star.foOpen {S : List Asr} (h : Star w0 w (FoA bs x :: S)) : ∃ s t, WfF s ∧ absF s = x ∧ Star w0 w (ff bs s t ++ S) := by
  obtain ⟨⟨p, h1, h2⟩, h3⟩ := h.exOpen
  exact ⟨p.1, p.2, h1, h2, h3⟩
theorem Star.foClose {S : List Asr} {s : Fi} {t : Value × Value} (h : Star w0 w (ff bs s t ++ S)) (hw : WfF s) : Star w0 w (FoA bs (absF s) :: S) :=
  Star.exClose (Q := fun p : { p : Fi × (Value × Value) // WfF p.1 ∧ absF p.1 = absF s } => ff bs p.1.1 p.1.2) ⟨(s, t), hw, rfl⟩ h
/-- A call on a fifo among others; a new one may come ahead. -/
theorem fo_call {P : Program} {f : FuncId} {args : Array Value} {R : Ending → List Asr → Fo → Prop} (h : Star w0 w L) (i : Nat) (hi : L[i]? = some (FoA bs x))
    (hc : ∀ s t, WfF s → absF s = x → Star w0 w (ff bs s t ++ L.eraseIdx i) → Calls P f args w fun e w' => ∃ s' t' N, WfF s' ∧ R e N (absF s') ∧ Star w0 w' (N ++ (ff bs s' t' ++ L.eraseIdx i))) :
    Calls P f args w fun e w' => ∃ N x', R e N x' ∧ Star w0 w' (N ++ L.set i (FoA bs x')) := by
  have h1 := h.front i hi
  rw [erase_take] at h1
  obtain ⟨s, t, hw, hx, hs⟩ := Star.foOpen h1
  refine (hc s t hw hx hs).mono ?_
  rintro e w' ⟨s', t', N, hw', hr, hs'⟩
  refine ⟨N, _, hr, Star.back i hi ?_⟩
  rw [erase_take]
  have h2 : Star w0 w' (ff bs s' t' ++ (N ++ L.eraseIdx i)) := hs'.perm (by
    rw [← List.append_assoc, ← List.append_assoc]
    exact List.Perm.append_right _ List.perm_append_comm)
  exact (Star.foClose h2 hw').perm List.perm_middle.symm
theorem fo_same {P : Program} {f : FuncId} {args : Array Value} {v : Value} (h : Star w0 w L) (i : Nat) (hi : L[i]? = some (FoA bs x))
    (hc : ∀ s t, WfF s → absF s = x → Star w0 w (ff bs s t ++ L.eraseIdx i) → Calls P f args w fun e w' => e = .returned v ∧ Star w0 w' (ff bs s t ++ L.eraseIdx i)) :
    Calls P f args w fun e w' => e = .returned v ∧ Star w0 w' L := by
  refine (fo_call (R := fun e N x' => e = .returned v ∧ N = [] ∧ x' = x) h i hi fun s t hw hx hs => (hc s t hw hx hs).mono ?_).mono ?_
  · rintro e w' ⟨rfl, hs'⟩
    exact ⟨s, t, [], hw, ⟨rfl, rfl, hx⟩, hs'⟩
  · rintro e w' ⟨N, x', ⟨rfl, rfl, rfl⟩, hs⟩
    rw [List.nil_append, show L.set i (FoA bs x') = L from by
      rw [← (List.getElem?_eq_some_iff.1 hi).2]
      exact List.set_getElem_self _] at hs
    exact ⟨rfl, hs⟩
theorem size_st (h : Star w0 w L) (i : Nat) (hi : L[i]? = some (FoA bs x)) : Calls Try.prog 17 #[.pointer (some ⟨bs, 0, none⟩)] w fun r w' => r = .returned (.int .i64 x.z) ∧ Star w0 w' L :=
  fo_same h i hi fun s t hw hx hs => (size_any hs).mono fun e w' ⟨he, hw'⟩ => ⟨by rw [he, ← hx]; rfl, hw' ▸ hs⟩
theorem open_st (h : Star w0 w L) (i : Nat) (hi : L[i]? = some (FoA bs x)) (e : Int) : Calls Try.prog 22 #[.pointer (some ⟨bs, 0, none⟩), .int .i64 e] w fun r w' => r = .returned (.bool (openO x e)) ∧ Star w0 w' L :=
  fo_same h i hi fun s t hw hx hs => (open_any hs e).mono fun e w' ⟨he, hw'⟩ => ⟨by rw [he, ← hx]; rfl, hw' ▸ hs⟩
theorem len_st (h : Star w0 w L) (i : Nat) (hi : L[i]? = some (FoA bs x)) (e : Int) : Calls Try.prog 15 #[.pointer (some ⟨bs, 0, none⟩), .int .i64 e] w fun r w' => r = .returned (.int .i64 (lenO x e)) ∧ Star w0 w' L :=
  fo_same h i hi fun s t hw hx hs => (len_any hs e).mono fun e w' ⟨he, hw'⟩ => ⟨by rw [he, ← hx]; rfl, hw' ▸ hs⟩
theorem shows_st (h : Star w0 w L) (i : Nat) (hi : L[i]? = some (FoA bs x)) (e : Int) : Calls Try.prog 18 #[.pointer (some ⟨bs, 0, none⟩), .int .i64 e] w fun r w' => r = .returned (.int .i64 (showsO x e)) ∧ Star w0 w' L :=
  fo_same h i hi fun s t hw hx hs => (shows_any hs e).mono fun e w' ⟨he, hw'⟩ => ⟨by rw [he, ← hx]; rfl, hw'⟩
theorem shut_ok {n z : Nat} (h : 0 < n) : RingOk n z shutR := ⟨by simp [shutR], h, fun e he => by simp [shutR] at he, fun _ => rfl, fun h => by simp [shutR] at h⟩
theorem close_st (h : Star w0 w L) (i : Nat) (hi : L[i]? = some (FoA bs x)) (e : Int) : Calls Try.prog 21 #[.pointer (some ⟨bs, 0, none⟩), .int .i64 e] w fun r w' => r = .returned (.int .i64 (checkO x e)) ∧ Star w0 w' (L.set i (FoA bs (closeO x e))) := by
  refine (fo_call (R := fun r N x' => r = .returned (.int .i64 (checkO x e)) ∧ N = [] ∧ x' = closeO x e) h i hi fun s t hw hx hs => (close_any hs e).mono ?_).mono ?_
  · rintro r w' ⟨rfl, t', hs'⟩
    subst hx
    refine ⟨_, t', [], ?_, ⟨rfl, rfl, ?_⟩, hs'⟩
    · obtain ⟨h1, h2, h3, h4, h5⟩ := hw
      have hn : 0 < s.n := by have := h4.2.1; omega
      unfold closeF
      by_cases ho : openF s e = true
      · rw [if_pos ho]
        unfold closeS
        by_cases h0 : e = 0
        · rw [if_pos h0]
          exact ⟨h1, h2, h3, shut_ok hn, h5⟩
        · rw [if_neg h0]
          exact ⟨h1, h2, h3, h4, shut_ok hn⟩
      · rw [if_neg ho]
        exact ⟨h1, h2, h3, h4, h5⟩
    · unfold closeF closeO
      rw [show openO (absF s) e = openF s e from rfl]
      by_cases ho : openF s e = true
      · rw [if_pos ho, if_pos ho]
        unfold closeS
        by_cases h0 : e = 0
        · rw [if_pos h0, if_pos h0]
          rfl
        · rw [if_neg h0, if_neg h0]
          rfl
      · rw [if_neg ho, if_neg ho]
  · rintro r w' ⟨N, x', ⟨rfl, rfl, rfl⟩, hs⟩
    exact ⟨rfl, hs⟩
theorem check_two {s : Fi} {e : Int} (h : checkF s e = 0) : (e = 0 ∧ s.a.cl = false) ∨ (e = 1 ∧ s.b.cl = false) := by
  unfold checkF at h
  by_cases h0 : e = 0
  · rw [if_pos h0] at h
    cases hc : s.a.cl
    · exact .inl ⟨h0, rfl⟩
    · rw [hc] at h
      simp at h
  · rw [if_neg h0] at h
    by_cases h1 : e = 1
    · rw [if_pos h1] at h
      cases hc : s.b.cl
      · exact .inr ⟨h1, rfl⟩
      · rw [hc] at h
        simp at h
    · rw [if_neg h1] at h
      cases h
end
end Go.Proofs.Ytaiggfoeobehlaa.Ff
