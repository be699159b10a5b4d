/- The port: its methods among other objects; awake. -/
import Derived.Test.YtjkgkoilabbdgaaPtI
namespace Go.Proofs.Ytjkgkoilabbdgaa.Pt
open Go Go.RowKit Go.Proofs.Ytjkgkoilabbdgaa.Mem
set_option linter.unusedVariables false
set_option linter.unusedSimpArgs false
section
variable {w0 w : World} {L : List Asr} {bs : Nat} {s : Po}
theorem queue_st (h : Star w0 w L) (i : Nat) (hi : L[i]? = some (PtA bs s)) (hq : s.q.length ≤ 1000) (k v : Int) : Calls Try.prog 10 #[.pointer (some ⟨bs, 0, none⟩), .int .i64 k, .int .i64 v] w fun r w' => r = .returned (.int .i64 (queueS s k v).1) ∧ Star w0 w' (L.set i (PtA bs (queueS s k v).2)) := by
  refine (ex_call (Q' := pt bs (queueS s k v).2) (R := fun r N => r = .returned (.int .i64 (queueS s k v).1) ∧ N = []) h i hi fun t S hS => ?_).mono ?_
  · refine (queue_any hS hq k v).mono ?_
    rintro r w1 ⟨rfl, t', hs⟩
    exact ⟨[], t', ⟨rfl, rfl⟩, hs⟩
  · rintro r w1 ⟨N, ⟨rfl, rfl⟩, hs⟩
    exact ⟨rfl, hs⟩
theorem take_st (h : Star w0 w L) (i : Nat) (hi : L[i]? = some (PtA bs s)) (hq : s.q.length ≤ 1000) : Calls Try.prog 11 #[.pointer (some ⟨bs, 0, none⟩)] w fun r w' => r = .returned (.tuple #[t3G (takeS s).1, .int .i64 (takeS s).2.1]) ∧ Star w0 w' (L.set i (PtA bs (takeS s).2.2)) := by
  refine (ex_call (Q' := pt bs (takeS s).2.2) (R := fun r N => r = .returned (.tuple #[t3G (takeS s).1, .int .i64 (takeS s).2.1]) ∧ N = []) h i hi fun t S hS => ?_).mono ?_
  · refine (take_any hS hq).mono ?_
    rintro r w1 ⟨rfl, t', hs⟩
    exact ⟨[], t', ⟨rfl, rfl⟩, hs⟩
  · rintro r w1 ⟨N, ⟨rfl, rfl⟩, hs⟩
    exact ⟨rfl, hs⟩
theorem watch_st (h : Star w0 w L) (i : Nat) (hi : L[i]? = some (PtA bs s)) (hq : s.q.length ≤ 1000) (hw : s.ws.length ≤ 100000) (o k m : Int) : Calls Try.prog 13 #[.pointer (some ⟨bs, 0, none⟩), .int .i64 o, .int .i64 k, .int .i64 m] w fun r w' => r = .returned (.int .i64 (watchS s o k m).1) ∧ Star w0 w' (L.set i (PtA bs (watchS s o k m).2)) := by
  refine (ex_call (Q' := pt bs (watchS s o k m).2) (R := fun r N => r = .returned (.int .i64 (watchS s o k m).1) ∧ N = []) h i hi fun t S hS => ?_).mono ?_
  · refine (watch_any hS hq hw o k m).mono ?_
    rintro r w1 ⟨rfl, t', hs⟩
    exact ⟨[], t', ⟨rfl, rfl⟩, hs⟩
  · rintro r w1 ⟨N, ⟨rfl, rfl⟩, hs⟩
    exact ⟨rfl, hs⟩
theorem tell_st (h : Star w0 w L) (i : Nat) (hi : L[i]? = some (PtA bs s)) (hq : s.q.length + s.ws.length ≤ 1000) (ob sh : Int) : Calls Try.prog 14 #[.pointer (some ⟨bs, 0, none⟩), .int .i64 ob, .int .i64 sh] w fun r w' => r = .returned (.int .i64 (tellS s ob sh).1) ∧ Star w0 w' (L.set i (PtA bs (tellS s ob sh).2)) := by
  refine (ex_call (Q' := pt bs (tellS s ob sh).2) (R := fun r N => r = .returned (.int .i64 (tellS s ob sh).1) ∧ N = []) h i hi fun t S hS => ?_).mono ?_
  · refine (tell_any hS hq ob sh).mono ?_
    rintro r w1 ⟨rfl, t', hs⟩
    exact ⟨[], t', ⟨rfl, rfl⟩, hs⟩
  · rintro r w1 ⟨N, ⟨rfl, rfl⟩, hs⟩
    exact ⟨rfl, hs⟩
theorem len_st (h : Star w0 w L) (i : Nat) (hi : L[i]? = some (PtA bs s)) : Calls Try.prog 12 #[.pointer (some ⟨bs, 0, none⟩)] w fun r w' => r = .returned (.int .i64 s.q.length) ∧ w = w' := by
  obtain ⟨t, S, hS⟩ := ex_open h i hi
  exact len_any hS
theorem watches_st (h : Star w0 w L) (i : Nat) (hi : L[i]? = some (PtA bs s)) : Calls Try.prog 16 #[.pointer (some ⟨bs, 0, none⟩)] w fun r w' => r = .returned (.int .i64 s.ws.length) ∧ w = w' := by
  obtain ⟨t, S, hS⟩ := ex_open h i hi
  exact watches_any hS
end
set_option maxHeartbeats 2000000 in
theorem awake_any (w : World) : Calls Try.prog 9 #[] w fun e w' => e = .returned (.bool true) ∧ Below w.heap.size w w' := by
  have HN := Lib.hid (new_any (Star.nil w) 2 2 (by omega) (by omega) (by omega))
  have HW := Lib.hid (fun (W : World) (h : Star w W [PtA w.heap.size ⟨[], [], 2, 2⟩]) => watch_st h 0 rfl (by simp) (by simp) 5 9 3)
  have HT := Lib.hid (fun (W : World) (h : Star w W [PtA w.heap.size ⟨[], [⟨5, 9, 3⟩], 2, 2⟩]) => tell_st h 0 rfl (by simp) 5 1)
  have HK := Lib.hid (fun (W : World) (h : Star w W [PtA w.heap.size ⟨[⟨9, 5, 1⟩], [], 2, 2⟩]) => take_st h 0 rfl (by simp))
  have HL := Lib.hid (fun (W : World) (h : Star w W [PtA w.heap.size ⟨[], [], 2, 2⟩]) => watches_st h 0 rfl)
  have e1 : watchS ⟨[], [], 2, 2⟩ 5 9 3 = (0, ⟨[], [⟨5, 9, 3⟩], 2, 2⟩) := by rfl
  have e2 : tellS ⟨[], [⟨5, 9, 3⟩], 2, 2⟩ 5 1 = (1, ⟨[⟨9, 5, 1⟩], [], 2, 2⟩) := by rfl
  have e3 : takeS ⟨[⟨9, 5, 1⟩], [], 2, 2⟩ = (⟨9, 5, 1⟩, 0, ⟨[], [], 2, 2⟩) := rfl
  rw [e1] at HW
  rw [e2] at HT
  rw [e3] at HK
  rw [show ((2 : Nat) : Int) = 2 from rfl] at HN
  simp only [List.set_cons_zero, List.length_nil] at HW HT HK HL
  rw [show ((0 : Nat) : Int) = 0 from rfl] at HL
  unfold t3G at HK
  simp only at HK
  clear e1 e2 e3
  go_enter Try.func9, Try.ntmps9
  go_wp2_with (first
    | (go_at_call 8; (with_reducible refine HN.out.mono ?_); rintro e w1 ⟨rfl, hs1⟩
       have HS1 := Lib.hid hs1
       clear hs1)
    | (go_at_call 13; (with_reducible refine (HW.out _ HS1.out).mono ?_); rintro e w2 ⟨rfl, hs2⟩
       have HS2 := Lib.hid hs2
       clear hs2)
    | (go_at_call 14; (with_reducible refine (HT.out _ HS2.out).mono ?_); rintro e w3 ⟨rfl, hs3⟩
       have HS3 := Lib.hid hs3
       clear hs3)
    | (go_at_call 11; (with_reducible refine (HK.out _ HS3.out).mono ?_); rintro e w4 ⟨rfl, hs4⟩
       have HS4 := Lib.hid hs4
       clear hs4)
    | (go_at_call 16; (with_reducible refine (HL.out _ (HS4.out.alloc _)).mono ?_); rintro e w5 ⟨rfl, rfl⟩))
  go_ret
  exact ⟨rfl, HS4.out.below.alloc (HS4.out.below.size) _⟩
end Go.Proofs.Ytjkgkoilabbdgaa.Pt
