/- The walk of PortOnce. -/
import Derived.Test.YtjkgkoilabbdgaaPtTells
import Derived.Deep.LoopGhost
import Derived.Deep.CutBlock
namespace Go.Proofs.Ytjkgkoilabbdgaa.Pt
open Go Go.RowKit Go.Proofs.Ytjkgkoilabbdgaa.Mem
set_option linter.unusedVariables false
set_option linter.unusedSimpArgs false
/-- The keys of all watches and packets. -/
def keysP (s : Po) : List Int := s.ws.map (·.b) ++ s.q.map (·.a)
structure OnI (i : Nat) (s : Po) (W F T : Nat) : Prop where
  d : s.d = 100
  m : s.m = 50
  w : W = F + s.ws.length
  f : F = T + s.q.length
  room : s.ws.length + s.q.length ≤ 50
  src : ∀ x ∈ s.q, x.b ≠ 0
  obs : ∀ x ∈ s.ws, 1 ≤ x.a
  keys : (keysP s).Nodup
  old : ∀ x ∈ keysP s, x < i
  wi : W ≤ i
theorem OnI.nil : OnI 0 ⟨[], [], 100, 50⟩ 0 0 0 := ⟨rfl, rfl, rfl, rfl, by simp, by simp, by simp, by simp [keysP], by simp [keysP], by omega⟩
theorem nots_len2 (p : T3 → Bool) (l : List T3) : (nots p l).length + (l.filter p).length = l.length := by
  induction l with
  | nil => rfl
  | cons x l ih =>
    unfold nots at ih ⊢
    cases h : p x <;> simp [h] <;> omega
theorem nots_perm (p : T3 → Bool) (l : List T3) : (nots p l ++ l.filter p).Perm l := by
  induction l with
  | nil => exact List.Perm.refl _
  | cons x l ih =>
    unfold nots at ih ⊢
    cases h : p x
    · simp only [List.filter_cons, h, Bool.not_false, if_true, Bool.false_eq_true, if_false, List.cons_append]
      exact ih.cons x
    · simp only [List.filter_cons, h, Bool.not_true, if_true, Bool.false_eq_true, if_false]
      exact List.perm_middle.trans (ih.cons x)
theorem keys_perm (s : Po) (o v : Int) : (keysP ⟨s.q ++ (s.ws.filter (firesP o v)).map (fun x => ⟨x.b, o, v⟩), nots (firesP o v) s.ws, s.d, s.m⟩).Perm (keysP s) := by
  unfold keysP
  simp only [List.map_append, List.map_map]
  have e : (List.map ((fun x : T3 => x.a) ∘ fun x : T3 => (⟨x.b, o, v⟩ : T3)) (s.ws.filter (firesP o v))) = (s.ws.filter (firesP o v)).map (·.b) := List.map_congr_left fun x _ => rfl
  rw [e]
  have h1 : ((nots (firesP o v) s.ws).map (·.b) ++ ((s.ws.filter (firesP o v)).map (·.b))).Perm (s.ws.map (·.b)) := by
    rw [← List.map_append]
    exact (nots_perm _ _).map _
  have h2 := (List.perm_append_comm (l₁ := s.q.map (·.a)) (l₂ := (s.ws.filter (firesP o v)).map (·.b))).append_left ((nots (firesP o v) s.ws).map (·.b))
  have h3 := h1.append_right (s.q.map (·.a))
  rw [List.append_assoc] at h3
  exact h2.trans h3
section
variable {i : Nat} {s : Po} {W F T : Nat}
theorem OnI.step (h : OnI i s W F T) : OnI (i + 1) s W F T := { h with old := fun x hx => by have := h.old x hx; omega, wi := by have := h.wi; omega }
theorem OnI.objs (h : OnI i s W F T) : objsN s.q = s.q.length := by
  unfold objsN
  exact List.countP_eq_length.2 fun x hx => by simpa using h.src x hx
theorem OnI.take {x : T3} {q : List T3} (h : OnI i s W F T) (hq : s.q = x :: q) : OnI (i + 1) { s with q := q } W F (T + 1) := by
  obtain ⟨s1, ws, d, m⟩ := s
  simp only at hq
  subst hq
  have hk := h.keys
  have ho := h.old
  have hr := h.room
  have hf := h.f
  unfold keysP at hk ho
  simp only [List.map_cons, List.length_cons] at hk ho hr hf
  exact ⟨h.d, h.m, h.w, by simp only; omega, by simp only; omega, fun y hy => h.src y (List.mem_cons_of_mem _ hy), h.obs, by
    unfold keysP
    exact hk.sublist (List.Sublist.append_left (List.sublist_cons_self _ _) _), fun y hy => by
    unfold keysP at hy
    have := ho y (by
      rcases List.mem_append.1 hy with h1 | h1
      · exact List.mem_append.2 (.inl h1)
      · exact List.mem_append.2 (.inr (List.mem_cons_of_mem _ h1)))
    omega, by have := h.wi; omega⟩
theorem OnI.watch {o v : Int} (h : OnI i s W F T) (h1 : ¬ (o < 1 ∨ v = 0)) (h2 : ¬ s.m ≤ s.ws.length + objsN s.q) : OnI (i + 1) (addS s ⟨o, i, v⟩) (W + 1) F T := by
  have hm := h.m
  rw [h.objs] at h2
  have hw := h.w
  unfold addS
  refine ⟨h.d, h.m, ?_, h.f, ?_, h.src, ?_, ?_, ?_, ?_⟩
  · simp only [List.length_append, List.length_singleton]; omega
  · simp only [List.length_append, List.length_singleton]; omega
  · intro x hx
    simp only at hx
    rcases List.mem_append.1 hx with h3 | h3
    · exact h.obs x h3
    · obtain rfl := List.mem_singleton.1 h3
      simp only
      omega
  · have hk := h.keys
    unfold keysP at hk ⊢
    simp only [List.map_append, List.map_cons, List.map_nil]
    have hp : ((List.map (·.b) s.ws ++ [(i : Int)]) ++ List.map (·.a) s.q).Perm ((i : Int) :: (List.map (·.b) s.ws ++ List.map (·.a) s.q)) := by
      rw [List.append_assoc]
      exact List.perm_middle
    refine hp.nodup_iff.2 (List.nodup_cons.2 ⟨fun hx => ?_, hk⟩)
    have := h.old i hx
    omega
  · intro x hx
    have ho := h.old x
    unfold keysP at hx ho
    simp only [List.map_append, List.map_cons, List.map_nil, List.mem_append, List.mem_singleton] at hx ho
    rcases hx with (h3 | h3) | h3
    · have := ho (.inl h3); omega
    · omega
    · have := ho (.inr h3); omega
  · have := h.wi; omega
theorem OnI.tell (h : OnI i s W F T) (o v : Int) : OnI (i + 1) (tellS s o v).2 W (F + toldN s o v s.ws.length) T := by
  have hl := nots_len2 (firesP o v) s.ws
  unfold tellS toldQ toldN
  rw [List.take_length]
  have hw := h.w
  have hf := h.f
  have hr := h.room
  refine ⟨h.d, h.m, ?_, ?_, ?_, ?_, ?_, ?_, ?_, ?_⟩
  · simp only; omega
  · simp only [List.length_append, List.length_map]; omega
  · simp only [List.length_append, List.length_map]; omega
  · intro x hx
    simp only at hx
    rcases List.mem_append.1 hx with h3 | h3
    · exact h.src x h3
    · obtain ⟨y, hy, rfl⟩ := List.mem_map.1 h3
      obtain ⟨hy1, hy2⟩ := List.mem_filter.1 hy
      have := h.obs y hy1
      unfold firesP at hy2
      simp only [Bool.and_eq_true, beq_iff_eq] at hy2
      simp only
      omega
  · intro x hx
    exact h.obs x (List.mem_filter.1 hx).1
  · refine (keys_perm s o v).nodup_iff.2 h.keys
  · intro x hx
    have := h.old x ((keys_perm s o v).mem_iff.1 hx)
    omega
  · have := h.wi; omega
end
def iV (l : List Int) : List Value := l.map (Value.int .i64)
theorem iV_one (W : List Int) : ∀ u ∈ iV W, u.oneCell' = true := fun u hu => by
  obtain ⟨x, -, rfl⟩ := List.mem_map.1 hu
  rfl
theorem iV_app (W : List Int) (k : Int) : iV W ++ [Value.int .i64 k] = iV (W ++ [k]) := by simp [iV]
abbrev opsV (l : List (List Int)) : List Value := (l.map (·.map (Value.int .i64))).flatten
set_option maxRecDepth 8000 in
set_option maxHeartbeats 8000000 in
theorem once_walk (A : Option Addr) (c : Nat) (l : List (List Int)) (w : World) (hr : Reads w w.heap.size 4 A l.length (opsV l)) (hl4 : ∀ r ∈ l, r.length = 4 ∧ ∀ x ∈ r, (Lit.int .i64 x).wf = true) :
    Calls Try.prog 4 #[.slice A l.length c] w fun e w' => e = .returned (.bool true) ∧ Below w.heap.size w w' := by
  have HA := Lib.hid awake_any
  have hN := new_any (Star.nil w) 100 50 (by omega) (by omega) (by omega)
  rw [show ((50 : Nat) : Int) = 50 from rfl, show ((100 : Nat) : Int) = 100 from rfl] at hN
  have HN := Lib.hid hN
  clear hN
  by_cases hbig : 120 < l.length
  · clear hr
    have h4 : (120 : Int) < l.length := by omega
    generalize l.length = n at *
    go_enter Try.func4, Try.ntmps4
    go_wp2_with (first
      | (go_at_call 8; (with_reducible refine HN.out.mono ?_); rintro e w1 ⟨rfl, hs1⟩)
      | (go_at_call 9; (with_reducible refine (HA.out _).mono ?_); rintro e w2 ⟨rfl, hb2⟩))
    go_ret
    exact ⟨rfl, hs1.below.trans (hb2.mono hs1.below.size)⟩
  · have hl60' : l.length ≤ 120 := by omega
    have hl60 : (l.length : Int) ≤ 120 := by omega
    have HR := Lib.hid hr
    obtain ⟨i0, hi0, hz0, hz1, hz2⟩ := info_parts it_info
    clear hr hbig
    go_enter Try.func4, Try.ntmps4
    go_wp2_with (first
      | (go_at_call 8; (with_reducible refine HN.out.mono ?_); rintro e w1 ⟨rfl, hs1⟩
         have HS1 := Lib.hid hs1
         clear hs1))
    go_loopg [4, 5, 6, 32] l.length (fun gg s4 s5 s6 s32 wr => ∃ (k : Nat) (s : Po) (W F T : Nat), k ≤ l.length ∧ l.length - k ≤ gg ∧ s32 = .int .i64 k ∧ s4 = .int .i64 W ∧ s5 = .int .i64 F ∧ s6 = .int .i64 T ∧ Hid (OnI k s W F T) ∧ Hid (Star w wr [PtA w.heap.size s]))
    case atStart => exact ⟨0, ⟨[], [], 100, 50⟩, 0, 0, 0, by omega, by omega, rfl, rfl, rfl, rfl, Lib.hid OnI.nil, HS1⟩
    case round =>
      clear HS1 HN
      obtain ⟨k, s, W, F, T, hk, hg, rfl, rfl, rfl, rfl, HI, HS⟩ := hrel
      by_cases hlt : k < l.length
      · obtain ⟨hr4, hrw⟩ := hl4 l[k] (List.getElem_mem _)
        obtain ⟨ad, rfl, had, hcl⟩ := (HR.out.below HS.out.below).row (k := k) (r := l[k].map (Value.int .i64)) (fun r hr => by
          obtain ⟨r0, hr0, rfl⟩ := List.mem_map.1 hr
          rw [List.length_map]
          exact (hl4 r0 hr0).1) hlt (by simp [List.getElem?_eq_getElem hlt])
        obtain ⟨kd, oo, ok, on, hrow⟩ := four_of hr4
        rw [hrow] at hcl hrw
        simp only [List.map_cons, List.map_nil] at hcl
        have HCL := Lib.hid hcl
        have hkz : (k : Int) < l.length := by omega
        have hi := HI.out
        have hroom := hi.room
        have hwi := hi.wi
        have hb1 : F + s.ws.length = W := hi.w.symm
        have hb2 : T + s.q.length = F := hi.f.symm
        have c1 : (W : Int) ≤ 120 := by omega
        have c2 : (F : Int) ≤ 120 := by omega
        have c3 : (T : Int) ≤ 120 := by omega
        have c4 : F ≤ W := by omega
        have c5 : T ≤ F := by omega
        have hTk := fun (W' : World) (L : List Asr) (h : Star w W' (PtA w.heap.size s :: L)) => take_st h 0 rfl (by omega)
        have hWt := fun (W' : World) (L : List Asr) (h : Star w W' (PtA w.heap.size s :: L)) => watch_st h 0 rfl (by omega) (by omega) oo k on
        have hTl := fun (W' : World) (L : List Asr) (h : Star w W' (PtA w.heap.size s :: L)) => tell_st h 0 rfl (by omega) oo on
        simp only [List.set_cons_zero] at hTk hWt hTl
        have HTk := Lib.hid hTk
        have HWt := Lib.hid hWt
        have HTl := Lib.hid hTl
        clear hcl hrw hrow hr4 hi hb1 hb2 hTk hWt hTl
        go_upto_block 2 with (first
          | (with_reducible refine wpList_load_add rfl 36 (.tmp 35) rfl _ rfl [.int .i64 kd, .int .i64 oo, .int .i64 ok, .int .i64 on] _ HCL.out Try.underlying36 rfl (by kernel_rfl) ?_)
          | (with_reducible refine wpList_box_st rfl 36 (.tmp 8) (.tmp 36) rfl HS.out #[.int .i64 kd, .int .i64 oo, .int .i64 ok, .int .i64 on] rfl rfl (by kernel_rfl) rfl (by simp [Value.oneCell']) ?_
             intro W1 hs1
             have b0 : W1.cell? ⟨wr.heap.size, 0, none⟩ = some (.int .i64 kd) := (hs1.blk 0 rfl).cellv (i := 0) rfl
             have b1 : W1.cell? ⟨wr.heap.size, 1, none⟩ = some (.int .i64 oo) := (hs1.blk 0 rfl).cellv (i := 1) rfl
             have b3 : W1.cell? ⟨wr.heap.size, 3, none⟩ = some (.int .i64 on) := (hs1.blk 0 rfl).cellv (i := 3) rfl
             have HS1 := Lib.hid hs1.tail
             clear hs1))
        go_cut [4, 5, 6] (fun s4 s5 s6 wx => ∃ (s : Po) (W F T : Nat), s4 = .int .i64 W ∧ s5 = .int .i64 F ∧ s6 = .int .i64 T ∧ Hid (OnI (k + 1) s W F T) ∧ Hid (Star w wx [PtA w.heap.size s]))
        case first =>
          clear HS HCL
          by_cases hk2 : kd = 2
          · subst hk2
            have hI := HI.out
            rcases hq : s.q with _ | ⟨x, q⟩
            · have e : takeS s = (⟨0, 0, 0⟩, -22, s) := by unfold takeS; rw [hq]
              have HTk' := HTk.out
              rw [e] at HTk'
              unfold t3G at HTk'
              simp only at HTk'
              have HTk2 := Lib.hid HTk'
              clear HTk HTk' e hI hq
              go_wp2_with (first
                | (go_at_call 11; (with_reducible refine (HTk2.out _ _ HS1.out).mono ?_); rintro e w3 ⟨rfl, hs3⟩
                   have HS3 := Lib.hid (hs3.alloc (.cells #[.int .i64 0, .int .i64 0, .int .i64 0] 29))
                   clear hs3))
              go_meet
              case rel => exact ⟨s, W, F, T, rfl, rfl, rfl, Lib.hid HI.out.step, HS3⟩
            · have e : takeS s = (x, 0, { s with q := q }) := by unfold takeS; rw [hq]
              have HTk' := HTk.out
              rw [e] at HTk'
              unfold t3G at HTk'
              simp only at HTk'
              have HTk2 := Lib.hid HTk'
              have hx : (x.b != 0) = true := by have := hI.src x (by rw [hq]; exact List.mem_cons_self); simpa using this
              have HI2 := Lib.hid (hI.take hq)
              clear HTk HTk' e hI hq
              go_wp2_with (first
                | (go_at_call 11; (with_reducible refine (HTk2.out _ _ HS1.out).mono ?_); rintro e w3 ⟨rfl, hs3⟩
                   have HS3 := Lib.hid (hs3.alloc (.cells #[.int .i64 x.a, .int .i64 x.b, .int .i64 x.c] 29))
                   clear hs3))
              go_meet
              case rel => exact ⟨_, W, F, T + 1, rfl, rfl, by go_num, HI2, HS3⟩
          · have y2 : (kd == 2) = false := beq_eq_false_iff_ne.mpr hk2
            by_cases hk3 : kd = 3
            · subst hk3
              have hI := HI.out
              have HWt' := HWt.out
              by_cases h1 : oo < 1 ∨ on = 0
              · have e : watchS s oo k on = (-10, s) := by unfold watchS; rw [if_pos h1]
                rw [e] at HWt'
                have HWt2 := Lib.hid HWt'
                clear HWt HWt' e hI h1 hk2
                go_wp2_with (first
                  | (go_at_call 13; (with_reducible refine (HWt2.out _ _ HS1.out).mono ?_); rintro e w3 ⟨rfl, hs3⟩
                     have HS3 := Lib.hid hs3
                     clear hs3))
                go_meet
                case rel => exact ⟨s, W, F, T, rfl, rfl, rfl, Lib.hid HI.out.step, HS3⟩
              · by_cases h2 : s.m ≤ s.ws.length + objsN s.q
                · have e : watchS s oo k on = (-4, s) := by unfold watchS; rw [if_neg h1, if_pos h2]
                  rw [e] at HWt'
                  have HWt2 := Lib.hid HWt'
                  clear HWt HWt' e hI h1 h2 hk2
                  go_wp2_with (first
                    | (go_at_call 13; (with_reducible refine (HWt2.out _ _ HS1.out).mono ?_); rintro e w3 ⟨rfl, hs3⟩
                       have HS3 := Lib.hid hs3
                       clear hs3))
                  go_meet
                  case rel => exact ⟨s, W, F, T, rfl, rfl, rfl, Lib.hid HI.out.step, HS3⟩
                · have e : watchS s oo k on = (0, addS s ⟨oo, k, on⟩) := by unfold watchS; rw [if_neg h1, if_neg h2]
                  rw [e] at HWt'
                  have HWt2 := Lib.hid HWt'
                  have HI2 := Lib.hid (hI.watch h1 h2)
                  clear HWt HWt' e hI h1 h2 hk2
                  go_wp2_with (first
                    | (go_at_call 13; (with_reducible refine (HWt2.out _ _ HS1.out).mono ?_); rintro e w3 ⟨rfl, hs3⟩
                       have HS3 := Lib.hid hs3
                       clear hs3))
                  go_meet
                  case rel => exact ⟨_, W + 1, F, T, by go_num, rfl, rfl, HI2, HS3⟩
            · have y3 : (kd == 3) = false := beq_eq_false_iff_ne.mpr hk3
              by_cases hk4 : kd = 4
              · subst hk4
                have hI2 := HI.out.tell oo on
                have hT0 : toldN s oo on s.ws.length ≤ s.ws.length := toldN_le s oo on _
                have HTl' := HTl.out
                have e1 : (tellS s oo on).1 = ((toldN s oo on s.ws.length : Nat) : Int) := rfl
                rw [e1] at HTl'
                generalize toldN s oo on s.ws.length = tn at *
                have HTl2 := Lib.hid HTl'
                have HI2 := Lib.hid hI2
                have tb : (tn : Int) ≤ 50 := by omega
                clear HTl HTl' hI2 e1 hk2 hk3
                go_wp2_with (first
                  | (go_at_call 14; (with_reducible refine (HTl2.out _ _ HS1.out).mono ?_); rintro e w3 ⟨rfl, hs3⟩
                     have HS3 := Lib.hid hs3
                     clear hs3))
                go_meet
                case rel => exact ⟨_, W, F + tn, T, rfl, by go_num, rfl, HI2, HS3⟩
              · have y4 : (kd == 4) = false := beq_eq_false_iff_ne.mpr hk4
                clear hk2 hk3 hk4
                go_wp2
                go_meet
                case rel => exact ⟨s, W, F, T, rfl, rfl, rfl, Lib.hid HI.out.step, HS1⟩
        case rest =>
          clear HS HCL HI HTk HWt HTl HS1 b0 b1 b3 hroom hwi c1 c2 c3 c4 c5
          obtain ⟨s, W, F, T, rfl, rfl, rfl, HI, HS⟩ := hcut
          have hi := HI.out
          have hroom := hi.room
          obtain ⟨n, en⟩ : ∃ n, s.q.length = n := ⟨_, rfl⟩
          have HN := Lib.hid en
          have hob := hi.objs
          have hw0 := hi.w
          have hf0 := hi.f
          have hwi := hi.wi
          have hkeys : (s.q.map (·.a)).Nodup := (List.nodup_append.1 hi.keys).2.1
          have HKY := Lib.hid hkeys
          have HSRC := Lib.hid hi.src
          rw [en] at hroom hf0
          have hP := fun (W' : World) (L : List Asr) (h : Star w W' (PtA w.heap.size s :: L)) => packets_st h 0 rfl (by omega)
          rw [en] at hP
          have HP := Lib.hid hP
          have hWa := fun (W' : World) (Z : Asr) (L : List Asr) (h : Star w W' (Z :: PtA w.heap.size s :: L)) => watches_st h 1 rfl
          obtain ⟨m, em⟩ : ∃ m, s.ws.length = m := ⟨_, rfl⟩
          rw [em] at hWa hw0 hroom
          have HWa := Lib.hid hWa
          have z1 : ((m : Int) != (W : Int) - F) = false := bne_eq_false_iff_eq.mpr (by omega)
          have z2 : ((n : Int) != (F : Int) - T) = false := bne_eq_false_iff_eq.mpr (by omega)
          have c0 : (W : Int) ≤ 120 := by omega
          have c1 : (F : Int) ≤ W := by omega
          have c2 : (T : Int) ≤ F := by omega
          have c3 : (m : Int) + n ≤ 50 := by omega
          have c4 : (n : Int) ≤ 50 := by omega
          have c5 : n ≤ 50 := by omega
          have c6 : (m : Int) ≤ 50 := by omega
          clear hi en em hroom hob hw0 hf0 hwi hkeys hP hWa
          go_wp2_with (first
            | (go_at_call 15; (with_reducible refine (HP.out _ _ HS.out).mono ?_); rintro e w7 ⟨v7, rfl, hs7⟩
               obtain ⟨A7, c7, rfl⟩ := (hs7.rowO 0 rfl).len
               have HS7 : Hid (Star w w7 [RowO 29 3 (.slice A7 n c7) n (t3V s.q), PtA w.heap.size s, RowO 3 1 (.slice none 0 0) 0 (iV [])]) := Lib.hid ((((hs7.nilO 3 1).pick 2 rfl).pick 2 rfl))
               clear hs7))
          go_loopw [11, 12, 80] (fun s11 s12 s80 wx => ∃ (j : Nat) (A6 : Option Addr) (c6 : Nat), j ≤ n ∧ s80 = .int .i64 j ∧ s11 = .int .i64 j ∧ s12 = .slice A6 j c6 ∧ Hid (Star w wx [RowO 29 3 (.slice A7 n c7) n (t3V s.q), PtA w.heap.size s, RowO 3 1 (.slice A6 j c6) j (iV ((s.q.take j).map (·.a)))])) (fun _ _ s80 _ => n - (intOf s80).toNat)
          case atStart => exact ⟨0, none, 0, by omega, rfl, rfl, rfl, HS7⟩
          case round =>
            clear HS HS7
            obtain ⟨j, A6, cc6, hj, rfl, rfl, rfl, HS⟩ := hrel
            by_cases hjn : j < n
            · obtain ⟨x, hx⟩ : ∃ x, s.q[j]? = some x := ⟨_, List.getElem?_eq_getElem (by rw [HN.out]; omega)⟩
              obtain ⟨g7, o7, cc7, hv7, -, -, hnc7⟩ := (HS.out.rowO 0 rfl).form (by omega)
              simp only [Value.slice.injEq, true_and] at hv7
              obtain ⟨rfl, rfl⟩ := hv7
              obtain ⟨r0, r1, r2⟩ := at3 (HS.out.rowO 0 rfl) HN.out.symm hx
              have H5 := Lib.hid (HS.out.alloc (.cells #[.int .i64 x.a, .int .i64 x.b, .int .i64 x.c] 29))
              have hxb : (x.b == 0) = false := beq_eq_false_iff_ne.mpr (HSRC.out x (List.mem_of_getElem? hx))
              have hjz : (j : Int) < n := by omega
              have hnew : ∀ i (hi : i < j), ∀ y, (s.q.map (·.a))[i]? = some y → (y == x.a) = false := fun i hi y hy => by
                refine beq_eq_false_iff_ne.mpr fun e => ?_
                have h1 : (s.q.map (·.a))[j]? = some x.a := by rw [List.getElem?_map, hx]; rfl
                subst e
                have := (List.getElem?_inj (by rw [List.length_map, HN.out]; omega) HKY.out).1 (hy.trans h1.symm)
                omega
              have HNEW := Lib.hid hnew
              have hsnoc : (s.q.take (j + 1)).map (·.a) = (s.q.take j).map (·.a) ++ [x.a] := by
                obtain ⟨h1, h2⟩ := List.getElem?_eq_some_iff.1 hx
                rw [List.take_succ_eq_append_getElem h1, h2, List.map_append]
                rfl
              have HSN := Lib.hid hsnoc
              clear hnew hsnoc hx HS
              go_wp2
              go_loopw [91] (fun s91 wy => ∃ i : Nat, i ≤ j ∧ s91 = .int .i64 i ∧ wy = (wr.alloc (.cells #[.int .i64 x.a, .int .i64 x.b, .int .i64 x.c] 29))) (fun s91 _ => j - (intOf s91).toNat)
              case atStart => exact ⟨0, by omega, rfl, rfl⟩
              case round =>
                obtain ⟨i, hij, rfl, rfl⟩ := hrel
                by_cases hlt2 : i < j
                · obtain ⟨g6, o6, cp6, hv6, -, -, hnc6⟩ := (H5.out.rowO 2 rfl).form (by omega)
                  simp only [Value.slice.injEq, true_and] at hv6
                  obtain ⟨rfl, rfl⟩ := hv6
                  obtain ⟨y, hy⟩ : ∃ y, (s.q.map (·.a))[i]? = some y := ⟨_, List.getElem?_eq_getElem (by rw [List.length_map, HN.out]; omega)⟩
                  have d6 := (H5.out.rowO 2 rfl).cellAt i (by omega)
                  have e6 : (iV ((s.q.take j).map (·.a)))[i]? = some (.int .i64 y) := by
                    unfold iV
                    rw [List.getElem?_map, List.map_take, List.getElem?_take, if_pos hlt2, hy]
                    rfl
                  rw [e6] at d6
                  have hne := HNEW.out i hlt2 y hy
                  have hiz : (i : Int) < j := by omega
                  clear hy e6
                  go_wp2
                  go_roundw
                  case rel => exact ⟨i + 1, by omega, by go_num, by first | rfl | trivial⟩
                  case measure => simp [intOf]; omega
                · obtain rfl : i = j := by omega
                  have hlt' : ¬ ((i : Int) < i) := by omega
                  have hi50 : (i : Int) ≤ 50 := by omega
                  clear hlt2
                  go_wp2_with (first
                    | (at_builtin; refine wpList_append_so rfl (.tmp 100) (.tmp 103) 22 rfl (H5.out.alloc _) 2 rfl i0 _ 8 Try.underlying22 hi0 hz0 hz1 hz2 rfl (by omega) (by rfl) _ (some ⟨_, 0, none⟩) 1 1 [.int .i64 x.a] (by rfl) (reads_fresh_at _ 3 [.int .i64 x.a] 1 1 _ rfl (by simp)) (iV_one [x.a]) (by simp only [maxLen]; omega) (by omega) ?_
                       intro v8 w8 hs8
                       simp only [List.set_cons_zero, List.set_cons_succ] at hs8
                       obtain ⟨A8, c8, rfl⟩ := (hs8.rowO 2 rfl).len
                       have HS8 := Lib.hid hs8
                       clear hs8))
                  go_roundw
                  case rel =>
                    have h8 := HS8.out
                    rw [iV_app, ← HSN.out] at h8
                    exact ⟨i + 1, A8, c8, by omega, by go_num, by go_num, rfl, Lib.hid h8⟩
                  case measure => simp [intOf]; omega
            · obtain rfl : j = n := by omega
              have hlt' : ¬ ((j : Int) < j) := by omega
              clear hjn
              go_wp2_with (first
                | (go_at_call 16; (with_reducible refine (HWa.out _ _ _ HS.out).mono ?_); rintro e w9 ⟨rfl, rfl⟩))
              go_roundg (l.length - (k + 1))
              case measure => omega
              case rel => exact ⟨k + 1, s, W, F, T, by omega, by omega, by go_num, rfl, rfl, rfl, HI, Lib.hid (HS.out.tail.perm (List.Perm.swap _ _ _)).tail⟩
      · obtain rfl : k = l.length := by omega
        have hlt' : ¬ ((l.length : Int) < l.length) := by omega
        clear hlt
        go_wp2_with (first
          | (go_at_call 9; (with_reducible refine (HA.out _).mono ?_); rintro e w6 ⟨rfl, hb6⟩))
        go_ret
        exact ⟨rfl, HS.out.below.trans (hb6.mono HS.out.below.size)⟩
theorem once_row (A : Option Addr) (c : Nat) (l : List (List Int)) (w : World) (hr : Reads w w.heap.size 4 A l.length (opsV l)) (hm : l.length ≤ maxLen) (hl4 : ∀ r ∈ l, r.length = 4 ∧ ∀ x ∈ r, (Lit.int .i64 x).wf = true) :
    Calls Try.prog 4 #[.slice A l.length c] w fun e w' => e = .returned (.bool true) ∧ Below w.heap.size w w' := once_walk A c l w hr hl4
end Go.Proofs.Ytjkgkoilabbdgaa.Pt
