/- The port: Tell. -/
import Derived.Test.YtjkgkoilabbdgaaPtH
namespace Go.Proofs.Ytjkgkoilabbdgaa.Pt
open Go Go.RowKit Go.Proofs.Ytjkgkoilabbdgaa.Mem
set_option linter.unusedVariables false
set_option linter.unusedSimpArgs false
def toldQ (s : Po) (ob sh : Int) (k : Nat) : List T3 := s.q ++ ((s.ws.take k).filter (firesP ob sh)).map (fun x => ⟨x.b, ob, sh⟩)
def toldN (s : Po) (ob sh : Int) (k : Nat) : Nat := ((s.ws.take k).filter (firesP ob sh)).length
abbrev jt (bs bn bo bm bp : Nat) (s : Po) (ob sh : Int) (v : Value) (k : Nat) (v0 : Value) : List Asr :=
  [BlkA bs 62 (ptC { s with q := toldQ s ob sh k } (v0, v)), RowO 29 3 v0 (toldQ s ob sh k).length (t3V (toldQ s ob sh k)), BlkA bn 3 #[.int .i64 (toldN s ob sh k)], BlkA bo 3 #[.int .i64 ob], BlkA bm 38 #[.int .i64 sh], BlkA bp 23 #[.pointer (some ⟨bs, 0, none⟩)]]
def JT (bs bn bo bm bp : Nat) (s : Po) (ob sh : Int) (v : Value) (k : Nat) : Asr := ExA fun v0 => Grp (jt bs bn bo bm bp s ob sh v k v0)
theorem told_step {s : Po} {ob sh : Int} {k : Nat} {x : T3} (hx : s.ws[k]? = some x) :
    toldQ s ob sh (k + 1) = toldQ s ob sh k ++ (if firesP ob sh x then [⟨x.b, ob, sh⟩] else []) ∧ toldN s ob sh (k + 1) = toldN s ob sh k + (if firesP ob sh x then 1 else 0) := by
  obtain ⟨hj, e⟩ := List.getElem?_eq_some_iff.1 hx
  unfold toldQ toldN
  rw [List.take_succ_eq_append_getElem hj, List.filter_append, e]
  cases h : firesP ob sh x <;> simp [h]
theorem toldQ_len (s : Po) (ob sh : Int) (k : Nat) : (toldQ s ob sh k).length ≤ s.q.length + s.ws.length := by
  unfold toldQ
  rw [List.length_append, List.length_map]
  have := List.length_filter_le (firesP ob sh) (s.ws.take k)
  have := List.length_take_le k s.ws
  have : (s.ws.take k).length ≤ s.ws.length := by rw [List.length_take]; omega
  omega
theorem toldN_le (s : Po) (ob sh : Int) (k : Nat) : toldN s ob sh k ≤ s.ws.length := by
  unfold toldN
  have := List.length_filter_le (firesP ob sh) (s.ws.take k)
  have : (s.ws.take k).length ≤ s.ws.length := by rw [List.length_take]; omega
  omega
theorem eg31 : ∀ args W, (callFunc 31 args).run Try.prog W = .ok (.enter 31 args) W := enters_of Try.func31 (by kernel_rfl) rfl
theorem own_len3 {w : World} {base n : Nat} {e : TypeId} {v : Value} {l : List T3} (h : OwnO w base e 3 v n (t3V l)) : n = l.length := by
  have := h.1
  rw [t3V_len] at this
  omega
section
variable {w0 w : World} {S : List Asr} {bs : Nat} {s : Po} {t : Value × Value}
theorem jt_in {A Q R A1 A2 A3 A4 : Asr} (h : Star w0 w (A :: Q :: A1 :: A2 :: A3 :: A4 :: R :: S)) : Star w0 w (A :: Q :: R :: A1 :: A2 :: A3 :: A4 :: S) :=
  h.perm (List.Perm.cons A (List.Perm.cons Q (List.Perm.append_right S (List.perm_append_comm (l₁ := [A1, A2, A3, A4]) (l₂ := [R])))))
theorem jt_out {A Q R A1 A2 A3 A4 : Asr} (h : Star w0 w (A :: Q :: R :: A1 :: A2 :: A3 :: A4 :: S)) : Star w0 w (A :: Q :: A1 :: A2 :: A3 :: A4 :: R :: S) :=
  h.perm (List.Perm.cons A (List.Perm.cons Q (List.Perm.append_right S (List.perm_append_comm (l₁ := [R]) (l₂ := [A1, A2, A3, A4])))))
theorem drop4 {A Q R A1 A2 A3 A4 : Asr} (h : Star w0 w (A :: Q :: R :: A1 :: A2 :: A3 :: A4 :: S)) : Star w0 w (A :: Q :: R :: S) :=
  (h.perm ((List.perm_append_comm (l₁ := [A, Q, R]) (l₂ := [A1, A2, A3, A4])).append_right S)).tail.tail.tail.tail
theorem swap2 {A B : Asr} (h : Star w0 w (A :: B :: S)) : Star w0 w (B :: A :: S) := h.perm (List.Perm.swap B A S)
theorem tell1_at {bn bo bm bp : Nat} {ob sh : Int} {v : Value} {n : Nat} (hn : n = s.ws.length) (hq : s.q.length + s.ws.length ≤ 1000) (k : Nat) (x : T3) (hx : s.ws[k]? = some x) (W : World) (l' : List T3) (S : List Asr)
    (h : Star w0 W (RowO 67 3 v n (t3V l') :: JT bs bn bo bm bp s ob sh v k :: S)) :
    Calls Try.prog 31 (#[t3G x] ++ #[.pointer (some ⟨bo, 0, none⟩), .pointer (some ⟨bm, 0, none⟩), .pointer (some ⟨bp, 0, none⟩), .pointer (some ⟨bn, 0, none⟩)]) W fun r W' => r = .returned (.bool (firesP ob sh x)) ∧ Star w0 W' (RowO 67 3 v n (t3V l') :: JT bs bn bo bm bp s ob sh v (k + 1) :: S) := by
  have hl := own_len3 (h.rowO 0 rfl)
  obtain ⟨v0, h2⟩ := Star.exOpen (Q := jt bs bn bo bm bp s ob sh v k) (swap2 h)
  have h3 := jt_in h2
  rw [hl] at h3
  have hql := toldQ_len s ob sh k
  have hnl := toldN_le s ob sh k
  refine (tell1_core (s := ⟨toldQ s ob sh k, l', s.d, s.m⟩) (t := (v0, v)) h3 (by show (toldQ s ob sh k).length ≤ 1000; omega) (by omega) (by omega) x).mono ?_
  rintro r w1 ⟨rfl, v1, hs⟩
  refine ⟨rfl, swap2 (Star.exClose (Q := jt bs bn bo bm bp s ob sh v (k + 1)) v1 (jt_out ?_))⟩
  obtain ⟨e1, e2⟩ := told_step (ob := ob) (sh := sh) hx
  rw [hl]
  by_cases hp : firesP ob sh x = true
  · rw [hp] at hs e1 e2
    simp only [if_true] at hs e1 e2
    rw [e1, e2]
    exact hs
  · have hp' : firesP ob sh x = false := by simpa using hp
    rw [hp'] at hs e1 e2
    simp only [Bool.false_eq_true, if_false, List.append_nil, Nat.add_zero] at hs e1 e2
    rw [e1, e2]
    exact hs
def tellS (s : Po) (ob sh : Int) : Int × Po := (toldN s ob sh s.ws.length, ⟨toldQ s ob sh s.ws.length, nots (firesP ob sh) s.ws, s.d, s.m⟩)
set_option maxHeartbeats 4000000 in
theorem tell_any (h : Star w0 w (pt bs s t ++ S)) (hq : s.q.length + s.ws.length ≤ 1000) (ob sh : Int) : Calls Try.prog 14 #[.pointer (some ⟨bs, 0, none⟩), .int .i64 ob, .int .i64 sh] w fun r w' => r = .returned (.int .i64 (tellS s ob sh).1) ∧ ∃ t', Star w0 w' (pt bs (tellS s ob sh).2 t' ++ S) := by
  obtain ⟨t0, t2⟩ := t
  obtain ⟨-, ⟨A, c, hv⟩⟩ := pt_rows h
  simp only at hv
  subst hv
  obtain ⟨n, en⟩ : ∃ n, n = s.ws.length := ⟨_, rfl⟩
  have EN := Lib.hid en
  have h1 := (((h.newBlk 23 #[.pointer (some ⟨bs, 0, none⟩)]).newBlk 3 #[.int .i64 ob]).newBlk 38 #[.int .i64 sh]).newBlk 3 #[.int .i64 0]
  have sz : ∀ (w : World) (o : Obj), (w.alloc o).heap.size = w.heap.size + 1 := fun w o => by show (w.heap.push o).size = _; simp
  simp only [sz, Nat.add_assoc, Nat.reduceAdd] at h1
  have h2 : Star w0 _ (BlkA (w.heap.size + 3) 3 #[.int .i64 0] :: BlkA (w.heap.size + 2) 38 #[.int .i64 sh] :: BlkA (w.heap.size + 1) 3 #[.int .i64 ob] :: BlkA w.heap.size 23 #[.pointer (some ⟨bs, 0, none⟩)] :: BlkA bs 62 (ptC s (t0, .slice A s.ws.length c)) :: RowO 29 3 t0 s.q.length (t3V s.q) :: RowO 67 3 (.slice A s.ws.length c) s.ws.length (t3V s.ws) :: S) := star_dr h1
  rw [← en] at h2
  have hp : Star w0 (((((w.alloc (.cells #[.pointer (some ⟨bs, 0, none⟩)] 23)).alloc (.cells #[.int .i64 ob] 3)).alloc (.cells #[.int .i64 sh] 38)).alloc (.cells #[.int .i64 0] 3)).drew) (RowO 67 3 (.slice A n c) n (t3V s.ws) :: JT bs (w.heap.size + 3) (w.heap.size + 1) (w.heap.size + 2) w.heap.size s ob sh (.slice A n c) 0 :: S) := by
    refine swap2 (Star.exClose (Q := jt bs (w.heap.size + 3) (w.heap.size + 1) (w.heap.size + 2) w.heap.size s ob sh (.slice A n c) 0) t0 ?_)
    have e1 : toldQ s ob sh 0 = s.q := by simp [toldQ]
    have e2 : toldN s ob sh 0 = 0 := by simp [toldN]
    show Star w0 _ (BlkA bs 62 (ptC { s with q := toldQ s ob sh 0 } (t0, .slice A n c)) :: RowO 29 3 t0 (toldQ s ob sh 0).length (t3V (toldQ s ob sh 0)) :: BlkA (w.heap.size + 3) 3 #[.int .i64 (toldN s ob sh 0)] :: BlkA (w.heap.size + 1) 3 #[.int .i64 ob] :: BlkA (w.heap.size + 2) 38 #[.int .i64 sh] :: BlkA w.heap.size 23 #[.pointer (some ⟨bs, 0, none⟩)] :: RowO 67 3 (.slice A n c) n (t3V s.ws) :: S)
    rw [e1, e2]
    have p1 : ∀ {a b c d e f g : Asr}, ([a, b, c, d, e, f, g] : List Asr).Perm [e, f, a, c, b, d, g] := fun {a b c d e f g} =>
      (List.perm_append_comm (l₁ := [a, b, c, d]) (l₂ := [e, f]) |>.append_right [g]).trans (List.Perm.cons e (List.Perm.cons f (List.Perm.cons a (List.Perm.swap c b [d, g]))))
    exact h2.perm (p1.append_right S)
  have HD := Lib.hid (delete_w (J := JT bs (w.heap.size + 3) (w.heap.size + 1) (w.heap.size + 2) w.heap.size s ob sh (.slice A n c)) 31 eg31 #[.pointer (some ⟨w.heap.size + 1, 0, none⟩), .pointer (some ⟨w.heap.size + 2, 0, none⟩), .pointer (some ⟨w.heap.size, 0, none⟩), .pointer (some ⟨w.heap.size + 3, 0, none⟩)] (firesP ob sh) hp en (by omega) (tell1_at en hq))
  have k1 : (((((w.alloc (.cells #[.pointer (some ⟨bs, 0, none⟩)] 23)).alloc (.cells #[.int .i64 ob] 3)).alloc (.cells #[.int .i64 sh] 38)).alloc (.cells #[.int .i64 0] 3)).drew).cell? ⟨bs, 1, none⟩ = some (.slice A n c) := (h2.blk 4 rfl).cellv (i := 1) rfl
  have hnn : n ≤ 1000 := by omega
  clear h h1 hp en
  go_enter Try.func14, Try.ntmps14
  go_wp2
  go_region_with (first
    | (go_at_call 30; (with_reducible refine HD.out.mono ?_); rintro e w2 ⟨v3, rfl, hs2⟩
       obtain ⟨v0, hs3⟩ := Star.exOpen (swap2 hs2)
       obtain ⟨A3, c3, rfl⟩ := (hs3.rowO 6 rfl).len
       have q0 : w2.cell? ⟨w.heap.size, 0, none⟩ = some (.pointer (some ⟨bs, 0, none⟩)) := (hs3.blk 5 rfl).cellv (i := 0) rfl
       have q3 : w2.cell? ⟨bs, 1, none⟩ = some (.slice A n c) := (hs3.blk 0 rfl).cellv (i := 1) rfl
       have q4 := (hs3.blk 0 rfl).frozen 1
       have hs4 := hs3.setBlk 0 rfl 1 (.slice A3 (nots (firesP ob sh) s.ws).length c3)
       have kn : (w2.setCell ⟨bs, 1, none⟩ (.slice A3 (nots (firesP ob sh) s.ws).length c3)).cell? ⟨w.heap.size + 1 + 1 + 1, 0, none⟩ = some (.int .i64 (toldN s ob sh n)) := (hs4.blk 2 rfl).cellv (i := 0) rfl
       have HS4 := Lib.hid hs4
       clear hs2 hs3 hs4))
  all_goals
    go_wp2
    go_ret
    have e1 : toldN s ob sh n = toldN s ob sh s.ws.length := by rw [EN.out]
    refine ⟨by rw [e1]; rfl, (v0, .slice A3 (nots (firesP ob sh) s.ws).length c3), ?_⟩
    have h5 := jt_in HS4.out
    have h7 := drop4 h5
    rw [EN.out] at h7
    exact h7
end
end Go.Proofs.Ytjkgkoilabbdgaa.Pt
