/- Doubly linked queues, in plain lists: what the links say, and that tying keeps it. No program in sight. -/
import Derived.Test.YtfahhjbbbimjfaaMem
namespace Go.Proofs.Ytfahhjbbbimjfaa.Li
set_option linter.unusedVariables false
structure Qn where
  f : Int
  l : Int
  c : Int
structure Lk where
  q : Int
  n : Int
  p : Int
def nq : Qn := ⟨-1, -1, 0⟩
def nl : Lk := ⟨-1, -1, -1⟩
def gL (ls : List Lk) (z : Int) : Lk := ls.getD z.toNat nl
def gQ (qs : List Qn) (q : Nat) : Qn := qs.getD q nq
def setNx (ls : List Lk) (z n : Int) : List Lk := ls.set z.toNat ⟨(gL ls z).q, n, (gL ls z).p⟩
def setPv (ls : List Lk) (z p : Int) : List Lk := ls.set z.toNat ⟨(gL ls z).q, (gL ls z).n, p⟩
def setF (qs : List Qn) (q : Nat) (f : Int) : List Qn := qs.set q ⟨f, (gQ qs q).l, (gQ qs q).c⟩
def setLa (qs : List Qn) (q : Nat) (l : Int) : List Qn := qs.set q ⟨(gQ qs q).f, l, (gQ qs q).c⟩
def addC (qs : List Qn) (q : Nat) (d : Int) : List Qn := qs.set q ⟨(gQ qs q).f, (gQ qs q).l, (gQ qs q).c + d⟩
def lsT (ls : List Lk) (prev next : Int) : List Lk :=
  if next = -1 then (if prev = -1 then ls else setNx ls prev next) else setPv (if prev = -1 then ls else setNx ls prev next) next prev
def qsT (qs : List Qn) (q : Nat) (prev next : Int) : List Qn :=
  if next = -1 then setLa (if prev = -1 then setF qs q next else qs) q prev else (if prev = -1 then setF qs q next else qs)
def hdI : List Nat → Int → Int
  | [], n => n
  | y :: _, _ => y
def lsI : Int → List Nat → Int
  | p, [] => p
  | _, x :: l => lsI x l
/-- A piece of queue q: what stands ahead of it, its items, what stands behind. -/
def Seg (ls : List Lk) (q : Nat) : Int → List Nat → Int → Prop
  | _, [], _ => True
  | p, x :: l, n => ls[x]? = some ⟨q, hdI l n, p⟩ ∧ Seg ls q x l n
theorem Seg.frame {ls ls' : List Lk} {q : Nat} : ∀ {l : List Nat} {p n : Int}, Seg ls q p l n → (∀ x ∈ l, ls'[x]? = ls[x]?) → Seg ls' q p l n
  | [], _, _, _, _ => trivial
  | x :: l, p, n, ⟨h1, h2⟩, hf => ⟨(hf x (by simp)).trans h1, h2.frame fun y hy => hf y (by simp [hy])⟩
theorem hdI_append (a b : List Nat) (n : Int) : hdI (a ++ b) n = hdI a (hdI b n) := by cases a <;> rfl
theorem lsI_append : ∀ (a b : List Nat) (p : Int), lsI p (a ++ b) = lsI (lsI p a) b
  | [], _, _ => rfl
  | x :: a, b, _ => lsI_append a b x
theorem seg_append {ls : List Lk} {q : Nat} : ∀ {a b : List Nat} {p n : Int}, Seg ls q p (a ++ b) n ↔ Seg ls q p a (hdI b n) ∧ Seg ls q (lsI p a) b n
  | [], b, p, n => by simp [Seg, lsI]
  | x :: a, b, p, n => by
    simp only [List.cons_append, Seg, lsI, hdI_append]
    rw [seg_append]
    constructor
    · rintro ⟨h1, h2, h3⟩; exact ⟨⟨h1, h2⟩, h3⟩
    · rintro ⟨⟨h1, h2⟩, h3⟩; exact ⟨h1, h2, h3⟩
theorem Seg.mem {ls : List Lk} {q : Nat} : ∀ {l : List Nat} {p n : Int}, Seg ls q p l n → ∀ x ∈ l, ∃ n' p', ls[x]? = some ⟨q, n', p'⟩
  | y :: l, p, n, ⟨h1, h2⟩, x, hx => by
    rcases List.mem_cons.1 hx with rfl | hx
    · exact ⟨_, _, h1⟩
    · exact h2.mem x hx
theorem Seg.lt {ls : List Lk} {q : Nat} {l : List Nat} {p n : Int} (h : Seg ls q p l n) {x : Nat} (hx : x ∈ l) : x < ls.length := by
  obtain ⟨_, _, h1⟩ := h.mem x hx
  exact (List.getElem?_eq_some_iff.1 h1).1
theorem hdI_mem {b : List Nat} {n : Int} (h : b ≠ []) : ∃ y : Nat, hdI b n = y ∧ y ∈ b := by
  cases b with
  | nil => exact absurd rfl h
  | cons y b => exact ⟨y, rfl, by simp⟩
theorem lsI_mem : ∀ {a : List Nat} {p : Int}, a ≠ [] → ∃ y : Nat, lsI p a = y ∧ y ∈ a
  | [], _, h => absurd rfl h
  | [x], _, _ => ⟨x, rfl, by simp⟩
  | x :: y :: a, _, _ => by
    obtain ⟨z, h1, h2⟩ := lsI_mem (a := y :: a) (p := x) (by simp)
    exact ⟨z, h1, by simp at h2 ⊢; exact .inr h2⟩
theorem lsI_nil {a : List Nat} : lsI (-1) a = -1 ↔ a = [] := by
  constructor
  · intro h
    by_cases e : a = []
    · exact e
    · obtain ⟨y, h1, _⟩ := lsI_mem (p := -1) e
      omega
  · rintro rfl; rfl
theorem hdI_nil {a : List Nat} : hdI a (-1) = -1 ↔ a = [] := by
  cases a with
  | nil => simp [hdI]
  | cons x a => simp [hdI]
theorem gL_at {ls : List Lk} {x : Nat} {k : Lk} (h : ls[x]? = some k) : gL ls (x : Int) = k := by
  unfold gL
  rw [Int.toNat_natCast, List.getD_eq_getElem?_getD, h]
  rfl
theorem gQ_at {qs : List Qn} {x : Nat} {k : Qn} (h : qs[x]? = some k) : gQ qs x = k := by
  unfold gQ
  rw [List.getD_eq_getElem?_getD, h]
  rfl
theorem setNx_ne {ls : List Lk} {z : Nat} {n : Int} {x : Nat} (h : x ≠ z) : (setNx ls (z : Int) n)[x]? = ls[x]? := by
  unfold setNx
  rw [Int.toNat_natCast, List.getElem?_set_ne (fun e => h e.symm)]
theorem setPv_ne {ls : List Lk} {z : Nat} {n : Int} {x : Nat} (h : x ≠ z) : (setPv ls (z : Int) n)[x]? = ls[x]? := by
  unfold setPv
  rw [Int.toNat_natCast, List.getElem?_set_ne (fun e => h e.symm)]
theorem setNx_eq {ls : List Lk} {z : Nat} {n : Int} {k : Lk} (h : ls[z]? = some k) : (setNx ls (z : Int) n)[z]? = some ⟨k.q, n, k.p⟩ := by
  unfold setNx
  rw [Int.toNat_natCast, gL_at h, List.getElem?_set_self (List.getElem?_eq_some_iff.1 h).1]
theorem setPv_eq {ls : List Lk} {z : Nat} {n : Int} {k : Lk} (h : ls[z]? = some k) : (setPv ls (z : Int) n)[z]? = some ⟨k.q, k.n, n⟩ := by
  unfold setPv
  rw [Int.toNat_natCast, gL_at h, List.getElem?_set_self (List.getElem?_eq_some_iff.1 h).1]
/-- The last one's next is turned. -/
theorem Seg.next {ls : List Lk} {q : Nat} : ∀ {a : List Nat} {p n : Int} (n' : Int), Seg ls q p a n → a.Nodup → a ≠ [] → Seg (setNx ls (lsI p a) n') q p a n'
  | [x], p, n, n', ⟨h1, _⟩, _, _ => ⟨by have := setNx_eq (n := n') h1; simpa [lsI, hdI] using this, trivial⟩
  | x :: y :: a, p, n, n', ⟨h1, h2⟩, hd, _ => by
    obtain ⟨hx, hd2⟩ := List.nodup_cons.1 hd
    have h3 := h2.next n' hd2 (by simp)
    refine ⟨?_, h3⟩
    obtain ⟨z, hz, hzm⟩ := lsI_mem (a := y :: a) (p := x) (by simp)
    show (setNx ls (lsI x (y :: a)) n')[x]? = _
    rw [hz, setNx_ne (fun e => by subst e; exact hx hzm), h1]
    rfl
/-- The first one's previous is turned. -/
theorem Seg.prev {ls : List Lk} {q : Nat} {b : List Nat} {p n : Int} (p' : Int) (h : Seg ls q p b n) (hd : b.Nodup) (hb : b ≠ []) (n0 : Int) : Seg (setPv ls (hdI b n0) p') q p' b n := by
  cases b with
  | nil => exact absurd rfl hb
  | cons x b =>
    obtain ⟨h1, h2⟩ := h
    obtain ⟨hx, _⟩ := List.nodup_cons.1 hd
    refine ⟨?_, h2.frame fun y hy => setPv_ne (fun e => hx (e ▸ hy))⟩
    have := setPv_eq (n := p') h1
    simpa [hdI] using this
/-- What the links and ends say: these queues. -/
structure Rep (qs : List Qn) (ls : List Lk) (L : List (List Nat)) (m : Nat) : Prop where
  ql : qs.length = L.length
  ll : ls.length = m
  qn : ∀ (q : Nat) (l : List Nat), L[q]? = some l → qs[q]? = some ⟨hdI l (-1), lsI (-1) l, l.length⟩
  sg : ∀ (q : Nat) (l : List Nat), L[q]? = some l → Seg ls q (-1) l (-1)
  nd : ∀ (q : Nat) (l : List Nat), L[q]? = some l → l.Nodup
  fr : ∀ i, i < m → (∀ (q : Nat) (l : List Nat), L[q]? = some l → i ∉ l) → ls[i]? = some nl
theorem Rep.one {qs : List Qn} {ls : List Lk} {L : List (List Nat)} {m : Nat} (h : Rep qs ls L m) {q q' : Nat} {l l' : List Nat} (hq : L[q]? = some l) (hq' : L[q']? = some l') {i : Nat} (hi : i ∈ l) (hi' : i ∈ l') : q = q' := by
  obtain ⟨_, _, h1⟩ := (h.sg q l hq).mem i hi
  obtain ⟨_, _, h2⟩ := (h.sg q' l' hq').mem i hi'
  rw [h1] at h2
  simp only [Option.some.injEq, Lk.mk.injEq] at h2
  omega
theorem len_setNx (ls : List Lk) (z n : Int) : (setNx ls z n).length = ls.length := by simp [setNx]
theorem len_setPv (ls : List Lk) (z n : Int) : (setPv ls z n).length = ls.length := by simp [setPv]
theorem len_lsT (ls : List Lk) (p n : Int) : (lsT ls p n).length = ls.length := by unfold lsT; split <;> split <;> simp [len_setNx, len_setPv]
theorem len_qsT (qs : List Qn) (q : Nat) (p n : Int) : (qsT qs q p n).length = qs.length := by unfold qsT; split <;> split <;> simp [setF, setLa]
/-- Tying touches the two neighbours alone. -/
theorem lsT_ne {ls : List Lk} {prev next : Int} {x : Nat} (h1 : prev = -1 ∨ ∃ z : Nat, prev = z ∧ x ≠ z) (h2 : next = -1 ∨ ∃ z : Nat, next = z ∧ x ≠ z) : (lsT ls prev next)[x]? = ls[x]? := by
  unfold lsT
  have e1 : (if prev = -1 then ls else setNx ls prev next)[x]? = ls[x]? := by
    rcases h1 with h1 | ⟨z, rfl, hz⟩
    · rw [if_pos h1]
    · rw [if_neg (by omega), setNx_ne hz]
  rcases h2 with h2 | ⟨z, rfl, hz⟩
  · rw [if_pos h2, e1]
  · rw [if_neg (by omega), setPv_ne hz, e1]
theorem lsT_seg {ls : List Lk} {q : Nat} {a b : List Nat} {n0 p0 nE : Int} (ha : Seg ls q (-1) a n0) (hb : Seg ls q p0 b nE) (hda : a.Nodup) (hdb : b.Nodup) (hdis : ∀ x ∈ a, x ∉ b) :
    Seg (lsT ls (lsI (-1) a) (hdI b (-1))) q (-1) a (hdI b (-1)) ∧ Seg (lsT ls (lsI (-1) a) (hdI b (-1))) q (lsI (-1) a) b nE := by
  have e1 : Seg (if lsI (-1) a = -1 then ls else setNx ls (lsI (-1) a) (hdI b (-1))) q (-1) a (hdI b (-1)) ∧ Seg (if lsI (-1) a = -1 then ls else setNx ls (lsI (-1) a) (hdI b (-1))) q p0 b nE := by
    by_cases e : a = []
    · rw [if_pos (lsI_nil.2 e), e]
      exact ⟨trivial, hb⟩
    · rw [if_neg (fun h => e (lsI_nil.1 h))]
      refine ⟨ha.next _ hda e, ?_⟩
      obtain ⟨z, hz, hzm⟩ := lsI_mem (p := -1) e
      rw [hz]
      exact hb.frame fun y hy => setNx_ne (fun h => hdis z hzm (h ▸ hy))
  unfold lsT
  by_cases e : b = []
  · rw [if_pos (hdI_nil.2 e)]
    refine ⟨e1.1, ?_⟩
    rw [e]
    trivial
  · rw [if_neg (fun h => e (hdI_nil.1 h))]
    refine ⟨?_, e1.2.prev _ hdb e _⟩
    obtain ⟨z, hz, hzm⟩ := hdI_mem (n := -1) e
    rw [hz] at e1 ⊢
    exact e1.1.frame fun y hy => setPv_ne (fun h => hdis y hy (h ▸ hzm))
theorem qsT_ne {qs : List Qn} {q : Nat} {prev next : Int} {x : Nat} (h : x ≠ q) : (qsT qs q prev next)[x]? = qs[x]? := by
  unfold qsT setLa setF
  have hne : q ≠ x := fun e => h e.symm
  split <;> split <;> simp [List.getElem?_set_ne hne]
theorem qsT_eq {qs : List Qn} {q : Nat} {prev next : Int} {k : Qn} (h : qs[q]? = some k) : (qsT qs q prev next)[q]? = some ⟨if prev = -1 then next else k.f, if next = -1 then prev else k.l, k.c⟩ := by
  have hlt := (List.getElem?_eq_some_iff.1 h).1
  unfold qsT
  by_cases h1 : prev = -1
  · have e1 : (setF qs q next)[q]? = some ⟨next, k.l, k.c⟩ := by unfold setF; rw [gQ_at h, List.getElem?_set_self hlt]
    by_cases h2 : next = -1
    · rw [if_pos h1, if_pos h2, if_pos h1, if_pos h2]
      unfold setLa
      rw [gQ_at e1, List.getElem?_set_self (by simp [setF, hlt])]
    · rw [if_pos h1, if_neg h2, if_pos h1, if_neg h2, e1]
  · by_cases h2 : next = -1
    · rw [if_neg h1, if_pos h2, if_neg h1, if_pos h2]
      unfold setLa
      rw [gQ_at h, List.getElem?_set_self hlt]
    · rw [if_neg h1, if_neg h2, if_neg h1, if_neg h2, h]
theorem addC_ne {qs : List Qn} {q : Nat} {d : Int} {x : Nat} (h : x ≠ q) : (addC qs q d)[x]? = qs[x]? := by
  unfold addC
  rw [List.getElem?_set_ne (fun e => h e.symm)]
theorem addC_eq {qs : List Qn} {q : Nat} {d : Int} {k : Qn} (h : qs[q]? = some k) : (addC qs q d)[q]? = some ⟨k.f, k.l, k.c + d⟩ := by
  unfold addC
  rw [gQ_at h, List.getElem?_set_self (List.getElem?_eq_some_iff.1 h).1]
theorem hdI_some {b : List Nat} {n : Int} : n ≠ -1 → hdI b n = (if b = [] then n else hdI b (-1)) := fun _ => by cases b <;> simp [hdI]
/-- An item is put between a and b. -/
def joinQ (qs : List Qn) (q : Nat) (prev item next : Int) : List Qn := addC (qsT (qsT qs q prev item) q item next) q 1
def joinL (ls : List Lk) (q : Nat) (prev : Int) (item : Nat) (next : Int) : List Lk := lsT (lsT (ls.set item ⟨q, next, prev⟩) prev item) item next
theorem Rep.join {qs : List Qn} {ls : List Lk} {L : List (List Nat)} {m : Nat} (h : Rep qs ls L m) {q : Nat} {a b : List Nat} (hq : L[q]? = some (a ++ b)) {item : Nat} (hm : item < m) (hno : ∀ (q : Nat) (l : List Nat), L[q]? = some l → item ∉ l) :
    Rep (joinQ qs q (lsI (-1) a) item (hdI b (-1))) (joinL ls q (lsI (-1) a) item (hdI b (-1))) (L.set q (a ++ item :: b)) m := by
  have hlt := (List.getElem?_eq_some_iff.1 hq).1
  have hnd := h.nd q _ hq
  obtain ⟨hda, hdb, hdis⟩ := List.nodup_append.1 hnd
  have hdis' : ∀ x ∈ a, x ∉ b := fun x hx hx' => hdis x hx x hx' rfl
  have hia : item ∉ a := fun h' => hno q _ hq (by simp [h'])
  have hib : item ∉ b := fun h' => hno q _ hq (by simp [h'])
  obtain ⟨sa, sb⟩ := seg_append.1 (h.sg q _ hq)
  have hml : item < ls.length := by rw [h.ll]; exact hm
  have f1 : ∀ x, x ≠ item → (ls.set item ⟨q, hdI b (-1), lsI (-1) a⟩)[x]? = ls[x]? := fun x hx => List.getElem?_set_ne (fun e => hx e.symm)
  have g0 : (ls.set item ⟨q, hdI b (-1), lsI (-1) a⟩)[item]? = some ⟨q, hdI b (-1), lsI (-1) a⟩ := List.getElem?_set_self hml
  have n1 : ∀ x, x ∉ a → lsI (-1) a = -1 ∨ ∃ z : Nat, lsI (-1) a = z ∧ x ≠ z := fun x hx => by
    by_cases e : a = []
    · exact .inl (lsI_nil.2 e)
    · obtain ⟨z, h1, h2⟩ := lsI_mem (p := -1) e
      exact .inr ⟨z, h1, fun e => hx (e ▸ h2)⟩
  have n2 : ∀ x, x ∉ b → hdI b (-1) = -1 ∨ ∃ z : Nat, hdI b (-1) = z ∧ x ≠ z := fun x hx => by
    by_cases e : b = []
    · exact .inl (hdI_nil.2 e)
    · obtain ⟨z, h1, h2⟩ := hdI_mem (n := -1) e
      exact .inr ⟨z, h1, fun e => hx (e ▸ h2)⟩
  have sa1 : Seg (ls.set item ⟨q, hdI b (-1), lsI (-1) a⟩) q (-1) a (hdI b (-1)) := sa.frame fun x hx => f1 x (fun e => hia (e ▸ hx))
  have sb1 : Seg (ls.set item ⟨q, hdI b (-1), lsI (-1) a⟩) q (lsI (-1) a) b (-1) := sb.frame fun x hx => f1 x (fun e => hib (e ▸ hx))
  have si1 : Seg (ls.set item ⟨q, hdI b (-1), lsI (-1) a⟩) q (lsI (-1) a) [item] (hdI b (-1)) := ⟨g0, trivial⟩
  obtain ⟨sa2, si2⟩ := lsT_seg sa1 si1 hda (by simp) (fun x hx hx' => hia (by rw [List.mem_singleton.1 hx'] at hx; exact hx))
  have e1 : hdI [item] (-1) = (item : Int) := rfl
  rw [e1] at sa2 si2
  have sb2 : Seg (lsT (ls.set item ⟨q, hdI b (-1), lsI (-1) a⟩) (lsI (-1) a) item) q (lsI (-1) a) b (-1) := sb1.frame fun x hx => lsT_ne (n1 x (fun h' => hdis' x h' hx)) (.inr ⟨item, rfl, fun e => hib (e ▸ hx)⟩)
  have s3 := seg_append.2 (⟨sa2, si2⟩ : Seg _ q (-1) a (hdI [item] (hdI b (-1))) ∧ Seg _ q (lsI (-1) a) [item] (hdI b (-1)))
  have e2 : lsI (-1) (a ++ [item]) = (item : Int) := by rw [lsI_append]; rfl
  have hnd3 : (a ++ [item]).Nodup := List.nodup_append.2 ⟨hda, by simp, fun x hx y hy => by
    rw [List.mem_singleton.1 hy]
    exact fun e => hia (e ▸ hx)⟩
  obtain ⟨s4, s5⟩ := lsT_seg s3 sb2 hnd3 hdb (fun x hx hx' => by
    rcases List.mem_append.1 hx with h1 | h1
    · exact hdis' x h1 hx'
    · rw [List.mem_singleton.1 h1] at hx'; exact hib hx')
  rw [e2] at s4 s5
  have hnew : Seg (joinL ls q (lsI (-1) a) item (hdI b (-1))) q (-1) (a ++ item :: b) (-1) := by
    have h6 := seg_append.2 (⟨s4, by rw [e2]; exact s5⟩ : Seg _ q (-1) (a ++ [item]) (hdI b (-1)) ∧ Seg _ q (lsI (-1) (a ++ [item])) b (-1))
    rw [List.append_assoc] at h6
    exact h6
  have hfar : ∀ x, x ≠ item → x ∉ a → x ∉ b → (joinL ls q (lsI (-1) a) item (hdI b (-1)))[x]? = ls[x]? := fun x hx hxa hxb => by
    unfold joinL
    rw [lsT_ne (.inr ⟨item, rfl, hx⟩) (n2 x hxb), lsT_ne (n1 x hxa) (.inr ⟨item, rfl, hx⟩), f1 x hx]
  refine ⟨by simp [joinQ, addC, len_qsT, h.ql], by simp [joinL, len_lsT, h.ll], fun q' l hl => ?_, fun q' l hl => ?_, fun q' l hl => ?_, fun i hi hnone => ?_⟩
  · by_cases e : q' = q
    · subst e
      rw [List.getElem?_set_self hlt] at hl
      injection hl with hl
      subst hl
      have h0 := h.qn q' _ hq
      have hne : (item : Int) ≠ -1 := by omega
      unfold joinQ
      rw [addC_eq (qsT_eq (qsT_eq h0))]
      simp only [if_neg hne]
      congr 2
      · rw [hdI_append, hdI_append]
        by_cases e : a = []
        · rw [if_pos (lsI_nil.2 e), e]; rfl
        · rw [if_neg (fun h => e (lsI_nil.1 h))]
          cases a with
          | nil => exact absurd rfl e
          | cons x a => rfl
      · rw [lsI_append, lsI_append]
        show _ = lsI item b
        by_cases e : b = []
        · rw [if_pos (hdI_nil.2 e), e]; rfl
        · rw [if_neg (fun h => e (hdI_nil.1 h))]
          cases b with
          | nil => exact absurd rfl e
          | cons x b => rfl
      · simp; omega
    · rw [List.getElem?_set_ne (fun h => e h.symm)] at hl
      unfold joinQ
      rw [addC_ne e, qsT_ne e, qsT_ne e]
      exact h.qn q' l hl
  · by_cases e : q' = q
    · subst e
      rw [List.getElem?_set_self hlt] at hl
      injection hl with hl
      subst hl
      exact hnew
    · rw [List.getElem?_set_ne (fun h => e h.symm)] at hl
      refine (h.sg q' l hl).frame fun x hx => hfar x (fun e => hno q' l hl (e ▸ hx)) (fun hxa => e (h.one hl hq hx (by simp [hxa]))) (fun hxb => e (h.one hl hq hx (by simp [hxb])))
  · by_cases e : q' = q
    · subst e
      rw [List.getElem?_set_self hlt] at hl
      injection hl with hl
      subst hl
      refine List.nodup_append.2 ⟨hda, List.nodup_cons.2 ⟨hib, hdb⟩, fun x hx y hy => ?_⟩
      rcases List.mem_cons.1 hy with rfl | hy
      · exact fun e => hia (e ▸ hx)
      · exact hdis x hx y hy
    · rw [List.getElem?_set_ne (fun h => e h.symm)] at hl
      exact h.nd q' l hl
  · have h1 := hnone q _ (List.getElem?_set_self hlt)
    have hx : i ≠ item := fun e => h1 (by simp [e])
    have hxa : i ∉ a := fun e => h1 (by simp [e])
    have hxb : i ∉ b := fun e => h1 (by simp [e])
    rw [hfar i hx hxa hxb]
    refine h.fr i hi fun q' l hl => ?_
    by_cases e : q' = q
    · subst e
      rw [hq] at hl
      injection hl with hl
      subst hl
      simp [hxa, hxb]
    · exact hnone q' l (by rw [List.getElem?_set_ne (fun h => e h.symm)]; exact hl)
/-- An item is taken out from between a and b. -/
def cutQ (qs : List Qn) (q : Nat) (prev next : Int) : List Qn := addC (qsT qs q prev next) q (-1)
def cutL (ls : List Lk) (prev : Int) (item : Nat) (next : Int) : List Lk := (lsT ls prev next).set item nl
theorem Rep.cut {qs : List Qn} {ls : List Lk} {L : List (List Nat)} {m : Nat} (h : Rep qs ls L m) {q : Nat} {a b : List Nat} {item : Nat} (hq : L[q]? = some (a ++ item :: b)) :
    ls[item]? = some ⟨q, hdI b (-1), lsI (-1) a⟩ ∧ Rep (cutQ qs q (lsI (-1) a) (hdI b (-1))) (cutL ls (lsI (-1) a) item (hdI b (-1))) (L.set q (a ++ b)) m := by
  have hlt := (List.getElem?_eq_some_iff.1 hq).1
  have hnd := h.nd q _ hq
  obtain ⟨hda, hdib, hdis⟩ := List.nodup_append.1 hnd
  obtain ⟨hib, hdb⟩ := List.nodup_cons.1 hdib
  have hdis' : ∀ x ∈ a, x ∉ b := fun x hx hx' => hdis x hx x (by simp [hx']) rfl
  have hia : item ∉ a := fun h' => hdis item h' item (by simp) rfl
  obtain ⟨sa, si, sb⟩ := seg_append.1 (h.sg q _ hq)
  have hml : item < ls.length := (List.getElem?_eq_some_iff.1 si).1
  refine ⟨si, ?_⟩
  have n1 : ∀ x, x ∉ a → lsI (-1) a = -1 ∨ ∃ z : Nat, lsI (-1) a = z ∧ x ≠ z := fun x hx => by
    by_cases e : a = []
    · exact .inl (lsI_nil.2 e)
    · obtain ⟨z, h1, h2⟩ := lsI_mem (p := -1) e
      exact .inr ⟨z, h1, fun e => hx (e ▸ h2)⟩
  have n2 : ∀ x, x ∉ b → hdI b (-1) = -1 ∨ ∃ z : Nat, hdI b (-1) = z ∧ x ≠ z := fun x hx => by
    by_cases e : b = []
    · exact .inl (hdI_nil.2 e)
    · obtain ⟨z, h1, h2⟩ := hdI_mem (n := -1) e
      exact .inr ⟨z, h1, fun e => hx (e ▸ h2)⟩
  obtain ⟨s1, s2⟩ := lsT_seg sa sb hda hdb hdis'
  have hf : ∀ x, x ≠ item → (cutL ls (lsI (-1) a) item (hdI b (-1)))[x]? = (lsT ls (lsI (-1) a) (hdI b (-1)))[x]? := fun x hx => List.getElem?_set_ne (fun e => hx e.symm)
  have hnew : Seg (cutL ls (lsI (-1) a) item (hdI b (-1))) q (-1) (a ++ b) (-1) :=
    seg_append.2 ⟨s1.frame fun x hx => hf x (fun e => hia (e ▸ hx)), s2.frame fun x hx => hf x (fun e => hib (e ▸ hx))⟩
  have hfar : ∀ x, x ≠ item → x ∉ a → x ∉ b → (cutL ls (lsI (-1) a) item (hdI b (-1)))[x]? = ls[x]? := fun x hx hxa hxb => by
    rw [hf x hx, lsT_ne (n1 x hxa) (n2 x hxb)]
  refine ⟨by simp [cutQ, addC, len_qsT, h.ql], by simp [cutL, len_lsT, h.ll], fun q' l hl => ?_, fun q' l hl => ?_, fun q' l hl => ?_, fun i hi hnone => ?_⟩
  · by_cases e : q' = q
    · subst e
      rw [List.getElem?_set_self hlt] at hl
      injection hl with hl
      subst hl
      have h0 := h.qn q' _ hq
      unfold cutQ
      rw [addC_eq (qsT_eq h0)]
      simp only
      congr 2
      · rw [hdI_append, hdI_append]
        by_cases e : a = []
        · rw [if_pos (lsI_nil.2 e), e]; rfl
        · rw [if_neg (fun h => e (lsI_nil.1 h))]
          cases a with
          | nil => exact absurd rfl e
          | cons x a => rfl
      · rw [lsI_append, lsI_append]
        by_cases e : b = []
        · rw [if_pos (hdI_nil.2 e), e]; rfl
        · rw [if_neg (fun h => e (hdI_nil.1 h))]
          cases b with
          | nil => exact absurd rfl e
          | cons x b => rfl
      · simp; omega
    · rw [List.getElem?_set_ne (fun h => e h.symm)] at hl
      unfold cutQ
      rw [addC_ne e, qsT_ne e]
      exact h.qn q' l hl
  · by_cases e : q' = q
    · subst e
      rw [List.getElem?_set_self hlt] at hl
      injection hl with hl
      subst hl
      exact hnew
    · rw [List.getElem?_set_ne (fun h => e h.symm)] at hl
      refine (h.sg q' l hl).frame fun x hx => hfar x (fun e' => e (h.one hl hq hx (by simp [e']))) (fun hxa => e (h.one hl hq hx (by simp [hxa]))) (fun hxb => e (h.one hl hq hx (by simp [hxb])))
  · by_cases e : q' = q
    · subst e
      rw [List.getElem?_set_self hlt] at hl
      injection hl with hl
      subst hl
      exact List.nodup_append.2 ⟨hda, hdb, fun x hx y hy => hdis x hx y (by simp [hy])⟩
    · rw [List.getElem?_set_ne (fun h => e h.symm)] at hl
      exact h.nd q' l hl
  · by_cases hx : i = item
    · subst hx
      unfold cutL
      rw [List.getElem?_set_self (by rw [len_lsT]; exact hml)]
    · have h1 := hnone q _ (List.getElem?_set_self hlt)
      have hxa : i ∉ a := fun e => h1 (by simp [e])
      have hxb : i ∉ b := fun e => h1 (by simp [e])
      rw [hfar i hx hxa hxb]
      refine h.fr i hi fun q' l hl => ?_
      by_cases e : q' = q
      · subst e
        rw [hq] at hl
        injection hl with hl
        subst hl
        simp [hxa, hxb, hx]
      · exact hnone q' l (by rw [List.getElem?_set_ne (fun h => e h.symm)]; exact hl)
theorem repl_at {n q : Nat} {l : List Nat} (h : (List.replicate n ([] : List Nat))[q]? = some l) : q < n ∧ l = [] := by
  rw [List.getElem?_replicate] at h
  by_cases hq : q < n
  · rw [if_pos hq] at h
    injection h with h
    exact ⟨hq, h.symm⟩
  · rw [if_neg hq] at h
    cases h
theorem rep_new (n m : Nat) : Rep (List.replicate n nq) (List.replicate m nl) (List.replicate n []) m where
  ql := by simp
  ll := by simp
  qn := fun q l hl => by
    obtain ⟨h1, rfl⟩ := repl_at hl
    rw [List.getElem?_replicate, if_pos h1]
    rfl
  sg := fun q l hl => by
    obtain ⟨h1, rfl⟩ := repl_at hl
    trivial
  nd := fun q l hl => by
    obtain ⟨h1, rfl⟩ := repl_at hl
    simp
  fr := fun i hi _ => by rw [List.getElem?_replicate, if_pos hi]
/-- Which queue an item stands in; -1: in none. -/
def whr (L : List (List Nat)) (i : Nat) : Int := match L.findIdx? (·.contains i) with
  | some q => q
  | none => -1
theorem whr_in {L : List (List Nat)} {i : Nat} {q : Nat} (h : L.findIdx? (·.contains i) = some q) : whr L i = q ∧ ∃ l, L[q]? = some l ∧ i ∈ l := by
  refine ⟨by unfold whr; rw [h], ?_⟩
  obtain ⟨hlt, h1, _⟩ := List.findIdx?_eq_some_iff_getElem.1 h
  exact ⟨L[q], List.getElem?_eq_getElem hlt, by simpa using h1⟩
theorem whr_no {L : List (List Nat)} {i : Nat} (h : L.findIdx? (·.contains i) = none) : whr L i = -1 ∧ ∀ (q : Nat) (l : List Nat), L[q]? = some l → i ∉ l := by
  refine ⟨by unfold whr; rw [h], fun q l hl => ?_⟩
  have := List.findIdx?_eq_none_iff.1 h l (List.mem_of_getElem? hl)
  simpa using this
theorem Rep.where_ {qs : List Qn} {ls : List Lk} {L : List (List Nat)} {m : Nat} (h : Rep qs ls L m) {i : Nat} (hi : i < m) : ∃ k, ls[i]? = some k ∧ k.q = whr L i := by
  cases hf : L.findIdx? (·.contains i) with
  | some q =>
    obtain ⟨h1, l, hl, hm⟩ := whr_in hf
    obtain ⟨_, _, h2⟩ := (h.sg q l hl).mem i hm
    exact ⟨_, h2, h1.symm⟩
  | none =>
    obtain ⟨h1, h2⟩ := whr_no hf
    exact ⟨nl, h.fr i hi h2, h1.symm⟩
theorem Rep.whr_eq {qs : List Qn} {ls : List Lk} {L : List (List Nat)} {m : Nat} (h : Rep qs ls L m) {q : Nat} {l : List Nat} (hl : L[q]? = some l) {i : Nat} (hi : i ∈ l) : whr L i = q := by
  cases hf : L.findIdx? (·.contains i) with
  | some q' =>
    obtain ⟨h1, l', hl', hm⟩ := whr_in hf
    rw [h1, h.one hl' hl hm hi]
  | none => exact absurd hi ((whr_no hf).2 q l hl)
end Go.Proofs.Ytfahhjbbbimjfaa.Li
