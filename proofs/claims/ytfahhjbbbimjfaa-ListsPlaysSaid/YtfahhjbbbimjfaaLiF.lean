/- Lists in the abstract: queues as lists of items; their methods, beside other objects. -/
import Derived.Test.YtfahhjbbbimjfaaLiE
namespace Go.Proofs.Ytfahhjbbbimjfaa.Li
open Go Go.RowKit Go.Proofs.Ytfahhjbbbimjfaa.Mem
set_option linter.unusedVariables false
set_option linter.unusedSimpArgs false
theorem nodup_le : ∀ (m : Nat) (l : List Nat), l.Nodup → (∀ x ∈ l, x < m) → l.length ≤ m
  | 0, l, _, h => by
    cases l with
    | nil => simp
    | cons x l => exact absurd (h x (by simp)) (by omega)
  | m + 1, l, hd, h => by
    have h1 := nodup_le m (l.erase m) (hd.erase m) (fun x hx => by
      have hm := List.mem_of_mem_erase hx
      have hne : x ≠ m := fun e => by subst e; exact (List.Nodup.not_mem_erase hd) hx
      have := h x hm
      omega)
    have h2 : l.length ≤ (l.erase m).length + 1 := by rw [List.length_erase]; split <;> omega
    omega
def okQ (L : List (List Nat)) (q : Int) : Prop := 0 ≤ q ∧ q < L.length
def okI (m : Nat) (i : Int) : Prop := 0 ≤ i ∧ i < m
instance (L : List (List Nat)) (q : Int) : Decidable (okQ L q) := inferInstanceAs (Decidable (_ ∧ _))
instance (m : Nat) (i : Int) : Decidable (okI m i) := inferInstanceAs (Decidable (_ ∧ _))
def getQ (L : List (List Nat)) (q : Int) : List Nat := L.getD q.toNat []
def chkS (L : List (List Nat)) (m : Nat) (q i : Int) : Int := if okQ L q then (if okI m i then (if whr L i.toNat = -1 then 0 else -26) else -14) else -14
def pushS (L : List (List Nat)) (m : Nat) (q i : Int) : Int × List (List Nat) := if chkS L m q i = 0 then (0, L.set q.toNat (getQ L q ++ [i.toNat])) else (chkS L m q i, L)
def frontS (L : List (List Nat)) (m : Nat) (q i : Int) : Int × List (List Nat) := if chkS L m q i = 0 then (0, L.set q.toNat (i.toNat :: getQ L q)) else (chkS L m q i, L)
def dropL (L : List (List Nat)) (i : Nat) : List (List Nat) := L.map (·.filter (· != i))
def removeS (L : List (List Nat)) (m : Nat) (i : Int) : Int × List (List Nat) := if okI m i then (if whr L i.toNat = -1 then (-25, L) else (0, dropL L i.toNat)) else (-14, L)
def popS (L : List (List Nat)) (q : Int) : Int × Int × List (List Nat) := if okQ L q then (match getQ L q with
  | [] => (0, -25, L)
  | i :: _ => ((i : Int), 0, dropL L i)) else (0, -14, L)
def whereS (L : List (List Nat)) (m : Nat) (i : Int) : Int := if okI m i then whr L i.toNat else -1
def firstS (L : List (List Nat)) (q : Int) : Int := if okQ L q then hdI (getQ L q) (-1) else -1
def lenS (L : List (List Nat)) (q : Int) : Int := if okQ L q then (getQ L q).length else 0
theorem getQ_at {L : List (List Nat)} {q : Nat} {l : List Nat} (h : L[q]? = some l) : getQ L (q : Int) = l := by
  unfold getQ
  rw [Int.toNat_natCast, List.getD_eq_getElem?_getD, h]
  rfl
theorem okQ_at {L : List (List Nat)} {q : Int} (h : okQ L q) : ∃ (k : Nat) (l : List Nat), q = k ∧ L[k]? = some l ∧ getQ L q = l := by
  obtain ⟨h1, h2⟩ := h
  obtain ⟨k, rfl⟩ : ∃ k : Nat, q = k := ⟨q.toNat, by omega⟩
  have hl : L[k]? = some L[k] := List.getElem?_eq_getElem (by omega)
  exact ⟨k, _, rfl, hl, getQ_at hl⟩
theorem whr_neg (L : List (List Nat)) (i : Nat) : whr L i = -1 ∨ 0 ≤ whr L i := by
  unfold whr
  split <;> omega
section
variable {qs : List Qn} {ls : List Lk} {L : List (List Nat)} {m : Nat}
theorem Rep.check (h : Rep qs ls L m) (q i : Int) : checkC qs ls q i = chkS L m q i := by
  unfold checkC chkS
  rw [h.ql, h.ll]
  by_cases h1 : okQ L q
  · rw [if_pos (show 0 ≤ q ∧ q < (L.length : Int) from h1), if_pos h1]
    by_cases h2 : okI m i
    · rw [if_pos (show 0 ≤ i ∧ i < (m : Int) from h2), if_pos h2]
      obtain ⟨h3, h4⟩ := h2
      obtain ⟨k, rfl⟩ : ∃ k : Nat, i = k := ⟨i.toNat, by omega⟩
      obtain ⟨x, hx, he⟩ := h.where_ (i := k) (by omega)
      rw [gL_at hx, he, Int.toNat_natCast]
    · rw [if_neg (show ¬ (0 ≤ i ∧ i < (m : Int)) from h2), if_neg h2]
  · rw [if_neg (show ¬ (0 ≤ q ∧ q < (L.length : Int)) from h1), if_neg h1]
theorem Rep.count (h : Rep qs ls L m) {q : Nat} {l : List Nat} (hl : L[q]? = some l) : l.length ≤ m := nodup_le m l (h.nd q l hl) fun x hx => by
  have := (h.sg q l hl).lt hx
  rw [h.ll] at this
  exact this
theorem Rep.ends (h : Rep qs ls L m) {q : Nat} {l : List Nat} (hl : L[q]? = some l) : inL ls (hdI l (-1)) ∧ inL ls (lsI (-1) l) := by
  constructor
  · by_cases e : l = []
    · exact .inl (hdI_nil.2 e)
    · obtain ⟨y, h1, h2⟩ := hdI_mem (n := -1) e
      exact .inr ⟨y, h1, (h.sg q l hl).lt h2⟩
  · by_cases e : l = []
    · exact .inl (lsI_nil.2 e)
    · obtain ⟨y, h1, h2⟩ := lsI_mem (p := -1) e
      exact .inr ⟨y, h1, (h.sg q l hl).lt h2⟩
theorem chk_zero {q i : Int} (h : chkS L m q i = 0) : okQ L q ∧ okI m i ∧ whr L i.toNat = -1 := by
  unfold chkS at h
  by_cases h1 : okQ L q
  · by_cases h2 : okI m i
    · by_cases h3 : whr L i.toNat = -1
      · exact ⟨h1, h2, h3⟩
      · rw [if_pos h1, if_pos h2, if_neg h3] at h; omega
    · rw [if_pos h1, if_neg h2] at h; omega
  · rw [if_neg h1] at h; omega
theorem whr_none {i : Nat} (h : whr L i = -1) : ∀ (q : Nat) (l : List Nat), L[q]? = some l → i ∉ l := by
  cases hf : L.findIdx? (·.contains i) with
  | some q => have := (whr_in hf).1; omega
  | none => exact (whr_no hf).2
theorem whr_some {i : Nat} (h : whr L i ≠ -1) : ∃ (q : Nat) (l : List Nat), whr L i = q ∧ L[q]? = some l ∧ i ∈ l := by
  cases hf : L.findIdx? (·.contains i) with
  | some q =>
    obtain ⟨h1, l, h2, h3⟩ := whr_in hf
    exact ⟨q, l, h1, h2, h3⟩
  | none => exact absurd (whr_no hf).1 h
theorem Rep.push (h : Rep qs ls L m) {q i : Nat} {l : List Nat} (hl : L[q]? = some l) (hi : i < m) (hw : whr L i = -1) : Rep (joinQ qs q (gQ qs q).l i (-1)) (joinL ls q (gQ qs q).l i (-1)) (L.set q (l ++ [i])) m := by
  have := h.join (a := l) (b := []) (by simpa using hl) hi (whr_none hw)
  rw [gQ_at (h.qn q l hl)]
  exact this
theorem Rep.front (h : Rep qs ls L m) {q i : Nat} {l : List Nat} (hl : L[q]? = some l) (hi : i < m) (hw : whr L i = -1) : Rep (joinQ qs q (-1) i (gQ qs q).f) (joinL ls q (-1) i (gQ qs q).f) (L.set q (i :: l)) m := by
  have := h.join (a := []) (b := l) (by simpa using hl) hi (whr_none hw)
  rw [gQ_at (h.qn q l hl)]
  exact this
theorem filter_ne {l : List Nat} {i : Nat} (h : i ∉ l) : l.filter (· != i) = l := List.filter_eq_self.2 fun x hx => by
  simp
  exact fun e => h (e ▸ hx)
theorem Rep.drop (h : Rep qs ls L m) {q i : Nat} {a b : List Nat} (hl : L[q]? = some (a ++ i :: b)) : L.set q (a ++ b) = dropL L i := by
  have hnd := h.nd q _ hl
  obtain ⟨hda, hdib, hdis⟩ := List.nodup_append.1 hnd
  obtain ⟨hib, hdb⟩ := List.nodup_cons.1 hdib
  have hia : i ∉ a := fun h' => hdis i h' i (by simp) rfl
  refine List.ext_getElem? fun j => ?_
  unfold dropL
  rw [List.getElem?_map]
  by_cases e : q = j
  · subst e
    rw [List.getElem?_set_self (List.getElem?_eq_some_iff.1 hl).1, hl]
    simp only [Option.map_some, List.filter_append, List.filter_cons]
    rw [filter_ne hia, filter_ne hib]
    simp
  · rw [List.getElem?_set_ne e]
    cases hj : L[j]? with
    | none => rfl
    | some l => simp only [Option.map_some]; rw [filter_ne (fun hm => e (h.one hl hj (by simp) hm))]
end
/-- The lists behind b, with their blocks F: these queues of items below m. -/
def Lz (w : World) (B b : Nat) (F : Blocks) (L : List (List Nat)) (m : Nat) : Prop := ∃ gq gl qs ls, Lm w B b gq gl qs ls ∧ Rep qs ls L m ∧ (∀ k, F k ↔ fl b gq gl k) ∧ L.length ≤ 65536 ∧ m ≤ 65536
def LzA (b : Nat) (L : List (List Nat)) (m : Nat) : Asr := fun B F w => Lz w B b F L m
instance (b : Nat) (L : List (List Nat)) (m : Nat) : (LzA b L m).Ok where
  in_ := fun ⟨gq, gl, qs, ls, h, hr, hF, _⟩ k hk => h.lt ((hF k).1 hk)
  keep := fun ⟨gq, gl, qs, ls, h, hr, hF, hs⟩ hu hd => ⟨gq, gl, qs, ls, h.upd hu (fun k hk => hd k ((hF k).2 hk)), hr, hF, hs⟩
section
variable {w0 w : World} {S : List Asr} {b : Nat} {L : List (List Nat)} {m : Nat}
theorem new_st {n m : Nat} (h : Star w0 w S) (hn : n ≤ 65536) (hm : m ≤ 65536) : Calls Try.prog 8 #[.int .i64 n, .int .i64 m] w fun e w' => ∃ b, e = .returned (.pointer (some ⟨b, 0, none⟩)) ∧ Star w0 w' (LzA b (List.replicate n []) m :: S) := by
  refine (new_yes hn hm w).mono ?_
  rintro e w1 ⟨b, gq, gl, he, hp, hb⟩
  refine ⟨b, he, h.new (A := LzA b (List.replicate n []) m) (F := fl b gq gl) inferInstance ⟨gq, gl, _, _, ⟨Nat.le_trans h.hb hp.base, hp.blk, own_mono hp.q h.hb, own_mono hp.l h.hb⟩, rep_new n m, fun k => Iff.rfl, by simpa using hn, hm⟩ (Upd.of_below hb _) (fun k hk => (hp.lt hk).1)⟩
theorem where_st (h : Star w0 w S) (j : Nat) (hj : S[j]? = some (LzA b L m)) (i : Int) : Calls Try.prog 14 #[.pointer (some ⟨b, 0, none⟩), .int .i64 i] w fun e w' => e = .returned (.int .i64 (whereS L m i)) ∧ w = w' := by
  obtain ⟨F, ⟨gq, gl, qs, ls, hl, hr, hF, hs⟩, _⟩ := h.of j hj
  have he : whereC ls i = whereS L m i := by
    unfold whereC whereS
    rw [hr.ll]
    by_cases h1 : okI m i
    · rw [if_pos (show 0 ≤ i ∧ i < (m : Int) from h1), if_pos h1]
      obtain ⟨h3, h4⟩ := h1
      obtain ⟨k, rfl⟩ : ∃ k : Nat, i = k := ⟨i.toNat, by omega⟩
      obtain ⟨x, hx, he⟩ := hr.where_ (i := k) (by omega)
      rw [gL_at hx, he, Int.toNat_natCast]
    · rw [if_neg (show ¬ (0 ≤ i ∧ i < (m : Int)) from h1), if_neg h1]
  rw [← he]
  exact where_any hl i
theorem first_st (h : Star w0 w S) (j : Nat) (hj : S[j]? = some (LzA b L m)) (q : Int) : Calls Try.prog 25 #[.pointer (some ⟨b, 0, none⟩), .int .i64 q] w fun e w' => e = .returned (.int .i64 (firstS L q)) ∧ w = w' := by
  obtain ⟨F, ⟨gq, gl, qs, ls, hl, hr, hF, hs⟩, _⟩ := h.of j hj
  have he : firstC qs q = firstS L q := by
    unfold firstC firstS
    rw [hr.ql]
    by_cases h1 : okQ L q
    · rw [if_pos (show 0 ≤ q ∧ q < (L.length : Int) from h1), if_pos h1]
      obtain ⟨k, l, rfl, hk, hg⟩ := okQ_at h1
      rw [hg, Int.toNat_natCast, gQ_at (hr.qn k l hk)]
    · rw [if_neg (show ¬ (0 ≤ q ∧ q < (L.length : Int)) from h1), if_neg h1]
  rw [← he]
  exact first_any hl q
theorem len_st (h : Star w0 w S) (j : Nat) (hj : S[j]? = some (LzA b L m)) (q : Int) : Calls Try.prog 10 #[.pointer (some ⟨b, 0, none⟩), .int .i64 q] w fun e w' => e = .returned (.int .i64 (lenS L q)) ∧ w = w' := by
  obtain ⟨F, ⟨gq, gl, qs, ls, hl, hr, hF, hs⟩, _⟩ := h.of j hj
  have he : lenC qs q = lenS L q := by
    unfold lenC lenS
    rw [hr.ql]
    by_cases h1 : okQ L q
    · rw [if_pos (show 0 ≤ q ∧ q < (L.length : Int) from h1), if_pos h1]
      obtain ⟨k, l, rfl, hk, hg⟩ := okQ_at h1
      rw [hg, Int.toNat_natCast, gQ_at (hr.qn k l hk)]
    · rw [if_neg (show ¬ (0 ≤ q ∧ q < (L.length : Int)) from h1), if_neg h1]
  rw [← he]
  exact len_any hl q
theorem has_st (h : Star w0 w S) (j : Nat) (hj : S[j]? = some (LzA b L m)) (q : Int) : Calls Try.prog 29 #[.pointer (some ⟨b, 0, none⟩), .int .i64 q] w fun e w' => e = .returned (.bool (decide (okQ L q))) ∧ w = w' := by
  obtain ⟨F, ⟨gq, gl, qs, ls, hl, hr, hF, hs⟩, _⟩ := h.of j hj
  have := has_any hl q
  rw [hr.ql] at this
  exact this
theorem push_st (h : Star w0 w S) (j : Nat) (hj : S[j]? = some (LzA b L m)) (q i : Int) : Calls Try.prog 9 #[.pointer (some ⟨b, 0, none⟩), .int .i64 q, .int .i64 i] w fun e w' => e = .returned (.int .i64 (pushS L m q i).1) ∧ Star w0 w' (S.set j (LzA b (pushS L m q i).2 m)) :=
  star_call h j hj fun F ha hB => by
    obtain ⟨gq, gl, qs, ls, hl, hr, hF, hs⟩ := ha
    unfold pushS
    by_cases hc : chkS L m q i = 0
    · rw [if_pos hc]
      obtain ⟨h1, h2, h3⟩ := chk_zero hc
      obtain ⟨k, l, rfl, hk, hg⟩ := okQ_at h1
      obtain ⟨h4, h5⟩ := h2
      obtain ⟨i, rfl⟩ : ∃ n : Nat, i = n := ⟨i.toNat, by omega⟩
      rw [Int.toNat_natCast] at h3
      have hq := hr.qn k l hk
      have hcn := hr.count hk
      refine (push_yes hl (by rw [hr.check]; exact hc) (List.getElem?_eq_some_iff.1 hq).1 (by rw [hr.ll]; omega) (by rw [gQ_at hq]; exact (hr.ends hk).2) (by rw [gQ_at hq]; simp only; omega)).mono ?_
      rintro e w1 ⟨he, hp, hu⟩
      rw [hg, Int.toNat_natCast, Int.toNat_natCast]
      exact ⟨he, F, ⟨gq, gl, _, _, hp, hr.push hk (by omega) h3, hF, by rw [List.length_set]; exact hs⟩, hu.mono (fun x _ hx => (hF x).2 hx), Grow.refl _ _⟩
    · rw [if_neg hc]
      refine (push_no hl (by rw [hr.check]; exact hc)).mono ?_
      rintro e w1 ⟨he, rfl⟩
      rw [hr.check] at he
      exact ⟨he, F, ⟨gq, gl, qs, ls, hl, hr, hF, hs⟩, Upd.refl _ _, Grow.refl _ _⟩
theorem front_st (h : Star w0 w S) (j : Nat) (hj : S[j]? = some (LzA b L m)) (q i : Int) : Calls Try.prog 13 #[.pointer (some ⟨b, 0, none⟩), .int .i64 q, .int .i64 i] w fun e w' => e = .returned (.int .i64 (frontS L m q i).1) ∧ Star w0 w' (S.set j (LzA b (frontS L m q i).2 m)) :=
  star_call h j hj fun F ha hB => by
    obtain ⟨gq, gl, qs, ls, hl, hr, hF, hs⟩ := ha
    unfold frontS
    by_cases hc : chkS L m q i = 0
    · rw [if_pos hc]
      obtain ⟨h1, h2, h3⟩ := chk_zero hc
      obtain ⟨k, l, rfl, hk, hg⟩ := okQ_at h1
      obtain ⟨h4, h5⟩ := h2
      obtain ⟨i, rfl⟩ : ∃ n : Nat, i = n := ⟨i.toNat, by omega⟩
      rw [Int.toNat_natCast] at h3
      have hq := hr.qn k l hk
      have hcn := hr.count hk
      refine (front_yes hl (by rw [hr.check]; exact hc) (List.getElem?_eq_some_iff.1 hq).1 (by rw [hr.ll]; omega) (by rw [gQ_at hq]; exact (hr.ends hk).1) (by rw [gQ_at hq]; simp only; omega)).mono ?_
      rintro e w1 ⟨he, hp, hu⟩
      rw [hg, Int.toNat_natCast, Int.toNat_natCast]
      exact ⟨he, F, ⟨gq, gl, _, _, hp, hr.front hk (by omega) h3, hF, by rw [List.length_set]; exact hs⟩, hu.mono (fun x _ hx => (hF x).2 hx), Grow.refl _ _⟩
    · rw [if_neg hc]
      refine (front_no hl (by rw [hr.check]; exact hc)).mono ?_
      rintro e w1 ⟨he, rfl⟩
      rw [hr.check] at he
      exact ⟨he, F, ⟨gq, gl, qs, ls, hl, hr, hF, hs⟩, Upd.refl _ _, Grow.refl _ _⟩
theorem dropL_len (L : List (List Nat)) (i : Nat) : (dropL L i).length = L.length := by simp [dropL]
theorem remove_st (h : Star w0 w S) (j : Nat) (hj : S[j]? = some (LzA b L m)) (i : Int) : Calls Try.prog 16 #[.pointer (some ⟨b, 0, none⟩), .int .i64 i] w fun e w' => e = .returned (.int .i64 (removeS L m i).1) ∧ Star w0 w' (S.set j (LzA b (removeS L m i).2 m)) :=
  star_call h j hj fun F ha hB => by
    obtain ⟨gq, gl, qs, ls, hl, hr, hF, hs⟩ := ha
    unfold removeS
    by_cases h1 : okI m i
    · rw [if_pos h1]
      obtain ⟨h4, h5⟩ := h1
      obtain ⟨i, rfl⟩ : ∃ n : Nat, i = n := ⟨i.toNat, by omega⟩
      rw [Int.toNat_natCast]
      by_cases hw : whr L i = -1
      · rw [if_pos hw]
        obtain ⟨x, hx, he⟩ := hr.where_ (i := i) (by omega)
        refine (remove_none hl hx (by rw [he, hw])).mono ?_
        rintro e w1 ⟨he, hb⟩
        exact ⟨he, F, ⟨gq, gl, qs, ls, hl.below hb, hr, hF, hs⟩, Upd.of_below hb _, Grow.refl _ _⟩
      · rw [if_neg hw]
        obtain ⟨q, l, hwq, hql, hil⟩ := whr_some hw
        obtain ⟨a, c, rfl⟩ := List.append_of_mem hil
        obtain ⟨hx, hcut⟩ := hr.cut hql
        have hq := hr.qn q _ hql
        have hcn := hr.count hql
        have hin : inL ls (hdI c (-1)) ∧ inL ls (lsI (-1) a) := by
          obtain ⟨sa, si, sb⟩ := seg_append.1 (hr.sg q _ hql)
          constructor
          · by_cases e : c = []
            · exact .inl (hdI_nil.2 e)
            · obtain ⟨y, e1, e2⟩ := hdI_mem (n := -1) e
              exact .inr ⟨y, e1, sb.lt e2⟩
          · by_cases e : a = []
            · exact .inl (lsI_nil.2 e)
            · obtain ⟨y, e1, e2⟩ := lsI_mem (p := -1) e
              exact .inr ⟨y, e1, sa.lt e2⟩
        refine (remove_some hl hx (List.getElem?_eq_some_iff.1 hq).1 hin.1 hin.2 (by rw [gQ_at hq]; simp only [List.length_append, List.length_cons] at hcn ⊢; omega)).mono ?_
        rintro e w1 ⟨he, hp, hu⟩
        rw [hr.drop hql] at hcut
        exact ⟨he, F, ⟨gq, gl, _, _, hp, hcut, hF, by rw [dropL_len]; exact hs⟩, hu.mono (fun x _ hx => (hF x).2 hx), Grow.refl _ _⟩
    · rw [if_neg h1]
      refine (remove_out hl (by rw [hr.ll]; unfold okI at h1; omega)).mono ?_
      rintro e w1 ⟨he, rfl⟩
      exact ⟨he, F, ⟨gq, gl, qs, ls, hl, hr, hF, hs⟩, Upd.refl _ _, Grow.refl _ _⟩
end
end Go.Proofs.Ytfahhjbbbimjfaa.Li
