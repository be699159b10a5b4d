/- Several objects side by side: each with its own blocks, all above a mark; one is turned, the others stay. -/
import Derived.Test.YtojmhacafmpbgaaOwn3
namespace Go.Proofs.Ytojmhacafmpbgaa.Mem
open Go Go.RowKit
set_option linter.unusedVariables false
theorem own_mono {w : World} {base base' : Nat} {e : TypeId} {size n : Nat} {v : Value} {xs : List Value} (h : w.ownsRow base e size v n xs) (hb : base' ≤ base) : w.ownsRow base' e size v n xs := by
  refine ⟨h.1, ?_⟩
  rcases h.2 with hn | ⟨g, cap, cur, rfl, hb2, rest⟩
  · exact .inl hn
  · exact .inr ⟨g, cap, cur, rfl, by omega, rest⟩
/-- What is said of one object: from which mark on it lies, its blocks, the world. -/
abbrev Asr := Nat → Blocks → World → Prop
class Asr.Ok (A : Asr) : Prop where
  in_ : ∀ {B F w}, A B F w → In B w F
  keep : ∀ {B F G w w'}, A B F w → Upd G w w' → Dis F G → A B F w'
/-- These objects stand side by side above w0's end; below it nothing has changed since w0. -/
structure Star (w0 w : World) (L : List Asr) : Prop where
  below : Below w0.heap.size w0 w
  objs : ∃ Fs : List Blocks, Sep w0.heap.size w Fs ∧ Fs.length = L.length ∧ ∀ (i : Nat) (A : Asr) (F : Blocks), L[i]? = some A → Fs[i]? = some F → A.Ok ∧ A w0.heap.size F w
section
variable {w0 w w' : World} {L : List Asr} {A A' : Asr} {i : Nat}
theorem Star.nil (w0 : World) : Star w0 w0 [] := ⟨Below.refl _ _, [], Sep.nil _ _, rfl, fun i A F h => by simp at h⟩
theorem Star.start (h : Below w0.heap.size w0 w) : Star w0 w [] := ⟨h, [], Sep.nil _ _, rfl, fun i A F h => by simp at h⟩
/-- One of them is looked at, and turned. -/
theorem Star.at_ (h : Star w0 w L) (i : Nat) (hi : L[i]? = some A) : ∃ F, A w0.heap.size F w ∧ In w0.heap.size w F ∧
    ∀ {A' : Asr} {F' : Blocks} {w' : World}, A'.Ok → A' w0.heap.size F' w' → Upd F w w' → Grow w F F' → Star w0 w' (L.set i A') := by
  obtain ⟨hb, Fs, hsep, hl, hA⟩ := h
  have hlt : i < L.length := (List.getElem?_eq_some_iff.1 hi).1
  have hfi : Fs[i]? = some Fs[i] := List.getElem?_eq_getElem (by omega)
  obtain ⟨hok, ha⟩ := hA i A _ hi hfi
  refine ⟨Fs[i], ha, hok.in_ ha, fun {A' F' w'} hok' ha' hu hg => ⟨below_upd hb hu (hok.in_ ha) (Nat.le_refl _), Fs.set i F', ?_, by simp [hl], fun j X G hj hGj => ?_⟩⟩
  · have e : Fs = Fs.take i ++ Fs[i] :: Fs.drop (i + 1) := by rw [← List.drop_eq_getElem_cons (by omega), List.take_append_drop]
    have e2 : Fs.set i F' = Fs.take i ++ F' :: Fs.drop (i + 1) := by rw [List.set_eq_take_append_cons_drop, if_pos (by omega)]
    rw [e2]
    have hs2 : Sep w0.heap.size w (Fs.take i ++ Fs[i] :: Fs.drop (i + 1)) := by rw [← e]; exact hsep
    exact hs2.step (Fs.take i) (Fs.drop (i + 1)) hu.size hg (fun k hk => (hok'.in_ ha' k hk).2) hb.size
  · by_cases e : i = j
    · subst e
      rw [List.getElem?_set_self (by omega)] at hj hGj
      injection hj with hj
      injection hGj with hGj
      subst hj hGj
      exact ⟨hok', ha'⟩
    · rw [List.getElem?_set_ne e] at hj hGj
      obtain ⟨hox, hx⟩ := hA j X G hj hGj
      exact ⟨hox, hox.keep hx hu (hsep.dis j i hGj hfi (fun x => e x.symm))⟩
/-- One of them is only read. -/
theorem Star.of (h : Star w0 w L) (i : Nat) (hi : L[i]? = some A) : ∃ F, A w0.heap.size F w ∧ In w0.heap.size w F := by
  obtain ⟨F, ha, hin, _⟩ := h.at_ i hi
  exact ⟨F, ha, hin⟩
theorem Star.upd (h : Star w0 w L) (hu : Upd (fun _ => False) w w') : Star w0 w' L := by
  obtain ⟨hb, Fs, hsep, hl, hA⟩ := h
  exact ⟨below_upd hb hu (fun _ h => h.elim) (Nat.le_refl _), Fs, hsep.size hu.size, hl, fun j X G hj hGj => ⟨(hA j X G hj hGj).1, (hA j X G hj hGj).1.keep (hA j X G hj hGj).2 hu (Dis.no _)⟩⟩
theorem Star.more (h : Star w0 w L) (hb : Below w.heap.size w w') : Star w0 w' L := h.upd (Upd.of_below hb _)
theorem Star.drewN (h : Star w0 w L) (n : Nat) : Star w0 (w.drewN n) L := h.upd ((Upd.refl _ _).drewN n)
theorem Star.alloc (h : Star w0 w L) (o : Obj) : Star w0 (w.alloc o) L := h.upd ((Upd.refl _ _).alloc o)
/-- A new one. -/
theorem Star.new {F : Blocks} (h : Star w0 w L) (hok : A.Ok) (ha : A w0.heap.size F w') (hu : Upd (fun _ => False) w w') (hF : ∀ k, F k → w.heap.size ≤ k) : Star w0 w' (A :: L) := by
  obtain ⟨hb, Fs, hsep, hl, hA⟩ := h
  refine ⟨below_upd hb hu (fun _ h => h.elim) (Nat.le_refl _), F :: Fs, hsep.new hu.size (fun k hk => ⟨hF k hk, (hok.in_ ha k hk).2⟩) hb.size, by simp [hl], fun j X G hj hGj => ?_⟩
  cases j with
  | zero =>
    simp only [List.getElem?_cons_zero, Option.some.injEq] at hj hGj
    subst hj hGj
    exact ⟨hok, ha⟩
  | succ j =>
    simp only [List.getElem?_cons_succ] at hj hGj
    exact ⟨(hA j X G hj hGj).1, (hA j X G hj hGj).1.keep (hA j X G hj hGj).2 hu (Dis.no _)⟩
theorem Star.tail (h : Star w0 w (A :: L)) : Star w0 w L := by
  obtain ⟨hb, Fs, hsep, hl, hA⟩ := h
  match Fs, hl with
  | F :: Fs, hl => exact ⟨hb, Fs, hsep.tail, by simpa using hl, fun j X G hj hGj => hA (j + 1) X G (by simpa using hj) (by simpa using hGj)⟩
theorem Star.perm2 (h : Star w0 w (A :: A' :: L)) : Star w0 w (A' :: A :: L) := by
  obtain ⟨hb, Fs, hsep, hl, hA⟩ := h
  match Fs, hl with
  | F :: G :: Fs, hl =>
    refine ⟨hb, G :: F :: Fs, ⟨fun X hX => hsep.in_ X (by
      rcases List.mem_cons.1 hX with h1 | h1
      · exact h1 ▸ by simp
      · rcases List.mem_cons.1 h1 with h2 | h2
        · exact h2 ▸ by simp
        · simp [h2]), ?_⟩, by simpa using hl, fun j X H hj hGj => ?_⟩
    · have := hsep.pair
      simp only [List.pairwise_cons, List.mem_cons, forall_eq_or_imp] at this ⊢
      exact ⟨⟨this.1.1.symm, this.2.1⟩, this.1.2, this.2.2⟩
    · match j with
      | 0 => exact hA 1 X H (by simpa using hj) (by simpa using hGj)
      | 1 => exact hA 0 X H (by simpa using hj) (by simpa using hGj)
      | j + 2 => exact hA (j + 2) X H (by simpa using hj) (by simpa using hGj)
theorem Star.hb (h : Star w0 w L) : w0.heap.size ≤ w.heap.size := h.below.size
end
/-- A call that turns one of them. -/
theorem star_call {P : Program} {f : FuncId} {args : Array Value} {w0 w : World} {L : List Asr} {A A' : Asr} {R : Ending → Prop} [hok : A'.Ok] (h : Star w0 w L) (i : Nat) (hi : L[i]? = some A)
    (hc : ∀ F, A w0.heap.size F w → w0.heap.size ≤ w.heap.size → Calls P f args w fun e w' => R e ∧ ∃ F', A' w0.heap.size F' w' ∧ Upd F w w' ∧ Grow w F F') :
    Calls P f args w fun e w' => R e ∧ Star w0 w' (L.set i A') := by
  obtain ⟨F, ha, hin, hk⟩ := h.at_ i hi
  refine (hc F ha h.hb).mono ?_
  rintro e w' ⟨hr, F', ha', hu, hg⟩
  exact ⟨hr, hk hok ha' hu hg⟩
/-- A row of one's own. -/
def RowA (e : TypeId) (size : Nat) (v : Value) (n : Nat) (xs : List Value) : Asr := fun B F w => w.ownsRow B e size v n xs ∧ F = OwnB v
instance (e : TypeId) (size : Nat) (v : Value) (n : Nat) (xs : List Value) : (RowA e size v n xs).Ok where
  in_ := fun ⟨h, hF⟩ => by rw [hF]; exact own_in h
  keep := fun ⟨h, hF⟩ hu hd => ⟨own_keep h hu (by rw [← hF]; exact hd), hF⟩
/-- A block that is known whole. -/
def BlkA (g : Nat) (t : TypeId) (cs : Array Value) : Asr := fun B F w => Blk w g t cs ∧ B ≤ g ∧ F = Just g
instance (g : Nat) (t : TypeId) (cs : Array Value) : (BlkA g t cs).Ok where
  in_ := fun ⟨h, hB, hF⟩ => by
    rw [hF]
    exact fun k hk => by
      obtain rfl : k = g := hk
      exact ⟨hB, h.lt⟩
  keep := fun ⟨h, hB, hF⟩ hu hd => ⟨h.keep hu (by rw [← hF]; exact hd), hB, hF⟩
section
variable {w0 w w' : World} {L : List Asr}
theorem Star.row {e : TypeId} {size : Nat} {v : Value} {n : Nat} {xs : List Value} (h : Star w0 w L) (i : Nat) (hi : L[i]? = some (RowA e size v n xs)) : w.ownsRow w0.heap.size e size v n xs := (h.of i hi).elim fun _ hx => hx.1.1
theorem Star.blk {g : Nat} {t : TypeId} {cs : Array Value} (h : Star w0 w L) (i : Nat) (hi : L[i]? = some (BlkA g t cs)) : Blk w g t cs := (h.of i hi).elim fun _ hx => hx.1.1
/-- A row that a call has made. -/
theorem Star.newRow {e : TypeId} {size : Nat} {v : Value} {n : Nat} {xs : List Value} (h : Star w0 w L) (ho : w'.ownsRow w.heap.size e size v n xs) (hb : Below w.heap.size w w') : Star w0 w' (RowA e size v n xs :: L) :=
  h.new (F := OwnB v) inferInstance ⟨own_mono ho h.hb, rfl⟩ (Upd.of_below hb _) (fun k hk => (own_in ho k hk).1)
/-- A block that was made just now. -/
theorem Star.newBlk (h : Star w0 w L) (t : TypeId) (cs : Array Value) : Star w0 (w.alloc (.cells cs t)) (BlkA w.heap.size t cs :: L) :=
  h.new (F := Just w.heap.size) inferInstance ⟨Blk.new w t cs, h.hb, rfl⟩ ((Upd.refl _ _).alloc _) (fun k hk => by rw [show k = w.heap.size from hk]; exact Nat.le_refl _)
/-- A store into a block. -/
theorem Star.setBlk {g : Nat} {t : TypeId} {cs : Array Value} (h : Star w0 w L) (i : Nat) (hi : L[i]? = some (BlkA g t cs)) (o : Nat) (u : Value) : Star w0 (w.setCell ⟨g, o, none⟩ u) (L.set i (BlkA g t (cs.setIfInBounds o u))) := by
  obtain ⟨F, ⟨hb, hB, hF⟩, hin, hk⟩ := h.at_ i hi
  subst hF
  exact hk inferInstance ⟨hb.set_ o u, hB, rfl⟩ (upd_set _ _ _ _) (Grow.refl _ _)
end
theorem ownB_some (g n c : Nat) (k : Nat) : OwnB (.slice (some ⟨g, 0, none⟩) n c) k ↔ k = g := by
  simp [OwnB, Value.ownBlock]
  exact ⟨fun h => h.symm, fun h => h.symm⟩
section
variable {P : Program} {w0 w w' : World} {L : List Asr} {base n cap g size : Nat} {e : TypeId} {xs : List Value}
/-- A row's cells turned, its block alone. -/
theorem Star.turnRow {xs' : List Value} (h : Star w0 w L) (i : Nat) (hi : L[i]? = some (RowA e size (.slice (some ⟨g, 0, none⟩) n cap) n xs)) (ho : w.ownsRow w0.heap.size e size (.slice (some ⟨g, 0, none⟩) n cap) n xs → w'.ownsRow w0.heap.size e size (.slice (some ⟨g, 0, none⟩) n cap) n xs') (hu : Upd (Just g) w w') :
    Star w0 w' (L.set i (RowA e size (.slice (some ⟨g, 0, none⟩) n cap) n xs')) := by
  obtain ⟨F, ⟨ha, hF⟩, hin, hk⟩ := h.at_ i hi
  subst hF
  exact hk inferInstance ⟨ho ha, rfl⟩ (hu.mono fun j _ hj => (ownB_some g n cap j).2 hj) (Grow.refl _ _)
/-- A store of one cell. -/
theorem Star.setRow (h : Star w0 w L) (i : Nat) (hi : L[i]? = some (RowA e size (.slice (some ⟨g, 0, none⟩) n cap) n xs)) (j : Nat) (u : Value) : Star w0 (w.setCell ⟨g, j, none⟩ u) (L.set i (RowA e size (.slice (some ⟨g, 0, none⟩) n cap) n (xs.set j u))) :=
  h.turnRow i hi (fun ho => (ho.stored j u).1) (upd_set _ _ _ _)
theorem wpList_copy_st {ops : Array Oper} {rest : List Oper} {o : Oper} {a : Act} {Q : Exit → Act → World → Prop} (hgd : o.guard = none) (d s : Operand) (dT sT : TypeId)
    (ho : o.op = .call { callee := .builtin .copy, args := #[d, s], argTypes := #[dT, sT] }) (elem : TypeId) (hu : P.underlying dT = some (.slice elem)) (hsz : (P.info? elem).map (·.size) = some 1)
    (h : Star w0 w L) (i : Nat) (hi : L[i]? = some (RowA e size (.slice (some ⟨g, 0, none⟩) n cap) n xs)) (dp : Option Addr) (dLen dCap off : Nat) (hd : a.eval d = .slice dp dLen dCap) (B : Nat) (A : Option Addr) (m c : Nat) (hs : a.eval s = .slice A m c) (vs : List Value) (hr : Reads w B 1 A m vs) (hm : m ≤ dLen)
    (hdp : 0 < m → dp = some ⟨g, off, none⟩) (hfit : off + m ≤ n * size) (h1 : ∀ u ∈ vs, u.oneCell' = true)
    (k : ∀ w', Star w0 w' (L.set i (RowA e size (.slice (some ⟨g, 0, none⟩) n cap) n (splice xs off vs))) → wpList P ops Q rest (a.put o.dst (goInt m)) w') : wpList P ops Q (o :: rest) a w :=
  wpList_copy_in hgd d s dT sT ho elem hu hsz (h.row i hi) dp dLen dCap off hd B A m c hs vs hr hm hdp hfit h1 fun w' h2 h3 _ => k w' (h.turnRow i hi (fun _ => h2) h3)
theorem wpList_store_st {ops : Array Oper} {rest : List Oper} {o : Oper} {a : Act} {Q : Exit → Act → World → Prop} (hgd : o.guard = none) (ty : TypeId) (x y : Operand) (ho : o.op = .store ty x y)
    (h : Star w0 w L) (i : Nat) (hi : L[i]? = some (RowA e size (.slice (some ⟨g, 0, none⟩) n cap) n xs)) (off : Nat) (cells : Array Value) (hx : a.eval x = .pointer (some ⟨g, off, none⟩)) (hy : a.eval y = .agg cells) (hfit : off + cells.size ≤ n * size) (hi2 : (P.info? ty).map (·.size) = some cells.size) (h1 : cells.all (·.oneCell') = true)
    (k : ∀ w', Star w0 w' (L.set i (RowA e size (.slice (some ⟨g, 0, none⟩) n cap) n (splice xs off cells.toList))) → wpList P ops Q rest (a.put o.dst undef) w') : wpList P ops Q (o :: rest) a w :=
  wpList_store_own hgd ty x y ho (h.row i hi) off cells hx hy hfit hi2 h1 fun w' h2 h3 _ => k w' (h.turnRow i hi (fun _ => h2) h3)
theorem wpList_append_st {ops : Array Oper} {rest : List Oper} {o : Oper} {a : Act} {Q : Exit → Act → World → Prop} (hgd : o.guard = none) (s x : Operand) (t : TypeId)
    (ho : o.op = .call { callee := .builtin .append, args := #[s, x], argTypes := #[t, t] })
    (h : Star w0 w L) (j : Nat) {v : Value} (hj : L[j]? = some (RowA e size v n xs)) (i : TypeInfo) (z : Value) (bytes : Nat) (ht : P.underlying t = some (.slice e)) (hi : P.info? e = some i) (hz : i.zero = some z)
    (hsize : i.size = size) (hby : i.bytes = bytes) (hzs : z.cells.size = size) (hsz : 0 < size) (hs : a.eval s = v)
    (B : Nat) (A : Option Addr) (m c : Nat) (news : List Value) (hx : a.eval x = .slice A m c) (hr : Reads w B size A m news) (h1 : ∀ u ∈ news, u.oneCell' = true)
    (h63 : n + m ≤ maxLen) (hbytes : (n + m) * bytes ≤ 140737488355328)
    (k : ∀ v' w', Star w0 w' (L.set j (RowA e size v' (n + m) (xs ++ news))) → wpList P ops Q rest (a.put o.dst v') w') : wpList P ops Q (o :: rest) a w := by
  obtain ⟨F, ⟨ha, hF⟩, hin, hk⟩ := h.at_ j hj
  subst hF
  exact wpList_append_any w hgd s x t ho w0.heap.size e i z size bytes ht hi hz hsize hby hzs hsz v n xs hs ha B A m c news hx hr h1 h63 hbytes h.hb fun v' w' h2 h3 h4 => k v' w' (hk inferInstance ⟨h2, rfl⟩ (grown_upd h3) (append_grow h4 (Nat.le_refl _)))
end
/-- A row that was laid just now. -/
theorem Star.litRow {w0 w : World} {L : List Asr} (h : Star w0 w L) (e : TypeId) (size : Nat) (cs : Array Value) (n : Nat) (hm : n ≤ maxLen) (hs : cs.size = n * size) : Star w0 (w.alloc (.cells cs e)) (RowA e size (.slice (some ⟨w.heap.size, 0, none⟩) n n) n cs.toList :: L) :=
  h.newRow (World.ownsRow_lit w cs n (Nat.le_refl _) hm hs) ((Below.refl _ _).alloc (Nat.le_refl _) _)
/-- The nil row. -/
theorem Star.nilRow {w0 w : World} {L : List Asr} (h : Star w0 w L) (e : TypeId) (size : Nat) : Star w0 w (RowA e size (.slice none 0 0) 0 [] :: L) :=
  h.newRow (World.ownsRow_nil _ _ _ _) (Below.refl _ _)
theorem Star.reads {w0 w : World} {L : List Asr} {e : TypeId} {size n c : Nat} {A : Option Addr} {xs : List Value} (h : Star w0 w L) (i : Nat) (hi : L[i]? = some (RowA e size (.slice A n c) n xs)) : Reads w w.heap.size size A n xs := Reads.of_own (h.row i hi)
/-- A struct is stored whole into a block that was made just now. -/
theorem wpList_box_st {P : Program} {w0 W : World} {L : List Asr} {ops : Array Oper} {rest : List Oper} {o : Oper} {a : Act} {Q : Exit → Act → World → Prop} {Z : Array Value} (hgd : o.guard = none) (ty : TypeId) (x y : Operand) (ho : o.op = .store ty x y)
    (hs : Star w0 W L) (cells : Array Value) (hx : a.eval x = .pointer (some ⟨W.heap.size, 0, none⟩)) (hy : a.eval y = .agg cells) (hi : (P.info? ty).map (·.size) = some cells.size)
    (hold : Z.size = cells.size) (h1 : cells.all (·.oneCell') = true)
    (h : ∀ W', Star w0 W' (BlkA W.heap.size ty cells :: L) → wpList P ops Q rest (a.put o.dst undef) W') : wpList P ops Q (o :: rest) a (W.alloc (.cells Z ty)) :=
  wpList_box hgd ty x y ho cells hx hy hi hold h1 fun W' hb hu _ => h W' (hs.new (A := BlkA W.heap.size ty cells) (F := Just W.heap.size) inferInstance ⟨hb, hs.hb, rfl⟩ hu (fun k hk => by rw [show k = W.heap.size from hk]; exact Nat.le_refl _))
end Go.Proofs.Ytojmhacafmpbgaa.Mem
