/-
  Assertions over the heap: a list of what a world holds, each in blocks of its own. No program in sight.
-/
import Derived.Test.YtobldgdfejpckaaVcShapes
import Derived.Maps.AppendAt
import Derived.ArgAppend
set_option linter.all false
set_option linter.unusedVariables false
namespace Go.Vc

/-- the same outside of memory -/
structure Same (w w' : World) : Prop where
  os : w'.os = w.os
  tape : w'.tape = w.tape
  output : w'.output = w.output
theorem Same.refl (w : World) : Same w w := ⟨rfl, rfl, rfl⟩
theorem Same.trans {a b c : World} (h : Same a b) (k : Same b c) : Same a c := ⟨k.os.trans h.os, k.tape.trans h.tape, k.output.trans h.output⟩
theorem Same.alloc (w : World) (o : Obj) : Same w (w.alloc o) := ⟨rfl, rfl, rfl⟩
theorem Same.drew (w : World) : Same w w.drew := ⟨rfl, rfl, rfl⟩
theorem Same.setCell (w : World) (a : Addr) (v : Value) : Same w (w.setCell a v) := ⟨rfl, rfl, rfl⟩
theorem Same.puts (a : Addr) : ∀ (vs : List Value) (i : Nat) (w : World), Same w (puts w a vs i)
  | [], _, w => .refl w
  | v :: vs, i, w => (Same.setCell w (a.add i) v).trans (Same.puts a vs (i + 1) _)

structure HA where
  pr : World → (Nat → Prop) → Prop
  lt : ∀ w F, pr w F → ∀ b, F b → b < w.heap.size
  st : ∀ w w' F, Same w w' → pr w F → (∀ b, F b → w'.heap[b]? = w.heap[b]?) → pr w' F

def HA.own (b : Nat) (o : Obj) : HA where
  pr w F := w.heap[b]? = some o ∧ ∀ c, F c ↔ c = b
  lt w F h b' hb := by
    have e := (h.2 b').1 hb
    subst e
    exact (Array.getElem?_eq_some_iff.1 h.1).1
  st w w' F s h k := ⟨(k b ((h.2 b).2 rfl)).trans h.1, h.2⟩
abbrev cellsA (b : Nat) (cs : List Value) (T : TypeId) : HA := HA.own b (.cells cs.toArray T)

def HA.emp : HA where
  pr _ F := ∀ b, ¬F b
  lt _ _ h b hb := (h b hb).elim
  st _ _ _ _ h _ := h

def HA.sep (A B : HA) : HA where
  pr w F := ∃ F1 F2, A.pr w F1 ∧ B.pr w F2 ∧ (∀ b, F1 b → F2 b → False) ∧ ∀ b, F b ↔ F1 b ∨ F2 b
  lt w F h b hb := by
    obtain ⟨F1, F2, h1, h2, _, h4⟩ := h
    rcases (h4 b).1 hb with k | k
    · exact A.lt _ _ h1 _ k
    · exact B.lt _ _ h2 _ k
  st w w' F s h k := by
    obtain ⟨F1, F2, h1, h2, h3, h4⟩ := h
    exact ⟨F1, F2, A.st _ _ _ s h1 fun b hb => k b ((h4 b).2 (.inl hb)), B.st _ _ _ s h2 fun b hb => k b ((h4 b).2 (.inr hb)), h3, h4⟩

def HA.pure (p : Prop) : HA where
  pr _ F := p ∧ ∀ b, ¬F b
  lt _ _ h b hb := (h.2 b hb).elim
  st _ _ _ _ h _ := h

def HA.ex {α : Type} (f : α → HA) : HA where
  pr w F := ∃ x, (f x).pr w F
  lt w F h b hb := h.elim fun x hx => (f x).lt _ _ hx _ hb
  st w w' F s h k := h.elim fun x hx => ⟨x, (f x).st _ _ _ s hx k⟩

/-- What was there at the start, as it was. -/
def HA.old (w0 : World) : HA where
  pr w F := (∀ b, b < w0.heap.size → w.heap[b]? = w0.heap[b]?) ∧ (∀ b, F b ↔ b < w0.heap.size) ∧ Same w0 w
  lt w F h b hb := by
    have hb := (h.2.1 b).1 hb
    have e := h.1 b hb
    rw [Array.getElem?_eq_getElem hb] at e
    exact (Array.getElem?_eq_some_iff.1 e).1
  st w w' F s h k := ⟨fun b hb => (k b ((h.2.1 b).2 hb)).trans (h.1 b hb), h.2.1, h.2.2.trans s⟩

def sepL : List HA → HA
  | [] => .emp
  | A :: H => .sep A (sepL H)

def St (w : World) (H : List HA) : Prop := ∃ F, (sepL H).pr w F

section
variable {w w' : World} {H H' : List HA} {A B C D E G I J : HA}

theorem sep_emp {w : World} {A : HA} {F : Nat → Prop} (h : A.pr w F) : ∃ F', (HA.sep A .emp).pr w F' := ⟨F, F, fun _ => False, h, fun _ h => h, fun _ _ h => h, fun _ => by simp⟩

theorem St.swap (h : St w (A :: B :: H)) : St w (B :: A :: H) := by
  obtain ⟨F, F1, F2, hA, ⟨F3, F4, hB, hH, d2, e2⟩, d1, e1⟩ := h
  refine ⟨fun b => F3 b ∨ (F1 b ∨ F4 b), F3, fun b => F1 b ∨ F4 b, hB, ⟨F1, F4, hA, hH, fun b h1 h4 => d1 b h1 ((e2 b).2 (.inr h4)), fun _ => Iff.rfl⟩, ?_, fun _ => Iff.rfl⟩
  rintro b h3 (h1 | h4)
  · exact d1 b h1 ((e2 b).2 (.inl h3))
  · exact d2 b h3 h4
theorem St.drop (h : St w (A :: H)) : St w H := by
  obtain ⟨F, F1, F2, hA, hH, _⟩ := h
  exact ⟨F2, hH⟩
/-- A change of the tail that keeps inside its blocks. -/
def Imp (w : World) (H H' : List HA) : Prop := ∀ F, (sepL H).pr w F → ∃ F', (sepL H').pr w F' ∧ ∀ b, F' b → F b
theorem Imp.st (h : St w H) (k : Imp w H H') : St w H' := by
  obtain ⟨F, hF⟩ := h
  obtain ⟨F', h', _⟩ := k F hF
  exact ⟨F', h'⟩
theorem Imp.cons (k : Imp w H H') : Imp w (A :: H) (A :: H') := by
  rintro F ⟨F1, F2, hA, hH, d1, e1⟩
  obtain ⟨F', h', s⟩ := k F2 hH
  exact ⟨fun b => F1 b ∨ F' b, ⟨F1, F', hA, h', fun b h1 h2 => d1 b h1 (s b h2), fun _ => Iff.rfl⟩, fun b h => (e1 b).2 (h.imp id (s b))⟩
theorem Imp.swap : Imp w (A :: B :: H) (B :: A :: H) := by
  rintro F ⟨F1, F2, hA, ⟨F3, F4, hB, hH, d2, e2⟩, d1, e1⟩
  refine ⟨fun b => F3 b ∨ (F1 b ∨ F4 b), ⟨F3, fun b => F1 b ∨ F4 b, hB, ⟨F1, F4, hA, hH, fun b h1 h4 => d1 b h1 ((e2 b).2 (.inr h4)), fun _ => Iff.rfl⟩, ?_, fun _ => Iff.rfl⟩, ?_⟩
  · rintro b h3 (h1 | h4)
    · exact d1 b h1 ((e2 b).2 (.inl h3))
    · exact d2 b h3 h4
  · rintro b (h3 | h1 | h4)
    · exact (e1 b).2 (.inr ((e2 b).2 (.inl h3)))
    · exact (e1 b).2 (.inl h1)
    · exact (e1 b).2 (.inr ((e2 b).2 (.inr h4)))
theorem Imp.refl : Imp w H H := fun F h => ⟨F, h, fun _ h => h⟩
theorem Imp.trans {H1 H2 H3 : List HA} (a : Imp w H1 H2) (b : Imp w H2 H3) : Imp w H1 H3 := fun F h => by
  obtain ⟨F', h', s⟩ := a F h
  obtain ⟨F'', h'', s'⟩ := b F' h'
  exact ⟨F'', h'', fun b hb => s b (s' b hb)⟩

theorem St.g1 (h : St w (A :: B :: H)) : St w (B :: A :: H) := h.swap
theorem Imp.pull {B : HA} : ∀ (L : List HA), Imp w (L ++ B :: H) (B :: (L ++ H))
  | [] => Imp.refl
  | A :: L => (Imp.cons (Imp.pull L)).trans Imp.swap
theorem St.g2 (h : St w (A :: B :: C :: H)) : St w (C :: A :: B :: H) := (Imp.pull [A, B]).st h
theorem St.g3 (h : St w (A :: B :: C :: D :: H)) : St w (D :: A :: B :: C :: H) := (Imp.pull [A, B, C]).st h
theorem St.g4 (h : St w (A :: B :: C :: D :: E :: H)) : St w (E :: A :: B :: C :: D :: H) := (Imp.pull [A, B, C, D]).st h
theorem St.g5 (h : St w (A :: B :: C :: D :: E :: G :: H)) : St w (G :: A :: B :: C :: D :: E :: H) := (Imp.pull [A, B, C, D, E]).st h
theorem St.g6 (h : St w (A :: B :: C :: D :: E :: G :: I :: H)) : St w (I :: A :: B :: C :: D :: E :: G :: H) := (Imp.pull [A, B, C, D, E, G]).st h
theorem St.g7 (h : St w (A :: B :: C :: D :: E :: G :: I :: J :: H)) : St w (J :: A :: B :: C :: D :: E :: G :: I :: H) := (Imp.pull [A, B, C, D, E, G, I]).st h

theorem St.heap (h : St w H) (s : Same w w') (e : w'.heap = w.heap) : St w' H := by
  obtain ⟨F, hF⟩ := h
  exact ⟨F, (sepL H).st _ _ _ s hF fun b _ => by rw [e]⟩
theorem St.drew (h : St w H) : St w.drew H := h.heap (.drew w) rfl

theorem St.grow (h : St w H) (s : Same w w') (e : ∀ b, b < w.heap.size → w'.heap[b]? = w.heap[b]?) : St w' H := by
  obtain ⟨F, hF⟩ := h
  exact ⟨F, (sepL H).st _ _ _ s hF fun b hb => e b ((sepL H).lt _ _ hF b hb)⟩

/-- A new block: what has come is in blocks that were not there. -/
theorem St.add (h : St w H) (s : Same w w') (e : ∀ b, b < w.heap.size → w'.heap[b]? = w.heap[b]?) {F : Nat → Prop} (hA : A.pr w' F) (hF : ∀ b, F b → w.heap.size ≤ b) : St w' (A :: H) := by
  obtain ⟨F', hF'⟩ := h
  refine ⟨fun b => F b ∨ F' b, F, F', hA, (sepL H).st _ _ _ s hF' fun b hb => e b ((sepL H).lt _ _ hF' b hb), ?_, fun _ => Iff.rfl⟩
  intro b h1 h2
  have := (sepL H).lt _ _ hF' b h2
  have := hF b h1
  omega

/-- What stood in its blocks has changed there, or has moved to new ones. -/
theorem St.turn (h : St w (A :: H)) (s : Same w w') (k : ∀ F, A.pr w F → ∃ F', B.pr w' F' ∧ (∀ b, F' b → F b ∨ w.heap.size ≤ b) ∧ ∀ b, b < w.heap.size → ¬F b → w'.heap[b]? = w.heap[b]?) : St w' (B :: H) := by
  obtain ⟨F, F1, F2, hA, hH, d1, e1⟩ := h
  obtain ⟨F', hB, sub, e⟩ := k F1 hA
  refine ⟨fun b => F' b ∨ F2 b, F', F2, hB, (sepL H).st _ _ _ s hH fun b hb => e b ((sepL H).lt _ _ hH b hb) (fun h1 => d1 b h1 hb), ?_, fun _ => Iff.rfl⟩
  intro b h1 h2
  have := (sepL H).lt _ _ hH b h2
  rcases sub b h1 with h | h
  · exact d1 b h h2
  · omega

theorem St.imp1 (h : St w (A :: H)) (k : ∀ F, A.pr w F → B.pr w F) : St w (B :: H) :=
  h.turn (.refl w) fun F hA => ⟨F, k F hA, fun _ h => .inl h, fun _ _ _ => rfl⟩

theorem St.unsep (h : St w (.sep A B :: H)) : St w (A :: B :: H) := by
  obtain ⟨F, F1, F2, ⟨F3, F4, hA, hB, d2, e2⟩, hH, d1, e1⟩ := h
  refine ⟨fun b => F3 b ∨ (F4 b ∨ F2 b), F3, fun b => F4 b ∨ F2 b, hA, ⟨F4, F2, hB, hH, fun b h4 h2 => d1 b ((e2 b).2 (.inr h4)) h2, fun _ => Iff.rfl⟩, ?_, fun _ => Iff.rfl⟩
  rintro b h3 (h4 | h2)
  · exact d2 b h3 h4
  · exact d1 b ((e2 b).2 (.inl h3)) h2
theorem St.mksep (h : St w (A :: B :: H)) : St w (.sep A B :: H) := by
  obtain ⟨F, F1, F2, hA, ⟨F3, F4, hB, hH, d2, e2⟩, d1, e1⟩ := h
  refine ⟨fun b => (F1 b ∨ F3 b) ∨ F4 b, fun b => F1 b ∨ F3 b, F4, ⟨F1, F3, hA, hB, fun b h1 h3 => d1 b h1 ((e2 b).2 (.inl h3)), fun _ => Iff.rfl⟩, hH, ?_, fun _ => Iff.rfl⟩
  rintro b (h1 | h3) h4
  · exact d1 b h1 ((e2 b).2 (.inr h4))
  · exact d2 b h3 h4
theorem St.unex {α : Type} {f : α → HA} (h : St w (.ex f :: H)) : ∃ x, St w (f x :: H) := by
  obtain ⟨F, F1, F2, ⟨x, hA⟩, r⟩ := h
  exact ⟨x, F, F1, F2, hA, r⟩
theorem St.mkex {α : Type} {f : α → HA} (x : α) (h : St w (f x :: H)) : St w (.ex f :: H) := by
  obtain ⟨F, F1, F2, hA, r⟩ := h
  exact ⟨F, F1, F2, ⟨x, hA⟩, r⟩
theorem St.unpure {p : Prop} (h : St w (.pure p :: H)) : p ∧ St w H := by
  obtain ⟨F, F1, F2, ⟨hp, _⟩, hH, _⟩ := h
  exact ⟨hp, F2, hH⟩
theorem St.mkpure {p : Prop} (hp : p) (h : St w H) : St w (.pure p :: H) := by
  obtain ⟨F, hF⟩ := h
  exact ⟨F, fun _ => False, F, ⟨hp, fun _ h => h⟩, hF, fun _ h _ => h, fun _ => by simp⟩
theorem St.own {b : Nat} {o : Obj} (h : St w (.own b o :: H)) : w.heap[b]? = some o := by
  obtain ⟨F, F1, F2, ⟨h, _⟩, _⟩ := h
  exact h
theorem St.old {w0 : World} (h : St w (.old w0 :: H)) {b : Nat} (hb : b < w0.heap.size) : w.heap[b]? = w0.heap[b]? := by
  obtain ⟨F, F1, F2, ⟨h, _⟩, _⟩ := h
  exact h b hb
theorem St.oldSame {w0 : World} (h : St w (.old w0 :: H)) : Same w0 w := by
  obtain ⟨F, F1, F2, ⟨_, _, h⟩, _⟩ := h
  exact h
theorem St.oldSize {w0 : World} (h : St w (.old w0 :: H)) : w0.heap.size ≤ w.heap.size := by
  obtain ⟨F, F1, F2, h, _⟩ := h
  refine Nat.le_of_not_lt fun hl => ?_
  have := (HA.old w0).lt _ _ h w.heap.size ((h.2.1 _).2 hl)
  omega
theorem St.start (w : World) : St w [.old w] :=
  ⟨fun b => b < w.heap.size, fun b => b < w.heap.size, fun _ => False, ⟨fun _ _ => rfl, fun _ => Iff.rfl, .refl w⟩, fun _ h => h, fun _ _ h => h, fun _ => by simp⟩
end

/-! ### one block among them -/
class CellsIn (b : Nat) (H : List HA) (cs : outParam (List Value)) (T : outParam TypeId) (H' : outParam (List HA)) : Prop where
  imp : ∀ w, Imp w H (cellsA b cs T :: H')
instance (priority := 2000) CellsIn.head {b cs T H} : CellsIn b (cellsA b cs T :: H) cs T H := ⟨fun _ => Imp.refl⟩
instance (priority := 100) CellsIn.tail {b cs T A H H'} [k : CellsIn b H cs T H'] : CellsIn b (A :: H) cs T (A :: H') := ⟨fun w => (Imp.cons (k.imp w)).trans Imp.swap⟩

def putL (cs : List Value) : Nat → List Value → List Value
  | _, [] => cs
  | i, v :: vs => putL (cs.set i v) (i + 1) vs

section
variable {w : World} {H H' : List HA} {b : Nat} {cs : List Value} {T : TypeId}

theorem cell_of_cells (h : St w (cellsA b cs T :: H)) (i : Nat) : w.cell? ⟨b, i, none⟩ = cs[i]? := by
  simp [World.cell?, h.own]
theorem froz_of_cells (h : St w (cellsA b cs T :: H)) (i : Nat) : w.frozen? ⟨b, i, none⟩ = false := by
  simp [World.frozen?, h.own]
theorem add_lit (b o i : Nat) : (⟨b, o, none⟩ : Addr).add i = ⟨b, o + i, none⟩ := by unfold Addr.add; split <;> simp_all

/-- load -/
theorem St.ldn {α : Type} {val : α → Value} {x : α} {n o : Nat} {K : α → Prop} [c : CellsIn b H cs T H'] (h : St w H)
    (hx : (cs.drop o).take n = (val x).cells.toList) (hn : (val x).cells.size = n) (k : K x) : loadP w ⟨b, o, none⟩ n val K := by
  have h' := (c.imp w).st h
  refine ⟨x, ⟨hn, fun i hi => ?_⟩, k⟩
  rw [add_lit, cell_of_cells h']
  rw [← Array.getElem?_toList, ← hx, List.getElem?_take, if_pos hi, List.getElem?_drop]
theorem St.ldna {α : Type} {val : α → Value} {x : α} {n o i : Nat} {K : α → Prop} [c : CellsIn b H cs T H'] (h : St w H)
    (hx : (cs.drop (o + i)).take n = (val x).cells.toList) (hn : (val x).cells.size = n) (k : K x) : loadP w ((⟨b, o, none⟩ : Addr).add i) n val K := by
  rw [add_lit]; exact h.ldn hx hn k

class One {α : Type} (val : α → Value) : Prop where
  one : ∀ x, (val x).cells = #[val x]
instance (k : IntKind) : One (Value.int k) := ⟨fun _ => rfl⟩
instance : One Value.bool := ⟨fun _ => rfl⟩
instance : One Value.string := ⟨fun _ => rfl⟩
instance : One Value.pointer := ⟨fun _ => rfl⟩
instance : One Value.map := ⟨fun _ => rfl⟩
instance : One SlV.val := ⟨fun _ => rfl⟩
instance : One FnV.val := ⟨fun _ => rfl⟩

theorem St.ld {α : Type} {val : α → Value} {x : α} {o : Nat} {K : α → Prop} [o1 : One val] [c : CellsIn b H cs T H'] (h : St w H)
    (hx : cs[o]? = some (val x)) (k : K x) : loadP w ⟨b, o, none⟩ 1 val K := by
  refine h.ldn (x := x) ?_ (by rw [o1.one]; rfl) k
  rw [o1.one]
  have hl : o < cs.length := (List.getElem?_eq_some_iff.1 hx).1
  have he := (List.getElem?_eq_some_iff.1 hx).2
  rw [List.drop_eq_getElem_cons hl, he]
  rfl
theorem St.lda {α : Type} {val : α → Value} {x : α} {o i : Nat} {K : α → Prop} [o1 : One val] [c : CellsIn b H cs T H'] (h : St w H)
    (hx : cs[o + i]? = some (val x)) (k : K x) : loadP w ((⟨b, o, none⟩ : Addr).add i) 1 val K := by
  rw [add_lit]; exact h.ld hx k
theorem St.ldaa {α : Type} {val : α → Value} {x : α} {o i j : Nat} {K : α → Prop} [o1 : One val] [c : CellsIn b H cs T H'] (h : St w H)
    (hx : cs[o + i + j]? = some (val x)) (k : K x) : loadP w (((⟨b, o, none⟩ : Addr).add i).add j) 1 val K := by
  rw [add_lit, add_lit]; exact h.ld hx k

/-- new block -/
theorem St.nw {cs : Array Value} {K : Nat → World → Prop} (h : St w H) (k : ∀ b w', St w' (cellsA b cs.toList T :: H) → K b w') : newP w (.cells cs T) K := by
  refine ⟨k _ _ ?_⟩
  refine h.add (.alloc w _) (fun b hb => heap_alloc_old w _ b hb) (F := fun c => c = w.heap.size) ⟨?_, fun _ => Iff.rfl⟩ (fun b hb => by omega)
  rw [heap_alloc_new]
theorem St.nwg {cs : Array Value} {K : Nat → World → Prop} (h : St w H) (k : ∀ b w', St w' (cellsA b cs.toList T :: H) → (∀ c, c < w.heap.size → w'.heap[c]? = w.heap[c]?) → K b w') : newP w (.cells cs T) K := by
  refine ⟨k _ _ ?_ fun b hb => heap_alloc_old w _ b hb⟩
  refine h.add (.alloc w _) (fun b hb => heap_alloc_old w _ b hb) (F := fun c => c = w.heap.size) ⟨?_, fun _ => Iff.rfl⟩ (fun b hb => by omega)
  rw [heap_alloc_new]
theorem St.nwo {o : Obj} {K : Nat → World → Prop} (h : St w H) (k : ∀ b w', St w' (.own b o :: H) → K b w') : newP w o K := by
  refine ⟨k _ _ ?_⟩
  exact h.add (.alloc w _) (fun b hb => heap_alloc_old w _ b hb) (F := fun c => c = w.heap.size) ⟨heap_alloc_new w o, fun _ => Iff.rfl⟩ (fun b hb => by omega)

/-- store -/
theorem setCell_heap_same {w : World} {b o : Nat} {cs : List Value} {T : TypeId} (v : Value) (h : w.heap[b]? = some (.cells cs.toArray T)) :
    (w.setCell ⟨b, o, none⟩ v).heap[b]? = some (.cells (cs.set o v).toArray T) := by
  have hb := (Array.getElem?_eq_some_iff.1 h).1
  have he := (Array.getElem?_eq_some_iff.1 h).2
  simp [World.setCell, Array.getElem_modify, hb, he]
theorem setCell_heap_other {w : World} {a : Addr} {c : Nat} (v : Value) (h : c ≠ a.block) : (w.setCell a v).heap[c]? = w.heap[c]? := by
  simp [World.setCell, Array.getElem?_modify, Ne.symm h]
theorem puts_heap {b : Nat} {T : TypeId} (o : Nat) : ∀ (vs : List Value) (i : Nat) (w : World) (cs : List Value), w.heap[b]? = some (.cells cs.toArray T) →
    (puts w ⟨b, o, none⟩ vs i).heap[b]? = some (.cells (putL cs (o + i) vs).toArray T) ∧ ∀ c, c ≠ b → (puts w ⟨b, o, none⟩ vs i).heap[c]? = w.heap[c]?
  | [], i, w, cs, h => ⟨h, fun _ _ => rfl⟩
  | v :: vs, i, w, cs, h => by
    have h1 := puts_heap o vs (i + 1) (w.setCell ((⟨b, o, none⟩ : Addr).add i) v) (cs.set (o + i) v) (by rw [add_lit]; exact setCell_heap_same v h)
    refine ⟨h1.1, fun c hc => (h1.2 c hc).trans ?_⟩
    rw [add_lit]
    exact setCell_heap_other v hc
theorem St.stn {v : Value} {n o : Nat} {K : World → Prop} [c : CellsIn b H cs T H'] (h : St w H)
    (hn : v.cells.size = n) (h1 : v.cells.toList.all (·.oneCell') = true) (hl : o + n ≤ cs.length) (k : ∀ w', St w' (cellsA b (putL cs o v.cells.toList) T :: H') → K w') : storeP w ⟨b, o, none⟩ n v K := by
  have h' := (c.imp w).st h
  refine ⟨⟨hn, h1, fun i hi => ?_⟩, k _ ?_⟩
  · rw [add_lit, cell_of_cells h', froz_of_cells h']
    refine ⟨?_, rfl⟩
    rw [List.getElem?_eq_getElem (by omega)]
    rfl
  · refine h'.turn (.puts _ _ _ _) fun F hF => ?_
    have hp := puts_heap o v.cells.toList 0 w cs hF.1
    exact ⟨F, ⟨hp.1, hF.2⟩, fun _ h => .inl h, fun c _ hc => hp.2 c fun e => hc ((hF.2 c).2 e)⟩
theorem St.stna {v : Value} {n o i : Nat} {K : World → Prop} [c : CellsIn b H cs T H'] (h : St w H)
    (hn : v.cells.size = n) (h1 : v.cells.toList.all (·.oneCell') = true) (hl : o + i + n ≤ cs.length) (k : ∀ w', St w' (cellsA b (putL cs (o + i) v.cells.toList) T :: H') → K w') : storeP w ((⟨b, o, none⟩ : Addr).add i) n v K := by
  rw [add_lit]; exact h.stn hn h1 hl k
theorem St.stnaa {v : Value} {n o i j : Nat} {K : World → Prop} [c : CellsIn b H cs T H'] (h : St w H)
    (hn : v.cells.size = n) (h1 : v.cells.toList.all (·.oneCell') = true) (hl : o + i + j + n ≤ cs.length) (k : ∀ w', St w' (cellsA b (putL cs (o + i + j) v.cells.toList) T :: H') → K w') : storeP w (((⟨b, o, none⟩ : Addr).add i).add j) n v K := by
  rw [add_lit, add_lit]; exact h.stn hn h1 hl k
end

/-! ### small combinators -/
theorem cond_t {A B : Prop} {b : Bool} (hb : b = true) (h : A) : cond' b A B := by subst hb; exact h
theorem cond_f {A B : Prop} {b : Bool} (hb : b = false) (h : B) : cond' b A B := by subst hb; exact h
theorem cond_i {A B : Prop} {b : Bool} (h1 : b = true → A) (h2 : b = false → B) : cond' b A B := by
  cases b
  · exact h2 rfl
  · exact h1 rfl
theorem chk_i {A : Prop} {b : Bool} (hb : b = true) (h : A) : chkP b A := by subst hb; exact h
theorem inR_i {i : Int} {n : Nat} (h0 : 0 ≤ i) (h1 : i < n) : inR i n = true := by simp [inR, h0, h1]
theorem leR_i {a b : Int} (h0 : 0 ≤ a) (h1 : a ≤ b) : leR a b = true := by simp [leR, h0, h1]
theorem cut_i {σ : Type} {A : (σ → World → Prop) → Prop} {B : (Nat → Value) → σ → World → Prop} (J : σ → World → Prop) (hA : A J) (hB : ∀ g s w, J s w → B g s w) : cutP σ A B := ⟨J, hA, hB⟩
theorem loop_i {σ : Type} {s0 : σ} {w0 : World} {B : (σ → World → Prop) → (Nat → Value) → σ → World → Prop} (I : σ → World → Prop) (μ : σ → World → Nat) (h0 : I s0 w0)
    (hB : ∀ g s w, I s w → B (fun s' w' => I s' w' ∧ μ s' w' < μ s w) g s w) : loopP σ s0 w0 B := ⟨I, μ, h0, hB⟩
end Go.Vc
