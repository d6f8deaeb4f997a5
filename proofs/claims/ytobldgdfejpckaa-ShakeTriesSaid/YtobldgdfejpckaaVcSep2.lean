/-
  Slices that are owned, slices that are read; append. No program in sight.
-/
import Derived.Test.YtobldgdfejpckaaVcSep
set_option linter.all false
set_option linter.unusedVariables false
namespace Go.Vc

def flat {α : Type} (val : α → Value) (xs : List α) : List Value := (xs.map fun x => (val x).cells.toList).flatten

/-- The shape of values whose cells are n, each one cell. -/
class Wide {α : Type} (val : α → Value) (n : Nat) : Prop where
  size : ∀ x, (val x).cells.size = n
  ones : ∀ x, (val x).cells.toList.all (·.oneCell') = true
instance (k : IntKind) : Wide (Value.int k) 1 := ⟨fun _ => rfl, fun _ => rfl⟩
instance : Wide Value.bool 1 := ⟨fun _ => rfl, fun _ => rfl⟩
instance : Wide Value.string 1 := ⟨fun _ => rfl, fun _ => rfl⟩
instance : Wide Value.pointer 1 := ⟨fun _ => rfl, fun _ => rfl⟩
instance : Wide Value.map 1 := ⟨fun _ => rfl, fun _ => rfl⟩
instance : Wide SlV.val 1 := ⟨fun _ => rfl, fun _ => rfl⟩

section
variable {α : Type} {val : α → Value} {n : Nat}
theorem flat_nil : flat val [] = [] := rfl
theorem flat_append (xs ys : List α) : flat val (xs ++ ys) = flat val xs ++ flat val ys := by simp [flat]
theorem flat_cons (x : α) (ys : List α) : flat val (x :: ys) = (val x).cells.toList ++ flat val ys := by simp [flat]
theorem flat_length [h : Wide val n] (xs : List α) : (flat val xs).length = xs.length * n := by
  induction xs with
  | nil => simp [flat]
  | cons x xs ih => rw [flat_cons, List.length_append, ih, Array.length_toList, h.size, List.length_cons, Nat.add_mul]; omega
theorem flat_ones [h : Wide val n] (xs : List α) : ∀ u ∈ flat val xs, u.oneCell' = true := by
  intro u hu
  simp only [flat, List.mem_flatten, List.mem_map] at hu
  obtain ⟨l, ⟨x, _, rfl⟩, hu⟩ := hu
  exact List.all_eq_true.1 (h.ones x) u hu
theorem flat_drop [h : Wide val n] : ∀ (xs : List α) (i : Nat), (flat val xs).drop (i * n) = flat val (xs.drop i)
  | xs, 0 => by simp
  | [], i + 1 => by simp [flat]
  | x :: xs, i + 1 => by
    rw [flat_cons, List.drop_succ_cons, ← flat_drop xs i, show (i + 1) * n = (val x).cells.toList.length + i * n by rw [Array.length_toList, h.size, Nat.add_mul]; omega, List.drop_length_add_append]
theorem flat_take [h : Wide val n] : ∀ (xs : List α) (i : Nat), (flat val xs).take (i * n) = flat val (xs.take i)
  | xs, 0 => by simp [flat]
  | [], i + 1 => by simp [flat]
  | x :: xs, i + 1 => by
    rw [flat_cons, List.take_succ_cons, flat_cons, ← flat_take xs i, show (i + 1) * n = (val x).cells.toList.length + i * n by rw [Array.length_toList, h.size, Nat.add_mul]; omega, List.take_length_add_append]
theorem flat_at [h : Wide val n] {xs : List α} {i : Nat} {x : α} (hx : xs[i]? = some x) : ((flat val xs).drop (i * n)).take n = (val x).cells.toList := by
  have hl := (List.getElem?_eq_some_iff.1 hx).1
  have he := (List.getElem?_eq_some_iff.1 hx).2
  rw [flat_drop (h := h), List.drop_eq_getElem_cons hl, he, flat_cons]
  have := h.size x
  rw [← this, ← Array.length_toList, List.take_left]
end

/-- The cells that a slice shows are these. -/
def Rows {α : Type} (n : Nat) (val : α → Value) (s : SlV) (xs : List α) (cs : List Value) (off : Nat) : Prop :=
  off + s.cap * n ≤ cs.length ∧ (cs.drop off).take (s.len * n) = flat val xs
def SlN {α : Type} (s : SlV) (xs : List α) : Prop := s.len = xs.length ∧ s.len ≤ s.cap ∧ s.cap ≤ maxLen

/-- A slice of the call's own. -/
def SlO {α : Type} (n : Nat) (val : α → Value) (s : SlV) (xs : List α) : HA where
  pr w F := SlN s xs ∧ ((s.a = none ∧ s.cap = 0 ∧ ∀ b, ¬F b) ∨ ∃ b off cs T, s.a = some ⟨b, off, none⟩ ∧ Rows n val s xs cs off ∧ w.heap[b]? = some (.cells cs.toArray T) ∧ ∀ c, F c ↔ c = b)
  lt w F h b hb := by
    rcases h.2 with ⟨_, _, h⟩ | ⟨b', off, cs, T, _, _, h1, h2⟩
    · exact (h b hb).elim
    · have := (h2 b).1 hb
      subst this
      exact (Array.getElem?_eq_some_iff.1 h1).1
  st w w' F s h k := by
    refine ⟨h.1, ?_⟩
    rcases h.2 with h | ⟨b', off, cs, T, e1, e2, h1, h2⟩
    · exact .inl h
    · exact .inr ⟨b', off, cs, T, e1, e2, (k b' ((h2 b').2 rfl)).trans h1, h2⟩

/-- A slice that reads so. -/
def Sl {α : Type} (w : World) (n : Nat) (val : α → Value) (s : SlV) (xs : List α) : Prop :=
  SlN s xs ∧ (s.cap = 0 ∨ ∃ b off cs T fz, s.a = some ⟨b, off, none⟩ ∧ Rows n val s xs cs off ∧ w.heap[b]? = some (.cells cs.toArray T fz))

class SlIn {α : outParam Type} (n : outParam Nat) (val : outParam (α → Value)) (s : SlV) (H : List HA) (xs : outParam (List α)) (H' : outParam (List HA)) : Prop where
  imp : ∀ w, Imp w H (SlO n val s xs :: H')
instance (priority := 2000) SlIn.head {α : Type} {n : Nat} {val : α → Value} {s xs H} : SlIn n val s (SlO n val s xs :: H) xs H := ⟨fun _ => Imp.refl⟩
instance (priority := 100) SlIn.tail {α : Type} {n : Nat} {val : α → Value} {s xs A H H'} [k : SlIn n val s H xs H'] : SlIn n val s (A :: H) xs (A :: H') := ⟨fun w => (Imp.cons (k.imp w)).trans Imp.swap⟩

section
variable {α : Type} {val : α → Value} {n : Nat} {s : SlV} {xs : List α} {w w' : World} {H H' : List HA}

theorem Sl.grow (h : Sl w n val s xs) (e : ∀ b, b < w.heap.size → w'.heap[b]? = w.heap[b]?) : Sl w' n val s xs := by
  refine ⟨h.1, h.2.imp id ?_⟩
  rintro ⟨b, off, cs, T, fz, e1, e2, e3⟩
  exact ⟨b, off, cs, T, fz, e1, e2, (e b (Array.getElem?_eq_some_iff.1 e3).1).trans e3⟩
theorem Sl.drew (h : Sl w n val s xs) : Sl w.drew n val s xs := h.grow fun _ _ => rfl
theorem Sl.undrew (h : Sl w.drew n val s xs) : Sl w n val s xs := h
theorem Sl.len (h : Sl w n val s xs) : s.len = xs.length := h.1.1

theorem St.sl (h : St w (SlO n val s xs :: H)) : Sl w n val s xs := by
  obtain ⟨F, F1, F2, ⟨hN, hA⟩, _⟩ := h
  refine ⟨hN, ?_⟩
  rcases hA with ⟨h1, h2, _⟩ | ⟨b, off, cs, T, h1, h2, h3, _⟩
  · exact .inl h2
  · exact .inr ⟨b, off, cs, T, _, h1, h2, h3⟩
theorem St.slO (h : St w (SlO n val s xs :: H)) : SlN s xs ∧ ((s.a = none ∧ s.cap = 0) ∨ ∃ b off cs T, s.a = some ⟨b, off, none⟩ ∧ Rows n val s xs cs off ∧ w.heap[b]? = some (.cells cs.toArray T)) := by
  obtain ⟨F, F1, F2, ⟨hN, hA⟩, _⟩ := h
  refine ⟨hN, ?_⟩
  rcases hA with ⟨h1, h2, _⟩ | ⟨b, off, cs, T, h1, h2, h3, _⟩
  · exact .inl ⟨h1, h2⟩
  · exact .inr ⟨b, off, cs, T, h1, h2, h3⟩
theorem Sl.nil_of (h : Sl w n val s xs) (ha : s.a = none) : xs = [] := by
  rcases h.2 with hc | ⟨b, off, cs, T, fz, e1, _⟩
  · exact List.eq_nil_of_length_eq_zero (by have := h.1.1; have := h.1.2.1; omega)
  · rw [e1] at ha; cases ha
theorem St.slIn [c : SlIn n val s H xs H'] (h : St w H) : Sl w n val s xs := ((c.imp w).st h).sl
theorem Sl.old {w0 : World} (hs : Sl w0 n val s xs) (h : St w (.old w0 :: H)) : Sl w n val s xs := hs.grow fun _ hb => h.old hb

theorem Sl.cellsAt (h : Sl w n val s xs) [hw : Wide val n] {i : Nat} {x : α} (hx : xs[i]? = some x) : ∃ b off, s.a = some ⟨b, off, none⟩ ∧ Holds w ⟨b, off + i * n, none⟩ n (val x) := by
  obtain ⟨⟨h1, h2, _⟩, hh⟩ := h
  have hi : i < xs.length := (List.getElem?_eq_some_iff.1 hx).1
  rcases hh with hc | ⟨b, off, cs, T, fz, e1, ⟨e2, e3⟩, e4⟩
  · omega
  refine ⟨b, off, e1, hw.size x, fun j hj => ?_⟩
  have hf := flat_at (h := hw) hx
  rw [← e3] at hf
  have hlen : i * n + n ≤ s.len * n := by rw [← Nat.succ_mul]; exact Nat.mul_le_mul_right _ (by omega)
  rw [add_lit]
  rw [← Array.getElem?_toList, ← hf, List.getElem?_take_of_lt hj, List.getElem?_drop, List.getElem?_take_of_lt (by omega), List.getElem?_drop]
  simp [World.cell?, e4, Nat.add_assoc]

/-- s[i] -/
theorem Sl.at [hw : Wide val n] {i : Int} {x : α} {K : Addr → α → Prop} (h : Sl w n val s xs) (h0 : 0 ≤ i) (hx : xs[i.toNat]? = some x) (k : ∀ a, s.a = some a → K a x) :
    chkP (inR i s.len) (nilP s.a fun a => loadP w (a.add (i.toNat * n)) n val (K a)) := by
  obtain ⟨b, off, e, hh⟩ := h.cellsAt hx
  have hi : i.toNat < xs.length := (List.getElem?_eq_some_iff.1 hx).1
  refine chk_i (inR_i h0 (by rw [h.1.1]; omega)) ?_
  have k := k _ e
  rw [e]
  show loadP _ _ _ _ _
  rw [add_lit]
  exact ⟨x, hh, k⟩

theorem SlO.of_cells {b : Nat} {cs : List Value} {T : TypeId} (h : St w (cellsA b cs T :: H)) (hn : s = ⟨some ⟨b, 0, none⟩, xs.length, xs.length⟩) (hl : cs = flat val xs) [hw : Wide val n] (hm : xs.length ≤ maxLen) : St w (SlO n val s xs :: H) := by
  subst hn hl
  refine h.imp1 fun F hF => ⟨⟨rfl, Nat.le_refl _, hm⟩, .inr ⟨b, 0, _, T, rfl, ⟨?_, ?_⟩, hF.1, hF.2⟩⟩
  · simp [flat_length (h := hw)]
  · rw [List.drop_zero]
    refine List.take_of_length_le ?_
    rw [flat_length (h := hw)]
    exact Nat.le_refl _
theorem SlO.nil (h : St w H) : St w (SlO n val SlV.nil ([] : List α) :: H) :=
  h.add (.refl w) (fun _ _ => rfl) (F := fun _ => False) ⟨⟨rfl, Nat.le_refl _, Nat.zero_le _⟩, .inl ⟨rfl, rfl, fun _ h => h⟩⟩ (fun _ h => h.elim)

/-- s[l:h] -/
theorem SlO.sub {l m : Nat} (h : St w (SlO n val s xs :: H)) (hl : l ≤ m) (hm : m ≤ xs.length) [hw : Wide val n] : St w (SlO n val (s.sub l m s.cap n) ((xs.take m).drop l) :: H) := by
  refine h.imp1 fun F ⟨⟨h1, h2, h3⟩, hF⟩ => ⟨⟨?_, ?_, ?_⟩, ?_⟩
  · simp [SlV.sub]; omega
  · simp [SlV.sub]; omega
  · simp [SlV.sub]; omega
  · rcases hF with ⟨e1, e2, e3⟩ | ⟨b, off, cs, T, e1, ⟨e2, e2'⟩, e3, e4⟩
    · exact .inl ⟨by simp [SlV.sub, e1], by simp [SlV.sub, e2], e3⟩
    · by_cases hc : s.cap = l
      · refine .inr ⟨b, off, cs, T, by simp [SlV.sub, e1, hc], ⟨?_, ?_⟩, e3, e4⟩
        · simp only [SlV.sub]
          rw [hc, Nat.sub_self]
          omega
        · have : m = l := by omega
          subst this
          simp [SlV.sub, flat]
      · refine .inr ⟨b, off + l * n, cs, T, by simp [SlV.sub, e1, hc, add_lit], ⟨?_, ?_⟩, e3, e4⟩
        · simp only [SlV.sub]
          have : l * n + (s.cap - l) * n = s.cap * n := by rw [← Nat.add_mul]; congr 1; omega
          omega
        · simp only [SlV.sub]
          rw [← flat_drop (h := hw), ← flat_take (h := hw), ← e2', List.take_take, List.drop_take, List.drop_drop]
          congr 1
          rw [Nat.min_eq_left (show m * n ≤ s.len * n from Nat.mul_le_mul_right _ (by omega)), Nat.sub_mul]
end

/-! ### append -/
theorem setCells_heap {b : Nat} {T : TypeId} : ∀ (vs : List Value) (o : Nat) (w : World) (cs : List Value), w.heap[b]? = some (.cells cs.toArray T) →
    (w.setCells b o vs).heap[b]? = some (.cells (putL cs o vs).toArray T) ∧ (∀ c, c ≠ b → (w.setCells b o vs).heap[c]? = w.heap[c]?)
  | [], o, w, cs, h => ⟨h, fun _ _ => rfl⟩
  | v :: vs, o, w, cs, h => by
    have h1 := setCells_heap vs (o + 1) (w.setCell ⟨b, o, none⟩ v) (cs.set o v) (setCell_heap_same v h)
    exact ⟨h1.1, fun c hc => (h1.2 c hc).trans (setCell_heap_other v hc)⟩
theorem putL_length : ∀ (vs : List Value) (cs : List Value) (o : Nat), (putL cs o vs).length = cs.length
  | [], _, _ => rfl
  | v :: vs, cs, o => by rw [putL, putL_length, List.length_set]
theorem putL_get : ∀ (vs : List Value) (cs : List Value) (o i : Nat), (i < o ∨ o + vs.length ≤ i) → (putL cs o vs)[i]? = cs[i]?
  | [], _, _, _, _ => rfl
  | v :: vs, cs, o, i, h => by
    simp only [List.length_cons] at h
    rw [putL, putL_get vs _ _ _ (by omega), List.getElem?_set_ne (by omega)]
theorem putL_in : ∀ (vs : List Value) (cs : List Value) (o j : Nat), o + vs.length ≤ cs.length → j < vs.length → (putL cs o vs)[o + j]? = vs[j]?
  | v :: vs, cs, o, 0, h, _ => by
    simp only [List.length_cons] at h
    rw [putL, putL_get _ _ _ _ (by omega), Nat.add_zero, List.getElem?_set_self (by omega)]
    rfl
  | v :: vs, cs, o, j + 1, h, hj => by
    simp only [List.length_cons] at h hj
    rw [putL, show o + (j + 1) = o + 1 + j by omega, putL_in vs _ (o + 1) j (by simp; omega) (by omega)]
    rfl
theorem putL_eq (vs : List Value) (cs : List Value) (o : Nat) (h : o + vs.length ≤ cs.length) : putL cs o vs = cs.take o ++ (vs ++ cs.drop (o + vs.length)) := by
  apply List.ext_getElem?
  intro i
  by_cases h1 : i < o
  · rw [putL_get _ _ _ _ (.inl h1), List.getElem?_append_left (by simp; omega), List.getElem?_take_of_lt h1]
  · rw [List.getElem?_append_right (by simp; omega), List.length_take, Nat.min_eq_left (by omega)]
    by_cases h2 : i < o + vs.length
    · rw [List.getElem?_append_left (by omega)]
      have := putL_in vs cs o (i - o) h (by omega)
      rwa [show o + (i - o) = i by omega] at this
    · rw [putL_get _ _ _ _ (.inr (by omega)), List.getElem?_append_right (by omega), List.getElem?_drop]
      congr 1
      omega

theorem Same.setCells (b : Nat) : ∀ (vs : List Value) (o : Nat) (w : World), Same w (w.setCells b o vs)
  | [], _, w => .refl w
  | v :: vs, o, w => (Same.setCell w ⟨b, o, none⟩ v).trans (Same.setCells b vs (o + 1) _)
/-- The facts of a slice type and its element type. -/
structure SlT {α : Type} (P : Program) (t : TypeId) (n : Nat) (val : α → Value) (bytes : Nat) : Prop where
  ex : ∃ e i z, P.underlying t = some (.slice e) ∧ P.info? e = some i ∧ i.zero = some z ∧ i.size = n ∧ i.bytes = bytes ∧ z.cells.size = n

def slTB (P : Program) (t n bytes : Nat) : Bool :=
  match P.underlying t with
  | some (.slice e) => match P.info? e with
    | some i => match i.zero with
      | some z => i.size == n && i.bytes == bytes && z.cells.size == n
      | none => false
    | none => false
  | _ => false
theorem slT_of {α : Type} {P : Program} {t n bytes : Nat} {val : α → Value} (h : slTB P t n bytes = true) : SlT P t n val bytes := by
  unfold slTB at h
  split at h
  · rename_i e he
    split at h
    · rename_i i hi
      split at h
      · rename_i z hz
        simp only [Bool.and_eq_true, beq_iff_eq] at h
        exact ⟨e, i, z, he, hi, hz, h.1.1, h.1.2, h.2⟩
      · cases h
    · cases h
  · cases h

section
variable {α : Type} {val : α → Value} {n : Nat} {s : SlV} {xs : List α} {w w' : World} {H H' : List HA} {P : Program}

theorem Sl.cellsOf [hw : Wide val n] (h : Sl w n val s xs) {b : Addr} (hb : s.a = some b) : ∀ j u, (flat val xs)[j]? = some u → w.cell? (b.add j) = some u := by
  intro j u hu
  rcases h.2 with e | ⟨b', off, cs, T, fz, e1, ⟨e2, e3⟩, e4⟩
  · have : xs = [] := List.eq_nil_of_length_eq_zero (by have := h.1.1; have := h.1.2.1; omega)
    subst this
    simp [flat] at hu
  · rw [e1] at hb
    cases hb
    rw [add_lit]
    have hj := (List.getElem?_eq_some_iff.1 hu).1
    rw [flat_length (h := hw), ← h.1.1] at hj
    rw [← e3, List.getElem?_take_of_lt hj, List.getElem?_drop] at hu
    simp [World.cell?, e4, hu]

/-- append(s, ys...): s is the call's own, ys is only read. -/
theorem St.append {t ty : TypeId} {bytes : Nat} {y : SlV} {ys : List α} {K : SlV → World → Prop} [hw : Wide val n] [c : SlIn n val s H xs H'] (h : St w H) (ht : SlT P t n val bytes) (hn : 0 < n)
    (hy : Sl w n val y ys) (hb : (xs.length + ys.length) * bytes ≤ 140737488355328) (hm : xs.length + ys.length ≤ maxLen)
    (k : ∀ s' w', St w' (SlO n val s' (xs ++ ys) :: H') → K s' w') : runP P (Builtin.append_ #[t, t] ty #[s.val, y.val]) w SlV.val K := by
  have h := (c.imp w).st h
  obtain ⟨e, i, z, h1, h2, h3, rfl, rfl, h6⟩ := ht
  have hx := h.sl
  have hy0 := hy
  obtain ⟨⟨y1, y2, y3⟩, hyy⟩ := hy
  have hyl : (flat val ys).length = y.len * i.size := by rw [flat_length (h := hw), y1]
  have hxo := h.slO
  rcases hyy with yc | ⟨b', off', cs', T', fz', ya, yr, yh⟩
  · -- nothing is appended
    have y0 : y.len = 0 := by omega
    have hys : ys = [] := List.eq_nil_of_length_eq_zero (by omega)
    subst hys
    have hr : (Builtin.append_ #[t, t] ty #[s.val, y.val]).run P w = .ok s.val w := by
      obtain ⟨sa, sl, sc⟩ := s
      obtain ⟨ya', yl, yc'⟩ := y
      simp only at yc y0
      subst yc y0
      have hle : sl ≤ sc := hx.1.2.1
      cases sa <;> cases ya' <;> simp [SlV.val, loadCells, loadCellsFrom, Builtin.append_, run_underlying h1, sizeOf, typeInfo, h2, Builtin.lenOf, Builtin.firstCells, hle, storeCells]
    refine ⟨s, w, hr, k s w ?_⟩
    rw [List.append_nil]
    exact h
  · have hnews := hy0.cellsOf (hw := hw) ya
    have hyv : y.val = .slice (some ⟨b', off', none⟩) y.len y.cap := by rw [SlV.val, ya]
    rcases hxo.2 with ⟨sa, sc⟩ | ⟨b, off, cs, T, sa, sr, sh⟩
    · have s0 : s.len = 0 := by have := hx.1.2.1; omega
      have hxs : xs = [] := List.eq_nil_of_length_eq_zero (by have := hx.1.1; omega)
      subst hxs
      have hsv : s.val = .slice none 0 0 := by rw [SlV.val, sa, s0, sc]
      by_cases hm0 : y.len = 0
      · have hys : ys = [] := List.eq_nil_of_length_eq_zero (by omega)
        subst hys
        have hr : (Builtin.append_ #[t, t] ty #[s.val, y.val]).run P w = .ok s.val w := by
          rw [hsv, hyv, hm0]
          simp [Builtin.append_, run_underlying h1, sizeOf, typeInfo, h2, Builtin.lenOf, Builtin.firstCells, loadCells, loadCellsFrom]
        exact ⟨s, w, hr, k s w h⟩
      · have hmx := hm
        simp only [List.length_nil, Nat.zero_add, maxLen] at hb hm hmx
        have hr := run_append_nil (P := P) w t ty e i z h1 h2 h3 ⟨b', off', none⟩ y.len y.cap (flat val ys) hyl hnews (by omega) (by omega) (by rw [y1]; omega)
        have hge := grownCap_ge w y.len 0 e
        refine ⟨⟨some ⟨w.heap.size, 0, none⟩, y.len, grownCap w y.len 0 e⟩, _, by rw [hsv, hyv, hr]; rfl, k _ _ ?_⟩
        refine h.turn ⟨rfl, rfl, rfl⟩ fun F hF => ⟨fun c => c = w.heap.size, ⟨⟨by simp [y1], hge, grownCap_le_maxLen w _ _ _ (by simp only [maxLen]; omega)⟩, .inr ⟨w.heap.size, 0, (flat val ys ++ (Builtin.zeroCells z.cells (grownCap w y.len 0 e - y.len)).toList), e, rfl, ⟨?_, ?_⟩, ?_, fun _ => Iff.rfl⟩⟩, fun b hb => .inr (Nat.le_of_eq hb.symm), fun b hb _ => heap_alloc_old w.drew _ b hb⟩
        · simp only [List.length_append, hyl, Array.length_toList, size_zeroCells, h6, ← Nat.add_mul, Nat.zero_add]
          rw [show y.len + (grownCap w y.len 0 e - y.len) = grownCap w y.len 0 e by omega]
          exact Nat.le_refl _
        · rw [List.drop_zero, List.nil_append]
          show List.take (y.len * i.size) _ = _
          rw [← hyl, List.take_left]
        · exact (heap_alloc_new w.drew _).trans (by simp)
    · have hsv : s.val = .slice (some ⟨b, off, none⟩) s.len s.cap := by rw [SlV.val, sa]
      have hxl : (flat val xs).length = s.len * i.size := by rw [flat_length (h := hw), hx.1.1]
      have hxc := hx.cellsOf (hw := hw) sa
      by_cases hroom : s.len + y.len ≤ s.cap
      · have hfit : off + s.len * i.size + (flat val ys).length ≤ cs.length := by
          have := sr.1
          have h9 : (s.len + y.len) * i.size ≤ s.cap * i.size := Nat.mul_le_mul_right _ hroom
          rw [Nat.add_mul] at h9
          omega
        have hr := run_append_room_cells (P := P) w t ty e i h1 h2 b off s.len s.cap ⟨b', off', none⟩ y.len y.cap (flat val ys) hyl hnews (flat_ones (h := hw) ys) hroom
          (fun j hj => by simp only [World.cell?, sh]; simp; omega) (fun j hj => by simp [World.frozen?, sh])
        refine ⟨⟨some ⟨b, off, none⟩, s.len + y.len, s.cap⟩, _, by rw [hsv, hyv, hr]; rfl, k _ _ ?_⟩
        have hsc := setCells_heap (flat val ys) (off + s.len * i.size) w cs sh
        have hrow : Rows i.size val ⟨some ⟨b, off, none⟩, s.len + y.len, s.cap⟩ (xs ++ ys) (putL cs (off + s.len * i.size) (flat val ys)) off := by
          refine ⟨by rw [putL_length]; exact sr.1, ?_⟩
          rw [putL_eq _ _ _ hfit, flat_append, ← sr.2, List.drop_append_of_le_length (by simp; omega), List.drop_take, List.take_append, List.take_append]
          simp only [List.length_take, List.length_drop]
          rw [show off + s.len * i.size - off = s.len * i.size by omega, List.take_take]
          rw [Nat.min_eq_left (show s.len * i.size ≤ cs.length - off by omega)]
          rw [Nat.min_eq_right (show s.len * i.size ≤ (s.len + y.len) * i.size from Nat.mul_le_mul_right _ (by omega))]
          rw [Nat.add_mul, show s.len * i.size + y.len * i.size - s.len * i.size = y.len * i.size by omega, ← hyl, List.take_length, Nat.sub_self, List.take_zero, List.append_nil]
        refine h.turn (.setCells _ _ _ _) fun F hF => ⟨F, ?_, fun _ h => .inl h, fun c hc hF' => ?_⟩
        · refine ⟨⟨by simp [hx.1.1, y1], hroom, hx.1.2.2⟩, .inr ⟨b, off, _, T, rfl, hrow, hsc.1, ?_⟩⟩
          rcases hF.2 with ⟨e1, _⟩ | ⟨b1, off1, cs1, T1, e1, _, e3, e4⟩
          · rw [e1] at sa; cases sa
          · rw [e1] at sa
            cases sa
            exact e4
        · rcases hF.2 with ⟨e1, _⟩ | ⟨b1, off1, cs1, T1, e1, _, e3, e4⟩
          · rw [e1] at sa; cases sa
          · rw [e1] at sa
            cases sa
            exact hsc.2 c fun e => hF' ((e4 c).2 e)
      · have hmx := hm
        simp only [maxLen] at hmx
        have hxx := hx.1.1
        have hmx' : (s.len : Int) + y.len ≤ 9223372036854775807 := by omega
        have hge := grownCap_ge w (s.len + y.len) s.cap e
        have hr := run_append_grow (P := P) w t ty e i z h1 h2 h3 ⟨b, off, none⟩ s.len s.cap (flat val xs) hxl hxc ⟨b', off', none⟩ y.len y.cap (flat val ys) hyl hnews (by omega) (by omega)
          (growslice_fits (by omega) (by rw [hxx, y1]; exact hb))
        refine ⟨⟨some ⟨w.heap.size, 0, none⟩, s.len + y.len, grownCap w (s.len + y.len) s.cap e⟩, _, by rw [hsv, hyv, hr]; rfl, k _ _ ?_⟩
        refine h.turn ⟨rfl, rfl, rfl⟩ fun F hF => ⟨fun c => c = w.heap.size, ⟨⟨by simp [y1, hxx], hge, grownCap_le_maxLen w _ _ _ (by rw [hxx, y1]; exact hm)⟩, .inr ⟨w.heap.size, 0, (flat val xs ++ flat val ys ++ (Builtin.zeroCells z.cells (grownCap w (s.len + y.len) s.cap e - (s.len + y.len))).toList), e, rfl, ⟨?_, ?_⟩, ?_, fun _ => Iff.rfl⟩⟩, fun b hb => .inr (Nat.le_of_eq hb.symm), fun b hb _ => heap_alloc_old w.drew _ b hb⟩
        · simp only [List.length_append, hyl, hxl, Array.length_toList, size_zeroCells, h6, ← Nat.add_mul, Nat.zero_add]
          rw [show s.len + y.len + (grownCap w (s.len + y.len) s.cap e - (s.len + y.len)) = grownCap w (s.len + y.len) s.cap e by omega]
          exact Nat.le_refl _
        · rw [List.drop_zero, flat_append]
          show List.take ((s.len + y.len) * i.size) _ = _
          rw [Nat.add_mul, ← hyl, ← hxl, ← List.length_append, List.take_left]
        · exact (heap_alloc_new w.drew _).trans (by simp)
end
end Go.Vc
