/-
  A part of the engine: verification conditions of Go functions that the kernel reckons. No condition.
-/
import Derived.Test.YtobldgdfejpckaaVcPure2
set_option linter.all false
namespace Go.Vc
section
variable {P : Program}

theorem foldl_set (off : Nat) : ∀ (vs : List Value) (k : Nat) (cs : List Value), off + k + vs.length ≤ cs.length →
    (vs.zipIdx k).foldl (fun cs x => cs.set (off + x.2) x.1) cs = cs.take (off + k) ++ (vs ++ cs.drop (off + k + vs.length)) := by
  intro vs
  induction vs with
  | nil => intro k cs h; simp
  | cons v vs ih =>
    intro k cs h
    simp only [List.length_cons] at h
    simp only [List.zipIdx_cons, List.foldl_cons]
    rw [ih (k + 1) _ (by simp; omega)]
    have h1 : (cs.set (off + k) v).take (off + (k + 1)) = cs.take (off + k) ++ [v] := by
      rw [← Nat.add_assoc, List.take_add_one, List.take_set_of_le (Nat.le_refl _), List.getElem?_set_self (by omega)]
      rfl
    have h2 : (cs.set (off + k) v).drop (off + (k + 1) + vs.length) = cs.drop (off + k + (vs.length + 1)) := by
      rw [List.drop_set, if_pos (by omega)]
      congr 1
      omega
    rw [h1, h2]
    simp

theorem fill_eq (place : Nat → Option (Nat × Nat)) : ∀ (parts : List (Nat × Value)) (cells cs : List Value), fillL place cells parts = some cs →
    Instr.fill place cells.toArray parts = some cs.toArray := by
  intro parts
  induction parts with
  | nil => intro cells cs h; simp only [fillL, Option.some.injEq] at h; subst h; rfl
  | cons p parts ih =>
    intro cells cs h
    obtain ⟨i, v⟩ := p
    simp only [fillL] at h
    cases hp : place i with
    | none => simp [hp] at h
    | some os =>
      obtain ⟨off, size⟩ := os
      simp only [hp] at h
      split at h
      · rename_i hc
        simp only [Bool.and_eq_true, beq_iff_eq] at hc
        obtain ⟨h1, h2⟩ := hc
        have h2 : off + v.cells.toList.length ≤ cells.length := Nat.le_of_ble_eq_true h2
        have h1' : v.cells.size = size := by simpa using h1
        have h2' : ¬ (off + v.cells.size > cells.length) := by simp at h2; omega
        simp only [Instr.fill, hp]
        rw [if_neg (by simp [h1']; simp at h2; omega)]
        have e : (v.cells.zipIdx.foldl (fun cs x => cs.setIfInBounds (off + x.2) x.1) cells.toArray) = (overw cells off v.cells.toList).toArray := by
          apply Array.ext'
          rw [← Array.foldl_toList, Array.toList_zipIdx]
          have key : ∀ (l : List (Value × Nat)) (a : Array Value), (l.foldl (fun cs x => cs.setIfInBounds (off + x.2) x.1) a).toList = l.foldl (fun cs x => cs.set (off + x.2) x.1) a.toList := by
            intro l
            induction l with
            | nil => intro a; rfl
            | cons x l ih => intro a; simp only [List.foldl_cons]; rw [ih]; simp
          rw [key, foldl_set off _ 0 _ (by simpa using h2)]
          simp [overw]
        exact (congrArg (fun z => Instr.fill place z parts) e).trans (ih _ _ h)
      · cases h

theorem places_eq : ∀ (fs : List Field), (fs.all fun f => okT P f.type) = true →
    fs.mapM (fun f => (P.info? f.type).map fun i => (f.offset, i.size)) = some (fs.map fun f => (f.offset, sizeT P f.type)) := by
  intro fs
  induction fs with
  | nil => intro _; rfl
  | cons f fs ih =>
    intro h
    simp only [List.all_cons, Bool.and_eq_true] at h
    obtain ⟨h1, h2⟩ := h
    unfold okT at h1
    simp only [Bool.and_eq_true] at h1
    obtain ⟨i, hi⟩ := Option.isSome_iff_exists.1 h1.1
    simp [List.mapM_cons, hi, ih h2, sizeT]
theorem placesL_eq : ∀ (fs : List Field) (i : Nat), placesL P fs i = (fs.map fun f => (f.offset, sizeT P f.type))[i]? := by
  intro fs
  induction fs with
  | nil => intro i; simp [placesL]
  | cons f fs ih => intro i; cases i <;> simp [placesL, ih]

theorem zeroL_ex {t : TypeId} {z : List Value} (h : zeroL P t = some z) : ∃ i v, P.info? t = some i ∧ i.zero = some v ∧ z = v.cells.toList := by
  unfold zeroL at h
  cases hi : P.info? t with
  | none => simp [hi] at h
  | some i =>
    cases hz : i.zero with
    | none => simp [hi, hz] at h
    | some v => simp only [hi, hz, Option.some.injEq] at h; exact ⟨i, v, rfl, hz, h.symm⟩

theorem buildP_sound {t : TypeId} {parts : Array (Nat × Value)} {K : Value → Prop} (h : buildP P t parts.toList K) : Pures P (Instr.build t parts) K := by
  unfold buildP at h
  cases hb : buildL P t parts.toList with
  | none => simp [hb] at h
  | some cs =>
    simp only [hb] at h
    refine .mk h fun w => run_build w t parts _ ?_
    unfold buildL at hb
    cases hz : zeroL P t with
    | none => simp [hz] at hb
    | some z =>
      obtain ⟨i, v, hi, hv, rfl⟩ := zeroL_ex hz
      unfold Program.built
      cases hu : P.underlying t with
      | none => simp [hz, hu] at hb
      | some d =>
        simp only [hz, hu] at hb
        cases d <;> simp only [reduceCtorEq] at hb
        case struct fs =>
          split at hb
          · rename_i ha
            simp only [hi, hv]
            have := places_eq fs.toList ha
            rw [this]
            simp only []
            have e : (fun x => (fs.toList.map fun f => (f.offset, sizeT P f.type)).toArray[x]?) = placesL P fs.toList := by
              funext x; rw [placesL_eq]; simp
            rw [e]
            exact fill_eq _ _ _ _ hb
          · cases hb
        case array n e =>
          split at hb
          · rename_i ha
            unfold okT at ha
            simp only [Bool.and_eq_true] at ha
            obtain ⟨ie, hie⟩ := Option.isSome_iff_exists.1 ha.1
            simp only [hi, hv, hie]
            have : sizeT P e = ie.size := by simp [sizeT, hie]
            rw [this] at hb
            exact fill_eq _ _ _ _ hb
          · cases hb

theorem repeat_eq (z : List Value) : ∀ n : Nat, 0 < z.length → (List.range (n * z.length)).map (fun i => z.getD (i % z.length) default) = repeatL z n := by
  intro n hz
  induction n with
  | zero => simp [repeatL]
  | succ n ih =>
    rw [Nat.succ_mul, Nat.add_comm, List.range_add, List.map_append, repeatL, List.map_map]
    congr 1
    · apply List.ext_getElem (by simp)
      intro i h1 h2
      simp only [List.getElem_map, List.getElem_range]
      rw [Nat.mod_eq_of_lt h2, List.getD_eq_getElem?_getD, List.getElem?_eq_getElem h2]; rfl
    · rw [← ih]
      apply List.map_congr_left
      intro i _
      simp [Nat.add_mod_left]

theorem rowL_run {t e : TypeId} {len : Nat} {parts : Array (Nat × Value)} {cs : List Value} (hu : P.underlying t = some (.slice e)) (h : rowL P e len parts.toList = some cs) (w : World) :
    (Instr.buildSlice t len parts).run P w = .ok (.slice (some ⟨w.heap.size, 0, none⟩) len len) (w.alloc (.cells cs.toArray e)) := by
  unfold rowL at h
  cases hz : zeroL P e with
  | none => simp [hz] at h
  | some z =>
    simp only [hz] at h
    split at h
    · rename_i hc
      simp only [Bool.and_eq_true, beq_iff_eq] at hc
      obtain ⟨⟨⟨ho, hl⟩, hs⟩, hp⟩ := hc
      have hs : len * sizeT P e ≤ 16777216 := Nat.le_of_ble_eq_true hs
      have hp : 0 < sizeT P e := by simpa [Nat.blt_eq] using hp
      obtain ⟨i, v, hi, hv, rfl⟩ := zeroL_ex hz
      have hsz : sizeT P e = i.size := by simp [sizeT, hi]
      have hvs : v.cells.size = i.size := by rw [← hsz]; simpa using hl
      have hf := fill_eq _ _ _ _ h
      rcases Nat.eq_zero_or_pos len with rfl | hlen
      · simp only [repeatL] at hf
        have hf' : Instr.fill (fun j => some (j * i.size, i.size)) #[] parts.toList = some cs.toArray := by rw [← hsz]; exact hf
        have er : Array.range 0 = #[] := rfl
        simp [Instr.buildSlice, run_underlying hu, sizeOf, typeInfo, hi, er, hf', newRow]
      · refine run_buildSlice w t e len parts cs.toArray i v hu hi hv (by rw [← hsz]; omega) (by rw [← hsz]; exact Nat.ne_of_gt (Nat.mul_pos hlen hp)) ?_
        have er : ((Array.range (len * i.size)).map (v.cells[· % v.cells.size]!)) = (repeatL v.cells.toList len).toArray := by
          apply Array.ext'
          rw [← repeat_eq _ _ (by rw [hl]; exact hp)]
          simp [hvs, getElem!_def]
          intro a _; cases v.cells[a % i.size]? <;> rfl
        rw [er, ← hsz]
        exact hf
    · cases h
end
end Go.Vc
