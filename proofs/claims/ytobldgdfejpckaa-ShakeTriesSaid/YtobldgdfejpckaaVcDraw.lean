/-
  A part of the engine: verification conditions of Go functions that the kernel reckons. No condition.
-/
import Derived.Test.YtobldgdfejpckaaVcOps
import Derived.TacticsIn
set_option linter.all false
namespace Go.Vc
section
variable {P : Program}

/-! ### guards -/
theorem getD_bool {e : List Value} {d : Nat} {b : Bool} (h : e.getD d undef = .bool b) : e[d]? = some (.bool b) := by
  rw [List.getD_eq_getElem?_getD] at h
  cases hx : e[d]? with
  | none => rw [hx] at h; cases h
  | some v => rw [hx] at h; exact congrArg some h
theorem set_same {e : List Value} {d : Nat} {v : Value} (h : e[d]? = some v) : e.set d v = e := by
  apply List.ext_getElem?
  intro i
  rw [List.getElem?_set]
  split
  · rename_i hi
    subst hi
    split
    · exact h.symm
    · rename_i hl
      rw [List.getElem?_eq_none (by omega)]
  · rfl
theorem dstOf_eq (ops : Array Oper) (j : Nat) : (ops[j]?).bind (·.dst) = dstOf ops.toList j := by
  unfold dstOf
  rw [← Array.getElem?_toList]
  cases ops.toList[j]? <;> rfl
theorem guardP_sound {ops : Array Oper} {o : Oper} {e : List Value} {A B : List Value → Prop} (h : guardP ops.toList o e A B) :
    (Region.wanted o (yielded ops e.toArray) = true ∧ A e) ∨ (Region.wanted o (yielded ops e.toArray) = false ∧ B e) := by
  unfold guardP at h
  unfold Region.wanted yielded
  cases hg : o.guard with
  | none => simp only [hg] at h; exact .inl ⟨rfl, h⟩
  | some jw =>
    obtain ⟨j, want⟩ := jw
    simp only [hg] at h
    simp only [dstOf_eq]
    cases hd : dstOf ops.toList j with
    | none => simp only [hd] at h; exact .inr ⟨by rfl, h⟩
    | some d =>
      simp only [hd] at h
      split at h
      · rename_i b hb
        have hb' := getD_bool hb
        simp only [Option.bind_some, List.getElem?_toArray, hb']
        rcases cond'_ex h with ⟨rfl, h⟩ | ⟨rfl, h⟩ <;> cases want <;> simp only [set_same hb'] at h <;> first | exact .inl ⟨rfl, h⟩ | exact .inr ⟨rfl, h⟩
      · rename_i vs hb
        refine .inr ⟨?_, h⟩
        simp only [Option.bind_some, List.getElem?_toArray]
        rw [List.getD_eq_getElem?_getD] at hb
        cases hx : e[d]? with
        | none => rfl
        | some v => rw [hx] at hb; simp only [Option.getD_some] at hb; subst hb; rfl
      · exact h.elim

theorem put_toArray (e : List Value) (ds : List Deferred) (d : Option Tmp) (v : Value) : (⟨e.toArray, ds⟩ : Act).put d v = ⟨(put e d v).toArray, ds⟩ := by
  cases d <;> simp [Act.put, put]

/-! ### a region in the order of its text -/
theorem agree_refl (ts : List Nat) (e : List Value) : Agree ts e e := ⟨rfl, fun _ _ => rfl⟩
theorem agree_put {ts : List Nat} {e e' : List Value} (h : Agree ts e e') (d : Option Tmp) (v : Value) (hd : ∀ t, d = some t → t ∈ ts) : Agree ts e (put e' d v) := by
  cases d with
  | none => exact h
  | some t =>
    refine ⟨by simp [put, h.1], fun u hu => ?_⟩
    have : u ≠ t := fun e => hu (e ▸ hd t rfl)
    simp only [put]
    rw [List.getElem?_set_ne (by omega)]
    exact h.2 u hu

theorem vcSeq_sound {sh : TypeId → Sh} {ops : Array Oper} {Q : Exit → Act → World → Prop} {K : List Value → World → Prop} {ts : List Nat} {e₀ : List Value} {F : Fence} {n : Nat} {ds : List Deferred} (hF : FW F)
    (hts : ∀ o ∈ ops.toList, ∀ t, o.dst = some t → t ∈ ts) (hQ : ∀ e' w', Agree ts e₀ e' → K e' w' → Q .normal ⟨e'.toArray, ds⟩ w') :
    ∀ (os : List Oper) (e : List Value) (w : World), (∀ o ∈ os, o ∈ ops.toList) → Agree ts e₀ e → vcSeq P sh ops.toList os e w K → wpListIn F n P ops Q os ⟨e.toArray, ds⟩ w := by
  intro os
  induction os with
  | nil => intro e w _ ha h; exact hQ _ _ ha h
  | cons o os ih =>
    intro e w hm ha h
    simp only [vcSeq] at h
    have hd := hts o (hm o (by simp))
    have hm' : ∀ o ∈ os, o ∈ ops.toList := fun x hx => hm x (by simp [hx])
    unfold wpListIn
    rcases guardP_sound h with ⟨hw, h⟩ | ⟨hw, h⟩
    · rw [if_pos hw]
      refine opVC_sound h F n ⟨e.toArray, ds⟩ _ _ hF (fun x _ => by rw [act_eval]) fun v w' hK => ?_
      rw [put_toArray]
      exact ih _ _ hm' (agree_put ha _ _ hd) hK
    · rw [if_neg (by rw [hw]; simp), put_toArray]
      refine ⟨fun f _ => hF.fn f, ?_⟩
      exact ih _ _ hm' (agree_put ha _ _ hd) h

/-! ### masks -/
theorem predMask_bit : ∀ (es : List Edge) (j : Nat), (predMask es).testBit j = true ↔ ∃ e ∈ es, Region.binds .any e = true ∧ e.on = j := by
  intro es
  induction es with
  | nil => intro j; simp [predMask]
  | cons e es ih =>
    intro j
    simp only [predMask]
    cases hb : Region.binds .any e with
    | true =>
      simp only [if_true, Nat.testBit_or, Nat.testBit_two_pow, Bool.or_eq_true, ih, decide_eq_true_eq, List.mem_cons]
      constructor
      · rintro (⟨x, hx, h1, h2⟩ | h)
        · exact ⟨x, .inr hx, h1, h2⟩
        · exact ⟨e, .inl rfl, hb, h⟩
      · rintro ⟨x, rfl | hx, h1, h2⟩
        · exact .inr h2
        · exact .inl ⟨x, hx, h1, h2⟩
    | false =>
      simp only [Bool.false_eq_true, if_false, ih, List.mem_cons]
      constructor
      · rintro ⟨x, hx, h1, h2⟩; exact ⟨x, .inr hx, h1, h2⟩
      · rintro ⟨x, rfl | hx, h1, h2⟩
        · rw [hb] at h1; cases h1
        · exact ⟨x, hx, h1, h2⟩
theorem closeMask_bit (cl : List Nat) : ∀ (es : List Edge) (j : Nat), (closeMask cl es).testBit j = true ↔ ∃ e ∈ es, Region.binds .any e = true ∧ (e.on = j ∨ (cl.getD e.on 0).testBit j = true) := by
  intro es
  induction es with
  | nil => intro j; simp [closeMask]
  | cons e es ih =>
    intro j
    simp only [closeMask]
    cases hb : Region.binds .any e with
    | true =>
      simp only [if_true, Nat.testBit_or, Nat.testBit_two_pow, Bool.or_eq_true, ih, decide_eq_true_eq, List.mem_cons]
      constructor
      · rintro (⟨x, hx, h1, h2⟩ | h)
        · exact ⟨x, .inr hx, h1, h2⟩
        · exact ⟨e, .inl rfl, hb, h⟩
      · rintro ⟨x, rfl | hx, h1, h2⟩
        · exact .inr h2
        · exact .inl ⟨x, hx, h1, h2⟩
    | false =>
      simp only [Bool.false_eq_true, if_false, ih, List.mem_cons]
      constructor
      · rintro ⟨x, hx, h1, h2⟩; exact ⟨x, .inr hx, h1, h2⟩
      · rintro ⟨x, rfl | hx, h1, h2⟩
        · rw [hb] at h1; cases h1
        · exact ⟨x, hx, h1, h2⟩
theorem readyIn_iff (o : Oper) (d : Nat) : readyIn o d = true ↔ ∀ e ∈ o.after.toList, Region.binds .any e = true → d.testBit e.on = true := by
  unfold readyIn
  constructor
  · intro h e he hb
    have h := Nat.eq_of_beq_eq_true h
    have : (predMask o.after.toList).testBit e.on = true := (predMask_bit _ _).2 ⟨e, he, hb, rfl⟩
    rw [← h] at this
    rw [show Nat.land (predMask o.after.toList) d = predMask o.after.toList &&& d from rfl, Nat.testBit_and] at this
    simp only [Bool.and_eq_true] at this
    exact this.2
  · intro h
    have : Nat.land (predMask o.after.toList) d = predMask o.after.toList := by
      apply Nat.eq_of_testBit_eq
      intro j
      rw [show Nat.land (predMask o.after.toList) d = predMask o.after.toList &&& d from rfl, Nat.testBit_and]
      cases hp : (predMask o.after.toList).testBit j with
      | false => rfl
      | true =>
        obtain ⟨e, he, hb, rfl⟩ := (predMask_bit _ _).1 hp
        rw [h e he hb]; rfl
    rw [this]
    exact Nat.beq_refl _

theorem closure_eq : ∀ (os : List Oper) (acc : List Nat), closure os acc = acc ++ (closure os acc).drop acc.length ∧ (closure os acc).length = acc.length + os.length := by
  intro os
  induction os with
  | nil => intro acc; simp [closure]
  | cons o os ih =>
    intro acc
    simp only [closure]
    obtain ⟨h1, h2⟩ := ih (acc ++ [closeMask acc o.after.toList])
    refine ⟨?_, by rw [h2]; simp; omega⟩
    have h1' : closure os (acc ++ [closeMask acc o.after.toList]) = acc ++ ([closeMask acc o.after.toList] ++ (closure os (acc ++ [closeMask acc o.after.toList])).drop (acc ++ [closeMask acc o.after.toList]).length) := by
      rw [← List.append_assoc]; exact h1
    generalize (closure os (acc ++ [closeMask acc o.after.toList])).drop (acc ++ [closeMask acc o.after.toList]).length = tl at h1'
    rw [h1']
    simp
theorem closure_at : ∀ (os : List Oper) (acc : List Nat) (i : Nat) (o : Oper), os[i]? = some o →
    (closure os acc).getD (acc.length + i) 0 = closeMask ((closure os acc).take (acc.length + i)) o.after.toList := by
  intro os
  induction os with
  | nil => intro acc i o h; simp at h
  | cons x os ih =>
    intro acc i o h
    cases i with
    | zero =>
      simp only [List.getElem?_cons_zero, Option.some.injEq] at h
      subst h
      simp only [closure]
      obtain ⟨h1, h2⟩ := closure_eq os (acc ++ [closeMask acc x.after.toList])
      generalize hT : (closure os (acc ++ [closeMask acc x.after.toList])).drop (acc ++ [closeMask acc x.after.toList]).length = tl at h1
      rw [h1]
      simp [List.getD_eq_getElem?_getD]
    | succ i =>
      simp only [List.getElem?_cons_succ] at h
      have := ih (acc ++ [closeMask acc x.after.toList]) i o h
      simp only [closure]
      rw [show acc.length + (i + 1) = (acc ++ [closeMask acc x.after.toList]).length + i by simp; omega]
      exact this
end
end Go.Vc
