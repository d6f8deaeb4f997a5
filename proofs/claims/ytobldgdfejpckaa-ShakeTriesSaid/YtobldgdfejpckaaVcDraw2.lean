/-
  A part of the engine: verification conditions of Go functions that the kernel reckons. No condition.
-/
import Derived.Test.YtobldgdfejpckaaVcDraw
set_option linter.all false
namespace Go.Vc
section
variable {P : Program}

/-! ### any order -/
structure Reg (L : List Oper) (cl : List Nat) (N : Nat) : Prop where
  back : ∀ (i : Nat) (o : Oper) (e : Edge), L[i]? = some o → e ∈ o.after.toList → Region.binds .any e = true → e.on < i
  noSel : ∀ (i : Nat) (o : Oper), L[i]? = some o → ∀ cs b, o.op ≠ .select cs b
  grd : ∀ (i : Nat) (o : Oper) (j : Nat) (wt : Bool), L[i]? = some o → o.guard = some (j, wt) → (cl.getD i 0).testBit j = true
  dlt : ∀ (i : Nat) (o : Oper) (t : Nat), L[i]? = some o → o.dst = some t → t < N
  uniq : ∀ (i : Nat) (o : Oper) (t j : Nat) (o' : Oper), L[i]? = some o → o.dst = some t → L[j]? = some o' → o'.dst = some t → j = i
  rw' : ∀ (i : Nat) (o : Oper) (t j : Nat) (o' : Oper), L[i]? = some o → o.dst = some t → L[j]? = some o' → t ∈ tmpsOf o' L → (cl.getD j 0).testBit i = true ∨ (cl.getD i 0).testBit j = true
  clo : ∀ (i : Nat) (o : Oper) (j : Nat), L[i]? = some o → ((cl.getD i 0).testBit j = true ↔ ∃ e ∈ o.after.toList, Region.binds .any e = true ∧ (e.on = j ∨ (cl.getD e.on 0).testBit j = true))

theorem mem_zipIdx {L : List Oper} {i : Nat} {o : Oper} (h : L[i]? = some o) : (o, i) ∈ L.zipIdx := by
  rw [List.mem_zipIdx_iff_getElem?]; exact h

theorem Reg.mk' {L : List Oper} {N : Nat} (h : drawOk L (closure L []) N = true) : Reg L (closure L []) N := by
  have H : ∀ (i : Nat) (o : Oper), L[i]? = some o → _ := fun i o hi => List.all_eq_true.1 h (o, i) (mem_zipIdx hi)
  have hback : ∀ (i : Nat) (o : Oper) (e : Edge), L[i]? = some o → e ∈ o.after.toList → Region.binds .any e = true → e.on < i := by
    intro i o e hi he hb
    have := H i o hi
    simp only [Bool.and_eq_true] at this
    have := List.all_eq_true.1 this.1.1.1.1 e he
    simpa [hb, Nat.blt_eq] using this
  refine ⟨hback, ?_, ?_, ?_, ?_, ?_, ?_⟩
  · intro i o hi cs b hs
    have := H i o hi
    simp only [Bool.and_eq_true] at this
    have := this.1.1.1.2
    rw [hs] at this
    cases this
  · intro i o j wt hi hg
    have := H i o hi
    simp only [Bool.and_eq_true] at this
    have := this.1.1.2
    rw [hg] at this
    exact this
  · intro i o t hi hd
    have := H i o hi
    simp only [Bool.and_eq_true] at this
    have := this.1.2
    rw [hd] at this
    simp only [Bool.and_eq_true, Nat.blt_eq] at this
    exact this.1
  · intro i o t j o' hi hd hj hd'
    have := H i o hi
    simp only [Bool.and_eq_true] at this
    have := this.1.2
    rw [hd] at this
    simp only [Bool.and_eq_true] at this
    have := List.all_eq_true.1 this.2 (o', j) (mem_zipIdx hj)
    simp only [Bool.and_eq_true, Bool.or_eq_true, beq_iff_eq, bne_iff_ne] at this
    rcases this.1 with h | h
    · exact h.symm
    · exact absurd hd' h
  · intro i o t j o' hi hd hj ht
    have h2 := H i o hi
    have h3 := H j o' hj
    simp only [Bool.and_eq_true] at h2 h3
    have h4 := h2.1.2
    rw [hd] at h4
    simp only [Bool.and_eq_true] at h4
    have h5 := List.all_eq_true.1 h4.2 (o', j) (mem_zipIdx hj)
    simp only [Bool.and_eq_true, Bool.or_eq_true, beq_iff_eq, Bool.not_eq_true'] at h5
    rcases h5.2 with ((h | h) | h) | h
    · subst h
      rw [hi] at hj
      injection hj with hj
      subst hj
      have := List.all_eq_true.1 h3.2 t ht
      rw [hd] at this
      simp at this
    · rw [List.contains_eq_mem] at h
      simp [ht] at h
    · exact .inl h
    · exact .inr h
  · intro i o j hi
    have hc := closure_at L [] i o hi
    simp only [List.length_nil, Nat.zero_add] at hc
    rw [hc, closeMask_bit]
    constructor
    · rintro ⟨e, he, hb, h⟩
      refine ⟨e, he, hb, h.imp id fun h => ?_⟩
      have := hback i o e hi he hb
      rw [List.getD_eq_getElem?_getD, List.getElem?_take_of_lt this] at h
      rwa [List.getD_eq_getElem?_getD]
    · rintro ⟨e, he, hb, h⟩
      refine ⟨e, he, hb, h.imp id fun h => ?_⟩
      have := hback i o e hi he hb
      rw [List.getD_eq_getElem?_getD, List.getElem?_take_of_lt this]
      rwa [List.getD_eq_getElem?_getD] at h

section sim
variable {L : List Oper} {cl : List Nat} {N : Nat}

def Closed (cl : List Nat) (X : Nat → Prop) : Prop := ∀ i, X i → ∀ j, (cl.getD i 0).testBit j = true → X j
/-- What a slot holds, the operations of X having been run. -/
def Looks (L : List Oper) (V : Nat → Value) (e₀ : List Value) (X : Nat → Prop) (f : Nat → Value) : Prop :=
  ∀ t, (∀ (j : Nat) (o : Oper), L[j]? = some o → o.dst = some t → X j → f t = V j) ∧ ((∀ (j : Nat) (o : Oper), L[j]? = some o → o.dst = some t → ¬ X j) → f t = e₀.getD t undef)
/-- What operation i sees. -/
def Sees (L : List Oper) (cl : List Nat) (V : Nat → Value) (e₀ : List Value) (i : Nat) (o : Oper) (f : Nat → Value) : Prop :=
  ∀ t ∈ tmpsOf o L, (∀ (j : Nat) (o' : Oper), L[j]? = some o' → o'.dst = some t → (cl.getD i 0).testBit j = true → f t = V j) ∧
    ((∀ (j : Nat) (o' : Oper), L[j]? = some o' → o'.dst = some t → ¬ (cl.getD i 0).testBit j = true) → f t = e₀.getD t undef)

theorem cl_sub (R : Reg L cl N) {X : Nat → Prop} (hX : Closed cl X) (i : Nat) (o : Oper) (hi : L[i]? = some o) (hr : ∀ e ∈ o.after.toList, Region.binds .any e = true → X e.on) :
    ∀ j, (cl.getD i 0).testBit j = true → X j := by
  intro j hj
  obtain ⟨e, he, hb, h⟩ := (R.clo i o j hi).1 hj
  have := hr e he hb
  rcases h with rfl | h
  · exact this
  · exact hX _ this _ h

theorem sees_of_looks (R : Reg L cl N) {V : Nat → Value} {e₀ : List Value} {X : Nat → Prop} {f : Nat → Value} (hX : Closed cl X) (hl : Looks L V e₀ X f) (i : Nat) (o : Oper) (hi : L[i]? = some o)
    (hs : ∀ j, (cl.getD i 0).testBit j = true → X j) (hn : ¬ X i) : Sees L cl V e₀ i o f := by
  intro t ht
  refine ⟨fun j o' hj hd hc => (hl t).1 j o' hj hd (hs j hc), fun hno => (hl t).2 fun j o' hj hd hXj => ?_⟩
  rcases R.rw' j o' t i o hj hd hi ht with h | h
  · exact hno j o' hj hd h
  · exact hn (hX j hXj i h)

theorem sees_unique {V : Nat → Value} {e₀ : List Value} {f g : Nat → Value} (i : Nat) (o : Oper) (hf : Sees L cl V e₀ i o f) (hg : Sees L cl V e₀ i o g) : ∀ t ∈ tmpsOf o L, f t = g t := by
  intro t ht
  by_cases h : ∃ (j : Nat) (o' : Oper), L[j]? = some o' ∧ o'.dst = some t ∧ (cl.getD i 0).testBit j = true
  · obtain ⟨j, o', hj, hd, hc⟩ := h
    rw [(hf t ht).1 j o' hj hd hc, (hg t ht).1 j o' hj hd hc]
  · have hno : ∀ (j : Nat) (o' : Oper), L[j]? = some o' → o'.dst = some t → ¬ (cl.getD i 0).testBit j = true := fun j o' hj hd hc => h ⟨j, o', hj, hd, hc⟩
    rw [(hf t ht).2 hno, (hg t ht).2 hno]

theorem op_tmp_mem {o : Oper} {t : Nat} (h : Operand.tmp t ∈ o.op.operands) : t ∈ tmpsOf o L := by
  unfold tmpsOf
  exact List.mem_append_left _ (List.mem_filterMap.2 ⟨.tmp t, by simpa using h, rfl⟩)
theorem ρ_agree {o : Oper} {e e' : List Value} (h : ∀ t ∈ tmpsOf o L, e.getD t undef = e'.getD t undef) : ∀ x ∈ o.op.operands, ρ e x = ρ e' x := by
  intro x hx
  cases x with
  | tmp t => exact h t (op_tmp_mem hx)
  | _ => rfl
theorem yielded_getD {ops : Array Oper} {e : List Value} (j : Nat) : yielded ops e.toArray j = match dstOf ops.toList j with | some d => (match e.getD d undef with | .bool b => some b | _ => none) | none => none := by
  unfold yielded
  rw [dstOf_eq]
  cases hd : dstOf ops.toList j with
  | none => rfl
  | some d =>
    simp only [Option.bind_some, List.getElem?_toArray, List.getD_eq_getElem?_getD]
    cases hx : e[d]? with
    | none => rfl
    | some v => simp only [Option.getD_some]; cases v <;> rfl
theorem wanted_agree {ops : Array Oper} {o : Oper} {e e' : List Value} (h : ∀ t ∈ tmpsOf o ops.toList, e.getD t undef = e'.getD t undef) :
    Region.wanted o (yielded ops e.toArray) = Region.wanted o (yielded ops e'.toArray) := by
  unfold Region.wanted
  cases hg : o.guard with
  | none => rfl
  | some jw =>
    obtain ⟨j, wt⟩ := jw
    simp only [yielded_getD]
    cases hd : dstOf ops.toList j with
    | none => rfl
    | some d =>
      have : d ∈ tmpsOf o ops.toList := by
        unfold tmpsOf
        rw [hg]
        simp only [hd, Option.toList_some]
        exact List.mem_append_right _ (by simp)
      simp only [h d this]

theorem looks_put (R : Reg L cl N) {V : Nat → Value} {e₀ e : List Value} {X X' : Nat → Prop} (i : Nat) (o : Oper) (hi : L[i]? = some o) (hn : ¬ X i) (hX' : ∀ j, X' j ↔ (X j ∨ j = i)) (hlen : e.length = N)
    (hl : Looks L V e₀ X (e.getD · undef)) {v : Value} {V' : Nat → Value} (hv : V' i = v) (hV : ∀ j, X j → V' j = V j) : Looks L V' e₀ X' ((put e o.dst v).getD · undef) := by
  intro t
  by_cases hd : o.dst = some t
  · have hlt := R.dlt i o t hi hd
    have e1 : (put e o.dst v).getD t undef = v := by
      simp [put, hd, List.getD_eq_getElem?_getD, List.getElem?_set_self (show t < e.length by rw [hlen]; exact hlt)]
    refine ⟨fun j o' hj hd' _ => ?_, fun hno => absurd ((hX' i).2 (.inr rfl)) (hno i o hi hd)⟩
    have := R.uniq i o t j o' hi hd hj hd'
    subst this
    show (put e o.dst v).getD t undef = V' j
    rw [e1, hv]
  · have e1 : (put e o.dst v).getD t undef = e.getD t undef := by
      cases hx : o.dst with
      | none => rfl
      | some u =>
        have : u ≠ t := fun h => hd (by rw [hx, h])
        simp [put, List.getD_eq_getElem?_getD, List.getElem?_set_ne this]
    refine ⟨fun j o' hj hd' hXj => ?_, fun hno => ?_⟩
    · show (put e o.dst v).getD t undef = V' j
      rw [e1]
      rcases (hX' j).1 hXj with hXj | rfl
      · rw [hV j hXj]; exact (hl t).1 j o' hj hd' hXj
      · rw [hi] at hj; injection hj with hj; subst hj; exact absurd hd' hd
    · show (put e o.dst v).getD t undef = _
      rw [e1]
      exact (hl t).2 fun j o' hj hd' hXj => hno j o' hj hd' ((hX' j).2 (.inl hXj))

theorem put_length (e : List Value) (d : Option Tmp) (v : Value) : (put e d v).length = e.length := by cases d <;> simp [put]
theorem bit_or (d i j : Nat) : (d ||| 2 ^ i).testBit j = true ↔ (d.testBit j = true ∨ j = i) := by
  simp only [Nat.testBit_or, Nat.testBit_two_pow, Bool.or_eq_true, decide_eq_true_eq]
  constructor
  · rintro (h | h); exact .inl h; exact .inr h.symm
  · rintro (h | h); exact .inl h; exact .inr h.symm

/-- What was run ahead, and is still to be run: what it will give. -/
def Out (P : Program) (ops : Array Oper) (cl : List Nat) (V : Nat → Value) (e₀ : List Value) (p : Pend) (w : World) (i : Nat) (o : Oper) : Prop :=
  ∀ e' : List Value, Sees ops.toList cl V e₀ i o (e'.getD · undef) →
    (Region.wanted o (yielded ops e'.toArray) = true ∧ ((∀ w', (execOp (ρ e') o).run P w' = .ok (.value (V i)) w') ∨ ∃ φ, (i, φ) ∈ p ∧ φ w ∧ ∀ w', φ w' → (execOp (ρ e') o).run P w' = .ok (.value (V i)) w')) ∨
    (Region.wanted o (yielded ops e'.toArray) = false ∧ V i = undef)

structure Inv (P : Program) (ops : Array Oper) (cl : List Nat) (N : Nat) (e₀ : List Value) (S : Nat → Prop) (d : Nat) (V : Nat → Value) (e : List Value) (p : Pend) (w : World) : Prop where
  sub : ∀ i, S i → d.testBit i = true
  lt : ∀ i, d.testBit i = true → i < ops.size
  cS : Closed cl S
  cD : Closed cl (fun i => d.testBit i = true)
  len : e.length = N
  look : Looks ops.toList V e₀ (fun i => d.testBit i = true) (e.getD · undef)
  out : ∀ (i : Nat) (o : Oper), ops.toList[i]? = some o → d.testBit i = true → ¬ S i → kind P o.op ≠ .eff ∧ Out P ops cl V e₀ p w i o

theorem sees_change {V V' : Nat → Value} {e₀ : List Value} {f : Nat → Value} {i : Nat} {o : Oper} (h : ∀ j, (cl.getD i 0).testBit j = true → V' j = V j) (hs : Sees L cl V' e₀ i o f) : Sees L cl V e₀ i o f := by
  intro t ht
  exact ⟨fun j o' hj hd hc => by rw [(hs t ht).1 j o' hj hd hc, h j hc], (hs t ht).2⟩

def upd (V : Nat → Value) (i : Nat) (v : Value) : Nat → Value := fun j => if j = i then v else V j
theorem upd_self (V : Nat → Value) (i : Nat) (v : Value) : upd V i v i = v := by simp [upd]
theorem upd_other (V : Nat → Value) {i j : Nat} (v : Value) (h : j ≠ i) : upd V i v j = V j := by simp [upd, h]

/-- Operation i is run ahead. -/
theorem Inv.ahead {ops : Array Oper} {e₀ : List Value} {S : Nat → Prop} {d : Nat} {V : Nat → Value} {e : List Value} {p p' : Pend} {w : World} (R : Reg ops.toList cl N)
    (I : Inv P ops cl N e₀ S d V e p w) (i : Nat) (o : Oper) (hi : ops.toList[i]? = some o) (hn : d.testBit i = false) (hr : readyIn o d = true) (hk : kind P o.op ≠ .eff) (v : Value) (hp : ∀ x ∈ p, x ∈ p')
    (hv : (Region.wanted o (yielded ops e.toArray) = true ∧ ((∀ w', (execOp (ρ e) o).run P w' = .ok (.value v) w') ∨ ∃ φ, (i, φ) ∈ p' ∧ φ w ∧ ∀ w', φ w' → (execOp (ρ e) o).run P w' = .ok (.value v) w')) ∨
      (Region.wanted o (yielded ops e.toArray) = false ∧ v = undef)) :
    Inv P ops cl N e₀ S (d ||| 2 ^ i) (upd V i v) (put e o.dst v) p' w := by
  have hn' : ¬ d.testBit i = true := by rw [hn]; simp
  have hcl : ∀ j, (cl.getD i 0).testBit j = true → d.testBit j = true := cl_sub R I.cD i o hi ((readyIn_iff o d).1 hr)
  have hsee := sees_of_looks R I.cD I.look i o hi hcl hn'
  have hiS : i < ops.size := by
    rcases Nat.lt_or_ge i ops.size with h | h
    · exact h
    · rw [List.getElem?_eq_none (by simpa using h)] at hi; cases hi
  refine ⟨fun j hj => (bit_or ..).2 (.inl (I.sub j hj)), ?_, I.cS, ?_, by rw [put_length]; exact I.len, ?_, ?_⟩
  · intro j hj
    rcases (bit_or ..).1 hj with h | rfl
    · exact I.lt j h
    · exact hiS
  · intro j hj k hk'
    rcases (bit_or ..).1 hj with h | rfl
    · exact (bit_or ..).2 (.inl (I.cD j h k hk'))
    · exact (bit_or ..).2 (.inl (hcl k hk'))
  · exact looks_put R i o hi hn' (fun j => bit_or d i j) I.len I.look (upd_self V i v) (fun j hj => upd_other V v (fun h => hn' (h ▸ hj)))
  · intro j oj hj hdj hSj
    rcases (bit_or ..).1 hdj with h | rfl
    · obtain ⟨h1, h2⟩ := I.out j oj hj h hSj
      refine ⟨h1, fun e' hs => ?_⟩
      have hji : j ≠ i := fun h' => hn' (h' ▸ h)
      have hs' := sees_change (V := V) (fun k hk' => upd_other V v (fun (h' : k = i) => by subst h'; exact hn' (I.cD j h k hk'))) hs
      rw [upd_other V v hji]
      rcases h2 e' hs' with ⟨a, b | ⟨φ, c1, c2, c3⟩⟩ | b
      · exact .inl ⟨a, .inl b⟩
      · exact .inl ⟨a, .inr ⟨φ, hp _ c1, c2, c3⟩⟩
      · exact .inr b
    · rw [hi] at hj
      injection hj with hj
      subst hj
      refine ⟨hk, fun e' hs => ?_⟩
      have hs' := sees_change (V := V) (fun k hk' => upd_other V v (fun (h' : k = j) => by subst h'; exact hn' (hcl k hk'))) hs
      have hag := sees_unique j o hs' hsee
      rw [upd_self, wanted_agree hag, execOp_congr o (R.noSel j o hi) (ρ_agree hag)]
      exact hv

theorem Inv.sweep {sh : TypeId → Sh} {ops : Array Oper} {e₀ : List Value} {S : Nat → Prop} {w : World} (R : Reg ops.toList cl N) {K : Nat → List Value → Pend → Prop} :
    ∀ (os : List Oper) (k d : Nat) (V : Nat → Value) (e : List Value) (p : Pend), ops.toList.drop k = os → Inv P ops cl N e₀ S d V e p w →
      (∀ (i : Nat) (o : Oper), ops.toList[i]? = some o → i < k → d.testBit i = false → readyIn o d = true → kind P o.op = .eff) →
      sweep P sh ops.toList w (os.zipIdx k) d e p K →
      ∃ d' V' e' p', K d' e' p' ∧ Inv P ops cl N e₀ S d' V' e' p' w ∧ (∀ (i : Nat) (o : Oper), ops.toList[i]? = some o → d'.testBit i = false → readyIn o d' = true → kind P o.op = .eff) ∧ (∀ j, d.testBit j = true → V' j = V j) := by
  intro os
  induction os with
  | nil =>
    intro k d V e p hdrop I hc h
    refine ⟨d, V, e, p, h, I, fun i o hi => hc i o hi ?_, fun _ _ => rfl⟩
    rcases Nat.lt_or_ge i k with h' | h'
    · exact h'
    · have : ops.toList.length ≤ k := by
        rcases Nat.lt_or_ge k ops.toList.length with h2 | h2
        · have := congrArg List.length hdrop; simp at this h2; omega
        · exact h2
      rw [List.getElem?_eq_none (by omega)] at hi; cases hi
  | cons o os ih =>
    intro k d V e p hdrop I hc h
    have hk : ops.toList[k]? = some o := by
      have := congrArg (·[0]?) hdrop
      simpa using this
    have hdrop' : ops.toList.drop (k + 1) = os := by
      have := congrArg List.tail hdrop
      simpa [List.tail_drop] using this
    have grow : ∀ (d' : Nat), d' = d ∨ d' = d ||| 2 ^ k → ∀ (i : Nat) (o' : Oper), ops.toList[i]? = some o' → i < k → d'.testBit i = false → readyIn o' d' = true → kind P o'.op = .eff := by
      intro d' hd' i o' hi hik hb hr
      rcases hd' with rfl | rfl
      · exact hc i o' hi hik hb hr
      · refine hc i o' hi hik ?_ ?_
        · cases hx : d.testBit i with
          | false => rfl
          | true => rw [(bit_or d k i).2 (.inl hx)] at hb; cases hb
        · rw [readyIn_iff] at hr ⊢
          intro e' he hb'
          rcases (bit_or ..).1 (hr e' he hb') with h1 | h1
          · exact h1
          · have := R.back i o' e' hi he hb'
            omega
    simp only [List.zipIdx_cons, Vc.sweep] at h
    cases hcase : d.testBit k || !(readyIn o d) with
    | true =>
      simp only [hcase] at h
      refine ih (k + 1) d V e p hdrop' I ?_ h
      intro i o' hi hik hb hr
      rcases Nat.lt_or_ge i k with h1 | h1
      · exact hc i o' hi h1 hb hr
      · have : i = k := by omega
        subst this
        rw [hk] at hi; injection hi with hi; subst hi
        simp [hb, hr] at hcase
    | false =>
      simp only [hcase] at h
      simp only [Bool.or_eq_false_iff, Bool.not_eq_false'] at hcase
      obtain ⟨hbit, hready⟩ := hcase
      have next : ∀ (V' : Nat → Value) (e' : List Value) (p' : Pend), (∀ j, d.testBit j = true → V' j = V j) → Inv P ops cl N e₀ S (d ||| 2 ^ k) V' e' p' w → Vc.sweep P sh ops.toList w (os.zipIdx (k + 1)) (d ||| 2 ^ k) e' p' K →
          ∃ d' V' e' p', K d' e' p' ∧ Inv P ops cl N e₀ S d' V' e' p' w ∧ (∀ (i : Nat) (o : Oper), ops.toList[i]? = some o → d'.testBit i = false → readyIn o d' = true → kind P o.op = .eff) ∧ (∀ j, d.testBit j = true → V' j = V j) := by
        intro V' e' p' hV I' h'
        have hgr : ∀ (i : Nat) (o' : Oper), ops.toList[i]? = some o' → i < k + 1 → (d ||| 2 ^ k).testBit i = false → readyIn o' (d ||| 2 ^ k) = true → kind P o'.op = .eff := by
          intro i o' hi hik hb hr
          rcases Nat.lt_or_ge i k with h1 | h1
          · exact grow _ (.inr rfl) i o' hi h1 hb hr
          · have : i = k := by omega
            subst this
            rw [(bit_or d i i).2 (.inr rfl)] at hb; cases hb
        obtain ⟨d2, V2, e2, p2, r1, r2, r3, r4⟩ := ih (k + 1) _ V' e' p' hdrop' I' hgr h'
        exact ⟨d2, V2, e2, p2, r1, r2, r3, fun j hj => by rw [r4 j ((bit_or ..).2 (.inl hj)), hV j hj]⟩
      cases hkd : kind P o.op with
      | pure =>
        simp only [hkd] at h
        rcases guardP_sound h with ⟨hw, h⟩ | ⟨hw, h⟩
        · obtain ⟨v, hK, hr⟩ := pureOp_sound hkd h
          exact next _ _ _ (fun j hj => upd_other V _ (fun (h : j = k) => by subst h; rw [hbit] at hj; cases hj)) (I.ahead R k o hk hbit hready (by rw [hkd]; simp) v (fun _ hx => hx) (.inl ⟨hw, .inl hr⟩)) hK
        · exact next _ _ _ (fun j hj => upd_other V _ (fun (h : j = k) => by subst h; rw [hbit] at hj; cases hj)) (I.ahead R k o hk hbit hready (by rw [hkd]; simp) undef (fun _ hx => hx) (.inr ⟨hw, rfl⟩)) h
      | read =>
        simp only [hkd] at h
        rcases guardP_sound h with ⟨hw, h⟩ | ⟨hw, h⟩
        · obtain ⟨v, φ, hK, hφ, hr⟩ := readOp_sound h
          exact next _ _ _ (fun j hj => upd_other V _ (fun (h : j = k) => by subst h; rw [hbit] at hj; cases hj)) (I.ahead R k o hk hbit hready (by rw [hkd]; simp) v (fun _ hx => List.mem_cons_of_mem _ hx) (.inl ⟨hw, .inr ⟨φ, List.mem_cons_self, hφ, hr⟩⟩)) hK
        · exact next _ _ _ (fun j hj => upd_other V _ (fun (h : j = k) => by subst h; rw [hbit] at hj; cases hj)) (I.ahead R k o hk hbit hready (by rw [hkd]; simp) undef (fun _ hx => hx) (.inr ⟨hw, rfl⟩)) h
      | eff =>
        simp only [hkd] at h
        refine ih (k + 1) d V e p hdrop' I ?_ h
        intro i o' hi hik hb hr
        rcases Nat.lt_or_ge i k with h1 | h1
        · exact hc i o' hi h1 hb hr
        · have : i = k := by omega
          subst this
          rw [hk] at hi; injection hi with hi; subst hi
          exact hkd

theorem pendP_ex {c : Nat} {w : World} : ∀ (p acc : Pend) (K : Pend → Prop), pendP c w p acc K → ∃ p', K p' ∧ (∀ x ∈ acc, x ∈ p') ∧ ∀ x ∈ p, c.testBit x.1 = false → x ∈ p' ∧ x.2 w := by
  intro p
  induction p with
  | nil => intro acc K h; exact ⟨acc, h, fun _ hx => hx, fun _ hx => by cases hx⟩
  | cons x p ih =>
    intro acc K h
    obtain ⟨r, φ⟩ := x
    simp only [pendP] at h
    cases hc : c.testBit r with
    | true =>
      simp only [hc] at h
      obtain ⟨p', hK, h1, h2⟩ := ih _ _ h
      refine ⟨p', hK, h1, fun y hy hb => ?_⟩
      rcases List.mem_cons.1 hy with rfl | hy
      · rw [hc] at hb; cases hb
      · exact h2 y hy hb
    | false =>
      simp only [hc] at h
      obtain ⟨hφ, h⟩ := h
      obtain ⟨p', hK, h1, h2⟩ := ih _ _ h
      refine ⟨p', hK, fun y hy => h1 y (List.mem_cons_of_mem _ hy), fun y hy hb => ?_⟩
      rcases List.mem_cons.1 hy with rfl | hy
      · exact ⟨h1 _ List.mem_cons_self, hφ⟩
      · exact h2 y hy hb
theorem allReady_mem : ∀ (l : List Prop), allReady l → ∀ A ∈ l, A := by
  intro l
  induction l with
  | nil => intro h; exact h.elim
  | cons a l ih =>
    intro h A hA
    cases l with
    | nil => simp only [List.mem_singleton] at hA; subst hA; exact h
    | cons b r =>
      rcases List.mem_cons.1 hA with rfl | hA
      · exact h.1
      · exact ih h.2 A hA
end sim
end
end Go.Vc
