/-
  A part of the engine: verification conditions of Go functions that the kernel reckons. No condition.
-/
import Derived.Test.YtobldgdfejpckaaVcDraw3
set_option linter.all false
namespace Go.Vc
section
variable {P : Program}

theorem agree_trans {ts us : List Nat} {a b c : List Value} (h : Agree ts a b) (k : Agree us b c) : Agree (ts ++ us) a c :=
  ⟨k.1.trans h.1, fun t ht => by
    rw [List.mem_append] at ht
    rw [k.2 t (fun h => ht (.inr h)), h.2 t (fun h => ht (.inl h))]⟩
theorem agree_mono {ts us : List Nat} {a b : List Value} (h : Agree ts a b) (hs : ∀ t ∈ ts, t ∈ us) : Agree us a b := ⟨h.1, fun t ht => h.2 t fun h' => ht (hs t h')⟩

theorem dsts_mem {ops : Array Oper} {o : Oper} (h : o ∈ ops.toList) (t : Nat) (ht : o.dst = some t) : t ∈ ops.toList.filterMap (·.dst) := List.mem_filterMap.2 ⟨o, h, ht⟩

theorem vcRegion_sound {sh : TypeId → Sh} {id : Nat} {ops : Array Oper} {draw : Bool} {e : List Value} {w : World} {k : Ks} {F : Fence} {rm : Nat} {ds : List Deferred} (hF : FW F) (hm : P.follows .mixedOrders = true)
    (h : vcRegion P sh ops.toList draw e w k.nx) : (Code.region id ops draw).wpIn F rm P (QS ds (ops.toList.filterMap (·.dst)) e k) ⟨e.toArray, ds⟩ w := by
  unfold vcRegion at h
  cases draw with
  | false =>
    simp only at h
    exact wpIn_region_list (vcSeq_sound hF (ts := ops.toList.filterMap (·.dst)) (e₀ := e) (fun o ho t ht => dsts_mem ho t ht) (fun e' w' ha hK => ⟨rfl, ha, hK⟩) ops.toList e w (fun _ ho => ho) (agree_refl _ _) h)
  | true =>
    simp only at h
    cases hd : drawOk ops.toList (closure ops.toList []) e.length with
    | false => simp [hd] at h
    | true =>
      simp only [hd] at h
      have R := Reg.mk' hd
      refine wpIn_region_any hm ?_
      have hl0 : ∀ i, ¬ isIn (Array.replicate ops.size false) i := by
        intro i
        unfold isIn
        simp only [Array.getD_eq_getD_getElem?, Array.getElem?_replicate]
        split <;> simp
      have hz : ∀ i, (0 : Nat).testBit i = false := fun i => Nat.zero_testBit i
      have I0 : Inv P ops (closure ops.toList []) e.length e (isIn (Array.replicate ops.size false)) 0 (fun _ => undef) e [] w.drew := by
        refine Inv.mk (fun i hi => absurd hi (hl0 i)) (fun i hi => by rw [hz] at hi; cases hi) (fun i hi => absurd hi (hl0 i)) (fun i hi => by have hi : Nat.testBit 0 i = true := hi; rw [hz] at hi; cases hi) rfl ?_ (fun i o _ hi => by rw [hz] at hi; cases hi)
        intro t
        exact ⟨fun j o _ _ hj => (by have hj : Nat.testBit 0 j = true := hj; rw [hz] at hj; cases hj), fun _ => rfl⟩
      obtain ⟨m, d', V', e', p', I', hrest, hVV⟩ := vcDraw_rest R I0 h
      refine any_sound hF R ?_ ops.size _ e w.drew m d' V' e' p' (by simp) ?_ I' rfl ?_ hrest
      · intro d V e' p w' I hK
        refine ⟨rfl, ⟨I.len, fun t ht => ?_⟩, hK⟩
        show e'[t]? = e[t]?
        have hno : ∀ (j : Nat) (o : Oper), ops.toList[j]? = some o → o.dst = some t → ¬ d.testBit j = true := fun j o hj hdst _ => ht (dsts_mem (List.mem_of_getElem? hj) t hdst)
        have he := (I.look t).2 hno
        simp only [List.getD_eq_getElem?_getD] at he
        have hlen := I.len
        rcases Nat.lt_or_ge t e.length with hlt | hge
        · rw [List.getElem?_eq_getElem hlt, List.getElem?_eq_getElem (by omega)] at he ⊢
          simpa using he
        · rw [List.getElem?_eq_none hge, List.getElem?_eq_none (by omega)]
      · unfold left
        exact Nat.le_trans (List.length_filter_le _ _) (by simp)
      · intro t
        exact ⟨fun j o _ _ hj => absurd hj (hl0 j), fun _ => rfl⟩

/-! ### slots that live -/
theorem unAll_ex : ∀ (l : Live) (e : List Value) (K : ProdT l → Prop), unAll l e K → ∃ x, K x ∧ ∀ e' : List Value, (∀ t, (∀ y ∈ l, y.1 ≠ t) → e'[t]? = e[t]?) → e'.length = e.length → (∀ y ∈ l, y.1 < e.length) → emb l x e' = e := by
  intro l
  induction l with
  | nil =>
    intro e K h
    exact ⟨(), h, fun e' ha hl _ => by
      apply List.ext_getElem?
      intro i
      simpa [emb] using ha i (by simp)⟩
  | cons y l ih =>
    obtain ⟨i, s⟩ := y
    intro e K h
    cases l with
    | nil =>
      simp only [unAll] at h
      obtain ⟨x, hx, hK⟩ := s.sound _ _ h
      refine ⟨x, hK, fun e' ha hl hlt => ?_⟩
      have hi := hlt (i, s) (by simp)
      simp only at hi
      simp only [emb]
      apply List.ext_getElem?
      intro j
      rw [List.getElem?_set]
      split
      · rename_i hij
        subst hij
        rw [if_pos (by omega), ← hx, List.getD_eq_getElem?_getD, List.getElem?_eq_getElem hi]
        rfl
      · rename_i hij
        exact ha j (by simpa using hij)
    | cons z l =>
      simp only [unAll] at h
      obtain ⟨x, hx, h⟩ := s.sound _ _ h
      obtain ⟨xs, hK, hxs⟩ := ih e _ h
      refine ⟨(x, xs), hK, fun e' ha hl hlt => ?_⟩
      have hi := hlt (i, s) (by simp)
      simp only at hi
      simp only [emb]
      refine hxs _ ?_ (by simp [hl]) (fun y hy => hlt y (List.mem_cons_of_mem _ hy))
      intro t ht
      rw [List.getElem?_set]
      split
      · rename_i hij
        subst hij
        rw [if_pos (by omega), ← hx, List.getD_eq_getElem?_getD, List.getElem?_eq_getElem hi]
        rfl
      · rename_i hij
        refine ha t ?_
        intro y hy
        rcases List.mem_cons.1 hy with rfl | hy
        · exact hij
        · exact ht y hy

theorem emb_length : ∀ (l : Live) (x : ProdT l) (e : List Value), (emb l x e).length = e.length := by
  intro l
  induction l with
  | nil => intro x e; rfl
  | cons y l ih =>
    obtain ⟨i, s⟩ := y
    cases l with
    | nil => intro x e; simp [emb]
    | cons z l => intro x e; obtain ⟨x, xs⟩ := x; simp only [emb]; rw [ih]; simp
theorem garb_length (g : Nat → Value) : ∀ (ts : List Nat) (e : List Value), (garb g ts e).length = e.length := by
  intro ts
  induction ts with
  | nil => intro e; rfl
  | cons t ts ih => intro e; simp only [garb]; rw [ih]; simp
theorem garb_get (g : Nat → Value) : ∀ (ts : List Nat) (e : List Value) (t : Nat), (garb g ts e)[t]? = if t ∈ ts then (e[t]?).map fun _ => g t else e[t]? := by
  intro ts
  induction ts with
  | nil => intro e t; simp [garb]
  | cons u ts ih =>
    intro e t
    simp only [garb]
    rw [ih]
    by_cases h : t = u
    · subst h
      simp only [List.mem_cons, true_or, if_true, List.getElem?_set_self']
      split <;> cases e[t]? <;> rfl
    · simp only [List.mem_cons, h, false_or]
      rw [List.getElem?_set_ne (Ne.symm h)]

/-- What agrees outside the slots that were written is what comes of garbage in these slots and the live ones' own values. -/
theorem emb_of {l : Live} {ts : List Nat} {e e' : List Value} {K : ProdT l → Prop} (hl : liveIn l ts e.length = true) (ha : Agree ts e e') (h : unAll l e' K) :
    ∃ x, K x ∧ ∃ g, emb l x (garb g ts e) = e' := by
  obtain ⟨x, hK, hx⟩ := unAll_ex l e' K h
  refine ⟨x, hK, fun t => e'.getD t undef, ?_⟩
  have hlt : ∀ y ∈ l, y.1 ∈ ts ∧ y.1 < e.length := by
    intro y hy
    have := List.all_eq_true.1 hl y hy
    simp only [Bool.and_eq_true, Nat.blt_eq] at this
    exact ⟨by simpa using this.1, this.2⟩
  refine hx _ ?_ (by rw [garb_length, ha.1]) (fun y hy => by rw [ha.1]; exact (hlt y hy).2)
  intro t _
  rw [garb_get]
  split
  · rcases Nat.lt_or_ge t e.length with h | h
    · have h' : t < e'.length := by rw [ha.1]; exact h
      rw [List.getElem?_eq_getElem h, List.getElem?_eq_getElem h']
      simp [List.getD_eq_getElem?_getD, List.getElem?_eq_getElem h']
    · rw [List.getElem?_eq_none h, List.getElem?_eq_none (by rw [ha.1]; exact h)]; rfl
  · rename_i hn; exact (ha.2 t hn).symm

theorem agree_emb {l : Live} {ts : List Nat} {e : List Value} (hl : liveIn l ts e.length = true) (x : ProdT l) (g : Nat → Value) : Agree ts e (emb l x (garb g ts e)) := by
  refine ⟨by rw [emb_length, garb_length], fun t ht => ?_⟩
  have hlt : ∀ y ∈ l, y.1 ∈ ts := by
    intro y hy
    have := List.all_eq_true.1 hl y hy
    simp only [Bool.and_eq_true] at this
    simpa using this.1
  have key : ∀ (l : Live) (x : ProdT l) (a : List Value), (∀ y ∈ l, y.1 ∈ ts) → (emb l x a)[t]? = a[t]? := by
    intro l
    induction l with
    | nil => intro x a _; rfl
    | cons y l ih =>
      obtain ⟨i, s⟩ := y
      intro x a hy
      have hit : i ≠ t := fun h => ht (h ▸ hy (i, s) (by simp))
      cases l with
      | nil => simp only [emb]; rw [List.getElem?_set_ne hit]
      | cons z l =>
        obtain ⟨x, xs⟩ := x
        simp only [emb]
        rw [ih _ _ fun y h => hy y (List.mem_cons_of_mem _ h), List.getElem?_set_ne hit]
  rw [key l x _ hlt, garb_get, if_neg ht]

theorem QS_mono {ds : List Deferred} {ts us : List Nat} {e : List Value} {k : Ks} (hs : ∀ t ∈ ts, t ∈ us) : ∀ ex a w, QS ds ts e k ex a w → QS ds us e k ex a w := by
  intro ex a w h
  cases ex <;> simp only [QS] at h ⊢ <;> first | exact ⟨h.1, agree_mono h.2.1 hs, h.2.2⟩ | exact h

theorem act_eta {a : Act} {ds : List Deferred} (h : a.defers = ds) : a = ⟨a.tmps.toList.toArray, ds⟩ := by
  obtain ⟨t, d⟩ := a
  subst h
  simp

theorem vcCode_sound {sh : TypeId → Sh} {an : Ann} {F : Fence} {rm : Nat} {ds : List Deferred} (hF : FW F) (hm : P.follows .mixedOrders = true) : ∀ (c : Code) (k : Ks) (e : List Value) (w : World), vcCode P sh an c k e w → c.wpIn F rm P (QS ds (assigned c) e k) ⟨e.toArray, ds⟩ w := by
  intro c
  induction c with
  | skip => intro k e w h; exact wpIn_skip ⟨rfl, by simpa using agree_refl _ _, by simpa [vcCode] using h⟩
  | region id ops draw => intro k e w h; exact vcRegion_sound hF hm h
  | seq a b iha ihb =>
    intro k e w h
    simp only [vcCode] at h
    refine wpIn_seq ?_
    cases hc : an.cut (firstId b) with
    | none =>
      simp only [hc] at h
      refine wpIn_mono (iha _ _ _ h) ?_
      intro ex a' w' hq
      cases ex with
      | normal =>
        obtain ⟨hd, hag, hnx⟩ := hq
        simp only [Exit.then]
        rw [act_eta hd]
        refine wpIn_mono (ihb _ _ _ hnx) ?_
        intro ex a'' w'' hq
        cases ex <;> simp only [QS] at hq ⊢ <;> first | exact ⟨hq.1, agree_trans hag hq.2.1, hq.2.2⟩ | exact hq
      | exit i => exact ⟨hq.1, agree_mono hq.2.1 (by simp [assigned]; intro t ht; exact .inl ht), hq.2.2⟩
      | ret => exact ⟨hq.1, agree_mono hq.2.1 (by simp [assigned]; intro t ht; exact .inl ht), hq.2.2⟩
      | goto _ => exact hq.elim
      | panic _ => exact hq.elim
      | outgrown => exact hq.elim
    | some l =>
      simp only [hc] at h
      cases hl : liveIn l (assigned a) e.length with
      | false => simp [hl] at h
      | true =>
        simp only [hl] at h
        obtain ⟨J, hA, hB⟩ := h.ex
        refine wpIn_mono (iha _ _ _ hA) ?_
        intro ex a' w' hq
        cases ex with
        | normal =>
          obtain ⟨hd, hag, hnx⟩ := hq
          simp only [Exit.then]
          rw [act_eta hd]
          obtain ⟨x, hJ, g, hx⟩ := emb_of hl hag hnx
          have := ihb _ _ _ (hB g x w' hJ)
          rw [hx] at this
          refine wpIn_mono this ?_
          intro ex a'' w'' hq
          cases ex <;> simp only [QS] at hq ⊢ <;> first | exact ⟨hq.1, agree_trans hag hq.2.1, hq.2.2⟩ | exact hq
        | exit i => exact ⟨hq.1, agree_mono hq.2.1 (by simp [assigned]; intro t ht; exact .inl ht), hq.2.2⟩
        | ret => exact ⟨hq.1, agree_mono hq.2.1 (by simp [assigned]; intro t ht; exact .inl ht), hq.2.2⟩
        | goto _ => exact hq.elim
        | panic _ => exact hq.elim
        | outgrown => exact hq.elim
  | cond c a b iha ihb =>
    intro k e w h
    simp only [vcCode] at h
    split at h
    · rename_i t hc
      have hc' : (⟨e.toArray, ds⟩ : Act).eval c = .bool t := by rw [act_eval]; exact hc
      rcases cond'_ex h with ⟨rfl, h⟩ | ⟨rfl, h⟩
      · exact wpIn_cond_true hc' (wpIn_mono (iha _ _ _ h) (QS_mono (by simp [assigned]; intro t ht; exact .inl ht)))
      · exact wpIn_cond_false hc' (wpIn_mono (ihb _ _ _ h) (QS_mono (by simp [assigned]; intro t ht; exact .inr ht)))
    · exact h.elim
  | block id a iha =>
    intro k e w h
    simp only [vcCode] at h
    refine wpIn_block (wpIn_mono (iha _ _ _ h) ?_)
    intro ex a' w' hq
    cases ex with
    | exit i =>
      simp only [QS] at hq
      simp only [Exit.inBlock]
      split
      · rename_i hi
        subst hi
        simp only [Nat.beq_refl] at hq
        exact hq
      · rename_i hi
        have : Nat.beq i id = false := by
          cases hb : Nat.beq i id with
          | false => rfl
          | true => exact absurd (Nat.eq_of_beq_eq_true hb) hi
        simp only [this] at hq
        exact hq
    | normal => exact hq
    | ret => exact hq
    | goto _ => exact hq.elim
    | panic _ => exact hq.elim
    | outgrown => exact hq.elim
  | loop a iha =>
    intro k e w h
    simp only [vcCode] at h
    cases hl : liveIn (an.loop (firstId a)) (assigned a) e.length with
    | false => simp [hl] at h
    | true =>
      simp only [hl] at h
      obtain ⟨s₀, hs₀, g₀, hg₀⟩ := emb_of (ts := assigned a) hl (agree_refl _ e) h
      obtain ⟨I, μ, hI, hB⟩ := hs₀.ex
      intro b kk cs hro hb hr
      have key : ∀ (n : Nat) (s : ProdT (an.loop (firstId a))) (g : Nat → Value) (w : World), μ s w = n → I s w →
          ∃ ex a' w', QS ds (assigned (Code.loop a)) e k ex a' w' ∧ ArrivesIn (Machine.fenced P F) P (lone (b.atR ⟨(emb (an.loop (firstId a)) s (garb g (assigned a) e)).toArray, ds⟩ (.code a :: .inLoop a :: kk)) cs w) b kk cs ex a' w' := by
        intro n
        induction n using Nat.strongRecOn with
        | _ n ih =>
          intro s g w hn hIs
          have hb' := iha _ _ _ (hB g s w hIs)
          have hag := agree_emb hl s g
          obtain ⟨ex, a₁, w₁, hq, harr⟩ := hb' b (.inLoop a :: kk) cs hro hb hr
          have hsub : ∀ {e'' : List Value}, Agree (assigned a) (emb (an.loop (firstId a)) s (garb g (assigned a) e)) e'' → Agree (assigned (Code.loop a)) e e'' := fun h => agree_mono (agree_trans hag h) (by intro t ht; simpa [assigned] using ht)
          cases ex with
          | normal =>
            obtain ⟨hd, hag₁, hnx⟩ := hq
            obtain ⟨s', ⟨hI', hlt⟩, g', hx⟩ := emb_of hl (hsub hag₁) hnx
            have := ih (μ s' w₁) (hn ▸ hlt) s' g' w₁ rfl hI'
            rw [hx, ← act_eta hd] at this
            obtain ⟨e₂, a₂, w₂, hq₂, harr₂⟩ := this
            exact ⟨e₂, a₂, w₂, hq₂, .of_steps (StepsIn.trans harr (.one (fenced_calm hb hr rfl) stepR_inLoop)) harr₂⟩
          | exit id => exact ⟨.exit id, a₁, w₁, ⟨hq.1, hsub hq.2.1, hq.2.2⟩, .pass (x := .inLoop a) rfl (fun _ _ => .inl (by simp)) harr⟩
          | ret => exact ⟨.ret, a₁, w₁, ⟨hq.1, hsub hq.2.1, hq.2.2⟩, .pass (x := .inLoop a) rfl (fun _ _ => .inl (by simp)) harr⟩
          | goto _ => exact hq.elim
          | panic _ => exact hq.elim
          | outgrown => exact hq.elim
      obtain ⟨ex, a', w', hq, harr⟩ := key _ s₀ g₀ w rfl hI
      rw [hg₀] at harr
      exact ⟨ex, a', w', hq, .of_steps (.one (fenced_calm hb hr rfl) stepR_loop) harr⟩
  | exit id => intro k e w h; exact wpIn_exit ⟨rfl, by simpa using agree_refl _ _, by simpa [vcCode] using h⟩
  | ret => intro k e w h; exact wpIn_ret ⟨rfl, by simpa using agree_refl _ _, by simpa [vcCode] using h⟩
  | rangeFunc f ps as b _ _ => intro k e w h; exact h.ex F rm ds hF
  | scope b _ => intro k e w h; exact h.ex F rm ds hF
  | label l => intro k e w h; exact h.ex F rm ds hF
  | goto l => intro k e w h; exact h.ex F rm ds hF
  | refuse s => intro k e w h; exact h.ex F rm ds hF

/-! ### functions -/
def resOne (tmps : Array Value) : ResultVar → Sem Value
  | .tmp t => pure (tmps.getD t undef)
  | .cell a t => do loadVar t (← asAddr (tmps.getD a undef))
theorem results_eq (fn : Func) (tmps : Array Value) : results fn tmps = (do let vs ← fn.results.mapM (resOne tmps); pure (if h : vs.size = 1 then vs[0] else .tuple vs)) := by
  rfl
theorem resL_sound {sh : TypeId → Sh} (tmps : List Value) (w : World) : ∀ (rs : List ResultVar) (K : List Value → Prop), resL P sh rs tmps w K →
    ∃ vs, K vs ∧ (rs.mapM (resOne tmps.toArray)).run P w = .ok vs w := by
  intro rs
  induction rs with
  | nil => intro K h; exact ⟨[], h, by simp⟩
  | cons r rs ih =>
    intro K h
    cases r with
    | tmp t =>
      simp only [resL] at h
      obtain ⟨vs, hK, hr⟩ := ih _ h
      refine ⟨_, hK, ?_⟩
      have e : tmps.toArray.getD t undef = tmps.getD t undef := by simp
      simp only [List.mapM_cons, Sem.run_bind, resOne, Sem.run_pure, Result.andThen_ok, hr, e]
    | cell a t =>
      simp only [resL] at h
      obtain ⟨v, φ, h1, h2, h3⟩ := sload_sound h
      obtain ⟨vs, hK, hr⟩ := ih _ h1
      refine ⟨_, hK, ?_⟩
      have hl := h3 w h2
      have e : tmps.toArray.getD a undef = tmps.getD a undef := by simp
      have hl' : (resOne tmps.toArray (.cell a t)).run P w = .ok v w := by
        simp only [resOne]
        rw [e]
        unfold Instr.loadAt Instr.sureAddr at hl
        generalize tmps.getD a undef = x at hl
        cases x <;> simp at hl
        rename_i p
        cases p <;> simp at hl
        simpa [asAddr] using hl
      simp only [List.mapM_cons, Sem.run_bind, hl', Sem.run_pure, Result.andThen_ok, hr]

theorem tupV_eq (vs : List Value) : (if h : vs.toArray.size = 1 then vs.toArray[0] else .tuple vs.toArray) = tupV vs := by
  unfold tupV
  cases vs with
  | nil => rfl
  | cons v vs =>
    cases vs with
    | nil => rfl
    | cons u vs => simp

/-! ### range over a function -/
def markOf (D : Nat) : Deferred := { target := .collected D, args := #[] }
def QT (k : Kt) : Exit → Act → World → Prop
  | .normal, a, w => ∃ ds, a.defers = ds.map markOf ∧ k.nx ds a.tmps.toList w
  | .exit i, a, w => ∃ ds, a.defers = ds.map markOf ∧ k.ex i ds a.tmps.toList w
  | .ret, a, w => ∃ ds, a.defers = ds.map markOf ∧ k.rt ds a.tmps.toList w
  | _, _, _ => False
theorem QS_QT {ts : List Nat} {e : List Value} {k : Kt} {ds : List Nat} : ∀ ex a w, QS (ds.map markOf) ts e (k.at ds) ex a w → QT k ex a w := by
  intro ex a w h
  cases ex <;> simp only [QS] at h <;> first | exact ⟨ds, h.1, h.2.2⟩ | exact h.elim

theorem listEq_eq : ∀ {l m : List Nat}, listEq l m = true → l = m
  | [], [], _ => rfl
  | a :: l, b :: m, h => by
    simp only [listEq] at h
    split at h
    · rename_i hb
      rw [Nat.eq_of_beq_eq_true hb, listEq_eq h]
    · cases h
theorem vals_len : ∀ (l : Live) (x : ProdT l), (vals l x).length = l.length
  | [], _ => rfl
  | [(_, s)], x => rfl
  | (_, s) :: y :: r, (x, z) => by
    show (vals (y :: r) z).length + 1 = _
    rw [vals_len (y :: r) z]
    rfl
theorem emb_foldl : ∀ (l : Live) (x : ProdT l) (e : List Value), ((l.map (·.1)).zip (vals l x)).foldl (fun (t : Array Value) (x : Tmp × Value) => t.setIfInBounds x.1 x.2) e.toArray = (emb l x e).toArray
  | [], _, _ => rfl
  | [(i, s)], x, e => by simp [vals, emb]
  | (i, s) :: y :: r, (x, z), e => by
    show ((i :: ((y :: r).map (·.1))).zip (s.val x :: vals (y :: r) z)).foldl _ e.toArray = _
    rw [List.zip_cons_cons, List.foldl_cons]
    have := emb_foldl (y :: r) z (e.set i (s.val x))
    simp only [emb]
    rw [← this]
    simp

theorem rounds_sound {sh : TypeId → Sh} {an : Ann} {f : FuncId} {ps : Array Tmp} {as b : Code} {e : List Value} {d : Nat} {l : Live} (hm : P.follows .mixedOrders = true) (hl : listEq (l.map (·.1)) ps.toList = true) {rec : Loop}
    (hrec : rec = { state := .ready, pending := none, fn := f, tmps := e.toArray, params := ps, assign := as, body := b, defers := d }) :
    RoundsP P rec (vals l) (fun L x w J => bodyP P sh an as b (emb l x e) L w J) := by
  intro L W x K hL hB
  refine ⟨fun F n hF => ?_⟩
  have hps := listEq_eq hl
  have hy := run_yield (P := P) (args := (vals l x).toArray) hL (by
    rw [hrec]
    have h1 := vals_len l x
    have h2 : (l.map (·.1)).length = ps.toList.length := by rw [hps]
    simp at h2
    simp [h1, h2])
  refine ⟨_, _, _, _, _, hy, ?_⟩
  have hF' := hF.inRound L
  refine roundIn_of_wpIn (hF.fn _) ?_
  rw [hrec]
  have et : (ps.zip (vals l x).toArray).foldl (fun (t : Array Value) (x : Tmp × Value) => t.setIfInBounds x.1 x.2) e.toArray = (emb l x e).toArray := by
    rw [← emb_foldl, ← Array.foldl_toList, Array.toList_zip, hps]
  show (as.wpIn (F.inRound L) n P _ ⟨(ps.zip (vals l x).toArray).foldl (fun (t : Array Value) (x : Tmp × Value) => t.setIfInBounds x.1 x.2) e.toArray, []⟩ W)
  rw [et]
  refine wpIn_mono (vcCode_sound hF' hm _ _ _ _ hB) ?_
  intro ex a1 w1 hq
  cases ex with
  | normal =>
    obtain ⟨hd, _, w2, hb, hq⟩ := hq
    refine ⟨w2, hb, ?_⟩
    rw [act_eta hd]
    refine wpIn_mono (vcCode_sound hF' hm _ _ _ _ hq) ?_
    intro ex a2 w3 hq
    cases ex with
    | normal =>
      obtain ⟨_, _, w4, he, hK⟩ := hq
      exact ⟨_, w4, he, true, rfl, hK⟩
    | exit i => exact hq.2.2.elim
    | ret => exact hq.2.2.elim
    | goto _ => exact hq.elim
    | panic _ => exact hq.elim
    | outgrown => exact hq.elim
  | exit i => exact hq.2.2.elim
  | ret => exact hq.2.2.elim
  | goto _ => exact hq.elim
  | panic _ => exact hq.elim
  | outgrown => exact hq.elim

theorem rangeP_sound {sh : TypeId → Sh} {an : Ann} {f : Operand} {ps : Array Tmp} {as b : Code} {e : List Value} {ds : List Nat} {w : World} {k : Kt} {rm : Nat} {l : Live} (hm : P.follows .mixedOrders = true) (hl : listEq (l.map (·.1)) ps.toList = true)
    (h : rangeP P (ρ e f) (vals l) (fun L x w J => bodyP P sh an as b (emb l x e) L w J) w fun D w' => k.nx (D :: ds) e w') :
    (Code.rangeFunc f ps as b).wpIn Fence.wide rm P (QT k) ⟨e.toArray, ds.map markOf⟩ w := by
  obtain ⟨g, lb, hf, hb, h⟩ := h.ex
  refine wpIn_rangeFunc ?_
  intro fn _
  obtain ⟨rec, hrec⟩ : ∃ rec : Loop, rec = { state := .ready, pending := none, fn, tmps := e.toArray, params := ps, assign := as, body := b, defers := w.heap.size } := ⟨_, rfl⟩
  have hc := h rec (by rw [hrec]) (by rw [hrec]) (rounds_sound hm hl hrec)
  refine ⟨w.heap.size + 1, [markOf w.heap.size], (w.alloc (.deferred (some []))).alloc (.loop rec), { target := .fn (.func g) lb, args := #[.func (.yield (w.heap.size + 1)) #[] #[]] }, (w.alloc (.deferred (some []))).alloc (.loop rec), g,
    #[.func (.yield (w.heap.size + 1)) #[] #[]] ++ lb, (w.alloc (.deferred (some []))).alloc (.loop rec), ?_, ?_, fun _ _ => trivial, ?_, fun h => by simp [Fence.wide] at h, ?_⟩
  · rw [hrec]; exact run_enterLoop_outer _ _ _ _ _
  · have hg : (⟨e.toArray, ds.map markOf⟩ : Act).eval f = .func (.func g) #[] lb := by rw [act_eval]; exact hf
    simp only [resolve, hg]
    simp [go_sem]
  · simp only [invoke]
    exact callFunc_run hb _
  · refine callsIn_wide.2 (hc.mono ?_)
    rintro en w3 ⟨⟨v, rfl⟩, w4, he, hK⟩
    exact ⟨none, w4, he, w.heap.size :: ds, rfl, hK⟩

theorem vcTop_sound {sh : TypeId → Sh} {an : Ann} {rm : Nat} (hm : P.follows .mixedOrders = true) : ∀ (c : Code) (k : Kt) (ds : List Nat) (e : List Value) (w : World), vcTop P sh an c k ds e w →
    c.wpIn Fence.wide rm P (QT k) ⟨e.toArray, ds.map markOf⟩ w := by
  intro c
  have base : ∀ (c : Code) (k : Kt) (ds : List Nat) (e : List Value) (w : World), vcCode P sh an c (k.at ds) e w → c.wpIn Fence.wide rm P (QT k) ⟨e.toArray, ds.map markOf⟩ w :=
    fun c k ds e w h => wpIn_mono (vcCode_sound FW.wide hm c _ _ _ h) QS_QT
  induction c with
  | seq a b iha ihb =>
    intro k ds e w h
    simp only [vcTop] at h
    split at h
    · exact base _ _ _ _ _ h
    · refine wpIn_seq (wpIn_mono (iha _ _ _ _ h) ?_)
      intro ex a' w' hq
      cases ex with
      | normal =>
        obtain ⟨ds', hd, hnx⟩ := hq
        simp only [Exit.then]
        rw [act_eta hd]
        exact ihb _ _ _ _ hnx
      | exit i => exact hq
      | ret => exact hq
      | goto _ => exact hq.elim
      | panic _ => exact hq.elim
      | outgrown => exact hq.elim
    · split at h
      · refine wpIn_seq (wpIn_mono (vcCode_sound FW.wide hm _ _ _ _ h) ?_)
        intro ex a' w' hq
        cases ex with
        | normal =>
          obtain ⟨hd, _, hnx⟩ := hq
          simp only [Exit.then]
          rw [act_eta hd]
          exact ihb _ _ _ _ hnx
        | exit i => exact ⟨ds, hq.1, hq.2.2⟩
        | ret => exact ⟨ds, hq.1, hq.2.2⟩
        | goto _ => exact hq.elim
        | panic _ => exact hq.elim
        | outgrown => exact hq.elim
      · rename_i l hc
        split at h
        · rename_i hl
          obtain ⟨J, hA, hB⟩ := h.ex
          refine wpIn_seq (wpIn_mono (vcCode_sound FW.wide hm _ _ _ _ hA) ?_)
          intro ex a' w' hq
          cases ex with
          | normal =>
            obtain ⟨hd, hag, hnx⟩ := hq
            simp only [Exit.then]
            rw [act_eta hd]
            obtain ⟨x, hJ, g, hx⟩ := emb_of hl hag hnx
            have := ihb _ _ _ _ (hB g x w' hJ)
            rw [hx] at this
            exact this
          | exit i => exact ⟨ds, hq.1, hq.2.2⟩
          | ret => exact ⟨ds, hq.1, hq.2.2⟩
          | goto _ => exact hq.elim
          | panic _ => exact hq.elim
          | outgrown => exact hq.elim
        · exact h.elim
  | block id a iha =>
    intro k ds e w h
    simp only [vcTop] at h
    split at h
    · exact base _ _ _ _ _ h
    · refine wpIn_block (wpIn_mono (iha _ _ _ _ h) ?_)
      intro ex a' w' hq
      cases ex with
      | exit i =>
        obtain ⟨ds', hd, hq⟩ := hq
        simp only [Exit.inBlock]
        split
        · rename_i hi
          subst hi
          simp only [Nat.beq_refl] at hq
          exact ⟨ds', hd, hq⟩
        · rename_i hi
          have : Nat.beq i id = false := by
            cases hb : Nat.beq i id with
            | false => rfl
            | true => exact absurd (Nat.eq_of_beq_eq_true hb) hi
          simp only [this] at hq
          exact ⟨ds', hd, hq⟩
      | normal => exact hq
      | ret => exact hq
      | goto _ => exact hq.elim
      | panic _ => exact hq.elim
      | outgrown => exact hq.elim
  | rangeFunc f ps as b _ _ => 
    intro k ds e w h
    simp only [vcTop] at h
    split at h
    · exact rangeP_sound hm (by assumption) h
    · exact h.elim
  | skip => intro k ds e w h; exact base _ _ _ _ _ h
  | region id ops draw => intro k ds e w h; exact base _ _ _ _ _ h
  | cond c a b _ _ => intro k ds e w h; simp only [vcTop] at h; split at h <;> first | exact base _ _ _ _ _ h | exact h.elim
  | loop a _ => intro k ds e w h; simp only [vcTop] at h; split at h <;> first | exact base _ _ _ _ _ h | exact h.elim
  | exit id => intro k ds e w h; exact base _ _ _ _ _ h
  | ret => intro k ds e w h; exact base _ _ _ _ _ h
  | scope b _ => intro k ds e w h; simp only [vcTop] at h; split at h <;> first | exact base _ _ _ _ _ h | exact h.elim
  | label l => intro k ds e w h; exact base _ _ _ _ _ h
  | goto l => intro k ds e w h; exact base _ _ _ _ _ h
  | refuse s => intro k ds e w h; exact base _ _ _ _ _ h

theorem leaves_sound {fn : Func} {tmps : Array Value} {R : Ending → World → Prop} : ∀ (ds : List Nat) (w : World), leaveAll P ds w (fun w' => ∃ v, (results fn tmps).run P w' = .ok v w' ∧ R (.returned v) w') →
    LeavesInM Fence.wide 0 P fn tmps R (ds.map markOf) .returning w
  | [], w, h => h
  | D :: ds, w, h => by
    obtain ⟨w', ht, h⟩ := h.ex
    exact ⟨by simp, .inl ⟨D, w', rfl, ht, leaves_sound ds w' h⟩⟩
theorem leaveAll_mono {K K' : World → Prop} (hk : ∀ w, K w → K' w) : ∀ (ds : List Nat) (w : World), leaveAll P ds w K → leaveAll P ds w K'
  | [], w, h => hk w h
  | D :: ds, w, h => by
    obtain ⟨w', ht, h⟩ := h.ex
    exact ⟨w', ht, leaveAll_mono hk ds w' h⟩

theorem vcFn_sound {sh : TypeId → Sh} {an : Ann} {f : FuncId} {fn : Func} {args : List Value} {res : Sh} {w : World} {R : res.α → World → Prop} (hm : P.follows .mixedOrders = true) (hf : P.funcs[f]? = some fn)
    (hn : (fn.name == "runtime.NumGoroutine") = false) (h : vcFn P sh an fn args res w R) : callP P f args.toArray w res.val R := by
  unfold vcFn at h
  cases hb : fn.body with
  | none => simp [hb] at h
  | some c =>
    simp only [hb] at h
    refine ⟨.inl ⟨by unfold bodyOk; rw [hf]; simp only [hb, Option.isSome_some, Bool.true_and, bne]; rw [hn]; rfl, ?_⟩⟩
    refine callsIn_wide.1 (callsIn_of_wp_marks (n := 0) hf hb trivial ?_)
    have hs := vcTop_sound (rm := 0) hm c _ _ _ _ h
    have e : args.toArray ++ Array.replicate (fn.ntmps - args.toArray.size) undef = (args ++ List.replicate (fn.ntmps - args.length) undef).toArray := by
      apply Array.ext'; simp
    rw [e]
    refine wpIn_mono hs ?_
    have fin : ∀ (a : Act) (w : World), (∃ ds : List Nat, a.defers = ds.map markOf ∧ leaveAll P ds w fun w => resL P sh fn.results.toList a.tmps.toList w (fun vs => res.un (tupV vs) fun x => R x w)) →
        LeavesInM Fence.wide 0 P fn a.tmps (Ret fun v w' => ∃ x, v = res.val x ∧ R x w') a.defers .returning w := by
      rintro a w ⟨ds, hd, hr⟩
      rw [hd]
      refine leaves_sound ds w (leaveAll_mono ?_ ds w hr)
      intro w hr
      obtain ⟨vs, hK, hrun⟩ := resL_sound a.tmps.toList w _ _ hr
      obtain ⟨x, hx, hR⟩ := res.sound _ _ hK
      refine ⟨tupV vs, ?_, x, hx, hR⟩
      rw [results_eq]
      simp only [Sem.run_bind]
      rw [Array.mapM_eq_mapM_toList]
      simp only [Sem.run_map]
      have e2 : a.tmps.toList.toArray = a.tmps := by simp
      rw [e2] at hrun
      rw [hrun]
      simp only [Result.andThen_ok, Sem.run_pure]
      rw [tupV_eq]
    intro ex a w' hq
    cases ex with
    | normal => exact fin a w' hq
    | ret => exact fin a w' hq
    | exit i => obtain ⟨_, _, h⟩ := hq; exact h.elim
    | goto _ => exact hq.elim
    | panic _ => exact hq.elim
    | outgrown => exact hq.elim
end
end Go.Vc
