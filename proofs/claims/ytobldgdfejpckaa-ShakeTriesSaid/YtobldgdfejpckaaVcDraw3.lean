/-
  A part of the engine: verification conditions of Go functions that the kernel reckons. No condition.
-/
import Derived.Test.YtobldgdfejpckaaVcDraw2
set_option linter.all false
namespace Go.Vc
section
variable {P : Program}

def isIn (listed : Array Bool) (i : Nat) : Prop := listed.getD i false = true
def left (n : Nat) (listed : Array Bool) : Nat := ((List.range n).filter fun i => !(listed.getD i false)).length

theorem getD_set {listed : Array Bool} {i j : Nat} (hi : i < listed.size) : (listed.setIfInBounds i true).getD j false = true ↔ (listed.getD j false = true ∨ j = i) := by
  simp only [Array.getD_eq_getD_getElem?, Array.getElem?_setIfInBounds]
  by_cases h : i = j
  · subst h; simp [hi]
  · simp [h, Ne.symm h]
theorem left_set {n i : Nat} {listed : Array Bool} (hs : listed.size = n) (hi : i < n) (hn : ¬ isIn listed i) : left n (listed.setIfInBounds i true) + 1 ≤ left n listed := by
  unfold left
  have h1 : (List.range n).filter (fun j => !((listed.setIfInBounds i true).getD j false)) = ((List.range n).filter fun j => !(listed.getD j false)).filter (fun j => j != i) := by
    rw [List.filter_filter]
    apply List.filter_congr
    intro j _
    have := getD_set (listed := listed) (i := i) (j := j) (by omega)
    cases hx : (listed.setIfInBounds i true).getD j false with
    | true =>
      rcases this.1 hx with h | rfl
      · simp [h]
      · simp
    | false =>
      have hj : ¬ (listed.getD j false = true ∨ j = i) := fun h => by rw [this.2 h] at hx; cases hx
      have h2 : listed.getD j false = false := by cases hy : listed.getD j false <;> simp_all
      have h3 : j ≠ i := fun h => hj (.inr h)
      simp [h2, h3]
  rw [h1]
  have hmem : i ∈ (List.range n).filter fun j => !(listed.getD j false) := by
    simp only [List.mem_filter, List.mem_range]
    refine ⟨hi, ?_⟩
    unfold isIn at hn
    cases hy : listed.getD i false <;> simp_all
  have : (((List.range n).filter fun j => !(listed.getD j false)).filter (fun j => j != i)).length < ((List.range n).filter fun j => !(listed.getD j false)).length := by
    apply List.length_filter_lt_length_iff_exists.2
    exact ⟨i, hmem, by simp⟩
  omega

theorem mem_ready {ops : Array Oper} {listed : Array Bool} (hs : listed.size = ops.size) (i : Nat) :
    i ∈ Region.ready .any ops listed ↔ ∃ o, ops.toList[i]? = some o ∧ ¬ isIn listed i ∧ ∀ e ∈ o.after.toList, Region.binds .any e = true → isIn listed e.on := by
  unfold Region.ready isIn
  simp only [List.mem_filter, List.mem_range, Bool.and_eq_true, Bool.not_eq_true']
  constructor
  · rintro ⟨hi, h1, h2⟩
    have ho : ops[i]? = some ops[i] := Array.getElem?_eq_getElem hi
    refine ⟨ops[i], by simp [ho], ?_, ?_⟩
    · have : listed.getD i true = listed.getD i false := by simp [Array.getD_eq_getD_getElem?, Array.getElem?_eq_getElem (show i < listed.size by omega)]
      rw [← this, h1]; simp
    · intro e he hb
      simp only [ho, Option.map_some, Option.getD_some] at h2
      have := Array.all_eq_true_iff_forall_mem.1 h2 e (by simpa using he)
      simpa [hb] using this
  · rintro ⟨o, ho, h1, h2⟩
    have hi : i < ops.size := by
      rcases Nat.lt_or_ge i ops.size with h | h
      · exact h
      · rw [List.getElem?_eq_none (by simpa using h)] at ho; cases ho
    have ho' : ops[i]? = some o := by simpa using ho
    refine ⟨hi, ?_, ?_⟩
    · have : listed.getD i true = listed.getD i false := by simp [Array.getD_eq_getD_getElem?, Array.getElem?_eq_getElem (show i < listed.size by omega)]
      rw [this]
      cases hy : listed.getD i false <;> simp_all
    · simp only [ho', Option.map_some, Option.getD_some]
      rw [Array.all_eq_true_iff_forall_mem]
      intro e he
      cases hb : Region.binds .any e with
      | false => simp
      | true => simp [h2 e (by simpa using he) hb]

theorem looks_eq {L : List Oper} {V : Nat → Value} {e₀ : List Value} {X Y : Nat → Prop} {f g : Nat → Value} (hXY : ∀ j o, L[j]? = some o → (X j ↔ Y j)) (hf : Looks L V e₀ X f) (hg : Looks L V e₀ Y g) : ∀ t, f t = g t := by
  intro t
  by_cases h : ∃ (j : Nat) (o : Oper), L[j]? = some o ∧ o.dst = some t ∧ X j
  · obtain ⟨j, o, hj, hd, hx⟩ := h
    rw [(hf t).1 j o hj hd hx, (hg t).1 j o hj hd ((hXY j o hj).1 hx)]
  · rw [(hf t).2 fun j o hj hd hx => h ⟨j, o, hj, hd, hx⟩, (hg t).2 fun j o hj hd hy => h ⟨j, o, hj, hd, (hXY j o hj).2 hy⟩]
theorem list_of_getD {a b : List Value} (hl : a.length = b.length) (h : ∀ t, a.getD t undef = b.getD t undef) : a = b := by
  apply List.ext_getElem hl
  intro i h1 h2
  have := h i
  simpa [List.getD_eq_getElem?_getD, List.getElem?_eq_getElem h1, List.getElem?_eq_getElem h2] using this

def Rest (P : Program) (sh : TypeId → Sh) (ops : List Oper) (cl : List Nat) (K : List Value → World → Prop) (n : Nat) (d : Nat) (e : List Value) (p : Pend) (w : World) : Prop :=
  (∀ (i : Nat) (o : Oper), ops[i]? = some o → d.testBit i = false → readyIn o d = true → kind P o.op = .eff) ∧
  match Nat.beq d (2 ^ ops.length - 1) with
  | true => K e w
  | false => allReady ((ops.zipIdx.filter fun x => !(d.testBit x.2) && readyIn x.1 d).map fun x =>
      guardP ops x.1 e
        (fun e => effOp P sh x.1.op x.1.type e w fun v w' => pendP (cl.getD x.2 0) w' p [] fun p => vcDraw P sh ops cl K n (d ||| 2 ^ x.2) (put e x.1.dst v) p w')
        (fun e => vcDraw P sh ops cl K n (d ||| 2 ^ x.2) (put e x.1.dst undef) p w))

theorem vcDraw_rest {sh : TypeId → Sh} {ops : Array Oper} {cl : List Nat} {N : Nat} {e₀ : List Value} {S : Nat → Prop} {K : List Value → World → Prop} (R : Reg ops.toList cl N) {n d : Nat} {V : Nat → Value} {e : List Value} {p : Pend} {w : World}
    (I : Inv P ops cl N e₀ S d V e p w) (h : vcDraw P sh ops.toList cl K n d e p w) :
    ∃ m d' V' e' p', Inv P ops cl N e₀ S d' V' e' p' w ∧ Rest P sh ops.toList cl K m d' e' p' w ∧ (∀ j, d.testBit j = true → V' j = V j) := by
  cases n with
  | zero => exact h.elim
  | succ n =>
    simp only [vcDraw] at h
    obtain ⟨d', V', e', p', h1, h2, h3, h4⟩ := Inv.sweep R ops.toList 0 d V e p (by simp) I (fun i o _ hi => by omega) h
    exact ⟨n, d', V', e', p', h2, ⟨h3, h1⟩, h4⟩

theorem any_sound {sh : TypeId → Sh} {ops : Array Oper} {cl : List Nat} {N : Nat} {e₀ : List Value} {K : List Value → World → Prop} {Q : Exit → Act → World → Prop} {F : Fence} {rm : Nat} {ds : List Deferred} (hF : FW F) (R : Reg ops.toList cl N)
    (hQ : ∀ d V e p w, Inv P ops cl N e₀ (fun i => i < ops.size) d V e p w → K e w → Q .normal ⟨e.toArray, ds⟩ w) :
    ∀ (fuel : Nat) (listed : Array Bool) (a : List Value) (w : World) (m d : Nat) (V : Nat → Value) (e : List Value) (p : Pend), listed.size = ops.size → left ops.size listed ≤ fuel →
      Inv P ops cl N e₀ (isIn listed) d V e p w → a.length = N → Looks ops.toList V e₀ (isIn listed) (a.getD · undef) → Rest P sh ops.toList cl K m d e p w →
      wpAnyIn F rm P .any ops Q fuel listed ⟨a.toArray, ds⟩ w := by
  have key : ∀ (listed : Array Bool) (a : List Value) (w : World) (m d : Nat) (V : Nat → Value) (e : List Value) (p : Pend), listed.size = ops.size → 
      Inv P ops cl N e₀ (isIn listed) d V e p w → a.length = N → Looks ops.toList V e₀ (isIn listed) (a.getD · undef) → Rest P sh ops.toList cl K m d e p w →
      Region.ready .any ops listed = [] → Q .normal ⟨a.toArray, ds⟩ w := by
    intro listed a w m d V e p hs I hla hl hr hnil
    have hall : ∀ i, i < ops.size → isIn listed i := by
      intro i
      induction i using Nat.strongRecOn with
      | _ i ih =>
        intro hi
        by_cases hin : isIn listed i
        · exact hin
        · exfalso
          have ho : ops.toList[i]? = some ops[i] := by simp [Array.getElem?_eq_getElem hi]
          have : i ∈ Region.ready .any ops listed := (mem_ready hs i).2 ⟨ops[i], ho, hin, fun e' he hb => by
            have hlt := R.back i _ e' ho he hb
            exact ih e'.on hlt (by omega)⟩
          rw [hnil] at this
          cases this
    have hfull : Nat.beq d (2 ^ ops.toList.length - 1) = true := by
      have : d = 2 ^ ops.toList.length - 1 := by
        apply Nat.eq_of_testBit_eq
        intro j
        rw [Nat.testBit_two_pow_sub_one]
        rcases Nat.lt_or_ge j ops.size with h | h
        · rw [I.sub j (hall j h)]; simp [h]
        · have : d.testBit j = false := by
            cases hx : d.testBit j with
            | false => rfl
            | true => have := I.lt j hx; omega
          rw [this]; simp; omega
      rw [this]; exact Nat.beq_refl _
    obtain ⟨_, hr⟩ := hr
    rw [hfull] at hr
    have hae : a = e := by
      refine list_of_getD (by rw [hla, I.len]) (looks_eq ?_ hl I.look)
      intro j o hj
      have hjs : j < ops.size := by
        rcases Nat.lt_or_ge j ops.size with h | h
        · exact h
        · rw [List.getElem?_eq_none (by simpa using h)] at hj; cases hj
      exact ⟨fun h => I.sub j h, fun _ => hall j hjs⟩
    rw [hae]
    refine hQ d V e p w ⟨fun i hi => I.sub i (hall i hi), I.lt, ?_, I.cD, I.len, I.look, ?_⟩ hr
    · intro i hi j hj
      exact I.lt j (I.sub j (I.cS i (hall i hi) j hj))
    · intro i o hi hd hn
      exact absurd (I.lt i hd) hn
  intro fuel
  induction fuel with
  | zero =>
    intro listed a w m d V e p hs hf I hla hl hr
    have hnil : Region.ready .any ops listed = [] := by
      rw [List.eq_nil_iff_forall_not_mem]
      intro i hi
      obtain ⟨o, ho, hn, _⟩ := (mem_ready hs i).1 hi
      have hi' : i < ops.size := by
        rcases Nat.lt_or_ge i ops.size with h | h
        · exact h
        · rw [List.getElem?_eq_none (by simpa using h)] at ho; cases ho
      have hz : (List.range ops.size).filter (fun i => !(listed.getD i false)) = [] := List.eq_nil_of_length_eq_zero (by unfold left at hf; omega)
      have : i ∈ (List.range ops.size).filter (fun i => !(listed.getD i false)) := by
        simp only [List.mem_filter, List.mem_range]
        refine ⟨hi', ?_⟩
        unfold isIn at hn
        cases hy : listed.getD i false <;> simp_all
      rw [hz] at this
      cases this
    exact ⟨hnil, key listed a w m d V e p hs I hla hl hr hnil⟩
  | succ fuel ih =>
    intro listed a w m d V e p hs hf I hla hl hr
    refine ⟨key listed a w m d V e p hs I hla hl hr, fun i hi => ?_⟩
    obtain ⟨o, ho, hn, hpre⟩ := (mem_ready hs i).1 hi
    have hi' : i < ops.size := by
      rcases Nat.lt_or_ge i ops.size with h | h
      · exact h
      · rw [List.getElem?_eq_none (by simpa using h)] at ho; cases ho
    have ho' : ops[i]? = some o := by simpa using ho
    have hclS : ∀ j, (cl.getD i 0).testBit j = true → isIn listed j := cl_sub R I.cS i o ho hpre
    have hseeA : Sees ops.toList cl V e₀ i o (a.getD · undef) := sees_of_looks R I.cS hl i o ho hclS hn
    have hleft := left_set hs hi' hn
    have hset : ∀ j, isIn (listed.setIfInBounds i true) j ↔ (isIn listed j ∨ j = i) := fun j => getD_set (by omega)
    have cS' : Closed cl (isIn (listed.setIfInBounds i true)) := by
      intro j hj k hk
      rcases (hset j).1 hj with h | rfl
      · exact (hset k).2 (.inl (I.cS j h k hk))
      · exact (hset k).2 (.inl (hclS k hk))
    simp only [wpOpIn, ho']
    cases hd : d.testBit i with
    | true =>
      obtain ⟨hk, hout⟩ := I.out i o ho hd hn
      have step : ∀ v, V i = v → wpAnyIn F rm P .any ops Q fuel (listed.setIfInBounds i true) ((⟨a.toArray, ds⟩ : Act).put o.dst v) w := by
        intro v hv
        rw [put_toArray]
        refine ih _ _ w m d V e p (by simpa using hs) (by omega) ⟨?_, I.lt, cS', I.cD, I.len, I.look, ?_⟩ (by rw [put_length]; exact hla) ?_ hr
        · intro j hj
          rcases (hset j).1 hj with h | rfl
          · exact I.sub j h
          · exact hd
        · intro j oj hj hdj hnj
          exact I.out j oj hj hdj fun h => hnj ((hset j).2 (.inl h))
        · exact looks_put R i o ho hn hset hla hl hv (fun j _ => rfl)
      rcases hout a hseeA with ⟨hw, hrun⟩ | ⟨hw, hv⟩
      · rw [if_pos hw]
        have hrun' : (execOp (ρ a) o).run P w = .ok (.value (V i)) w := by
          rcases hrun with h | ⟨φ, _, hφ, h⟩
          · exact h w
          · exact h w hφ
        refine ⟨fun f _ => hF.fn f, ?_⟩
        rw [Oper.semAt_eq _ _ _ (fun c e => hk (by rw [e]; rfl)), act_eval, hrun']
        exact step _ rfl
      · rw [if_neg (by rw [hw]; simp)]
        exact ⟨fun f _ => hF.fn f, step _ hv⟩
    | false =>
      have hready : readyIn o d = true := (readyIn_iff o d).2 fun e' he hb => I.sub _ (hpre e' he hb)
      obtain ⟨hclo, hr⟩ := hr
      have hkind := hclo i o ho hd hready
      have hnfull : Nat.beq d (2 ^ ops.toList.length - 1) = false := by
        cases hb : Nat.beq d (2 ^ ops.toList.length - 1) with
        | false => rfl
        | true =>
          have := Nat.eq_of_beq_eq_true hb
          rw [this, Nat.testBit_two_pow_sub_one] at hd
          simp at hd
          omega
      rw [hnfull] at hr
      have hmem := allReady_mem _ hr _ (List.mem_map.2 ⟨(o, i), List.mem_filter.2 ⟨mem_zipIdx ho, by simp [hd, hready]⟩, rfl⟩)
      simp only at hmem
      have hclD : ∀ j, (cl.getD i 0).testBit j = true → d.testBit j = true := fun j hj => I.sub j (hclS j hj)
      have hnd : ¬ d.testBit i = true := by rw [hd]; simp
      have hseeE : Sees ops.toList cl V e₀ i o (e.getD · undef) := sees_of_looks R I.cD I.look i o ho hclD hnd
      have hag := sees_unique i o hseeA hseeE
      -- behind the operation
      have step : ∀ (v : Value) (w' : World) (p' : Pend) (n : Nat), (∀ x ∈ p, (cl.getD i 0).testBit x.1 = false → x ∈ p' ∧ (x.2 w → x.2 w')) → vcDraw P sh ops.toList cl K n (d ||| 2 ^ i) (put e o.dst v) p' w' →
          wpAnyIn F rm P .any ops Q fuel (listed.setIfInBounds i true) ((⟨a.toArray, ds⟩ : Act).put o.dst v) w' := by
        intro v w' p' n hp hvc
        have I' : Inv P ops cl N e₀ (isIn (listed.setIfInBounds i true)) (d ||| 2 ^ i) (upd V i v) (put e o.dst v) p' w' := by
          refine ⟨?_, ?_, cS', ?_, by rw [put_length]; exact I.len, ?_, ?_⟩
          · intro j hj
            rcases (hset j).1 hj with h | rfl
            · exact (bit_or ..).2 (.inl (I.sub j h))
            · exact (bit_or ..).2 (.inr rfl)
          · intro j hj
            rcases (bit_or ..).1 hj with h | rfl
            · exact I.lt j h
            · exact hi'
          · intro j hj k hk'
            rcases (bit_or ..).1 hj with h | rfl
            · exact (bit_or ..).2 (.inl (I.cD j h k hk'))
            · exact (bit_or ..).2 (.inl (hclD k hk'))
          · exact looks_put R i o ho hnd (fun j => bit_or d i j) I.len I.look (upd_self V i v) (fun j hj => upd_other V v (fun (h : j = i) => by subst h; exact hnd hj))
          · intro j oj hj hdj hnj
            have hnj' : ¬ isIn listed j := fun h => hnj ((hset j).2 (.inl h))
            have hji : j ≠ i := fun h => hnj ((hset j).2 (.inr h))
            have hdj' : d.testBit j = true := by
              rcases (bit_or ..).1 hdj with h | h
              · exact h
              · exact absurd h hji
            obtain ⟨h1, h2⟩ := I.out j oj hj hdj' hnj'
            refine ⟨h1, fun e' hsee => ?_⟩
            have hs' := sees_change (V := V) (fun k hk' => upd_other V v (fun (h' : k = i) => by subst h'; exact hnd (I.cD j hdj' k hk'))) hsee
            rw [upd_other V v hji]
            rcases h2 e' hs' with ⟨x, b | ⟨φ, c1, c2, c3⟩⟩ | b
            · exact .inl ⟨x, .inl b⟩
            · have hnb : (cl.getD i 0).testBit j = false := by
                cases hb : (cl.getD i 0).testBit j with
                | false => rfl
                | true => exact absurd (hclS j hb) hnj'
              obtain ⟨q1, q2⟩ := hp _ c1 hnb
              exact .inl ⟨x, .inr ⟨φ, q1, q2 c2, c3⟩⟩
            · exact .inr b
        obtain ⟨m', d', V', e', p'', I'', hrest, hVV⟩ := vcDraw_rest R I' hvc
        rw [put_toArray]
        refine ih _ _ w' m' d' V' e' p'' (by simpa using hs) (by omega) I'' (by rw [put_length]; exact hla) ?_ hrest
        refine looks_put R i o ho hn hset hla hl (V' := V') (v := v) ?_ ?_
        · rw [hVV i ((bit_or ..).2 (.inr rfl)), upd_self]
        · intro j hj
          have hji : j ≠ i := fun (h : j = i) => hn (h ▸ hj)
          rw [hVV j ((bit_or ..).2 (.inl (I.sub j hj))), upd_other V v hji]
      rcases guardP_sound hmem with ⟨hw, h⟩ | ⟨hw, h⟩
      · rw [wanted_agree hag, if_pos hw]
        refine effOp_sound h F rm ⟨a.toArray, ds⟩ _ _ hF (fun x hx => by rw [act_eval]; exact ρ_agree hag x hx) fun v w' hK => ?_
        obtain ⟨p', hvc, _, hp⟩ := pendP_ex p [] _ hK
        exact step v w' p' m (fun x hx hb => ⟨(hp x hx hb).1, fun _ => (hp x hx hb).2⟩) hvc
      · rw [wanted_agree hag, if_neg (by rw [hw]; simp)]
        exact ⟨fun f _ => hF.fn f, step undef w p m (fun x hx _ => ⟨hx, fun h => h⟩) h⟩
end
end Go.Vc
