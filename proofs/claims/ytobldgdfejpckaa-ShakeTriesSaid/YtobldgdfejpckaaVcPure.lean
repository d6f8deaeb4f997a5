/-
  A part of the engine: verification conditions of Go functions that the kernel reckons. No condition.
-/
import Derived.Test.YtobldgdfejpckaaVcDefs
import Derived.Laws.StructEq
import Derived.Laws.Slices
import Derived.ChangeKeysEq
set_option linter.all false
namespace Go.Vc
section
variable {P : Program}

theorem cond'_ex {b : Bool} {A B : Prop} (h : cond' b A B) : (b = true ∧ A) ∨ (b = false ∧ B) := by
  cases b
  · exact .inr ⟨rfl, h⟩
  · exact .inl ⟨rfl, h⟩
theorem chkP_ex {b : Bool} {A : Prop} (h : chkP b A) : b = true ∧ A := by
  cases b
  · exact h.elim
  · exact ⟨rfl, h⟩
theorem nilP_ex {p : Option Addr} {K : Addr → Prop} (h : nilP p K) : ∃ a, p = some a ∧ K a := by
  cases p
  · exact h.elim
  · exact ⟨_, rfl, h⟩

def Pures (P : Program) (s : Sem Value) (K : Value → Prop) : Prop := ∃ v, K v ∧ ∀ w, s.run P w = .ok v w
theorem Pures.mk {s : Sem Value} {K : Value → Prop} {v : Value} (h : K v) (hr : ∀ w, s.run P w = .ok v w) : Pures P s K := ⟨v, h, hr⟩

theorem isAgg_run (t : TypeId) (h : okT P t = true) (w : World) : (isAgg t).run P w = .ok (isAggT P t) w := by
  unfold okT at h
  simp only [Bool.and_eq_true] at h
  obtain ⟨d, hd⟩ := Option.isSome_iff_exists.1 h.2
  simp only [isAgg, Sem.run_bind, run_underlying hd, Result.andThen_ok, isAggT, hd]
  cases d <;> rfl
theorem sizeOf_run (t : TypeId) (h : okT P t = true) (w : World) : (sizeOf t).run P w = .ok (sizeT P t) w := by
  unfold okT at h
  simp only [Bool.and_eq_true] at h
  obtain ⟨d, hd⟩ := Option.isSome_iff_exists.1 h.1
  simp [sizeOf, typeInfo, hd, sizeT]
theorem sizeOf_run' (t : TypeId) (h : 0 < sizeT P t) (w : World) : (sizeOf t).run P w = .ok (sizeT P t) w := by
  unfold sizeT at h ⊢
  cases hi : P.info? t with
  | none => simp [hi] at h
  | some i => simp [sizeOf, typeInfo, hi]

theorem partL (t : TypeId) (ho : okT P t = true) (cs : Array Value) (off : Nat) (v : Value)
    (h : (if isAggT P t then .agg ((cs.toList.drop off).take (sizeT P t)).toArray else cs.toList.getD off undef) = v) (hin : isAggT P t = true ∨ off < cs.size) (w : World) :
    (part t cs off).run P w = .ok v w := by
  simp only [part, Sem.run_bind, isAgg_run t ho, Result.andThen_ok]
  cases hb : isAggT P t with
  | true =>
    simp only [hb, if_true] at h ⊢
    simp only [Sem.run_bind, sizeOf_run t ho, Result.andThen_ok, Sem.run_pure]
    rw [← h]
    congr 2
    apply Array.ext'
    simp [Array.toList_extract, List.extract]
  | false =>
    have hlt : off < cs.size := by simpa [hb] using hin
    simp only [hb] at h ⊢
    simp only [Bool.false_eq_true, if_false] at h ⊢
    rw [← h]
    simp [Array.getElem?_eq_getElem hlt]

theorem intP_sound {op : BinOp} {k : IntKind} {a b : Int} {K : Value → Prop} (t : TypeId) (h1 : op ≠ .shl) (h2 : op ≠ .shr) (h : intP op k a b K) :
    Pures P (binOp op t (.int k a) (.int k b)) K := by
  cases op <;> simp only [intP] at h <;> (try exact absurd rfl h1) <;> (try exact absurd rfl h2) <;> (try exact h.elim)
  case quo =>
    obtain ⟨hb, h⟩ := chkP_ex h
    refine .mk h fun w => ?_
    have : b ≠ 0 := by simpa using hb
    simp [binOp, Op.intDiv, this]
  case rem =>
    obtain ⟨hb, h⟩ := chkP_ex h
    refine .mk h fun w => ?_
    have : b ≠ 0 := by simpa using hb
    simp [binOp, Op.intDiv, this]
  all_goals exact .mk h fun w => by simp [binOp, Op.intArith, Op.intCmp, Op.intBits, bits]

theorem eqPart_sound (d : Nat) (eqs : TypeId → Value → Value → Option Bool) (heq : ∀ t x y b, eqs t x y = some b → okT P t = true ∧ x ≠ undef ∧ y ≠ undef ∧ ∀ w, (Op.equalIn d t x y).run P w = .ok b w) (xs ys : Array Value) :
    ∀ (fs : List Field) (b : Bool), (∀ f ∈ fs, f.name ≠ "_") → eqPart P eqs xs.toList ys.toList fs = some b → ∀ w, (Op.eqFields d xs ys fs).run P w = .ok b w := by
  intro fs
  induction fs with
  | nil => intro b _ h w; simp only [eqPart, Option.some.injEq] at h; subst h; simp [Op.eqFields]
  | cons f fs ih =>
    intro b hn h w
    simp only [eqPart] at h
    generalize hx : (if isAggT P f.type then Value.agg ((xs.toList.drop f.offset).take (sizeT P f.type)).toArray else xs.toList.getD f.offset undef) = px at h
    generalize hy : (if isAggT P f.type then Value.agg ((ys.toList.drop f.offset).take (sizeT P f.type)).toArray else ys.toList.getD f.offset undef) = py at h
    cases h1 : eqs f.type px py with
    | none => simp [h1] at h
    | some b1 =>
      cases h2 : eqPart P eqs xs.toList ys.toList fs with
      | none => simp [h1, h2] at h
      | some b2 =>
        simp only [h1, h2, Option.some.injEq] at h
        obtain ⟨ho, hxu, hyu, hr⟩ := heq _ _ _ _ h1
        have hin : ∀ (zs : Array Value) (pz : Value), (if isAggT P f.type then Value.agg ((zs.toList.drop f.offset).take (sizeT P f.type)).toArray else zs.toList.getD f.offset undef) = pz → pz ≠ undef →
            isAggT P f.type = true ∨ f.offset < zs.size := by
          intro zs pz e hne
          cases hb : isAggT P f.type with
          | true => exact .inl rfl
          | false =>
            refine .inr ?_
            rcases Nat.lt_or_ge f.offset zs.size with hl | hl
            · exact hl
            · exfalso; apply hne; rw [← e]; simp [hb, List.getD_eq_getElem?_getD, Array.getElem?_eq_none hl]
        have p1 := partL f.type ho xs f.offset px hx (hin xs px hx hxu)
        have p2 := partL f.type ho ys f.offset py hy (hin ys py hy hyu)
        simp only [Op.eqFields, hn f (by simp), ne_eq, not_false_eq_true, if_true, Sem.run_bind, p1, p2, hr, Result.andThen_ok]
        have := ih b2 (fun g hg => hn g (by simp [hg])) h2 w
        cases b1
        · simp at h; subst h; simp
        · simp at h; subst h; simpa using this

theorem eqVal_sound : ∀ (d : Nat) (t : TypeId) (x y : Value) (b : Bool), eqVal P d t x y = some b → ∀ m, okT P t = true ∧ x ≠ undef ∧ y ≠ undef ∧ ∀ w, (Op.equalIn (d + m) t x y).run P w = .ok b w := by
  intro d
  induction d with
  | zero => intro t x y b h; simp [eqVal] at h
  | succ d ih =>
    intro t x y b h m
    unfold eqVal at h
    have hok : ∀ dd, P.underlying t = some dd → okT P t = true := by
      intro dd hdd
      unfold okT
      simp only [hdd, Option.isSome_some, Bool.and_true]
      unfold Program.underlying at hdd
      cases hi : P.info? t with
      | none => simp [hi] at hdd
      | some i => rfl
    have e : d + 1 + m = (d + m) + 1 := by omega
    rw [e]
    split at h
    · rename_i hu; simp only [Option.some.injEq] at h; subst h
      exact ⟨hok _ hu, by simp [undef], by simp [undef], fun w => by simp [Op.equalIn, run_underlying hu]⟩
    · rename_i hu
      split at h
      · rename_i hk; subst hk; simp only [Option.some.injEq] at h; subst h
        exact ⟨hok _ hu, by simp [undef], by simp [undef], fun w => by simp [Op.equalIn, run_underlying hu]⟩
      · simp at h
    · rename_i hu; simp only [Option.some.injEq] at h; subst h
      exact ⟨hok _ hu, by simp [undef], by simp [undef], fun w => by simp [Op.equalIn, run_underlying hu]⟩
    · rename_i a b hu
      refine ⟨hok _ hu, by simp [undef], by simp [undef], fun w => ?_⟩
      cases b with
      | none =>
        simp only [ptrEq, Option.some.injEq] at h
        subst h
        cases a <;> simp [Op.equalIn, run_underlying hu]
      | some y =>
        cases a with
        | none =>
          simp only [ptrEq, Option.some.injEq] at h
          subst h
          simp [Op.equalIn, run_underlying hu]
        | some x => simp [ptrEq] at h
    · rename_i hu; simp only [Option.some.injEq] at h; subst h
      refine ⟨hok _ hu, by simp [undef], by simp [undef], fun w => ?_⟩
      cases ‹Option Addr› <;> simp [Op.equalIn, run_underlying hu]
    · rename_i hu; simp only [Option.some.injEq] at h; subst h
      refine ⟨hok _ hu, by simp [undef], by simp [undef], fun w => ?_⟩
      cases ‹Option Nat› <;> simp [Op.equalIn, run_underlying hu]
    · rename_i fs xs ys hu
      cases hs : P.stoodInHeld t with
      | true => simp [hs] at h
      | false =>
        cases ha : fs.toList.all (fun f => f.name != "_") with
        | false => simp [hs, ha] at h
        | true =>
          simp only [hs, ha] at h
          refine ⟨hok _ hu, by simp [undef], by simp [undef], fun w => ?_⟩
          have hf : P.fieldsOf t = fs := by simp [Program.fieldsOf, hu]
          rw [run_equalIn_struct w (d + m) t xs ys (by rw [hf]; exact hu) hs, hf]
          refine eqPart_sound (d + m) (eqVal P d) (fun t' x' y' b' h' => ih t' x' y' b' h' m) xs ys fs.toList b ?_ h w
          intro f hf
          have := List.all_eq_true.1 ha f hf
          simpa using this
    · simp at h

theorem eqItems_ints (w : World) (k : IntKind) (e : TypeId) (hu : P.underlying e = some (.int k)) (hok : okT P e = true) (xs ys : List Int) (n : Nat) (hx : xs.length = n) (hy : ys.length = n) (d : Nat) :
    ∀ is : List Nat, (∀ i ∈ is, i < n) → (Op.eqItems (d + 1) e 1 (xs.map (Value.int k)).toArray (ys.map (Value.int k)).toArray is).run P w = .ok (decide (∀ i ∈ is, xs[i]? = ys[i]?)) w := by
  intro is
  have hag : isAggT P e = false := by simp [isAggT, hu]
  induction is with
  | nil => intro _; simp [Op.eqItems]
  | cons i is ih =>
    intro hb
    have hi := hb i (by simp)
    have p1 := partL (P := P) e hok (xs.map (Value.int k)).toArray (i * 1) (.int k xs[i]) (by simp [hag, List.getElem?_eq_getElem (show i < xs.length by omega)]) (.inr (by simp; omega))
    have p2 := partL (P := P) e hok (ys.map (Value.int k)).toArray (i * 1) (.int k ys[i]) (by simp [hag, List.getElem?_eq_getElem (show i < ys.length by omega)]) (.inr (by simp; omega))
    have q := ih (fun j hj => hb j (by simp [hj]))
    simp only [Op.eqItems, Sem.run_bind, p1, p2, Result.andThen_ok, run_equalIn_int w d e k k _ _ hu]
    by_cases he : xs[i] = ys[i]
    · have : (xs[i] == ys[i]) = true := by simpa using he
      simp only [this, Bool.not_true, Bool.false_eq_true, if_false]
      rw [q]
      congr 1
      simp [List.getElem?_eq_getElem (show i < xs.length by omega), List.getElem?_eq_getElem (show i < ys.length by omega), he]
    · have : (xs[i] == ys[i]) = false := by simpa using he
      simp only [this, Bool.not_false, if_true]
      simp only [Sem.run_pure]
      congr 1
      simp [List.getElem?_eq_getElem (show i < xs.length by omega), List.getElem?_eq_getElem (show i < ys.length by omega), he]

def negOp (neg : Bool) : BinOp := match neg with | true => .neq | false => .eql
def pairOk : Value → Value → Bool
  | .bool _, .bool _ => true
  | .int _ _, .int _ _ => true
  | .string _, .string _ => true
  | .pointer _, .pointer _ => true
  | .slice _ _ _, .slice _ _ _ => true
  | .map _, .map _ => true
  | .agg _, .agg _ => true
  | _, _ => false
theorem eqVal_shape {d : Nat} {t : TypeId} {x y : Value} {b : Bool} (h : eqVal P d t x y = some b) : pairOk x y = true := by
  cases d with
  | zero => simp [eqVal] at h
  | succ d =>
    unfold eqVal at h
    split at h <;> first | rfl | simp at h
theorem eqlP_shape {neg : Bool} {t : TypeId} {x y : Value} {K : Value → Prop} (h : eqlP P neg t x y K) : pairOk x y = true := by
  unfold eqlP at h
  cases hm : P.eqGuardType P.depth t with
  | true => simp [hm] at h
  | false =>
    simp only [hm] at h
    split at h
    · split at h
      · obtain ⟨⟨_, _, _, _, rfl, rfl, _⟩⟩ := h
        rfl
      · exact h.elim
    · unfold boolP at h
      split at h
      · rename_i hr; exact eqVal_shape hr
      · exact h.elim
theorem eqlP_sound {neg : Bool} {t : TypeId} {x y : Value} {K : Value → Prop} (hx : ∀ k n k' m, x = .int k n → y = .int k' m → False) (hxs : ∀ s s', x = .string s → y = .string s' → False) (h : eqlP P neg t x y K) (a b : Operand) :
    Pures P (do eqGuard (negOp neg) t a b x y; binOp (negOp neg) t x y) K := by
  have hs := eqlP_shape h
  unfold eqlP at h
  cases hm : P.eqGuardType P.depth t with
  | true => simp [hm] at h
  | false =>
    simp only [hm] at h
    have hg : ∀ w, (eqGuard (negOp neg) t a b x y).run P w = .ok () w := by
      intro w
      cases x <;> cases y <;> simp only [pairOk, Bool.false_eq_true] at hs <;> first
        | exact run_eqGuard_agg w _ t a b _ _ hm
        | (cases neg <;> rfl)
    have key : ∀ r : Bool, (∀ w, (Op.equal t x y).run P w = .ok r w) → ∀ w, ((do eqGuard (negOp neg) t a b x y; binOp (negOp neg) t x y) : Sem Value).run P w = .ok (.bool (negB neg r)) w := by
      intro r hr w
      rw [Sem.run_bind, hg, Result.andThen_ok]
      have e : binOp (negOp neg) t x y = (do let r ← Op.equal t x y; pure (.bool (negB neg r))) := by
        cases x <;> cases y <;> simp only [pairOk, Bool.false_eq_true] at hs <;> first
          | (cases neg <;> rfl)
          | exact (hx _ _ _ _ rfl rfl).elim
          | exact (hxs _ _ rfl rfl).elim
      rw [e]
      cases neg <;> simp [hr]
    split at h
    · rename_i n e hu
      cases he : P.underlying e with
      | none => simp [he] at h
      | some de =>
        cases hz : Nat.beq (sizeT P e) 1 with
        | false => simp [he, hz] at h
        | true =>
          cases de <;> simp only [he, hz] at h <;> try exact h.elim
          rename_i k
          obtain ⟨⟨xs, ys, hxl, hyl, rfl, rfl, hK⟩⟩ := h
          have hz1 : sizeT P e = 1 := Nat.eq_of_beq_eq_true hz
          have hok : okT P e = true := by
            unfold okT; rw [he]; simp only [Option.isSome_some, Bool.and_true]
            unfold sizeT at hz1
            cases hi : P.info? e with
            | none => simp [hi] at hz1
            | some i => rfl
          refine ⟨_, hK, key _ fun w => ?_⟩
          unfold Op.equal Op.maxDepth
          cases hi : P.info? e with
          | none => simp [okT, hi] at hok
          | some i =>
            rw [run_equalIn_array w 9999 _ _ hu hi]
            have hc : P.cellsOf e = 1 := by
              unfold Program.cellsOf; rw [hi]; simpa [sizeT, hi] using hz1
            rw [hc, eqItems_ints w k e he hok xs ys n hxl hyl 9998 (List.range n) (by simp)]
            congr 1
            by_cases hxy : xs = ys
            · subst hxy; simp
            · have : (xs == ys) = false := by simpa using hxy
              rw [this, decide_eq_false_iff_not]
              intro hall
              apply hxy
              apply List.ext_getElem? 
              intro j
              rcases Nat.lt_or_ge j n with hj | hj
              · exact hall j (by simpa using hj)
              · rw [List.getElem?_eq_none (by omega), List.getElem?_eq_none (by omega)]
    · unfold boolP at h
      split at h
      · rename_i r hr
        exact ⟨_, h, key _ fun w => by
          have := (eqVal_sound 8 t x y r hr 9992).2.2.2 w
          exact this⟩
      · exact h.elim

theorem binP_sound {op : BinOp} {t : TypeId} {x y : Value} {K : Value → Prop} (h : binP P op t x y K) (a b : Operand) :
    Pures P (do eqGuard op t a b x y; binOp op t x y) K := by
  unfold binP at h
  split at h
  · rename_i k i k' j
    have hg : ∀ s : Sem Value, (do eqGuard op t a b (.int k i) (.int k' j); s) = s := fun s => by rw [eqGuard_at_int]; rfl
    rw [hg]
    split at h
    · obtain ⟨hb, h⟩ := chkP_ex h
      refine .mk h fun w => ?_
      have : ¬ j < 0 := by simpa using hb
      simp [binOp, Op.shift, this]
    · obtain ⟨hb, h⟩ := chkP_ex h
      refine .mk h fun w => ?_
      have : ¬ j < 0 := by simpa using hb
      simp [binOp, Op.shift, this]
    · rename_i h1 h2
      split at h
      · rename_i hk
        subst hk
        exact intP_sound t h1 h2 h
      · exact h.elim
  · rename_i s1 s2
    have hg : ∀ s : Sem Value, (do eqGuard op t a b (.string s1) (.string s2); s) = s := fun s => by rw [eqGuard_at_string]; rfl
    rw [hg]
    unfold strP at h
    split at h
    · exact .mk h fun w => by simp [binOp, Op.stringOp]
    · exact .mk h fun w => by simp [binOp, Op.stringOp]
    · exact h.elim
  · rename_i n1 n2
    split at h
    · exact eqlP_sound (neg := false) (fun k n k' m e1 e2 => n1 _ _ _ _ e1 e2) (fun s s' e1 e2 => n2 _ _ e1 e2) h a b
    · exact eqlP_sound (neg := true) (fun k n k' m e1 e2 => n1 _ _ _ _ e1 e2) (fun s s' e1 e2 => n2 _ _ e1 e2) h a b
    · exact h.elim
end
end Go.Vc
