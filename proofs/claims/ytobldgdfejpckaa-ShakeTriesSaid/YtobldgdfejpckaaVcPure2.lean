/-
  A part of the engine: verification conditions of Go functions that the kernel reckons. No condition.
-/
import Derived.Test.YtobldgdfejpckaaVcPure
set_option linter.all false
namespace Go.Vc
section
variable {P : Program}

theorem unP_sound {op : UnOp} {x : Value} {K : Value → Prop} (h : unP op x K) : Pures P (Op.unary op x) K := by
  unfold unP at h
  split at h
  · exact .mk h fun w => by simp [Op.unary, Op.intArith]
  · exact .mk h fun w => by simp [Op.unary, Op.intBits, bits]
  · exact .mk h fun w => by simp [Op.unary]
  · exact h.elim

theorem convP_sound {s d : TypeId} {x : Value} {K : Value → Prop} (h : convP P s d x K) : Pures P (convert s d x) K := by
  unfold convP at h
  cases ho : okT P s with
  | false => simp [ho] at h
  | true =>
    simp only [ho] at h
    have hs : ∃ ds, P.underlying s = some ds := by
      unfold okT at ho
      simp only [Bool.and_eq_true] at ho
      exact Option.isSome_iff_exists.1 ho.2
    obtain ⟨ds, hs⟩ := hs
    split at h
    · rename_i hd
      exact .mk h fun w => by simp [convert, run_underlying hs, run_underlying hd, Conv.intToInt]
    · rename_i hd
      exact .mk h fun w => by simp [convert, run_underlying hs, run_underlying hd]
    · exact h.elim

theorem fieldP_sound {t : TypeId} {x : Value} {i : Nat} {K : Value → Prop} (h : fieldP P t x i K) : Pures P (Instr.field t x i) K := by
  unfold fieldP at h
  split at h
  · rename_i fs cs hu
    cases hf : fs.toList[i]? with
    | none => simp [hf] at h
    | some f =>
      simp only [hf] at h
      cases ho : okT P f.type with
      | false => simp [ho] at h
      | true =>
        simp only [ho] at h
        have hf' : fs[i]? = some f := by simpa using hf
        cases ha : isAggT P f.type with
        | true =>
          simp only [ha] at h
          exact .mk h fun w => by
            simp only [Instr.field, Sem.run_bind, run_underlying hu, Result.andThen_ok, hf', asAgg, Sem.run_pure]
            exact partL f.type ho cs f.offset _ (by simp [ha]) (.inl ha) w
        | false =>
          simp only [ha] at h
          cases hc : cs.toList[f.offset]? with
          | none => simp [hc] at h
          | some v =>
            simp only [hc] at h
            have hlt : f.offset < cs.size := by
              rcases Nat.lt_or_ge f.offset cs.size with hl | hl
              · exact hl
              · rw [List.getElem?_eq_none (by simpa using hl)] at hc; cases hc
            exact .mk h fun w => by
              simp only [Instr.field, Sem.run_bind, run_underlying hu, Result.andThen_ok, hf', asAgg, Sem.run_pure]
              exact partL f.type ho cs f.offset v (by simp only [ha, Bool.false_eq_true, if_false]; simp [List.getD_eq_getElem?_getD, hc]) (.inr hlt) w
  · exact h.elim

theorem fieldAddrP_sound {t : TypeId} {x : Value} {i : Nat} {K : Value → Prop} (h : fieldAddrP P t x i K) : Pures P (Instr.fieldAt t x i) K := by
  unfold fieldAddrP at h
  split at h
  · rename_i fs p hu
    cases hf : fs.toList[i]? with
    | none => simp [hf] at h
    | some f =>
      simp only [hf] at h
      have hf' : fs[i]? = some f := by simpa using hf
      cases hz : sizeT P f.type with
      | zero => simp [hz] at h
      | succ n =>
        simp only [hz] at h
        replace h := nilP_ex h
        obtain ⟨a, rfl, h⟩ := h
        exact .mk h fun w => by
          simp [Instr.fieldAt, run_underlying hu, hf', Instr.sureAddr, fieldPlace, sizeOf_run' f.type (by rw [hz]; omega), hz]
  · exact h.elim

theorem inR_ex {i : Int} {n : Nat} (h : inR i n = true) : 0 ≤ i ∧ i < n := by simpa [inR] using h

theorem indexAddrP_sound {t : TypeId} {x ix : Value} {K : Value → Prop} (h : indexAddrP P t x ix K) : Pures P (Instr.indexAt t x ix) K := by
  unfold indexAddrP at h
  split at h
  · split at h
    · rename_i n e p hu
      cases ho : okT P e with
      | false => simp [ho] at h
      | true =>
        simp only [ho] at h
        replace h := nilP_ex h
        obtain ⟨a, rfl, h⟩ := h
        obtain ⟨hi, h⟩ := chkP_ex h
        exact .mk h fun w => by simp [Instr.indexAt, asIntOf, run_underlying hu, Instr.sureAddr, inR_ex hi, sizeOf_run e ho]
    · rename_i e p n _ hu
      cases ho : okT P e with
      | false => simp [ho] at h
      | true =>
        simp only [ho] at h
        replace h := chkP_ex h
        obtain ⟨hi, h⟩ := h
        replace h := nilP_ex h
        obtain ⟨a, rfl, h⟩ := h
        exact .mk h fun w => by simp [Instr.indexAt, asIntOf, run_underlying hu, inR_ex hi, sizeOf_run e ho]
    · exact h.elim
  · exact h.elim

theorem nth_ex {cs : List Value} {i : Nat} {K : Value → Prop} (h : nth cs i K) : ∃ v, cs[i]? = some v ∧ K v := by
  unfold nth at h
  split at h
  · exact ⟨_, ‹_›, h⟩
  · exact h.elim

theorem nthK_ex {k : IntKind} {cs : List Value} {i : Nat} {K : Int → Prop} (h : nthK k cs i K) : ∃ n, cs[i]? = some (.int k n) ∧ K n := by
  unfold nthK at h
  split at h
  · split at h
    · rename_i k' n hc hk
      subst hk
      exact ⟨n, hc, h⟩
    · exact h.elim
  · exact h.elim

theorem indexP_sound {t : TypeId} {x ix : Value} {K : Value → Prop} (h : indexP P t x ix K) : Pures P (Instr.index t x ix) K := by
  unfold indexP at h
  split at h
  · split at h
    · rename_i k i _ _ n e cs hu
      cases ho : okT P e with
      | false => simp [ho] at h
      | true =>
        simp only [ho] at h
        cases ha : isAggT P e with
        | true => simp [ha] at h
        | false =>
          simp only [ha] at h
          have h : inR i n = true ∧ ∃ v, cs.toList[i.toNat * sizeT P e]? = some v ∧ K v := by
            split at h
            · obtain ⟨hi, h⟩ := chkP_ex h
              obtain ⟨m, hv, h⟩ := nthK_ex h
              exact ⟨hi, _, hv, h⟩
            · obtain ⟨hi, h⟩ := chkP_ex h
              exact ⟨hi, nth_ex h⟩
          obtain ⟨hi, v, hv, h⟩ := h
          have hlt : i.toNat * sizeT P e < cs.size := by
            rcases Nat.lt_or_ge (i.toNat * sizeT P e) cs.size with hl | hl
            · exact hl
            · rw [List.getElem?_eq_none (by simpa using hl)] at hv; cases hv
          exact .mk h fun w => by
            simp only [Instr.index, Sem.run_bind, asIntOf, Sem.run_pure, run_underlying hu, Result.andThen_ok, inR_ex hi, and_self, if_true, sizeOf_run e ho]
            exact partL e ho cs _ v (by simp only [ha, Bool.false_eq_true, if_false]; simp [List.getD_eq_getElem?_getD, hv]) (.inr hlt) w
    · rename_i k i _ _ s hu
      obtain ⟨hi, h⟩ := chkP_ex h
      have hlt : i.toNat < s.size := by have := inR_ex hi; omega
      exact .mk h fun w => by
        have hs : s[i.toNat]? = some s[i.toNat] := getElem?_pos s i.toNat hlt
        have e : s.data.toList.getD i.toNat 0 = s[i.toNat] := by
          have hl : i.toNat < s.data.toList.length := by simpa using hlt
          rw [List.getD_eq_getElem?_getD, List.getElem?_eq_getElem hl]
          rfl
        simp only [Instr.index, Sem.run_bind, asIntOf, Sem.run_pure, run_underlying hu, Result.andThen_ok, (inR_ex hi).1, if_true, hs]
        rw [e]
    · exact h.elim
  · exact h.elim

theorem leR_ex {a b : Int} (h : leR a b = true) : 0 ≤ a ∧ a ≤ b := by simpa [leR] using h
theorem bndP_ex {x : Option Value} {d : Nat} {K : Int → Prop} (h : bndP x d K) : (x = none ∧ K d) ∨ (∃ k i, x = some (.int k i) ∧ K i) := by
  unfold bndP at h
  split at h
  · exact .inl ⟨rfl, h⟩
  · exact .inr ⟨_, _, rfl, h⟩
  · exact h.elim

/-- What the bounds come to. -/
theorem bounds_run {isSlice : Bool} {len cap : Nat} {lo hi : Option Value} {l h : Int}
    (hh : (hi = none ∧ h = len) ∨ (∃ k, hi = some (.int k h))) (hl : (lo = none ∧ l = 0) ∨ (∃ k, lo = some (.int k l))) (h1 : 0 ≤ h ∧ h ≤ cap) (h2 : 0 ≤ l ∧ l ≤ h) (w : World) :
    (Instr.sliceBounds isSlice len cap lo hi none).run P w = .ok (l.toNat, h.toNat, cap) w := by
  rcases hh with ⟨rfl, rfl⟩ | ⟨k, rfl⟩ <;> rcases hl with ⟨rfl, rfl⟩ | ⟨k', rfl⟩ <;>
    simp [Instr.sliceBounds, Instr.sliceBound, asIntOf, h1, h2] <;> omega

theorem bnds_ex {lo hi : Option Value} {n c : Nat} {G : Int → Int → Prop}
    (h : bndP hi n fun h => chkP (leR h c) (bndP lo 0 fun l => chkP (leR l h) (G l h))) :
    ∃ l h : Int, ((hi = none ∧ h = n) ∨ (∃ k, hi = some (.int k h))) ∧ ((lo = none ∧ l = 0) ∨ (∃ k, lo = some (.int k l))) ∧ (0 ≤ h ∧ h ≤ c) ∧ (0 ≤ l ∧ l ≤ h) ∧ G l h := by
  have key : ∀ h : Int, chkP (leR h c) (bndP lo 0 fun l => chkP (leR l h) (G l h)) → ∃ l, ((lo = none ∧ l = 0) ∨ (∃ k, lo = some (.int k l))) ∧ (0 ≤ h ∧ h ≤ c) ∧ (0 ≤ l ∧ l ≤ h) ∧ G l h := by
    intro h H
    obtain ⟨c1, H⟩ := chkP_ex H
    rcases bndP_ex H with ⟨e, H⟩ | ⟨k, l, e, H⟩
    · obtain ⟨c2, H⟩ := chkP_ex H
      exact ⟨_, .inl ⟨e, rfl⟩, leR_ex c1, leR_ex c2, H⟩
    · obtain ⟨c2, H⟩ := chkP_ex H
      exact ⟨_, .inr ⟨k, e⟩, leR_ex c1, leR_ex c2, H⟩
  rcases bndP_ex h with ⟨e, H⟩ | ⟨k, v, e, H⟩
  · obtain ⟨l, h1, h2, h3, h4⟩ := key _ H
    exact ⟨l, _, .inl ⟨e, rfl⟩, h1, h2, h3, h4⟩
  · obtain ⟨l, h1, h2, h3, h4⟩ := key _ H
    exact ⟨l, _, .inr ⟨k, e⟩, h1, h2, h3, h4⟩

theorem sliceP_sound {t : TypeId} {x : Value} {lo hi mx : Option Value} {K : Value → Prop} (h : sliceP P t x lo hi mx K) : Pures P (Instr.sliceAt t x lo hi mx) K := by
  unfold sliceP at h
  split at h
  · rename_i mv
    split at h
    · rename_i e a len cap hu
      split at h
      · rename_i hv ho
        rcases bndP_ex h with ⟨e0, _⟩ | ⟨k1, m, e1, h⟩
        · cases e0
        injection e1 with e1
        subst e1
        obtain ⟨c1, h⟩ := chkP_ex h
        rcases bndP_ex h with ⟨e0, _⟩ | ⟨k2, g, e2, h⟩
        · cases e0
        injection e2 with e2
        subst e2
        obtain ⟨c2, h⟩ := chkP_ex h
        have c1 := leR_ex c1
        have c2 := leR_ex c2
        rcases bndP_ex h with ⟨rfl, h⟩ | ⟨k3, l, rfl, h⟩
        · obtain ⟨c3, h⟩ := chkP_ex h
          have c3 := leR_ex c3
          exact .mk h fun w => by
            rw [Instr.sliceAt, Sem.run_bind, run_underlying hu]
            simp only [Result.andThen_ok, Instr.slice, Sem.run_bind, run_underlying hu]
            simp [Instr.sliceBounds, Instr.sliceBound, asIntOf, c1, c2, sizeOf_run e ho, SlV.sub, SlV.val, show 0 ≤ g by omega, show g ≤ max m 0 by omega]
        · obtain ⟨c3, h⟩ := chkP_ex h
          have c3 := leR_ex c3
          exact .mk h fun w => by
            rw [Instr.sliceAt, Sem.run_bind, run_underlying hu]
            simp only [Result.andThen_ok, Instr.slice, Sem.run_bind, run_underlying hu]
            simp [Instr.sliceBounds, Instr.sliceBound, asIntOf, c1, c2, c3, sizeOf_run e ho, SlV.sub, SlV.val, show 0 ≤ g by omega, show g ≤ max m 0 by omega, show l ≤ max g 0 by omega]
      · exact h.elim
    · exact h.elim
  · split at h
    · rename_i n e p hu
      cases ho : okT P e with
      | false => simp [ho] at h
      | true =>
        simp only [ho] at h
        replace h := nilP_ex h
        obtain ⟨a, rfl, h⟩ := h
        obtain ⟨l, g, h1, h2, h3, h4, hK⟩ := bnds_ex h
        exact .mk hK fun w => by
          rw [Instr.sliceAt, Sem.run_bind, run_underlying hu]
          simp only [Result.andThen_ok, Instr.sureAddr, Sem.run_bind, Sem.run_pure]
          rw [bounds_run h1 h2 h3 h4]
          simp only [Result.andThen_ok, Sem.run_bind, sizeOf_run e ho, Sem.run_pure]
          rfl
    · rename_i e a len cap hu
      cases ho : okT P e with
      | false => simp [ho] at h
      | true =>
        simp only [ho] at h
        obtain ⟨l, g, h1, h2, h3, h4, hK⟩ := bnds_ex h
        exact .mk hK fun w => by
          rw [Instr.sliceAt, Sem.run_bind, run_underlying hu]
          simp only [Result.andThen_ok, Instr.slice, Sem.run_bind, run_underlying hu]
          rw [bounds_run h1 h2 h3 h4]
          simp only [Result.andThen_ok, Sem.run_bind, sizeOf_run e ho, Sem.run_pure]
          rfl
    · rename_i s hu
      obtain ⟨l, g, h1, h2, h3, h4, hK⟩ := bnds_ex h
      exact .mk hK fun w => by
        rw [Instr.sliceAt, Sem.run_bind, run_underlying hu]
        simp only [Result.andThen_ok, Instr.slice, Sem.run_bind, run_underlying hu, Option.isSome_none, Bool.false_eq_true, if_false]
        rw [bounds_run h1 h2 h3 h4]
        rfl
    · exact h.elim

theorem lenP_sound {t ty : TypeId} {x : Value} {K : Value → Prop} (h : lenP P t x K) : Pures P (Builtin.len_ #[t] ty #[x]) K := by
  unfold lenP at h
  split at h
  · rename_i hu; exact .mk h fun w => by simp [Builtin.len_, run_underlying hu, goInt]
  · rename_i hu; exact .mk h fun w => by simp [Builtin.len_, run_underlying hu, goInt]
  · rename_i n e hu
    refine .mk h fun w => ?_
    simp only [Builtin.len_, List.getElem?_toArray, List.getElem?_cons_zero, Sem.run_bind, run_underlying hu, Result.andThen_ok]
    rfl
  · exact h.elim
theorem capP_sound {t ty : TypeId} {x : Value} {K : Value → Prop} (h : capP P t x K) : Pures P (Builtin.cap_ #[t] ty #[x]) K := by
  unfold capP at h
  split at h
  · rename_i hu; exact .mk h fun w => by simp [Builtin.cap_, run_underlying hu, goInt]
  · exact h.elim

theorem minL_sound {k : IntKind} : ∀ (xs : List Value) (x : Int) (K : Value → Prop), minL k x xs K → Pures P (xs.foldlM Builtin.min2 (.int k x)) K := by
  intro xs
  induction xs with
  | nil => intro x K h; exact .mk h fun w => by simp
  | cons y r ih =>
    intro x K h
    cases y <;> simp only [minL] at h
    obtain ⟨v, hK, hr⟩ := ih _ _ h
    exact .mk hK fun w => by simp [List.foldlM_cons, Builtin.min2, hr]
theorem maxL_sound {k : IntKind} : ∀ (xs : List Value) (x : Int) (K : Value → Prop), maxL k x xs K → Pures P (xs.foldlM Builtin.max2 (.int k x)) K := by
  intro xs
  induction xs with
  | nil => intro x K h; exact .mk h fun w => by simp
  | cons y r ih =>
    intro x K h
    cases y <;> simp only [maxL] at h
    obtain ⟨v, hK, hr⟩ := ih _ _ h
    exact .mk hK fun w => by simp [List.foldlM_cons, Builtin.max2, hr]
theorem minP_sound {xs : List Value} {K : Value → Prop} (a : Array TypeId) (t : TypeId) (h : minP xs K) : Pures P (Builtin.min_ a t xs.toArray) K := by
  unfold minP at h
  split at h
  · exact minL_sound _ _ _ h
  · exact h.elim
theorem maxP_sound {xs : List Value} {K : Value → Prop} (a : Array TypeId) (t : TypeId) (h : maxP xs K) : Pures P (Builtin.max_ a t xs.toArray) K := by
  unfold maxP at h
  split at h
  · exact maxL_sound _ _ _ h
  · exact h.elim
end
end Go.Vc
