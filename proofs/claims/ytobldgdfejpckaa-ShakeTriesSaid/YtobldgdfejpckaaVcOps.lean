/-
  A part of the engine: verification conditions of Go functions that the kernel reckons. No condition.
-/
import Derived.Test.YtobldgdfejpckaaVcBuild
set_option linter.all false
namespace Go.Vc
section
variable {P : Program}

theorem act_eval (e : List Value) (ds : List Deferred) : (⟨e.toArray, ds⟩ : Act).eval = ρ e := by
  funext x
  cases x <;> simp [Act.eval, ρ]

theorem Pures.next {s : Sem Value} {K : Value → Prop} (h : Pures P s K) : ∃ v, K v ∧ ∀ w, ((do pure (Next.value (← s))) : Sem Next).run P w = .ok (.value v) w := by
  obtain ⟨v, hK, hr⟩ := h
  exact ⟨v, hK, fun w => by simp [hr]⟩

theorem args_eq (c : Call) (e : List Value) : c.args.map (ρ e) = (argV c e).toArray := by
  apply Array.ext'
  simp [argV]

theorem pureOp_sound {sh : TypeId → Sh} {o : Oper} {e : List Value} {K : Value → Prop} (hk : kind P o.op = .pure) (h : pureOp P sh o.op o.type e K) : ∃ v, K v ∧ ∀ w, (execOp (ρ e) o).run P w = .ok (.value v) w := by
  obtain ⟨dst, op, ty, pos, after, guard⟩ := o
  simp only at hk h
  cases op <;> simp only [pureOp] at h <;> try exact h.elim
  case move x => exact ⟨_, h, fun w => by simp [execOp]⟩
  case assign x => exact ⟨_, h, fun w => by simp [execOp]⟩
  case pick c a b =>
    split at h
    · rename_i t hc
      rcases cond'_ex h with ⟨rfl, h⟩ | ⟨rfl, h⟩ <;> exact ⟨_, h, fun w => by simp [execOp, hc, asBool]⟩
    · exact h.elim
  case build t parts =>
    have e1 : (parts.toList.map fun p => (p.1, ρ e p.2)) = (parts.map fun (i, x) => (i, ρ e x)).toList := by simp
    rw [e1] at h
    exact (buildP_sound h).next
  case nilCheck x =>
    split at h
    · rename_i p hx
      replace h := nilP_ex h
      obtain ⟨a, rfl, h⟩ := h
      exact ⟨_, h, fun w => by simp [execOp, hx]⟩
    · rename_i f a b hx
      exact ⟨_, h, fun w => by simp [execOp, hx]⟩
    · exact h.elim
  case binOp bop t x y yt => exact (binP_sound h x y).next
  case unOp u t x => exact (unP_sound h).next
  case convert s d x => exact (convP_sound h).next
  case sliceToArrayPointer t x =>
    split at h
    · rename_i n e' a len cap hu hx
      obtain ⟨hc, h⟩ := chkP_ex h
      have : ¬ len < n := by simpa using hc
      exact ⟨_, h, fun w => by simp [execOp, hx, Instr.arrayAt, run_underlying hu, this]⟩
    · exact h.elim
  case makeInterface t x =>
    split at h
    · exact h.elim
    · rename_i ho hn
      have : ∃ d, P.underlying t = some d := by
        unfold okT at ho
        simp only [Bool.and_eq_true] at ho
        exact Option.isSome_iff_exists.1 ho.2
      obtain ⟨d, hd⟩ := this
      refine ⟨_, h, fun w => ?_⟩
      simp only [execOp, Instr.makeInterface, Sem.run_bind, run_underlying hd, Result.andThen_ok]
      cases d <;> first | (exact absurd hd (hn _)) | simp
    · exact h.elim
  case makeFunc fn first captured =>
    refine ⟨_, h, fun w => ?_⟩
    have e1 : first.map (ρ e) = (first.toList.map (ρ e)).toArray := by apply Array.ext'; simp
    have e2 : captured.map (ρ e) = (captured.toList.map (ρ e)).toArray := by apply Array.ext'; simp
    simp only [execOp, Instr.makeFunc, e1, e2, Sem.run_bind, Sem.run_pure, Result.andThen_ok]
  case slice t x lo hi mx => exact (sliceP_sound h).next
  case fieldAddr t x i => exact (fieldAddrP_sound h).next
  case field t x i => exact (fieldP_sound h).next
  case indexAddr t x ix => exact (indexAddrP_sound h).next
  case index t x ix => exact (indexP_sound h).next
  case extract x i =>
    split at h
    · rename_i vs hx
      obtain ⟨v, hv, h⟩ := nth_ex h
      have hv' : vs[i]? = some v := by simpa using hv
      obtain ⟨y, rfl, hK⟩ := (sh (partId x i)).sound _ _ h
      exact ⟨_, hK, fun w => by simp [execOp, Instr.extract, hx, hv']⟩
    · exact h.elim
  case call c =>
    obtain ⟨callee, args, argTypes⟩ := c
    cases callee <;> simp only at h <;> try exact h.elim
    rename_i b
    simp only [kind] at hk
    cases b <;> simp only at h <;> try exact h.elim
    case len =>
      split at h
      · rename_i x t ts hx ht
        obtain ⟨v, hK, hr⟩ := lenP_sound (P := P) (ty := ty) h
        refine ⟨v, hK, fun w => ?_⟩
        have ea : args.map (ρ e) = #[x] := by rw [args_eq ⟨.builtin .len, args, argTypes⟩, hx]
        have el : Builtin.len_ argTypes ty #[x] = Builtin.len_ #[t] ty #[x] := by
          have : argTypes[0]? = some t := by rw [← Array.getElem?_toList, ht]; rfl
          simp [Builtin.len_, this]
        simp [execOp, resolve, invoke, builtin, ea, el, hr]
      · exact h.elim
    case cap =>
      split at h
      · rename_i x t ts hx ht
        obtain ⟨v, hK, hr⟩ := capP_sound (P := P) (ty := ty) h
        refine ⟨v, hK, fun w => ?_⟩
        have ea : args.map (ρ e) = #[x] := by rw [args_eq ⟨.builtin .cap, args, argTypes⟩, hx]
        have el : Builtin.cap_ argTypes ty #[x] = Builtin.cap_ #[t] ty #[x] := by
          have : argTypes[0]? = some t := by rw [← Array.getElem?_toList, ht]; rfl
          simp [Builtin.cap_, this]
        simp [execOp, resolve, invoke, builtin, ea, el, hr]
      · exact h.elim
    case min =>
      obtain ⟨v, hK, hr⟩ := minP_sound (P := P) argTypes ty h
      refine ⟨v, hK, fun w => ?_⟩
      have ea : args.map (ρ e) = (argV ⟨.builtin .min, args, argTypes⟩ e).toArray := args_eq ⟨.builtin .min, args, argTypes⟩ e
      simp only [execOp, resolve, invoke, builtin, Sem.run_bind, Sem.run_pure, Result.andThen_ok, ea, hr]
    case max =>
      obtain ⟨v, hK, hr⟩ := maxP_sound (P := P) argTypes ty h
      refine ⟨v, hK, fun w => ?_⟩
      have ea : args.map (ρ e) = (argV ⟨.builtin .max, args, argTypes⟩ e).toArray := args_eq ⟨.builtin .max, args, argTypes⟩ e
      simp only [execOp, resolve, invoke, builtin, Sem.run_bind, Sem.run_pure, Result.andThen_ok, ea, hr]

/-! ### reads -/
theorem loadCellsFrom_run (w : World) (a : Addr) (cs : Array Value) : ∀ (n i : Nat) (acc : Array Value), i + n = cs.size → (∀ j, j < cs.size → w.cell? (a.add j) = cs[j]?) →
    (loadCellsFrom a i n acc).run P w = .ok (acc ++ (cs.toList.drop i).toArray) w := by
  intro n
  induction n with
  | zero =>
    intro i acc hn _
    have : cs.toList.drop i = [] := List.drop_eq_nil_of_le (by simp; omega)
    simp [loadCellsFrom, this]
  | succ n ih =>
    intro i acc hn hc
    have hi : i < cs.size := by omega
    have hci := hc i hi
    rw [Array.getElem?_eq_getElem hi] at hci
    simp only [loadCellsFrom, Sem.run_bind, run_load, hci, Result.andThen_ok]
    rw [ih (i + 1) _ (by omega) hc]
    congr 1
    apply Array.ext'
    simp only [Array.toList_append, Array.toList_push, List.append_assoc]
    congr 1
    have hi' : i < cs.toList.length := by simpa using hi
    rw [List.drop_eq_getElem_cons hi']
    rfl

theorem aggOk_ex {b : Bool} {v : Value} {A : Prop} (h : aggOk b v A) : (b = true ∧ (∃ cs, v = .agg cs) ∧ A) ∨ (b = false ∧ (∀ cs, v ≠ .agg cs) ∧ A) := by
  unfold aggOk at h
  split at h
  · exact .inl ⟨rfl, ⟨_, rfl⟩, h⟩
  · exact h.elim
  · exact h.elim
  · rename_i hn
    refine .inr ⟨rfl, fun cs e => ?_, h⟩
    subst e
    simp at hn

theorem Value.cells_of {v : Value} (h : ∀ cs, v ≠ .agg cs) : v.cells = #[v] := by
  cases v <;> first | rfl | exact absurd rfl (h _)

theorem loadVar_run {t : TypeId} {a : Addr} {w : World} {v : Value} (ho : okT P t = true) (hh : Holds w a (sizeT P t) v)
    (hv : (isAggT P t = true ∧ ∃ cs, v = .agg cs) ∨ (isAggT P t = false ∧ ∀ cs, v ≠ .agg cs)) : (loadVar t a).run P w = .ok v w := by
  obtain ⟨hs, hc⟩ := hh
  rcases hv with ⟨hb, cs, rfl⟩ | ⟨hb, hn⟩
  · simp only [loadVar, Sem.run_bind, isAgg_run t ho, hb, Result.andThen_ok, if_true, sizeOf_run t ho, loadCells]
    have hs : cs.size = sizeT P t := hs
    rw [loadCellsFrom_run w a cs (sizeT P t) 0 #[] (by rw [hs]; omega) (fun j hj => hc j (by rw [← hs]; exact hj))]
    simp
  · simp only [loadVar, Sem.run_bind, isAgg_run t ho, hb, Result.andThen_ok, Bool.false_eq_true, if_false]
    have e := Value.cells_of hn
    rw [e] at hs hc
    have := hc 0 (by rw [← hs]; simp)
    simp [Addr.add] at this
    simp [this]

theorem sload_sound {sh : TypeId → Sh} {t : TypeId} {x : Value} {w : World} {K : Value → (World → Prop) → Prop} (h : sloadP P sh t x w K) :
    ∃ v φ, K v φ ∧ φ w ∧ ∀ w', φ w' → (Instr.loadAt t x).run P w' = .ok v w' := by
  unfold sloadP at h
  split at h
  · cases ho : okT P t with
    | false => simp [ho] at h
    | true =>
      simp only [ho] at h
      replace h := nilP_ex h
      obtain ⟨a, rfl, h⟩ := h
      obtain ⟨y, hy, h⟩ := h.ex
      have h' := aggOk_ex h
      have hK : K ((sh t).val y) fun w' => Holds w' a (sizeT P t) ((sh t).val y) := by
        rcases h' with ⟨_, _, hK⟩ | ⟨_, _, hK⟩ <;> exact hK
      refine ⟨_, _, hK, hy, fun w' hw' => ?_⟩
      have : (loadVar t a).run P w' = .ok ((sh t).val y) w' := loadVar_run ho hw' (by
        rcases h' with ⟨hb, hc, _⟩ | ⟨hb, hc, _⟩
        · exact .inl ⟨hb, hc⟩
        · exact .inr ⟨hb, hc⟩)
      simp [Instr.loadAt, Instr.sureAddr, this]
  · exact h.elim

theorem sread_sound {s : Sem Value} {hh : Sh} {w : World} {K : Value → (World → Prop) → Prop} (h : sreadP P s hh w K) :
    ∃ v φ, K v φ ∧ φ w ∧ ∀ w', φ w' → s.run P w' = .ok v w' := by
  obtain ⟨x, hx, hK⟩ := h.ex
  exact ⟨_, _, hK, hx, fun w' hw' => hw'⟩

theorem readOp_sound {sh : TypeId → Sh} {o : Oper} {e : List Value} {w : World} {K : Value → (World → Prop) → Prop} (h : readOp P sh o.op o.type e w K) :
    ∃ v φ, K v φ ∧ φ w ∧ ∀ w', φ w' → (execOp (ρ e) o).run P w' = .ok (.value v) w' := by
  obtain ⟨dst, op, ty, pos, after, guard⟩ := o
  simp only at h
  cases op <;> simp only [readOp] at h <;> try exact h.elim
  case load t x =>
    obtain ⟨v, φ, h1, h2, h3⟩ := sload_sound h
    exact ⟨v, φ, h1, h2, fun w' hw' => by simp [execOp, h3 w' hw']⟩
  case convert s d x =>
    obtain ⟨v, φ, h1, h2, h3⟩ := sread_sound h
    exact ⟨v, φ, h1, h2, fun w' hw' => by simp [execOp, h3 w' hw']⟩
  case lookup t x ix ok =>
    obtain ⟨v, φ, h1, h2, h3⟩ := sread_sound h
    exact ⟨v, φ, h1, h2, fun w' hw' => by simp [execOp, h3 w' hw']⟩
  case call c =>
    obtain ⟨callee, args, argTypes⟩ := c
    cases callee <;> simp only at h <;> try exact h.elim
    rename_i b
    cases b <;> simp only at h <;> try exact h.elim
    obtain ⟨v, φ, h1, h2, h3⟩ := sread_sound h
    refine ⟨v, φ, h1, h2, fun w' hw' => ?_⟩
    have ea : args.map (ρ e) = (argV ⟨.builtin .len, args, argTypes⟩ e).toArray := args_eq ⟨.builtin .len, args, argTypes⟩ e
    simp only [execOp, resolve, invoke, builtin, Sem.run_bind, Sem.run_pure, Result.andThen_ok, ea, h3 w' hw']

/-! ### effects -/
theorem store_run {w : World} {a : Addr} {v : Value} (h1 : v.oneCell' = true) (h2 : (w.cell? a).isSome = true) (h3 : w.frozen? a = false) : (store a v).run P w = .ok () (w.setCell a v) := by
  rw [run_store P w a v .plain h1]
  obtain ⟨u, hu⟩ := Option.isSome_iff_exists.1 h2
  simp [hu, h3]

theorem Addr.add_inj (a : Addr) {i j : Nat} (h : a.add i = a.add j) : i = j ∨ (i = 0 ∨ j = 0) := by
  unfold Addr.add at h
  split at h <;> split at h <;> first | (left; omega) | (right; omega) | skip
  injection h with _ h2 _
  left; omega

theorem frozen_setCell (w : World) (a b : Addr) (v : Value) : (w.setCell a v).frozen? b = w.frozen? b := by
  unfold World.frozen? World.setCell
  simp only [Array.getElem?_modify]
  by_cases h : a.block = b.block
  · simp only [h, if_true]
    cases w.heap[b.block]? with
    | none => rfl
    | some o => cases o <;> rfl
  · simp only [h, if_false]

theorem cell_setCell_isSome (w : World) (a b : Addr) (v : Value) (h : (w.cell? b).isSome = true) : ((w.setCell a v).cell? b).isSome = true := by
  unfold World.cell? World.setCell at *
  simp only [Array.getElem?_modify]
  by_cases hb : a.block = b.block
  · simp only [hb, if_true]
    cases ho : w.heap[b.block]? with
    | none => simp [ho] at h
    | some o =>
      cases o <;> simp only [ho, Option.map_some] at h ⊢ <;> first | exact h | skip
      split
      · rename_i hs; simp [hs] at h
      · rename_i hs
        simp only [hs] at h
        split
        · simpa using h
        · simpa using h
  · simp only [hb, if_false]; exact h

theorem storeCells_run (a : Addr) : ∀ (vs : List Value) (i : Nat) (w : World), vs.all (·.oneCell') = true → (∀ j, i ≤ j → j < i + vs.length → (w.cell? (a.add j)).isSome = true ∧ w.frozen? (a.add j) = false) →
    (storeCells a vs i).run P w = .ok () (puts w a vs i) := by
  intro vs
  induction vs with
  | nil => intro i w _ _; simp [storeCells, puts]
  | cons v vs ih =>
    intro i w h1 h2
    simp only [List.all_cons, Bool.and_eq_true] at h1
    have hi := h2 i (Nat.le_refl _) (by simp)
    simp only [storeCells, Sem.run_bind, store_run h1.1 hi.1 hi.2, Result.andThen_ok, puts]
    refine ih (i + 1) _ h1.2 fun j hj1 hj2 => ?_
    have := h2 j (by omega) (by simp; omega)
    exact ⟨cell_setCell_isSome _ _ _ _ this.1, by rw [frozen_setCell]; exact this.2⟩

theorem storeVar_run {t : TypeId} {a : Addr} {w : World} {v : Value} (ho : okT P t = true) (h : Can w a (sizeT P t) v) : (storeVar t a v).run P w = .ok () (puts w a v.cells.toList 0) := by
  obtain ⟨h1, h2, h3⟩ := h
  simp only [storeVar, Sem.run_bind, sizeOf_run t ho, Result.andThen_ok, h1, ne_eq, not_true_eq_false, if_false]
  exact storeCells_run a _ 0 w h2 fun j _ hj => h3 j (by simp at hj; omega)

def WpOp (P : Program) (o : Oper) (e : List Value) (w : World) (K : Value → World → Prop) : Prop :=
  ∀ (F : Fence) (n : Nat) (a : Act) (next : Act → World → Prop) (Q : Exit → Act → World → Prop), FW F → (∀ x ∈ o.op.operands, a.eval x = ρ e x) → (∀ v w', K v w' → next (a.put o.dst v) w') → o.wpIn F n P a w next Q

theorem wpOp_of_value {o : Oper} {e : List Value} {w w' : World} {v : Value} {K : Value → World → Prop} (hs : ∀ cs b, o.op ≠ .select cs b) (hr : (execOp (ρ e) o).run P w = .ok (.value v) w') (hK : K v w') (hd : ∀ c, o.op ≠ .defer c := by simp) : WpOp P o e w K := by
  intro F n a next Q hF ha hn
  refine ⟨fun f _ => hF.fn f, ?_⟩
  rw [Oper.semAt_eq _ _ _ hd, execOp_congr o hs ha, hr]
  exact hn _ _ hK
theorem wpOp_of_skip {o : Oper} {e : List Value} {w w' : World} {K : Value → World → Prop} (hs : ∀ cs b, o.op ≠ .select cs b) (hr : (execOp (ρ e) o).run P w = .ok .skip w') (hK : K undef w') (hd : ∀ c, o.op ≠ .defer c := by simp) : WpOp P o e w K := by
  intro F n a next Q hF ha hn
  refine ⟨fun f _ => hF.fn f, ?_⟩
  rw [Oper.semAt_eq _ _ _ hd, execOp_congr o hs ha, hr]
  exact hn _ _ hK

theorem callFunc_run {f : FuncId} {args : Array Value} (h : bodyOk P f = true) (w : World) : (callFunc f args).run P w = .ok (.enter f args) w := by
  unfold bodyOk at h
  cases hf : P.funcs[f]? with
  | none => simp [hf] at h
  | some fn =>
    simp only [hf, Bool.and_eq_true, bne_iff_ne] at h
    simp only [callFunc, Sem.run_bind, run_program, Result.andThen_ok, hf]
    have h2 : (fn.name == "runtime.NumGoroutine") = false := by simpa using h.2
    have h1 : fn.body.isNone = false := by cases hb : fn.body <;> simp_all
    simp [h2, h1]

theorem callsIn_fw {F : Fence} (hF : FW F) {n : Nat} {f : FuncId} {args : Array Value} {w : World} {R : Ending → World → Prop} (h : Calls P f args w R) : CallsIn F n P f args w R := by
  refine ⟨hF.fn f, fun cs _ => ?_⟩
  obtain ⟨e, w', fr, r, s, x⟩ := h cs
  refine ⟨e, w', fr, r, ?_, x⟩
  cases e with
  | returned v => exact hF.steps s
  | panicked chain => exact hF.steps s
  | outgrown => exact s
theorem effOp_sound {sh : TypeId → Sh} {o : Oper} {e : List Value} {w : World} {K : Value → World → Prop} (h : effOp P sh o.op o.type e w K) : WpOp P o e w K := by
  obtain ⟨dst, op, ty, pos, after, guard⟩ := o
  simp only at h
  have ofRun : ∀ {α : Type} (s : Sem Value) (hh : Sh), (execOp (ρ e) ⟨dst, op, ty, pos, after, guard⟩ = (do pure (Next.value (← s)))) → (∀ cs b, op ≠ .select cs b) → srunP P s hh w K → (∀ c, op ≠ .defer c) → WpOp P ⟨dst, op, ty, pos, after, guard⟩ e w K := by
    intro _ s hh he hs hr hd
    obtain ⟨x, w', hx, hK⟩ := hr.ex
    exact wpOp_of_value hs (by rw [he]; simp [hx]) hK hd
  have ofUnit : ∀ (s : Sem Unit), (execOp (ρ e) ⟨dst, op, ty, pos, after, guard⟩ = (do s; pure Next.skip)) → (∀ cs b, op ≠ .select cs b) → runU P s w (fun w' => K undef w') → (∀ c, op ≠ .defer c) → WpOp P ⟨dst, op, ty, pos, after, guard⟩ e w K := by
    intro s he hs hr hd
    obtain ⟨w', hx, hK⟩ := hr.ex
    exact wpOp_of_skip hs (by rw [he]; simp [hx]) hK hd
  cases op <;> simp only [effOp] at h <;> try exact h.elim
  case alloc t =>
    unfold newCellsP at h
    split at h
    · rename_i cs hcs
      obtain ⟨i, v, hi, hv, rfl⟩ := zeroL_ex hcs
      exact wpOp_of_value (by simp) (by simp [execOp, Instr.alloc, zeroValue, typeInfo, hi, hv, newVar, newRow]) h.ex
    · exact h.elim
  case box t x => exact wpOp_of_value (by simp) (by simp [execOp, Instr.box, newVar, newRow]) h.ex
  case buildSlice t len parts =>
    split at h
    · rename_i el hu
      unfold newRowP at h
      split at h
      · rename_i cs hcs
        have e1 : (parts.toList.map fun p => (p.1, ρ e p.2)) = (parts.map fun (i, x) => (i, ρ e x)).toList := by simp
        rw [e1] at hcs
        have := rowL_run hu hcs w
        exact wpOp_of_value (by simp) (by simp only [execOp, Sem.run_bind]; rw [this]; rfl) h.ex
      · exact h.elim
    · exact h.elim
  case store t a x =>
    split at h
    · rename_i p ho ha
      replace h := nilP_ex h
      obtain ⟨ad, rfl, h⟩ := h
      obtain ⟨hc, hK⟩ := h.ex
      exact wpOp_of_skip (by simp) (by simp [execOp, Instr.storeAt, ha, Instr.sureAddr, storeVar_run ho hc]) hK
    · exact h.elim
  case convert s d x => exact ofRun (α := Unit) _ _ rfl (by simp) h (by simp)
  case makeMap t r =>
    split at h
    · exact wpOp_of_value (by simp) (by simp [execOp, Instr.makeMap]) h.ex
    · exact h.elim
  case makeSlice t l c => exact ofRun (α := Unit) _ _ rfl (by simp) h (by simp)
  case mapUpdate t m k x => exact ofUnit _ rfl (by simp) h (by simp)
  case insert t m k x => exact ofUnit _ rfl (by simp) h (by simp)
  case mapEntry t m k => exact ofRun (α := Unit) _ _ rfl (by simp) h (by simp)
  case entryStore t m s x => exact ofUnit _ rfl (by simp) h (by simp)
  case range t x => exact ofRun (α := Unit) _ _ rfl (by simp) h (by simp)
  case next it s => exact ofRun (α := Unit) _ _ rfl (by simp) h (by simp)
  case entry it => exact ofRun (α := Unit) _ _ rfl (by simp) h (by simp)
  case call c =>
    obtain ⟨callee, args, argTypes⟩ := c
    cases callee <;> simp only at h <;> try exact h.elim
    case value f =>
      unfold scallP at h
      split at h
      · rename_i g first captured hf
        have ea : args.map (ρ e) = (argV ⟨.value f, args, argTypes⟩ e).toArray := args_eq ⟨.value f, args, argTypes⟩ e
        have eargs : (first ++ args.map (ρ e)) ++ captured = (first.toList ++ (argV ⟨.value f, args, argTypes⟩ e ++ captured.toList)).toArray := by
          rw [ea]; apply Array.ext'; simp
        have hex : ∀ w, (execOp (ρ e) ⟨dst, .call ⟨.value f, args, argTypes⟩, ty, pos, after, guard⟩).run P w = (callFunc g ((first.toList ++ (argV ⟨.value f, args, argTypes⟩ e ++ captured.toList)).toArray)).run P w := by
          intro w
          simp only [execOp, resolve, hf, Deferred.ofValue, Sem.run_bind, Sem.run_pure, Result.andThen_ok, invoke, eargs]
        rcases h.ex with ⟨hb, hc⟩ | ⟨x, w', hr, hK⟩
        · intro F n a next Q hF ha hn
          refine ⟨fun f _ => hF.fn f, ?_⟩
          rw [Oper.semAt_eq _ _ _ (by simp), execOp_congr _ (by simp) ha, hex, callFunc_run hb]
          simp only [Oper.uponIn]
          refine ⟨fun h => by rw [hF.depth] at h; simp at h, CallsIn.mono (callsIn_fw hF hc) ?_⟩
          intro en w'' hen
          cases en with
          | returned v => obtain ⟨x, rfl, hK⟩ := hen; exact hn _ _ hK
          | panicked ch => exact hen.elim
          | outgrown => exact hen.elim
        · exact wpOp_of_value (by simp) (by rw [hex, hr]) hK
      · rename_i l hf
        have ea : args.map (ρ e) = (argV ⟨.value f, args, argTypes⟩ e).toArray := args_eq ⟨.value f, args, argTypes⟩ e
        intro F n a next Q hF ha hn
        obtain ⟨g, tmps, as, body, w', hy, hR⟩ := h.ex F (n - 1) hF
        refine ⟨fun f _ => hF.fn f, ?_⟩
        have hex : (execOp (ρ e) ⟨dst, .call ⟨.value f, args, argTypes⟩, ty, pos, after, guard⟩).run P w = .ok (.round l g tmps as body) w' := by
          rw [← hy]
          simp [execOp, resolve, hf, Deferred.ofValue, Sem.run_bind, Sem.run_pure, Result.andThen_ok, invoke, ea]
        rw [Oper.semAt_eq _ _ _ (by simp), execOp_congr _ (by simp) ha, hex]
        simp only [Oper.uponIn]
        refine ⟨fun h => by rw [hF.depth] at h; simp at h, RoundIn.mono hR ?_⟩
        intro en w'' hen
        cases en with
        | returned v => obtain ⟨x, rfl, hK⟩ := hen; exact hn _ _ hK
        | panicked ch => exact hen.elim
        | outgrown => exact hen.elim
      · exact h.elim
    case builtin b =>
      split at h
      · rename_i s hs
        have ea : args.map (ρ e) = (argV ⟨.builtin b, args, argTypes⟩ e).toArray := args_eq ⟨.builtin b, args, argTypes⟩ e
        refine ofRun (α := Unit) s _ ?_ (by simp) h (by simp)
        cases b <;> simp only [builtinSem, Option.some.injEq, reduceCtorEq] at hs <;> subst hs <;> simp only [execOp, resolve, invoke, builtin, ea] <;> rfl
      · exact h.elim

theorem kind_not_defer {o : Op} (c : Call) (h : kind P o = .pure ∨ kind P o = .read) : o ≠ .defer c := by
  rintro rfl
  rcases h with h | h <;> cases h
theorem kind_not_select {o : Op} (cs : Array SelectCase) (b : Bool) (h : kind P o = .pure ∨ kind P o = .read) : o ≠ .select cs b := by
  rintro rfl
  rcases h with h | h <;> cases h

theorem opVC_sound {sh : TypeId → Sh} {o : Oper} {e : List Value} {w : World} {K : Value → World → Prop} (h : opVC P sh o e w K) : WpOp P o e w K := by
  unfold opVC at h
  split at h
  · rename_i hk
    obtain ⟨v, hK, hr⟩ := pureOp_sound hk h
    exact wpOp_of_value (fun cs b => kind_not_select cs b (.inl hk)) (hr w) hK (fun c => kind_not_defer c (.inl hk))
  · rename_i hk
    obtain ⟨v, φ, hK, hw, hr⟩ := readOp_sound h
    exact wpOp_of_value (fun cs b => kind_not_select cs b (.inr hk)) (hr w hw) hK (fun c => kind_not_defer c (.inr hk))
  · exact effOp_sound h
end
end Go.Vc
