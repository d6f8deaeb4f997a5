/-
  From a call's contract to the given statement: laws that answer true and leave what came in as it was. No program in sight.
-/
import Derived.Test.YtobldgdfejpckaaVcSep4
import Derived.WalkKit
import Derived.ProofKit
import Derived.OpenShut
import Derived.Below
import Derived.SizedLaws
set_option linter.all false
set_option linter.unusedVariables false
set_option maxRecDepth 100000
namespace Go.Vc
open Go.ChangeShapes Go.WideShapes Go.ChangeAt Go.RowKit

theorem callP.calls {α : Type} {P : Program} {f : FuncId} {args : Array Value} {w : World} {val : α → Value} {K : α → World → Prop} (hb : bodyOk P f = true) (h : callP P f args w val K) :
    Calls P f args w fun e w' => ∃ x, e = .returned (val x) ∧ K x w' := by
  rcases h.ex with ⟨_, h⟩ | ⟨x, w', hr, _⟩
  · refine h.mono fun e w' he => ?_
    cases e <;> first | exact he.elim | skip
    obtain ⟨x, rfl, hk⟩ := he
    exact ⟨x, rfl, hk⟩
  · exfalso
    unfold bodyOk at hb
    split at hb
    · rename_i fn hf
      simp only [Bool.and_eq_true, bne_iff_ne, ne_eq] at hb
      unfold callFunc at hr
      have hi : ¬ fn.body = none := fun e => by simp [e] at hb
      simp [Sem.run_bind, hf, hb.2, hi] at hr
    · cases hb
theorem St.below {w w' : World} {H : List HA} (h : St w' (.old w :: H)) : RowKit.Below w.heap.size w w' :=
  ⟨h.oldSame.os, h.oldSame.tape, h.oldSame.output, h.oldSize, fun _ hk => h.old hk⟩

theorem trodAll_below {H : Type} {enc : TypeId × Value → H} {P : Program} (hl : laidOutB P = true) {W W' : World} (hb : Below W.heap.size W W') : ∀ {ts : List TypeId} {vs : List Value} {ds : List (DataW H)} {ps : List MemPlace},
    (ts.all fun t => P.readableRec t && decide (t < P.types.size)) = true → DataW.TrodAll enc P W 0 (fun _ => true) true ts vs ds ps → (∀ x ∈ ps, x.block < W.heap.size) → DataW.TrodAll enc P W' 0 (fun b => decide (b < W.heap.size)) true ts vs ds ps
  | [], [], [], ps, _, h, _ => h
  | t :: ts, v :: vs, d :: ds, ps, hr, h, hlt => by
    obtain ⟨p, q, h1, h2, rfl⟩ := h
    simp only [List.all_cons, Bool.and_eq_true, decide_eq_true_eq] at hr
    exact ⟨p, q, Below.trod hl hr.1.1 hr.1.2 h1 hb (fun x hx => hlt x (List.mem_append_left _ hx)), trodAll_below hl hb hr.2 h2 (fun x hx => hlt x (List.mem_append_right _ hx)), rfl⟩
  | [], _ :: _, _, _, _, h, _ => h.elim
  | [], [], _ :: _, _, _, h, _ => h.elim
  | _ :: _, [], _, _, _, h, _ => h.elim
  | _ :: _, _ :: _, [], _, _, h, _ => h.elim

/-- The post, of a law. -/
theorem lawPost {H : Type} {enc : TypeId × Value → H} {P : Program} {fn : Func} {s : ChangeSpec} {tb : TypeId} {apart fresh handsOn : Bool} (hl : laidOutB P = true) (hr : (fn.params.toList.all fun t => P.readableRec t && decide (t < P.types.size)) = true)
    (hv : s.vars = []) (hres : fn.resultTypes = #[tb]) (hub : P.underlying tb = some .bool) {W W' : World} {args : Array Value} {ds gs : List (DataW H)} {before : List MemPlace}
    (hW : DataW.Whole enc P fn.params.toList s.vars apart W args.toList ds gs before) (hf : s.fn H (ds ++ gs) = { results := [.lit (.bool true)], args := ds }) (hb : Below W.heap.size W W') :
    s.post enc P fn apart fresh handsOn false W args (.bool true) W' := by
  have hW0 := hW
  have hlt := hW.lt
  obtain ⟨p, q, hA, hV, rfl, hfz, hnd⟩ := hW
  have hA' := trodAll_below hl hb hr hA (fun x hx => hlt x (List.mem_append_left _ hx))
  refine ⟨ds, gs, p ++ q, [], p, [], hW0, ?_, ?_, ?_, hb.frame _, fun h => by cases h⟩
  · rw [hres, hf]
    exact trodAll_cons_mk (shut_bool hub _) trodAll_mk0
  · rw [hf]
    exact hA'
  · rw [hv, hf]
    rfl

/-- An argument that is a slice of integers. -/
theorem openSl {H : Type} {enc : TypeId × Value → H} {P : Program} {W : World} {r : Reach} {b0 : Nat} {t e : TypeId} {k : IntKind} {v : Value} {d : DataW H} {ps : List MemPlace} (ht : P.underlying t = some (.slice e)) (he : P.underlying e = some (.int k)) (hc : P.cellsOf e = 1)
    (hval : Value.okWide P W r b0 t v) (hd : DataW.Trod enc P W 0 (fun _ => true) true t v d ps) : ∃ (s : SlV) (xs : List Int), v = s.val ∧ Sl W 1 (Value.int k) s xs ∧ ∀ x ∈ xs, (Lit.int k x).wf = true := by
  obtain ⟨a, len, cap, rfl⟩ := okWide_slice ht hval
  obtain ⟨fuel, hf⟩ := hd
  have hcs : (Value.slice a len cap).cells.toList = [.slice a len cap] := rfl
  rw [hcs] at hf
  rcases open_ints ht he hc hf with ⟨h0, _⟩ | ⟨a', len', cap', zs, h0, _, hlc, hcm, hzl, _, hcell, hwf⟩
  · simp only [List.cons.injEq, Value.slice.injEq, and_true] at h0
    obtain ⟨rfl, rfl, rfl⟩ := h0
    exact ⟨SlV.nil, [], rfl, ⟨⟨rfl, Nat.le_refl _, Nat.zero_le _⟩, .inl rfl⟩, by simp⟩
  · simp only [List.cons.injEq, Value.slice.injEq, and_true] at h0
    obtain ⟨rfl, rfl, rfl⟩ := h0
    simp only [if_true] at hzl
    refine ⟨⟨some a', len, cap⟩, zs.take len, rfl, ⟨⟨by simp; omega, hlc, hcm⟩, ?_⟩, fun x hx => hwf x (List.mem_of_mem_take hx)⟩
    rcases Nat.eq_zero_or_pos cap with h0 | hpos
    · exact .inl h0
    refine .inr ?_
    obtain ⟨b, off, spot⟩ := a'
    have hc0 := hcell 0 (by omega)
    have hcl := hcell (cap - 1) (by omega)
    unfold World.cell? at hc0
    have hadd0 : (⟨b, off, spot⟩ : Addr).add 0 = ⟨b, off, spot⟩ := rfl
    rw [hadd0] at hc0
    cases ho : W.heap[b]? with
    | none => simp [ho] at hc0
    | some o =>
      cases o with
      | cells c T fz =>
        simp only [ho] at hc0
        have hs : spot = none := by
          cases spot with
          | none => rfl
          | some s => simp at hc0
        subst hs
        have hall : ∀ i, i < cap → c[off + i]? = some (.int k (zs.getD i 0)) := by
          intro i hi
          have := hcell i (by omega)
          rw [add_lit] at this
          simpa [World.cell?, ho] using this
        have hsz : off + cap ≤ c.size := by
          have := hall (cap - 1) (by omega)
          have := (Array.getElem?_eq_some_iff.1 this).1
          omega
        refine ⟨b, off, c.toList, T, fz, rfl, ⟨by simpa using hsz, ?_⟩, by simpa using ho⟩
        apply List.ext_getElem?
        intro i
        simp only [flat]
        have e1 : (List.map (fun x => (Value.int k x).cells.toList) (zs.take len)).flatten = (zs.take len).map (Value.int k) := by
          generalize zs.take len = l
          induction l with
          | nil => rfl
          | cons x l ih => simp only [List.map_cons, List.flatten_cons, ih]; rfl
        rw [e1]
        by_cases hi : i < len
        · rw [List.getElem?_take_of_lt (by simpa using hi), List.getElem?_drop, Array.getElem?_toList, hall i (by omega), List.getElem?_map, List.getElem?_take_of_lt hi, List.getElem?_eq_getElem (by omega)]
          simp [List.getD_eq_getElem?_getD, List.getElem?_eq_getElem (show i < zs.length by omega)]
        · rw [List.getElem?_eq_none (by simp; omega), List.getElem?_eq_none (by simp; omega)]
      | _ => simp [ho] at hc0
end Go.Vc
