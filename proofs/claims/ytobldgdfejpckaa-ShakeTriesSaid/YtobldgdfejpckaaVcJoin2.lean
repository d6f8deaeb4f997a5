/-
  An argument that is a struct of integers.
-/
import Derived.Test.YtobldgdfejpckaaVcJoin
set_option linter.all false
set_option linter.unusedVariables false
set_option maxRecDepth 100000
namespace Go.Vc
open Go.ChangeShapes Go.WideShapes Go.ChangeAt Go.RowKit

def intFields (P : Program) (fs : Array Field) (ks : List IntKind) : Bool :=
  (fs.size == ks.length) && (List.range ks.length).all fun i => match fs[i]?, ks[i]? with
    | some f, some k => (f.offset == i) && (P.cellsOf f.type == 1) && (match P.underlying f.type with | some (.int k') => decide (k' = k) | _ => false)
    | _, _ => false

theorem openInts {H : Type} {enc : TypeId × Value → H} {P : Program} {W : World} {r : Reach} {b0 : Nat} {t : TypeId} {fs : Array Field} {ks : List IntKind} {v : Value} {d : DataW H} {ps : List MemPlace} (ht : P.underlying t = some (.struct fs)) (hf : intFields P fs ks = true) (hc : P.cellsOf t = ks.length)
    (hval : Value.okWide P W r b0 t v) (hd : DataW.Trod enc P W 0 (fun _ => true) true t v d ps) :
    ∃ xs : List Int, v = .agg (List.zipWith Value.int ks xs).toArray ∧ xs.length = ks.length ∧ ∀ (i : Nat) (k : IntKind) (x : Int), ks[i]? = some k → xs[i]? = some x → (Lit.int k x).wf = true := by
  obtain ⟨cs, rfl, hcs⟩ := okWide_struct ht hval
  obtain ⟨fuel, hy⟩ := hd
  have hcl : (Value.agg cs).cells.toList = cs.toList := rfl
  rw [hcl] at hy
  obtain ⟨ys, n, _, _, hlen, hyl, hall⟩ := DataW.trod_struct ht hy
  unfold intFields at hf
  simp only [Bool.and_eq_true, beq_iff_eq, List.all_eq_true, List.mem_range] at hf
  obtain ⟨hsz, hfs⟩ := hf
  have hcell : ∀ (i : Nat) (k : IntKind), ks[i]? = some k → ∃ x, cs.toList[i]? = some (.int k x) ∧ (Lit.int k x).wf = true := by
    intro i k hk
    have hi : i < ks.length := (List.getElem?_eq_some_iff.1 hk).1
    have hfi := hfs i hi
    have hif : i < fs.size := by omega
    rw [Array.getElem?_eq_getElem hif, hk] at hfi
    simp only [Bool.and_eq_true, beq_iff_eq] at hfi
    obtain ⟨⟨hoff, hone⟩, hund⟩ := hfi
    have hx := hall i fs[i] (Array.getElem?_eq_getElem hif)
    have hyi : i < ys.length := by omega
    rw [List.getElem?_eq_getElem hyi, hoff, hone] at hx
    split at hund
    · rename_i k' hk'
      have hkk : k' = k := of_decide_eq_true hund
      subst hkk
      obtain ⟨x, h1, _, h3⟩ := DataW.trod_int hk' hx
      refine ⟨x, ?_, h3⟩
      have hci : i < cs.toList.length := by omega
      rw [List.drop_eq_getElem_cons hci] at h1
      simp only [List.take_succ_cons, List.take_zero, List.cons.injEq, and_true] at h1
      rw [List.getElem?_eq_getElem hci, h1]
    · cases hund
  have hl2 : cs.toList.length = ks.length := by rw [hlen, hc]
  have g : ∀ (ks : List IntKind) (l : List Value), l.length = ks.length → (∀ (i : Nat) (k : IntKind), ks[i]? = some k → ∃ x, l[i]? = some (.int k x) ∧ (Lit.int k x).wf = true) →
      ∃ xs : List Int, l = List.zipWith Value.int ks xs ∧ xs.length = ks.length ∧ ∀ (i : Nat) (k : IntKind) (x : Int), ks[i]? = some k → xs[i]? = some x → (Lit.int k x).wf = true := by
    intro ks
    induction ks with
    | nil => intro l hl _; exact ⟨[], by simpa using hl, rfl, by simp⟩
    | cons k ks ih =>
      intro l hl hh
      match l, hl with
      | v :: l, hl =>
        obtain ⟨x, hx, hw⟩ := hh 0 k rfl
        simp only [List.getElem?_cons_zero, Option.some.injEq] at hx
        subst hx
        obtain ⟨xs, rfl, hxl, hxw⟩ := ih l (by simpa using hl) fun i k hk => by simpa using hh (i + 1) k (by simpa using hk)
        refine ⟨x :: xs, rfl, by simp [hxl], ?_⟩
        intro i k' x' h1 h2
        match i, h1, h2 with
        | 0, h1, h2 =>
          simp at h1 h2
          subst h1 h2
          exact hw
        | i + 1, h1, h2 => exact hxw i k' x' (by simpa using h1) (by simpa using h2)
  obtain ⟨xs, h1, h2, h3⟩ := g ks cs.toList hl2 hcell
  exact ⟨xs, by rw [← h1], h2, h3⟩
end Go.Vc
