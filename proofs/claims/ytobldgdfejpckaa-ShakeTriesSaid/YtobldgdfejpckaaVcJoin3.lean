/-
  Arguments that are structs of integers, bools, strings and slices.
-/
import Derived.Test.YtobldgdfejpckaaVcJoin2
set_option linter.all false
set_option linter.unusedVariables false
set_option maxRecDepth 100000
namespace Go.Vc
open Go.ChangeShapes Go.WideShapes Go.ChangeAt Go.RowKit

inductive LK where
  | int (k : IntKind)
  | bool
  | str
  | sl
deriving DecidableEq
def LK.ok : LK → Value → Prop
  | .int k, v => ∃ n, v = .int k n ∧ (Lit.int k n).wf = true
  | .bool, v => ∃ b, v = .bool b
  | .str, v => ∃ s, v = .string s ∧ s.size ≤ maxLen
  | .sl, v => ∃ s : SlV, v = s.val
def leafK (P : Program) (t : TypeId) : Option LK :=
  match P.underlying t with
  | some (.int k) => some (.int k)
  | some .bool => some .bool
  | some .string => some .str
  | some (.slice _) => some .sl
  | _ => none
theorem leafK_ok {H : Type} {enc : TypeId × Value → H} {P : Program} {W : World} {base : Nat} {sp : Nat → Bool} {hd : Bool} {fuel : Nat} {t : TypeId} {k : LK} {cs : List Value} {x : DataW H × List MemPlace} (hk : leafK P t = some k)
    (h : DataW.trod enc P W base sp hd fuel t cs = some x) : ∃ v, cs = [v] ∧ k.ok v := by
  unfold leafK at hk
  split at hk
  · rename_i ht; cases hk
    obtain ⟨n, h1, _, h3⟩ := DataW.trod_int ht h
    exact ⟨_, h1, n, rfl, h3⟩
  · rename_i ht; cases hk
    obtain ⟨b, h1, _⟩ := DataW.trod_bool ht h
    exact ⟨_, h1, b, rfl⟩
  · rename_i ht; cases hk
    obtain ⟨s, h1, _, h3⟩ := DataW.trod_string ht h
    exact ⟨_, h1, s, rfl, h3⟩
  · rename_i ht; cases hk
    rcases DataW.trod_slice ht h with ⟨h1, _⟩ | ⟨a, len, cap, _, _, _, _, h1, _⟩
    · exact ⟨_, h1, SlV.nil, rfl⟩
    · exact ⟨_, h1, ⟨some a, len, cap⟩, rfl⟩
  · cases hk
def leaves (P : Program) (fs : Array Field) (ks : List LK) : Bool :=
  (fs.size == ks.length) && (List.range ks.length).all fun i => match fs[i]?, ks[i]? with
    | some f, some k => (f.offset == i) && (P.cellsOf f.type == 1) && decide (leafK P f.type = some k)
    | _, _ => false
theorem trodLeaves {H : Type} {enc : TypeId × Value → H} {P : Program} {W : World} {base : Nat} {sp : Nat → Bool} {hd : Bool} {fuel : Nat} {t : TypeId} {fs : Array Field} {ks : List LK} {cs : List Value} {x : DataW H × List MemPlace}
    (ht : P.underlying t = some (.struct fs)) (hf : leaves P fs ks = true) (h : DataW.trod enc P W base sp hd fuel t cs = some x) :
    cs.length = P.cellsOf t ∧ ∀ (i : Nat) (k : LK), i < cs.length → ks[i]? = some k → ∃ v, cs[i]? = some v ∧ k.ok v := by
  obtain ⟨ys, n, _, _, hlen, hyl, hall⟩ := DataW.trod_struct ht h
  refine ⟨hlen, fun i k hci hk => ?_⟩
  unfold leaves at hf
  simp only [Bool.and_eq_true, beq_iff_eq, List.all_eq_true, List.mem_range] at hf
  obtain ⟨hsz, hfs⟩ := hf
  have hi : i < ks.length := (List.getElem?_eq_some_iff.1 hk).1
  have hfi := hfs i hi
  have hif : i < fs.size := by omega
  rw [Array.getElem?_eq_getElem hif, hk] at hfi
  simp only [Bool.and_eq_true, beq_iff_eq] at hfi
  obtain ⟨⟨hoff, hone⟩, hund⟩ := hfi
  have hx := hall i fs[i] (Array.getElem?_eq_getElem hif)
  have hyi : i < ys.length := by omega
  rw [List.getElem?_eq_getElem hyi, hoff, hone] at hx
  obtain ⟨v, h1, h2⟩ := leafK_ok (of_decide_eq_true hund) hx
  refine ⟨v, ?_, h2⟩
  rw [List.drop_eq_getElem_cons hci] at h1
  simp only [List.take_succ_cons, List.take_zero, List.cons.injEq, and_true] at h1
  rw [List.getElem?_eq_getElem hci, h1]
end Go.Vc
