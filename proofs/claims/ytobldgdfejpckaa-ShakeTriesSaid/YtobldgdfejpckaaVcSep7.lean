/-
  What stays as it is: facts about blocks that are kept and never written. No program in sight.
-/
import Derived.Test.YtobldgdfejpckaaVcSep6
set_option linter.all false
set_option linter.unusedVariables false
namespace Go.Vc

/-- Blocks that are kept, and what they show. -/
def HA.keep (φ : World → Prop) : HA where
  pr w F := (∀ b, F b → b < w.heap.size) ∧ ∀ w', Same w w' → (∀ b, F b → w'.heap[b]? = w.heap[b]?) → φ w'
  lt w F h b hb := h.1 b hb
  st w w' F s h k := ⟨fun b hb => by
    have h1 := h.1 b hb
    have h2 := k b hb
    rw [Array.getElem?_eq_getElem h1] at h2
    exact (Array.getElem?_eq_some_iff.1 h2).1, fun w'' s' k' => h.2 w'' (s.trans s') fun b hb => (k' b hb).trans (k b hb)⟩
section
variable {w : World} {H : List HA} {A B : HA} {φ ψ : World → Prop}
theorem keep.get (h : St w (.keep φ :: H)) : φ w := by
  obtain ⟨F, F1, F2, hA, _⟩ := h
  exact hA.2 w (.refl w) fun _ _ => rfl
theorem keep.of (hA : ∀ w, St w [A] → φ w) (h : St w (A :: H)) : St w (.keep φ :: H) :=
  h.turn (.refl w) fun F hF => ⟨F, ⟨A.lt _ _ hF, fun w' s k => hA w' (sep_emp (A.st _ _ _ s hF k))⟩, fun _ h => .inl h, fun _ _ _ => rfl⟩
theorem keep.map (hm : ∀ w, φ w → ψ w) (h : St w (.keep φ :: H)) : St w (.keep ψ :: H) := keep.of (fun w h => hm w (keep.get h)) h
theorem keep.and (h : St w (.keep φ :: .keep ψ :: H)) : St w (.keep (fun w => φ w ∧ ψ w) :: H) :=
  keep.of (fun w h => ⟨keep.get h.unsep, keep.get h.unsep.swap⟩) h.mksep
theorem keep.triv (hm : ∀ w, φ w) (h : St w H) : St w (.keep φ :: H) :=
  h.add (.refl w) (fun _ _ => rfl) (F := fun _ => False) ⟨fun _ h => h.elim, fun w' _ _ => hm w'⟩ (fun _ h => h.elim)
theorem keep.drop (h : St w (A :: H)) : St w (.keep (fun _ => True) :: H) := keep.of (fun _ _ => trivial) h
end
end Go.Vc
