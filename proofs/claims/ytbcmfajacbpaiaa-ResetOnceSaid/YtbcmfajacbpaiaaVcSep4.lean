/-
  Arrays as functions; a pool of byte slices that are only read. No program in sight.
-/
import Derived.Test.YtbcmfajacbpaiaaVcSep3
set_option linter.all false
set_option linter.unusedVariables false
namespace Go.Vc

def arrF (n : Nat) (f : Nat → Value) : List Value := (List.range n).map f
theorem arrF_get {n i : Nat} {f : Nat → Value} (h : i < n) : (arrF n f)[i]? = some (f i) := by simp [arrF, h]
theorem arrF_len (n : Nat) (f : Nat → Value) : (arrF n f).length = n := by simp [arrF]
def updN {α : Type} (f : Nat → α) (i : Nat) (v : α) : Nat → α := fun j => if j = i then v else f j
theorem updN_same {α : Type} (f : Nat → α) (i : Nat) (v : α) : updN f i v i = v := by simp [updN]
theorem updN_other {α : Type} (f : Nat → α) {i j : Nat} (v : α) (h : j ≠ i) : updN f i v j = f j := by simp [updN, h]
theorem arrF_set {n i : Nat} {f : Nat → Value} {v : Value} : (arrF n f).set i v = arrF n (updN f i v) := by
  apply List.ext_getElem?
  intro j
  rw [List.getElem?_set]
  by_cases hj : j < n
  · by_cases hij : i = j
    · subst hij
      simp [arrF, hj, updN]
    · simp [arrF, hj, updN, hij, Ne.symm hij]
  · simp [arrF, hj]
    omega
theorem arrF_put {n i : Nat} {f : Nat → Value} {v : Value} : putL (arrF n f) i [v] = arrF n (updN f i v) := arrF_set

def Pool : List (SlV × List Int) → HA
  | [] => .emp
  | x :: l => .sep (SlO 1 (Value.int .u8) x.1 x.2) (Pool l)
theorem Pool.nil {w : World} {H : List HA} (h : St w H) : St w (Pool [] :: H) :=
  h.add (.refl w) (fun _ _ => rfl) (F := fun _ => False) (fun _ h => h) (fun _ h => h.elim)
theorem Pool.add {w : World} {H : List HA} {s : SlV} {bs : List Int} {l : List (SlV × List Int)} (h : St w (SlO 1 (Value.int .u8) s bs :: Pool l :: H)) : St w (Pool ((s, bs) :: l) :: H) := h.mksep
theorem Pool.get {w : World} : ∀ {l : List (SlV × List Int)} {H : List HA} {s : SlV} {bs : List Int}, St w (Pool l :: H) → (s, bs) ∈ l → Sl w 1 (Value.int .u8) s bs
  | x :: l, H, s, bs, h, hm => by
    have h := h.unsep
    rcases List.mem_cons.1 hm with e | e
    · cases e
      exact h.sl
    · exact Pool.get h.g1 e
end Go.Vc
