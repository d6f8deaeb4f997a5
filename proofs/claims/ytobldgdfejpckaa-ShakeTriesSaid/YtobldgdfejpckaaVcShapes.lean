/-
  Shapes of values that every program shares, and the words of the shallow forms' readers.
-/
import Derived.Test.YtobldgdfejpckaaVcCode
set_option linter.all false
namespace Go.Vc


def unInt (k : IntKind) (v : Value) (K : Int → Prop) : Prop := match v with | .int k' x => if k' = k then K x else False | _ => False
def unBool (v : Value) (K : Bool → Prop) : Prop := match v with | .bool b => K b | _ => False
def unStr (v : Value) (K : ByteArray → Prop) : Prop := match v with | .string s => K s | _ => False
def unSl (v : Value) (K : SlV → Prop) : Prop := match v with | .slice a n c => K ⟨a, n, c⟩ | _ => False
def unMap (v : Value) (K : Option Nat → Prop) : Prop := match v with | .map p => K p | _ => False
theorem unInt_ex (k : IntKind) (v : Value) (K : Int → Prop) (h : unInt k v K) : ∃ x, v = .int k x ∧ K x := by
  unfold unInt at h
  split at h
  · split at h
    · rename_i hk; subst hk; exact ⟨_, rfl, h⟩
    · exact h.elim
  · exact h.elim
theorem unBool_ex (v : Value) (K : Bool → Prop) (h : unBool v K) : ∃ x, v = .bool x ∧ K x := by
  unfold unBool at h
  split at h
  · exact ⟨_, rfl, h⟩
  · exact h.elim
theorem unStr_ex (v : Value) (K : ByteArray → Prop) (h : unStr v K) : ∃ x, v = .string x ∧ K x := by
  unfold unStr at h
  split at h
  · exact ⟨_, rfl, h⟩
  · exact h.elim
theorem unSl_ex (v : Value) (K : SlV → Prop) (h : unSl v K) : ∃ x : SlV, v = x.val ∧ K x := by
  unfold unSl at h
  split at h
  · exact ⟨⟨_, _, _⟩, rfl, h⟩
  · exact h.elim
theorem unMap_ex (v : Value) (K : Option Nat → Prop) (h : unMap v K) : ∃ x, v = .map x ∧ K x := by
  unfold unMap at h
  split at h
  · exact ⟨_, rfl, h⟩
  · exact h.elim

def shInt (k : IntKind) : Sh := ⟨Value.int k, unInt k, unInt_ex k⟩
def shBool : Sh := ⟨Value.bool, unBool, unBool_ex⟩
def shStr : Sh := ⟨Value.string, unStr, unStr_ex⟩
def shSl : Sh := ⟨SlV.val, unSl, unSl_ex⟩
def shMap : Sh := ⟨Value.map, unMap, unMap_ex⟩

structure FnV where
  f : FuncId
  first : Array Value
  cap : Array Value
def FnV.val (x : FnV) : Value := .func (.func x.f) x.first x.cap
def unFn (v : Value) (K : FnV → Prop) : Prop := match v with | .func (.func f) a b => K ⟨f, a, b⟩ | _ => False
theorem unFn_ex (v : Value) (K : FnV → Prop) (h : unFn v K) : ∃ x : FnV, v = x.val ∧ K x := by
  unfold unFn at h
  split at h
  · exact ⟨⟨_, _, _⟩, rfl, h⟩
  · exact h.elim
def shFn : Sh := ⟨FnV.val, unFn, unFn_ex⟩

def arrV (k : IntKind) (xs : List Int) : Value := .agg (xs.map (Value.int k)).toArray
structure unArrP (k : IntKind) (v : Value) (K : List Int → Prop) : Prop where
  ex : ∃ xs, v = arrV k xs ∧ K xs
def shArr (k : IntKind) : Sh := ⟨arrV k, unArrP k, fun _ _ h => h.ex⟩
def arrBV (xs : List Bool) : Value := .agg (xs.map Value.bool).toArray
structure unArrBP (v : Value) (K : List Bool → Prop) : Prop where
  ex : ∃ xs, v = arrBV xs ∧ K xs
def shArrB : Sh := ⟨arrBV, unArrBP, fun _ _ h => h.ex⟩

def unitV (_ : Unit) : Value := .tuple #[]
def unUnit (v : Value) (K : Unit → Prop) : Prop := match v with | .tuple ⟨[]⟩ => K () | _ => False
theorem unUnit_ex (v : Value) (K : Unit → Prop) (h : unUnit v K) : ∃ x, v = unitV x ∧ K x := by
  unfold unUnit at h
  split at h
  · exact ⟨(), rfl, h⟩
  · exact h.elim
def shUnit : Sh := ⟨unitV, unUnit, unUnit_ex⟩

def tup2V {α β : Type} (f : α → Value) (g : β → Value) (x : α × β) : Value := .tuple #[f x.1, g x.2]
def unTup2 (s t : Sh) (v : Value) (K : s.α × t.α → Prop) : Prop := match v with | .tuple ⟨[a, b]⟩ => s.un a fun x => t.un b fun y => K (x, y) | _ => False
theorem unTup2_ex (s t : Sh) (v : Value) (K : s.α × t.α → Prop) (h : unTup2 s t v K) : ∃ x, v = tup2V s.val t.val x ∧ K x := by
  unfold unTup2 at h
  split at h
  · obtain ⟨x, rfl, h1⟩ := s.sound _ _ h
    obtain ⟨y, rfl, h2⟩ := t.sound _ _ h1
    exact ⟨(x, y), rfl, h2⟩
  · exact h.elim
def shTup2 (s t : Sh) : Sh := ⟨tup2V s.val t.val, unTup2 s t, unTup2_ex s t⟩
def tup3V {α β γ : Type} (f : α → Value) (g : β → Value) (h : γ → Value) (x : α × β × γ) : Value := .tuple #[f x.1, g x.2.1, h x.2.2]
def unTup3 (s t u : Sh) (v : Value) (K : s.α × t.α × u.α → Prop) : Prop :=
  match v with | .tuple ⟨[a, b, c]⟩ => s.un a fun x => t.un b fun y => u.un c fun z => K (x, y, z) | _ => False
theorem unTup3_ex (s t u : Sh) (v : Value) (K : s.α × t.α × u.α → Prop) (h : unTup3 s t u v K) : ∃ x, v = tup3V s.val t.val u.val x ∧ K x := by
  unfold unTup3 at h
  split at h
  · obtain ⟨x, rfl, h1⟩ := s.sound _ _ h
    obtain ⟨y, rfl, h2⟩ := t.sound _ _ h1
    obtain ⟨z, rfl, h3⟩ := u.sound _ _ h2
    exact ⟨(x, y, z), rfl, h3⟩
  · exact h.elim
def shTup3 (s t u : Sh) : Sh := ⟨tup3V s.val t.val u.val, unTup3 s t u, unTup3_ex s t u⟩
def tup4V {α β γ δ : Type} (f : α → Value) (g : β → Value) (h : γ → Value) (i : δ → Value) (x : α × β × γ × δ) : Value := .tuple #[f x.1, g x.2.1, h x.2.2.1, i x.2.2.2]
def unTup4 (s t u q : Sh) (v : Value) (K : s.α × t.α × u.α × q.α → Prop) : Prop :=
  match v with | .tuple ⟨[a, b, c, d]⟩ => s.un a fun x => t.un b fun y => u.un c fun z => q.un d fun z' => K (x, y, z, z') | _ => False
theorem unTup4_ex (s t u q : Sh) (v : Value) (K : s.α × t.α × u.α × q.α → Prop) (h : unTup4 s t u q v K) : ∃ x, v = tup4V s.val t.val u.val q.val x ∧ K x := by
  unfold unTup4 at h
  split at h
  · obtain ⟨x, rfl, h1⟩ := s.sound _ _ h
    obtain ⟨y, rfl, h2⟩ := t.sound _ _ h1
    obtain ⟨z, rfl, h3⟩ := u.sound _ _ h2
    obtain ⟨z', rfl, h4⟩ := q.sound _ _ h3
    exact ⟨(x, y, z, z'), rfl, h4⟩
  · exact h.elim
def shTup4 (s t u q : Sh) : Sh := ⟨tup4V s.val t.val u.val q.val, unTup4 s t u q, unTup4_ex s t u q⟩
end Go.Vc
