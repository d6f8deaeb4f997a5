/-
  CookieOpens holds.
-/
import Derived.Test.YtobldgdfejpckaaCA9i
import Derived.Test.YtobldgdfejpckaaVcJoin
import Derived.Test.YtobldgdfejpckaaRows
set_option linter.all false
set_option linter.unusedVariables false
set_option maxRecDepth 100000
namespace Go.Proofs.Ytobldgdfejpckaa.cookieOpens
open Go.ChangeShapes Go.WideShapes Go.ChangeAt Go.RowKit Go.Vc

theorem own : ownKnob Try.prog.godebug = none := by kernel_rfl

theorem walk (w : World) (s0 : SlV) (xs0 : List Int) (s1 : SlV) (xs1 : List Int) (a2 : Int) (hs0 : Sl w 1 (Value.int .u8) s0 xs0) (hw0 : ∀ x ∈ xs0, (Lit.int .u8 x).wf = true) (hs1 : Sl w 1 (Value.int .u8) s1 xs1) (hw1 : ∀ x ∈ xs1, (Lit.int .u8 x).wf = true) (w2 : (Lit.int .u32 a2).wf = true) :
    Calls Try.prog 8 #[s0.val, s1.val, .int .u32 a2] w fun e w' => e = .returned (.bool true) ∧ Below w.heap.size w w' := by
  refine ((SA.c8j (w := w) (K := fun b w' => b = true ∧ Below w.heap.size w w') hs0 hw0 hs1 hw1 w2 fun w' h => ⟨rfl, St.below h⟩).calls (by kernel_rfl)).mono fun e w' ⟨x, he, hx, hb⟩ => ?_
  subst hx
  exact ⟨he, hb⟩

theorem lifted (os : Os) (started : os.Started) (H : Type) (enc : TypeId × Value → H) :
    ReturnsInHanded {} Try.checked os 8 .any (Rows.cookieOpensSpec.pre6 enc Try.prog Try.f8 Rows.cookieOpensRow.domain false) (Rows.cookieOpensSpec.post enc Try.prog Try.f8 false true false false) := by
  refine returnsInHanded_of_change (C := Try.checked) own started (by kernel_rfl) Try.func8
    (ChangeSpec.witness6 (enc := enc) (C := Try.checked) false ⟨#[], #[.slice none 0 0, .slice none 0 0, .int .u32 0], []⟩ 8 (by kernel_rfl) (by kernel_rfl) (by kernel_rfl) (by kernel_rfl)) ?_
  intro W base args ds gs before hval0 hW hcnd _
  have hval : ∀ (j : Nat) t v, Try.f8.params[j]? = some t → args[j]? = some v → Value.okWide Try.prog W .any base t v := hval0
  have hW' : DataW.Whole enc Try.prog Try.f8.params.toList Rows.cookieOpensSpec.vars false W args.toList ds gs before := hW
  obtain ⟨p, q, hA0, hV, rfl, hfz, hnd⟩ := hW
  have hA : DataW.TrodAll enc Try.prog W 0 (fun _ => true) true Try.f8.params.toList args.toList ds p := hA0
  rw [Try.params8] at hA hval
  obtain ⟨v0, vs0, d0, ds0, p0, q0, hargs, rfl, rfl, h0, r0⟩ := trodAll_cons hA
  obtain ⟨v1, vs1, d1, ds1, p1, q1, rfl, rfl, rfl, h1, r1⟩ := trodAll_cons r0
  obtain ⟨v2, vs2, d2, ds2, p2, q2, rfl, rfl, rfl, h2, r2⟩ := trodAll_cons r1
  obtain ⟨rfl, rfl, rfl⟩ := trodAll_nil r2
  obtain rfl : args = #[v0, v1, v2] := by cases args; simp_all
  obtain ⟨rfl, rfl⟩ := trodVars_none hV
  obtain ⟨s0, xs0, rfl, hs0, hw0⟩ := openSl (t := 22) (k := .u8) (e := elemT Try.prog 22) (by kernel_rfl) (by kernel_rfl) (by kernel_rfl) (hval 0 22 v0 rfl rfl) h0
  obtain ⟨s1, xs1, rfl, hs1, hw1⟩ := openSl (t := 22) (k := .u8) (e := elemT Try.prog 22) (by kernel_rfl) (by kernel_rfl) (by kernel_rfl) (hval 1 22 v1 rfl rfl) h1
  obtain ⟨a2, rfl, rfl, rfl, w2⟩ := open_int (t := 33) (k := .u32) (by kernel_rfl) (hval 2 33 v2 rfl rfl) h2
  refine (walk W s0 xs0 s1 xs1 a2 hs0 hw0 hs1 hw1 w2).mono fun e W' ⟨he, hg⟩ => ?_
  subst he
  exact ⟨_, rfl, lawPost (tb := 4) (by kernel_rfl) (by kernel_rfl) rfl (by kernel_rfl) (by kernel_rfl) hW' rfl hg⟩

theorem over : Rows.cookieOpensRow.holds Try.pinned (OpenSpec.ofChange Rows.cookieOpensSpec) :=
  OpenClaim.holds_of_wide 8 Try.f8 rfl rfl rfl rfl rfl rfl rfl ⟨rfl, rfl, rfl, rfl, rfl⟩ rfl rfl rfl rfl rfl (by kernel_rfl) Try.func8 (by kernel_rfl)
    (of_decide_eq_true (by kernel_rfl)) (by unfold Func.isWrapper; first | (rw [if_pos (by decide +kernel)]; kernel_rfl) | (rw [if_neg (by decide +kernel)]; exact ⟨rfl, rfl⟩))
    (fun os started H enc _ => lifted os started H enc)

theorem proved : Rows.CookieOpensSaid := over
#print axioms proved
end Go.Proofs.Ytobldgdfejpckaa.cookieOpens
