/-
  ShakeBreaks holds.
-/
import Derived.Test.YtobldgdfejpckaaCASj
import Derived.Test.YtobldgdfejpckaaVcJoin
import Derived.Test.YtobldgdfejpckaaRows
set_option linter.all false
set_option linter.unusedVariables false
set_option maxRecDepth 100000
namespace Go.Proofs.Ytobldgdfejpckaa.shakeBreaks
open Go.ChangeShapes Go.WideShapes Go.ChangeAt Go.RowKit Go.Vc

theorem own : ownKnob Try.prog.godebug = none := by kernel_rfl

theorem walk (w : World) (c0 : SA.EndV) (c1 : SA.EndV) (c2 : SA.NoteV) (hc0 : SA.EW c0) (hc1 : SA.EW c1) (hc2 : SA.AnyN c2) :
    Calls Try.prog 11 #[SA.EndV.val c0, SA.EndV.val c1, SA.NoteV.val c2] w fun e w' => e = .returned (.bool true) ∧ Below w.heap.size w w' := by
  refine ((SA.c11j (w := w) (K := fun b w' => b = true ∧ Below w.heap.size w w') hc0 hc1 hc2 fun w' h => ⟨rfl, St.below h⟩).calls (by kernel_rfl)).mono fun e w' ⟨x, he, hx, hb⟩ => ?_
  subst hx
  exact ⟨he, hb⟩

theorem lifted (os : Os) (started : os.Started) (H : Type) (enc : TypeId × Value → H) :
    ReturnsInHanded {} Try.checked os 11 .any (Rows.shakeBreaksSpec.pre6 enc Try.prog Try.f11 Rows.shakeBreaksRow.domain false) (Rows.shakeBreaksSpec.post enc Try.prog Try.f11 false true false false) := by
  refine returnsInHanded_of_change (C := Try.checked) own started (by kernel_rfl) Try.func11
    (ChangeSpec.witness6 (enc := enc) (C := Try.checked) false ⟨#[], #[.agg #[.int .u32 0, .int .u32 0, .int .u32 0, .bool false, .string ⟨#[]⟩], .agg #[.int .u32 0, .int .u32 0, .int .u32 0, .bool false, .string ⟨#[]⟩], .agg #[.int .u32 0, .int .u8 0, .bool false, .bool false, .bool false, .bool false, .int .u32 0, .int .u16 0, .int .u32 0, .int .u32 0, .int .u32 0, .int .u32 0, .int .u32 0, .int .u16 0, .int .u16 0, .slice none 0 0, .slice none 0 0, .slice none 0 0, .slice none 0 0, .slice none 0 0]], []⟩ 8 (by kernel_rfl) (by kernel_rfl) (by kernel_rfl) (by kernel_rfl)) ?_
  intro W base args ds gs before hval0 hW hcnd _
  have hval : ∀ (j : Nat) t v, Try.f11.params[j]? = some t → args[j]? = some v → Value.okWide Try.prog W .any base t v := hval0
  have hW' : DataW.Whole enc Try.prog Try.f11.params.toList Rows.shakeBreaksSpec.vars false W args.toList ds gs before := hW
  obtain ⟨p, q, hA0, hV, rfl, hfz, hnd⟩ := hW
  have hA : DataW.TrodAll enc Try.prog W 0 (fun _ => true) true Try.f11.params.toList args.toList ds p := hA0
  rw [Try.params11] at hA hval
  obtain ⟨v0, vs0, d0, ds0, p0, q0, hargs, rfl, rfl, h0, r0⟩ := trodAll_cons hA
  obtain ⟨v1, vs1, d1, ds1, p1, q1, rfl, rfl, rfl, h1, r1⟩ := trodAll_cons r0
  obtain ⟨v2, vs2, d2, ds2, p2, q2, rfl, rfl, rfl, h2, r2⟩ := trodAll_cons r1
  obtain ⟨rfl, rfl, rfl⟩ := trodAll_nil r2
  obtain rfl : args = #[v0, v1, v2] := by cases args; simp_all
  obtain ⟨rfl, rfl⟩ := trodVars_none hV
  obtain ⟨c0, rfl, hc0⟩ := SA.openEnd (hval 0 50 v0 rfl rfl) h0
  obtain ⟨c1, rfl, hc1⟩ := SA.openEnd (hval 1 50 v1 rfl rfl) h1
  obtain ⟨c2, rfl, hc2⟩ := SA.openNote (hval 2 59 v2 rfl rfl) h2
  refine (walk W c0 c1 c2 hc0 hc1 hc2).mono fun e W' ⟨he, hg⟩ => ?_
  subst he
  exact ⟨_, rfl, lawPost (tb := 4) (by kernel_rfl) (by kernel_rfl) rfl (by kernel_rfl) (by kernel_rfl) hW' rfl hg⟩

theorem over : Rows.shakeBreaksRow.holds Try.pinned (OpenSpec.ofChange Rows.shakeBreaksSpec) :=
  OpenClaim.holds_of_wide 11 Try.f11 rfl rfl rfl rfl rfl rfl rfl ⟨rfl, rfl, rfl, rfl, rfl⟩ rfl rfl rfl rfl rfl (by kernel_rfl) Try.func11 (by kernel_rfl)
    (of_decide_eq_true (by kernel_rfl)) (by unfold Func.isWrapper; first | (rw [if_pos (by decide +kernel)]; kernel_rfl) | (rw [if_neg (by decide +kernel)]; exact ⟨rfl, rfl⟩))
    (fun os started H enc _ => lifted os started H enc)

theorem proved : Rows.ShakeBreaksSaid := over
#print axioms proved
end Go.Proofs.Ytobldgdfejpckaa.shakeBreaks
