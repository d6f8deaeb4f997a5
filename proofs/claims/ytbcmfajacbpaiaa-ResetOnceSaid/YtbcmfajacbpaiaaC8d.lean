/-
  ResetOnce holds.
-/
import Derived.Test.YtbcmfajacbpaiaaC8c
import Derived.Test.YtbcmfajacbpaiaaVcJoin
import Derived.Test.YtbcmfajacbpaiaaRows
set_option linter.all false
set_option linter.unusedVariables false
set_option maxRecDepth 100000
namespace Go.Proofs.Ytbcmfajacbpaiaa.resetOnce
open Go.ChangeShapes Go.WideShapes Go.ChangeAt Go.RowKit Go.Vc

theorem own : ownKnob Try.prog.godebug = none := by kernel_rfl

theorem walk (a0 a1 : Int) (s : SlV) (xs : List Int) (w0 : (Lit.int .u32 a0).wf = true) (w1 : (Lit.int .u32 a1).wf = true) (w : World) (hs : Sl w 1 (Value.int .i64) s xs) :
    Calls Try.prog 8 #[.int .u32 a0, .int .u32 a1, s.val] w fun e w' => e = .returned (.bool true) ∧ Below w.heap.size w w' := by
  have r : ∀ a : Int, (Lit.int .u32 a).wf = true → 0 ≤ a ∧ a < 4294967296 := fun a h => by
    simp [Lit.wf, IntKind.min, IntKind.max, IntKind.bits, IntKind.signed] at h
    omega
  refine ((SB.c8 (w := w) (K := fun b w' => b = true ∧ Below w.heap.size w w') (St.start w) (fun w' h => hs.old h) (r _ w0) (r _ w1) fun w' h => ⟨rfl, St.below h⟩).calls (by kernel_rfl)).mono fun e w' ⟨x, he, hx, hb⟩ => ?_
  subst hx
  exact ⟨he, hb⟩

theorem lifted (os : Os) (started : os.Started) (H : Type) (enc : TypeId × Value → H) :
    ReturnsInHanded {} Try.checked os 8 .any (Rows.resetOnceSpec.pre6 enc Try.prog Try.f8 Rows.resetOnceRow.domain false) (Rows.resetOnceSpec.post enc Try.prog Try.f8 false true false false) := by
  refine returnsInHanded_of_change (C := Try.checked) own started (by kernel_rfl) Try.func8
    (ChangeSpec.witness6 (enc := enc) (C := Try.checked) false ⟨#[], #[.int .u32 0, .int .u32 0, .slice none 0 0], []⟩ 8 (by kernel_rfl) (by kernel_rfl) (by kernel_rfl) (by kernel_rfl)) ?_
  intro W base args ds gs before hval0 hW hcnd _
  have hval : ∀ (j : Nat) t v, Try.f8.params[j]? = some t → args[j]? = some v → Value.okWide Try.prog W .any base t v := hval0
  have hW' : DataW.Whole enc Try.prog Try.f8.params.toList Rows.resetOnceSpec.vars false W args.toList ds gs before := hW
  obtain ⟨p, q, hA0, hV, rfl, hfz, hnd⟩ := hW
  have hA : DataW.TrodAll enc Try.prog W 0 (fun _ => true) true Try.f8.params.toList args.toList ds p := hA0
  rw [Try.params8] at hA hval
  obtain ⟨v0, vs0, d0, ds0, p0, q0, hargs, rfl, rfl, h0, r0⟩ := trodAll_cons hA
  obtain ⟨v1, vs1, d1, ds1, p1, q1, rfl, rfl, rfl, h1, r1⟩ := trodAll_cons r0
  obtain ⟨v2, vs2, d2, ds2, p2, q2, rfl, rfl, rfl, h2, r2⟩ := trodAll_cons r1
  obtain ⟨rfl, rfl, rfl⟩ := trodAll_nil r2
  obtain rfl : args = #[v0, v1, v2] := by cases args; simp_all
  obtain ⟨rfl, rfl⟩ := trodVars_none hV
  obtain ⟨a0, rfl, rfl, rfl, w0⟩ := open_int Try.underlying35 (hval 0 35 v0 rfl rfl) h0
  obtain ⟨a1, rfl, rfl, rfl, w1⟩ := open_int Try.underlying35 (hval 1 35 v1 rfl rfl) h1
  obtain ⟨s, xs, rfl, hs, _⟩ := openSl Try.underlying23 (by kernel_rfl) (by kernel_rfl) (hval 2 _ v2 rfl rfl) h2
  refine (walk a0 a1 s xs w0 w1 W hs).mono fun e W' ⟨he, hg⟩ => ?_
  subst he
  exact ⟨_, rfl, lawPost (by kernel_rfl) (by kernel_rfl) rfl (by kernel_rfl) Try.underlying4 hW' rfl hg⟩

theorem over : Rows.resetOnceRow.holds Try.pinned (OpenSpec.ofChange Rows.resetOnceSpec) :=
  OpenClaim.holds_of_wide 8 Try.f8 rfl rfl rfl rfl rfl rfl rfl ⟨rfl, rfl, rfl, rfl, rfl⟩ rfl rfl rfl rfl rfl (by kernel_rfl) Try.func8 (by kernel_rfl)
    (of_decide_eq_true (by kernel_rfl)) (by unfold Func.isWrapper; first | (rw [if_pos (by decide +kernel)]; kernel_rfl) | (rw [if_neg (by decide +kernel)]; exact ⟨rfl, rfl⟩))
    (fun os started H enc _ => lifted os started H enc)

theorem proved : Rows.ResetOnceSaid := over
#print axioms proved
end Go.Proofs.Ytbcmfajacbpaiaa.resetOnce
