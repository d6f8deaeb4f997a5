/-
  The law ResetLater holds: for every input the call returns true, and leaves what it was given as it was. No condition.
-/
import Derived.Test.YtbcmfajacbpaiaaC18d
import Derived.Test.YtbcmfajacbpaiaaRows
import Derived.WalkKit
import Derived.ProofKit
import Derived.OpenShut
import Derived.Below
set_option linter.all false
set_option linter.unusedVariables false
set_option maxRecDepth 100000
namespace Go.Vc
theorem callP.calls {α : Type} {P : Program} {f : FuncId} {args : Array Value} {w : World} {val : α → Value} {K : α → World → Prop} (hb : bodyOk P f = true) (h : callP P f args w val K) :
    Calls P f args w fun e w' => ∃ x, e = .returned (val x) ∧ K x w' := by
  rcases h.ex with ⟨_, h⟩ | ⟨x, w', hr, _⟩
  · refine h.mono fun e w' he => ?_
    cases e <;> first | exact he.elim | skip
    obtain ⟨x, rfl, hk⟩ := he
    exact ⟨x, rfl, hk⟩
  · exfalso
    unfold bodyOk at hb
    split at hb
    · rename_i fn hf
      simp only [Bool.and_eq_true, bne_iff_ne, ne_eq] at hb
      unfold callFunc at hr
      have hi : ¬ fn.body = none := fun e => by simp [e] at hb
      simp [Sem.run_bind, hf, hb.2, hi] at hr
    · cases hb
theorem St.below {w w' : World} {H : List HA} (h : St w' (.old w :: H)) : RowKit.Below w.heap.size w w' :=
  ⟨h.oldSame.os, h.oldSame.tape, h.oldSame.output, h.oldSize, fun _ hk => h.old hk⟩
end Go.Vc
namespace Go.Proofs.Ytbcmfajacbpaiaa.resetLater
open Go.ChangeShapes Go.WideShapes Go.ChangeAt Go.RowKit Go.Vc

theorem own : ownKnob Try.prog.godebug = none := by kernel_rfl

theorem walk (a0 : Int) (a1 : Int) (a2 : Int) (w0 : (Lit.int .u32 a0).wf = true) (w1 : (Lit.int .u32 a1).wf = true) (w2 : (Lit.int .u32 a2).wf = true) (w : World) :
    Calls Try.prog 10 #[.int .u32 a0, .int .u32 a1, .int .u32 a2] w fun e w' => e = .returned (.bool true) ∧ Below w.heap.size w w' := by
  have r : ∀ a : Int, (Lit.int .u32 a).wf = true → 0 ≤ a ∧ a < 4294967296 := fun a h => by
    simp [Lit.wf, IntKind.min, IntKind.max, IntKind.bits, IntKind.signed] at h
    omega
  refine ((SB.c10 (w := w) (K := fun b w' => b = true ∧ Below w.heap.size w w') (St.start w) (r _ w0) (r _ w2) fun w' h => ⟨rfl, St.below h⟩).calls (by kernel_rfl)).mono fun e w' ⟨x, he, hx, hb⟩ => ?_
  subst hx
  exact ⟨he, hb⟩

theorem lifted (os : Os) (started : os.Started) (H : Type) (enc : TypeId × Value → H) :
    ReturnsInHanded {} Try.checked os 10 .any (Rows.resetLaterSpec.pre6 enc Try.prog Try.f10 Rows.resetLaterRow.domain false) (Rows.resetLaterSpec.post enc Try.prog Try.f10 false true false false) := by
  refine returnsInHanded_of_change (C := Try.checked) own started (by kernel_rfl) Try.func10
    (ChangeSpec.witness6 (enc := enc) (C := Try.checked) false ⟨#[], #[.int .u32 0, .int .u32 0, .int .u32 0], []⟩ 8 (by kernel_rfl) (by kernel_rfl) (by kernel_rfl) (by kernel_rfl)) ?_
  intro W base args ds gs before hval0 hW hcnd _
  have hval : ∀ (j : Nat) t v, Try.f10.params[j]? = some t → args[j]? = some v → Value.okWide Try.prog W .any base t v := hval0
  have hW' := hW
  obtain ⟨p, q, hA0, hV, rfl, hfz, hnd⟩ := hW
  have hA : DataW.TrodAll enc Try.prog W 0 (fun _ => true) true Try.f10.params.toList args.toList ds p := hA0
  rw [Try.params10] at hA hval
  obtain ⟨v0, vs0, d0, ds0, p0, q0, hargs, rfl, rfl, h0, r0⟩ := trodAll_cons hA
  obtain ⟨v1, vs1, d1, ds1, p1, q1, rfl, rfl, rfl, h1, r1⟩ := trodAll_cons r0
  obtain ⟨v2, vs2, d2, ds2, p2, q2, rfl, rfl, rfl, h2, r2⟩ := trodAll_cons r1
  obtain ⟨rfl, rfl, rfl⟩ := trodAll_nil r2
  obtain rfl : args = #[v0, v1, v2] := by cases args; simp_all
  obtain ⟨rfl, rfl⟩ := trodVars_none hV
  obtain ⟨a0, rfl, rfl, rfl, w0⟩ := open_int Try.underlying35 (hval 0 35 v0 rfl rfl) h0
  obtain ⟨a1, rfl, rfl, rfl, w1⟩ := open_int Try.underlying35 (hval 1 35 v1 rfl rfl) h1
  obtain ⟨a2, rfl, rfl, rfl, w2⟩ := open_int Try.underlying35 (hval 2 35 v2 rfl rfl) h2
  clear hA0 hval0
  simp only [List.append_nil] at hW'
  refine (walk a0 a1 a2 w0 w1 w2 W).mono fun e W' ⟨he, hg⟩ => ?_
  subst he
  exact ⟨_, rfl, ⟨_, _, _, [], [], [], hW', trodAll_cons_mk (shut_bool Try.underlying4 _) trodAll_mk0,
    (trodAll_cons_mk (shut_int Try.underlying35 w0) (trodAll_cons_mk (shut_int Try.underlying35 w1) (trodAll_cons_mk (shut_int Try.underlying35 w2) trodAll_mk0))), rfl, hg.frame _, fun h => by cases h⟩⟩

theorem over : Rows.resetLaterRow.holds Try.pinned (OpenSpec.ofChange Rows.resetLaterSpec) :=
  OpenClaim.holds_of_wide 10 Try.f10 rfl rfl rfl rfl rfl rfl rfl ⟨rfl, rfl, rfl, rfl, rfl⟩ rfl rfl rfl rfl rfl (by kernel_rfl) Try.func10 (by kernel_rfl)
    (of_decide_eq_true (by kernel_rfl)) (by unfold Func.isWrapper; first | (rw [if_pos (by decide +kernel)]; kernel_rfl) | (rw [if_neg (by decide +kernel)]; exact ⟨rfl, rfl⟩))
    (fun os started H enc _ => lifted os started H enc)

theorem proved : Rows.ResetLaterSaid := over
#print axioms proved
end Go.Proofs.Ytbcmfajacbpaiaa.resetLater
