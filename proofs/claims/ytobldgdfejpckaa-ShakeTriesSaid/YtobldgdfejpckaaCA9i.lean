/-
  A cookie that comes in.
-/
import Derived.Test.YtobldgdfejpckaaCA9g
import Derived.Test.YtobldgdfejpckaaVcJoin2
set_option linter.all false
set_option linter.unusedVariables false
set_option maxRecDepth 100000
namespace Go.Vc.SA
open Go.Proofs Go.Vc.Sha Go.ChangeShapes Go.WideShapes Go.ChangeAt Go.RowKit

theorem ckKinds : ∃ fs, P.underlying 36 = some (.struct fs) ∧ intFields P fs [.u32, .u32, .u32, .u32, .u32, .u16, .u16, .u8, .u32, .u32, .u32] = true ∧ P.cellsOf 36 = 11 := by
  have h : (match P.underlying 36 with | some (.struct fs) => intFields P fs [.u32, .u32, .u32, .u32, .u32, .u16, .u16, .u8, .u32, .u32, .u32] && (P.cellsOf 36 == 11) | _ => false) = true := by kernel_rfl
  split at h
  · rename_i fs e
    simp only [Bool.and_eq_true, beq_iff_eq] at h
    exact ⟨fs, e, h.1, h.2⟩
  · cases h
theorem W32_wf {x : Int} (h : (Lit.int .u32 x).wf = true) : W32 x := by
  simp [Lit.wf, IntKind.signed, IntKind.min, IntKind.max, IntKind.bits] at h
  unfold W32
  omega
theorem W16_wf {x : Int} (h : (Lit.int .u16 x).wf = true) : 0 ≤ x ∧ x < 65536 := by
  simp [Lit.wf, IntKind.signed, IntKind.min, IntKind.max, IntKind.bits] at h
  omega
theorem B8_wf {x : Int} (h : (Lit.int .u8 x).wf = true) : B8 x := by
  simp [Lit.wf, IntKind.signed, IntKind.min, IntKind.max, IntKind.bits] at h
  unfold B8
  omega
theorem openCookie {H : Type} {enc : TypeId × Value → H} {W : World} {r : Reach} {b0 : Nat} {v : Value} {d : DataW H} {ps : List MemPlace}
    (hval : Value.okWide P W r b0 36 v) (hd : DataW.Trod enc P W 0 (fun _ => true) true 36 v d ps) : ∃ c : CookieV, v = CookieV.val c ∧ CW c := by
  obtain ⟨fs, h1, h2, h3⟩ := ckKinds
  obtain ⟨xs, rfl, hl, hw⟩ := openInts h1 h2 h3 hval hd
  match xs, hl, hw with
  | [x0, x1, x2, x3, x4, x5, x6, x7, x8, x9, x10], _, hw =>
    exact ⟨⟨x0, x1, x2, x3, x4, x5, x6, x7, x8, x9, x10⟩, rfl, ⟨W32_wf (hw 0 _ _ rfl rfl), W32_wf (hw 1 _ _ rfl rfl), W32_wf (hw 2 _ _ rfl rfl), W32_wf (hw 3 _ _ rfl rfl), W32_wf (hw 4 _ _ rfl rfl), W16_wf (hw 5 _ _ rfl rfl), W16_wf (hw 6 _ _ rfl rfl), B8_wf (hw 7 _ _ rfl rfl), W32_wf (hw 8 _ _ rfl rfl), W32_wf (hw 9 _ _ rfl rfl), W32_wf (hw 10 _ _ rfl rfl)⟩⟩

theorem c7j {key : SlV} {c : CookieV} {later : Int} {kk : List Int} {w : World} {K : Bool → World → Prop} (hk : Sl w 1 (Value.int .u8) key kk) (hkw : ∀ x ∈ kk, (Lit.int .u8 x).wf = true) (hc : CW c) (hl : (Lit.int .u32 later).wf = true) (k : ∀ w', St w' [.old w] → K true w') :
    callP P 7 #[key.val, CookieV.val c, .int .u32 later] w Value.bool K := c7 hk (BL_wf hkw) hc (W32_wf hl) k
theorem c8j {key b : SlV} {now : Int} {kk bb : List Int} {w : World} {K : Bool → World → Prop} (hk : Sl w 1 (Value.int .u8) key kk) (hkw : ∀ x ∈ kk, (Lit.int .u8 x).wf = true) (hb : Sl w 1 (Value.int .u8) b bb) (hbw : ∀ x ∈ bb, (Lit.int .u8 x).wf = true) (hl : (Lit.int .u32 now).wf = true) (k : ∀ w', St w' [.old w] → K true w') :
    callP P 8 #[key.val, b.val, .int .u32 now] w Value.bool K := c8 hk (BL_wf hkw) hb (BL_wf hbw) (W32_wf hl) k
theorem c10j {c : CookieV} {now : Int} {w : World} {K : Bool → World → Prop} (hc : CW c) (hl : (Lit.int .u32 now).wf = true) (k : ∀ w', St w' [.old w] → K true w') :
    callP P 10 #[CookieV.val c, .int .u32 now] w Value.bool K := c10 hc (W32_wf hl) k
end Go.Vc.SA
