/-
  Ends and notes that come in.
-/
import Derived.Test.YtobldgdfejpckaaCASi
import Derived.Test.YtobldgdfejpckaaVcJoin3
set_option linter.all false
set_option linter.unusedVariables false
set_option maxRecDepth 100000
namespace Go.Vc.SA
open Go.Proofs Go.Vc.Sha Go.ChangeShapes Go.WideShapes Go.ChangeAt Go.RowKit

def AnyN (c : NoteV) : Prop := True
abbrev endK : List LK := [.int .u32, .int .u32, .int .u32, .bool, .str]
abbrev chK : List LK := [.int .u8, .bool, .bool, .bool, .bool, .int .u32, .int .u16, .int .u32, .int .u32, .int .u32, .int .u32, .int .u32, .int .u16, .int .u16, .sl, .sl, .sl, .sl, .sl]
theorem endF : ∃ fs, P.underlying 50 = some (.struct fs) ∧ leaves P fs endK = true ∧ P.cellsOf 50 = 5 := by
  have h : (match P.underlying 50 with | some (.struct fs) => leaves P fs endK && (P.cellsOf 50 == 5) | _ => false) = true := by kernel_rfl
  split at h
  · rename_i fs e
    simp only [Bool.and_eq_true, beq_iff_eq] at h
    exact ⟨fs, e, h.1, h.2⟩
  · cases h
theorem chF : ∃ fs, P.underlying 57 = some (.struct fs) ∧ leaves P fs chK = true ∧ P.cellsOf 57 = 19 := by
  have h : (match P.underlying 57 with | some (.struct fs) => leaves P fs chK && (P.cellsOf 57 == 19) | _ => false) = true := by kernel_rfl
  split at h
  · rename_i fs e
    simp only [Bool.and_eq_true, beq_iff_eq] at h
    exact ⟨fs, e, h.1, h.2⟩
  · cases h
theorem noteF : ∃ fs, P.underlying 59 = some (.struct fs) ∧ (∃ f0 f1, fs[0]? = some f0 ∧ fs[1]? = some f1 ∧ f0.offset = 0 ∧ f1.offset = 1 ∧ P.cellsOf f0.type = 1 ∧ f1.type = 57 ∧ leafK P f0.type = some (.int .u32)) ∧ fs.size = 2 ∧ P.cellsOf 59 = 20 := by
  have h : (match P.underlying 59 with | some (.struct fs) => (match fs[0]?, fs[1]? with | some f0, some f1 => (f0.offset == 0) && (f1.offset == 1) && (P.cellsOf f0.type == 1) && (f1.type == 57) && decide (leafK P f0.type = some (.int .u32)) | _, _ => false) && (fs.size == 2) && (P.cellsOf 59 == 20) | _ => false) = true := by kernel_rfl
  split at h
  · rename_i fs e
    simp only [Bool.and_eq_true, beq_iff_eq] at h
    obtain ⟨⟨h1, h2⟩, h3⟩ := h
    split at h1
    · rename_i f0 f1 e0 e1
      simp only [Bool.and_eq_true, beq_iff_eq, decide_eq_true_eq] at h1
      exact ⟨fs, e, ⟨f0, f1, e0, e1, h1.1.1.1.1, h1.1.1.1.2, h1.1.1.2, h1.1.2, h1.2⟩, h2, h3⟩
    · cases h1
  · cases h

section
variable {H : Type} {enc : TypeId × Value → H} {W : World} {r : Reach} {b0 : Nat} {v : Value} {d : DataW H} {ps : List MemPlace}
theorem openEnd (hval : Value.okWide P W r b0 50 v) (hd : DataW.Trod enc P W 0 (fun _ => true) true 50 v d ps) : ∃ e : EndV, v = EndV.val e ∧ EW e := by
  obtain ⟨fs, h1, h2, h3⟩ := endF
  obtain ⟨cs, rfl, hcs⟩ := okWide_struct h1 hval
  obtain ⟨fuel, hy⟩ := hd
  have hcl : (Value.agg cs).cells.toList = cs.toList := rfl
  rw [hcl] at hy
  obtain ⟨hlen, hall⟩ := trodLeaves h1 h2 hy
  rw [h3] at hlen
  obtain ⟨l⟩ := cs
  match l, hlen, hall with
  | [v0, v1, v2, v3, v4], _, hall =>
    obtain ⟨_, e0, x0, rfl, w0⟩ := hall 0 (.int .u32) (by simp) rfl
    obtain ⟨_, e1, x1, rfl, w1⟩ := hall 1 (.int .u32) (by simp) rfl
    obtain ⟨_, e2, x2, rfl, w2⟩ := hall 2 (.int .u32) (by simp) rfl
    obtain ⟨_, e3, x3, rfl⟩ := hall 3 .bool (by simp) rfl
    obtain ⟨_, e4, x4, rfl, _⟩ := hall 4 .str (by simp) rfl
    simp only [List.getElem?_cons_zero, List.getElem?_cons_succ, Option.some.injEq] at e0 e1 e2 e3 e4
    subst e0 e1 e2 e3 e4
    exact ⟨⟨x0, x1, x2, x3, x4⟩, rfl, ⟨W32_wf w0, W32_wf w1, W32_wf w2⟩⟩
theorem openNote (hval : Value.okWide P W r b0 59 v) (hd : DataW.Trod enc P W 0 (fun _ => true) true 59 v d ps) : ∃ e : NoteV, v = NoteV.val e ∧ AnyN e := by
  obtain ⟨fs, h1, ⟨f0, f1, g0, g1, o0, o1, c0, t1, k0⟩, hsz, h3⟩ := noteF
  obtain ⟨cfs, q1, q2, q3⟩ := chF
  obtain ⟨cs, rfl, hcs⟩ := okWide_struct h1 hval
  obtain ⟨fuel, hy⟩ := hd
  have hcl : (Value.agg cs).cells.toList = cs.toList := rfl
  rw [hcl] at hy
  obtain ⟨ys, n, _, _, hlen, hyl, hall⟩ := DataW.trod_struct h1 hy
  rw [h3] at hlen
  have a0 := hall 0 f0 g0
  have a1 := hall 1 f1 g1
  rw [o0, c0, List.getElem?_eq_getElem (by omega)] at a0
  rw [o1, t1, q3, List.getElem?_eq_getElem (by omega)] at a1
  obtain ⟨u0, e0, x0, rfl, w0⟩ := leafK_ok k0 a0
  obtain ⟨_, hch⟩ := trodLeaves q1 q2 a1
  obtain ⟨l⟩ := cs
  match l, hlen, e0, hch with
  | [v, v0, v1, v2, v3, v4, v5, v6, v7, v8, v9, v10, v11, v12, v13, v14, v15, v16, v17, v18], _, e0, hch =>
    simp only [List.drop, List.take, List.cons.injEq, and_true] at e0 hch
    obtain ⟨_, e1, y0, rfl, _⟩ := hch 0 (.int .u8) (by simp) rfl
    obtain ⟨_, e2, y1, rfl⟩ := hch 1 .bool (by simp) rfl
    obtain ⟨_, e3, y2, rfl⟩ := hch 2 .bool (by simp) rfl
    obtain ⟨_, e4, y3, rfl⟩ := hch 3 .bool (by simp) rfl
    obtain ⟨_, e5, y4, rfl⟩ := hch 4 .bool (by simp) rfl
    obtain ⟨_, e6, y5, rfl, _⟩ := hch 5 (.int .u32) (by simp) rfl
    obtain ⟨_, e7, y6, rfl, _⟩ := hch 6 (.int .u16) (by simp) rfl
    obtain ⟨_, e8, y7, rfl, _⟩ := hch 7 (.int .u32) (by simp) rfl
    obtain ⟨_, e9, y8, rfl, _⟩ := hch 8 (.int .u32) (by simp) rfl
    obtain ⟨_, e10, y9, rfl, _⟩ := hch 9 (.int .u32) (by simp) rfl
    obtain ⟨_, e11, y10, rfl, _⟩ := hch 10 (.int .u32) (by simp) rfl
    obtain ⟨_, e12, y11, rfl, _⟩ := hch 11 (.int .u32) (by simp) rfl
    obtain ⟨_, e13, y12, rfl, _⟩ := hch 12 (.int .u16) (by simp) rfl
    obtain ⟨_, e14, y13, rfl, _⟩ := hch 13 (.int .u16) (by simp) rfl
    obtain ⟨_, e15, y14, rfl⟩ := hch 14 .sl (by simp) rfl
    obtain ⟨_, e16, y15, rfl⟩ := hch 15 .sl (by simp) rfl
    obtain ⟨_, e17, y16, rfl⟩ := hch 16 .sl (by simp) rfl
    obtain ⟨_, e18, y17, rfl⟩ := hch 17 .sl (by simp) rfl
    obtain ⟨_, e19, y18, rfl⟩ := hch 18 .sl (by simp) rfl
    simp only [List.getElem?_cons_zero, List.getElem?_cons_succ, Option.some.injEq] at e1 e2 e3 e4 e5 e6 e7 e8 e9 e10 e11 e12 e13 e14 e15 e16 e17 e18 e19
    subst e0 e1 e2 e3 e4 e5 e6 e7 e8 e9 e10 e11 e12 e13 e14 e15 e16 e17 e18 e19
    exact ⟨⟨x0, ⟨y0, y1, y2, y3, y4, y5, y6, y7, y8, y9, y10, y11, y12, y13, y14, y15, y16, y17, y18⟩⟩, rfl, trivial⟩
end
theorem c11j {a b : EndV} {c : NoteV} {w : World} {K : Bool → World → Prop} (ha : EW a) (hb : EW b) (hc : AnyN c) (k : ∀ w', St w' [.old w] → K true w') :
    callP P 11 #[EndV.val a, EndV.val b, NoteV.val c] w Value.bool K := c11 ha hb k
end Go.Vc.SA
