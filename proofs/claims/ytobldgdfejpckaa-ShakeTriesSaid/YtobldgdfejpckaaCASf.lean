/-
  shake: Hear.
-/
import Derived.Test.YtobldgdfejpckaaCASe
set_option linter.all false
set_option linter.unusedVariables false
set_option maxRecDepth 100000
namespace Go.Vc.SA
open Go.Proofs Go.Vc.Sha

def hear (x : Pt) (tag : Int) (C : CK) (now : Int) : Pt × Option (Int × CK) :=
  if C.kind = 1 ∧ tag = 0 then (x, asked x C now)
  else if C.kind = 6 ∧ live x ∧ (tag = x.e.Tag ∨ (C.bare = true ∧ tag = x.met.Tag ∧ tag ≠ 0)) then (tos x 9, none)
  else if tag ≠ x.e.Tag then (x, none)
  else if C.kind = 2 then granted x C
  else if C.kind = 10 then echoed x C now
  else if C.kind = 11 then (if x.s = 2 then (tos x 3, none) else (x, none))
  else if C.kind = 7 then (if x.s = 3 ∨ x.s = 4 then (tos x 6, none) else if x.s = 5 then (tos x 7, some (x.met.Tag, { kind := 8 })) else (x, none))
  else if C.kind = 8 then (if x.s = 5 ∨ x.s = 7 then (tos x 8, some (x.met.Tag, { kind := 14 })) else if x.s = 8 then (x, some (x.met.Tag, { kind := 14 })) else (x, none))
  else if C.kind = 14 then (if x.s = 7 then (tos x 8, none) else (x, none))
  else (x, none)

section
variable {p : Nat} {x : Pt} {w : World} {H : List HA}
set_option maxHeartbeats 4000000 in
/-- Hear -/
theorem c30 {tag : Int} {C : CK} {ps body : SlV} {pv : List ParamV} {now : Int} {K : SlV → World → Prop} (h : St w (PtA p x :: H)) (hc : ∀ w', St w' H → Ch w' C ps body pv) (hl : ∀ y ∈ C.ps, y.2.length ≤ 1048576) (hB : BL C.body) (hk : x.e.Key.size ≤ 1000)
    (k : ∀ r w', St w' (OutA r (hear x tag C now).2 :: PtA p (hear x tag C now).1 :: H) → K r w') : callP P 30 #[.pointer (some ⟨p, 0, none⟩), .int .u32 tag, ChunkV.val (mkC C ps body), .int .u64 now] w SlV.val K := sf30_call _ _ _ _ _ _ (by
  obtain ⟨q, h⟩ := PtA.un h
  unfold hear at k
  refine h.nw fun b1 w1 h => ?_
  refine cut_i (fun r w' => r = decide (C.kind = 1 ∧ tag = 0) ∧ w' = w1) ?_ ?_
  · refine h.lda (b := b1) (x := C.kind) rfl (cond_i (fun e => ?_) (fun e => ?_))
    · have e : C.kind = 1 := by simpa using e
      exact ⟨by by_cases h0 : tag = 0 <;> simp [e, h0], rfl⟩
    · have e : ¬ C.kind = 1 := by simpa using e
      exact ⟨by simp [e], rfl⟩
  rintro g _ w2 ⟨rfl, rfl⟩
  refine cond_i (fun e => ?_) (fun e => ?_)
  · rw [if_pos (of_decide_eq_true e)] at k
    refine ldCh (b := b1) (v := mkC C ps body) h ?_
    exact c62 (p := p) (x := x) (PtA.mk (h.drop)) hc hl hk k
  rw [if_neg (of_decide_eq_false e)] at k
  clear e
  refine cut_i (fun r w' => r = decide (C.kind = 6 ∧ live x ∧ (tag = x.e.Tag ∨ (C.bare = true ∧ tag = x.met.Tag ∧ tag ≠ 0))) ∧ w' = w2) ?_ ?_
  · refine h.lda (b := b1) (x := C.kind) rfl (cond_i (fun e => ?_) (fun e => ?_))
    · have e : C.kind = 6 := by simpa using e
      refine c63 (p := p) h (cond_i (fun e2 => ?_) (fun e2 => ?_))
      · have e2 : live x := of_decide_eq_true e2
        refine h.ldaa (b := p) (x := x.e.Tag) rfl (cond_i (fun e3 => ?_) (fun e3 => ?_))
        · have e3 : tag = x.e.Tag := by simpa using e3
          exact ⟨by simp [e, e2, e3], rfl⟩
        have e3 : ¬ tag = x.e.Tag := by simpa using e3
        refine h.lda (b := b1) (x := C.bare) rfl (cond_i (fun e4 => ?_) (fun e4 => ?_))
        · refine h.ldaa (b := p) (x := x.met.Tag) rfl (cond_i (fun e5 => ?_) (fun e5 => ?_))
          · have e5 : tag = x.met.Tag := by simpa using e5
            refine ⟨?_, rfl⟩
            by_cases h0 : tag = 0
            · rw [decide_eq_false (fun hh => hh.2.2.elim e3 fun h => h.2.2 h0)]; simp [h0]
            · rw [decide_eq_true ⟨e, e2, .inr ⟨e4, e5, h0⟩⟩]; simp [h0]
          · have e5 : ¬ tag = x.met.Tag := by simpa using e5
            exact ⟨by rw [decide_eq_false (fun hh => hh.2.2.elim e3 fun h => e5 h.2.1)], rfl⟩
        · exact ⟨by rw [decide_eq_false (fun hh => hh.2.2.elim e3 fun h => by rw [h.1] at e4; cases e4)], rfl⟩
      · have e2 : ¬ live x := of_decide_eq_false e2
        exact ⟨by rw [decide_eq_false (fun hh => e2 hh.2.1)], rfl⟩
    · have e : ¬ C.kind = 6 := by simpa using e
      exact ⟨by rw [decide_eq_false (fun hh => e hh.1)], rfl⟩
  rintro g _ w4 ⟨rfl, rfl⟩
  refine cond_i (fun e => ?_) (fun e => ?_)
  · rw [if_pos (of_decide_eq_true e)] at k
    exact c60 (s := 9) h fun w6 h => k _ _ (OutA.none (PtA.mk (x := tos x 9) (h.g1.drop)))
  rw [if_neg (of_decide_eq_false e)] at k
  clear e
  refine h.ldaa (b := p) (x := x.e.Tag) rfl (cond_i (fun e => ?_) (fun e => ?_))
  · rw [if_pos (by simpa using e)] at k
    exact k _ _ (OutA.none (PtA.mk h.drop))
  rw [if_neg (by simpa using e)] at k
  refine h.lda (b := b1) (x := C.kind) rfl (cond_i (fun e => ?_) (fun e => ?_))
  · rw [if_pos (by simpa using e)] at k
    exact ldCh (b := b1) (v := mkC C ps body) h (c64 (p := p) (x := x) (PtA.mk h.drop) hc hl k)
  rw [if_neg (by simpa using e)] at k
  refine cond_i (fun e => ?_) (fun e => ?_)
  · rw [if_pos (by simpa using e)] at k
    exact ldCh (b := b1) (v := mkC C ps body) h (c65 (p := p) (x := x) (PtA.mk h.drop) hc hB hk k)
  rw [if_neg (by simpa using e)] at k
  have h := h.drop
  refine cond_i (fun e => ?_) (fun e => ?_)
  · rw [if_pos (by simpa using e)] at k
    refine h.lda (b := p) (x := x.s) rfl (cond_i (fun e => ?_) (fun e => ?_))
    · rw [if_pos (by simpa using e)] at k
      exact c60 (s := 3) h fun w6 h => k _ _ (OutA.none (PtA.mk (x := tos x 3) h))
    · rw [if_neg (by simpa using e)] at k
      exact k _ _ (OutA.none (PtA.mk h))
  rw [if_neg (by simpa using e)] at k
  refine cond_i (fun e => ?_) (fun e => ?_)
  · rw [if_pos (by simpa using e)] at k
    refine h.lda (b := p) (x := x.s) rfl ?_
    refine cut_i (fun r w' => r = decide (x.s = 3 ∨ x.s = 4) ∧ w' = w4) ?_ ?_
    · refine cond_i (fun e => ?_) (fun e => ?_)
      · have e : x.s = 3 := by simpa using e
        exact ⟨by simp [e], rfl⟩
      · have e : ¬ x.s = 3 := by simpa using e
        exact ⟨by by_cases h4 : x.s = 4 <;> simp [e, h4], rfl⟩
    rintro g _ w5 ⟨rfl, rfl⟩
    refine cond_i (fun e => ?_) (fun e => ?_)
    · rw [if_pos (of_decide_eq_true e)] at k
      exact c60 (s := 6) h fun w6 h => k _ _ (OutA.none (PtA.mk (x := tos x 6) h))
    rw [if_neg (of_decide_eq_false e)] at k
    refine cond_i (fun e => ?_) (fun e => ?_)
    · rw [if_pos (by simpa using e)] at k
      refine c60 (s := 7) h fun w6 h => ?_
      exact note0 (p := p) (x := tos x 7) (kind := 8) (tsn := 0) h fun r w' h => k _ _ (PtA.mk1 (x := tos x 7) h)
    rw [if_neg (by simpa using e)] at k
    exact k _ _ (OutA.none (PtA.mk h))
  rw [if_neg (by simpa using e)] at k
  refine cond_i (fun e => ?_) (fun e => ?_)
  · rw [if_pos (by simpa using e)] at k
    refine h.lda (b := p) (x := x.s) rfl (cond_i (fun e => ?_) (fun e => ?_))
    · have e : x.s = 5 := by simpa using e
      rw [if_pos (.inl e)] at k
      refine cond_t (by simp [e]) ?_
      refine c60 (s := 8) h fun w6 h => ?_
      exact note0 (p := p) (x := tos x 8) (kind := 14) (tsn := 0) h fun r w' h => k _ _ (PtA.mk1 (x := tos x 8) h)
    have e5 : ¬ x.s = 5 := by simpa using e
    refine cond_i (fun e => ?_) (fun e => ?_)
    · have e : x.s = 7 := by simpa using e
      rw [if_pos (.inr e)] at k
      refine c60 (s := 8) h fun w6 h => ?_
      exact note0 (p := p) (x := tos x 8) (kind := 14) (tsn := 0) h fun r w' h => k _ _ (PtA.mk1 (x := tos x 8) h)
    have e7 : ¬ x.s = 7 := by simpa using e
    rw [if_neg (fun h => h.elim e5 e7)] at k
    refine cond_i (fun e => ?_) (fun e => ?_)
    · rw [if_pos (by simpa using e)] at k
      exact note0 (p := p) (x := x) (kind := 14) (tsn := 0) h fun r w' h => k _ _ (PtA.mk1 (x := x) h)
    rw [if_neg (by simpa using e)] at k
    exact k _ _ (OutA.none (PtA.mk h))
  rw [if_neg (by simpa using e)] at k
  refine cond_i (fun e => ?_) (fun e => ?_)
  · rw [if_pos (by simpa using e)] at k
    refine h.lda (b := p) (x := x.s) rfl (cond_i (fun e => ?_) (fun e => ?_))
    · rw [if_pos (by simpa using e)] at k
      exact c60 (s := 8) h fun w6 h => k _ _ (OutA.none (PtA.mk (x := tos x 8) h))
    · rw [if_neg (by simpa using e)] at k
      exact k _ _ (OutA.none (PtA.mk h))
  rw [if_neg (by simpa using e)] at k
  exact k _ _ (OutA.none (PtA.mk h)))
end
end Go.Vc.SA
