/-
  ShakeBreaks: what the calls come to.
-/
import Derived.Test.YtobldgdfejpckaaCASh
set_option linter.all false
set_option linter.unusedVariables false
set_option maxRecDepth 100000
namespace Go.Vc.SA
open Go.Proofs Go.Vc.Sha

theorem noteTag {r : SlV} {t : Int} {C : CK} {w : World} {H : List HA} {K : Addr → Int → Prop} (h : St w (NoteA r t C :: H)) (k : ∀ a, K a t) :
    chkP (inR (0 : Int) r.len) (nilP r.a fun a => loadP w ((a.add (Int.toNat (0 : Int) * 20)).add 0) 1 (Value.int .u32) (K a)) := by
  obtain ⟨⟨ps, body, pv⟩, h⟩ := h.unex
  exact Sl.fld (i := 0) (o := 0) (y := t) (x := ⟨t, mkC C ps body⟩) h.unsep.sl rfl rfl rfl fun a _ => k a
theorem OutA.nil {r : SlV} {w : World} {H : List HA} (h : St w (OutA r Option.none :: H)) : r = SlV.nil ∧ St w H := St.unpure h

set_option maxHeartbeats 2000000 in
/-- ShakeBreaks -/
theorem c11 {a b : EndV} {c : NoteV} {w : World} {K : Bool → World → Prop} (ha : EW a) (hb : EW b) (k : ∀ w', St w' [.old w] → K true w') :
    callP P 11 #[EndV.val a, EndV.val b, NoteV.val c] w Value.bool K := sf11_call _ _ _ _ _ (by
  refine (St.start w).nw fun b1 w1 h => h.nw fun b2 w2 h => h.nw fun b3 w3 h => ?_
  have h := h.drew
  refine h.lda (b := b3) (x := c.Tag) rfl (h.ldaa (b := b3) (x := c.Chunk.Bare) rfl ?_)
  refine c27 h fun w4 h => cond_f rfl ?_
  refine cut_i (fun _ w' => w' = w4 ∧ a.Tag ≠ 0 ∧ b.Tag ≠ 0 ∧ a.Key.size ≤ 100 ∧ b.Key.size ≤ 100) ?_ ?_
  · refine h.lda (b := b1) (x := a.Tag) rfl (cond_i (fun _ => k _ h.re) (fun e => ?_))
    refine h.lda (b := b2) (x := b.Tag) rfl (cond_i (fun _ => k _ h.re) (fun e2 => ?_))
    refine h.lda (b := b1) (x := a.Key) rfl (h.lda (b := b2) (x := b.Key) rfl (cond_i (fun _ => k _ h.re) (fun e3 => ?_)))
    have e3 : ¬ (if (b.Key.size : Int) > (a.Key.size : Int) then (b.Key.size : Int) else (a.Key.size : Int)) > 100 := by simpa using e3
    refine ⟨rfl, by simpa using e, by simpa using e2, ?_, ?_⟩ <;> (split at e3 <;> omega)
  rintro g _ w5 ⟨rfl, ha0, hb0, hka, hkb⟩
  refine h.ldn (b := b1) (x := a) rfl rfl ?_
  refine c28 h ha0 fun p w6 h => ?_
  refine h.ldn (b := b2) (x := b) rfl rfl ?_
  refine c28 h hb0 fun q w7 h => ?_
  refine c29 h.g1 fun r w8 h => ?_
  refine cut_i (fun _ w' => St w' (PtA p (hsX a b 5 4) :: PtA q (hsY a b 5 4) :: cellsA b3 (NoteV.val c).cells.toList 59 :: cellsA b2 (EndV.val b).cells.toList 50 :: cellsA b1 (EndV.val a).cells.toList 50 :: [.old w])) ?_ ?_
  · exact hsLoop (a := a) (b := b) (now := 5) ha hb ha0 hb0 (by omega) (by omega) h fun w' h => h
  rintro g _ w9 h
  refine cut_i (fun _ w' => w' = w9) ?_ ?_
  · exact c31p h (cond_f rfl (c31p h.g1 (cond_f rfl rfl)))
  rintro g _ w14 rfl
  have hx : (hsX a b 5 4).s = 3 := rfl
  have hxt : (hsX a b 5 4).e.Tag = a.Tag := rfl
  have hxm : (hsX a b 5 4).met.Tag = b.Tag := rfl
  have hxk : (hsX a b 5 4).e.Key = a.Key := rfl
  have hy : (hsY a b 5 4).s = 3 := rfl
  have hyt : (hsY a b 5 4).e.Tag = b.Tag := rfl
  have hyk : (hsY a b 5 4).e.Key = b.Key := rfl
  generalize hsX a b 5 4 = X at h hx hxt hxm hxk
  generalize hsY a b 5 4 = Y at h hy hyt hyk
  refine cut_i (fun _ w' => St w' (PtA p X :: PtA q Y :: cellsA b3 (NoteV.val c).cells.toList 59 :: cellsA b2 (EndV.val b).cells.toList 50 :: cellsA b1 (EndV.val a).cells.toList 50 :: [.old w])) ?_ ?_
  · refine cut_i (fun s w' => s = decide (c.Tag ≠ a.Tag ∧ c.Tag ≠ b.Tag) ∧ w' = w14) ?_ ?_
    · refine h.lda (b := b1) (x := a.Tag) rfl (cond_i (fun e => ?_) (fun e => ?_))
      · have e : c.Tag ≠ a.Tag := by simpa using e
        refine h.lda (b := b2) (x := b.Tag) rfl ⟨?_, rfl⟩
        by_cases h2 : c.Tag = b.Tag <;> simp [e, h2]
      · have e : c.Tag = a.Tag := by simpa using e
        exact ⟨by simp [e], rfl⟩
    rintro g _ w18 ⟨rfl, rfl⟩
    refine cond_i (fun e => ?_) (fun e => h)
    have e := of_decide_eq_true e
    refine c30 (p := p) (x := X) (tag := c.Tag) (now := 6) (C := { kind := 6, bare := c.Chunk.Bare }) (ps := SlV.nil) (body := SlV.nil) (pv := []) h (fun w' _ => ⟨Sl.nil w', PS.nil, Sl.nil w'⟩) (by simp) BL_nil (by rw [hxk]; omega) fun r w19 h => ?_
    have eh : hear X c.Tag { kind := 6, bare := c.Chunk.Bare } 6 = (X, none) := by
      unfold hear
      rw [if_neg (fun h => by cases h.1), if_neg (fun h => h.2.2.elim (fun h => e.1 (by rw [h, hxt])) fun h => e.2 (by rw [h.2.1, hxm])), if_pos (by rw [hxt]; exact e.1)]
    rw [eh] at h
    have h := (OutA.nil h).2
    exact c31p h (cond_f (by rw [hx]; rfl) h)
  rintro g _ w17 h
  refine c32 h fun r51 w21 h => ?_
  have eb : brk X = (tos X 9, some (b.Tag, { kind := 6 })) := by
    unfold brk
    rw [if_pos (show live X from ⟨by rw [hx]; decide, by rw [hx]; decide⟩), hxm, if_neg hb0]
  rw [eb] at h
  have hlen : r51.len = 1 := NoteA.len h
  have h := h.drew
  refine cut_i (fun _ w' => St w' (NoteA r51 b.Tag { kind := 6 } :: PtA p (tos X 9) :: PtA q Y :: cellsA b3 (NoteV.val c).cells.toList 59 :: cellsA b2 (EndV.val b).cells.toList 50 :: cellsA b1 (EndV.val a).cells.toList 50 :: [.old w])) ?_ ?_
  · refine c31p h.g1 (cond_f rfl (cond_f (by rw [hlen]; rfl) ?_))
    refine noteTag h fun _ => ?_
    refine h.lda (b := b2) (x := b.Tag) rfl (cond_f (by simp) ?_)
    refine c32 h.g1 fun r61 w24 h => ?_
    have eb2 : brk (tos X 9) = (tos X 9, none) := by
      unfold brk
      rw [if_neg (show ¬ live (tos X 9) from fun h => absurd h.2 (show ¬ ((9 : Int) < 8) by decide))]
    rw [eb2] at h
    exact cond_f (by rw [(OutA.nil h).1]; rfl) (OutA.nil h).2.g1
  rintro g _ w22 h
  refine hearN (q := q) (y := Y) (now := 7) h.g2.g1 (by simp) BL_nil (by rw [hyk]; omega) fun r66 w25 h => ?_
  have eh : hear Y b.Tag { kind := 6 } 7 = (tos Y 9, none) := by
    unfold hear
    rw [if_neg (fun h => by cases h.1), if_pos ⟨rfl, show live Y from ⟨by rw [hy]; decide, by rw [hy]; decide⟩, .inl hyt.symm⟩]
  rw [eh] at h
  have h := (OutA.nil h).2
  refine c31p h (cond_t rfl ?_)
  refine h.lda (b := b2) (x := b.Tag) rfl ?_
  refine c30 (p := q) (x := tos Y 9) (tag := b.Tag) (now := 8) (C := { kind := 7 }) (ps := SlV.nil) (body := SlV.nil) (pv := []) h (fun w' _ => ⟨Sl.nil w', PS.nil, Sl.nil w'⟩) (by simp) BL_nil (by show Y.e.Key.size ≤ 1000; rw [hyk]; omega) fun r70 w27 h => ?_
  have eh2 : hear (tos Y 9) b.Tag { kind := 7 } 8 = (tos Y 9, none) := by
    unfold hear
    rw [if_neg (fun h => by cases h.1), if_neg (fun h => by cases h.1), if_neg (fun h => h hyt.symm)]
    rfl
  rw [eh2] at h
  refine cond_t (by rw [(OutA.nil h).1]; rfl) ?_
  have h := (OutA.nil h).2
  refine c33 h fun w28 h => ?_
  exact k _ h.re)
end Go.Vc.SA
