/-
  shake: what its functions do.
-/
import Derived.Test.YtobldgdfejpckaaCASb
set_option linter.all false
set_option linter.unusedVariables false
set_option maxRecDepth 100000
namespace Go.Vc.SA
open Go.Proofs Go.Vc.Sha

abbrev zMet : MetV := { Tag := 0, Tsn := 0, Window := 0, Inter := false }
def tos (x : Pt) (s : Int) : Pt := { x with s := s, tries := 0 }
theorem Ch.bare {w : World} (kind : Int) (tsn : Int) : Ch w { kind := kind, tsn := tsn } SlV.nil SlV.nil [] := ⟨Sl.nil w, PS.nil, Sl.nil w⟩

section
variable {p : Nat} {x : Pt} {w : World} {H : List HA}
/-- a bare note -/
theorem note0 {q : SlV} {kind tsn : Int} {K : SlV → World → Prop} {H H' : List HA} [c : CellsIn p H (ptc x q) 122 H'] (h : St w H) (k : ∀ r w', St w' (NoteA r x.met.Tag { kind := kind, tsn := tsn } :: H) → K r w') :
    callP P 66 #[.pointer (some ⟨p, 0, none⟩), ChunkV.val (mkC { kind := kind, tsn := tsn } SlV.nil SlV.nil)] w SlV.val K :=
  c66 (C := { kind := kind, tsn := tsn }) (pv := []) (keep.triv (fun w => Ch.bare kind tsn) h) k

/-- New -/
theorem c28 {e : EndV} {K : Option Addr × Int → World → Prop} (h : St w H) (he : e.Tag ≠ 0) (k : ∀ p w', St w' (PtA p ⟨e, 0, zMet, [], 0⟩ :: H) → K (some ⟨p, 0, none⟩, 0) w') :
    callP P 28 #[EndV.val e] w (tup2V Value.pointer (Value.int .i64)) K := sf28_call _ _ _ (by
  refine h.nw fun b1 w1 h => ?_
  refine h.lda (b := b1) (x := e.Tag) rfl (cond_f (by simp [he]) ?_)
  refine h.ldn (b := b1) (x := e) rfl rfl ?_
  refine h.nw fun b4 w2 h => k b4 w2 ?_
  have h : St w2 (cellsA b4 (ptc ⟨e, 0, zMet, [], 0⟩ SlV.nil) 122 :: cellsA b1 _ 50 :: H) := h
  have h2 := keep.triv (φ := fun w => Sl w 1 (Value.int .u8) SlV.nil []) (fun w => Sl.nil w) h.g1.drop
  exact PtA.mk h2.g1)
theorem c28z {e : EndV} {K : Option Addr × Int → World → Prop} (h : St w H) (he : e.Tag = 0) (k : ∀ w', St w' H → K (none, 2) w') :
    callP P 28 #[EndV.val e] w (tup2V Value.pointer (Value.int .i64)) K := sf28_call _ _ _ (by
  refine h.nw fun b1 w1 h => ?_
  exact h.lda (b := b1) (x := e.Tag) rfl (cond_t (by simp [he]) (k _ h.drop)))

theorem c61n {q : SlV} {kind : Int} {K : ChunkV → World → Prop} {H H' : List HA} [c : CellsIn p H (ptc x q) 122 H'] (h : St w H)
    (k : ∀ ps' pv' w', St w' (.keep (fun w => Ch w (initC x.e kind []) ps' SlV.nil pv') :: H) → K (mkC (initC x.e kind []) ps' SlV.nil) w') :
    callP P 61 #[.pointer (some ⟨p, 0, none⟩), .int .u8 kind, SlV.nil.val] w ChunkV.val K :=
  c61 (pv := []) (SlO.nil (keep.triv (fun w => PS.nil) h)) (by simp) k

/-- a note of a chunk, laid by hand -/
theorem noteMk {C : CK} {ps body : SlV} {pv : List ParamV} {t : Int} {b : Nat} {T : TypeId} (h : St w (cellsA b (NoteV.val ⟨t, mkC C ps body⟩).cells.toList T :: .keep (fun w => Ch w C ps body pv) :: H)) : St w (NoteA ⟨some ⟨b, 0, none⟩, 1, 1⟩ t C :: H) := by
  have h := SlO.of_cells (n := 20) (val := NoteV.val) (xs := [⟨t, mkC C ps body⟩]) (s := ⟨some ⟨b, 0, none⟩, 1, 1⟩) h rfl rfl (by simp [maxLen_eq])
  exact h.mksep.mkex (ps, body, pv)

theorem PtA.mk1 {A : HA} {q : SlV} (h : St w (A :: cellsA p (ptc x q) 122 :: .keep (fun w => Sl w 1 (Value.int .u8) q x.echo) :: H)) : St w (A :: PtA p x :: H) := (PtA.mk h.g2.g2).g1
def connect (x : Pt) : Pt × Option (Int × CK) := if x.s ≠ 0 then (x, none) else (tos x 1, some (0, initC x.e 1 []))
/-- Connect -/
theorem c29 {K : SlV → World → Prop} (h : St w (PtA p x :: H)) (k : ∀ r w', St w' (OutA r (connect x).2 :: PtA p (connect x).1 :: H) → K r w') :
    callP P 29 #[.pointer (some ⟨p, 0, none⟩)] w SlV.val K := sf29_call _ _ _ (by
  obtain ⟨q, h⟩ := PtA.un h
  unfold connect at k
  refine h.lda (b := p) (x := x.s) rfl (cond_i (fun e => ?_) (fun e => ?_))
  · rw [if_pos (by simpa using e)] at k
    exact k _ _ (OutA.none (PtA.mk h))
  · rw [if_neg (by simpa using e)] at k
    refine c60 (s := 1) h fun w1 h => ?_
    refine c61n (p := p) (x := tos x 1) h fun ps' pv' w2 h => ?_
    refine h.nw fun b4 w3 h => k _ _ ?_
    exact PtA.mk1 (x := tos x 1) (noteMk (t := 0) h))

def againO (x : Pt) (mark : Int) : Option (Int × CK) :=
  if x.s = 1 then some (0, initC x.e 1 []) else if x.s = 2 then some (x.met.Tag, { kind := 10, body := x.echo }) else if x.s = 5 then some (x.met.Tag, { kind := 7, tsn := mark }) else if x.s = 7 then some (x.met.Tag, { kind := 8 }) else none
def again (x : Pt) (mark : Int) : Pt × Option (Int × CK) :=
  match againO x mark with
  | none => (x, none)
  | some o => if x.tries + 1 > 8 then (tos x 9, none) else ({ x with tries := x.tries + 1 }, some o)

/-- a clone of what is kept -/
theorem clone_keep {s : SlV} {xs : List Int} {K : SlV → World → Prop} {H : List HA} (h : St w H) (hs : Sl w 1 (Value.int .u8) s xs) (hb : xs.length ≤ 1099511627776) (k : ∀ r w', St w' (.keep (fun w => Sl w 1 (Value.int .u8) r xs) :: H) → K r w') :
    callP P 38 #[s.val] w SlV.val K := c38 h hs hb fun r w' h => k r w' (keep.of (fun _ h => h.sl) h)
theorem note1 {q body : SlV} {kind : Int} {bs : List Int} {K : SlV → World → Prop} {H H' : List HA} [c : CellsIn p H (ptc x q) 122 H'] (h : St w (.keep (fun w => Sl w 1 (Value.int .u8) body bs) :: H)) (k : ∀ r w', St w' (NoteA r x.met.Tag { kind := kind, body := bs } :: H) → K r w') :
    callP P 66 #[.pointer (some ⟨p, 0, none⟩), ChunkV.val (mkC { kind := kind, body := bs } SlV.nil body)] w SlV.val K :=
  c66 (C := { kind := kind, body := bs }) (pv := []) (keep.map (fun w h => ⟨Sl.nil w, PS.nil, h⟩) h) k

set_option maxHeartbeats 1000000 in
/-- Again -/
theorem c34 {mark : Int} {K : SlV → World → Prop} (h : St w (PtA p x :: H)) (he : x.echo.length ≤ 1048576) (ht : 0 ≤ x.tries ∧ x.tries ≤ 100) (k : ∀ r w', St w' (OutA r (again x mark).2 :: PtA p (again x mark).1 :: H) → K r w') :
    callP P 34 #[.pointer (some ⟨p, 0, none⟩), .int .u32 mark] w SlV.val K := sf34_call _ _ _ _ (by
  obtain ⟨q, h⟩ := PtA.un h
  have k0 : againO x mark = none → ∀ r w', St w' (OutA r none :: PtA p x :: H) → K r w' := fun e r w' h => k r w' (by unfold again; rw [e]; exact h)
  have k1 : ∀ o, againO x mark = some o → ∀ r w', St w' (OutA r (if x.tries + 1 > 8 then none else some o) :: PtA p (if x.tries + 1 > 8 then tos x 9 else { x with tries := x.tries + 1 }) :: H) → K r w' := fun o e r w' h => k r w' (by
    unfold again; rw [e]; simp only
    by_cases h8 : x.tries + 1 > 8
    · rw [if_pos h8] at h ⊢; rw [if_pos h8] at h; exact h
    · rw [if_neg h8] at h ⊢; rw [if_neg h8] at h; exact h)
  clear k
  refine cut_i (fun r w' => ∃ o, againO x mark = some o ∧ St w' (NoteA r o.1 o.2 :: cellsA p (ptc x q) 122 :: .keep (fun w => Sl w 1 (Value.int .u8) q x.echo) :: H)) ?_ ?_
  · refine h.lda (b := p) (x := x.s) rfl (cond_i (fun e => ?_) (fun e => ?_))
    · have e : x.s = 1 := by simpa using e
      refine c61n (p := p) (x := x) h fun ps' pv' w2 h => ?_
      refine h.nw fun b5 w3 h => ⟨(0, initC x.e 1 []), by unfold againO; rw [if_pos e], noteMk (t := 0) h⟩
    have e1 : ¬ x.s = 1 := by simpa using e
    refine cond_i (fun e => ?_) (fun e => ?_)
    · have e : x.s = 2 := by simpa using e
      refine h.lda (b := p) (x := q) rfl ?_
      refine clone_keep h (keep.get h.g1) (by omega) fun r7 w4 h => ?_
      refine note1 (p := p) (x := x) (kind := 10) h fun r8 w5 h => ⟨(x.met.Tag, { kind := 10, body := x.echo }), by unfold againO; rw [if_neg e1, if_pos e], h⟩
    have e2 : ¬ x.s = 2 := by simpa using e
    refine cond_i (fun e => ?_) (fun e => ?_)
    · have e : x.s = 5 := by simpa using e
      refine note0 (p := p) (x := x) (kind := 7) (tsn := mark) h fun r8 w5 h => ⟨(x.met.Tag, { kind := 7, tsn := mark }), by unfold againO; rw [if_neg e1, if_neg e2, if_pos e], h⟩
    have e3 : ¬ x.s = 5 := by simpa using e
    refine cond_i (fun e => ?_) (fun e => ?_)
    · have e : x.s = 7 := by simpa using e
      refine note0 (p := p) (x := x) (kind := 8) (tsn := 0) h fun r8 w5 h => ⟨(x.met.Tag, { kind := 8 }), by unfold againO; rw [if_neg e1, if_neg e2, if_neg e3, if_pos e], h⟩
    have e4 : ¬ x.s = 7 := by simpa using e
    exact k0 (by unfold againO; rw [if_neg e1, if_neg e2, if_neg e3, if_neg e4]) _ _ (OutA.none (PtA.mk h))
  rintro g r w1 ⟨o, ho, h⟩
  refine h.lda (b := p) (x := x.tries) rfl ?_
  have ew : IntKind.i64.wrap (x.tries + 1) = x.tries + 1 := wrap_i64 (by omega) (by omega)
  rw [ew]
  refine h.stna (b := p) rfl rfl (Nat.le_of_ble_eq_true rfl) fun w8 h => ?_
  have h : St w8 (cellsA p (ptc { x with tries := x.tries + 1 } q) 122 :: NoteA r o.1 o.2 :: .keep (fun w => Sl w 1 (Value.int .u8) q x.echo) :: H) := h
  refine h.lda (b := p) (x := x.tries + 1) rfl (cond_i (fun e => ?_) (fun e => ?_))
  · have e : x.tries + 1 > 8 := by simpa using e
    refine c60 (x := { x with tries := x.tries + 1 }) (s := 9) h fun w9 h => ?_
    have h := k1 o ho SlV.nil w9
    rw [if_pos e, if_pos e] at h
    rename_i hh
    exact h (OutA.none (PtA.mk (x := tos x 9) (hh.g1.drop)))
  · have e : ¬ x.tries + 1 > 8 := by simpa using e
    have hk := k1 o ho r w8
    rw [if_neg e, if_neg e] at hk
    exact hk (PtA.mk1 (x := { x with tries := x.tries + 1 }) h.g1))

def shut (x : Pt) : Pt := if x.s = 3 then tos x 4 else x
/-- Shut -/
theorem c33 {K : Bool → World → Prop} (h : St w (PtA p x :: H)) (k : ∀ w', St w' (PtA p (shut x) :: H) → K (decide (x.s = 3)) w') :
    callP P 33 #[.pointer (some ⟨p, 0, none⟩)] w Value.bool K := sf33_call _ _ _ (by
  obtain ⟨q, h⟩ := PtA.un h
  unfold shut at k
  refine h.lda (b := p) (x := x.s) rfl (cond_i (fun e => ?_) (fun e => ?_))
  · have e : ¬ x.s = 3 := by simpa using e
    rw [decide_eq_false e, if_neg e] at k
    exact k _ (PtA.mk h)
  · have e : x.s = 3 := by simpa using e
    rw [decide_eq_true e, if_pos e] at k
    exact c60 (s := 4) h fun w1 h => k _ (PtA.mk (x := tos x 4) h))
/-- Stage -/
theorem c31p {K : Int → World → Prop} (h : St w (PtA p x :: H)) (k : K x.s w) : callP P 31 #[.pointer (some ⟨p, 0, none⟩)] w (Value.int .i64) K := by
  obtain ⟨q, h⟩ := PtA.un h
  exact c31 h k
/-- Met -/
theorem c36 {K : MetV → World → Prop} (h : St w (PtA p x :: H)) (k : ∀ w', St w' (PtA p x :: H) → K x.met w') : callP P 36 #[.pointer (some ⟨p, 0, none⟩)] w MetV.val K := sf36_call _ _ _ (by
  obtain ⟨q, h⟩ := PtA.un h
  refine h.nw fun b1 w1 h => ?_
  have h : St w1 (cellsA b1 (MetV.val zMet).cells.toList 73 :: _) := h
  refine h.ldna (b := p) (x := x.met) rfl rfl ?_
  refine h.stn (b := b1) rfl rfl (Nat.le_of_ble_eq_true rfl) fun w2 h => ?_
  refine h.ldn (b := b1) (x := x.met) rfl rfl (k _ (PtA.mk h.drop)))
def idle (x : Pt) (mark : Int) : Pt × Option (Int × CK) :=
  if x.s = 4 then (tos x 5, some (x.met.Tag, { kind := 7, tsn := mark })) else if x.s = 6 then (tos x 7, some (x.met.Tag, { kind := 8 })) else (x, none)
/-- Idle -/
theorem c37 {mark : Int} {K : SlV → World → Prop} (h : St w (PtA p x :: H)) (k : ∀ r w', St w' (OutA r (idle x mark).2 :: PtA p (idle x mark).1 :: H) → K r w') :
    callP P 37 #[.pointer (some ⟨p, 0, none⟩), .int .u32 mark] w SlV.val K := sf37_call _ _ _ _ (by
  obtain ⟨q, h⟩ := PtA.un h
  unfold idle at k
  refine h.lda (b := p) (x := x.s) rfl (cond_i (fun e => ?_) (fun e => ?_))
  · rw [if_pos (by simpa using e)] at k
    refine c60 (s := 5) h fun w1 h => ?_
    exact note0 (p := p) (x := tos x 5) (kind := 7) (tsn := mark) h fun r w' h => k _ _ (PtA.mk1 (x := tos x 5) h)
  rw [if_neg (by simpa using e)] at k
  refine cond_i (fun e => ?_) (fun e => ?_)
  · rw [if_pos (by simpa using e)] at k
    refine c60 (s := 7) h fun w1 h => ?_
    exact note0 (p := p) (x := tos x 7) (kind := 8) (tsn := 0) h fun r w' h => k _ _ (PtA.mk1 (x := tos x 7) h)
  rw [if_neg (by simpa using e)] at k
  exact k _ _ (OutA.none (PtA.mk h)))
def live (x : Pt) : Prop := 0 < x.s ∧ x.s < 8
instance : Decidable (live x) := by unfold live; infer_instance
def brk (x : Pt) : Pt × Option (Int × CK) :=
  if live x then (tos x 9, if x.met.Tag = 0 then none else some (x.met.Tag, { kind := 6 })) else (x, none)
/-- Break -/
theorem c32 {K : SlV → World → Prop} (h : St w (PtA p x :: H)) (k : ∀ r w', St w' (OutA r (brk x).2 :: PtA p (brk x).1 :: H) → K r w') :
    callP P 32 #[.pointer (some ⟨p, 0, none⟩)] w SlV.val K := sf32_call _ _ _ (by
  obtain ⟨q, h⟩ := PtA.un h
  unfold brk at k
  refine c63 (p := p) h (cond_i (fun e => ?_) (fun e => ?_))
  · have e : ¬ live x := fun hl => by rw [decide_eq_true (show 0 < x.s ∧ x.s < 8 from hl)] at e; cases e
    rw [if_neg e] at k
    exact k _ _ (OutA.none (PtA.mk h))
  have e : live x := Decidable.byContradiction fun hl => by rw [decide_eq_false (show ¬ (0 < x.s ∧ x.s < 8) from hl)] at e; cases e
  rw [if_pos e] at k
  refine c60 (s := 9) h fun w2 h => ?_
  refine h.ldna (b := p) (x := x.met) rfl rfl ?_
  refine h.nw fun b4 w3 h => ?_
  have h : St w3 (cellsA b4 (MetV.val zMet).cells.toList 73 :: _) := h
  refine h.stn (b := b4) rfl rfl (Nat.le_of_ble_eq_true rfl) fun w4 h => ?_
  have h : St w4 (cellsA b4 (MetV.val x.met).cells.toList 73 :: _) := h
  refine h.ldn (b := b4) (x := x.met) rfl rfl (h.lda (b := b4) (x := x.met.Tsn) rfl (h.lda (b := b4) (x := x.met.Window) rfl (h.lda (b := b4) (x := x.met.Inter) rfl (cond_i (fun e => ?_) (fun e => ?_)))))
  · have e : x.met.Tag = 0 := by
      by_cases h0 : x.met.Tag = 0
      · exact h0
      · simp [negB, h0] at e
    rw [if_pos e] at k
    exact k _ _ (OutA.none (PtA.mk (x := tos x 9) h.drop))
  · have e : ¬ x.met.Tag = 0 := fun h0 => by simp [negB, h0] at e
    rw [if_neg e] at k
    exact note0 (p := p) (x := tos x 9) (kind := 6) (tsn := 0) h.drop fun r w' h => k _ _ (PtA.mk1 (x := tos x 9) h))
end
end Go.Vc.SA
