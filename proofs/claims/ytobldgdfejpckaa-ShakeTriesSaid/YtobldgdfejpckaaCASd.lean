/-
  shake: what it hears.
-/
import Derived.Test.YtobldgdfejpckaaCASc
set_option linter.all false
set_option linter.unusedVariables false
set_option maxRecDepth 100000
namespace Go.Vc.SA
open Go.Proofs Go.Vc.Sha

def rightC (C : CK) : Prop := C.tag ≠ 0 ∧ C.out ≠ 0 ∧ C.inn ≠ 0
instance {C : CK} : Decidable (rightC C) := by unfold rightC; infer_instance
def ckOf (e : EndV) (C : CK) (now : Int) : CookieV := { Tag := e.Tag, Peer := C.tag, Tsn := e.Tsn, PeerTsn := C.tsn, Window := C.window, Out := C.out, In := C.inn, Features := if (e.Inter && interC C.ps) = true then 1 else 0, Made := IntKind.u32.wrap now, TieTag := 0, TiePeer := 0 }
def asked (x : Pt) (C : CK) (now : Int) : Option (Int × CK) :=
  if x.s > 2 then none else if ¬ rightC C then none else some (C.tag, initC x.e 2 [(7, made (kb x.e.Key) (ckOf x.e C now))])

theorem mkPS {w : World} {H : List HA} {b : Nat} {k : Int} {r : SlV} {bs : List Int} {T : TypeId} (h : St w (cellsA b (ParamV.val ⟨k, r⟩).cells.toList T :: .keep (fun w => Sl w 1 (Value.int .u8) r bs) :: H)) :
    St w (SlO 2 ParamV.val ⟨some ⟨b, 0, none⟩, 1, 1⟩ [⟨k, r⟩] :: .keep (fun w => PS w [⟨k, r⟩] [(k, bs)]) :: H) := by
  have h := SlO.of_cells (n := 2) (val := ParamV.val) (xs := [⟨k, r⟩]) (s := ⟨some ⟨b, 0, none⟩, 1, 1⟩) h rfl rfl (by simp [maxLen_eq])
  exact (keep.map (fun w h => PS.nil.snoc rfl h) h.g1).g1

theorem St.hold0 {b : Nat} {v : CookieV} {w : World} {H H' : List HA} {T : TypeId} [c : CellsIn b H (CookieV.val v).cells.toList T H'] (h : St w H) : Holds w ⟨b, 0, none⟩ 11 (CookieV.val v) := by
  obtain ⟨y, hy, e⟩ := (h.ldn (b := b) (val := CookieV.val) (n := 11) (o := 0) (x := v) (K := fun y => y = v) rfl rfl rfl).ex
  subst e
  exact hy
abbrev keepE (x : Pt) (q : SlV) : HA := .keep (fun w => Sl w 1 (Value.int .u8) q x.echo)
section
variable {p : Nat} {x : Pt} {w : World} {H : List HA}
set_option maxHeartbeats 2000000 in
/-- asked -/
theorem c62 {C : CK} {ps body : SlV} {pv : List ParamV} {now : Int} {K : SlV → World → Prop} (h : St w (PtA p x :: H)) (hc : ∀ w', St w' H → Ch w' C ps body pv) (hl : ∀ y ∈ C.ps, y.2.length ≤ 1048576) (hk : x.e.Key.size ≤ 1000)
    (k : ∀ r w', St w' (OutA r (asked x C now) :: PtA p x :: H) → K r w') : callP P 62 #[.pointer (some ⟨p, 0, none⟩), ChunkV.val (mkC C ps body), .int .u64 now] w SlV.val K := sf62_call _ _ _ _ _ (by
  obtain ⟨q, h⟩ := PtA.un h
  unfold asked at k
  refine h.nw fun b1 w1 h => ?_
  refine cut_i (fun _ w' => ¬ x.s > 2 ∧ rightC C ∧ St w' (cellsA b1 (ChunkV.val (mkC C ps body)).cells.toList 57 :: cellsA p (ptc x q) 122 :: keepE x q :: H)) ?_ ?_
  · refine h.lda (b := p) (x := x.s) rfl (cond_i (fun e => ?_) (fun e => ?_))
    · rw [if_pos (by simpa using e)] at k
      exact k _ _ (OutA.none (PtA.mk h.drop))
    have e : ¬ x.s > 2 := by simpa using e
    rw [if_neg e] at k
    refine ldCh (b := b1) (v := mkC C ps body) h ?_
    refine c77 h fun w3 h => ?_
    refine cond_i (fun e2 => ?_) (fun e2 => ?_)
    · have e2 : ¬ rightC C := fun hr => by rw [decide_eq_true (show C.tag ≠ 0 ∧ C.out ≠ 0 ∧ C.inn ≠ 0 from hr)] at e2; cases e2
      rw [if_pos e2] at k
      exact k _ _ (OutA.none (PtA.mk h.drop))
    · have e3 : rightC C := Decidable.byContradiction fun hr => by rw [decide_eq_false (show ¬ (C.tag ≠ 0 ∧ C.out ≠ 0 ∧ C.inn ≠ 0) from hr)] at e2; cases e2
      exact ⟨e, e3, h⟩
  rintro g _ w2 ⟨e1, e2, h⟩
  rw [if_neg e1, if_neg (by simpa using e2)] at k
  have h := h.drew
  refine h.ldaa (b := p) (x := x.e.Tag) rfl (h.lda (b := b1) (x := C.tag) rfl (h.ldaa (b := p) (x := x.e.Tsn) rfl (h.lda (b := b1) (x := C.tsn) rfl (h.lda (b := b1) (x := C.window) rfl (h.lda (b := b1) (x := C.out) rfl (h.lda (b := b1) (x := C.inn) rfl ?_))))))
  refine h.nw fun b15 w4 h => ?_
  refine ⟨h.holda (b := b1) (x := C.inn) rfl, h.holda (b := b1) (x := C.out) rfl, h.holda (b := b1) (x := C.window) rfl, h.holda (b := b1) (x := C.tsn) rfl, ?_, h.holda (b := b1) (x := C.tag) rfl, ?_, ?_⟩
  · rw [add_lit]; exact h.holda (b := p) (x := x.e.Tsn) rfl
  · rw [add_lit]; exact h.holda (b := p) (x := x.e.Tag) rfl
  have h : St w4 (cellsA b15 (CookieV.val zc).cells.toList 36 :: _) := h
  refine h.stn (b := b15) rfl rfl (Nat.le_of_ble_eq_true rfl) fun w5 h => ?_
  rw [putC] at h
  refine cut_i (fun _ w' => St w' (cellsA b15 (CookieV.val (ckOf x.e C now)).cells.toList 36 :: cellsA b1 (ChunkV.val (mkC C ps body)).cells.toList 57 :: cellsA p (ptc x q) 122 :: keepE x q :: H)) ?_ ?_
  · refine h.ldaa (b := p) (x := x.e.Inter) rfl (cond_i (fun e => ?_) (fun e => ?_))
    · refine ldCh (b := b1) (v := mkC C ps body) h ?_
      refine c78 h (fun w' h => hc w' h.drop.drop.drop.drop) hl fun w7 h => cond_i (fun e3 => ?_) (fun e3 => ?_)
      · refine h.stna (b := b15) rfl rfl (Nat.le_of_ble_eq_true rfl) fun w8 h => ?_
        unfold ckOf
        rw [if_pos (by rw [e, e3]; rfl)]
        exact h
      · unfold ckOf
        rw [if_neg (by rw [e3]; simp)]
        exact h
    · unfold ckOf
      rw [if_neg (by rw [e]; simp)]
      exact h
  rintro g _ w6 h
  have h := h.drew
  have hkl : (kb x.e.Key).length ≤ 1048576 := by rw [kb_len]; omega
  -- behind the chunk
  have fin : ∀ {w' : World} {b2 : Nat} {ps' : SlV} {pv' : List ParamV}, St w' (cellsA b2 (ChunkV.val (mkC (initC x.e 2 [(7, made (kb x.e.Key) (ckOf x.e C now))]) ps' SlV.nil)).cells.toList 57 :: .keep (fun w => Ch w (initC x.e 2 [(7, made (kb x.e.Key) (ckOf x.e C now))]) ps' SlV.nil pv') :: cellsA b1 (ChunkV.val (mkC C ps body)).cells.toList 57 :: cellsA p (ptc x q) 122 :: keepE x q :: H) →
      loadP w' ((⟨b1, 0, none⟩ : Addr).add 10) 1 (Value.int .u32) fun v_29 => loadP w' (⟨b2, 0, none⟩ : Addr) 19 ChunkV.val fun v_30 => newP w' (.cells (NoteV.val ({ Tag := v_29, Chunk := v_30 } : NoteV)).cells 59) fun b_31 w_15 => K (SlV.mk (some (⟨b_31, 0, none⟩ : Addr)) 1 1) w_15 := by
    intro w' b2 ps' pv' h
    refine h.lda (b := b1) (x := C.tag) rfl (ldCh (b := b2) (v := mkC (initC x.e 2 [(7, made (kb x.e.Key) (ckOf x.e C now))]) ps' SlV.nil) h ?_)
    refine h.nw fun b31 w'' h => k _ _ ?_
    exact PtA.mk1 (noteMk (t := C.tag) h.g1.drop).g1.drop
  -- the whole of it, from the cookie's bytes on
  have zch : ∀ {w' : World} {b : Nat} {L : List HA}, St w' (cellsA b (ChunkV.val ({ Kind := 0, Begin := false, End := false, Loose := false, Bare := false, Tsn := 0, Stream := 0, Mid := 0, Ppid := 0, Frag := 0, Tag := 0, Window := 0, Out := 0, In := 0, Gaps := SlV.nil, Dups := SlV.nil, Skips := SlV.nil, Params := SlV.nil, Body := SlV.nil } : ChunkV)).cells.toList 57 :: L) → St w' (cellsA b (ChunkV.val ChunkV.zero).cells.toList 57 :: L) := fun h => h
  refine h.ldaa (b := p) (x := x.e.Key) rfl (h.ldn (b := b15) (x := ckOf x.e C now) rfl rfl ?_)
  refine ⟨?_, ?_⟩
  · refine St.strB h (by omega) fun r24 w9 h => ⟨St.hold0 (b := b15) h, ?_, ?_⟩
    · refine c22 (keep.get h) hkl fun r25 w10 h' => ?_
      have h := keep.of (fun _ h => h.sl) (h.thaw1 h')
      refine ⟨?_, ?_⟩
      · refine h.nw fun b26 w11 h => ?_
        have h := mkPS h
        refine ⟨?_, ?_⟩
        · refine c61 (p := p) (x := x) h (by simp) fun ps' pv' w12 h => ?_
          refine h.nw fun b28 w13 h => ?_
          have h := zch h
          refine h.stn (b := b28) rfl rfl (Nat.le_of_ble_eq_true rfl) fun w14 h => ?_
          rw [putCh] at h
          exact fin (b2 := b28) (ps' := ps') (pv' := pv') h.re
        · refine h.nw fun b32 w16 h => ?_
          have h := (zch h).g2.g2
          refine c61 (p := p) (x := x) h (by simp) fun ps' pv' w17 h => ?_
          refine h.stn (b := b32) rfl rfl (Nat.le_of_ble_eq_true rfl) fun w18 h => ?_
          rw [putCh] at h
          exact fin (b2 := b32) (ps' := ps') (pv' := pv') h.re
      · refine h.nw fun b37 w20 h => ?_
        have h := (zch h).g1
        refine h.nw fun b38 w21 h => ?_
        have h := mkPS h
        refine c61 (p := p) (x := x) h (by simp) fun ps' pv' w22 h => ?_
        refine h.stn (b := b37) rfl rfl (Nat.le_of_ble_eq_true rfl) fun w23 h => ?_
        rw [putCh] at h
        exact fin (b2 := b37) (ps' := ps') (pv' := pv') h.re
    · refine h.nw fun b43 w25 h => ⟨St.hold0 (b := b15) h, ?_⟩
      have h := zch h
      refine c22 (keep.get h.g1) hkl fun r44 w26 h' => ?_
      have h := keep.of (fun _ h => h.sl) (h.thaw1 h')
      refine h.nw fun b45 w27 h => ?_
      have h := mkPS h
      refine c61 (p := p) (x := x) h (by simp) fun ps' pv' w28 h => ?_
      refine h.stn (b := b43) rfl rfl (Nat.le_of_ble_eq_true rfl) fun w29 h => ?_
      rw [putCh] at h
      exact fin (b2 := b43) (ps' := ps') (pv' := pv') h.re
  · refine h.nw fun b50 w31 h => ⟨St.hold0 (b := b15) h, ?_, ?_⟩
    · rw [add_lit]; exact h.holda (b := p) (x := x.e.Key) rfl
    have h := zch h
    refine St.strB h (by omega) fun r51 w32 h => ⟨St.hold0 (b := b15) h, ?_⟩
    refine c22 (keep.get h) hkl fun r52 w33 h' => ?_
    have h := keep.of (fun _ h => h.sl) (h.thaw1 h')
    refine h.nw fun b53 w34 h => ?_
    have h := mkPS h
    refine c61 (p := p) (x := x) h (by simp) fun ps' pv' w35 h => ?_
    refine h.stn (b := b50) rfl rfl (Nat.le_of_ble_eq_true rfl) fun w36 h => ?_
    rw [putCh] at h
    exact fin (b2 := b50) (ps' := ps') (pv' := pv') h.re)
end
end Go.Vc.SA
