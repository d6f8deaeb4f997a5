/-
  ShakeTries: what the calls come to.
-/
import Derived.Test.YtobldgdfejpckaaCASi
import Derived.Test.YtobldgdfejpckaaCASj
set_option linter.all false
set_option linter.unusedVariables false
set_option maxRecDepth 100000
namespace Go.Vc.SA
open Go.Proofs Go.Vc.Sha

/-- the same parameters -/
theorem c67 {s t : SlV} {pv qv : List ParamV} {l : List (Int × List Int)} {w : World} {H : List HA} {K : Bool → World → Prop} (h : St w H) (h1 : ∀ w', St w' H → Sl w' 2 ParamV.val s pv ∧ PS w' pv l) (h2 : ∀ w', St w' H → Sl w' 2 ParamV.val t qv ∧ PS w' qv l) (k : ∀ w', St w' H → K true w') :
    callP P 67 #[s.val, t.val] w Value.bool K := sf67_call _ _ _ _ (by
  have l1 := (h1 w h).2.len
  have l2 := (h2 w h).2.len
  have m1 := (h1 w h).1.len
  have m2 := (h2 w h).1.len
  refine cond_f (by rw [m1, m2, l1, l2]; simp) ?_
  refine loop_cnt (n := pv.length) (fun i w' => St w' H) h ?_ ?_
  · rintro g i w1 next hi h hn
    have e1 := (h1 _ h).1.len
    rw [e1]
    refine cond_t (lt_true hi) ?_
    rw [← e1]
    have h := h.drew
    obtain ⟨hs, hps⟩ := h1 _ h
    obtain ⟨ht, hpt⟩ := h2 _ h
    have hi1 : pv[i]? = some pv[i] := List.getElem?_eq_getElem hi
    have hi2 : qv[i]? = some (qv[i]'(by omega)) := List.getElem?_eq_getElem (by omega)
    have hi3 : l[i]? = some (l[i]'(by omega)) := List.getElem?_eq_getElem (by omega)
    obtain ⟨k1, v1⟩ := hps.at_ i _ _ hi1 hi3
    obtain ⟨k2, v2⟩ := hpt.at_ i _ _ hi2 hi3
    refine Sl.fld (i := i) (o := 0) (val' := Value.int .u16) (y := pv[i].Kind) hs hi1 rfl rfl fun _ _ => ?_
    refine Sl.fld (i := i) (o := 0) (val' := Value.int .u16) (y := (qv[i]'(by omega)).Kind) ht hi2 rfl rfl fun _ _ => ?_
    refine cond_f (by rw [k1, k2]; simp) ?_
    refine Sl.fld (i := i) (o := 1) (val' := SlV.val) (y := pv[i].Value_) hs hi1 rfl rfl fun _ _ => ?_
    refine Sl.str v1 und22 und5 und9 ?_
    refine Sl.fld (i := i) (o := 1) (val' := SlV.val) (y := (qv[i]'(by omega)).Value_) ht hi2 rfl rfl fun _ _ => ?_
    refine Sl.str v2 und22 und5 und9 ?_
    refine cond_f (by rw [beq_self_eq_true]; rfl) ?_
    rw [wrap_succ (hs.len_lt hi)]
    exact hn _ h
  · rintro g w1 next h
    rw [(h1 _ h).1.len]
    exact cond_f (lt_false _) (k _ h))
theorem lda2 {α : Type} {val : α → Value} [One val] {b c i : Nat} {v v' : ChunkV} {x y : α} {w : World} {H H' H'' : List HA} {T T' : TypeId} {K : α → α → Prop} [CellsIn b H (ChunkV.val v).cells.toList T H'] [CellsIn c H (ChunkV.val v').cells.toList T' H''] (h : St w H)
    (hx : (ChunkV.val v).cells.toList[0 + i]? = some (val x)) (hy : (ChunkV.val v').cells.toList[0 + i]? = some (val y)) (k : K x y) :
    loadP w ((⟨b, 0, none⟩ : Addr).add i) 1 val fun p => loadP w ((⟨c, 0, none⟩ : Addr).add i) 1 val fun q => K p q := h.lda (b := b) hx (h.lda (b := c) hy k)

set_option maxHeartbeats 2000000 in
/-- the same chunk -/
theorem c35 {C : CK} {ps body ps' body' : SlV} {pv qv : List ParamV} {w : World} {H : List HA} {K : Bool → World → Prop} (h : St w H) (h1 : ∀ w', St w' H → Ch w' C ps body pv) (h2 : ∀ w', St w' H → Ch w' C ps' body' qv) (k : ∀ w', St w' H → K true w') :
    callP P 35 #[ChunkV.val (mkC C ps body), ChunkV.val (mkC C ps' body')] w Value.bool K := sf35_call _ _ _ _ (by
  refine h.nw fun b1 w1 h => h.nw fun b2 w2 h => ?_
  refine cut_i (fun _ w' => w' = w2) ?_ ?_
  · refine lda2 (b := b1) (c := b2) h rfl rfl (cond_f (by simp) ?_)
    refine lda2 (b := b1) (c := b2) (x := false) (y := false) h rfl rfl (cond_f rfl ?_)
    refine lda2 (b := b1) (c := b2) (x := false) (y := false) h rfl rfl (cond_f rfl ?_)
    refine lda2 (b := b1) (c := b2) (x := false) (y := false) h rfl rfl (cond_f rfl ?_)
    refine lda2 (b := b1) (c := b2) (x := C.bare) (y := C.bare) h rfl rfl (cond_f (by rw [beq_self_eq_true]; rfl) ?_)
    refine lda2 (b := b1) (c := b2) (x := C.tsn) (y := C.tsn) h rfl rfl (cond_f (by simp) ?_)
    refine lda2 (b := b1) (c := b2) (x := (0 : Int)) (y := (0 : Int)) h rfl rfl (cond_f (by simp) ?_)
    refine lda2 (b := b1) (c := b2) (x := (0 : Int)) (y := (0 : Int)) h rfl rfl (cond_f (by simp) ?_)
    refine lda2 (b := b1) (c := b2) (x := (0 : Int)) (y := (0 : Int)) h rfl rfl (cond_f (by simp) ?_)
    refine lda2 (b := b1) (c := b2) (x := (0 : Int)) (y := (0 : Int)) h rfl rfl (cond_f (by simp) ?_)
    refine lda2 (b := b1) (c := b2) (x := C.tag) (y := C.tag) h rfl rfl (cond_f (by simp) ?_)
    refine lda2 (b := b1) (c := b2) (x := C.window) (y := C.window) h rfl rfl (cond_f (by simp) ?_)
    refine lda2 (b := b1) (c := b2) (x := C.out) (y := C.out) h rfl rfl (cond_f (by simp) ?_)
    refine lda2 (b := b1) (c := b2) (x := C.inn) (y := C.inn) h rfl rfl (cond_f (by simp) rfl)
  rintro g _ w3 rfl
  refine cut_i (fun _ w' => St w' (cellsA b2 (ChunkV.val (mkC C ps' body')).cells.toList 57 :: cellsA b1 (ChunkV.val (mkC C ps body)).cells.toList 57 :: H)) ?_ ?_
  · refine lda2 (b := b1) (c := b2) (x := SlV.nil) (y := SlV.nil) h rfl rfl (cond_f rfl ?_)
    refine lda2 (b := b1) (c := b2) (x := SlV.nil) (y := SlV.nil) h rfl rfl (cond_f rfl ?_)
    refine lda2 (b := b1) (c := b2) (x := SlV.nil) (y := SlV.nil) h rfl rfl (cond_f rfl ?_)
    refine lda2 (b := b1) (c := b2) (x := ps) (y := ps') h rfl rfl ?_
    refine c67 h (fun w' h => ⟨(h1 w' h.drop.drop).sl, (h1 w' h.drop.drop).ps⟩) (fun w' h => ⟨(h2 w' h.drop.drop).sl, (h2 w' h.drop.drop).ps⟩) fun w5 h => cond_f rfl ?_
    refine h.lda (b := b1) (x := body) rfl (Sl.str (h1 _ h.drop.drop).body und22 und5 und9 ?_)
    refine h.lda (b := b2) (x := body') rfl (Sl.str (h2 _ h.drop.drop).body und22 und5 und9 ?_)
    exact cond_f (by rw [beq_self_eq_true]; rfl) h
  rintro g _ w4 h
  refine h.lda (b := b1) (x := SlV.nil) rfl ?_
  refine loop_i (fun s w' => s = 0 ∧ St w' (cellsA b2 (ChunkV.val (mkC C ps' body')).cells.toList 57 :: cellsA b1 (ChunkV.val (mkC C ps body)).cells.toList 57 :: H)) (fun _ _ => 0) ⟨rfl, h⟩ ?_
  rintro g _ w6 ⟨rfl, h⟩
  refine cond_f rfl ?_
  refine h.lda (b := b1) (x := SlV.nil) rfl ?_
  refine loop_i (fun s w' => s = 0 ∧ St w' (cellsA b2 (ChunkV.val (mkC C ps' body')).cells.toList 57 :: cellsA b1 (ChunkV.val (mkC C ps body)).cells.toList 57 :: H)) (fun _ _ => 0) ⟨rfl, h⟩ ?_
  rintro g _ w7 ⟨rfl, h⟩
  refine cond_f rfl ?_
  refine h.lda (b := b1) (x := SlV.nil) rfl ?_
  refine loop_i (fun s w' => s = 0 ∧ St w' (cellsA b2 (ChunkV.val (mkC C ps' body')).cells.toList 57 :: cellsA b1 (ChunkV.val (mkC C ps body)).cells.toList 57 :: H)) (fun _ _ => 0) ⟨rfl, h⟩ ?_
  rintro g _ w8 ⟨rfl, h⟩
  exact cond_f rfl (k _ h.drop.drop))


def tr (a : EndV) (i : Nat) : Pt := { (tos (y0 a) 1) with tries := (i : Int) }
def ov (a : EndV) : Pt := tos (tos (y0 a) 1) 9
theorem again_tr {a : EndV} {i : Nat} (h : i < 8) : again (tr a i) 0 = (tr a (i + 1), some (0, initC a 1 [])) := by
  have e : againO (tr a i) 0 = some (0, initC a 1 []) := rfl
  unfold again
  rw [e]
  simp only
  rw [if_neg (show ¬ (tr a i).tries + 1 > 8 from show ¬ (i : Int) + 1 > 8 by omega)]
  rfl
theorem again_8 {a : EndV} : again (tr a 8) 0 = (ov a, none) := by
  have e : againO (tr a 8) 0 = some (0, initC a 1 []) := rfl
  unfold again
  rw [e]
  rfl
theorem again_ov {a : EndV} : again (ov a) 0 = (ov a, none) := rfl

set_option maxHeartbeats 2000000 in
/-- ShakeTries -/
theorem c12 {a : EndV} {more : Int} {w : World} {K : Bool → World → Prop} (k : ∀ w', St w' [.old w] → K true w') :
    callP P 12 #[EndV.val a, .int .i64 more] w Value.bool K := sf12_call _ _ _ _ (by
  refine (St.start w).nw fun b1 w1 h => ?_
  refine c27 h fun w2 h => cond_f rfl ?_
  refine cut_i (fun _ w' => w' = w2 ∧ a.Tag ≠ 0 ∧ a.Key.size ≤ 100) ?_ ?_
  · refine h.lda (b := b1) (x := a.Tag) rfl (cond_i (fun _ => k _ h.re) (fun e => ?_))
    refine h.lda (b := b1) (x := a.Key) rfl (cond_i (fun _ => k _ h.re) (fun e2 => ⟨rfl, by simpa using e, by simp at e2; omega⟩))
  rintro g _ w3 ⟨rfl, ha0, hka⟩
  refine h.ldn (b := b1) (x := a) rfl rfl ?_
  refine c28 h ha0 fun p w4 h => ?_
  refine c29 h fun r10 w5 h => ?_
  have h : St w5 (NoteA r10 0 (initC a 1 []) :: PtA p (tr a 0) :: _) := h
  have hl10 : r10.len = 1 := NoteA.len h
  obtain ⟨⟨ps, body, pv⟩, h⟩ := h.unex
  have h := h.unsep
  simp only at h
  refine cond_f (by rw [hl10]; rfl) ?_
  refine loop_cnt (n := 8) (fun i w' => St w' [SlO 20 NoteV.val r10 [⟨0, mkC (initC a 1 []) ps body⟩], .keep (fun w => Ch w (initC a 1 []) ps body pv), PtA p (tr a i), cellsA b1 (EndV.val a).cells.toList 50, .old w]) h ?_ ?_
  · rintro g i w6 next hi h hn
    refine cond_t (lt_true hi) ?_
    refine c34 h.g2 (Nat.zero_le _) (by show 0 ≤ (i : Int) ∧ (i : Int) ≤ 100; omega) fun r13 w7 h => ?_
    rw [again_tr hi] at h
    have hl13 : r13.len = 1 := NoteA.len h
    refine cond_f (by rw [hl13]; rfl) ?_
    have h := h.drew
    refine noteTag h fun _ => cond_f rfl ?_
    obtain ⟨⟨ps', body', pv'⟩, h⟩ := h.unex
    have h := h.unsep
    simp only at h
    refine Sl.fld (i := 0) (o := 1) (val' := ChunkV.val) (y := mkC (initC a 1 []) ps' body') (h.sl) rfl rfl rfl fun _ _ => ?_
    refine Sl.fld (i := 0) (o := 1) (val' := ChunkV.val) (y := mkC (initC a 1 []) ps body) (h.g3.sl) rfl rfl rfl fun _ _ => ?_
    refine c35 h (fun w' h => keep.get h.g1) (fun w' h => keep.get h.g4) fun w8 h => cond_f rfl ?_
    have h := h.drop.drop
    refine c31p h (cond_f rfl ?_)
    rw [wrap_succ (by omega)]
    exact hn _ h.g2.g2
  · rintro g w6 next h
    refine cond_f (by decide) ?_
    obtain ⟨m, hm, hme⟩ : ∃ m : Nat, m < 5 ∧ IntKind.i64.wrap ((1 : Int) + (IntKind.i64.wrap (Int.tmod (IntKind.u64.wrap more) (5 : Int)))) = ((m + 1 : Nat) : Int) := by
      refine ⟨(more % 18446744073709551616 % 5).toNat, by omega, ?_⟩
      rw [wrap_u64, Int.tmod_eq_emod_of_nonneg (by omega), wrap_i64 (x := more % 18446744073709551616 % 5) (by omega) (by omega), wrap_i64 (by omega) (by omega)]
      omega
    rw [hme]
    refine loop_cnt (n := m + 1) (fun i w' => St w' [SlO 20 NoteV.val r10 [⟨0, mkC (initC a 1 []) ps body⟩], .keep (fun w => Ch w (initC a 1 []) ps body pv), PtA p (if i = 0 then tr a 8 else ov a), cellsA b1 (EndV.val a).cells.toList 50, .old w]) h ?_ ?_
    · rintro g i w10 next hi h hn
      refine cond_t (lt_true hi) ?_
      refine c34 h.g2 (by split <;> exact Nat.zero_le _) (by split; exact (show (0 : Int) ≤ 8 ∧ (8 : Int) ≤ 100 by decide); exact (show (0 : Int) ≤ 0 ∧ (0 : Int) ≤ 100 by decide)) fun r27 w11 h => ?_
      have ea : again (if i = 0 then tr a 8 else ov a) 0 = (ov a, none) := by split; exact again_8; exact again_ov
      rw [ea] at h
      refine cond_f (by rw [(OutA.nil h).1]; rfl) ?_
      have h := (OutA.nil h).2
      refine c31p h (cond_f rfl ?_)
      rw [wrap_succ (by omega)]
      refine hn _ ?_
      rw [if_neg (by omega)]
      exact h.g2.g2
    · rintro g w10 next h
      rw [if_neg (by omega)] at h
      refine cond_f (lt_false _) ?_
      refine c29 h.g2 fun r30 w13 h => ?_
      have ec : connect (ov a) = (ov a, none) := rfl
      rw [ec] at h
      refine cond_t (by rw [(OutA.nil h).1]; rfl) ?_
      have h := (OutA.nil h).2
      refine Sl.fld (i := 0) (o := 1) (val' := ChunkV.val) (y := mkC (initC a 1 []) ps body) (h.g1.sl) rfl rfl rfl fun _ _ => ?_
      refine c30 (p := p) (x := ov a) (tag := 0) (now := 1) h (fun w' h => keep.get h.g1) (initC_ps (by simp)) BL_nil (by show a.Key.size ≤ 1000; omega) fun r34 w14 h => ?_
      have eh : hear (ov a) 0 (initC a 1 []) 1 = (ov a, none) := by
        unfold hear
        rw [if_pos ⟨rfl, rfl⟩]
        rfl
      rw [eh] at h
      refine cond_t (by rw [(OutA.nil h).1]; rfl) ?_
      have h := (OutA.nil h).2
      refine c36 h fun w15 h => ?_
      exact k _ h.re)

theorem c12j {a : EndV} {more : Int} {w : World} {K : Bool → World → Prop} (ha : EW a) (k : ∀ w', St w' [.old w] → K true w') : callP P 12 #[EndV.val a, .int .i64 more] w Value.bool K := c12 k
end Go.Vc.SA
