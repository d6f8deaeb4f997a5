/-
  shake: what its functions do.
-/
import Derived.Test.YtobldgdfejpckaaCAS
import Derived.Laws.IdiomStrings
set_option linter.all false
set_option linter.unusedVariables false
set_option maxRecDepth 100000
namespace Go.Vc.SA
open Go.Proofs Go.Vc.Sha

/-- a string's bytes -/
def kb (v : ByteArray) : List Int := v.data.toList.map fun b => (b.toNat : Int)
theorem BL_kb (v : ByteArray) : BL (kb v) := by
  intro x hx
  obtain ⟨b, _, rfl⟩ := List.mem_map.1 hx
  have := b.toNat_lt
  unfold B8
  omega
theorem kb_len (v : ByteArray) : (kb v).length = v.size := by simp [kb]
/-- []byte(v) -/
theorem St.strB {v : ByteArray} {w : World} {H : List HA} {K : SlV → World → Prop} (h : St w H) (hv : v.size ≤ 1048576) (k : ∀ r w', St w' (.keep (fun w => Sl w 1 (Value.int .u8) r (kb v)) :: H) → K r w') :
    runP P (convert 9 22 (.string v)) w SlV.val K := by
  have hr := run_bytes_of_string (P := P) w 9 22 5 v und9 und22 und5
  refine ⟨⟨⟨some ⟨w.heap.size, 0, none⟩, v.size, grownCap w v.size 0 5⟩, _, hr, k _ _ ?_⟩⟩
  have hge := grownCap_ge w v.size 0 5
  have hle := grownCap_le_maxLen w v.size 0 5 (by rw [maxLen_eq]; omega)
  have hcs : (bytesRow v (grownCap w v.size 0 5)).toList = arrI .u8 (kb v) ++ List.replicate (grownCap w v.size 0 5 - v.size) (.int .u8 0) := by
    simp [bytesRow, kb]
  generalize bytesRow v (grownCap w v.size 0 5) = row at hcs
  have h1 : St (w.drew.alloc (.cells row 5 (row.size, row.size + 1))) (.own w.heap.size (.cells row 5 (row.size, row.size + 1)) :: H) := by
    refine h.add (w := w) (w' := w.drew.alloc (.cells row 5 (row.size, row.size + 1))) ⟨rfl, rfl, rfl⟩ (fun b hb => by rw [show (w.drew.alloc (.cells row 5 (row.size, row.size + 1))).heap = w.heap.push (.cells row 5 (row.size, row.size + 1)) from rfl, Array.getElem?_push_lt hb, Array.getElem?_eq_getElem hb]) (F := fun c => c = w.heap.size) ⟨by rw [show (w.drew.alloc (.cells row 5 (row.size, row.size + 1))).heap = w.heap.push (.cells row 5 (row.size, row.size + 1)) from rfl]; simp, fun _ => Iff.rfl⟩ (fun b hb => Nat.le_of_eq hb.symm)
  refine keep.of (fun w' h' => ?_) h1
  have hb := h'.own
  refine ⟨⟨(kb_len v).symm, hge, hle⟩, .inr ⟨w.heap.size, 0, row.toList, 5, _, rfl, ⟨?_, ?_⟩, by simpa using hb⟩⟩
  · have := kb_len v
    rw [hcs]; simp; omega
  · rw [hcs, List.drop_zero, flat_int]
    show List.take (v.size * 1) _ = _
    rw [List.take_append_of_le_length (by simp [kb_len]), List.take_of_length_le (by simp [kb_len])]

theorem sl64 {w : World} {b : Nat} {H : List HA} {T : TypeId} (h : St w (cellsA b (arrI .u8 [64]) T :: H)) : Sl w 1 (Value.int .u8) ⟨some ⟨b, 0, none⟩, 1, 1⟩ [64] := Sl.lit (xs := [(64 : Int)]) h (flat_int _ _).symm (by simp [maxLen_eq])
/-- shake's inter -/
theorem c78 {C : CK} {ps body : SlV} {pv : List ParamV} {w : World} {H : List HA} {K : Bool → World → Prop} (h : St w H) (hc : ∀ w', St w' H → Ch w' C ps body pv) (hl : ∀ x ∈ C.ps, x.2.length ≤ 1048576) (k : ∀ w', St w' H → K (interC C.ps) w') :
    callP P 78 #[ChunkV.val (mkC C ps body)] w Value.bool K := sf78_call _ _ _ (by
  refine h.nw fun b1 w1 h => ?_
  refine h.lda (b := b1) (x := ps) rfl ?_
  refine c79 (kind := 32776) h (fun w' h => ⟨(hc w' h.drop).sl, (hc w' h.drop).ps⟩) hl fun r w2 h => ?_
  unfold interC at k
  rcases hf : find C.ps 32776 with _ | v
  · rw [hf] at k
    exact cond_f rfl (k _ h.drop.drop)
  · rw [hf] at k h
    refine cond_t rfl ?_
    refine h.nw fun b5 w3 h => ?_
    have h : St w3 (cellsA b5 (arrI .u8 [64]) 5 :: SlO 1 (Value.int .u8) r v :: _ :: H) := h
    refine c82 (t := ⟨some ⟨b5, 0, none⟩, 1, 1⟩) h (fun w' h => h.g1.sl) (fun w' h => sl64 h) fun w4 h => ?_
    exact k _ h.drop.drop.drop)

theorem putCh {v w : ChunkV} : putL (ChunkV.val v).cells.toList 0 (ChunkV.val w).cells.toList = (ChunkV.val w).cells.toList := putL_all _ _ rfl
theorem ldCh {b : Nat} {v : ChunkV} {T : TypeId} {w : World} {H H' : List HA} {K : ChunkV → Prop} [c : CellsIn b H (ChunkV.val v).cells.toList T H'] (h : St w H) (k : K v) : loadP w ⟨b, 0, none⟩ 19 ChunkV.val K := h.ldn (b := b) (x := v) rfl rfl k
def initC (e : EndV) (kind : Int) (l : List (Int × List Int)) : CK := { kind := kind, tag := e.Tag, tsn := e.Tsn, window := e.Window, out := 1024, inn := 1024, ps := l ++ (if e.Inter then [(32776, [64])] else []) }
/-- shake's init -/
theorem c61 {p : Nat} {x : Pt} {q : SlV} {kind : Int} {ps : SlV} {pv : List ParamV} {l : List (Int × List Int)} {w : World} {H H' : List HA} {K : ChunkV → World → Prop} [c : CellsIn p H (ptc x q) 122 H'] (h : St w (SlO 2 ParamV.val ps pv :: .keep (fun w => PS w pv l) :: H)) (hl : pv.length ≤ 10)
    (k : ∀ ps' pv' w', St w' (.keep (fun w => Ch w (initC x.e kind l) ps' SlV.nil pv') :: H) → K (mkC (initC x.e kind l) ps' SlV.nil) w') :
    callP P 61 #[.pointer (some ⟨p, 0, none⟩), .int .u8 kind, ps.val] w ChunkV.val K := sf61_call _ _ _ _ _ (by
  refine h.nw fun b1 w1 h => ?_
  have h : St w1 (cellsA b1 (ChunkV.val ChunkV.zero).cells.toList 57 :: _) := h
  refine cut_i (fun ps' w' => ∃ pv', St w' (cellsA b1 (ChunkV.val ChunkV.zero).cells.toList 57 :: SlO 2 ParamV.val ps' pv' :: .keep (fun w => PS w pv' (l ++ (if x.e.Inter then [(32776, [64])] else []))) :: H)) ?_ ?_
  · refine h.ldaa (b := p) (x := x.e.Inter) rfl (cond_i (fun e => ?_) (fun e => ?_))
    · refine h.nw fun b5 w3 h => ?_
      have h : St w3 (cellsA b5 (arrI .u8 [64]) 5 :: _) := h
      have h := keep.of (φ := fun w => Sl w 1 (Value.int .u8) ⟨some ⟨b5, 0, none⟩, 1, 1⟩ [64]) (fun w' h' => sl64 h') h
      refine h.nw fun b6 w4 h => ?_
      refine h.appY (s := ps) (x := (⟨32776, ⟨some ⟨b5, 0, none⟩, 1, 1⟩⟩ : ParamV)) slT55 (by omega) rfl (by omega) (by omega) fun r7 w5 h => ?_
      refine ⟨pv ++ [⟨32776, ⟨some ⟨b5, 0, none⟩, 1, 1⟩⟩], ?_⟩
      rw [if_pos e]
      have h := h.g3
      have h := h.g2.swap
      have h2 : St w5 (.keep (fun w => PS w pv l) :: .keep (fun w => Sl w 1 (Value.int .u8) ⟨some ⟨b5, 0, none⟩, 1, 1⟩ [64]) :: cellsA b1 (ChunkV.val ChunkV.zero).cells.toList 57 :: SlO 2 ParamV.val r7 (pv ++ [⟨32776, ⟨some ⟨b5, 0, none⟩, 1, 1⟩⟩]) :: H) := by
        first | exact h | exact h.re
      have h3 := keep.map (ψ := fun w => PS w (pv ++ [⟨32776, ⟨some ⟨b5, 0, none⟩, 1, 1⟩⟩]) (l ++ [(32776, [64])])) (fun w h => h.1.snoc rfl h.2) (keep.and h2)
      exact h3.g2.g2
    · refine ⟨pv, ?_⟩
      rw [if_neg (by simp [e]), List.append_nil]
      exact h
  rintro g ps' w2 ⟨pv', h⟩
  have h := h.drew
  refine h.ldaa (b := p) (x := x.e.Tag) rfl (h.ldaa (b := p) (x := x.e.Tsn) rfl (h.ldaa (b := p) (x := x.e.Window) rfl ?_))
  refine h.stn (b := b1) rfl rfl (Nat.le_of_ble_eq_true rfl) fun w6 h => ?_
  rw [putCh] at h
  refine ldCh (b := b1) (v := mkC (initC x.e kind l) ps' SlV.nil) h ?_
  refine k ps' pv' w6 ?_
  have h := h.drop
  have h := keep.and (keep.of (φ := fun w => Sl w 2 ParamV.val ps' pv') (fun w' h' => h'.sl) h)
  exact keep.map (fun w h => ⟨h.1, h.2, Sl.nil w⟩) h)
end Go.Vc.SA
