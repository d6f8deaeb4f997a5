/-
  The document's cookie, opened; the first words.
-/
import Derived.Test.YtobldgdfejpckaaCA9d
set_option linter.all false
set_option linter.unusedVariables false
set_option maxRecDepth 100000
namespace Go.Vc.SA
open Go.Proofs Go.Vc.Sha

theorem rtC {b1 b2 : Nat} {v : CookieV} {e : Int} {w : World} {H H' H'' : List HA} {cs : List Value} {K : CookieV × Int → World → Prop} [c2 : CellsIn b2 H (CookieV.val v).cells.toList 36 H''] [ci : CellsIn b1 H cs 36 H'] (h : St w H) (hl : cs.length = 11)
    (k : ∀ w', St w' (cellsA b1 (CookieV.val v).cells.toList 36 :: H') → K (v, e) w') : loadP w ⟨b2, 0, none⟩ 11 CookieV.val fun y => storeP w ⟨b1, 0, none⟩ 11 (CookieV.val y) fun w2 => loadP w2 ⟨b1, 0, none⟩ 11 CookieV.val fun x => K (x, e) w2 :=
  h.ldn (b := b2) (x := v) rfl rfl (retC (b := b1) h hl k)

theorem still_i {α : Type} {s : Sem Value} {w : World} {val : α → Value} {y : α} (h : readP P s w val (fun x => x = y)) : Still P s w (val y) := by
  obtain ⟨x, h1, rfl⟩ := h.ex
  exact h1
theorem fld_at {b : List Int} {i : Nat} {x : Int} (hB : Bytes b) (h : b[i]? = some x) : fld b i 1 = x := by
  have h1 := (List.getElem?_eq_some_iff.1 h).1
  have h2 := (List.getElem?_eq_some_iff.1 h).2
  have : (b.drop i).take 1 = [x] := by rw [List.drop_eq_getElem_cons h1, h2]; rfl
  have hx := hB x (List.mem_of_getElem? h)
  unfold fld
  rw [this]
  simp only [num, List.foldl]
  omega
theorem fld_hi {b : List Int} {i : Nat} (hB : Bytes b) (h : i + 2 ≤ b.length) : IntKind.u8.wrap (IntKind.u64.wrap (Int.tdiv (fld b i 2) 256)) = fld b i 1 := by
  have h0 : i < b.length := by omega
  have h1 : i + 1 < b.length := by omega
  have e2 : (b.drop i).take 2 = [b[i], b[i + 1]] := by
    rw [List.drop_eq_getElem_cons h0, List.drop_eq_getElem_cons h1]; rfl
  have e1 : (b.drop i).take 1 = [b[i]] := by rw [List.drop_eq_getElem_cons h0]; rfl
  have hx := hB _ (List.getElem_mem h0)
  have hy := hB _ (List.getElem_mem h1)
  unfold fld
  rw [e1, e2]
  simp only [num, List.foldl]
  rw [Int.tdiv_eq_ediv_of_nonneg (by omega), wrap_u64, wrap_u8]
  omega
theorem w32 {x : Int} (h : 0 ≤ x ∧ x < 4294967296) : IntKind.u32.wrap x = x := by rw [wrap_u32]; omega
theorem BLB {l : List Int} (h : BL l) : Bytes l := h

set_option maxHeartbeats 1000000 in
theorem c26 {key b : SlV} {kk bb : List Int} {now : Int} {w : World} {K : CookieV × Int → World → Prop} (hk : Sl w 1 (Value.int .u8) key kk) (hkl : kk.length ≤ 1048576) (hb : Sl w 1 (Value.int .u8) b bb) (hBk : BL kk) (hB : BL bb) (hnow : 0 ≤ now ∧ now < 4294967296)
    (k : ∀ w', St w' [.old w] → K (opn kk bb now) w') : callP P 26 #[key.val, b.val, .int .u32 now] w (tup2V CookieV.val (Value.int .i64)) K := sf26_call _ _ _ _ _ (by
  refine (St.start w).nw fun b1 w1 h => h.nw fun b2 w2 h => ?_
  have hbl := hb.len
  have hbc := hb.1.2.1
  have h : St w2 [cellsA b2 (CookieV.val zc).cells.toList 36, cellsA b1 (CookieV.val zc).cells.toList 36, .old w] := h
  unfold opn at k
  rw [hbl]
  refine cond_i (fun e => ?_) (fun e => ?_)
  · have e : bb.length < 70 := by simp at e; omega
    rw [if_pos e] at k
    exact rtC (b1 := b1) (b2 := b2) h rfl fun w' h => k _ h.re
  have e1 : ¬ bb.length < 70 := by simp at e; omega
  rw [if_neg e1] at k
  refine cond_i (fun e => ?_) (fun e => ?_)
  · have e : bb.length > 70 := by simp at e; omega
    rw [if_pos e] at k
    exact rtC (b1 := b1) (b2 := b2) h rfl fun w' h => k _ h.re
  have e2 : ¬ bb.length > 70 := by simp at e; omega
  rw [if_neg e2] at k
  have hl : bb.length = 70 := by omega
  refine chk_i (leR_i (by omega) (by omega)) ?_
  have hs0 : Sl w 1 (Value.int .u8) (SlV.sub b 0 38 b.cap 1) _ := Sl.sub (l := 0) (m := 38) hb (by omega) (by omega)
  rw [List.drop_zero] at hs0
  have h := h.drew
  refine Sl.str (hb.old (h.re : St w2.drew [.old w])) und22 und5 und9 ?_
  refine c24 (hk.old (h.re : St w2.drew [.old w])) (hs0.old (h.re : St w2.drew [.old w])) hBk (fun x hx => hB x (List.mem_of_mem_take hx)) hkl (by simp; omega) fun r8 w5 h' => ?_
  have h := h.thaw1 h'
  refine ⟨still_i (Sl.str (K := fun x => x = strOf bb) (hb.old (h.re : St w5 [.old w])) und22 und5 und9 rfl), ?_⟩
  have hml := hmac_len kk (bb.take 38)
  have hBt : BL (bb.take 38 ++ hmac kk (bb.take 38)) := BL_append (fun x hx => hB x (List.mem_of_mem_take hx)) (by unfold hmac; exact BL_sha _)
  refine Sl.str (h.slIn (s := r8)) und22 und5 und9 ?_
  rw [strOf_beq hBt hB]
  have hiff : (bb.take 38 ++ hmac kk (bb.take 38) = bb) ↔ hmac kk (bb.take 38) = bb.drop 38 := by
    constructor
    · intro e
      have e3 := congrArg (List.drop 38) e
      rw [List.drop_append_of_le_length (by simp; omega), List.drop_of_length_le (by simp; omega), List.nil_append] at e3
      exact e3
    · intro e; rw [e, List.take_append_drop]
  refine cond_i (fun e => ?_) (fun e => ?_)
  · rw [if_pos (fun e2 => by rw [decide_eq_true (hiff.2 e2)] at e; simp at e)] at k
    exact rtC (b1 := b1) (b2 := b2) h rfl fun w' h => k _ h.re
  have e3 : hmac kk (bb.take 38) = bb.drop 38 := by
    rcases Decidable.em (hmac kk (bb.take 38) = bb.drop 38) with h | h
    · exact h
    · rw [decide_eq_false (fun e2 => h (hiff.1 e2))] at e; simp at e
  rw [if_neg (fun e => e e3)] at k
  clear e hiff hBt hml
  obtain ⟨p, hp⟩ : ∃ p, bb[25]? = some p := ⟨_, List.getElem?_eq_getElem (by omega)⟩
  have hp2 := fld_at (BLB hB) hp
  rw [hp2] at k
  rw [← hbl]
  refine (hb.old (h.re : St w5 [.old w])).atN (i := 25) hp fun _ _ => ?_
  refine cond_i (fun e => ?_) (fun e => ?_)
  · rw [if_pos (by simpa using e)] at k
    exact rtC (b1 := b1) (b2 := b2) h rfl fun w' h => k _ h.re
  rw [if_neg (by simpa using e)] at k
  refine h.nw fun b16 w8 h => h.nw fun b17 w9 h => ?_
  refine h.stn (b := b17) rfl rfl (Nat.le_of_ble_eq_true rfl) fun w10 h => ?_
  rw [putL_all _ _ rfl] at h
  have h : St w10 [cellsA b17 (CookieV.val zc).cells.toList 36, cellsA b16 (tp b 0) 118, cellsA b2 (CookieV.val zc).cells.toList 36, cellsA b1 (CookieV.val zc).cells.toList 36, .old w] := (h.re : St w10 [cellsA b17 (CookieV.val zc).cells.toList 36, cellsA b16 (TapeV.val ({ B := b, At := 0, Bad := false } : TapeV)).cells.toList 118, cellsA b2 (CookieV.val zc).cells.toList 36, cellsA b1 (CookieV.val zc).cells.toList 36, .old w])
  have hx : bb.length ≤ 1099511627776 := by omega
  refine c58 (t := b16) (s := b) (i := 0) (n := 4) h (fun w' h => h.re) hb (by omega) hx (by omega) hB fun w11 h => ?_
  rw [show num ((bb.drop 0).take 4) = fld bb 0 4 from rfl, w32 (fld_4 (BLB hB) _ _)]
  refine h.stna (b := b17) rfl rfl (Nat.le_of_ble_eq_true rfl) fun w12 h => ?_
  refine c58 (t := b16) (s := b) (i := 4) (n := 4) h (fun w' h => h.re) hb (by omega) hx (by omega) hB fun w13 h => ?_
  rw [show num ((bb.drop 4).take 4) = fld bb 4 4 from rfl, w32 (fld_4 (BLB hB) _ _)]
  refine h.stna (b := b17) rfl rfl (Nat.le_of_ble_eq_true rfl) fun w14 h => ?_
  refine c58 (t := b16) (s := b) (i := 8) (n := 4) h (fun w' h => h.re) hb (by omega) hx (by omega) hB fun w15 h => ?_
  rw [show num ((bb.drop 8).take 4) = fld bb 8 4 from rfl, w32 (fld_4 (BLB hB) _ _)]
  refine h.stna (b := b17) rfl rfl (Nat.le_of_ble_eq_true rfl) fun w16 h => ?_
  refine c58 (t := b16) (s := b) (i := 12) (n := 4) h (fun w' h => h.re) hb (by omega) hx (by omega) hB fun w17 h => ?_
  rw [show num ((bb.drop 12).take 4) = fld bb 12 4 from rfl, w32 (fld_4 (BLB hB) _ _)]
  refine h.stna (b := b17) rfl rfl (Nat.le_of_ble_eq_true rfl) fun w18 h => ?_
  refine c58 (t := b16) (s := b) (i := 16) (n := 4) h (fun w' h => h.re) hb (by omega) hx (by omega) hB fun w19 h => ?_
  rw [show num ((bb.drop 16).take 4) = fld bb 16 4 from rfl, w32 (fld_4 (BLB hB) _ _)]
  refine h.stna (b := b17) rfl rfl (Nat.le_of_ble_eq_true rfl) fun w20 h => ?_
  refine c58 (t := b16) (s := b) (i := 20) (n := 2) h (fun w' h => h.re) hb (by omega) hx (by omega) hB fun w21 h => ?_
  rw [show num ((bb.drop 20).take 2) = fld bb 20 2 from rfl, fld_2 (BLB hB)]
  refine h.stna (b := b17) rfl rfl (Nat.le_of_ble_eq_true rfl) fun w22 h => ?_
  refine c58 (t := b16) (s := b) (i := 22) (n := 2) h (fun w' h => h.re) hb (by omega) hx (by omega) hB fun w23 h => ?_
  rw [show num ((bb.drop 22).take 2) = fld bb 22 2 from rfl, fld_2 (BLB hB)]
  refine h.stna (b := b17) rfl rfl (Nat.le_of_ble_eq_true rfl) fun w24 h => ?_
  refine c58 (t := b16) (s := b) (i := 24) (n := 2) h (fun w' h => h.re) hb (by omega) hx (by omega) hB fun w25 h => ?_
  rw [show num ((bb.drop 24).take 2) = fld bb 24 2 from rfl, fld_hi (BLB hB) (by omega)]
  refine h.stna (b := b17) rfl rfl (Nat.le_of_ble_eq_true rfl) fun w26 h => ?_
  refine c58 (t := b16) (s := b) (i := 26) (n := 4) h (fun w' h => h.re) hb (by omega) hx (by omega) hB fun w27 h => ?_
  rw [show num ((bb.drop 26).take 4) = fld bb 26 4 from rfl, w32 (fld_4 (BLB hB) _ _)]
  refine h.stna (b := b17) rfl rfl (Nat.le_of_ble_eq_true rfl) fun w28 h => ?_
  refine c58 (t := b16) (s := b) (i := 30) (n := 4) h (fun w' h => h.re) hb (by omega) hx (by omega) hB fun w29 h => ?_
  rw [show num ((bb.drop 30).take 4) = fld bb 30 4 from rfl, w32 (fld_4 (BLB hB) _ _)]
  refine h.stna (b := b17) rfl rfl (Nat.le_of_ble_eq_true rfl) fun w30 h => ?_
  refine c58 (t := b16) (s := b) (i := 34) (n := 4) h (fun w' h => h.re) hb (by omega) hx (by omega) hB fun w31 h => ?_
  rw [show num ((bb.drop 34).take 4) = fld bb 34 4 from rfl, w32 (fld_4 (BLB hB) _ _)]
  refine h.stna (b := b17) rfl rfl (Nat.le_of_ble_eq_true rfl) fun w32 h => ?_
  have h : St w32 (cellsA b17 (CookieV.val (parse bb)).cells.toList 36 :: _) := h
  refine h.lda (b := b17) (x := (parse bb).Made) rfl ?_
  refine c59 (fld_4 (BLB hB) _ _) hnow ?_
  refine cond_i (fun e => ?_) (fun e => ?_)
  · rw [if_pos (by simpa using e)] at k
    have h : St w32 [cellsA b2 (CookieV.val zc).cells.toList 36, cellsA b1 (CookieV.val zc).cells.toList 36, .old w] := h.re
    exact rtC (b1 := b1) (b2 := b2) h rfl fun w' h => k _ h.re
  rw [if_neg (by simpa using e)] at k
  have h : St w32 [cellsA b17 (CookieV.val (parse bb)).cells.toList 36, cellsA b1 (CookieV.val zc).cells.toList 36, .old w] := h.re
  exact rtC (b1 := b1) (b2 := b17) h rfl fun w' h => k _ h.re)
end Go.Vc.SA
