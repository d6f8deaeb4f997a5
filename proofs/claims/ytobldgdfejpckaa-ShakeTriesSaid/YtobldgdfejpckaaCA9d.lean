/-
  The document's cookie: contracts.
-/
import Derived.Test.YtobldgdfejpckaaCA9c
import Derived.Laws.Strings
set_option linter.all false
set_option linter.unusedVariables false
set_option maxRecDepth 100000
namespace Go.Vc.SA
open Go.Proofs Go.Vc.Sha

theorem strOf_data (xs : List Int) : (strOf xs).data.toList = xs.map fun n => UInt8.ofNat n.toNat := by
  have g : ∀ (xs : List Int) (r : ByteArray), (xs.foldl (fun r n => r.push (UInt8.ofNat n.toNat)) r).data.toList = r.data.toList ++ xs.map fun n => UInt8.ofNat n.toNat := by
    intro xs
    induction xs with
    | nil => intro r; simp
    | cons x xs ih => intro r; rw [List.foldl_cons, ih]; simp [ByteArray.push]
  have := g xs ByteArray.empty
  simpa [strOf] using this
theorem strOf_inj : ∀ {xs ys : List Int}, BL xs → BL ys → (xs.map fun n => UInt8.ofNat n.toNat) = (ys.map fun n => UInt8.ofNat n.toNat) → xs = ys
  | [], [], _, _, _ => rfl
  | [], _ :: _, _, _, h => by simp at h
  | _ :: _, [], _, _, h => by simp at h
  | x :: xs, y :: ys, hx, hy, h => by
    simp only [List.map_cons, List.cons.injEq] at h
    have h1 := congrArg UInt8.toNat h.1
    simp only [UInt8.toNat_ofNat'] at h1
    have hx0 := hx x (by simp)
    have hy0 := hy y (by simp)
    unfold B8 at hx0 hy0
    have : x = y := by omega
    subst this
    rw [strOf_inj (fun z hz => hx z (by simp [hz])) (fun z hz => hy z (by simp [hz])) h.2]
theorem strOf_beq {xs ys : List Int} (hx : BL xs) (hy : BL ys) : ((strOf xs).toList == (strOf ys).toList) = decide (xs = ys) := by
  rw [ByteArray.toList_eq, ByteArray.toList_eq, strOf_data, strOf_data]
  by_cases h : xs = ys
  · subst h; simp
  · rw [decide_eq_false h]
    rw [beq_eq_false_iff_ne]
    exact fun e => h (strOf_inj hx hy e)

/-- the reference seal -/
theorem c24 {key b : SlV} {kk bb : List Int} {w : World} {K : SlV → World → Prop} (hk : Sl w 1 (Value.int .u8) key kk) (hb : Sl w 1 (Value.int .u8) b bb) (hB : BL kk) (hBb : BL bb) (hkl : kk.length ≤ 1048576) (hbl : bb.length ≤ 1048576)
    (k : ∀ r w', St w' [SlO 1 (Value.int .u8) r (bb ++ hmac kk bb), .old w] → K r w') : callP P 24 #[key.val, b.val] w SlV.val K := sf24_call _ _ _ _ (by
  refine (St.start w).nw fun b1 w1 h => ?_
  refine St.fresh h (hb.old (h.re : St w1 [.old w])) (by omega) fun r2 w2 h => ?_
  refine c18 (hk.old (h.re : St w2 [.old w])) (hb.old (h.re : St w2 [.old w])) hB hBb hkl hbl fun w3 h' => ?_
  have h := h.thaw0 h'
  have hml := hmac_len kk bb
  generalize hmac kk bb = v at hml k ⊢
  refine h.nwA fun b4 w4 h => ?_
  refine h.stArr (b := b4) hml (by simp) fun w5 h => ?_
  refine loop_cnt2 (n := 32) (fun i s w' => St w' [SlO 1 (Value.int .u8) s (bb ++ v.take i), cellsA b4 (arrI .u8 v) 25, .old w]) (by rw [List.take_zero, List.append_nil]; exact h.re) ?_ ?_
  · rintro g i q w9 next hi h hn
    refine cond_t (lt_true hi) ?_
    obtain ⟨x, hx⟩ : ∃ x, v[i]? = some x := ⟨_, List.getElem?_eq_getElem (by omega)⟩
    refine chk_i (inR_i (by omega) (by omega)) (h.ldI (b := b4) hx ?_)
    refine h.nw fun b28 w10 h => ?_
    refine h.appY (s := q) (x := x) slT22 (by omega) rfl (by simp; omega) (by simp; omega) fun r29 w11 h => ?_
    show next (r29, IntKind.i64.wrap ((i : Int) + 1)) w11
    rw [wrap_succ (by omega)]
    refine hn _ _ ?_
    rw [take_snoc hx, ← List.append_assoc]
    exact h.re
  · rintro g q w9 next h
    refine cond_f (by show decide (((32 : Nat) : Int) < 32) = false; decide) ?_
    rw [List.take_of_length_le (by omega)] at h
    exact k _ _ h.re)

structure CW (c : CookieV) : Prop where
  tag : W32 c.Tag
  peer : W32 c.Peer
  tsn : W32 c.Tsn
  ptsn : W32 c.PeerTsn
  win : W32 c.Window
  out : 0 ≤ c.Out ∧ c.Out < 65536
  inn : 0 ≤ c.In ∧ c.In < 65536
  fea : B8 c.Features
  made : W32 c.Made
  tie : W32 c.TieTag
  tip : W32 c.TiePeer
theorem w64 {x : Int} (h : W32 x) : IntKind.u64.wrap x = x := by unfold W32 at h; rw [wrap_u64]; omega

/-- the reference cookie's body -/
theorem c25 {c : CookieV} {w : World} {K : SlV → World → Prop} (hc : CW c) (k : ∀ r w', St w' [SlO 1 (Value.int .u8) r (body c), .old w] → K r w') : callP P 25 #[CookieV.val c] w SlV.val K := sf25_call _ _ _ (by
  refine (St.start w).nw fun b1 w1 h => ?_
  refine h.lda (b := b1) (x := c.Tag) rfl (h.lda (b := b1) (x := c.Peer) rfl (h.lda (b := b1) (x := c.Tsn) rfl (h.lda (b := b1) (x := c.PeerTsn) rfl (h.lda (b := b1) (x := c.Window) rfl ?_))))
  refine h.nw fun b7 w2 h => ?_
  have h : St w2 (cellsA b7 (arrI .u32 [c.Tag, c.Peer, c.Tsn, c.PeerTsn, c.Window]) 33 :: _) := h
  have hw5 : ∀ x ∈ [c.Tag, c.Peer, c.Tsn, c.PeerTsn, c.Window], W32 x := by
    intro x hx
    simp only [List.mem_cons, List.not_mem_nil, or_false] at hx
    rcases hx with rfl | rfl | rfl | rfl | rfl
    · exact hc.tag
    · exact hc.peer
    · exact hc.tsn
    · exact hc.ptsn
    · exact hc.win
  have hw3 : ∀ x ∈ [c.Made, c.TieTag, c.TiePeer], W32 x := by
    intro x hx
    simp only [List.mem_cons, List.not_mem_nil, or_false] at hx
    rcases hx with rfl | rfl | rfl
    · exact hc.made
    · exact hc.tie
    · exact hc.tip
  refine loop_cnt2 (n := 5) (fun i s w' => St w' (SlO 1 (Value.int .u8) s (([c.Tag, c.Peer, c.Tsn, c.PeerTsn, c.Window].take i).map be4).flatten :: [cellsA b7 (arrI .u32 [c.Tag, c.Peer, c.Tsn, c.PeerTsn, c.Window]) 33, cellsA b1 (CookieV.val c).cells.toList 36, .old w])) (SlO.nil h) ?_ ?_
  · rintro g i q w3 next hi h hn
    refine cond_t (lt_true hi) (chk_i (inR_i (by omega) (by omega)) ?_)
    obtain ⟨x, hx⟩ : ∃ x, [c.Tag, c.Peer, c.Tsn, c.PeerTsn, c.Window][i]? = some x := ⟨_, List.getElem?_eq_getElem (by simpa using hi)⟩
    have hx2 := hw5 x (List.mem_of_getElem? hx)
    refine h.ldI (b := b7) hx ?_
    rw [w64 hx2]
    refine c57 (n := 4) h (by omega) fun r11 w4 h => ?_
    rw [beN_4] at h
    refine h.append (s := q) slT22 (by omega) (h.slIn (s := r11)) (by rw [be4s_len]; simp [be4_len]; omega) (by rw [be4s_len, maxLen_eq]; simp [be4_len]; omega) fun r12 w5 h => ?_
    show next (r12, IntKind.i64.wrap ((i : Int) + 1)) w5
    rw [wrap_succ (by omega)]
    refine hn _ _ ?_
    rw [be4s_snoc hx]
    exact h.re
  rintro g q w3 next h
  refine cond_f (by show decide (((5 : Nat) : Int) < 5) = false; decide) ?_
  rw [List.take_of_length_le (by simp)] at h
  have b2l : ∀ v, (be2 v).length = 2 := fun v => rfl
  refine h.lda (b := b1) (x := c.Out) rfl ?_
  rw [w64 ⟨hc.out.1, by have := hc.out.2; omega⟩]
  refine c57 (n := 2) h (by omega) fun r14 w6 h => ?_
  rw [beN_2] at h
  refine h.append (s := q) slT22 (by omega) (h.slIn (s := r14)) (by simp [be4_len, b2l]) (by simp [be4_len, b2l, maxLen_eq]) fun r15 w7 h => ?_
  refine h.lda (b := b1) (x := c.In) rfl ?_
  rw [w64 ⟨hc.inn.1, by have := hc.inn.2; omega⟩]
  refine c57 (n := 2) h (by omega) fun r17 w8 h => ?_
  rw [beN_2] at h
  refine h.append (s := r15) slT22 (by omega) (h.slIn (s := r17)) (by simp [be4_len, b2l]) (by simp [be4_len, b2l, maxLen_eq]) fun r18 w9 h => ?_
  refine h.lda (b := b1) (x := c.Features) rfl ?_
  refine h.nw fun b20 w10 h => ?_
  have h : St w10 (cellsA b20 (arrI .u8 [c.Features, 0]) 5 :: _) := h
  have hs20 : Sl w10 1 (Value.int .u8) ⟨some ⟨b20, 0, none⟩, 2, 2⟩ [c.Features, 0] := Sl.lit (xs := [c.Features, 0]) (h.fcells (b := b20)) rfl (by simp [maxLen_eq])
  refine h.append (s := r18) slT22 (by omega) hs20 (by simp [be4_len, b2l]) (by simp [be4_len, b2l, maxLen_eq]) fun r21 w11 h => ?_
  refine h.lda (b := b1) (x := c.Made) rfl (h.lda (b := b1) (x := c.TieTag) rfl (h.lda (b := b1) (x := c.TiePeer) rfl ?_))
  generalize hpre : ([c.Tag, c.Peer, c.Tsn, c.PeerTsn, c.Window].map be4).flatten ++ be2 c.Out ++ be2 c.In ++ [c.Features, 0] = pre at h
  have hpl : pre.length = 26 := by rw [← hpre]; simp [be4, be2]
  refine h.nw fun b25 w12 h => ?_
  have h : St w12 (cellsA b25 (arrI .u32 [c.Made, c.TieTag, c.TiePeer]) 33 :: _) := h
  have h : St w12 [SlO 1 (Value.int .u8) r21 pre, cellsA b25 (arrI .u32 [c.Made, c.TieTag, c.TiePeer]) 33, .old w] := h.re
  refine loop_cnt2 (n := 3) (fun i s w' => St w' [SlO 1 (Value.int .u8) s (pre ++ (([c.Made, c.TieTag, c.TiePeer].take i).map be4).flatten), cellsA b25 (arrI .u32 [c.Made, c.TieTag, c.TiePeer]) 33, .old w]) (by simpa using h) ?_ ?_
  · rintro g i q w13 next hi h hn
    refine cond_t (lt_true hi) (chk_i (inR_i (by omega) (by omega)) ?_)
    obtain ⟨x, hx⟩ : ∃ x, [c.Made, c.TieTag, c.TiePeer][i]? = some x := ⟨_, List.getElem?_eq_getElem (by simpa using hi)⟩
    have hx2 := hw3 x (List.mem_of_getElem? hx)
    refine h.ldI (b := b25) hx ?_
    rw [w64 hx2]
    refine c57 (n := 4) h (by omega) fun r29 w14 h => ?_
    rw [beN_4] at h
    refine h.append (s := q) slT22 (by omega) (h.slIn (s := r29)) (by rw [List.length_append, be4s_len]; simp [be4_len]; omega) (by rw [List.length_append, be4s_len, maxLen_eq]; simp [be4_len]; omega) fun r30 w15 h => ?_
    show next (r30, IntKind.i64.wrap ((i : Int) + 1)) w15
    rw [wrap_succ (by omega)]
    refine hn _ _ ?_
    rw [be4s_snoc hx, ← List.append_assoc]
    exact h.re
  rintro g q2 w13 next h
  refine cond_f (by show decide (((3 : Nat) : Int) < 3) = false; decide) ?_
  rw [List.take_of_length_le (by simp)] at h
  have hb : pre ++ ([c.Made, c.TieTag, c.TiePeer].map be4).flatten = body c := by rw [← hpre]; rfl
  rw [hb] at h
  exact k _ _ h.re)
end Go.Vc.SA
