/-
  cookie: contracts.
-/
import Derived.Test.YtobldgdfejpckaaCA9
set_option linter.all false
set_option linter.unusedVariables false
set_option maxRecDepth 100000
namespace Go.Vc.SA
open Go.Proofs Go.Vc.Sha

def body (c : CookieV) : List Int := ([c.Tag, c.Peer, c.Tsn, c.PeerTsn, c.Window].map be4).flatten ++ be2 c.Out ++ be2 c.In ++ [c.Features] ++ [0] ++ ([c.Made, c.TieTag, c.TiePeer].map be4).flatten
theorem body_len (c : CookieV) : (body c).length = 38 := rfl
def made (kk : List Int) (c : CookieV) : List Int := body c ++ hmac kk (body c)
theorem made_len (kk : List Int) (c : CookieV) : (made kk c).length = 70 := by simp [made, body_len, hmac_len]
def fld (b : List Int) (i n : Nat) : Int := num ((b.drop i).take n)
def parse (b : List Int) : CookieV := ⟨fld b 0 4, fld b 4 4, fld b 8 4, fld b 12 4, fld b 16 4, fld b 20 2, fld b 22 2, fld b 24 1, fld b 26 4, fld b 30 4, fld b 34 4⟩
abbrev zc : CookieV := { Tag := 0, Peer := 0, Tsn := 0, PeerTsn := 0, Window := 0, Out := 0, In := 0, Features := 0, Made := 0, TieTag := 0, TiePeer := 0 }
def opn (kk bb : List Int) (now : Int) : CookieV × Int :=
  if bb.length < 70 then (zc, 40) else if bb.length > 70 then (zc, 41) else if hmac kk (bb.take 38) ≠ bb.drop 38 then (zc, 90)
  else if fld bb 25 1 ≠ 0 then (zc, 42) else if IntKind.u32.wrap (now - (parse bb).Made) > 600 then (zc, 91) else (parse bb, 0)
theorem be4_len (v : Int) : (be4 v).length = 4 := rfl
theorem be4s_len : ∀ (l : List Int), ((l.map be4).flatten).length = 4 * l.length
  | [] => rfl
  | v :: l => by
    have := be4s_len l
    simp only [List.map_cons, List.flatten_cons, List.length_append, List.length_cons, be4_len]
    omega
theorem be4s_snoc {l : List Int} {i : Nat} {x : Int} (h : l[i]? = some x) : ((l.take (i + 1)).map be4).flatten = ((l.take i).map be4).flatten ++ be4 x := by
  rw [take_snoc h]; simp

/-- cookie.Make -/
theorem c22 {key : SlV} {kk : List Int} {c : CookieV} {w : World} {K : SlV → World → Prop} (hk : Sl w 1 (Value.int .u8) key kk) (hkl : kk.length ≤ 1048576)
    (k : ∀ r w', St w' [SlO 1 (Value.int .u8) r (made kk c), .old w] → K r w') : callP P 22 #[key.val, CookieV.val c] w SlV.val K := sf22_call _ _ _ _ (by
  refine (St.start w).nw fun b1 w1 h => h.nw fun b2 w2 h => ?_
  refine h.lda (b := b1) rfl (h.lda (b := b1) rfl (h.lda (b := b1) rfl (h.lda (b := b1) rfl (h.lda (b := b1) rfl ?_))))
  refine h.nw fun b8 w3 h => ?_
  have h0 : St w3 [cellsA b8 (arrI .u32 [c.Tag, c.Peer, c.Tsn, c.PeerTsn, c.Window]) 33, cellsA b2 [SlV.nil.val] 102, cellsA b1 (CookieV.val c).cells.toList 36, .old w] := h
  have h1 : St w3 (Wr b2 [] :: [cellsA b8 (arrI .u32 [c.Tag, c.Peer, c.Tsn, c.PeerTsn, c.Window]) 33, cellsA b1 (CookieV.val c).cells.toList 36, .old w]) := Wr.mk (s := SlV.nil) ((SlO.nil (n := 1) (val := Value.int .u8) h0).re)
  clear h h0
  refine loop_cnt (n := 5) (fun i w' => St w' (Wr b2 (([c.Tag, c.Peer, c.Tsn, c.PeerTsn, c.Window].take i).map be4).flatten :: [cellsA b8 (arrI .u32 [c.Tag, c.Peer, c.Tsn, c.PeerTsn, c.Window]) 33, cellsA b1 (CookieV.val c).cells.toList 36, .old w])) h1 ?_ ?_
  · rintro g i w4 next hi h hn
    refine cond_t (lt_true hi) (chk_i (inR_i (by omega) (by omega)) ?_)
    obtain ⟨x, hx⟩ : ∃ x, [c.Tag, c.Peer, c.Tsn, c.PeerTsn, c.Window][i]? = some x := ⟨_, List.getElem?_eq_getElem (by simpa using hi)⟩
    refine h.ldI (b := b8) hx ?_
    refine c47 (b := b2) h (by rw [be4s_len]; simp; omega) fun w5 h => ?_
    rw [wrap_succ (by omega)]
    refine hn _ ?_
    rw [be4s_snoc hx]
    exact h
  rintro g w4 next h
  refine cond_f (by decide) ?_
  rw [List.take_of_length_le (by simp)] at h
  refine h.lda (b := b1) (x := c.Out) rfl ?_
  refine c48 (b := b2) h (by simp [be4, be2]) fun w5 h => ?_
  refine h.lda (b := b1) (x := c.In) rfl ?_
  refine c48 (b := b2) h (by simp [be4, be2]) fun w6 h => ?_
  refine h.lda (b := b1) (x := c.Features) rfl ?_
  refine c49 (b := b2) h (by simp [be4, be2]) fun w7 h => ?_
  refine c49 (b := b2) h (by simp [be4, be2]) fun w8 h => ?_
  refine h.lda (b := b1) (x := c.Made) rfl (h.lda (b := b1) (x := c.TieTag) rfl (h.lda (b := b1) (x := c.TiePeer) rfl ?_))
  generalize hpre : ([c.Tag, c.Peer, c.Tsn, c.PeerTsn, c.Window].map be4).flatten ++ be2 c.Out ++ be2 c.In ++ [c.Features] ++ [0] = pre at h
  have hpl : pre.length = 26 := by rw [← hpre]; simp [be4, be2]
  refine h.nw fun b23 w9 h => ?_
  have h : St w9 (cellsA b23 (arrI .u32 [c.Made, c.TieTag, c.TiePeer]) 33 :: _) := h
  have h1 : St w9 (Wr b2 pre :: [cellsA b23 (arrI .u32 [c.Made, c.TieTag, c.TiePeer]) 33, .old w]) := h.re
  refine loop_cnt (n := 3) (fun i w' => St w' (Wr b2 (pre ++ (([c.Made, c.TieTag, c.TiePeer].take i).map be4).flatten) :: [cellsA b23 (arrI .u32 [c.Made, c.TieTag, c.TiePeer]) 33, .old w])) (by simpa using h1) ?_ ?_
  · rintro g i w10 next hi h hn
    refine cond_t (lt_true hi) (chk_i (inR_i (by omega) (by omega)) ?_)
    obtain ⟨x, hx⟩ : ∃ x, [c.Made, c.TieTag, c.TiePeer][i]? = some x := ⟨_, List.getElem?_eq_getElem (by simpa using hi)⟩
    refine h.ldI (b := b23) hx ?_
    refine c47 (b := b2) h (by rw [List.length_append, be4s_len]; simp; omega) fun w11 h => ?_
    rw [wrap_succ (by omega)]
    refine hn _ ?_
    rw [be4s_snoc hx, ← List.append_assoc]
    exact h
  rintro g w10 next h
  refine cond_f (by decide) ?_
  rw [List.take_of_length_le (by simp)] at h
  have hb : pre ++ ([c.Made, c.TieTag, c.TiePeer].map be4).flatten = body c := by rw [← hpre]; rfl
  rw [hb] at h
  clear hb hpre h1
  have hbl := body_len c
  have hm : made kk c = body c ++ hmac kk (body c) := rfl
  rw [hm] at k
  generalize body c = bo at h k hbl
  refine c50 (b := b2) h (by omega) fun r28 w11 h => ?_
  refine h.nw fun b29 w12 h => ?_
  have e1 : ([bo] : List (List Int)).flatten = bo := by simp
  refine c16 (hk.old (h.re : St w12 [.old w])) (Sl.of1 (b := b29) h) (.cons (h.slIn (s := r28)) .nil) hkl (by simp; omega) (by simp) fun w13 h' => ?_
  have h := h.thaw0 h'
  rw [e1]
  have hml := hmac_len kk bo
  generalize hmac kk bo = v at hml k ⊢
  refine h.nwA fun b31 w14 h => ?_
  refine h.stArr (b := b31) hml (by simp) fun w15 h => ?_
  rw [arrSub32]
  refine c51 (b := b2) h (Sl.arr (b := b31) h hml) (by omega) fun w16 h => ?_
  refine c50 (b := b2) h (by simp; omega) fun r33 w17 h => k _ _ ?_
  exact h.re)
end Go.Vc.SA
