/-
  cookie: what is made opens.
-/
import Derived.Test.YtobldgdfejpckaaCA9e
set_option linter.all false
set_option linter.unusedVariables false
set_option maxRecDepth 100000
namespace Go.Vc.SA
open Go.Proofs Go.Vc.Sha

theorem num_be4 {v : Int} (h : W32 v) : num (be4 v) = v := by
  unfold W32 at h
  simp only [num, be4, be2, List.cons_append, List.nil_append, List.foldl]
  omega
theorem num_be2 {v : Int} (h : 0 ≤ v ∧ v < 65536) : num (be2 v) = v := by
  simp only [num, be2, List.foldl]
  omega
theorem parse_body {c : CookieV} (hc : CW c) (l : List Int) : parse (body c ++ l) = c := by
  have e1 : fld (body c ++ l) 0 4 = num (be4 c.Tag) := rfl
  have e2 : fld (body c ++ l) 4 4 = num (be4 c.Peer) := rfl
  have e3 : fld (body c ++ l) 8 4 = num (be4 c.Tsn) := rfl
  have e4 : fld (body c ++ l) 12 4 = num (be4 c.PeerTsn) := rfl
  have e5 : fld (body c ++ l) 16 4 = num (be4 c.Window) := rfl
  have e6 : fld (body c ++ l) 20 2 = num (be2 c.Out) := rfl
  have e7 : fld (body c ++ l) 22 2 = num (be2 c.In) := rfl
  have e8 : fld (body c ++ l) 24 1 = num [c.Features] := rfl
  have e9 : fld (body c ++ l) 26 4 = num (be4 c.Made) := rfl
  have e10 : fld (body c ++ l) 30 4 = num (be4 c.TieTag) := rfl
  have e11 : fld (body c ++ l) 34 4 = num (be4 c.TiePeer) := rfl
  have hf : num [c.Features] = c.Features := by have := hc.fea; unfold B8 at this; simp only [num, List.foldl]; omega
  unfold parse
  rw [e1, e2, e3, e4, e5, e6, e7, e8, e9, e10, e11, num_be4 hc.tag, num_be4 hc.peer, num_be4 hc.tsn, num_be4 hc.ptsn, num_be4 hc.win, num_be2 hc.out, num_be2 hc.inn, num_be4 hc.made, num_be4 hc.tie, num_be4 hc.tip, hf]
theorem opn_made {c : CookieV} (hc : CW c) (kk : List Int) (now : Int) : opn kk (made kk c) now = if IntKind.u32.wrap (now - c.Made) > 600 then (zc, 91) else (c, 0) := by
  unfold opn
  have h0 := made_len kk c
  have h1 : (made kk c).take 38 = body c := by unfold made; rw [List.take_append_of_le_length (by rw [body_len]; omega), List.take_of_length_le (by rw [body_len]; omega)]
  have h2 : (made kk c).drop 38 = hmac kk (body c) := by unfold made; rw [List.drop_append_of_le_length (by rw [body_len]; omega), List.drop_of_length_le (by rw [body_len]; omega), List.nil_append]
  have h3 : fld (made kk c) 25 1 = 0 := rfl
  have h4 : parse (made kk c) = c := parse_body hc _
  rw [if_neg (by omega), if_neg (by omega), h1, h2, if_neg (by simp), h3, if_neg (by simp), h4]
theorem BL_be4 (v : Int) : BL (be4 v) := by
  intro x hx
  simp only [be4, be2, List.cons_append, List.nil_append, List.mem_cons, List.not_mem_nil, or_false] at hx
  unfold B8
  rcases hx with rfl | rfl | rfl | rfl <;> omega
theorem BL_be2 (v : Int) : BL (be2 v) := by
  intro x hx
  simp only [be2, List.mem_cons, List.not_mem_nil, or_false] at hx
  unfold B8
  rcases hx with rfl | rfl <;> omega
theorem BL_be4s : ∀ (l : List Int), BL (l.map be4).flatten
  | [] => by intro x hx; simp at hx
  | v :: l => by
    rw [List.map_cons, List.flatten_cons]
    exact BL_append (BL_be4 v) (BL_be4s l)
theorem BL_hmac (k m : List Int) : BL (hmac k m) := by unfold hmac; exact BL_sha _
theorem BL_body {c : CookieV} (hc : CW c) : BL (body c) := by
  have h1 : BL [c.Features] := by intro x hx; simp at hx; subst hx; exact hc.fea
  have h2 : BL [0] := by intro x hx; simp at hx; subst hx; unfold B8; omega
  exact BL_append (BL_append (BL_append (BL_append (BL_append (BL_be4s _) (BL_be2 _)) (BL_be2 _)) h1) h2) (BL_be4s _)
theorem BL_made {c : CookieV} (hc : CW c) (kk : List Int) : BL (made kk c) := BL_append (BL_body hc) (BL_hmac _ _)

/-- []byte("..") of a literal laid before -/
theorem St.markB {b n : Nat} {xs : List Int} {t e : TypeId} {w : World} {H H' : List HA} {K : SlV → World → Prop} [c : CellsIn b H (arrI .u8 xs) e H'] (h : St w H) (ht : P.underlying t = some (.slice e)) (he : P.underlying e = some (.int .u8))
    (k : ∀ w', St w' (LitB b xs e :: H') → K ⟨some ⟨b, 0, none⟩, n, n⟩ w') : runP P (convert t t (SlV.mk (some (⟨b, 0, none⟩ : Addr)) n n).val) w SlV.val K := by
  have h := (c.imp w).st h
  have hb : w.heap[b]? = some (.cells (arrI .u8 xs).toArray e) := h.own
  refine ⟨⟨⟨some ⟨b, 0, none⟩, n, n⟩, w.putObj b (.cells (arrI .u8 xs).toArray e (xs.length, xs.length + 1)), ?_, k _ (h.put _)⟩⟩
  have hsh : w.shape? b = some (e, xs.length) := by unfold World.shape?; rw [hb]; simp
  have hfr : w.freeze ⟨b, xs.length, none⟩ 1 = w.putObj b (.cells (arrI .u8 xs).toArray e (xs.length, xs.length + 1)) := by
    unfold World.freeze World.putObj
    rw [if_neg (by decide)]
    congr 1
    apply Array.ext_getElem?
    intro i
    by_cases hi : b = i
    · subst hi
      have hlt := (Array.getElem?_eq_some_iff.1 hb).1
      rw [Array.getElem?_setIfInBounds_self, if_pos hlt, Array.getElem?_modify, hb]
      simp
    · rw [Array.getElem?_setIfInBounds_ne hi, Array.getElem?_modify, if_neg hi]
  simp [SlV.val, convert, run_underlying ht, run_underlying he, markStringish, hsh]
  exact hfr

set_option maxHeartbeats 1000000 in
/-- first -/
theorem c21 {w : World} {H : List HA} {K : Bool → World → Prop} (h : St w H) (k : ∀ w', St w' H → K true w') : callP P 21 #[] w Value.bool K := sf21_call _ _ (by
  have hc : CW ({ Tag := (7 : Int), Peer := 0, Tsn := 0, PeerTsn := 0, Window := 0, Out := 0, In := 0, Features := 0, Made := (100 : Int), TieTag := 0, TiePeer := 0 } : CookieV) := ⟨⟨by decide, by decide⟩, ⟨by decide, by decide⟩, ⟨by decide, by decide⟩, ⟨by decide, by decide⟩, ⟨by decide, by decide⟩, ⟨by decide, by decide⟩, ⟨by decide, by decide⟩, ⟨by decide, by decide⟩, ⟨by decide, by decide⟩, ⟨by decide, by decide⟩, ⟨by decide, by decide⟩⟩
  refine h.litB [107] und22 und5 rfl fun b1 w1 h => ?_
  refine c22 (kk := [107]) (LitB.sl h rfl (by omega)) (by decide) fun r3 w3 h' => ?_
  have h := h.thaw1 h'
  have ho0 : opn [107] (made [107] { Tag := (7 : Int), Peer := 0, Tsn := 0, PeerTsn := 0, Window := 0, Out := 0, In := 0, Features := 0, Made := (100 : Int), TieTag := 0, TiePeer := 0 }) 700 = ({ Tag := (7 : Int), Peer := 0, Tsn := 0, PeerTsn := 0, Window := 0, Out := 0, In := 0, Features := 0, Made := (100 : Int), TieTag := 0, TiePeer := 0 }, 0) := by rw [opn_made hc]; exact if_neg (by decide)
  have ho1 : opn [107] (made [107] { Tag := (7 : Int), Peer := 0, Tsn := 0, PeerTsn := 0, Window := 0, Out := 0, In := 0, Features := 0, Made := (100 : Int), TieTag := 0, TiePeer := 0 }) 701 = (zc, 91) := by rw [opn_made hc]; exact if_pos (by decide)
  have hml := made_len [107] ({ Tag := (7 : Int), Peer := 0, Tsn := 0, PeerTsn := 0, Window := 0, Out := 0, In := 0, Features := 0, Made := (100 : Int), TieTag := 0, TiePeer := 0 } : CookieV)
  have hmB := BL_made hc [107]
  generalize made [107] ({ Tag := (7 : Int), Peer := 0, Tsn := 0, PeerTsn := 0, Window := 0, Out := 0, In := 0, Features := 0, Made := (100 : Int), TieTag := 0, TiePeer := 0 } : CookieV) = mm at h ho0 ho1 hml hmB
  refine h.litB [107] und22 und5 rfl fun b4 w4 h => ?_
  refine c23 (kk := [107]) (LitB.sl h rfl (by omega)) (by decide) (h.slIn (s := r3)) hmB fun w6 h' => ?_
  have h := h.thaw0 h'
  rw [ho0]
  refine h.nw fun b7 w7 h => ?_
  refine h.stn (b := b7) rfl rfl (Nat.le_of_ble_eq_true rfl) fun w8 h => ?_
  refine h.litB [107] und22 und5 rfl fun b8 w10 h => ?_
  refine c23 (kk := [107]) (LitB.sl h rfl (by omega)) (by decide) (h.slIn (s := r3)) hmB fun w11 h' => ?_
  have h := h.thaw0 h'
  rw [ho1]
  refine h.nw fun b11 w12 h => ?_
  refine h.stn (b := b11) rfl rfl (Nat.le_of_ble_eq_true rfl) fun w13 h => ?_
  have hl := (h.slIn (s := r3)).len
  have hcap := (h.slIn (s := r3)).1.2.1
  refine cond_f (by rw [hl, hml]; rfl) ?_
  refine h.litB [107] und22 und5 rfl fun b12 w15 h => ?_
  refine chk_i (leR_i (by omega) (by omega)) (chk_i (leR_i (by omega) (by omega)) ?_)
  have hs1 : Sl w15 1 (Value.int .u8) (SlV.sub r3 1 r3.len r3.cap 1) _ := Sl.sub (l := 1) (m := r3.len) (h.slIn (s := r3)) (by omega) (by omega)
  rw [hl, List.take_length] at hs1
  rw [hl]
  refine c23 (kk := [107]) (LitB.sl h rfl (by omega)) (by decide) hs1 (fun x hx => hmB x (List.mem_of_mem_drop hx)) fun w16 h' => ?_
  have h := h.thaw0 h'
  have h40 : opn [107] (mm.drop 1) 700 = (zc, 40) := by unfold opn; rw [if_pos (by simp; omega)]
  rw [h40]
  refine h.nw fun b15 w17 h => ?_
  refine h.stn (b := b15) rfl rfl (Nat.le_of_ble_eq_true rfl) fun w18 h => ?_
  refine cond_t (by decide) ?_
  refine h.lda (b := b7) (x := 7) rfl (cond_t rfl (cond_t (by decide) ?_))
  exact k _ h.drop.drop.drop.drop.drop.drop.drop.drop)
end Go.Vc.SA
