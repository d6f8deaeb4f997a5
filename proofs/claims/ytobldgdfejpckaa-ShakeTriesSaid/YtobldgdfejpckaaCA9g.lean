/-
  CookieMakes, CookieOpens, CookieAges: what the calls come to.
-/
import Derived.Test.YtobldgdfejpckaaCA9f
set_option linter.all false
set_option linter.unusedVariables false
set_option maxRecDepth 100000
namespace Go.Vc.SA
open Go.Proofs Go.Vc.Sha

theorem eqC_self (c : CookieV) : ((c.Tag == c.Tag) && ((c.Peer == c.Peer) && ((c.Tsn == c.Tsn) && ((c.PeerTsn == c.PeerTsn) && ((c.Window == c.Window) && ((c.Out == c.Out) && ((c.In == c.In) && ((c.Features == c.Features) && ((c.Made == c.Made) && ((c.TieTag == c.TieTag) && ((c.TiePeer == c.TiePeer) && true))))))))))) = true := by simp
theorem putC {v w : CookieV} : putL (CookieV.val v).cells.toList 0 (CookieV.val w).cells.toList = (CookieV.val w).cells.toList := putL_all _ _ rfl

/-- CookieMakes -/
theorem c7 {key : SlV} {c : CookieV} {later : Int} {kk : List Int} {w : World} {K : Bool → World → Prop} (hk : Sl w 1 (Value.int .u8) key kk) (hB : BL kk) (hc : CW c) (hl : W32 later) (k : ∀ w', St w' [.old w] → K true w') :
    callP P 7 #[key.val, CookieV.val c, .int .u32 later] w Value.bool K := sf7_call _ _ _ _ _ (by
  refine (St.start w).nw fun b1 w1 h => ?_
  refine c21 h fun w2 h => cond_f rfl ?_
  rw [hk.len]
  refine cond_i (fun _ => k _ h.re) (fun e => ?_)
  have hkl : kk.length ≤ 500 := by simp at e; omega
  refine h.ldn (b := b1) (x := c) rfl rfl ?_
  refine c22 (hk.old (h.re : St w2 [.old w])) (by omega) fun r4 w3 h' => ?_
  have h := h.thaw1 h'
  refine h.lda (b := b1) (x := c.Made) rfl ?_
  refine c23 (hk.old (h.re : St w3 [.old w])) (by omega) (h.slIn (s := r4)) (BL_made hc kk) fun w4 h' => ?_
  have h := h.thaw0 h'
  have hd : IntKind.u32.wrap (IntKind.u32.wrap (c.Made + later) - c.Made) = later := by
    have h1 := hc.made; unfold W32 at h1 hl; simp only [wrap_u32]; omega
  rw [opn_made hc, hd]
  generalize hr : (if later > 600 then ((zc, 91) : CookieV × Int) else (c, 0)) = r
  refine h.nw fun b7 w5 h => ?_
  have h : St w5 (cellsA b7 (CookieV.val zc).cells.toList 36 :: _) := h
  refine h.stn (b := b7) rfl rfl (Nat.le_of_ble_eq_true rfl) fun w6 h => ?_
  rw [putC] at h
  have h := h.drew
  refine Sl.str (h.slIn (s := r4)) und22 und5 und9 ?_
  refine h.ldn (b := b1) (x := c) rfl rfl ?_
  refine c25 hc fun r10 w7 h' => ?_
  have h := h.thaw1 h'
  refine ⟨still_i (Sl.str (K := fun x => x = strOf _) (h.slIn (s := r4)) und22 und5 und9 rfl), ?_⟩
  refine c24 (hk.old (h.re : St w7 [.old w])) (h.slIn (s := r10)) hB (BL_body hc) (by omega) (by rw [body_len]; omega) fun r11 w8 h' => ?_
  have h := h.thaw1 h'
  refine ⟨still_i (Sl.str (K := fun x => x = strOf _) (h.slIn (s := r4)) und22 und5 und9 rfl), ?_⟩
  refine Sl.str (h.slIn (s := r11)) und22 und5 und9 ?_
  refine cond_f (by rw [show body c ++ hmac kk (body c) = made kk c from rfl, beq_self_eq_true]; rfl) ?_
  refine cond_i (fun e => ?_) (fun e => ?_)
  · rw [if_pos (by simpa using e)] at hr
    subst hr
    refine cond_t rfl ?_
    exact h.ldn (b := b7) (x := zc) rfl rfl (k _ h.re)
  · rw [if_neg (by simpa using e)] at hr
    subst hr
    refine cond_t rfl ?_
    refine h.ldn (b := b7) (x := c) rfl rfl (h.ldn (b := b1) (x := c) rfl rfl ?_)
    rw [eqC_self]
    exact k _ h.re)

/-- CookieOpens -/
theorem c8 {key b : SlV} {now : Int} {kk bb : List Int} {w : World} {K : Bool → World → Prop} (hk : Sl w 1 (Value.int .u8) key kk) (hB : BL kk) (hb : Sl w 1 (Value.int .u8) b bb) (hBb : BL bb) (hn : W32 now) (k : ∀ w', St w' [.old w] → K true w') :
    callP P 8 #[key.val, b.val, .int .u32 now] w Value.bool K := sf8_call _ _ _ _ _ (by
  refine c21 (St.start w) fun w1 h => cond_f rfl ?_
  have hbc := hb.1.2.1
  have hbl := hb.len
  rw [hk.len, hb.len]
  refine cut_i (fun _ w' => St w' [.old w] ∧ kk.length ≤ 500 ∧ bb.length ≤ 500) ?_ ?_
  · refine cond_i (fun _ => k _ h) (fun e => cond_i (fun _ => k _ h) (fun e2 => ⟨h, ?_, ?_⟩))
    · simp at e; omega
    · simp at e2; omega
  rintro g _ w2 ⟨h, hkl, hbl5⟩
  refine h.nw fun b5 w3 h => ?_
  refine St.fresh h (hb.old (h.re : St w3 [.old w])) (by omega) fun r6 w4 h => ?_
  refine c23 (hk.old (h.re : St w4 [.old w])) (by omega) (h.slIn (s := r6)) hBb fun w5 h' => ?_
  have h := h.thaw0 h'
  refine h.nw fun b8 w6 h => ?_
  have h : St w6 (cellsA b8 (CookieV.val zc).cells.toList 36 :: _) := h
  refine h.stn (b := b8) rfl rfl (Nat.le_of_ble_eq_true rfl) fun w7 h => ?_
  rw [putC] at h
  refine c26 (hk.old (h.re : St w7 [.old w])) (by omega) (hb.old (h.re : St w7 [.old w])) hB hBb hn fun w8 h' => ?_
  have h := h.thaw0 h'
  refine h.nw fun b10 w9 h => ?_
  have h : St w9 (cellsA b10 (CookieV.val zc).cells.toList 36 :: _) := h
  refine h.stn (b := b10) rfl rfl (Nat.le_of_ble_eq_true rfl) fun w10 h => ?_
  rw [putC] at h
  generalize opn kk bb now = o at h ⊢
  refine cut_i (fun _ w' => St w' [cellsA b10 (CookieV.val o.1).cells.toList 36, cellsA b8 (CookieV.val o.1).cells.toList 36, .old w]) ?_ ?_
  · refine cond_f (by simp) ?_
    refine h.ldn (b := b8) (x := o.1) rfl rfl (h.ldn (b := b10) (x := o.1) rfl rfl ?_)
    rw [eqC_self]
    refine cond_f rfl ?_
    refine Sl.str (h.slIn (s := r6)) und22 und5 und9 (Sl.str (hb.old (h.re : St w10 [.old w])) und22 und5 und9 ?_)
    refine cond_f (by rw [beq_self_eq_true]; rfl) ?_
    exact h.re
  rintro g _ w11 h
  refine cond_i (fun _ => k _ h.re) (fun e => ?_)
  have h38 : 38 ≤ bb.length := by simp at e; omega
  refine chk_i (leR_i (by omega) (by omega)) ?_
  have hs0 : Sl w 1 (Value.int .u8) (SlV.sub b 0 38 b.cap 1) _ := Sl.sub (l := 0) (m := 38) hb (by omega) (by omega)
  rw [List.drop_zero] at hs0
  have hBt : BL (bb.take 38) := fun x hx => hBb x (List.mem_of_mem_take hx)
  refine c24 (hk.old (h.re : St w11 [.old w])) (hs0.old (h.re : St w11 [.old w])) hB hBt (by omega) (by simp; omega) fun r19 w12 h' => ?_
  have h := h.thaw1 h'
  have hBs := BL_append hBt (BL_hmac kk (bb.take 38))
  generalize bb.take 38 ++ hmac kk (bb.take 38) = sb at h hBs
  refine c23 (hk.old (h.re : St w12 [.old w])) (by omega) (h.slIn (s := r19)) hBs fun w13 h' => ?_
  have h := h.thaw0 h'
  refine h.stn (b := b8) rfl rfl (Nat.le_of_ble_eq_true rfl) fun w14 h => ?_
  rw [putC] at h
  refine c26 (hk.old (h.re : St w14 [.old w])) (by omega) (h.slIn (s := r19)) hB hBs hn fun w15 h' => ?_
  have h := h.thaw0 h'
  refine h.stn (b := b10) rfl rfl (Nat.le_of_ble_eq_true rfl) fun w16 h => ?_
  rw [putC] at h
  generalize opn kk sb now = o2 at h ⊢
  refine cond_t (beq_self_eq_true _) ?_
  refine h.ldn (b := b8) (x := o2.1) rfl rfl (h.ldn (b := b10) (x := o2.1) rfl rfl ?_)
  rw [eqC_self]
  exact k _ h.re)

/-- CookieAges -/
theorem c10 {c : CookieV} {now : Int} {w : World} {K : Bool → World → Prop} (hc : CW c) (hn : W32 now) (k : ∀ w', St w' [.old w] → K true w') :
    callP P 10 #[CookieV.val c, .int .u32 now] w Value.bool K := sf10_call _ _ _ _ (by
  refine (St.start w).nw fun b1 w1 h => ?_
  refine c21 h fun w2 h => cond_f rfl ?_
  refine h.litB [107, 101, 121] und22 und5 rfl fun b3 w4 h => ?_
  refine h.ldn (b := b1) (x := c) rfl rfl ?_
  refine c22 (kk := [107, 101, 121]) (LitB.sl h rfl (by omega)) (by simp) fun r6 w5 h' => ?_
  have h := h.thaw1 h'
  have h : St w5 [SlO 1 (Value.int .u8) r6 (made [107, 101, 121] c), cellsA b1 (CookieV.val c).cells.toList 36, .old w] := h.re
  have hmB := BL_made hc [107, 101, 121]
  have hm := hc.made
  refine h.litB [107, 101, 121] und22 und5 rfl fun b7 w7 h => ?_
  refine c23 (kk := [107, 101, 121]) (LitB.sl h rfl (by omega)) (by simp) (h.slIn (s := r6)) hmB fun w8 h' => ?_
  have h := h.thaw0 h'
  refine h.nw fun b10 w9 h => ?_
  refine h.stn (b := b10) rfl rfl (Nat.le_of_ble_eq_true rfl) fun w10 h => ?_
  have h : St w10 [SlO 1 (Value.int .u8) r6 (made [107, 101, 121] c), cellsA b1 (CookieV.val c).cells.toList 36, .old w] := h.drop.drop
  refine h.litB [107, 101, 121] und22 und5 rfl fun b11 w12 h => ?_
  refine h.lda (b := b1) (x := c.Made) rfl ?_
  refine c23 (kk := [107, 101, 121]) (LitB.sl h rfl (by omega)) (by simp) (h.slIn (s := r6)) hmB fun w13 h' => ?_
  have h := h.thaw0 h'
  refine h.nw fun b15 w14 h => ?_
  refine h.stn (b := b15) rfl rfl (Nat.le_of_ble_eq_true rfl) fun w15 h => ?_
  have h : St w15 [SlO 1 (Value.int .u8) r6 (made [107, 101, 121] c), cellsA b1 (CookieV.val c).cells.toList 36, .old w] := h.drop.drop
  refine h.litB [107, 101, 121] und22 und5 rfl fun b16 w17 h => ?_
  refine h.lda (b := b1) (x := c.Made) rfl ?_
  refine c23 (kk := [107, 101, 121]) (LitB.sl h rfl (by omega)) (by simp) (h.slIn (s := r6)) hmB fun w18 h' => ?_
  have h := h.thaw0 h'
  refine h.nw fun b20 w19 h => ?_
  refine h.stn (b := b20) rfl rfl (Nat.le_of_ble_eq_true rfl) fun w20 h => ?_
  have h : St w20 [SlO 1 (Value.int .u8) r6 (made [107, 101, 121] c), cellsA b1 (CookieV.val c).cells.toList 36, .old w] := h.drop.drop
  refine h.litB [107, 101, 121] und22 und5 rfl fun b21 w22 h => ?_
  refine h.lda (b := b1) (x := c.Made) rfl ?_
  refine c23 (kk := [107, 101, 121]) (LitB.sl h rfl (by omega)) (by simp) (h.slIn (s := r6)) hmB fun w23 h' => ?_
  have h := h.thaw0 h'
  refine h.nw fun b25 w24 h => ?_
  refine h.stn (b := b25) rfl rfl (Nat.le_of_ble_eq_true rfl) fun w25 h => ?_
  have h : St w25 [SlO 1 (Value.int .u8) r6 (made [107, 101, 121] c), cellsA b1 (CookieV.val c).cells.toList 36, .old w] := h.drop.drop
  refine h.lda (b := b1) (x := c.Made) rfl ?_
  have e0 : (opn [107, 101, 121] (made [107, 101, 121] c) now).2 = if IntKind.u32.wrap (now - c.Made) > 600 then 91 else 0 := by rw [opn_made hc]; split <;> rfl
  have e1 : (opn [107, 101, 121] (made [107, 101, 121] c) (IntKind.u32.wrap (c.Made + 600))).2 = 0 := by
    rw [opn_made hc, if_neg]; unfold W32 at hm; simp only [wrap_u32]; omega
  have e2 : (opn [107, 101, 121] (made [107, 101, 121] c) (IntKind.u32.wrap (c.Made + 601))).2 = 91 := by
    rw [opn_made hc, if_pos]; unfold W32 at hm; simp only [wrap_u32]; omega
  have e3 : (opn [107, 101, 121] (made [107, 101, 121] c) (IntKind.u32.wrap (c.Made - 1))).2 = 91 := by
    rw [opn_made hc, if_pos]; unfold W32 at hm; simp only [wrap_u32]; omega
  rw [e0, e1, e2, e3]
  refine cond_t ?_ (cond_t rfl (cond_t rfl (k _ h.re)))
  split
  · rename_i hx
    rw [decide_eq_false (by omega)]; rfl
  · rename_i hx
    rw [decide_eq_true (by omega)]; rfl)
end Go.Vc.SA
