/-
  CookieTurned: what the calls come to.
-/
import Derived.Test.YtobldgdfejpckaaCA9g
set_option linter.all false
set_option linter.unusedVariables false
set_option maxRecDepth 100000
namespace Go.Vc.SA
open Go.Proofs Go.Vc.Sha

def bv8 (x : Int) : BitVec 8 := BitVec.ofInt 8 x
theorem xor_bv8 (x y : Int) : bits .xor .u8 x y = ((bv8 x ^^^ bv8 y).toNat : Int) := by
  have h : ∀ z : BitVec 8, IntKind.u8.wrap (z.toNat : Int) = (z.toNat : Int) := fun z => by have := z.isLt; rw [wrap_u8]; omega
  unfold bits
  exact h _
theorem bv8_nat (z : BitVec 8) : bv8 (z.toNat : Int) = z := by
  unfold bv8
  rw [BitVec.ofInt_natCast]
  simp
theorem bv8_back {x : Int} (h : B8 x) : ((bv8 x).toNat : Int) = x := by
  unfold B8 at h
  unfold bv8
  rw [BitVec.toNat_ofInt]
  have e : ((2 ^ 8 : Nat) : Int) = 256 := by decide
  rw [e]
  omega
theorem xor_back {x t : Int} (hx : B8 x) : bits .xor .u8 (bits .xor .u8 x t) t = x := by
  rw [xor_bv8 (bits .xor .u8 x t), xor_bv8 x, bv8_nat, BitVec.xor_assoc, BitVec.xor_self, BitVec.xor_zero, bv8_back hx]
theorem xor_ne {x t : Int} (hx : B8 x) (ht : B8 t) (h0 : t ≠ 0) : bits .xor .u8 x t ≠ x := by
  intro e
  have e2 := xor_back (x := x) (t := t) hx
  rw [xor_bv8] at e
  have e3 : bv8 x ^^^ bv8 t = bv8 x := by
    have := congrArg bv8 e
    rwa [bv8_nat] at this
  have e4 : bv8 t = 0#8 := by
    have := congrArg (fun z => bv8 x ^^^ z) e3
    simpa [← BitVec.xor_assoc] using this
  have e5 := bv8_back ht
  rw [e4] at e5
  exact h0 e5.symm

/-- a sum that was turned is not the sum -/
theorem opn_turned {c : CookieV} (hc : CW c) (kk : List Int) {i : Nat} {x t now : Int} (hi : 38 ≤ i) (hi2 : i < 70) (hx : (made kk c)[i]? = some x) (ht : B8 t) (h0 : t ≠ 0) : opn kk ((made kk c).set i (bits .xor .u8 x t)) now = (zc, 90) := by
  unfold opn
  have hl := made_len kk c
  rw [if_neg (by rw [List.length_set]; omega), if_neg (by rw [List.length_set]; omega)]
  have h1 : ((made kk c).set i (bits .xor .u8 x t)).take 38 = body c := by
    rw [List.take_set_of_le hi]
    unfold made; rw [List.take_append_of_le_length (by rw [body_len]; omega), List.take_of_length_le (by rw [body_len]; omega)]
  rw [h1, if_pos]
  intro e
  have h2 : (((made kk c).set i (bits .xor .u8 x t)).drop 38)[i - 38]? = some (bits .xor .u8 x t) := by
    rw [List.getElem?_drop, show 38 + (i - 38) = i by omega, List.getElem?_set_self (by omega)]
  have h3 : (hmac kk (body c))[i - 38]? = some x := by
    have : (made kk c)[i]? = (hmac kk (body c))[i - 38]? := by unfold made; rw [List.getElem?_append_right (by rw [body_len]; omega), body_len]
    rw [← this, hx]
  rw [← e, h3] at h2
  exact xor_ne (BL_made hc kk x (List.mem_of_getElem? hx)) ht h0 (Option.some.inj h2).symm

abbrev K3 : List Int := [107, 101, 121]
set_option maxHeartbeats 1000000 in
theorem tail9 {c : CookieV} {r6 : SlV} {b1 i : Nat} {x turn : Int} {w0 w : World} {R : Bool → World → Prop} (hc : CW c) (hi : i < 70) (hx : (made K3 c)[i]? = some x)
    (h : St w [SlO 1 (Value.int .u8) r6 ((made K3 c).set i (bits .xor .u8 x turn)), cellsA b1 (CookieV.val c).cells.toList 36, .old w0]) (k : ∀ w', St w' [.old w0] → R true w') :
  chkP (inR (i : Int) r6.len) <|
  nilP r6.a fun a_23 =>
  loadP w (a_23.add (Int.toNat (i : Int) * 1)) 1 (Value.int .u8) fun v_24 =>
  chkP (inR (i : Int) r6.len) <|
  nilP r6.a fun a_25 =>
  storeP w (a_25.add (Int.toNat (i : Int) * 1)) 1 (.int .u8 (bits .xor .u8 v_24 turn)) fun w_18 =>
  newP w_18 (.cells #[(.int .u8 (107 : Int)), (.int .u8 (101 : Int)), (.int .u8 (121 : Int))] 5) fun b_26 w_19 =>
  runP P (convert 22 22 (SlV.val (SlV.mk (some (⟨b_26, 0, none⟩ : Addr)) 3 3))) w_19 SlV.val fun r_27 w_20 =>
  loadP w_20 ((⟨b1, 0, none⟩ : Addr).add 8) 1 (Value.int .u32) fun v_28 =>
  callP P 23 #[(SlV.val r_27), (SlV.val r6), (.int .u32 v_28)] w_20 (tup2V CookieV.val (Value.int .i64)) fun r_29 w_21 =>
  newP w_21 (.cells (CookieV.val zc).cells 36) fun b_30 w_22 =>
  storeP w_22 (⟨b_30, 0, none⟩ : Addr) 11 (CookieV.val r_29.1) fun w_23 =>
  cond' (((zc, (90 : Int)) : CookieV × Int).2 == (90 : Int)) (
  cond' (((zc, (40 : Int)) : CookieV × Int).2 == (40 : Int)) (
  cond' (r_29.2 == (0 : Int)) (
  loadP w_23 (⟨b_30, 0, none⟩ : Addr) 11 CookieV.val fun v_34 =>
  loadP w_23 (⟨b1, 0, none⟩ : Addr) 11 CookieV.val fun v_35 =>
  R (negB false ((v_34.Tag == v_35.Tag) && ((v_34.Peer == v_35.Peer) && ((v_34.Tsn == v_35.Tsn) && ((v_34.PeerTsn == v_35.PeerTsn) && ((v_34.Window == v_35.Window) && ((v_34.Out == v_35.Out) && ((v_34.In == v_35.In) && ((v_34.Features == v_35.Features) && ((v_34.Made == v_35.Made) && ((v_34.TieTag == v_35.TieTag) && ((v_34.TiePeer == v_35.TiePeer) && true)))))))))))) w_23) (
  R false w_23)) (
  R false w_23)) (
  R false w_23) := by
  have hl := made_len K3 c
  have hmB := BL_made hc K3
  have hxB := hmB x (List.mem_of_getElem? hx)
  refine h.sl.atN (i := i) (x := bits .xor .u8 x turn) (by rw [List.getElem?_set_self (by omega)]) fun _ _ => ?_
  refine h.setN (s := r6) (by rw [List.length_set]; omega) fun w18 h => ?_
  have e1 : ((made K3 c).set i (bits .xor .u8 x turn)).set i (bits .xor .u8 (bits .xor .u8 x turn) turn) = made K3 c := by
    rw [List.set_set, xor_back hxB]
    have := (List.getElem?_eq_some_iff.1 hx).2
    exact this ▸ List.set_getElem_self (by omega)
  rw [e1] at h
  refine h.litB [107, 101, 121] und22 und5 rfl fun b26 w20 h => ?_
  refine h.lda (b := b1) (x := c.Made) rfl ?_
  refine c23 (kk := K3) (LitB.sl h rfl (by omega)) (by simp) (h.slIn (s := r6)) hmB fun w21 h' => ?_
  have h := h.thaw0 h'
  have e2 : opn K3 (made K3 c) c.Made = (c, 0) := by rw [opn_made hc, if_neg]; rw [wrap_u32]; omega
  rw [e2]
  refine h.nw fun b30 w22 h => ?_
  have h : St w22 (cellsA b30 (CookieV.val zc).cells.toList 36 :: _) := h
  refine h.stn (b := b30) rfl rfl (Nat.le_of_ble_eq_true rfl) fun w23 h => ?_
  rw [putC] at h
  refine cond_t rfl (cond_t rfl (cond_t rfl ?_))
  refine h.ldn (b := b30) (x := c) rfl rfl (h.ldn (b := b1) (x := c) rfl rfl ?_)
  rw [eqC_self]
  exact k _ h.re

set_option maxHeartbeats 1000000 in
/-- CookieTurned -/
theorem c9 {c : CookieV} {at_ turn : Int} {w : World} {K : Bool → World → Prop} (hc : CW c) (ht : B8 turn) (k : ∀ w', St w' [.old w] → K true w') :
    callP P 9 #[CookieV.val c, .int .i64 at_, .int .u8 turn] w Value.bool K := sf9_call _ _ _ _ _ (by
  refine (St.start w).nw fun b1 w1 h => ?_
  refine c21 h fun w2 h => cond_f rfl ?_
  refine h.litB [107, 101, 121] und22 und5 rfl fun b3 w4 h => ?_
  refine h.ldn (b := b1) (x := c) rfl rfl ?_
  refine c22 (kk := K3) (LitB.sl h rfl (by omega)) (by simp) fun r6 w5 h' => ?_
  have h := h.thaw1 h'
  have h : St w5 [SlO 1 (Value.int .u8) r6 (made K3 c), cellsA b1 (CookieV.val c).cells.toList 36, .old w] := h.re
  have hl := made_len K3 c
  have hmB := BL_made hc K3
  have h6l := h.sl.len
  refine cut_i (fun _ w' => w' = w5 ∧ turn ≠ 0) ?_ ?_
  · refine cond_f (by rw [h6l, hl]; rfl) (cond_i (fun e => ?_) (fun e => ⟨rfl, by simpa using e⟩))
    rw [h6l, hl]
    exact k _ h.re
  rintro g _ w6 ⟨rfl, h0⟩
  obtain ⟨i, hi, hi2, hie⟩ : ∃ i : Nat, 38 ≤ i ∧ i < 70 ∧ IntKind.i64.wrap ((38 : Int) + (IntKind.i64.wrap (Int.tmod (IntKind.u64.wrap at_) (32 : Int)))) = (i : Int) := by
    refine ⟨(38 + at_ % 18446744073709551616 % 32).toNat, by omega, by omega, ?_⟩
    rw [wrap_u64, Int.tmod_eq_emod_of_nonneg (by omega), wrap_i64 (x := at_ % 18446744073709551616 % 32) (by omega) (by omega), wrap_i64 (by omega) (by omega)]
    omega
  rw [hie]
  obtain ⟨x, hx⟩ : ∃ x, (made K3 c)[i]? = some x := ⟨_, List.getElem?_eq_getElem (by omega)⟩
  refine h.sl.atN hx fun _ _ => ?_
  refine h.setN (s := r6) (by omega) fun w7 h => ?_
  refine h.litB [107, 101, 121] und22 und5 rfl fun b13 w9 h => ?_
  refine h.lda (b := b1) (x := c.Made) rfl ?_
  have hsB : BL ((made K3 c).set i (bits .xor .u8 x turn)) := by
    intro y hy
    rcases List.mem_or_eq_of_mem_set hy with h | rfl
    · exact hmB y h
    · exact B8_wrap _
  refine c23 (kk := K3) (LitB.sl h rfl (by omega)) (by simp) (h.slIn (s := r6)) hsB fun w10 h' => ?_
  have h := h.thaw0 h'
  rw [opn_turned hc K3 hi hi2 hx ht h0]
  refine h.nw fun b17 w11 h => ?_
  refine h.stn (b := b17) rfl rfl (Nat.le_of_ble_eq_true rfl) fun w12 h => ?_
  have h : St w12 [SlO 1 (Value.int .u8) r6 ((made K3 c).set i (bits .xor .u8 x turn)), cellsA b1 (CookieV.val c).cells.toList 36, .old w] := h.drop.drop
  have hcap := h.sl.1.2.1
  refine chk_i (leR_i (by omega) (by omega)) ?_
  have h := h.drew
  refine h.lda (b := b1) (x := c.Made) rfl ?_
  have hsl : ((made K3 c).set i (bits .xor .u8 x turn)).length = 70 := by rw [List.length_set, hl]
  have e40 : ∀ now, opn K3 (((made K3 c).set i (bits .xor .u8 x turn)).take 69) now = (zc, 40) := fun now => by
    unfold opn
    rw [if_pos (by rw [List.length_take, hsl]; omega)]
  have hsB2 : BL (((made K3 c).set i (bits .xor .u8 x turn)).take 69) := fun y hy => hsB y (List.mem_of_mem_take hy)
  have hsub : ∀ {w' : World}, Sl w' 1 (Value.int .u8) r6 ((made K3 c).set i (bits .xor .u8 x turn)) → Sl w' 1 (Value.int .u8) (SlV.sub r6 0 69 r6.cap 1) (((made K3 c).set i (bits .xor .u8 x turn)).take 69) := fun hs => by
    have := Sl.sub (l := 0) (m := 69) hs (by omega) (by omega)
    rwa [List.drop_zero] at this
  refine ⟨?_, ?_⟩
  · refine h.nw fun b19 w13 h => ⟨h.holda (b := b1) (x := c.Made) rfl, ?_⟩
    have h : St w13 (cellsA b19 (arrI .u8 K3) 5 :: _) := h
    refine ⟨?_, ?_⟩
    · refine St.markB (b := b19) h und22 und5 fun w14 h => ⟨h.holda (b := b1) (x := c.Made) rfl, ?_⟩
      refine ⟨?_, ?_⟩
      · refine c23 (kk := K3) (LitB.sl h rfl (by omega)) (by simp) (hsub (h.slIn (s := r6))) hsB2 fun w15 h' => ?_
        have h := h.thaw0 h'
        rw [e40]
        refine h.nw fun b22 w16 h => ?_
        refine h.stn (b := b22) rfl rfl (Nat.le_of_ble_eq_true rfl) fun w17 h => ?_
        exact tail9 hc hi2 hx h.drop.drop k
      · refine h.nw fun b36 w24 h => ⟨h.holda (b := b1) (x := c.Made) rfl, ?_⟩
        refine c23 (kk := K3) (LitB.sl h.g1 rfl (by omega)) (by simp) (hsub (h.slIn (s := r6))) hsB2 fun w25 h' => ?_
        have h := h.thaw0 h'
        rw [e40]
        refine h.stn (b := b36) rfl rfl (Nat.le_of_ble_eq_true rfl) fun w26 h => ?_
        exact tail9 hc hi2 hx h.drop.drop k
    · refine h.nw fun b51 w33 h => ⟨h.holda (b := b1) (x := c.Made) rfl, ?_⟩
      refine St.markB (b := b19) h und22 und5 fun w34 h => ⟨h.holda (b := b1) (x := c.Made) rfl, ?_⟩
      refine c23 (kk := K3) (LitB.sl h rfl (by omega)) (by simp) (hsub (h.slIn (s := r6))) hsB2 fun w35 h' => ?_
      have h := h.thaw0 h'
      rw [e40]
      refine h.stn (b := b51) rfl rfl (Nat.le_of_ble_eq_true rfl) fun w36 h => ?_
      exact tail9 hc hi2 hx h.drop.drop k
  · refine h.nw fun b67 w43 h => ⟨h.holda (b := b1) (x := c.Made) rfl, ?_⟩
    refine h.nw fun b68 w44 h => ⟨h.holda (b := b1) (x := c.Made) rfl, ?_⟩
    have h : St w44 (cellsA b68 (arrI .u8 K3) 5 :: _) := h
    refine St.markB (b := b68) h und22 und5 fun w45 h => ⟨h.holda (b := b1) (x := c.Made) rfl, ?_⟩
    refine c23 (kk := K3) (LitB.sl h rfl (by omega)) (by simp) (hsub (h.slIn (s := r6))) hsB2 fun w46 h' => ?_
    have h := h.thaw0 h'
    rw [e40]
    refine h.stn (b := b67) rfl rfl (Nat.le_of_ble_eq_true rfl) fun w47 h => ?_
    exact tail9 hc hi2 hx h.drop.drop k)
end Go.Vc.SA
