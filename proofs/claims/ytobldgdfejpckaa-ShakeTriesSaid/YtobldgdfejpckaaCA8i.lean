/-
  MacSeals.
-/
import Derived.Test.YtobldgdfejpckaaCA8h
set_option linter.all false
set_option linter.unusedVariables false
set_option maxRecDepth 100000
namespace Go.Vc.SA
open Go.Proofs Go.Vc.Sha
theorem und9 : P.underlying 9 = some .string := by kernel_rfl
theorem Sl.of3 {b : Nat} {p q r : SlV} {w : World} {H H' : List HA} {T : TypeId} [c : CellsIn b H [p.val, q.val, r.val] T H'] (h : St w H) : Sl w 1 SlV.val ⟨some ⟨b, 0, none⟩, 3, 3⟩ [p, q, r] := Sl.lit (xs := [p, q, r]) (h.fcells (b := b)) rfl (by simp [maxLen_eq])

/-- behind the two sums -/
theorem tail3 {r key b : SlV} {bs bh : Nat} {kk bb : List Int} {w0 w : World} {R : Bool → World → Prop} (h : St w [SlO 1 (Value.int .u8) r kk, cellsA bs (arrI .u8 (hmac kk bb)) 25, cellsA bh (arrI .u8 (sha bb)) 25, .old w0])
    (hk : Sl w0 1 (Value.int .u8) key kk) (hb : Sl w0 1 (Value.int .u8) b bb) (hB : BL kk) (hBb : BL bb) (hkl : kk.length ≤ 400) (hbl : bb.length ≤ 800) (k : ∀ w', St w' [.old w0] → R true w') :
  readP P (convert 22 9 (SlV.val r)) w.drew Value.string fun v_10 =>
  readP P (convert 22 9 (SlV.val key)) w.drew Value.string fun v_11 =>
  cond' (v_10.toList == v_11.toList) (
  loadP w.drew (⟨bs, 0, none⟩ : Addr) 32 (arrV .u8) fun v_13 =>
  callP P 18 #[(SlV.val key), (SlV.val b)] w.drew (arrV .u8) fun r_14 w_12 =>
  Holds w_12 (⟨bs, 0, none⟩ : Addr) 32 ((arrV .u8) v_13) ∧ (
  eqArrP 32 .u8 ((arrV .u8) v_13) ((arrV .u8) r_14) fun b_15 =>
  cond' (negB false b_15) (
  loadP w_12 (⟨bh, 0, none⟩ : Addr) 32 (arrV .u8) fun v_17 =>
  callP P 19 #[(SlV.val b)] w_12 (arrV .u8) fun r_18 w_13 =>
  Holds w_13 (⟨bh, 0, none⟩ : Addr) 32 ((arrV .u8) v_17) ∧ (
  eqArrP 32 .u8 ((arrV .u8) v_17) ((arrV .u8) r_18) fun b_19 =>
  cond' (negB false b_19) (
  loadP w_13 (⟨bs, 0, none⟩ : Addr) 32 (arrV .u8) fun v_21 =>
  callP P 18 #[(SlV.val key), (SlV.val b)] w_13 (arrV .u8) fun r_22 w_14 =>
  Holds w_14 (⟨bs, 0, none⟩ : Addr) 32 ((arrV .u8) v_21) ∧ (
  callP P 20 #[((arrV .u8) v_21), ((arrV .u8) r_22)] w_14 Value.bool fun r_23 w_15 =>
  cond' r_23 (
  loadP w_15 (⟨bs, 0, none⟩ : Addr) 32 (arrV .u8) fun v_25 =>
  loadP w_15 (⟨bh, 0, none⟩ : Addr) 32 (arrV .u8) fun v_26 =>
  loadP w_15 (⟨bs, 0, none⟩ : Addr) 32 (arrV .u8) fun v_27 =>
  loadP w_15 (⟨bh, 0, none⟩ : Addr) 32 (arrV .u8) fun v_28 =>
  eqArrP 32 .u8 ((arrV .u8) v_27) ((arrV .u8) v_28) fun b_29 =>
  callP P 20 #[((arrV .u8) v_25), ((arrV .u8) v_26)] w_15 Value.bool fun r_30 w_16 =>
  Holds w_16 (⟨bh, 0, none⟩ : Addr) 32 ((arrV .u8) v_28) ∧ (
  Holds w_16 (⟨bs, 0, none⟩ : Addr) 32 ((arrV .u8) v_27) ∧ (
  R (negB false (r_30 == (negB false b_29))) w_16))) (
  R false w_15))) (
  R false w_13))) (
  R false w_12))) (
  R false w.drew) := by
  have h := h.drew
  have hml := hmac_len kk bb
  have hsl := sha_len bb
  refine Sl.str (h.slIn (s := r)) und22 und5 und9 ?_
  refine Sl.str (hk.old (h.re : St w.drew [.old w0])) und22 und5 und9 ?_
  refine cond_t (beq_self_eq_true _) ?_
  refine h.ldArr (b := bs) hml ?_
  refine c18 (hk.old (h.re : St w.drew [.old w0])) (hb.old (h.re : St w.drew [.old w0])) hB hBb (by omega) (by omega) fun w12 h' => ?_
  have h := h.thaw0 h'
  refine ⟨St.holdArr (b := bs) h hml, eqArr_i hml hml (cond_t (beq_self_eq_true _) ?_)⟩
  refine h.ldArr (b := bh) hsl ?_
  refine c19 (hb.old (h.re : St w12 [.old w0])) hBb (by omega) fun w13 h' => ?_
  have h := h.thaw0 h'
  refine ⟨St.holdArr (b := bh) h hsl, eqArr_i hsl hsl (cond_t (beq_self_eq_true _) ?_)⟩
  refine h.ldArr (b := bs) hml ?_
  refine c18 (hk.old (h.re : St w13 [.old w0])) (hb.old (h.re : St w13 [.old w0])) hB hBb (by omega) (by omega) fun w14 h' => ?_
  have h := h.thaw0 h'
  refine ⟨St.holdArr (b := bs) h hml, ?_⟩
  refine c20 h hml hml fun w15 h => cond_t (beq_self_eq_true _) ?_
  refine h.ldArr (b := bs) hml (h.ldArr (b := bh) hsl (h.ldArr (b := bs) hml (h.ldArr (b := bh) hsl ?_)))
  refine eqArr_i hml hsl ?_
  refine c20 h hml hsl fun w16 h => ⟨St.holdArr (b := bh) h hsl, St.holdArr (b := bs) h hml, ?_⟩
  have e : negB false ((hmac kk bb == sha bb) == negB false (hmac kk bb == sha bb)) = true := by cases (hmac kk bb == sha bb) <;> rfl
  rw [e]
  exact k _ h.re

set_option maxHeartbeats 2000000 in
/-- MacSeals -/
theorem c3 {key b : SlV} {n : Int} {kk bb : List Int} {w : World} {K : Bool → World → Prop} (hk : Sl w 1 (Value.int .u8) key kk) (hb : Sl w 1 (Value.int .u8) b bb) (hB : BL kk) (hBb : BL bb) (k : ∀ w', St w' [.old w] → K true w') :
    callP P 3 #[key.val, b.val, .int .i64 n] w Value.bool K := sf3_call _ _ _ _ _ (by
  refine c15 (St.start w) fun w1 h => cond_f rfl ?_
  have ek : (if (400 : Int) < (key.len : Int) then (400 : Int) else (key.len : Int)) = ((min 400 kk.length : Nat) : Int) := by rw [hk.len]; split <;> omega
  have eb : (if (800 : Int) < (b.len : Int) then (800 : Int) else (b.len : Int)) = ((min 800 bb.length : Nat) : Int) := by rw [hb.len]; split <;> omega
  rw [ek, eb]
  have hkc := hk.1.2.1; have hbc := hb.1.2.1; have hkl := hk.len; have hbl := hb.len
  refine chk_i (leR_i (by omega) (by omega)) (chk_i (leR_i (by omega) (by omega)) (chk_i (leR_i (by omega) (by omega)) (chk_i (leR_i (by omega) (by omega)) ?_)))
  have hk' : Sl w 1 (Value.int .u8) (SlV.sub key 0 (Int.toNat ((min 400 kk.length : Nat) : Int)) key.cap 1) _ := Sl.sub (l := 0) (m := min 400 kk.length) hk (Nat.zero_le _) (by omega)
  have hb' : Sl w 1 (Value.int .u8) (SlV.sub b 0 (Int.toNat ((min 800 bb.length : Nat) : Int)) b.cap 1) _ := Sl.sub (l := 0) (m := min 800 bb.length) hb (Nat.zero_le _) (by omega)
  rw [List.drop_zero] at hk' hb'
  generalize SlV.sub key 0 (Int.toNat ((min 400 kk.length : Nat) : Int)) key.cap 1 = key at hk' ⊢
  generalize SlV.sub b 0 (Int.toNat ((min 800 bb.length : Nat) : Int)) b.cap 1 = b at hb' ⊢
  have hxl : (kk.take (min 400 kk.length)).length ≤ 400 := by simp; omega
  have hyl : (bb.take (min 800 bb.length)).length ≤ 800 := by simp; omega
  have hBk : BL (kk.take (min 400 kk.length)) := fun x hx => hB x (List.mem_of_mem_take hx)
  have hBx : BL (bb.take (min 800 bb.length)) := fun x hx => hBb x (List.mem_of_mem_take hx)
  generalize kk.take (min 400 kk.length) = kx at hk' hxl hBk
  generalize bb.take (min 800 bb.length) = bx at hb' hyl hBx
  clear hk hb ek eb hkc hbc hkl hbl
  have hbc := hb'.1.2.1; have hbl := hb'.len
  obtain ⟨c, hc, hce⟩ : ∃ c : Nat, c ≤ bx.length ∧ IntKind.i64.wrap (Int.tmod (IntKind.u64.wrap n) (IntKind.u64.wrap (IntKind.i64.wrap ((b.len : Int) + (1 : Int))))) = (c : Int) := by
    have e65 : IntKind.u64.wrap (IntKind.i64.wrap ((b.len : Int) + (1 : Int))) = ((bx.length + 1 : Nat) : Int) := by rw [hbl, wrap_i64 (by omega) (by omega), wrap_u64]; omega
    rw [e65]
    have h1 := Int.emod_nonneg (IntKind.u64.wrap n) (show ((bx.length + 1 : Nat) : Int) ≠ 0 by omega)
    have h2 := Int.emod_lt_of_pos (IntKind.u64.wrap n) (show (0 : Int) < ((bx.length + 1 : Nat) : Int) by omega)
    refine ⟨(IntKind.u64.wrap n % ((bx.length + 1 : Nat) : Int)).toNat, by omega, ?_⟩
    rw [Int.tmod_eq_emod_of_nonneg (by rw [wrap_u64]; omega), wrap_i64 (by omega) (by omega)]
    omega
  rw [hce]
  have hne : decide ((IntKind.u64.wrap (IntKind.i64.wrap ((b.len : Int) + (1 : Int)))) ≠ 0) = true := by
    rw [hbl, wrap_i64 (by omega) (by omega), wrap_u64]; simp; omega
  have h1 : Sl w 1 (Value.int .u8) (SlV.sub b 0 (Int.toNat (c : Int)) b.cap 1) _ := Sl.sub (l := 0) (m := c) hb' (Nat.zero_le _) hc
  have h2 : Sl w 1 (Value.int .u8) (SlV.sub b (Int.toNat (c : Int)) b.len b.cap 1) _ := Sl.sub (l := c) (m := b.len) hb' (by omega) (by omega)
  rw [List.drop_zero] at h1
  have ef2 : ([bx.take c, (bx.take b.len).drop c] : List (List Int)).flatten = bx := by
    rw [hbl, List.take_length]; simp
  have ef3 : ([bx.take c, [], (bx.take b.len).drop c] : List (List Int)).flatten = bx := by
    rw [hbl, List.take_length]; simp
  have h := h.drew
  refine h.nw fun b2 w2 h => ?_
  refine St.fresh h (hk'.old (h.re : St w2 [.old w])) (by omega) fun r3 w3 h => ?_
  refine chk_i hne ?_
  refine chk_i (leR_i (by omega) (by omega)) (chk_i (leR_i (by omega) (by omega)) (chk_i (leR_i (by omega) (by omega)) (chk_i (leR_i (by omega) (by omega)) ?_)))
  have h := h.drew
  refine ⟨?_, ?_⟩
  · refine h.nw fun b4 w4 h => ⟨?_, ?_⟩
    · skip
      refine c16 (h.slIn (s := r3)) (Sl.of2 (b := b4) (p := SlV.sub b 0 (Int.toNat (c : Int)) b.cap 1) (q := SlV.sub b (Int.toNat (c : Int)) b.len b.cap 1) h) (.two (h1.old (h.re : St w4 [.old w])) (h2.old (h.re : St w4 [.old w]))) (by omega) (by rw [ef2]; omega) (by simp) fun v1 h' => ?_
      have h := h.thaw0 h'
      rw [ef2]
      refine h.nwA fun bs v2 h => ?_
      refine h.stArr (b := bs) (hmac_len _ _) (by simp) fun v3 h => ?_
      refine chk_i (leR_i (by omega) (by omega)) (chk_i (leR_i (by omega) (by omega)) (chk_i (leR_i (by omega) (by omega)) (chk_i (leR_i (by omega) (by omega)) ?_)))
      have h := h.drew
      refine ⟨?_, ?_⟩
      · refine h.nw fun b7 v4 h => ⟨?_, ?_⟩
        · skip
          refine c17 (Sl.of3 (b := b7) (p := SlV.sub b 0 (Int.toNat (c : Int)) b.cap 1) (q := SlV.nil) (r := SlV.sub b (Int.toNat (c : Int)) b.len b.cap 1) h) (.cons (h1.old (h.re : St v4 [.old w])) (.two (Sl.nil v4) (h2.old (h.re : St v4 [.old w])))) (by rw [ef3]; omega) fun v5 h' => ?_
          have h := h.thaw0 h'
          rw [ef3]
          refine h.nwA fun bh v6 h => ?_
          refine h.stArr (b := bh) (sha_len _) (by simp) fun v7 h => ?_
          exact tail3 h.re hk' hb' hBk hBx hxl hyl k
        · skip
          refine h.nwA fun bh v8 h => ?_
          refine c17 (Sl.of3 (b := b7) (p := SlV.sub b 0 (Int.toNat (c : Int)) b.cap 1) (q := SlV.nil) (r := SlV.sub b (Int.toNat (c : Int)) b.len b.cap 1) h) (.cons (h1.old (h.re : St v8 [.old w])) (.two (Sl.nil v8) (h2.old (h.re : St v8 [.old w])))) (by rw [ef3]; omega) fun v9 h' => ?_
          have h := h.thaw0 h'
          rw [ef3]
          refine h.stArr (b := bh) (sha_len _) (by simp) fun v10 h => ?_
          exact tail3 h.re hk' hb' hBk hBx hxl hyl k
      · skip
        refine h.nwA fun bh v11 h => ?_
        refine h.nw fun b7 v12 h => ?_
        refine c17 (Sl.of3 (b := b7) (p := SlV.sub b 0 (Int.toNat (c : Int)) b.cap 1) (q := SlV.nil) (r := SlV.sub b (Int.toNat (c : Int)) b.len b.cap 1) h) (.cons (h1.old (h.re : St v12 [.old w])) (.two (Sl.nil v12) (h2.old (h.re : St v12 [.old w])))) (by rw [ef3]; omega) fun v13 h' => ?_
        have h := h.thaw0 h'
        rw [ef3]
        refine h.stArr (b := bh) (sha_len _) (by simp) fun v14 h => ?_
        exact tail3 h.re hk' hb' hBk hBx hxl hyl k
    · skip
      refine h.nwA fun bs v15 h => ?_
      refine c16 (h.slIn (s := r3)) (Sl.of2 (b := b4) (p := SlV.sub b 0 (Int.toNat (c : Int)) b.cap 1) (q := SlV.sub b (Int.toNat (c : Int)) b.len b.cap 1) h) (.two (h1.old (h.re : St v15 [.old w])) (h2.old (h.re : St v15 [.old w]))) (by omega) (by rw [ef2]; omega) (by simp) fun v16 h' => ?_
      have h := h.thaw0 h'
      rw [ef2]
      refine h.stArr (b := bs) (hmac_len _ _) (by simp) fun v17 h => ?_
      refine chk_i (leR_i (by omega) (by omega)) (chk_i (leR_i (by omega) (by omega)) (chk_i (leR_i (by omega) (by omega)) (chk_i (leR_i (by omega) (by omega)) ?_)))
      have h := h.drew
      refine ⟨?_, ?_⟩
      · refine h.nw fun b7 v18 h => ⟨?_, ?_⟩
        · skip
          refine c17 (Sl.of3 (b := b7) (p := SlV.sub b 0 (Int.toNat (c : Int)) b.cap 1) (q := SlV.nil) (r := SlV.sub b (Int.toNat (c : Int)) b.len b.cap 1) h) (.cons (h1.old (h.re : St v18 [.old w])) (.two (Sl.nil v18) (h2.old (h.re : St v18 [.old w])))) (by rw [ef3]; omega) fun v19 h' => ?_
          have h := h.thaw0 h'
          rw [ef3]
          refine h.nwA fun bh v20 h => ?_
          refine h.stArr (b := bh) (sha_len _) (by simp) fun v21 h => ?_
          exact tail3 h.re hk' hb' hBk hBx hxl hyl k
        · skip
          refine h.nwA fun bh v22 h => ?_
          refine c17 (Sl.of3 (b := b7) (p := SlV.sub b 0 (Int.toNat (c : Int)) b.cap 1) (q := SlV.nil) (r := SlV.sub b (Int.toNat (c : Int)) b.len b.cap 1) h) (.cons (h1.old (h.re : St v22 [.old w])) (.two (Sl.nil v22) (h2.old (h.re : St v22 [.old w])))) (by rw [ef3]; omega) fun v23 h' => ?_
          have h := h.thaw0 h'
          rw [ef3]
          refine h.stArr (b := bh) (sha_len _) (by simp) fun v24 h => ?_
          exact tail3 h.re hk' hb' hBk hBx hxl hyl k
      · skip
        refine h.nwA fun bh v25 h => ?_
        refine h.nw fun b7 v26 h => ?_
        refine c17 (Sl.of3 (b := b7) (p := SlV.sub b 0 (Int.toNat (c : Int)) b.cap 1) (q := SlV.nil) (r := SlV.sub b (Int.toNat (c : Int)) b.len b.cap 1) h) (.cons (h1.old (h.re : St v26 [.old w])) (.two (Sl.nil v26) (h2.old (h.re : St v26 [.old w])))) (by rw [ef3]; omega) fun v27 h' => ?_
        have h := h.thaw0 h'
        rw [ef3]
        refine h.stArr (b := bh) (sha_len _) (by simp) fun v28 h => ?_
        exact tail3 h.re hk' hb' hBk hBx hxl hyl k
  · skip
    refine h.nwA fun bs v29 h => ?_
    refine h.nw fun b4 w4 h => ?_
    refine c16 (h.slIn (s := r3)) (Sl.of2 (b := b4) (p := SlV.sub b 0 (Int.toNat (c : Int)) b.cap 1) (q := SlV.sub b (Int.toNat (c : Int)) b.len b.cap 1) h) (.two (h1.old (h.re : St w4 [.old w])) (h2.old (h.re : St w4 [.old w]))) (by omega) (by rw [ef2]; omega) (by simp) fun v30 h' => ?_
    have h := h.thaw0 h'
    rw [ef2]
    refine h.stArr (b := bs) (hmac_len _ _) (by simp) fun v31 h => ?_
    refine chk_i (leR_i (by omega) (by omega)) (chk_i (leR_i (by omega) (by omega)) (chk_i (leR_i (by omega) (by omega)) (chk_i (leR_i (by omega) (by omega)) ?_)))
    have h := h.drew
    refine ⟨?_, ?_⟩
    · refine h.nw fun b7 v32 h => ⟨?_, ?_⟩
      · skip
        refine c17 (Sl.of3 (b := b7) (p := SlV.sub b 0 (Int.toNat (c : Int)) b.cap 1) (q := SlV.nil) (r := SlV.sub b (Int.toNat (c : Int)) b.len b.cap 1) h) (.cons (h1.old (h.re : St v32 [.old w])) (.two (Sl.nil v32) (h2.old (h.re : St v32 [.old w])))) (by rw [ef3]; omega) fun v33 h' => ?_
        have h := h.thaw0 h'
        rw [ef3]
        refine h.nwA fun bh v34 h => ?_
        refine h.stArr (b := bh) (sha_len _) (by simp) fun v35 h => ?_
        exact tail3 h.re hk' hb' hBk hBx hxl hyl k
      · skip
        refine h.nwA fun bh v36 h => ?_
        refine c17 (Sl.of3 (b := b7) (p := SlV.sub b 0 (Int.toNat (c : Int)) b.cap 1) (q := SlV.nil) (r := SlV.sub b (Int.toNat (c : Int)) b.len b.cap 1) h) (.cons (h1.old (h.re : St v36 [.old w])) (.two (Sl.nil v36) (h2.old (h.re : St v36 [.old w])))) (by rw [ef3]; omega) fun v37 h' => ?_
        have h := h.thaw0 h'
        rw [ef3]
        refine h.stArr (b := bh) (sha_len _) (by simp) fun v38 h => ?_
        exact tail3 h.re hk' hb' hBk hBx hxl hyl k
    · skip
      refine h.nwA fun bh v39 h => ?_
      refine h.nw fun b7 v40 h => ?_
      refine c17 (Sl.of3 (b := b7) (p := SlV.sub b 0 (Int.toNat (c : Int)) b.cap 1) (q := SlV.nil) (r := SlV.sub b (Int.toNat (c : Int)) b.len b.cap 1) h) (.cons (h1.old (h.re : St v40 [.old w])) (.two (Sl.nil v40) (h2.old (h.re : St v40 [.old w])))) (by rw [ef3]; omega) fun v41 h' => ?_
      have h := h.thaw0 h'
      rw [ef3]
      refine h.stArr (b := bh) (sha_len _) (by simp) fun v42 h => ?_
      exact tail3 h.re hk' hb' hBk hBx hxl hyl k)

theorem BL_wf {xs : List Int} (h : ∀ x ∈ xs, (Lit.int .u8 x).wf = true) : BL xs := by
  intro x hx
  have := h x hx
  simp [Lit.wf, IntKind.signed, IntKind.min, IntKind.max, IntKind.bits] at this
  unfold B8
  omega
theorem c3j {key b : SlV} {n : Int} {kk bb : List Int} {w : World} {K : Bool → World → Prop} (hk : Sl w 1 (Value.int .u8) key kk) (hkw : ∀ x ∈ kk, (Lit.int .u8 x).wf = true) (hb : Sl w 1 (Value.int .u8) b bb) (hbw : ∀ x ∈ bb, (Lit.int .u8 x).wf = true) (k : ∀ w', St w' [.old w] → K true w') :
    callP P 3 #[key.val, b.val, .int .i64 n] w Value.bool K := c3 hk hb (BL_wf hkw) (BL_wf hbw) k
end Go.Vc.SA
