/-
  MacAgain, MacChains, MacKeys: what the calls come to.
-/
import Derived.Test.YtobldgdfejpckaaCA8e
set_option linter.all false
set_option linter.unusedVariables false
set_option maxRecDepth 100000
namespace Go.Vc.SA
open Go.Proofs Go.Vc.Sha

theorem St.holdArr {b n : Nat} {k : IntKind} {xs : List Int} {w : World} {H H' : List HA} {T : TypeId} [c : CellsIn b H (arrI k xs) T H'] (h : St w H) (hn : xs.length = n) : Holds w ⟨b, 0, none⟩ n (arrV k xs) := by
  obtain ⟨y, hy, e⟩ := (h.ldArr (b := b) (K := fun y => y = xs) hn rfl).ex
  subst e
  exact hy
theorem Sl.of1 {b : Nat} {p : SlV} {w : World} {H H' : List HA} {T : TypeId} [c : CellsIn b H [p.val] T H'] (h : St w H) : Sl w 1 SlV.val ⟨some ⟨b, 0, none⟩, 1, 1⟩ [p] := Sl.lit (xs := [p]) (h.fcells (b := b)) rfl (by simp [maxLen_eq])
theorem Sl.of2 {b : Nat} {p q : SlV} {w : World} {H H' : List HA} {T : TypeId} [c : CellsIn b H [p.val, q.val] T H'] (h : St w H) : Sl w 1 SlV.val ⟨some ⟨b, 0, none⟩, 2, 2⟩ [p, q] := Sl.lit (xs := [p, q]) (h.fcells (b := b)) rfl (by simp [maxLen_eq])
/-- append([]byte{}, s...) -/
theorem St.fresh {b : Nat} {y : SlV} {ys : List Int} {w : World} {H : List HA} {K : SlV → World → Prop} (h : St w (cellsA b [] 5 :: H)) (hy : Sl w 1 (Value.int .u8) y ys) (hb : ys.length ≤ 1073741824)
    (k : ∀ s' w', St w' (SlO 1 (Value.int .u8) s' ys :: H) → K s' w') : runP P (Builtin.append_ #[22, 22] 22 #[(SlV.mk (some (⟨b, 0, none⟩ : Addr)) 0 0).val, y.val]) w SlV.val K := by
  have h2 : St w (SlO 1 (Value.int .u8) (SlV.mk (some ⟨b, 0, none⟩) 0 0) ([] : List Int) :: H) := SlO.of_cells (xs := []) h rfl rfl (by simp)
  exact h2.append slT22 (by omega) hy (by simp; omega) (by rw [maxLen_eq]; simp; omega) fun s' w' h' => k _ _ (by simpa using h')

/-- MacChains -/
theorem c6 {key b : SlV} {n : Int} {kk bb : List Int} {w : World} {K : Bool → World → Prop} (hk : Sl w 1 (Value.int .u8) key kk) (hb : Sl w 1 (Value.int .u8) b bb) (k : ∀ w', St w' [.old w] → K true w') :
    callP P 6 #[key.val, b.val, .int .i64 n] w Value.bool K := sf6_call _ _ _ _ _ (by
  refine c15 (St.start w) fun w1 h => cond_f rfl ?_
  rw [hk.len, hb.len]
  refine cond_i (fun _ => k _ h) (fun e => ?_)
  have hkl : kk.length ≤ 500 ∧ bb.length ≤ 500 := by
    simp at e
    split at e <;> omega
  refine h.nw fun b2 w2 h => ?_
  refine c16 (hk.old h.g1) (Sl.of1 (b := b2) h) (.cons (hb.old h.g1) .nil) (by omega) (by simp; omega) (by simp) fun w3 h' => ?_
  have h := h.thaw0 h'
  refine h.nw fun b4 w4 h => ?_
  refine c16 (hk.old h.g2) (Sl.of1 (b := b4) h) (.cons (hb.old h.g2) .nil) (by omega) (by simp; omega) (by simp) fun w5 h' => ?_
  have h := h.thaw0 h'
  simp only [List.flatten_cons, List.flatten_nil, List.append_nil]
  refine h.nwA fun b6 w6 h => h.nwA fun b7 w7 h => ?_
  refine h.stArr (b := b6) (hmac_len _ _) (by simp) fun w8 h => ?_
  refine h.stArr (b := b7) (hmac_len _ _) (by simp) fun w9 h => ?_
  obtain ⟨m, hm⟩ : ∃ m : Nat, IntKind.i64.wrap (Int.tmod (IntKind.u64.wrap n) 12) = (m : Int) := by
    refine ⟨(n % 18446744073709551616 % 12).toNat, ?_⟩
    rw [wrap_u64, Int.tmod_eq_emod_of_nonneg (by omega), wrap_i64 (by omega) (by omega)]
    omega
  rw [hm]
  have hm2 : (m : Int) ≤ 9223372036854775807 := by
    rw [← hm, wrap_u64, Int.tmod_eq_emod_of_nonneg (by omega), wrap_i64 (by omega) (by omega)]
    omega
  refine loop_cnt (n := m) (fun i w' => ∃ x : List Int, x.length = 32 ∧ St w' [cellsA b7 (arrI .u8 x) 25, cellsA b6 (arrI .u8 x) 25, .old w]) ⟨_, hmac_len kk bb, h.re⟩ ?_ ?_
  · rintro g i w10 next hi ⟨x, hx, h⟩ hn
    refine cond_t (lt_true hi) ?_
    refine h.nw fun b10 w11 h => ?_
    rw [arrSub32, arrSub32]
    have hold : ∀ {w' : World} {A B C : HA}, St w' [A, B, C, .old w] → St w' [.old w] := fun h => h.re
    refine c16 (Sl.arr (b := b6) h hx) (Sl.of2 (b := b10) h) (.two (hb.old (hold h)) (hk.old (hold h))) (by omega) (by simp; omega) (by simp) fun w12 h' => ?_
    have h := h.thaw0 h'
    refine h.stArr (b := b6) (hmac_len _ _) (by simp [hx]) fun w13 h => ?_
    have h := h.drew
    refine h.nw fun b12 w14 h => ?_
    refine St.fresh h (hb.old (h.re : St w14 [.old w])) (by omega) fun r13 w15 h => ?_
    refine h.append (s := r13) slT22 (by omega) (hk.old (h.re : St w15 [.old w])) (by omega) (by rw [maxLen_eq]; omega) fun r14 w16 h => ?_
    refine h.nw fun b15 w17 h => ?_
    refine c16 (Sl.arr (b := b7) h hx) (Sl.of2 (b := b15) (p := r14) (q := SlV.nil) h) (.two (h.slIn (s := r14)) (Sl.nil w17)) (by omega) (by simp; omega) (by simp) fun w18 h' => ?_
    have h := h.thaw0 h'
    refine h.stArr (b := b7) (hmac_len _ _) (by simp [hx]) fun w19 h => ?_
    rw [wrap_succ (by omega)]
    simp only [List.flatten_cons, List.flatten_nil, List.append_nil] at h
    exact hn _ ⟨_, hmac_len x (bb ++ kk), h.re⟩
  · rintro g w10 next ⟨x, hx, h⟩
    refine cond_f (lt_false _) ?_
    refine h.ldArr (b := b6) hx (h.ldArr (b := b7) hx ?_)
    refine c20 h hx hx fun w20 h => ?_
    rw [beq_self_eq_true]
    exact k _ h.re)

/-- MacAgain -/
theorem c5 {key a b : SlV} {kk aa bb : List Int} {w : World} {K : Bool → World → Prop} (hk : Sl w 1 (Value.int .u8) key kk) (ha : Sl w 1 (Value.int .u8) a aa) (hb : Sl w 1 (Value.int .u8) b bb) (k : ∀ w', St w' [.old w] → K true w') :
    callP P 5 #[key.val, a.val, b.val] w Value.bool K := sf5_call _ _ _ _ _ (by
  refine c15 (St.start w) fun w1 h => cond_f rfl ?_
  rw [hk.len, ha.len, hb.len]
  refine cond_i (fun _ => k _ h) (fun e => ?_)
  have hkl : kk.length ≤ 1000 ∧ aa.length ≤ 1000 ∧ bb.length ≤ 1000 := by
    simp at e
    split at e <;> split at e <;> omega
  refine h.nw fun b2 w2 h => ?_
  refine St.fresh h (ha.old (h.re : St w2 [.old w])) (by omega) fun r3 w3 h => ?_
  refine h.append (s := r3) slT22 (by omega) (hb.old (h.re : St w3 [.old w])) (by omega) (by rw [maxLen_eq]; omega) fun r4 w4 h => ?_
  refine h.nw fun b5 w5 h => ?_
  have o := fun {w' : World} {L : List HA} (h : St w' (L ++ [.old w])) (c : Reord (L ++ [.old w]) [.old w]) => (c.imp w').st h
  refine c16 (hk.old (h.re : St w5 [.old w])) (Sl.of2 (b := b5) h) (.two (ha.old (h.re : St w5 [.old w])) (hb.old (h.re : St w5 [.old w]))) (by omega) (by simp; omega) (by simp) fun w6 h' => ?_
  have h := h.thaw0 h'
  have e1 : ([aa, bb] : List (List Int)).flatten = aa ++ bb := by simp
  have e1' : ([aa ++ bb] : List (List Int)).flatten = aa ++ bb := by simp
  have e1'' : ([[], aa, [], bb] : List (List Int)).flatten = aa ++ bb := by simp
  rw [e1]
  have hml := hmac_len kk (aa ++ bb)
  generalize hv : hmac kk (aa ++ bb) = v at hml
  refine h.nwA fun b7 w7 h => ?_
  refine h.stArr (b := b7) hml (by simp) fun w8 h => ?_
  refine h.nw fun b8 w9 h => ?_
  refine c16 (hb.old (h.re : St w9 [.old w])) (Sl.of1 (b := b8) h) (.cons (hk.old (h.re : St w9 [.old w])) .nil) (by omega) (by simp; omega) (by simp) fun w10 h' => ?_
  have h := h.thaw0 h'
  refine h.nw fun b10 w11 h => ?_
  refine c17 (Sl.of1 (b := b10) h) (.cons (ha.old (h.re : St w11 [.old w])) .nil) (by simp; omega) fun w12 h' => ?_
  have h := h.thaw0 h'
  have h := h.drew
  refine h.ldArr (b := b7) hml ?_
  refine h.nw fun b13 w13 h => ⟨St.holdArr (b := b7) h hml, ?_⟩
  refine c16 (hk.old (h.re : St w13 [.old w])) (Sl.of1 (b := b13) h) (.cons (h.slIn (s := r4)) .nil) (by omega) (by simp; omega) (by simp) fun w14 h' => ?_
  have h := h.thaw0 h'
  refine ⟨St.holdArr (b := b7) h hml, ?_⟩
  rw [e1', hv]
  refine eqArr_i hml hml ?_
  rw [beq_self_eq_true]
  refine cond_t rfl ?_
  have h : St w14 [cellsA b7 (arrI .u8 v) 25, SlO 1 (Value.int .u8) r4 (aa ++ bb), .old w] := h.re
  -- behind the two hashes
  have fin : ∀ w18, St w18 [cellsA b7 (arrI .u8 v) 25, SlO 1 (Value.int .u8) r4 (aa ++ bb), .old w] → loadP w18 (⟨b7, 0, none⟩ : Addr) 32 (arrV .u8) fun v_23 =>
      newP w18 (.cells #[(SlV.val SlV.nil), (SlV.val a), (SlV.val SlV.nil), (SlV.val b)] 22) fun b_24 w_19 =>
      Holds w_19 (⟨b7, 0, none⟩ : Addr) 32 ((arrV .u8) v_23) ∧ (
      callP P 16 #[(SlV.val key), (SlV.val (SlV.mk (some (⟨b_24, 0, none⟩ : Addr)) 4 4))] w_19 (arrV .u8) fun r_25 w_20 =>
      Holds w_20 (⟨b7, 0, none⟩ : Addr) 32 ((arrV .u8) v_23) ∧ (
      eqArrP 32 .u8 ((arrV .u8) r_25) ((arrV .u8) v_23) fun b_26 =>
      K (negB false b_26) w_20)) := by
    intro w18 h
    refine h.ldArr (b := b7) hml ?_
    refine h.nw fun b24 w19 h => ⟨St.holdArr (b := b7) h hml, ?_⟩
    have hp4 : Sl w19 1 SlV.val ⟨some ⟨b24, 0, none⟩, 4, 4⟩ [SlV.nil, a, SlV.nil, b] := Sl.lit (xs := [SlV.nil, a, SlV.nil, b]) h rfl (by simp [maxLen_eq])
    refine c16 (hk.old (h.re : St w19 [.old w])) hp4 (.cons (Sl.nil w19) (.cons (ha.old (h.re : St w19 [.old w])) (.two (Sl.nil w19) (hb.old (h.re : St w19 [.old w]))))) (by omega) (by simp; omega) (by simp) fun w20 h' => ?_
    have h := h.thaw0 h'
    refine ⟨St.holdArr (b := b7) h hml, ?_⟩
    rw [e1'', hv]
    refine eqArr_i hml hml ?_
    rw [beq_self_eq_true]
    exact k _ h.re
  have hsl := sha_len (aa ++ bb)
  refine ⟨?_, ?_⟩
  · refine h.nw fun b17 w15 h => ⟨?_, ?_⟩
    · refine c17 (Sl.of2 (b := b17) h) (.two (ha.old (h.re : St w15 [.old w])) (hb.old (h.re : St w15 [.old w]))) (by simp; omega) fun w16 h' => ?_
      have h := h.thaw0 h'
      refine h.nw fun b19 w17 h => ?_
      refine c17 (Sl.of1 (b := b19) h) (.cons (h.slIn (s := r4)) .nil) (by simp; omega) fun w18 h' => ?_
      have h := h.thaw0 h'
      rw [e1, e1']
      refine eqArr_i hsl hsl ?_
      rw [beq_self_eq_true]
      exact cond_t rfl (fin _ h.re)
    · refine h.nw fun b27 w21 h => ?_
      refine c17 (Sl.of2 (b := b17) h) (.two (ha.old (h.re : St w21 [.old w])) (hb.old (h.re : St w21 [.old w]))) (by simp; omega) fun w22 h' => ?_
      have h := h.thaw0 h'
      refine c17 (Sl.of1 (b := b27) h) (.cons (h.slIn (s := r4)) .nil) (by simp; omega) fun w23 h' => ?_
      have h := h.thaw0 h'
      rw [e1, e1']
      refine eqArr_i hsl hsl ?_
      rw [beq_self_eq_true]
      exact cond_t rfl (fin _ h.re)
  · refine h.nw fun b36 w26 h => h.nw fun b37 w27 h => ?_
    refine c17 (Sl.of2 (b := b37) h) (.two (ha.old (h.re : St w27 [.old w])) (hb.old (h.re : St w27 [.old w]))) (by simp; omega) fun w28 h' => ?_
    have h := h.thaw0 h'
    refine c17 (Sl.of1 (b := b36) h) (.cons (h.slIn (s := r4)) .nil) (by simp; omega) fun w29 h' => ?_
    have h := h.thaw0 h'
    rw [e1, e1']
    refine eqArr_i hsl hsl ?_
    rw [beq_self_eq_true]
    exact cond_t rfl (fin _ h.re))

theorem hmac_long {k m : List Int} (h : k.length > 64) : hmac (sha k) m = hmac k m := by
  have e : key (sha k) = key k := by
    unfold key
    simp only
    rw [if_pos h, if_neg (by rw [sha_len]; omega)]
  unfold hmac
  rw [e]
theorem hmac_pad {k m : List Int} {n : Nat} (h : k.length + n ≤ 64) : hmac (k ++ List.replicate n 0) m = hmac k m := by
  have e : key (k ++ List.replicate n 0) = key k := by
    unfold key
    simp only
    rw [if_neg (by simp; omega), if_neg (by omega), List.append_assoc, List.length_append, List.length_replicate, List.replicate_append_replicate]
    congr 2
    omega
  unfold hmac
  rw [e]

/-- MacKeys -/
theorem c4 {key b : SlV} {n : Int} {kk bb : List Int} {w : World} {K : Bool → World → Prop} (hk : Sl w 1 (Value.int .u8) key kk) (hb : Sl w 1 (Value.int .u8) b bb) (k : ∀ w', St w' [.old w] → K true w') :
    callP P 4 #[key.val, b.val, .int .i64 n] w Value.bool K := sf4_call _ _ _ _ _ (by
  refine c15 (St.start w) fun w1 h => cond_f rfl ?_
  have ek : (if (200 : Int) < (key.len : Int) then (200 : Int) else (key.len : Int)) = ((min 200 kk.length : Nat) : Int) := by rw [hk.len]; split <;> omega
  have eb : (if (300 : Int) < (b.len : Int) then (300 : Int) else (b.len : Int)) = ((min 300 bb.length : Nat) : Int) := by rw [hb.len]; split <;> omega
  rw [ek, eb]
  have hkc := hk.1.2.1; have hbc := hb.1.2.1; have hkl := hk.len; have hbl := hb.len
  refine chk_i (leR_i (by omega) (by omega)) (chk_i (leR_i (by omega) (by omega)) (chk_i (leR_i (by omega) (by omega)) (chk_i (leR_i (by omega) (by omega)) ?_)))
  have hk' : Sl w 1 (Value.int .u8) (SlV.sub key 0 (Int.toNat ((min 200 kk.length : Nat) : Int)) key.cap 1) _ := Sl.sub (l := 0) (m := min 200 kk.length) hk (Nat.zero_le _) (by omega)
  have hb' : Sl w 1 (Value.int .u8) (SlV.sub b 0 (Int.toNat ((min 300 bb.length : Nat) : Int)) b.cap 1) _ := Sl.sub (l := 0) (m := min 300 bb.length) hb (Nat.zero_le _) (by omega)
  rw [List.drop_zero] at hk' hb'
  generalize SlV.sub key 0 (Int.toNat ((min 200 kk.length : Nat) : Int)) key.cap 1 = key at hk' ⊢
  generalize SlV.sub b 0 (Int.toNat ((min 300 bb.length : Nat) : Int)) b.cap 1 = b at hb' ⊢
  have hxl : (kk.take (min 200 kk.length)).length ≤ 200 := by simp; omega
  have hyl : (bb.take (min 300 bb.length)).length ≤ 300 := by simp; omega
  generalize kk.take (min 200 kk.length) = kx at hk' hxl
  generalize bb.take (min 300 bb.length) = bx at hb' hyl
  clear hk hb ek eb hkc hbc hkl hbl
  have h := h.drew
  refine h.nw fun b2 w2 h => ?_
  have e1 : ([bx] : List (List Int)).flatten = bx := by simp
  refine c16 (hk'.old (h.re : St w2 [.old w])) (Sl.of1 (b := b2) h) (.cons (hb'.old (h.re : St w2 [.old w])) .nil) (by omega) (by simp; omega) (by simp) fun w3 h' => ?_
  have h := h.thaw0 h'
  rw [e1]
  have hml := hmac_len kx bx
  generalize hv : hmac kx bx = v at hml
  refine h.nwA fun b4 w4 h => ?_
  refine h.stArr (b := b4) hml (by simp) fun w5 h => ?_
  rw [hk'.len]
  refine cond_i (fun e => ?_) (fun e => ?_)
  · have e : kx.length > 64 := by simp at e; omega
    refine h.nw fun b5 w6 h => ?_
    refine c17 (Sl.of1 (b := b5) h) (.cons (hk'.old (h.re : St w6 [.old w])) .nil) (by simp; omega) fun w7 h' => ?_
    have h := h.thaw0 h'
    have ekx : ([kx] : List (List Int)).flatten = kx := by simp
    rw [ekx]
    have hsl := sha_len kx
    have hlong := hmac_long (m := bx) e
    generalize sha kx = sv at hsl hlong
    refine h.nwA fun b7 w8 h => ?_
    refine h.stArr (b := b7) hsl (by simp) fun w9 h => ?_
    have h := h.drew
    refine h.ldArr (b := b4) hml ?_
    refine h.nw fun b9 w10 h => ⟨St.holdArr (b := b4) h hml, ?_⟩
    rw [arrSub32]
    refine c16 (Sl.arr (b := b7) h hsl) (Sl.of1 (b := b9) h) (.cons (hb'.old (h.re : St w10 [.old w])) .nil) (by omega) (by simp; omega) (by simp) fun w11 h' => ?_
    have h := h.thaw0 h'
    refine ⟨St.holdArr (b := b4) h hml, ?_⟩
    rw [e1, hlong, hv]
    refine eqArr_i hml hml ?_
    rw [beq_self_eq_true]
    exact k _ h.re
  · have e : kx.length ≤ 64 := by simp at e; omega
    have e65 : IntKind.u64.wrap (IntKind.i64.wrap ((65 : Int) - (kx.length : Int))) = ((65 - kx.length : Nat) : Int) := by rw [wrap_i64 (by omega) (by omega), wrap_u64]; omega
    rw [e65]
    refine chk_i (by simp; omega) ?_
    obtain ⟨m, hm, hme⟩ : ∃ m : Nat, m < 65 - kx.length ∧ IntKind.i64.wrap (Int.tmod (IntKind.u64.wrap n) ((65 - kx.length : Nat) : Int)) = (m : Int) := by
      have h1 := Int.emod_nonneg (IntKind.u64.wrap n) (show ((65 - kx.length : Nat) : Int) ≠ 0 by omega)
      have h2 := Int.emod_lt_of_pos (IntKind.u64.wrap n) (show (0 : Int) < ((65 - kx.length : Nat) : Int) by omega)
      refine ⟨(IntKind.u64.wrap n % ((65 - kx.length : Nat) : Int)).toNat, by omega, ?_⟩
      rw [Int.tmod_eq_emod_of_nonneg (by rw [wrap_u64]; omega), wrap_i64 (by omega) (by omega)]
      omega
    rw [hme]
    have hpad := hmac_pad (k := kx) (m := bx) (n := m) (by omega)
    have h := h.drew
    refine h.ldArr (b := b4) hml ?_
    have g : ∀ {w'} {q : SlV} {bq : Nat} {H : List HA} {H2 : List HA} (h : St w' H) [CellsIn b4 H (arrI .u8 v) 25 H2] (h1 : Sl w' 1 (Value.int .u8) q (kx ++ List.replicate m 0)) (h2 : Sl w' 1 SlV.val ⟨some ⟨bq, 0, none⟩, 1, 1⟩ [b]) (h3 : Sl w' 1 (Value.int .u8) b bx) (h4 : ∀ w'', St w'' H → St w'' [.old w]),
        callP P 16 #[q.val, (SlV.mk (some (⟨bq, 0, none⟩ : Addr)) 1 1).val] w' (arrV .u8) fun r w'' => Holds w'' (⟨b4, 0, none⟩ : Addr) 32 (arrV .u8 v) ∧ (eqArrP 32 .u8 (arrV .u8 r) (arrV .u8 v) fun x => K (negB false x) w'') := by
      intro w' q bq H H2 h ci h1 h2 h3 h4
      refine c16 h1 h2 (.cons h3 .nil) (by simp; omega) (by simp; omega) (by simp) fun w'' h' => ?_
      have h := h.thaw0 h'
      refine ⟨St.holdArr (b := b4) h hml, ?_⟩
      rw [e1, hpad, hv]
      refine eqArr_i hml hml ?_
      rw [beq_self_eq_true]
      exact k _ (h4 _ h)
    refine ⟨?_, ?_⟩
    · refine h.nw fun b13 w12 h => ⟨St.holdArr (b := b4) h hml, ?_, ?_⟩
      · refine St.fresh h (hk'.old (h.re : St w12 [.old w])) (by omega) fun r14 w13 h => ⟨St.holdArr (b := b4) h hml, ?_, ?_⟩
        · refine h.appMake (s := r14) slT22 slZ22 und3 (by omega) (by omega) fun r15 w14 h => ⟨St.holdArr (b := b4) h hml, ?_⟩
          refine h.nw fun b16 w15 h => ⟨St.holdArr (b := b4) h hml, ?_⟩
          exact g h (h.slIn (s := r15)) (Sl.of1 (b := b16) h) (hb'.old (h.re : St w15 [.old w])) fun w'' h => h.re
        · refine h.nw fun b19 w17 h => ⟨St.holdArr (b := b4) h hml, ?_⟩
          refine h.appMake (s := r14) slT22 slZ22 und3 (by omega) (by omega) fun r20 w18 h => ⟨St.holdArr (b := b4) h hml, ?_⟩
          exact g h (h.slIn (s := r20)) (Sl.of1 (b := b19) h) (hb'.old (h.re : St w18 [.old w])) fun w'' h => h.re
      · refine h.nw fun b23 w20 h => ⟨St.holdArr (b := b4) h hml, ?_⟩
        refine St.fresh h.g1 (hk'.old (h.re : St w20 [.old w])) (by omega) fun r24 w21 h => ⟨St.holdArr (b := b4) h hml, ?_⟩
        refine h.appMake (s := r24) slT22 slZ22 und3 (by omega) (by omega) fun r25 w22 h => ⟨St.holdArr (b := b4) h hml, ?_⟩
        exact g h (h.slIn (s := r25)) (Sl.of1 (b := b23) h) (hb'.old (h.re : St w22 [.old w])) fun w'' h => h.re
    · refine h.nw fun b28 w24 h => ⟨St.holdArr (b := b4) h hml, ?_⟩
      refine h.nw fun b29 w25 h => ⟨St.holdArr (b := b4) h hml, ?_⟩
      refine St.fresh h (hk'.old (h.re : St w25 [.old w])) (by omega) fun r30 w26 h => ⟨St.holdArr (b := b4) h hml, ?_⟩
      refine h.appMake (s := r30) slT22 slZ22 und3 (by omega) (by omega) fun r31 w27 h => ⟨St.holdArr (b := b4) h hml, ?_⟩
      exact g h (h.slIn (s := r31)) (Sl.of1 (b := b28) h) (hb'.old (h.re : St w27 [.old w])) fun w'' h => h.re)
end Go.Vc.SA
