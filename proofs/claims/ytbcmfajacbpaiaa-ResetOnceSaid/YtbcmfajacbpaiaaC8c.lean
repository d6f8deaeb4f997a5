/-
  ResetOnce: what the call comes to.
-/
import Derived.Test.YtbcmfajacbpaiaaC8b
set_option linter.all false
set_option linter.unusedVariables false
set_option maxRecDepth 100000
namespace Go.Vc.SB
open Go.Proofs
section
variable {b4 b5 b6 b7 : Nat} {e : Nat → Nat} {v : Nat → SlV} {D : Nat → Dir} {ps : Nat → List ParamV} {pool : List (SlV × List Int)} {k : Nat} {H : List HA} {w : World}
theorem Iv.mkP {i : Nat} {X Y : Dir} {p q : List ParamV} {c6 c7 : List Value} {s' vv : SlV} {bs : List Int} (hk : k < 2) (h : St w (cellsA b4 (ends e) 75 :: cellsA b5 (arrF 2 fun i => (updN v (1 - k) s' i).val) 78 :: cellsA b6 c6 80 :: cellsA b7 c7 80 :: SlO 2 ParamV.val (v k) p :: SlO 2 ParamV.val s' q ::
    En (e k) (esOf X Y) :: En (e (1 - k)) (esOf Y X) :: SlO 1 (Value.int .u8) vv bs :: Pool pool :: H)) (hX : DirOk i X) (hY : DirOk i Y) (hN : NetOk i X Y ((vv, bs) :: pool) p) (hM : NetOk i Y X ((vv, bs) :: pool) q) (h6 : c6 = dns (two k X Y)) (h7 : c7 = ins (two k X Y)) : Iv b4 b5 b6 b7 e H i w := by
  have h2 := Pool.add (h.re (G := SlO 1 (Value.int .u8) vv bs :: Pool pool :: cellsA b4 (ends e) 75 :: cellsA b5 (arrF 2 fun i => (updN v (1 - k) s' i).val) 78 :: cellsA b6 c6 80 :: cellsA b7 c7 80 :: SlO 2 ParamV.val (v k) p :: SlO 2 ParamV.val s' q ::
    En (e k) (esOf X Y) :: En (e (1 - k)) (esOf Y X) :: H))
  have ek : updN v (1 - k) s' k = v k := updN_other _ _ (by omega)
  have eo : updN v (1 - k) s' (1 - k) = s' := updN_same _ _ _
  refine Iv.mk' (v := updN v (1 - k) s') (X := X) (Y := Y) (p := p) (q := q) (c6 := c6) (c7 := c7) (pool := (vv, bs) :: pool) hk ?_ hX hY hN hM h6 h7
  rw [ek, eo]
  exact h2.re
theorem OkAll.mono {i j : Nat} (h : OkAll i D pool ps) (hj : i ≤ j) : OkAll j D pool ps := fun k hk => ⟨(h k hk).1.mono hj, (h k hk).2.mono hj⟩
theorem DirOk.want {i : Nat} {X : Dir} {l : List Int} (h : DirOk i X) (hl : rising l) : DirOk i { X with wa := l } := ⟨h.Mi, h.lo, h.hi, h.shut, hl, h.op, h.rql, h.rq, h.dn, h.inn⟩
theorem NetOk.wantX {i : Nat} {X Y : Dir} {l : List Int} {p : List ParamV} (h : NetOk i X Y pool p) : NetOk i { X with wa := l } Y pool p := ⟨h.len, h.all⟩
theorem NetOk.wantY {i : Nat} {X Y : Dir} {l : List Int} {p : List ParamV} (h : NetOk i X Y pool p) : NetOk i X { Y with wa := l } pool p := ⟨h.len, h.all⟩

/-- what Hear leaves, ahead of the counting -/
structure Heard (b4 b5 b6 b7 : Nat) (e : Nat → Nat) (D : Nat → Dir) (H : List HA) (k i b36 : Nat) (w : World) (rp : Option Addr) (a : Bool) (si sd : SlV) : Prop where
  ex : ∃ (il dl : List Int) (X Y : Dir) (v : Nat → SlV) (p q : List ParamV) (pool : List (SlV × List Int)),
    St w (cellsA b36 [.pointer rp, si.val, .bool a, sd.val] 90 :: SlO 1 (Value.int .u16) si il :: SlO 1 (Value.int .u16) sd dl :: cellsA b4 (ends e) 75 :: cellsA b5 (nets v) 78 :: cellsA b6 (dns D) 80 :: cellsA b7 (ins D) 80 ::
      SlO 2 ParamV.val (v k) p :: SlO 2 ParamV.val (v (1 - k)) q :: En (e k) (esOf X Y) :: En (e (1 - k)) (esOf Y X) :: Pool pool :: H) ∧
    rising il ∧ rising dl ∧ DirOk i X ∧ DirOk i Y ∧ NetOk i X Y pool p ∧ NetOk i Y X pool q ∧
    (∀ x, x < 8 → X.dn x = (D k).dn x + if (x : Int) ∈ dl then 1 else 0) ∧ (∀ x, x < 8 → X.inn x = (D k).inn x) ∧
    (∀ x, x < 8 → Y.dn x = (D (1 - k)).dn x) ∧ (∀ x, x < 8 → Y.inn x = (D (1 - k)).inn x + if (x : Int) ∈ il then 1 else 0)
end

/-- ResetOnce -/
theorem c8 {mine theirs : Int} {acts : SlV} {as_ : List Int} {w : World} {H : List HA} {K : Bool → World → Prop} (h : St w H) (ha : ∀ w', St w' H → Sl w' 1 (Value.int .i64) acts as_) (hm : 0 ≤ mine ∧ mine < 4294967296) (ht : 0 ≤ theirs ∧ theirs < 4294967296)
    (k : ∀ w', St w' H → K true w') : callP P 8 #[.int .u32 mine, .int .u32 theirs, acts.val] w Value.bool K := sf8_call _ _ _ _ _ (by
  refine c34 h fun w1 h => cond_f rfl ?_
  refine c35 h fun e0 w1 h => c35 h fun e1 w2 h => ?_
  refine h.nw fun b4 w3 h => ?_
  refine h.nw fun b5 w4 h => ?_
  refine h.nw fun b6 w5 h => ?_
  refine h.nw fun b7 w6 h => ?_
  obtain ⟨e, he0, he1⟩ : ∃ e : Nat → Nat, e 0 = e0 ∧ e 1 = e1 := ⟨fun j => if j = 0 then e0 else e1, rfl, rfl⟩
  subst he0 he1
  have I0 : Iv b4 b5 b6 b7 e H 0 w6 := by
    have D0 : ∀ a : Int, DirOk 0 ⟨a, 0, 0, [], [], [], fun _ => 0, fun _ => 0⟩ := fun a => ⟨Nat.le_refl _, Nat.le_refl _, by simp, fun _ => rfl, rising_nil, rising_nil, by simp, fun h => absurd rfl h, fun _ _ => by simp, fun _ _ => by simp⟩
    have hP : St w6 (Pool [] :: SlO 2 ParamV.val SlV.nil [] :: SlO 2 ParamV.val SlV.nil [] :: cellsA b7 (arrF 16 fun _ => .int .i64 0) 80 :: cellsA b6 (arrF 16 fun _ => .int .i64 0) 80 :: cellsA b5 (nets fun _ => SlV.nil) 78 :: cellsA b4 (ends e) 75 ::
      En (e 1) ⟨theirs, mine, [], [], []⟩ :: En (e 0) ⟨mine, theirs, [], [], []⟩ :: H) := Pool.nil (SlO.nil (n := 2) (val := ParamV.val) (SlO.nil (n := 2) (val := ParamV.val) h))
    refine Iv.mk' (k := 0) (v := fun _ => SlV.nil) (X := ⟨mine, 0, 0, [], [], [], fun _ => 0, fun _ => 0⟩) (Y := ⟨theirs, 0, 0, [], [], [], fun _ => 0, fun _ => 0⟩) (p := []) (q := []) (pool := [])
      (c6 := arrF 16 fun _ => .int .i64 0) (c7 := arrF 16 fun _ => .int .i64 0) (by omega) ?_ (D0 _) (D0 _) ⟨Nat.le_refl _, by simp⟩ ⟨Nat.le_refl _, by simp⟩ ?_ ?_
    · have en : ∀ a : Int, 0 ≤ a ∧ a < 4294967296 → num32 a 0 = a := fun a h => by unfold num32; omega
      unfold esOf
      rw [en mine hm, en theirs ht]
      exact hP.re
    · refine arrF_congr fun j hj => ?_
      unfold two
      split <;> rfl
    · refine arrF_congr fun j hj => ?_
      unfold two
      split <;> rfl
  refine loop_cnt (n := as_.length) (fun i w' => i ≤ 200 ∧ Iv b4 b5 b6 b7 e H i w') ⟨by omega, I0⟩ ?_ ?_
  rotate_left
  · rintro g w7 next ⟨_, v, D, ps, pool, hok, h⟩
    have has := ha w7 h.re
    rw [has.len]
    exact cond_f (lt_false _) (k _ h.re)
  rintro g i w7 next hi ⟨hi2, v, D, ps, pool, hok, h⟩ hn
  have has := ha w7 h.re
  have hlt := has.len_lt hi
  rw [has.len]
  refine cond_t (lt_true hi) ?_
  rw [← has.len]
  refine has.atN (List.getElem?_eq_getElem hi) fun ad _ => ?_
  generalize as_[i] = act
  refine cond_i (fun _ => k _ h.re) (fun e200 => ?_)
  have hi3 : i < 200 := by simp at e200; omega
  obtain ⟨kk, hk, ek⟩ := act_k act
  rw [ek, act_o hk, wrap_succ hlt]
  have hs8 := act_s act
  generalize IntKind.u16.wrap (Int.tmod (IntKind.u64.wrap (Int.tdiv (IntKind.u64.wrap act) 2)) 8) = s at hs8 ⊢
  have hkk : inR (kk : Int) 2 = true := inR_i (by omega) (by omega)
  have hoo : inR ((1 - kk : Nat) : Int) 2 = true := inR_i (by omega) (by omega)
  refine chk_i hkk ?_
  have h := Sn.to hk h
  obtain ⟨hX, hN⟩ := hok kk hk
  obtain ⟨hY, hM⟩ := hok (1 - kk) (by omega)
  rw [show 1 - (1 - kk) = kk by omega] at hM
  have ho2 : 1 - kk < 2 := by omega
  have hSn := h
  unfold Sn at h
  generalize hXe : D kk = X at h hX hN hM
  generalize hYe : D (1 - kk) = Y at h hY hN hM
  refine h.lda (b := b4) (x := some ⟨e kk, 0, none⟩) (arrF_at hk) ?_
  refine cut_i (fun _ w' => Iv b4 b5 b6 b7 e H (i + 1) w') ?_ ?_
  · refine cond_i (fun _ => ?_) (fun _ => cond_i (fun _ => ?_) (fun _ => ?_))
    · -- Want, Open
      refine h.nw fun b15 w8 h => ?_
      have h : St w8 (SlO 1 (Value.int .u16) ⟨some ⟨b15, 0, none⟩, 1, 1⟩ [s] :: _) := SlO.of_cells (xs := [s]) h rfl rfl (by simp [maxLen_eq])
      have hwl := rising_len hX.wa
      refine c36 (b := e kk) h (by show X.wa.length + 1 ≤ 12; omega) fun w9 ys hp hsort h => ?_
      have hys : rising ys := rising_want (X := esOf X Y) hs8 hX.wa hp hsort
      have hyl := rising_len hys
      refine h.nw fun b17 w10 h => ?_
      generalize IntKind.u16.wrap (Int.tdiv s 2) = d at h ⊢
      have h : St w10 (SlO 1 (Value.int .u16) ⟨some ⟨b17, 0, none⟩, 3, 3⟩ [s, d, 7] :: _) := SlO.of_cells (xs := [s, d, 7]) h rfl rfl (by simp [maxLen_eq])
      refine c37 (b := e kk) h (by show ys.length ≤ _; omega) (fun hop w11 h => ?_) (fun hop hz w11 h => ?_) (fun hop hz vv w11 h => ?_)
      · change St w11 (En (e kk) (esOf { X with wa := ys } Y) :: _) at h
        refine h.nw fun b19 w12 h => ?_
        refine h.stn rfl rfl (Nat.le_of_ble_eq_true rfl) fun w13 h => cond_f rfl ?_
        exact Iv.mk' (X := { X with wa := ys }) (Y := Y) (p := ps kk) (q := ps (1 - kk)) (c6 := dns D) (c7 := ins D) (v := v) (pool := pool) hk h.re ((hX.want hys).mono (by omega)) (hY.mono (by omega)) (hN.wantX.mono (by omega)) (hM.wantY.mono (by omega)) (dns_same hk (by rw [hXe]) (by rw [hYe])) (ins_same hk (by rw [hXe]) (by rw [hYe]))
      · change St w11 (En (e kk) (esOf { X with wa := leftL { esOf X Y with wanted := ys } [s, d, 7] } Y) :: _) at h
        refine h.nw fun b19 w12 h => ?_
        refine h.stn rfl rfl (Nat.le_of_ble_eq_true rfl) fun w13 h => cond_f rfl ?_
        exact Iv.mk' (X := { X with wa := leftL { esOf X Y with wanted := ys } [s, d, 7] }) (Y := Y) (p := ps kk) (q := ps (1 - kk)) (c6 := dns D) (c7 := ins D) (v := v) (pool := pool) hk h.re ((hX.want (rising_filter hys _)).mono (by omega)) (hY.mono (by omega)) (hN.wantX.mono (by omega)) (hM.wantY.mono (by omega)) (dns_same hk (by rw [hXe]) (by rw [hYe])) (ins_same hk (by rw [hXe]) (by rw [hYe]))
      · have hst := open_step (t := num32 Y.a Y.T) hX hN hM hop (rising_filter hys fun x => decide (x ∈ [s, d, 7])) hz (rising_filter hys fun x => !decide (x ∈ [s, d, 7]))
        change St w11 (SlO 1 (Value.int .u8) vv (askB (num32 X.a X.M) (num32 Y.a Y.T) 0 (ys.filter fun x => decide (x ∈ [s, d, 7]))) ::
          En (e kk) (esOf { X with wa := ys.filter fun x => !decide (x ∈ [s, d, 7]), op := ys.filter fun x => decide (x ∈ [s, d, 7]), rq := askB (num32 X.a X.M) (num32 Y.a Y.T) 0 (ys.filter fun x => decide (x ∈ [s, d, 7])) } Y) :: _) at h
        generalize (ys.filter fun x => decide (x ∈ [s, d, 7])) = opl at h hst
        generalize (ys.filter fun x => !decide (x ∈ [s, d, 7])) = wal at h hst
        obtain ⟨q1, q2, q3, q4⟩ := hst
        refine h.nw fun b19 w12 h => ?_
        refine h.stn rfl rfl (Nat.le_of_ble_eq_true rfl) fun w13 h => cond_t rfl ?_
        change St w13 (cellsA b19 [.int .u16 13, vv.val] 83 :: _) at h
        have h := h.drew
        refine chk_i hoo ?_
        refine h.lda (b := b5) (x := v (1 - kk)) (arrF_at ho2) ?_
        refine h.ldn (b := b19) (x := ⟨13, vv⟩) rfl rfl ?_
        refine push (v := v) (j := 1 - kk) h ho2 (by have := hM.len; omega) fun w14 s' h => ?_
        exact Iv.mkP (X := { X with wa := wal, op := opl, rq := askB (num32 X.a X.M) (num32 Y.a Y.T) 0 opl }) (s' := s') (vv := vv) (bs := askB (num32 X.a X.M) (num32 Y.a Y.T) 0 opl) (q := ps (1 - kk) ++ [⟨13, vv⟩]) (Y := Y) (p := ps kk) (c6 := dns D) (c7 := ins D) (v := v) (pool := pool) hk h.re (q1.mono (by omega)) (hY.mono (by omega)) ((q2.more _).mono (by omega)) (q3.add q4) (dns_same hk (by rw [hXe]) (by rw [hYe])) (ins_same hk (by rw [hXe]) (by rw [hYe]))
    · -- Again
      refine c38 (b := e kk) h (by have := hX.rql; show X.rq.length ≤ _; omega) (fun hop w8 h => ?_) (fun hop vv w8 h => ?_)
      · refine h.nw fun b19 w12 h => ?_
        refine h.stn rfl rfl (Nat.le_of_ble_eq_true rfl) fun w13 h => cond_f rfl ?_
        exact Iv.mk' (X := X) (Y := Y) (p := ps kk) (q := ps (1 - kk)) (c6 := dns D) (c7 := ins D) (v := v) (pool := pool) hk h.re (hX.mono (by omega)) (hY.mono (by omega)) (hN.mono (by omega)) (hM.mono (by omega)) (dns_same hk (by rw [hXe]) (by rw [hYe])) (ins_same hk (by rw [hXe]) (by rw [hYe]))
      · refine h.nw fun b19 w12 h => ?_
        refine h.stn rfl rfl (Nat.le_of_ble_eq_true rfl) fun w13 h => cond_t rfl ?_
        change St w13 (cellsA b19 [.int .u16 13, vv.val] 83 :: _) at h
        have h := h.drew
        refine chk_i hoo ?_
        refine h.lda (b := b5) (x := v (1 - kk)) (arrF_at ho2) ?_
        refine h.ldn (b := b19) (x := ⟨13, vv⟩) rfl rfl ?_
        refine push (v := v) (j := 1 - kk) h ho2 (by have := hM.len; omega) fun w14 s' h => ?_
        exact Iv.mkP (X := X) (Y := Y) (p := ps kk) (c6 := dns D) (c7 := ins D) (v := v) (pool := pool) (s' := s') (vv := vv) (bs := X.rq) hk h.re (hX.mono (by omega)) (hY.mono (by omega)) ((hN.more _).mono (by omega)) (hM.add (again_step hX hop)) (dns_same hk (by rw [hXe]) (by rw [hYe])) (ins_same hk (by rw [hXe]) (by rw [hYe]))
    · -- Hear
      refine chk_i hkk ?_
      refine h.lda (b := b5) (x := v kk) (arrF_at hk) ?_
      refine cond_i (fun _ => ?_) (fun hne => ?_)
      · refine hn _ ⟨by omega, v, D, ps, pool, hok.mono (by omega), Sn.fro hk hSn⟩
      have hnet := h.slIn (s := v kk)
      have hnl := hN.len
      have hne : 0 < (v kk).len := by simp at hne; omega
      refine chk_i hkk ?_
      refine h.lda (b := b5) (x := v kk) (arrF_at hk) ?_
      have hvl : (v kk).len ≤ 1000 := by rw [hnet.len]; omega
      refine chk_i (by rw [wrap_u64]; simp; omega) (chk_i hkk ?_)
      refine h.lda (b := b5) (x := v kk) (arrF_at hk) ?_
      obtain ⟨j, hj, ej⟩ := act_at act hne hvl
      rw [ej]
      rw [hnet.len] at hj
      refine hnet.atN (List.getElem?_eq_getElem hj) fun ad _ => ?_
      obtain ⟨bs, hbs, hmsg⟩ := hN.all (ps kk)[j] (List.getElem_mem hj)
      generalize (ps kk)[j] = p at hbs hmsg ⊢
      obtain ⟨pk, pv⟩ := p
      simp only at hbs hmsg
      have hsl : Sl w7 1 (Value.int .u8) pv bs := Pool.get (H := H) (h.re) hbs
      -- what is common behind Hear
      have fin : ∀ (b36 : Nat) (w8 : World) (rp : Option Addr) (a : Bool) (si sd : SlV), Heard b4 b5 b6 b7 e D H kk (i + 1) b36 w8 rp a si sd →
        loadP w8 ((⟨b36, 0, none⟩ : Addr).add 1) 1 SlV.val fun v_46 =>
            loopP (Int) (0 : Int) w8 fun next__47 _ s_48 w_32 =>
            cond' (decide (s_48 < (v_46.len : Int))) (
            chkP (inR s_48 v_46.len) <|
            nilP v_46.a fun a_49 =>
            loadP w_32 (a_49.add (Int.toNat s_48 * 1)) 1 (Value.int .u16) fun v_50 =>
            chkP (inR (kk : Int) 2) <|
            chkP (inR (Int.tmod v_50 (8 : Int)) 8) <|
            loadP w_32.drew (((⟨b7, 0, none⟩ : Addr).add (Int.toNat (kk : Int) * 8)).add (Int.toNat (Int.tmod v_50 (8 : Int)) * 1)) 1 (Value.int .i64) fun v_51 =>
            chkP (inR (kk : Int) 2) <|
            chkP (inR (Int.tmod v_50 (8 : Int)) 8) <|
            storeP w_32.drew (((⟨b7, 0, none⟩ : Addr).add (Int.toNat (kk : Int) * 8)).add (Int.toNat (Int.tmod v_50 (8 : Int)) * 1)) 1 (.int .i64 (IntKind.i64.wrap (v_51 + (1 : Int)))) fun w_33 =>
            next__47 (IntKind.i64.wrap (s_48 + (1 : Int))) w_33) (
            loadP w_32 ((⟨b36, 0, none⟩ : Addr).add 3) 1 SlV.val fun v_52 =>
            loopP (Int) (0 : Int) w_32 fun next__53 _ s_54 w_34 =>
            cond' (decide (s_54 < (v_52.len : Int))) (
            chkP (inR s_54 v_52.len) <|
            nilP v_52.a fun a_55 =>
            loadP w_34 (a_55.add (Int.toNat s_54 * 1)) 1 (Value.int .u16) fun v_56 =>
            chkP (inR (kk : Int) 2) <|
            chkP (inR (Int.tmod v_56 (8 : Int)) 8) <|
            loadP w_34.drew (((⟨b6, 0, none⟩ : Addr).add (Int.toNat (kk : Int) * 8)).add (Int.toNat (Int.tmod v_56 (8 : Int)) * 1)) 1 (Value.int .i64) fun v_57 =>
            chkP (inR (kk : Int) 2) <|
            chkP (inR (Int.tmod v_56 (8 : Int)) 8) <|
            storeP w_34.drew (((⟨b6, 0, none⟩ : Addr).add (Int.toNat (kk : Int) * 8)).add (Int.toNat (Int.tmod v_56 (8 : Int)) * 1)) 1 (.int .i64 (IntKind.i64.wrap (v_57 + (1 : Int)))) fun w_35 =>
            next__53 (IntKind.i64.wrap (s_54 + (1 : Int))) w_35) (
            chkP (inR (kk : Int) 2) <|
            loadP w_34 ((⟨b5, 0, none⟩ : Addr).add (Int.toNat (kk : Int) * 1)) 1 SlV.val fun v_58 =>
            cond' (decide ((v_58.len : Int) > (30 : Int))) (
            chkP (inR (kk : Int) 2) <|
            loadP w_34 ((⟨b5, 0, none⟩ : Addr).add (Int.toNat (kk : Int) * 1)) 1 SlV.val fun v_59 =>
            chkP (leR (v_59.len : Int) (v_59.cap : Int)) <|
            chkP (leR (20 : Int) (v_59.len : Int)) <|
            chkP (inR (kk : Int) 2) <|
            storeP w_34 ((⟨b5, 0, none⟩ : Addr).add (Int.toNat (kk : Int) * 1)) 1 (SlV.val (SlV.sub v_59 (20) (v_59.len) v_59.cap 2)) fun w_36 =>
            Iv b4 b5 b6 b7 e H (i + 1) w_36) (
            Iv b4 b5 b6 b7 e H (i + 1) w_34))) := by
        clear h hX hY hN hM hXe hYe hnet hnl
        rintro b36 w8 rp a si sd ⟨il, dl, X, Y, v, p, q, pool, h, hil, hdl, hX', hY', hN', hM', d1, d2, d3, d4⟩
        refine h.lda (b := b36) (x := si) rfl ?_
        refine bump (b := b7) (f := fun j => (D (1 - j / 8)).inn (j % 8)) (k := kk) (l := il) (T := 80) (H := SlO 1 (Value.int .u16) si il :: cellsA b36 [.pointer rp, si.val, .bool a, sd.val] 90 :: SlO 1 (Value.int .u16) sd dl :: cellsA b4 (ends e) 75 :: cellsA b5 (nets v) 78 :: cellsA b6 (dns D) 80 ::
            SlO 2 ParamV.val (v kk) p :: SlO 2 ParamV.val (v (1 - kk)) q :: En (e kk) (esOf X Y) :: En (e (1 - kk)) (esOf Y X) :: Pool pool :: H) h.re hk (fun _ _ h => h.g1.sl) hil ?_ ?_
        · intro j hj
          have hD := (hok (1 - j / 8) (by omega)).1
          have h1 := hD.dn (j % 8) (by omega)
          have h2 := hD.inn (j % 8) (by omega)
          have h3 := hD.Mi
          show 0 ≤ (D (1 - j / 8)).inn (j % 8) ∧ (D (1 - j / 8)).inn (j % 8) ≤ 1000
          rw [h2]
          split <;> omega
        · intro w9 h
          refine h.lda (b := b36) (x := sd) rfl ?_
          refine bump (b := b6) (f := fun j => (D (j / 8)).dn (j % 8)) (k := kk) (l := dl) (T := 80) (H := SlO 1 (Value.int .u16) sd dl :: cellsA b36 [.pointer rp, si.val, .bool a, sd.val] 90 :: cellsA b4 (ends e) 75 :: cellsA b5 (nets v) 78 :: cellsA b7 (arrF 16 fun j => .int .i64 ((D (1 - j / 8)).inn (j % 8) + if j / 8 = kk ∧ ((j % 8 : Nat) : Int) ∈ il then 1 else 0)) 80 ::
            SlO 2 ParamV.val (v kk) p :: SlO 2 ParamV.val (v (1 - kk)) q :: En (e kk) (esOf X Y) :: En (e (1 - kk)) (esOf Y X) :: Pool pool :: H) h.re hk (fun _ _ h => h.g1.sl) hdl ?_ ?_
          · intro j hj
            have hD := (hok (j / 8) (by omega)).1
            have h1 := hD.dn (j % 8) (by omega)
            have h3 := hD.Mi
            show 0 ≤ (D (j / 8)).dn (j % 8) ∧ (D (j / 8)).dn (j % 8) ≤ 1000
            omega
          · intro w10 h
            have h6 : (arrF 16 fun j => .int .i64 ((D (j / 8)).dn (j % 8) + if j / 8 = kk ∧ ((j % 8 : Nat) : Int) ∈ dl then 1 else 0)) = dns (two kk X Y) := by
              refine arrF_congr fun j hj => ?_
              by_cases hj1 : j / 8 = kk
              · rw [hj1, two_a, d1 _ (by omega)]; simp
              · have : j / 8 = 1 - kk := by omega
                rw [this, two_b hk, d3 _ (by omega), if_neg (by omega), Int.add_zero]
            have h7 : (arrF 16 fun j => .int .i64 ((D (1 - j / 8)).inn (j % 8) + if j / 8 = kk ∧ ((j % 8 : Nat) : Int) ∈ il then 1 else 0)) = ins (two kk X Y) := by
              refine arrF_congr fun j hj => ?_
              by_cases hj1 : j / 8 = kk
              · rw [hj1, two_b hk, d4 _ (by omega)]; simp
              · have : 1 - j / 8 = kk := by omega
                rw [this, two_a, d2 _ (by omega), if_neg (by omega), Int.add_zero]
            refine chk_i hkk ?_
            refine h.lda (b := b5) (x := v kk) (arrF_at hk) ?_
            have hnet := h.slIn (s := v kk)
            refine cond_i (fun h30 => ?_) (fun _ => ?_)
            · have h30 : 30 < (v kk).len := by simp at h30; omega
              refine chk_i hkk ?_
              refine h.lda (b := b5) (x := v kk) (arrF_at hk) ?_
              refine chk_i (leR_i (by omega) (by have := hnet.1.2.1; omega)) (chk_i (leR_i (by omega) (by omega)) (chk_i hkk ?_))
              refine h.stna (b := b5) (v := (SlV.sub (v kk) 20 (v kk).len (v kk).cap 2).val) rfl rfl (by rw [arrF_len]; simp; omega) fun w11 h => ?_
              have h := SlO.sub (l := 20) (m := (v kk).len) (h.fsl (s := v kk)) (by omega) (by rw [hnet.len]; omega)
              have e5 : putL (arrF 2 fun i => (v i).val) (0 + Int.toNat (kk : Int) * 1) (SlV.sub (v kk) 20 (v kk).len (v kk).cap 2).val.cells.toList = nets (updN v kk (SlV.sub (v kk) 20 (v kk).len (v kk).cap 2)) := by
                rw [Int.toNat_natCast, Nat.mul_one, Nat.zero_add]
                refine (arrF_put (n := 2) (i := kk) (v := (SlV.sub (v kk) 20 (v kk).len (v kk).cap 2).val)).trans (arrF_congr fun i _ => ?_)
                unfold updN
                split <;> rfl
              rw [e5] at h
              have ek : updN v kk (SlV.sub (v kk) 20 (v kk).len (v kk).cap 2) kk = SlV.sub (v kk) 20 (v kk).len (v kk).cap 2 := updN_same _ _ _
              have eo : updN v kk (SlV.sub (v kk) 20 (v kk).len (v kk).cap 2) (1 - kk) = v (1 - kk) := updN_other _ _ (by omega)
              refine Iv.mk' (v := updN v kk (SlV.sub (v kk) 20 (v kk).len (v kk).cap 2)) (X := X) (Y := Y) (p := (p.take (v kk).len).drop 20) (q := q) (pool := pool) hk ?_ hX' hY' ?_ hM' h6 h7
              · rw [ek, eo]
                exact h.re
              · rw [hnet.len, List.take_length]
                exact hN'.drop 20
            · exact Iv.mk' (v := v) (X := X) (Y := Y) (p := p) (q := q) (pool := pool) hk h.re hX' hY' hN' hM' h6 h7
      have hXM := hX.Mi
      have hYM := hY.Mi
      rcases hmsg with ⟨rfl, m, l, t, rfl, hmY, hl, hc⟩ | ⟨rfl, m, r, rfl, hmX, hr, hc⟩
      · -- a request
        have hll := rising_len hl
        have hlr : ∀ x ∈ l, 0 ≤ x ∧ x < 65536 := fun x hx => by have := hl.1 x hx; omega
        refine hearAsk (b := e kk) (v := pv) h hsl (by omega) (num32_range _ _) (by omega) hlr hl.2 (fun r hr qq w8 h => ?_) (fun hfr _ qq si w8 h => ?_)
        · refine h.nw fun b36 w9 h => ?_
          refine h.stn rfl rfl (Nat.le_of_ble_eq_true rfl) fun w10 h => ?_
          change St w10 (cellsA b36 [.pointer (some ⟨qq, 0, none⟩), SlV.nil.val, .bool false, SlV.nil.val] 90 :: _) at h
          refine cond_f rfl ?_
          refine cut_i (fun _ w' => Heard b4 b5 b6 b7 e D H kk (i + 1) b36 w' (some ⟨qq, 0, none⟩) false SlV.nil SlV.nil) ?_ fun g2 _ w11 hh => fin _ _ _ _ _ _ hh
          refine h.lda (b := b36) (x := some ⟨qq, 0, none⟩) rfl (cond_t rfl (chk_i hoo ?_))
          have h := h.drew
          refine h.lda (b := b5) (x := v (1 - kk)) (arrF_at ho2) ?_
          refine h.lda (b := b36) (x := some ⟨qq, 0, none⟩) rfl ?_
          show loadP _ _ _ _ _
          obtain ⟨ss, h⟩ := Pm.un (h.front (mk := Pm) (k := qq))
          refine h.ldn (b := qq) (x := ⟨16, ss⟩) rfl rfl ?_
          refine push (v := v) (j := 1 - kk) h ho2 (by have := hM.len; omega) fun w12 s' h => ?_
          have hrep : MsgTo Y X 16 (be4 (num32 Y.a m) ++ be4 r) := rep_step hY (by omega) hmY (by
            rcases hr with ⟨h1, h2⟩ | ⟨h1, _⟩ | ⟨h1, _⟩
            · exact .inl ⟨h1, h2⟩
            · exact .inr (.inl h1)
            · exact .inr (.inr h1))
          have h : St w12 (SlO 1 (Value.int .u8) ss (be4 (num32 Y.a m) ++ be4 r) :: Pool pool :: cellsA b36 [.pointer (some ⟨qq, 0, none⟩), SlV.nil.val, .bool false, SlV.nil.val] 90 :: cellsA b4 (ends e) 75 :: cellsA b5 (nets (updN v (1 - kk) s')) 78 :: cellsA b6 (dns D) 80 :: cellsA b7 (ins D) 80 ::
            SlO 2 ParamV.val (v kk) (ps kk) :: SlO 2 ParamV.val s' (ps (1 - kk) ++ [⟨16, ss⟩]) :: En (e kk) (esOf X Y) :: En (e (1 - kk)) (esOf Y X) :: H) := h.re
          have h := SlO.nil (val := Value.int .u16) (n := 1) (SlO.nil (val := Value.int .u16) (n := 1) (Pool.add h))
          refine ⟨⟨[], [], X, Y, updN v (1 - kk) s', ps kk, ps (1 - kk) ++ [⟨16, ss⟩], (ss, be4 (num32 Y.a m) ++ be4 r) :: pool, ?_, rising_nil, rising_nil, hX.mono (by omega), hY.mono (by omega), (hN.more _).mono (by omega), hM.add hrep, by simp [hXe], by simp [hXe], by simp [hYe], by simp [hYe]⟩⟩
          rw [updN_other (f := v) (i := 1 - kk) (j := kk) _ (by omega), updN_same]
          exact h.re
        · have hfr : num32 Y.a m = num32 Y.a Y.T := hfr
          obtain ⟨q1, q2, q3, q4⟩ := fresh_step hY hN hM (by omega) hmY hc hfr
          refine h.nw fun b36 w9 h => ?_
          refine h.stn rfl rfl (Nat.le_of_ble_eq_true rfl) fun w10 h => ?_
          change St w10 (cellsA b36 [.pointer (some ⟨qq, 0, none⟩), si.val, .bool (decide (l = [])), SlV.nil.val] 90 :: _) at h
          refine cond_f rfl ?_
          refine cut_i (fun _ w' => Heard b4 b5 b6 b7 e D H kk (i + 1) b36 w' (some ⟨qq, 0, none⟩) (decide (l = [])) si SlV.nil) ?_ fun g2 _ w11 hh => fin _ _ _ _ _ _ hh
          refine h.lda (b := b36) (x := some ⟨qq, 0, none⟩) rfl (cond_t rfl (chk_i hoo ?_))
          have h := h.drew
          refine h.lda (b := b5) (x := v (1 - kk)) (arrF_at ho2) ?_
          refine h.lda (b := b36) (x := some ⟨qq, 0, none⟩) rfl ?_
          show loadP _ _ _ _ _
          obtain ⟨ss, h⟩ := Pm.un (h.front (mk := Pm) (k := qq))
          refine h.ldn (b := qq) (x := ⟨16, ss⟩) rfl rfl ?_
          refine push (v := v) (j := 1 - kk) h ho2 (by have := hM.len; omega) fun w12 s' h => ?_
          have h : St w12 (SlO 1 (Value.int .u8) ss (be4 (num32 Y.a m) ++ be4 1) :: Pool pool :: SlO 1 (Value.int .u16) si l :: cellsA b36 [.pointer (some ⟨qq, 0, none⟩), si.val, .bool (decide (l = [])), SlV.nil.val] 90 :: cellsA b4 (ends e) 75 :: cellsA b5 (nets (updN v (1 - kk) s')) 78 :: cellsA b6 (dns D) 80 :: cellsA b7 (ins D) 80 ::
            SlO 2 ParamV.val (v kk) (ps kk) :: SlO 2 ParamV.val s' (ps (1 - kk) ++ [⟨16, ss⟩]) :: En (e kk) { esOf X Y with theirs := (num32 Y.a Y.T + 1) % 4294967296 } :: En (e (1 - kk)) (esOf Y X) :: H) := h.re
          have h := SlO.nil (val := Value.int .u16) (n := 1) (Pool.add h)
          rw [num32_succ] at h
          refine ⟨⟨l, [], X, { Y with T := Y.T + 1, inn := fun x => Y.inn x + if (x : Int) ∈ l then 1 else 0 }, updN v (1 - kk) s', ps kk, ps (1 - kk) ++ [⟨16, ss⟩], (ss, be4 (num32 Y.a m) ++ be4 1) :: pool, ?_, hl, rising_nil, hX.mono (by omega), q1.mono (by omega), (q2.more _).mono (by omega), q3.add q4, by simp [hXe], by simp [hXe], by simp [hYe], by simp [hYe]⟩⟩
          rw [updN_other (f := v) (i := 1 - kk) (j := kk) _ (by omega), updN_same]
          exact h.re
      · -- an answer
        have hA := answP_ans (x := esOf X Y) (num32_range X.a m) hr
        refine c39 (b := e kk) (p := ⟨16, pv⟩) h hsl (by simp [be4, be2]) ((bytes_be4 _).app (bytes_be4 _)) (fun hkd => ?_) (fun _ _ hkd => by simp at hkd) (fun _ _ hkd => by simp at hkd) (fun _ hkd w8 h => ?_) (fun _ hkd sd w8 h => ?_) (fun _ hkd => by simp at hkd)
        · exfalso
          rcases hkd with ⟨hkd, _⟩ | ⟨_, hkd⟩
          · simp at hkd
          · rw [hA] at hkd
            split at hkd <;> cases hkd
        · refine h.nw fun b36 w9 h => ?_
          refine h.stn rfl rfl (Nat.le_of_ble_eq_true rfl) fun w10 h => ?_
          change St w10 (cellsA b36 [.pointer none, SlV.nil.val, .bool false, SlV.nil.val] 90 :: _) at h
          refine cond_f rfl ?_
          refine cut_i (fun _ w' => Heard b4 b5 b6 b7 e D H kk (i + 1) b36 w' none false SlV.nil SlV.nil) ?_ fun g2 _ w11 hh => fin _ _ _ _ _ _ hh
          refine h.lda (b := b36) (x := none) rfl (cond_f rfl ?_)
          have h := SlO.nil (val := Value.int .u16) (n := 1) (SlO.nil (val := Value.int .u16) (n := 1) h)
          exact ⟨⟨[], [], X, Y, v, ps kk, ps (1 - kk), pool, h.re, rising_nil, rising_nil, hX.mono (by omega), hY.mono (by omega), hN.mono (by omega), hM.mono (by omega), by simp [hXe], by simp [hXe], by simp [hYe], by simp [hYe]⟩⟩
        · have hdn : X.op ≠ [] ∧ num32 X.a m = num32 X.a X.M ∧ r = 1 := by
            rw [hA] at hkd
            split at hkd
            · cases hkd
            · rename_i hc2
              exact ⟨fun e => hc2 (.inl e), Decidable.of_not_not fun e => hc2 (.inr (.inl e)), Decidable.of_not_not fun e => hc2 (.inr (.inr e))⟩
          obtain ⟨hop, hnum, hr1⟩ := hdn
          obtain ⟨q1, q2, q3⟩ := done_step hX hN hM (by omega) hmX hc hnum hr1
          refine h.nw fun b36 w9 h => ?_
          refine h.stn rfl rfl (Nat.le_of_ble_eq_true rfl) fun w10 h => ?_
          change St w10 (cellsA b36 [.pointer none, SlV.nil.val, .bool false, sd.val] 90 :: _) at h
          refine cond_f rfl ?_
          refine cut_i (fun _ w' => Heard b4 b5 b6 b7 e D H kk (i + 1) b36 w' none false SlV.nil sd) ?_ fun g2 _ w11 hh => fin _ _ _ _ _ _ hh
          refine h.lda (b := b36) (x := none) rfl (cond_f rfl ?_)
          have h : St w10 (SlO 1 (Value.int .u16) sd X.op :: cellsA b36 [.pointer none, SlV.nil.val, .bool false, sd.val] 90 :: cellsA b4 (ends e) 75 :: cellsA b5 (nets v) 78 :: cellsA b6 (dns D) 80 :: cellsA b7 (ins D) 80 ::
            SlO 2 ParamV.val (v kk) (ps kk) :: SlO 2 ParamV.val (v (1 - kk)) (ps (1 - kk)) :: En (e kk) ⟨(num32 X.a X.M + 1) % 4294967296, num32 Y.a Y.T, X.wa, [], []⟩ :: En (e (1 - kk)) (esOf Y X) :: Pool pool :: H) := h.re
          have h := SlO.nil (val := Value.int .u16) (n := 1) h
          rw [num32_succ] at h
          exact ⟨⟨[], X.op, { X with M := X.M + 1, op := [], rq := [], dn := fun x => X.dn x + if (x : Int) ∈ X.op then 1 else 0 }, Y, v, ps kk, ps (1 - kk), pool, h.re, rising_nil, hX.op, q1, hY.mono (by omega), q2, q3, by simp [hXe], by simp [hXe], by simp [hYe], by simp [hYe]⟩⟩
  · -- the look at the counts
    rintro g2 _ w8 ⟨v, D, ps, pool, hok, h⟩
    refine loop_cnt (n := 8) (fun _ w' => St w' (Sn b4 b5 b6 b7 e v D ps pool 0 H)) h ?_ ?_
    rotate_left
    · rintro g w9 next h
      exact cond_f (by decide) (hn _ ⟨by omega, v, D, ps, pool, hok, h⟩)
    rintro g x w9 next hx h hnx
    obtain ⟨h0, _⟩ := hok 0 (by omega)
    obtain ⟨h1, _⟩ := hok 1 (by omega)
    have i0 := h0.inn x hx
    have i1 := h1.inn x hx
    have d0 := h0.dn x hx
    have d1 := h1.dn x hx
    have m0 := h0.Mi
    have m1 := h1.Mi
    have a0 : (D 0).dn x ≤ (D 0).inn x ∧ (D 0).inn x ≤ (D 0).dn x + 1 := by rw [i0]; split <;> omega
    have a1 : (D 1).dn x ≤ (D 1).inn x ∧ (D 1).inn x ≤ (D 1).dn x + 1 := by rw [i1]; split <;> omega
    have hx8 : inR (x : Int) 8 = true := inR_i (by omega) (by omega)
    refine cond_t (lt_true hx) (chk_i hx8 ?_)
    have h := h.drew
    have g6 : ∀ j : Nat, j < 2 → (dns D)[0 + Int.toNat (j : Int) * 8 + Int.toNat (x : Int) * 1]? = some (.int .i64 ((D j).dn x)) := fun j hj => by
      rw [arrF_get (by simp; omega)]
      have : (0 + Int.toNat (j : Int) * 8 + Int.toNat (x : Int) * 1) / 8 = j ∧ (0 + Int.toNat (j : Int) * 8 + Int.toNat (x : Int) * 1) % 8 = x := by simp; omega
      rw [this.1, this.2]
    have g7 : ∀ j : Nat, j < 2 → (ins D)[0 + Int.toNat (j : Int) * 8 + Int.toNat (x : Int) * 1]? = some (.int .i64 ((D (1 - j)).inn x)) := fun j hj => by
      rw [arrF_get (by simp; omega)]
      have : (0 + Int.toNat (j : Int) * 8 + Int.toNat (x : Int) * 1) / 8 = j ∧ (0 + Int.toNat (j : Int) * 8 + Int.toNat (x : Int) * 1) % 8 = x := by simp; omega
      rw [this.1, this.2]
    refine h.ldaa (b := b6) (x := (D 0).dn x) (g6 0 (by omega)) (chk_i hx8 ?_)
    refine h.ldaa (b := b7) (x := (D 0).inn x) (g7 1 (by omega)) (cond_f (by simp; omega) (chk_i hx8 ?_))
    refine h.ldaa (b := b6) (x := (D 1).dn x) (g6 1 (by omega)) (chk_i hx8 ?_)
    refine h.ldaa (b := b7) (x := (D 1).inn x) (g7 0 (by omega)) (cond_f (by simp; omega) (chk_i hx8 ?_))
    refine h.ldaa (b := b7) (x := (D 0).inn x) (g7 1 (by omega)) (chk_i hx8 ?_)
    refine h.ldaa (b := b6) (x := (D 0).dn x) (g6 0 (by omega)) (cond_f (by rw [wrap_i64 (by omega) (by omega)]; simp; omega) (chk_i hx8 ?_))
    refine h.ldaa (b := b7) (x := (D 1).inn x) (g7 0 (by omega)) (chk_i hx8 ?_)
    refine h.ldaa (b := b6) (x := (D 1).dn x) (g6 1 (by omega)) (cond_f (by rw [wrap_i64 (by omega) (by omega)]; simp; omega) ?_)
    rw [wrap_succ (by omega)]
    exact hnx _ h)
end Go.Vc.SB
