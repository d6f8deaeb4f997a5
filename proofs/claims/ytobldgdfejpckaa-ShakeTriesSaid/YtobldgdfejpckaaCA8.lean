/-
  What the functions of layer 8 do: contracts (a block of the hash).
-/
import Derived.Test.YtobldgdfejpckaaAF0
import Derived.Test.YtobldgdfejpckaaAF1
import Derived.Test.YtobldgdfejpckaaAF2
import Derived.Test.YtobldgdfejpckaaAF3
import Derived.Test.YtobldgdfejpckaaSha
set_option linter.all false
set_option linter.unusedVariables false
set_option maxRecDepth 100000
namespace Go.Vc
theorem loop_from {a n : Nat} {w0 : World} {B : (Int → World → Prop) → (Nat → Value) → Int → World → Prop} (I : Nat → World → Prop) (ha : a ≤ n) (h0 : I a w0)
    (step : ∀ g i w next, a ≤ i → i < n → I i w → (∀ w', I (i + 1) w' → next ((i + 1 : Nat) : Int) w') → B next g (i : Int) w) (done : ∀ g w next, I n w → B next g (n : Int) w) : loopP Int (a : Int) w0 B := by
  refine loop_i (fun s w => ∃ i : Nat, s = (i : Int) ∧ a ≤ i ∧ i ≤ n ∧ I i w) (fun s _ => n - s.toNat) ⟨a, rfl, Nat.le_refl _, ha, h0⟩ ?_
  rintro g s w ⟨i, rfl, hai, hi, h⟩
  by_cases hn : i < n
  · refine step g i w _ hai hn h fun w' h' => ⟨⟨i + 1, rfl, by omega, hn, h'⟩, ?_⟩
    simp only [Int.toNat_natCast]
    omega
  · have : i = n := by omega
    subst this
    exact done g w _ h
end Go.Vc
namespace Go.Vc.SA
open Go.Proofs Go.Vc.Sha

theorem slT22 : SlT P 22 1 (Value.int .u8) 1 := slT_of (by kernel_rfl)
theorem slT85 : SlT P 85 1 SlV.val 24 := slT_of (by kernel_rfl)
theorem slT53 : SlT P 53 1 (Value.int .u32) 4 := slT_of (by kernel_rfl)
theorem slZ22 : SlZ P 22 (Value.int .u8) (0 : Int) := slZ_int (by kernel_rfl)
theorem slZ85 : SlZ P 85 SlV.val SlV.nil := slZ_sl (by kernel_rfl)

theorem and31 : ∀ n : Fin 32, 1 ≤ n.val → bits .and .u64 (IntKind.u64.wrap (IntKind.i64.wrap (0 - (n.val : Int)))) 31 = ((32 - n.val : Nat) : Int) := by decide +kernel
theorem c73 {x : Int} {n : Nat} {w : World} {K : Int → World → Prop} (hn : 1 ≤ n ∧ n < 32) (k : K (rotr x n) w) : callP P 73 #[.int .u32 x, .int .i64 (IntKind.i64.wrap (0 - (n : Int)))] w (Value.int .u32) K := sf73_call _ _ _ _ (by
  unfold sf73
  have e := and31 ⟨n, hn.2⟩ hn.1
  simp only at e
  rw [e]
  have e2 : IntKind.u64.wrap ((32 : Int) - ((32 - n : Nat) : Int)) = (n : Int) := by rw [wrap_u64]; omega
  rw [e2]
  refine chk_i (by simp) (chk_i (by simp) ?_)
  have e3 : min (Int.toNat ((32 - n : Nat) : Int)) IntKind.u32.bits = 32 - n := by rw [Int.toNat_natCast]; show min (32 - n) 32 = _; omega
  have e4 : min (Int.toNat ((n : Nat) : Int)) IntKind.u32.bits = n := by rw [Int.toNat_natCast]; show min n 32 = _; omega
  rw [e3, e4, Int.fdiv_eq_ediv_of_nonneg _ (by exact Int.pow_nonneg (by decide))]
  have e5 : ∀ m : Nat, (2 : Int) ^ m = ((2 ^ m : Nat) : Int) := fun m => by simp
  rw [e5, e5]
  exact k)
theorem c72 {x : Int} {n : Nat} {w : World} {K : Int → World → Prop} (hn : 1 ≤ n ∧ n < 32) (k : K (rotr x n) w) : callP P 72 #[.int .u32 x, .int .i64 (n : Int)] w (Value.int .u32) K := sf72_call _ _ _ _ (c73 hn k)
theorem c74 {w : World} {H : List HA} {K : List Int → World → Prop} (h : St w H) (k : ∀ w', St w' H → K Sha.K w') : callP P 74 #[] w (arrV .u32) K := sf74_call _ _ (by
  refine h.nwA fun b w1 h => ?_
  refine h.stArr (b := b) rfl rfl fun w2 h => ?_
  refine h.ldArr (b := b) rfl (unArr_i (k _ h.drop)))

set_option maxHeartbeats 1000000 in
/-- a block goes in -/
theorem c44 {bs : Nat} {hs cs : List Int} {x : SlV} {w : World} {H H' : List HA} {K : Unit → World → Prop} [c : CellsIn bs H (arrI .u32 hs) 92 H'] (h : St w H) (hh : hs.length = 8) (hc : cs.length = 64)
    (hx : ∀ w', St w' H' → Sl w' 1 (Value.int .u8) x cs) (k : ∀ w', St w' (cellsA bs (arrI .u32 (blk hs cs)) 92 :: H') → K () w') :
    callP P 44 #[.pointer (some ⟨bs, 0, none⟩), x.val] w unitV K := sf44_call _ _ _ _ (by
  have h := h.fcells (b := bs)
  refine h.nwA fun b1 w1 h => ?_
  have hwl : (words cs).length = 16 := words_len 16 cs (by omega)
  have hsl : (sched (words cs) 48).length = 64 := by rw [sched_len, hwl]
  refine loop_cnt (n := 16) (fun i w' => St w' (cellsA b1 (arrI .u32 (fill (words cs) 64 i)) 98 :: cellsA bs (arrI .u32 hs) 92 :: H')) (by rw [fill_zero]; exact h) ?_ ?_
  · rintro g i w2 next hi h hn
    have hS := hx _ h.drop.drop
    rw [hS.len]
    refine cond_t (lt_true hi) ?_
    have e0 : IntKind.i64.wrap ((4 : Int) * (i : Int)) = ((4 * i : Nat) : Int) := by rw [wrap_i64 (by omega) (by omega)]; omega
    have e1 : ∀ j : Nat, j < 4 → IntKind.i64.wrap (((4 * i : Nat) : Int) + (j : Int)) = ((4 * i + j : Nat) : Int) := fun j hj => by rw [wrap_i64 (by omega) (by omega)]; omega
    rw [e0, show ((1 : Int) = ((1 : Nat) : Int)) from rfl, show ((2 : Int) = ((2 : Nat) : Int)) from rfl, show ((3 : Int) = ((3 : Nat) : Int)) from rfl, e1 1 (by omega), e1 2 (by omega), e1 3 (by omega)]
    have h := h.drew
    have hS := hx _ h.drop.drop
    rw [← hS.len]
    obtain ⟨v0, hv0⟩ : ∃ v, cs[4 * i]? = some v := ⟨_, List.getElem?_eq_getElem (by omega)⟩
    obtain ⟨v1, hv1⟩ : ∃ v, cs[4 * i + 1]? = some v := ⟨_, List.getElem?_eq_getElem (by omega)⟩
    obtain ⟨v2, hv2⟩ : ∃ v, cs[4 * i + 2]? = some v := ⟨_, List.getElem?_eq_getElem (by omega)⟩
    obtain ⟨v3, hv3⟩ : ∃ v, cs[4 * i + 3]? = some v := ⟨_, List.getElem?_eq_getElem (by omega)⟩
    refine hS.atN hv0 fun _ _ => hS.atN hv1 fun _ _ => hS.atN hv2 fun _ _ => hS.atN hv3 fun _ _ => ?_
    refine chk_i (inR_i (by omega) (by omega)) ?_
    refine h.stI (b := b1) (by rw [fill_len (by omega) (by omega)]; omega) fun w3 h => ?_
    have hw := words_get i cs v0 v1 v2 v3 hv0 hv1 hv2 hv3
    have e : (fill (words cs) 64 i).set i (wd v0 v1 v2 v3) = fill (words cs) 64 (i + 1) := fill_set' hw (by omega)
    rw [show ((1 : Nat) : Int) = 1 from rfl]
    rw [wrap_succ (by omega)]
    refine hn _ ?_
    rw [← e]
    exact h
  rintro g w2 next h
  refine cond_f (by decide) ?_
  have hpre : fill (words cs) 64 16 = fill (sched (words cs) 48) 64 16 := fill_prefix (by
    have := sched_take (words cs) 48 0 (by omega)
    rw [hwl] at this
    rw [this]
    show (words cs).take 16 = words cs
    rw [← hwl, List.take_length])
  rw [hpre] at h
  generalize hfull : sched (words cs) 48 = full at hsl h
  refine loop_from (a := 16) (n := 64) (fun t w' => St w' (cellsA b1 (arrI .u32 (fill full 64 t)) 98 :: cellsA bs (arrI .u32 hs) 92 :: H')) (by omega) h ?_ ?_
  · rintro g t w3 next ht0 ht h hn
    refine cond_t (lt_true ht) ?_
    have e1 : ∀ j : Nat, j ≤ 16 → IntKind.i64.wrap ((t : Int) - (j : Int)) = ((t - j : Nat) : Int) := fun j hj => by rw [wrap_i64 (by omega) (by omega)]; omega
    have f2 : IntKind.i64.wrap ((t : Int) - (2 : Int)) = ((t - 2 : Nat) : Int) := e1 2 (by omega)
    have f15 : IntKind.i64.wrap ((t : Int) - (15 : Int)) = ((t - 15 : Nat) : Int) := e1 15 (by omega)
    have f7 : IntKind.i64.wrap ((t : Int) - (7 : Int)) = ((t - 7 : Nat) : Int) := e1 7 (by omega)
    have f16 : IntKind.i64.wrap ((t : Int) - (16 : Int)) = ((t - 16 : Nat) : Int) := e1 16 (by omega)
    rw [f2, f15, f7, f16]
    have gv : ∀ j : Nat, 1 ≤ j → j ≤ 16 → ∃ v, (fill full 64 t)[t - j]? = some v ∧ full[t - j]? = some v := fun j h1 h2 => by
      rw [fill_get (by omega) (by omega)]
      exact ⟨_, List.getElem?_eq_getElem (by omega), List.getElem?_eq_getElem (by omega)⟩
    obtain ⟨x, hx1, hx2⟩ := gv 2 (by omega) (by omega)
    obtain ⟨y, hy1, hy2⟩ := gv 15 (by omega) (by omega)
    obtain ⟨p, hp1, hp2⟩ := gv 7 (by omega) (by omega)
    obtain ⟨q, hq1, hq2⟩ := gv 16 (by omega) (by omega)
    have inr : ∀ j : Nat, j ≤ 16 → inR ((t - j : Nat) : Int) 64 = true := fun j hj => inR_i (by omega) (by omega)
    have h := h.drew
    refine chk_i (inr 2 (by omega)) (h.ldI (b := b1) hx1 (chk_i (inr 15 (by omega)) (h.ldI (b := b1) hy1 ?_)))
    have h := h.drew
    refine chk_i (inr 7 (by omega)) (h.ldI (b := b1) hp1 (chk_i (inr 16 (by omega)) (h.ldI (b := b1) hq1 ?_)))
    have hp3 := h.holdI (b := b1) hp1
    have hq3 := h.holdI (b := b1) hq1
    refine c72 (n := 17) (by omega) ⟨hq3, hp3, c72 (n := 19) (by omega) ⟨hp3, hq3, c72 (n := 7) (by omega) ⟨hq3, hp3, c72 (n := 18) (by omega) ⟨hp3, hq3, ?_⟩⟩⟩⟩
    refine chk_i (inR_i (by omega) (by omega)) ?_
    refine h.stI (b := b1) (by rw [fill_len (by omega) (by omega)]; omega) fun w4 h => ?_
    rw [wrap_succ (by omega)]
    refine hn _ ?_
    obtain ⟨m, rfl⟩ : ∃ m, t = 16 + m := ⟨t - 16, by omega⟩
    have hg := sched_get (words cs) (n := 48) (m := m) (by omega)
    rw [hwl, hfull] at hg
    have htk := sched_take (words cs) 48 m (by omega)
    rw [hwl, hfull] at htk
    have hgd : ∀ j v, j < 16 + m → full[j]? = some v → (sched (words cs) m).getD j 0 = v := fun j v hj hv => by
      rw [← htk, List.getD_eq_getElem?_getD, List.getElem?_take_of_lt hj, hv]; rfl
    have e : nextW (sched (words cs) m) (16 + m) = ad (ad (ad (xo (xo (rotr x 17) (rotr x 19)) (x / 1024)) p) (xo (xo (rotr y 7) (rotr y 18)) (y / 8))) q := by
      unfold nextW
      rw [hgd _ _ (by omega) hx2, hgd _ _ (by omega) hy2, hgd _ _ (by omega) hp2, hgd _ _ (by omega) hq2]
    rw [e] at hg
    have hfl := fill_set' (n := 64) hg (by omega)
    rw [← hfl]
    have d1 : Int.fdiv x (2 ^ (min (Int.toNat (10 : Int)) IntKind.u32.bits)) = x / 1024 := Int.fdiv_eq_ediv_of_nonneg _ (by decide)
    have d2 : Int.fdiv y (2 ^ (min (Int.toNat (3 : Int)) IntKind.u32.bits)) = y / 8 := Int.fdiv_eq_ediv_of_nonneg _ (by decide)
    rw [d1, d2] at h
    exact h
  rintro g w3 next h
  refine cond_f (by decide) ?_
  rw [fill_all hsl] at h
  refine h.ldArr (b := bs) hh ?_
  refine h.nwA fun b2 w4 h => ?_
  refine h.stArr (b := b2) hh (by simp) fun w5 h => ?_
  refine c74 h fun w6 h => ?_
  refine h.nwA fun b3 w7 h => ?_
  refine h.stArr (b := b3) rfl (by simp) fun w8 h => ?_
  refine loop_cnt (n := 64) (fun t w' => St w' (cellsA b3 (arrI .u32 Sha.K) 98 :: cellsA b2 (arrI .u32 (rnds hs (Sha.K.take t) (full.take t))) 92 :: cellsA b1 (arrI .u32 full) 98 :: cellsA bs (arrI .u32 hs) 92 :: H')) ?_ ?_ ?_
  · have e : rnds hs (Sha.K.take 0) (full.take 0) = hs := rfl
    rw [e]
    exact h
  · rintro g t w9 next ht h hn
    refine cond_t (lt_true ht) ?_
    obtain ⟨kv, hkv⟩ : ∃ v, Sha.K[t]? = some v := ⟨_, List.getElem?_eq_getElem (by show t < 64; omega)⟩
    obtain ⟨wv, hwv⟩ : ∃ v, full[t]? = some v := ⟨_, List.getElem?_eq_getElem (by omega)⟩
    have hl8 := rnds_len (Sha.K.take t) (full.take t) hs hh
    have hstep := rnds_step (v := hs) hkv hwv
    generalize rnds hs (Sha.K.take t) (full.take t) = v at h hl8 hstep
    match v, hl8 with
    | [a, b, c, d, e, f, gg, hv], _ =>
      have inr : inR (t : Int) 64 = true := inR_i (by omega) (by omega)
      refine h.lda (b := b2) (x := e) rfl ?_
      have h := h.drew
      refine h.lda (b := b2) (x := hv) rfl (h.lda (b := b2) (x := f) rfl (h.lda (b := b2) (x := gg) rfl ?_))
      refine chk_i inr (h.ldI (b := b3) hkv (chk_i inr (h.ldI (b := b1) hwv ?_)))
      have k3 := h.holdI (b := b3) hkv
      have k1 := h.holdI (b := b1) hwv
      have g6 : Holds w9.drew ((⟨b2, 0, none⟩ : Addr).add (Int.toNat (6 : Int) * 1)) 1 (.int .u32 gg) := h.holda (b := b2) (val := Value.int .u32) rfl
      have g5 : Holds w9.drew ((⟨b2, 0, none⟩ : Addr).add (Int.toNat (5 : Int) * 1)) 1 (.int .u32 f) := h.holda (b := b2) (val := Value.int .u32) rfl
      have g7 : Holds w9.drew ((⟨b2, 0, none⟩ : Addr).add (Int.toNat (7 : Int) * 1)) 1 (.int .u32 hv) := h.holda (b := b2) (val := Value.int .u32) rfl
      refine c72 (n := 6) (by omega) ⟨k1, k3, g6, g5, g7, c72 (n := 11) (by omega) ⟨g7, g5, g6, k3, k1, c72 (n := 25) (by omega) ⟨k1, k3, g6, g5, g7, ?_⟩⟩⟩
      have h := h.drew
      refine h.lda (b := b2) (x := a) rfl (h.lda (b := b2) (x := a) rfl (h.lda (b := b2) (x := a) rfl (h.lda (b := b2) (x := a) rfl (h.lda (b := b2) (x := b) rfl (h.lda (b := b2) (x := a) rfl (h.lda (b := b2) (x := c) rfl (h.lda (b := b2) (x := b) rfl (h.lda (b := b2) (x := c) rfl ?_))))))))
      have ga : Holds w9.drew.drew ((⟨b2, 0, none⟩ : Addr).add (Int.toNat (0 : Int) * 1)) 1 (.int .u32 a) := h.holda (b := b2) (val := Value.int .u32) rfl
      have gb : Holds w9.drew.drew ((⟨b2, 0, none⟩ : Addr).add (Int.toNat (1 : Int) * 1)) 1 (.int .u32 b) := h.holda (b := b2) (val := Value.int .u32) rfl
      have gc : Holds w9.drew.drew ((⟨b2, 0, none⟩ : Addr).add (Int.toNat (2 : Int) * 1)) 1 (.int .u32 c) := h.holda (b := b2) (val := Value.int .u32) rfl
      refine c72 (n := 2) (by omega) ⟨gc, gb, gc, ga, gb, ga, ga, ga, c72 (n := 13) (by omega) ⟨ga, ga, gb, ga, gc, gb, gc, c72 (n := 22) (by omega) ⟨gc, gb, gc, ga, gb, ga, ?_⟩⟩⟩
      have h := h.drew
      have h : St _ (cellsA b2 (arrI .u32 [a, b, c, d, e, f, gg, hv]) 92 :: cellsA b3 (arrI .u32 Sha.K) 98 :: cellsA b1 (arrI .u32 full) 98 :: cellsA bs (arrI .u32 hs) 92 :: H') := h.g1
      have hsrc : Sl w9.drew.drew.drew 1 (Value.int .u32) ⟨some ⟨b2, 0, none⟩, 7, 8⟩ [a, b, c, d, e, f, gg] := Sl.over h rfl (by omega) (by rw [maxLen_eq]; omega) (by simp) rfl
      refine St.copy (o := 1) (dl := 7) (dc := 7) h slT53 (by simp) (by omega) hsrc fun w10 h => ?_
      change St w10 (cellsA b2 (arrI .u32 [a, a, b, c, d, e, f, gg]) 92 :: _) at h
      refine h.lda (b := b2) (x := d) rfl ?_
      refine h.stna (b := b2) rfl rfl (by simp) fun w11 h => ?_
      refine h.stna (b := b2) rfl rfl (by rw [putL_length]; simp) fun w12 h => ?_
      rw [wrap_succ (by omega)]
      refine hn _ ?_
      rw [hstep]
      exact h.g1
  rintro g w9 next h
  refine cond_f (by decide) ?_
  have ek : Sha.K.take 64 = Sha.K := rfl
  have ef : full.take 64 = full := by rw [← hsl, List.take_length]
  rw [ek, ef] at h
  have hvl := rnds_len Sha.K full hs hh
  have hb : blk hs cs = List.zipWith ad hs (rnds hs Sha.K full) := by unfold blk; rw [hfull]
  rw [hb] at k
  generalize rnds hs Sha.K full = v at h hvl k
  refine loop_cnt (n := 8) (fun i w' => St w' (cellsA b3 (arrI .u32 Sha.K) 98 :: cellsA b2 (arrI .u32 v) 92 :: cellsA b1 (arrI .u32 full) 98 :: cellsA bs (arrI .u32 ((List.zipWith ad hs v).take i ++ hs.drop i)) 92 :: H')) (by simpa using h) ?_ ?_
  · rintro g i w10 next hi h hn
    refine cond_t (lt_true hi) (chk_i (inR_i (by omega) (by omega)) ?_)
    have h := h.drew
    have hz : (List.zipWith ad hs v).length = 8 := by simp [hh, hvl]
    have hlen : ((List.zipWith ad hs v).take i ++ hs.drop i).length = 8 := by simp [hh, hvl]; omega
    obtain ⟨p, hp⟩ : ∃ p, hs[i]? = some p := ⟨_, List.getElem?_eq_getElem (by omega)⟩
    obtain ⟨q, hq⟩ : ∃ q, v[i]? = some q := ⟨_, List.getElem?_eq_getElem (by omega)⟩
    refine h.ldI (b := bs) (x := p) ?_ (chk_i (inR_i (by omega) (by omega)) (h.ldI (b := b2) hq (chk_i (inR_i (by omega) (by omega)) ?_)))
    · rw [roll_get (by rw [hz, hh]) (by omega), hp]
    refine h.stI (b := bs) (by omega) fun w11 h => ?_
    rw [wrap_succ (by omega)]
    refine hn _ ?_
    have e : ((List.zipWith ad hs v).take i ++ hs.drop i).set i (ad p q) = (List.zipWith ad hs v).take (i + 1) ++ hs.drop (i + 1) := by
      have hzi : (List.zipWith ad hs v)[i]? = some (ad p q) := by simp [List.getElem?_zipWith, hp, hq]
      exact roll_set (by rw [hz, hh]) hzi
    rw [← e]
    exact h.re
  rintro g w10 next h
  refine cond_f (by decide) (k _ ?_)
  have e : (List.zipWith ad hs v).take 8 ++ hs.drop 8 = List.zipWith ad hs v := by
    rw [List.drop_of_length_le (by omega), List.append_nil, List.take_of_length_le (by simp [hh, hvl])]
  rw [e] at h
  exact h.re)
end Go.Vc.SA
