/-
  Layer 8: the document's answer: contracts.
-/
import Derived.Test.YtobldgdfejpckaaCA8f
import Derived.Test.YtobldgdfejpckaaShaB
set_option linter.all false
set_option linter.unusedVariables false
set_option maxRecDepth 100000
namespace Go.Vc.SA
open Go.Proofs Go.Vc.Sha

theorem c45 {x : Int} {n : Nat} {w : World} {K : Int → World → Prop} (hn : 1 ≤ n ∧ n < 32) (k : K (rotr x n) w) : callP P 45 #[.int .u32 x, .int .u64 (n : Int)] w (Value.int .u32) K := sf45_call _ _ _ _ (by
  have e2 : IntKind.u64.wrap ((32 : Int) - (n : Int)) = ((32 - n : Nat) : Int) := by rw [wrap_u64]; omega
  unfold sf45
  rw [e2]
  refine chk_i (by simp) (chk_i (by simp) ?_)
  have e3 : min (Int.toNat ((32 - n : Nat) : Int)) IntKind.u32.bits = 32 - n := by rw [Int.toNat_natCast]; show min (32 - n) 32 = _; omega
  have e4 : min (Int.toNat ((n : Nat) : Int)) IntKind.u32.bits = n := by rw [Int.toNat_natCast]; show min n 32 = _; omega
  rw [e3, e4, Int.fdiv_eq_ediv_of_nonneg _ (by exact Int.pow_nonneg (by decide))]
  have e5 : ∀ m : Nat, (2 : Int) ^ m = ((2 ^ m : Nat) : Int) := fun m => by simp
  rw [e5, e5, or_comm32]
  exact k)
theorem c46 {t : Nat} {kv : Int} {w : World} {H : List HA} {K : Int → World → Prop} (h : St w H) (ht : Sha.K[t]? = some kv) (k : ∀ w', St w' H → K kv w') : callP P 46 #[.int .i64 (t : Int)] w (Value.int .u32) K := sf46_call _ _ _ (by
  have hl : t < 64 := (List.getElem?_eq_some_iff.1 ht).1
  refine h.nw fun b w1 h => ?_
  change St w1 (cellsA b (arrI .u32 Sha.K) 33 :: H) at h
  refine chk_i (inR_i (by omega) (by omega)) (h.ldI (b := b) ht (k _ h.drop)))

theorem e32 (e : Int) : (IntKind.u32.wrap ((4294967295 : Int) - e)) = IntKind.u32.wrap (4294967295 - e) := rfl

set_option maxHeartbeats 2000000 in
/-- the document's hash -/
theorem c19 {s : SlV} {m : List Int} {w : World} {K : List Int → World → Prop} (hs : Sl w 1 (Value.int .u8) s m) (hB : BL m) (hl : m.length ≤ 1073741824)
    (k : ∀ w', St w' [.old w] → K (sha m) w') : callP P 19 #[s.val] w (arrV .u8) K := sf19_call _ _ _ (by
  refine (St.start w).nwA fun b1 w1 h => ?_
  refine h.nw fun b2 w2 h => ?_
  refine St.fresh h (hs.old (h.re : St w2 [.old w])) hl fun r3 w3 h => ?_
  refine h.nw fun b4 w4 h => ?_
  refine h.appY (s := r3) (x := 128) slT22 (by omega) rfl (by omega) (by omega) fun r5 w5 h => ?_
  have hpn : padN m.length < 64 := by unfold padN; omega
  refine loop_i (fun q w' => ∃ i : Nat, i ≤ padN m.length ∧ St w' [SlO 1 (Value.int .u8) q (m ++ [128] ++ List.replicate i 0), cellsA b1 (arrI .u8 (List.replicate 32 0)) 25, .old w]) (fun q _ => 2000 + m.length - q.len) ⟨0, Nat.zero_le _, by simpa using h⟩ ?_
  rintro g q w6 ⟨i, hi, h⟩
  have hql := h.sl.len
  simp only [List.length_append, List.length_singleton, List.length_replicate] at hql
  have em : Int.tmod (q.len : Int) 64 = (((m.length + 1 + i) % 64 : Nat) : Int) := by rw [hql, Int.tmod_eq_emod_of_nonneg (by omega)]; omega
  rw [em]
  refine cond_i (fun e => ?_) (fun e => ?_)
  · have hne : (m.length + 1 + i) % 64 ≠ 56 := by
      intro e2; rw [e2] at e; simp at e
    have hi2 : i < padN m.length := by
      rcases Nat.lt_or_ge i (padN m.length) with h | h
      · exact h
      · exfalso
        have : i = padN m.length := by omega
        subst this
        unfold padN at hne
        omega
    refine h.nw fun b8 w7 h => ?_
    refine h.appY (s := q) (x := 0) slT22 (by omega) rfl (by simp; omega) (by simp; omega) fun r9 w8 h => ?_
    have hr9 := h.sl.len
    simp only [List.length_append, List.length_singleton, List.length_replicate] at hr9
    refine ⟨⟨i + 1, hi2, ?_⟩, by omega⟩
    rw [List.replicate_succ', ← List.append_assoc]
    exact h
  have hie : i = padN m.length := by
    have e2 : (m.length + 1 + i) % 64 = 56 := by simp at e; omega
    unfold padN at hi ⊢
    omega
  subst hie
  clear hql em e hi
  generalize hpre : m ++ [128] ++ List.replicate (padN m.length) (0 : Int) = pre at h
  have hprel : pre.length = m.length + 1 + padN m.length := by rw [← hpre]; simp; omega
  refine loop_i (fun s w' => ∃ i : Nat, s.2 = 7 - (i : Int) ∧ i ≤ 8 ∧ St w' [SlO 1 (Value.int .u8) s.1 (pre ++ (be8 (bitN m.length)).take i), cellsA b1 (arrI .u8 (List.replicate 32 0)) 25, .old w]) (fun s _ => (s.2 + 1).toNat) ⟨0, rfl, by omega, by rw [List.take_zero, List.append_nil]; exact h⟩ ?_
  rintro g ⟨q2, _⟩ w9 ⟨i, rfl, hi, h⟩
  simp only at h
  refine cond_i (fun e => ?_) (fun e => ?_)
  · have hi : i < 8 := by simp at e; omega
    have e8 : IntKind.u64.wrap (IntKind.i64.wrap ((8 : Int) * (7 - (i : Int)))) = ((56 - 8 * i : Nat) : Int) := by rw [wrap_i64 (by omega) (by omega), wrap_u64]; omega
    rw [e8]
    refine chk_i (by simp) ?_
    refine h.nw fun b12 w10 h => ?_
    have hbe := be8_get (bitN m.length) hi
    have ev : IntKind.u8.wrap (Int.fdiv (IntKind.u64.wrap (IntKind.i64.wrap ((8 : Int) * (s.len : Int)))) (2 ^ (min (Int.toNat ((56 - 8 * i : Nat) : Int)) IntKind.u64.bits))) = IntKind.u8.wrap (bitN m.length / ((2 ^ (56 - 8 * i) : Nat) : Int)) := by
      rw [Int.toNat_natCast, fdiv_pow _ _ _ (by show min (56 - 8 * i) 64 = _; omega), hs.len]
      unfold bitN
      rw [wrap_i64 (by omega) (by omega), wrap_u64, wrap_u64, wrap_u64]
      congr 2
      omega
    refine h.appY (s := q2) (x := IntKind.u8.wrap (bitN m.length / ((2 ^ (56 - 8 * i) : Nat) : Int))) slT22 (by omega) (by
      show [Value.int .u8 _] = [Value.int .u8 _]
      rw [ev]) (by simp [be8_len]; omega) (by simp [be8_len]; omega) fun r13 w11 h => ?_
    have es : IntKind.i64.wrap ((7 - (i : Int)) - 1) = 7 - ((i + 1 : Nat) : Int) := by rw [wrap_i64 (by omega) (by omega)]; omega
    refine ⟨⟨i + 1, es, by omega, ?_⟩, ?_⟩
    · have h1 := (List.getElem?_eq_some_iff.1 hbe).1
      have h2 := (List.getElem?_eq_some_iff.1 hbe).2
      rw [List.take_succ_eq_append_getElem h1, h2, ← List.append_assoc]
      exact h
    · show ((IntKind.i64.wrap ((7 - (i : Int)) - 1)) + 1).toNat < ((7 - (i : Int)) + 1).toNat
      rw [es]; omega
  have hi : i = 8 := by simp at e; omega
  subst hi
  have epd : pre ++ (be8 (bitN m.length)).take 8 = pad m := by
    rw [List.take_of_length_le (by rw [be8_len]; omega), ← hpre]
    rfl
  rw [epd] at h
  have hpl := pad_len m
  have hpm := pad_mod m
  have hpB := BL_pad hB
  have hsha : sha m = outs (blks ((pad m).length / 64) H0 (pad m)) := rfl
  rw [hsha] at k
  have hple : (pad m).length ≤ 1073742000 := by omega
  clear hpre hprel hpl hsha hpn e
  generalize pad m = p at h k hpm hpB hple
  have hq2 := h.sl.len
  refine h.nwA fun b14 w12 h => ?_
  refine h.stArr (b := b14) (ys := H0) rfl (by simp) fun w13 h => ?_
  refine loop_i (fun x w' => ∃ j : Nat, x = ((64 * j : Nat) : Int) ∧ 64 * j ≤ p.length ∧ St w' [cellsA b14 (arrI .u32 (blks j H0 p)) 91, SlO 1 (Value.int .u8) q2 p, cellsA b1 (arrI .u8 (List.replicate 32 0)) 25, .old w]) (fun x _ => p.length - x.toNat) ⟨0, rfl, by omega, h⟩ ?_
  rintro g _ w14 ⟨j, rfl, hj, h⟩
  rw [hq2]
  refine cond_i (fun e => ?_) (fun e => ?_)
  · have hj : 64 * j + 64 ≤ p.length := by simp at e; omega
    have hw8 : (blks j H0 p).length = 8 := blks_len _ _ _ H0_len
    have hWL : WL (blks j H0 p) := WL_blks _ _ _ WL_H0
    have hsn := blks_snoc j H0 p
    generalize blks j H0 p = hh at h hw8 hWL hsn
    generalize hch : (p.drop (64 * j)).take 64 = cs at hsn
    have hcl : cs.length = 64 := by rw [← hch]; simp; omega
    have hcg : ∀ i, i < 64 → cs[i]? = p[64 * j + i]? := fun i hi => by rw [← hch, List.getElem?_take_of_lt hi, List.getElem?_drop]
    have hwl : (words cs).length = 16 := words_len 16 cs (by omega)
    generalize hfull : sched (words cs) 48 = full
    have hsl : full.length = 64 := by rw [← hfull, sched_len, hwl]
    have hpre16 : ∀ t, t < 16 → full[t]? = (words cs)[t]? := fun t ht => by
      have := sched_take (words cs) 48 0 (by omega)
      rw [hwl, hfull] at this
      have e2 : sched (words cs) 0 = words cs := rfl
      rw [← e2, ← this, List.getElem?_take_of_lt (by omega)]
    refine h.nwA fun b17 w15 h => ?_
    refine loop_cnt (n := 64) (fun t w' => St w' [cellsA b17 (arrI .u32 (fill full 64 t)) 98, cellsA b14 (arrI .u32 hh) 91, SlO 1 (Value.int .u8) q2 p, cellsA b1 (arrI .u8 (List.replicate 32 0)) 25, .old w]) (by rw [fill_zero]; exact h) ?_ ?_
    · rintro g t w16 next ht h hn
      refine cond_t (lt_true ht) (cond_i (fun e16 => ?_) (fun e16 => ?_))
      · have ht16 : t < 16 := by simp at e16; omega
        have gv : ∀ i, i < 4 → ∃ v, p[64 * j + (4 * t + i)]? = some v ∧ cs[4 * t + i]? = some v ∧ B8 v := fun i hi => by
          have hlt : 64 * j + (4 * t + i) < p.length := by omega
          refine ⟨p[64 * j + (4 * t + i)], List.getElem?_eq_getElem hlt, ?_, hpB _ (List.getElem_mem hlt)⟩
          rw [hcg _ (by omega), List.getElem?_eq_getElem hlt]
        obtain ⟨v0, p0, q0, r0⟩ := gv 0 (by omega)
        obtain ⟨v1, p1, q1, r1⟩ := gv 1 (by omega)
        obtain ⟨v2, p2, q2', r2⟩ := gv 2 (by omega)
        obtain ⟨v3, p3, q3, r3⟩ := gv 3 (by omega)
        have hft : full[t]? = some (Sha.part [v0, v1, v2, v3]) := by
          rw [hpre16 t ht16, part_wd r0 r1 r2 r3]
          exact words_get t cs v0 v1 v2 v3 q0 q1 q2' q3
        have hpv : ∀ i, i < 4 → ∃ v, p[64 * j + (4 * t + i)]? = some v ∧ [v0, v1, v2, v3][i]? = some v := fun i hi => by
          match i, hi with
          | 0, _ => exact ⟨v0, p0, rfl⟩
          | 1, _ => exact ⟨v1, p1, rfl⟩
          | 2, _ => exact ⟨v2, p2, rfl⟩
          | 3, _ => exact ⟨v3, p3, rfl⟩
        refine loop_cnt (n := 4) (fun i w' => St w' [cellsA b17 (arrI .u32 ((fill full 64 t).set t (Sha.part ([v0, v1, v2, v3].take i)))) 98, cellsA b14 (arrI .u32 hh) 91, SlO 1 (Value.int .u8) q2 p, cellsA b1 (arrI .u8 (List.replicate 32 0)) 25, .old w]) (by
          have e0 : Sha.part ([v0, v1, v2, v3].take 0) = 0 := rfl
          rw [e0, fill_same (by omega) ht]
          exact h) ?_ ?_
        · rintro g i w17 next2 hi h hn2
          have hfl : (fill full 64 t).length = 64 := fill_len (by omega) (by omega)
          have h := h.drew
          refine cond_t (lt_true hi) (chk_i (inR_i (by omega) (by omega)) ?_)
          refine h.ldI (b := b17) (x := Sha.part ([v0, v1, v2, v3].take i)) (by rw [List.getElem?_set_self (by omega)]) ?_
          obtain ⟨v, hv1, hv2⟩ := hpv i hi
          have eix : IntKind.i64.wrap (IntKind.i64.wrap (((64 * j : Nat) : Int) + IntKind.i64.wrap ((4 : Int) * (t : Int))) + (i : Int)) = ((64 * j + (4 * t + i) : Nat) : Int) := by
            rw [wrap_i64 (x := (4 : Int) * (t : Int)) (by omega) (by omega), wrap_i64 (x := ((64 * j : Nat) : Int) + (4 : Int) * (t : Int)) (by omega) (by omega), wrap_i64 (by omega) (by omega)]
            omega
          rw [eix, ← hq2]
          refine (h.slIn (s := q2)).atN hv1 fun _ _ => ?_
          refine chk_i (inR_i (by omega) (by omega)) ?_
          refine h.stI (b := b17) (by rw [List.length_set]; omega) fun w18 h => ?_
          rw [wrap_succ (by omega)]
          refine hn2 _ ?_
          have h1 := (List.getElem?_eq_some_iff.1 hv2).1
          have h2 := (List.getElem?_eq_some_iff.1 hv2).2
          rw [List.take_succ_eq_append_getElem h1, h2, part_snoc]
          rw [List.set_set] at h
          exact h
        · rintro g w17 next2 h
          refine cond_f (by decide) ?_
          rw [wrap_succ (by omega)]
          refine hn _ ?_
          have e4 : [v0, v1, v2, v3].take 4 = [v0, v1, v2, v3] := rfl
          rw [e4, fill_set' hft ht] at h
          exact h
      · have ht16 : 16 ≤ t := by simp at e16; omega
        have e1 : ∀ j : Nat, j ≤ 16 → IntKind.i64.wrap ((t : Int) - (j : Int)) = ((t - j : Nat) : Int) := fun j hj => by rw [wrap_i64 (by omega) (by omega)]; omega
        have f2 : IntKind.i64.wrap ((t : Int) - (2 : Int)) = ((t - 2 : Nat) : Int) := e1 2 (by omega)
        have f15 : IntKind.i64.wrap ((t : Int) - (15 : Int)) = ((t - 15 : Nat) : Int) := e1 15 (by omega)
        have f7 : IntKind.i64.wrap ((t : Int) - (7 : Int)) = ((t - 7 : Nat) : Int) := e1 7 (by omega)
        have f16 : IntKind.i64.wrap ((t : Int) - (16 : Int)) = ((t - 16 : Nat) : Int) := e1 16 (by omega)
        rw [f2, f15, f7, f16]
        have gv : ∀ i : Nat, 1 ≤ i → i ≤ 16 → ∃ v, (fill full 64 t)[t - i]? = some v ∧ full[t - i]? = some v := fun i h1 h2 => by
          rw [fill_get (by omega) (by omega)]
          exact ⟨_, List.getElem?_eq_getElem (by omega), List.getElem?_eq_getElem (by omega)⟩
        obtain ⟨x, hx1, hx2⟩ := gv 2 (by omega) (by omega)
        obtain ⟨y, hy1, hy2⟩ := gv 15 (by omega) (by omega)
        obtain ⟨pp, hp1, hp2⟩ := gv 7 (by omega) (by omega)
        obtain ⟨qq, hq1, hq2'⟩ := gv 16 (by omega) (by omega)
        have inr : ∀ i : Nat, i ≤ 16 → inR ((t - i : Nat) : Int) 64 = true := fun i hi => inR_i (by omega) (by omega)
        have h := h.drew
        refine chk_i (inr 15 (by omega)) (h.ldI (b := b17) hy1 (chk_i (inr 15 (by omega)) (h.ldI (b := b17) hy1 (chk_i (inr 15 (by omega)) (h.ldI (b := b17) hy1 ?_)))))
        have hy3 := h.holdI (b := b17) hy1
        refine c45 (n := 7) (by omega) ⟨hy3, hy3, c45 (n := 18) (by omega) ⟨hy3, ?_⟩⟩
        have h := h.drew
        refine chk_i (inr 2 (by omega)) (h.ldI (b := b17) hx1 (chk_i (inr 2 (by omega)) (h.ldI (b := b17) hx1 (chk_i (inr 2 (by omega)) (h.ldI (b := b17) hx1 ?_)))))
        have hx3 := h.holdI (b := b17) hx1
        refine c45 (n := 17) (by omega) ⟨hx3, hx3, c45 (n := 19) (by omega) ⟨hx3, ?_⟩⟩
        have h := h.drew
        refine chk_i (inr 7 (by omega)) (h.ldI (b := b17) hp1 (chk_i (inr 16 (by omega)) (h.ldI (b := b17) hq1 (chk_i (inR_i (by omega) (by omega)) ?_))))
        refine h.stI (b := b17) (by rw [fill_len (by omega) (by omega)]; omega) fun w23 h => ?_
        rw [wrap_succ (by omega)]
        refine hn _ ?_
        obtain ⟨mm, rfl⟩ : ∃ mm, t = 16 + mm := ⟨t - 16, by omega⟩
        have hg := sched_get (words cs) (n := 48) (m := mm) (by omega)
        rw [hwl, hfull] at hg
        have htk := sched_take (words cs) 48 mm (by omega)
        rw [hwl, hfull] at htk
        have hgd : ∀ i v, i < 16 + mm → full[i]? = some v → (sched (words cs) mm).getD i 0 = v := fun i v hi hv => by
          rw [← htk, List.getD_eq_getElem?_getD, List.getElem?_take_of_lt hi, hv]; rfl
        have e : nextW (sched (words cs) mm) (16 + mm) = ad (ad (ad (xo (xo (rotr x 17) (rotr x 19)) (x / 1024)) pp) (xo (xo (rotr y 7) (rotr y 18)) (y / 8))) qq := by
          unfold nextW
          rw [hgd _ _ (by omega) hx2, hgd _ _ (by omega) hy2, hgd _ _ (by omega) hp2, hgd _ _ (by omega) hq2']
        rw [e] at hg
        have hfl := fill_set' (n := 64) hg (by omega)
        rw [← hfl]
        have d1 : Int.fdiv x (2 ^ (min (Int.toNat (10 : Int)) IntKind.u32.bits)) = x / 1024 := Int.fdiv_eq_ediv_of_nonneg _ (by decide)
        have d2 : Int.fdiv y (2 ^ (min (Int.toNat (3 : Int)) IntKind.u32.bits)) = y / 8 := Int.fdiv_eq_ediv_of_nonneg _ (by decide)
        rw [d1, d2] at h
        exact h
    rintro g w16 next h
    refine cond_f (by decide) ?_
    rw [fill_all hsl] at h
    refine h.ldArr (b := b14) hw8 ?_
    refine h.nwA fun b38 w24 h => ?_
    refine h.stArr (b := b38) hw8 (by simp) fun w25 h => ?_
    refine loop_cnt (n := 64) (fun t w' => St w' [cellsA b38 (arrI .u32 (rnds hh (Sha.K.take t) (full.take t))) 91, cellsA b17 (arrI .u32 full) 98, cellsA b14 (arrI .u32 hh) 91, SlO 1 (Value.int .u8) q2 p, cellsA b1 (arrI .u8 (List.replicate 32 0)) 25, .old w]) ?_ ?_ ?_
    · have e : rnds hh (Sha.K.take 0) (full.take 0) = hh := rfl
      rw [e]
      exact h
    · rintro g t w26 next2 ht h hn
      refine cond_t (lt_true ht) ?_
      obtain ⟨kv, hkv⟩ : ∃ v, Sha.K[t]? = some v := ⟨_, List.getElem?_eq_getElem (by show t < 64; omega)⟩
      obtain ⟨wv, hwv⟩ : ∃ v, full[t]? = some v := ⟨_, List.getElem?_eq_getElem (by omega)⟩
      have hl8 := rnds_len (Sha.K.take t) (full.take t) hh hw8
      have hVL := WL_rnds (Sha.K.take t) (full.take t) hh hWL
      have hstep := rnds_step (v := hh) hkv hwv
      generalize rnds hh (Sha.K.take t) (full.take t) = v at h hl8 hstep hVL
      match v, hl8 with
      | [a, b, c, d, e, f, gg, hv], _ =>
        have inr : inR (t : Int) 64 = true := inR_i (by omega) (by omega)
        have he32 : W32 e := hVL e (by simp)
        refine h.lda (b := b38) (x := e) rfl (h.lda (b := b38) (x := f) rfl (h.lda (b := b38) (x := e) rfl (h.lda (b := b38) (x := gg) rfl (h.lda (b := b38) (x := a) rfl (h.lda (b := b38) (x := b) rfl (h.lda (b := b38) (x := a) rfl (h.lda (b := b38) (x := c) rfl (h.lda (b := b38) (x := b) rfl (h.lda (b := b38) (x := c) rfl ?_)))))))))
        have h := h.drew
        refine h.lda (b := b38) (x := hv) rfl (h.lda (b := b38) (x := e) rfl (h.lda (b := b38) (x := e) rfl (h.lda (b := b38) (x := e) rfl ?_)))
        refine chk_i inr (h.ldI (b := b17) hwv ?_)
        have k17 := h.holdI (b := b17) hwv
        have g4 : Holds w26.drew ((⟨b38, 0, none⟩ : Addr).add (Int.toNat (4 : Int) * 1)) 1 (.int .u32 e) := h.holda (b := b38) (val := Value.int .u32) rfl
        have g7 : Holds w26.drew ((⟨b38, 0, none⟩ : Addr).add (Int.toNat (7 : Int) * 1)) 1 (.int .u32 hv) := h.holda (b := b38) (val := Value.int .u32) rfl
        refine c45 (n := 6) (by omega) ⟨k17, g4, g4, g7, c45 (n := 11) (by omega) ⟨g7, g4, k17, c45 (n := 25) (by omega) ⟨k17, g7, ?_⟩⟩⟩
        refine c46 h hkv fun w30 h => ⟨h.holda (b := b38) (val := Value.int .u32) rfl, h.holdI (b := b17) hwv, ?_⟩
        have h := h.drew
        refine h.lda (b := b38) (x := a) rfl (h.lda (b := b38) (x := a) rfl (h.lda (b := b38) (x := a) rfl ?_))
        have ga : Holds w30.drew ((⟨b38, 0, none⟩ : Addr).add (Int.toNat (0 : Int) * 1)) 1 (.int .u32 a) := h.holda (b := b38) (val := Value.int .u32) rfl
        refine c45 (n := 2) (by omega) ⟨ga, ga, c45 (n := 13) (by omega) ⟨ga, c45 (n := 22) (by omega) ?_⟩⟩
        refine h.lda (b := b38) (x := a) rfl (h.lda (b := b38) (x := b) rfl (h.lda (b := b38) (x := c) rfl (h.lda (b := b38) (x := d) rfl (h.lda (b := b38) (x := e) rfl (h.lda (b := b38) (x := f) rfl (h.lda (b := b38) (x := gg) rfl ?_))))))
        refine h.stArr (b := b38) rfl rfl fun w34 h => ?_
        rw [wrap_succ (by omega)]
        refine hn _ ?_
        rw [hstep]
        have hch1 := ch_eq (e := e) (f := f) (g := gg) he32
        have hmj := maj_eq a b c
        rw [hch1, hmj] at h
        exact h
    rintro g w26 next2 h
    refine cond_f (by decide) ?_
    have ek : Sha.K.take 64 = Sha.K := rfl
    have ef : full.take 64 = full := by rw [← hsl, List.take_length]
    rw [ek, ef] at h
    have hvl := rnds_len Sha.K full hh hw8
    have hb : blk hh cs = List.zipWith ad hh (rnds hh Sha.K full) := by unfold blk; rw [hfull]
    rw [hb] at hsn
    generalize rnds hh Sha.K full = v at h hvl hsn
    refine loop_cnt (n := 8) (fun i w' => St w' [cellsA b38 (arrI .u32 v) 91, cellsA b14 (arrI .u32 ((List.zipWith ad hh v).take i ++ hh.drop i)) 91, SlO 1 (Value.int .u8) q2 p, cellsA b1 (arrI .u8 (List.replicate 32 0)) 25, .old w]) (by rw [List.take_zero, List.nil_append, List.drop_zero]; exact h.re) ?_ ?_
    · rintro g i w35 next3 hi h hn
      refine cond_t (lt_true hi) (chk_i (inR_i (by omega) (by omega)) ?_)
      have h := h.drew
      have hz : (List.zipWith ad hh v).length = 8 := by simp [hw8, hvl]
      have hlen : ((List.zipWith ad hh v).take i ++ hh.drop i).length = 8 := by simp [hw8, hvl]; omega
      obtain ⟨p', hp'⟩ : ∃ p', hh[i]? = some p' := ⟨_, List.getElem?_eq_getElem (by omega)⟩
      obtain ⟨q', hq'⟩ : ∃ q', v[i]? = some q' := ⟨_, List.getElem?_eq_getElem (by omega)⟩
      refine h.ldI (b := b14) (x := p') ?_ (chk_i (inR_i (by omega) (by omega)) (h.ldI (b := b38) hq' (chk_i (inR_i (by omega) (by omega)) ?_)))
      · rw [roll_get (by rw [hz, hw8]) (by omega), hp']
      refine h.stI (b := b14) (by omega) fun w36 h => ?_
      rw [wrap_succ (by omega)]
      refine hn _ ?_
      have hzi : (List.zipWith ad hh v)[i]? = some (ad p' q') := by simp [List.getElem?_zipWith, hp', hq']
      have er := roll_set (hs := hh) (i := i) (by rw [hz, hw8]) hzi
      rw [← er]
      exact h.re
    rintro g w35 next3 h
    refine cond_f (by decide) ?_
    have e : (List.zipWith ad hh v).take 8 ++ hh.drop 8 = List.zipWith ad hh v := by
      rw [List.drop_of_length_le (by omega), List.append_nil, List.take_of_length_le (by simp [hw8, hvl])]
    rw [e] at h
    have e64 : IntKind.i64.wrap (((64 * j : Nat) : Int) + 64) = ((64 * (j + 1) : Nat) : Int) := by rw [wrap_i64 (by omega) (by omega)]; omega
    rw [e64]
    refine ⟨⟨j + 1, rfl, by omega, ?_⟩, by simp only [Int.toNat_natCast]; omega⟩
    rw [hsn]
    exact h.re
  · have hj2 : j = p.length / 64 := by simp at e; omega
    subst hj2
    have hst8 : (blks (p.length / 64) H0 p).length = 8 := blks_len _ _ _ H0_len
    generalize blks (p.length / 64) H0 p = st at h k hst8
    have hol : (outs st).length = 32 := by rw [outs_len, hst8]
    refine h.nwA fun b77 w37 h => ?_
    refine loop_cnt (n := 32) (fun i w' => St w' [cellsA b77 (arrI .u8 (fill (outs st) 32 i)) 25, cellsA b14 (arrI .u32 st) 91, cellsA b1 (arrI .u8 (List.replicate 32 0)) 25, .old w]) (by rw [fill_zero]; exact h.re) ?_ ?_
    · rintro g i w38 next hi h hn
      have ei : IntKind.i64.wrap (Int.tdiv (i : Int) 4) = ((i / 4 : Nat) : Int) := by
        have : Int.tdiv (i : Int) 4 = ((i / 4 : Nat) : Int) := rfl
        rw [this, wrap_i64 (by omega) (by omega)]
      have em4 : Int.tmod (i : Int) 4 = ((i % 4 : Nat) : Int) := rfl
      have e24 : IntKind.u64.wrap (IntKind.i64.wrap ((24 : Int) - IntKind.i64.wrap ((8 : Int) * Int.tmod (i : Int) 4))) = ((24 - 8 * (i % 4) : Nat) : Int) := by
        rw [em4, wrap_i64 (x := (8 : Int) * ((i % 4 : Nat) : Int)) (by omega) (by omega), wrap_i64 (by omega) (by omega), wrap_u64]; omega
      rw [ei, e24]
      obtain ⟨y, hy⟩ : ∃ y, st[i / 4]? = some y := ⟨_, List.getElem?_eq_getElem (by omega)⟩
      refine cond_t (lt_true hi) (chk_i (inR_i (by omega) (by omega)) ?_)
      refine h.ldI (b := b14) hy ?_
      refine chk_i (by simp) (chk_i (inR_i (by omega) (by omega)) ?_)
      have ho := outs_get st (i / 4) y hy (i % 4) (by omega)
      rw [out4_get y (by omega), show 4 * (i / 4) + i % 4 = i by omega] at ho
      have ev : IntKind.u8.wrap (Int.fdiv y (2 ^ (min (Int.toNat ((24 - 8 * (i % 4) : Nat) : Int)) IntKind.u32.bits))) = IntKind.u8.wrap (y / ((2 ^ (24 - 8 * (i % 4)) : Nat) : Int)) := by
        rw [Int.toNat_natCast, fdiv_pow _ _ _ (by show min (24 - 8 * (i % 4)) 32 = _; omega)]
      rw [ev]
      refine h.stI (b := b77) (by rw [fill_len (by omega) (by omega)]; omega) fun w39 h => ?_
      rw [wrap_succ (by omega)]
      refine hn _ ?_
      rw [fill_set' ho (by omega)] at h
      exact h
    · rintro g w38 next h
      refine cond_f (by decide) ?_
      rw [fill_all hol] at h
      refine h.ldArr (b := b77) hol ?_
      refine h.stArr (b := b1) hol (by simp) fun w40 h => ?_
      refine h.ldArr (b := b1) hol (unArr_i (k _ h.re)))
end Go.Vc.SA
