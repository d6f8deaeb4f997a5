/-
  Layer 8: the hash: contract.
-/
import Derived.Test.YtobldgdfejpckaaCA8b
set_option linter.all false
set_option linter.unusedVariables false
set_option maxRecDepth 100000
namespace Go.Vc.SA
open Go.Proofs Go.Vc.Sha

theorem be8_get (n : Int) {i : Nat} (h : i < 8) : (be8 n)[i]? = some (IntKind.u8.wrap (n / ((2 ^ (56 - 8 * i) : Nat) : Int))) := by
  match i, h with
  | 0, _ => rfl
  | 1, _ => rfl
  | 2, _ => rfl
  | 3, _ => rfl
  | 4, _ => rfl
  | 5, _ => rfl
  | 6, _ => rfl
  | 7, _ => rfl
theorem out4_get (x : Int) {j : Nat} (h : j < 4) : (out4 x)[j]? = some (IntKind.u8.wrap (x / ((2 ^ (24 - 8 * j) : Nat) : Int))) := by
  match j, h with
  | 0, _ => rfl
  | 1, _ => rfl
  | 2, _ => rfl
  | 3, _ => rfl
theorem fdiv_pow (x : Int) (m n : Nat) (h : min m n = m) : Int.fdiv x (2 ^ (min m n)) = x / ((2 ^ m : Nat) : Int) := by
  have e : (2 : Int) ^ m = ((2 ^ m : Nat) : Int) := by simp
  rw [h, Int.fdiv_eq_ediv_of_nonneg _ (Int.pow_nonneg (by decide)), e]

/-- the rounds over the blocks -/
theorem c71 {L bs c1 c2 : Nat} {rec : Loop} {s : SlV} {p : List Int} {n : Nat} {w : World} {H : List HA} {B : Nat → SlV → World → (World → Prop) → Prop} {K : Unit → World → Prop}
    (hB : B = fun L x w2 J => begP P L w2 fun w3 => callP P 44 #[.pointer (some ⟨bs, 0, none⟩), SlV.val x] w3 unitV fun _ w4 => J w4) (hs : rec.state = .ready) (hp : rec.pending = none) (hR : RoundsP P rec (fun x : SlV => [SlV.val x]) B) (hn : p.length = 64 * n) (hm : p.length ≤ 1099511627776)
    (h : St w (.own L (.loop rec) :: cellsA bs (arrI .u32 H0) 92 :: cellsA c1 [s.val] 22 :: cellsA c2 [.int .i64 64] 3 :: SlO 1 (Value.int .u8) s p :: H))
    (k : ∀ w', St w' (.own L (.loop rec) :: cellsA bs (arrI .u32 (blks n H0 p)) 92 :: cellsA c1 [s.val] 22 :: cellsA c2 [.int .i64 64] 3 :: SlO 1 (Value.int .u8) s p :: H) → K () w') :
    callP P 71 #[.func (.yield L) #[] #[], .pointer (some ⟨c1, 0, none⟩), .pointer (some ⟨c2, 0, none⟩)] w unitV K := sf71_call _ _ _ _ _ (by
  refine loop_i (fun i w' => ∃ j : Nat, i = ((64 * j : Nat) : Int) ∧ j ≤ n ∧ St w' (.own L (.loop rec) :: cellsA bs (arrI .u32 (blks j H0 p)) 92 :: cellsA c1 [s.val] 22 :: cellsA c2 [.int .i64 64] 3 :: SlO 1 (Value.int .u8) s p :: H)) (fun i _ => 64 * n - i.toNat) ⟨0, rfl, by omega, h⟩ ?_
  rintro g _ w1 ⟨j, rfl, hj, h⟩
  have hsl := h.slIn (s := s)
  have hlen := hsl.len
  have hcap := hsl.1.2.1
  refine h.ld (b := c1) (x := s) rfl (cond_i (fun e => ?_) (fun e => ?_))
  · have hj : j < n := by simp at e; omega
    have h := h.drew
    refine h.ld (b := c2) (x := 64) rfl (h.ld (b := c1) (x := s) rfl (chk_i (leR_i (by omega) (by omega)) (chk_i (leR_i (by omega) (by omega)) (h.ld (b := c1) (x := s) rfl ?_))))
    have e1 : (if (((SlV.sub s (Int.toNat ((64 * j : Nat) : Int)) s.len s.cap 1).len : Nat) : Int) < 64 then (((SlV.sub s (Int.toNat ((64 * j : Nat) : Int)) s.len s.cap 1).len : Nat) : Int) else 64) = 64 := by
      rw [if_neg]
      show ¬ (((s.len - Int.toNat ((64 * j : Nat) : Int) : Nat) : Int) < 64)
      rw [Int.toNat_natCast]
      omega
    have e2 : IntKind.i64.wrap (((64 * j : Nat) : Int) + 64) = ((64 * (j + 1) : Nat) : Int) := by rw [wrap_i64 (by omega) (by omega)]; omega
    rw [e1, e2]
    refine chk_i (leR_i (by omega) (by omega)) (chk_i (leR_i (by omega) (by omega)) (chk_i (leR_i (by omega) (by omega)) ?_))
    refine yield_i (x := SlV.sub s (Int.toNat ((64 * j : Nat) : Int)) (Int.toNat ((64 * (j + 1) : Nat) : Int)) (Int.toNat ((64 * (j + 1) : Nat) : Int)) 1) hR h ?_
    rw [hB]
    simp only [Int.toNat_natCast]
    refine h.beg hs fun w2 h => ?_
    have hch : (p.drop (64 * j)).take 64 = (p.take (64 * (j + 1))).drop (64 * j) := by
      rw [List.drop_take]; congr 1; omega
    have h8 : (blks j H0 p).length = 8 := blks_len _ _ _ H0_len
    refine c44 (bs := bs) (cs := (p.drop (64 * j)).take 64) h h8 (by simp; omega) (fun w' h' => ?_) fun w3 h => ?_
    · rw [hch]
      exact Sl.sub3 (h'.slIn (s := s)) (by omega) (by omega) (Nat.le_refl _) (by omega)
    · refine St.fin (rec := rec) (h.re (G := .own L (.loop { rec with state := .busy }) :: cellsA bs (arrI .u32 (blk (blks j H0 p) ((p.drop (64 * j)).take 64))) 92 :: cellsA c1 [s.val] 22 :: cellsA c2 [.int .i64 64] 3 :: SlO 1 (Value.int .u8) s p :: H)) hs hp fun w4 h => ?_
      refine cond_f rfl (h.ld (b := c2) (x := 64) rfl ?_)
      rw [e2]
      refine ⟨⟨j + 1, rfl, by omega, ?_⟩, by simp only [Int.toNat_natCast]; omega⟩
      rw [blks_snoc]
      exact h.re
  · have : j = n := by simp at e; omega
    subst this
    exact k _ h)

set_option maxHeartbeats 1000000 in
/-- mac.Hash -/
theorem c17 {parts : SlV} {ps : List SlV} {bss : List (List Int)} {w : World} {K : List Int → World → Prop} (hp : Sl w 1 SlV.val parts ps) (hb : Parts w ps bss) (hl : bss.flatten.length ≤ 1073741824)
    (k : ∀ w', St w' [.old w] → K (sha bss.flatten) w') : callP P 17 #[parts.val] w (arrV .u8) K := sf17_call _ _ _ (by
  generalize hm : bss.flatten = m at hl k
  refine (St.start w).nwAg fun b1 w1 h hg => ?_
  refine c42 (bss := bss) (hp.grow hg) (hb.grow hg) (by rw [hm]; omega) fun r w2 h2 => ?_
  rw [hm] at h2
  have h := h.thaw1 h2
  have hrl := h.sl.len
  refine h.nw fun b3 w3 h => ?_
  refine h.appY (s := r) (x := 128) slT22 (by omega) rfl (by omega) (by omega) fun r4 w4 h => ?_
  have hr4 := h.sl.len
  simp only [List.length_append, List.length_singleton] at hr4
  have epad : Int.tmod (IntKind.i64.wrap ((120 : Int) - Int.tmod (r4.len : Int) 64)) 64 = ((padN m.length : Nat) : Int) := by
    have e1 : Int.tmod (r4.len : Int) 64 = (((m.length + 1) % 64 : Nat) : Int) := by rw [hr4, Int.tmod_eq_emod_of_nonneg (by omega)]; omega
    rw [e1, wrap_i64 (by omega) (by omega), Int.tmod_eq_emod_of_nonneg (by omega)]
    unfold padN
    omega
  rw [epad]
  have hpn : padN m.length < 64 := by unfold padN; omega
  refine h.appMake (s := r4) slT22 slZ22 und3 (by simp; omega) (by simp; omega) fun r5 w5 h => ?_
  generalize hpre : m ++ [128] ++ List.replicate (padN m.length) (0 : Int) = pre at h
  have hprel : pre.length = m.length + 1 + padN m.length := by rw [← hpre]; simp; omega
  refine loop_i (fun s w' => ∃ i : Nat, s.2 = 56 - 8 * (i : Int) ∧ i ≤ 8 ∧ St w' [SlO 1 (Value.int .u8) s.1 (pre ++ (be8 (bitN m.length)).take i), cellsA b1 (arrI .u8 (List.replicate 32 0)) 25, .old w]) (fun s _ => (s.2 + 8).toNat) ⟨0, rfl, by omega, by rw [List.take_zero, List.append_nil]; exact h.re⟩ ?_
  rintro g ⟨s, _⟩ w6 ⟨i, rfl, hi, h⟩
  simp only at h
  refine cond_i (fun e => ?_) (fun e => ?_)
  · have hi : i < 8 := by simp at e; omega
    refine chk_i (by simp; omega) ?_
    refine h.nw fun b8 w7 h => ?_
    have hbe := be8_get (bitN m.length) hi
    have ev : IntKind.u8.wrap (Int.fdiv (IntKind.u64.wrap ((IntKind.u64.wrap (r.len : Int)) * 8)) (2 ^ (min (Int.toNat (56 - 8 * (i : Int))) IntKind.u64.bits))) = IntKind.u8.wrap (bitN m.length / ((2 ^ (56 - 8 * i) : Nat) : Int)) := by
      have : Int.toNat (56 - 8 * (i : Int)) = 56 - 8 * i := by omega
      rw [this, fdiv_pow _ _ _ (by show min (56 - 8 * i) 64 = _; omega), hrl]
      rfl
    refine h.appY (s := s) (x := IntKind.u8.wrap (bitN m.length / ((2 ^ (56 - 8 * i) : Nat) : Int))) slT22 (by omega) (by
      show [Value.int .u8 _] = [Value.int .u8 _]
      rw [ev]) (by simp [be8_len]; omega) (by simp [be8_len]; omega) fun r9 w8 h => ?_
    have es : IntKind.i64.wrap ((56 - 8 * (i : Int)) - 8) = 56 - 8 * ((i + 1 : Nat) : Int) := by rw [wrap_i64 (by omega) (by omega)]; omega
    refine ⟨⟨i + 1, es, by omega, ?_⟩, ?_⟩
    · have h1 := (List.getElem?_eq_some_iff.1 hbe).1
      have h2 := (List.getElem?_eq_some_iff.1 hbe).2
      rw [List.take_succ_eq_append_getElem h1, h2, ← List.append_assoc]
      exact h
    · show ((IntKind.i64.wrap ((56 - 8 * (i : Int)) - 8)) + 8).toNat < ((56 - 8 * (i : Int)) + 8).toNat
      rw [es]; omega
  · have hi : i = 8 := by simp at e; omega
    subst hi
    have epd : pre ++ (be8 (bitN m.length)).take 8 = pad m := by
      rw [List.take_of_length_le (by rw [be8_len]; omega), ← hpre]
      rfl
    rw [epd] at h
    have hpl := pad_len m
    have hpm := pad_mod m
    refine h.nwA fun b10 w9 h => ?_
    refine h.stArr (b := b10) (ys := H0) rfl (by simp) fun w10 h => ?_
    refine c43 h (by omega) fun c1 c2 w11 h => ?_
    show rangeP P (.func (.func 71) #[] #[.pointer (some ⟨c1, 0, none⟩), .pointer (some ⟨c2, 0, none⟩)]) _ _ _ _
    refine range_i h (by kernel_rfl) fun L D rec w12 hs hpd hR h => ?_
    refine c71 (bs := b10) (c1 := c1) (c2 := c2) (s := s) (p := pad m) (n := (pad m).length / 64) rfl hs hpd hR (by omega) (by omega) (H := [.own D (.deferred (some [])), cellsA b1 (arrI .u8 (List.replicate 32 0)) 25, .old w]) h.re fun w13 h => ?_
    refine ⟨_, h, fun w14 h => ?_⟩
    generalize hst : blks ((pad m).length / 64) H0 (pad m) = st at h
    have hst8 : st.length = 8 := by rw [← hst]; exact blks_len _ _ _ H0_len
    have hsha : sha m = outs st := by unfold sha; simp only; rw [hst]
    have hol : (outs st).length = 32 := by rw [outs_len, hst8]
    refine h.nwA fun b17 w16 h => ?_
    refine h.ldArr (b := b10) hst8 ?_
    refine loop_cnt (n := 8) (fun i w' => St w' [cellsA b17 (arrI .u8 (fill (outs st) 32 (4 * i))) 25, .own D (.deferred (some [])), cellsA b1 (arrI .u8 (List.replicate 32 0)) 25, .old w]) (by rw [fill_zero]; exact h.re) ?_ ?_
    · rintro g i w17 next hi h hn
      refine cond_t (lt_true hi) (chk_i (inR_i (by omega) (by omega)) ?_)
      obtain ⟨y, hy⟩ : ∃ y, st[i]? = some y := ⟨_, List.getElem?_eq_getElem (by omega)⟩
      refine nthK_i hy ?_
      refine loop_cnt (n := 4) (fun j w' => St w' [cellsA b17 (arrI .u8 (fill (outs st) 32 (4 * i + j))) 25, .own D (.deferred (some [])), cellsA b1 (arrI .u8 (List.replicate 32 0)) 25, .old w]) h ?_ ?_
      · rintro g j w18 next hj h hn
        have e24 : IntKind.i64.wrap ((24 : Int) - IntKind.i64.wrap ((8 : Int) * (j : Int))) = ((24 - 8 * j : Nat) : Int) := by
          rw [wrap_i64 (x := (8 : Int) * (j : Int)) (by omega) (by omega), wrap_i64 (by omega) (by omega)]; omega
        have eix : IntKind.i64.wrap (IntKind.i64.wrap ((4 : Int) * (i : Int)) + (j : Int)) = ((4 * i + j : Nat) : Int) := by
          rw [wrap_i64 (x := (4 : Int) * (i : Int)) (by omega) (by omega), wrap_i64 (by omega) (by omega)]; omega
        rw [e24, eix]
        refine cond_t (lt_true hj) (chk_i (by simp) (chk_i (inR_i (by omega) (by omega)) ?_))
        have ho := outs_get st i y hy j hj
        rw [out4_get y hj] at ho
        have ev : IntKind.u8.wrap (Int.fdiv y (2 ^ (min (Int.toNat ((24 - 8 * j : Nat) : Int)) IntKind.u32.bits))) = IntKind.u8.wrap (y / ((2 ^ (24 - 8 * j) : Nat) : Int)) := by
          rw [Int.toNat_natCast, fdiv_pow _ _ _ (by show min (24 - 8 * j) 32 = _; omega)]
        rw [ev]
        refine h.stI (b := b17) (by rw [fill_len (by omega) (by omega)]; omega) fun w19 h => ?_
        rw [wrap_succ (by omega)]
        refine hn _ ?_
        rw [fill_set' ho (by omega)] at h
        exact h
      · rintro g w18 next2 h
        refine cond_f (by decide) ?_
        rw [wrap_succ (by omega)]
        exact hn _ h
    · rintro g w17 next h
      refine cond_f (by decide) ?_
      rw [fill_all hol] at h
      refine h.ldArr (b := b17) hol ?_
      refine h.stArr (b := b1) hol (by simp) fun w20 h => ?_
      refine St.leave (D := D) h.re (H := [cellsA b1 (arrI .u8 (outs st)) 25, .old w]) fun w21 h => ?_
      refine h.ldArr (b := b1) hol (unArr_i ?_)
      rw [← hsha]
      exact k _ h.re)
end Go.Vc.SA
