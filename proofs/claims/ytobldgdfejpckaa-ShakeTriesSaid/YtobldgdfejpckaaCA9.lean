/-
  octet: contracts.
-/
import Derived.Test.YtobldgdfejpckaaCA8i
import Derived.Laws.BitsAllLaws
set_option linter.all false
set_option linter.unusedVariables false
set_option maxRecDepth 100000
namespace Go.Vc.SA
open Go.Proofs

/-! ### octet: the writer -/
def be2 (v : Int) : List Int := [v / 256 % 256, v % 256]
def be4 (v : Int) : List Int := be2 (v / 65536 % 65536) ++ be2 (v % 65536)
def Wr (b : Nat) (bs : List Int) : HA := .ex fun s : SlV => .sep (cellsA b [s.val] 102) (SlO 1 (Value.int .u8) s bs)
theorem Wr.un {w : World} {H : List HA} {b : Nat} {bs : List Int} (h : St w (Wr b bs :: H)) : ∃ s : SlV, St w (cellsA b [s.val] 102 :: SlO 1 (Value.int .u8) s bs :: H) := by
  obtain ⟨s, h⟩ := h.unex
  exact ⟨s, h.unsep⟩
theorem Wr.mk {w : World} {H : List HA} {b : Nat} {bs : List Int} {s : SlV} (h : St w (cellsA b [s.val] 102 :: SlO 1 (Value.int .u8) s bs :: H)) : St w (Wr b bs :: H) := h.mksep.mkex s

theorem c48 {b : Nat} {v : Int} {w : World} {H H' : List HA} {bs : List Int} {K : Unit → World → Prop} [c : AtIn Wr b H bs H'] (h : St w H) (hb : bs.length ≤ 1099511627776)
    (k : ∀ w', St w' (Wr b (bs ++ be2 v) :: H') → K () w') : callP P 48 #[.pointer (some ⟨b, 0, none⟩), .int .u16 v] w unitV K := sf48_call _ _ _ _ (by
  obtain ⟨s, h⟩ := Wr.un (h.front (mk := Wr) (k := b))
  refine h.lda rfl ?_
  refine h.app2 (x := v / 256 % 256) (y := v % 256) slT22 (by omega) ?_ (by omega) (by omega) fun s' w' h' => ?_
  · rw [wrap_u8, wrap_u8, Int.fdiv_eq_ediv_of_nonneg _ (by decide)]
    rfl
  · refine h'.stna rfl rfl (Nat.le_refl _) fun w2 h2 => k _ ?_
    exact Wr.mk h2)
theorem c47 {b : Nat} {v : Int} {w : World} {H H' : List HA} {bs : List Int} {K : Unit → World → Prop} [c : AtIn Wr b H bs H'] (h : St w H) (hb : bs.length ≤ 549755813888)
    (k : ∀ w', St w' (Wr b (bs ++ be4 v) :: H') → K () w') : callP P 47 #[.pointer (some ⟨b, 0, none⟩), .int .u32 v] w unitV K := sf47_call _ _ _ _ (by
  refine c48 h (by omega) fun w1 h1 => ?_
  refine c48 h1 (by simp [be2]; omega) fun w2 h2 => k _ ?_
  have e : ((2 : Int) ^ (min (Int.toNat (16 : Int)) IntKind.u32.bits)) = 65536 := by decide
  rw [wrap_u16, wrap_u16, Int.fdiv_eq_ediv_of_nonneg _ (by decide), e] at h2
  simpa [be4] using h2)
theorem c50 {b : Nat} {w : World} {H H' : List HA} {bs : List Int} {K : SlV → World → Prop} [c : AtIn Wr b H bs H'] (h : St w H) (hb : bs.length ≤ 1099511627776)
    (k : ∀ r w', St w' (SlO 1 (Value.int .u8) r bs :: Wr b bs :: H') → K r w') : callP P 50 #[.pointer (some ⟨b, 0, none⟩)] w SlV.val K := sf50_call _ _ _ (by
  obtain ⟨s, h⟩ := Wr.un (h.front (mk := Wr) (k := b))
  refine h.lda rfl ?_
  refine c38 h h.slIn hb fun r w' h' => k _ _ ?_
  exact (Wr.mk (h'.g1.g2.g1)).g1)

/-! ### octet: the reader -/
def Rd (b : Nat) (x : List Int × Bool) : HA := .ex fun s : SlV => .sep (cellsA b [s.val, .bool x.2] 141) (SlO 1 (Value.int .u8) s x.1)
theorem Rd.un {w : World} {H : List HA} {b : Nat} {x : List Int × Bool} (h : St w (Rd b x :: H)) : ∃ s : SlV, St w (cellsA b [s.val, .bool x.2] 141 :: SlO 1 (Value.int .u8) s x.1 :: H) := by
  obtain ⟨s, h⟩ := h.unex
  exact ⟨s, h.unsep⟩
theorem Rd.mk {w : World} {H : List HA} {b : Nat} {x : List Int × Bool} {s : SlV} (h : St w (cellsA b [s.val, .bool x.2] 141 :: SlO 1 (Value.int .u8) s x.1 :: H)) : St w (Rd b x :: H) := h.mksep.mkex s

theorem c52 {s : SlV} {w : World} {H : List HA} {xs : List Int} {K : Option Addr → World → Prop} (h : St w H) (hs : Sl w 1 (Value.int .u8) s xs) (hb : xs.length ≤ 1099511627776)
    (k : ∀ b w', St w' (Rd b (xs, false) :: H) → K (some ⟨b, 0, none⟩) w') : callP P 52 #[s.val] w Value.pointer K := sf52_call _ _ _ (by
  refine c38 h hs hb fun r w1 h1 => ?_
  exact h1.nw fun b w2 h2 => k _ _ (Rd.mk h2))

def takeR (x : List Int × Bool) (n : Nat) : List Int × List Int × Bool :=
  if x.1.length < n then ([], [], true) else if x.2 then ([], x) else (x.1.take n, x.1.drop n, x.2)
theorem c81 {b n : Nat} {w : World} {H H' : List HA} {x : List Int × Bool} {K : SlV → World → Prop} [c : AtIn Rd b H x H'] (h : St w H) (hb : x.1.length ≤ 1099511627776)
    (k : ∀ r w', St w' (SlO 1 (Value.int .u8) r (takeR x n).1 :: Rd b (takeR x n).2 :: H') → K r w') : callP P 81 #[.pointer (some ⟨b, 0, none⟩), .int .i64 (n : Int)] w SlV.val K := sf81_call _ _ _ _ (by
  obtain ⟨s, h⟩ := Rd.un (h.front (mk := Rd) (k := b))
  have hl : s.len = x.1.length := h.g1.sl.len
  have hc : s.len ≤ s.cap := h.g1.sl.1.2.1
  refine cut_i (fun j w' => j = decide (x.1.length < n) ∧ St w' (cellsA b [s.val, .bool x.2] 141 :: SlO 1 (Value.int .u8) s x.1 :: H')) ?_ ?_
  · refine cond_f (by simp) ?_
    refine h.lda rfl ⟨?_, h⟩
    rw [hl]
    exact decide_eq_decide.2 (by omega)
  · rintro g _ w1 ⟨rfl, h⟩
    refine cond_i (fun hd => ?_) (fun hd => ?_)
    · have e : takeR x n = ([], [], true) := by simp only [takeR]; rw [if_pos (by simpa using hd)]
      rw [e] at k
      refine h.stna rfl rfl (Nat.le_of_ble_eq_true rfl) fun w2 h2 => h2.stna rfl rfl (Nat.le_of_ble_eq_true rfl) fun w3 h3 => k _ _ ?_
      exact (SlO.nil (Rd.mk (x := ([], true)) (SlO.nil h3.g1.drop).g1))
    · have hd : ¬ x.1.length < n := by simpa using hd
      refine h.lda rfl ?_
      refine cond_i (fun hx => ?_) (fun hx => ?_)
      · have e : takeR x n = ([], x) := by simp only [takeR]; rw [if_neg hd, if_pos hx]
        rw [e] at k
        exact k _ _ (SlO.nil (Rd.mk h))
      · have e : takeR x n = (x.1.take n, x.1.drop n, x.2) := by simp only [takeR]; rw [if_neg hd, if_neg (by simp [hx])]
        rw [e] at k
        refine h.lda rfl ?_
        refine chk_i (leR_i (by omega) (by omega)) (chk_i (leR_i (by omega) (by omega)) ?_)
        have hsub := h.g1.sl.sub (l := 0) (m := n) (Nat.zero_le _) (by omega)
        simp only [Int.toNat_natCast]
        refine c38 h (by simpa using hsub) (by simp; omega) fun r w2 h2 => ?_
        refine h2.lda rfl ?_
        refine chk_i (leR_i (by omega) (by omega)) (chk_i (leR_i (by omega) (by omega)) ?_)
        refine h2.stna rfl rfl (Nat.le_of_ble_eq_true rfl) fun w3 h3 => k _ _ ?_
        have h4 := SlO.sub (l := n) (m := s.len) (xs := x.1) h3.g2 (by omega) (by omega)
        rw [hl, List.take_length] at h4
        rw [hl] at h3
        exact (Rd.mk (x := (x.1.drop n, x.2)) (h4.g1)).g1)

theorem or_byte {v x : Int} (hv : 0 ≤ v) (h0 : 0 ≤ x) (h1 : x < 256) : bits .or .u32 (IntKind.u32.wrap (v * 256)) x = v * 256 % 4294967296 + x := by
  rw [wrap_u32, u32_or _ _ (by omega) (by omega) h0 (by omega)]
  have e : (v * 256 % 4294967296).toNat = 2 ^ 8 * (v % 16777216).toNat := by omega
  rw [e, ← Nat.two_pow_add_eq_or_of_lt (by omega)]
  omega
def num (bs : List Int) : Int := bs.foldl (fun v x => v * 256 % 4294967296 + x) 0
theorem num_snoc (bs : List Int) (x : Int) : num (bs ++ [x]) = num bs * 256 % 4294967296 + x := by simp [num]
def Bytes (bs : List Int) : Prop := ∀ x ∈ bs, 0 ≤ x ∧ x < 256
theorem num_range {bs : List Int} (h : Bytes bs) : 0 ≤ num bs ∧ num bs < 4294967296 := by
  have g : ∀ (bs : List Int) (v : Int), Bytes bs → 0 ≤ v → v < 4294967296 → 0 ≤ bs.foldl (fun v x => v * 256 % 4294967296 + x) v ∧ bs.foldl (fun v x => v * 256 % 4294967296 + x) v < 4294967296 := by
    intro bs
    induction bs with
    | nil => intro v _ h0 h1; exact ⟨h0, h1⟩
    | cons x bs ih =>
      intro v hb h0 h1
      have hx := hb x (by simp)
      exact ih _ (fun y hy => hb y (by simp [hy])) (by show 0 ≤ v * 256 % 4294967296 + x; omega) (by show v * 256 % 4294967296 + x < _; omega)
  exact g bs 0 h (by omega) (by omega)
theorem c75 {b n : Nat} {w : World} {H H' : List HA} {x : List Int × Bool} {K : Int → World → Prop} [c : AtIn Rd b H x H'] (h : St w H) (hb : x.1.length ≤ 1099511627776) (hx : Bytes x.1)
    (k : ∀ w', St w' (Rd b (takeR x n).2 :: H') → K (num (takeR x n).1) w') : callP P 75 #[.pointer (some ⟨b, 0, none⟩), .int .i64 (n : Int)] w (Value.int .u32) K := sf75_call _ _ _ _ (by
  refine c81 h hb fun r w1 h1 => ?_
  have hby : Bytes (takeR x n).1 := by
    intro y hy
    unfold takeR at hy
    split at hy
    · simp at hy
    · split at hy
      · simp at hy
      · exact hx y (List.mem_of_mem_take hy)
  generalize takeR x n = t at *
  refine loop_cnt2 (n := t.1.length) (fun i a w' => a = num (t.1.take i) ∧ St w' (SlO 1 (Value.int .u8) r t.1 :: Rd b t.2 :: H')) ⟨by simp [num], h1⟩ ?_ ?_
  · rintro g i a w2 next hi ⟨rfl, h2⟩ hn
    rw [h2.sl.len]
    refine cond_t (lt_true hi) ?_
    rw [← h2.sl.len]
    refine h2.sl.atN (List.getElem?_eq_getElem hi) fun ad _ => ?_
    rw [wrap_succ (h2.sl.len_lt hi)]
    have hb1 := hby _ (List.getElem_mem hi)
    have e : ((2 : Int) ^ (min (Int.toNat (8 : Int)) IntKind.u32.bits)) = 256 := by decide
    have hr := num_range (bs := t.1.take i) fun y hy => hby y (List.mem_of_mem_take hy)
    refine hn _ _ ⟨?_, h2⟩
    rw [e, wrap_u32 (x := t.1[i]), Int.emod_eq_of_lt hb1.1 (by omega), or_byte hr.1 hb1.1 hb1.2, List.take_succ_eq_append_getElem hi, num_snoc]
  · rintro g a w2 next ⟨rfl, h2⟩
    rw [h2.sl.len]
    refine cond_f (lt_false _) ?_
    rw [List.take_length]
    exact k _ h2.drop)

/-! ### more of it -/
theorem c49 {b : Nat} {v : Int} {w : World} {H H' : List HA} {bs : List Int} {K : Unit → World → Prop} [c : AtIn Wr b H bs H'] (h : St w H) (hb : bs.length ≤ 1099511627776)
    (k : ∀ w', St w' (Wr b (bs ++ [v]) :: H') → K () w') : callP P 49 #[.pointer (some ⟨b, 0, none⟩), .int .u8 v] w unitV K := sf49_call _ _ _ _ (by
  obtain ⟨s, h⟩ := Wr.un (h.front (mk := Wr) (k := b))
  refine h.lda rfl ?_
  refine h.nw fun b2 w2 h => ?_
  refine h.appY (s := s) (x := v) slT22 (by omega) rfl (by omega) (by omega) fun s' w' h' => ?_
  refine h'.g1.stna (b := b) rfl rfl (Nat.le_refl _) fun w2 h2 => k _ ?_
  exact Wr.mk h2)
theorem c51 {b : Nat} {y : SlV} {ys : List Int} {w : World} {H H' : List HA} {bs : List Int} {K : Unit → World → Prop} [c : AtIn Wr b H bs H'] (h : St w H) (hy : Sl w 1 (Value.int .u8) y ys) (hb : bs.length + ys.length ≤ 1099511627776)
    (k : ∀ w', St w' (Wr b (bs ++ ys) :: H') → K () w') : callP P 51 #[.pointer (some ⟨b, 0, none⟩), y.val] w unitV K := sf51_call _ _ _ _ (by
  obtain ⟨s, h⟩ := Wr.un (h.front (mk := Wr) (k := b))
  refine h.lda rfl ?_
  refine h.append (s := s) slT22 (by omega) hy (by omega) (by rw [maxLen_eq]; omega) fun s' w' h' => ?_
  refine h'.g1.stna (b := b) rfl rfl (Nat.le_refl _) fun w2 h2 => k _ ?_
  exact Wr.mk h2)
theorem c53 {b : Nat} {w : World} {H H' : List HA} {x : List Int × Bool} {K : Int → World → Prop} [c : AtIn Rd b H x H'] (h : St w H) (hb : x.1.length ≤ 1099511627776) (hx : Bytes x.1)
    (k : ∀ w', St w' (Rd b (takeR x 4).2 :: H') → K (num (takeR x 4).1) w') : callP P 53 #[.pointer (some ⟨b, 0, none⟩)] w (Value.int .u32) K := sf53_call _ _ _ (c75 (n := 4) h hb hx k)
theorem c54 {b : Nat} {w : World} {H H' : List HA} {x : List Int × Bool} {K : Int → World → Prop} [c : AtIn Rd b H x H'] (h : St w H) (hb : x.1.length ≤ 1099511627776) (hx : Bytes x.1)
    (k : ∀ w', St w' (Rd b (takeR x 2).2 :: H') → K (IntKind.u16.wrap (num (takeR x 2).1)) w') : callP P 54 #[.pointer (some ⟨b, 0, none⟩)] w (Value.int .u16) K := sf54_call _ _ _ (c75 (n := 2) h hb hx k)
theorem c55 {b : Nat} {w : World} {H H' : List HA} {x : List Int × Bool} {K : Int → World → Prop} [c : AtIn Rd b H x H'] (h : St w H) (hb : x.1.length ≤ 1099511627776) (hx : Bytes x.1)
    (k : ∀ w', St w' (Rd b (takeR x 1).2 :: H') → K (IntKind.u8.wrap (num (takeR x 1).1)) w') : callP P 55 #[.pointer (some ⟨b, 0, none⟩)] w (Value.int .u8) K := sf55_call _ _ _ (c75 (n := 1) h hb hx k)
theorem c56 {a b : Int} {w : World} {K : Int → World → Prop} (k : K (IntKind.u32.wrap (b - a)) w) : callP P 56 #[.int .u32 a, .int .u32 b] w (Value.int .u32) K := sf56_call _ _ _ _ k
theorem c59 {a b : Int} {w : World} {K : Int → World → Prop} (ha : 0 ≤ a ∧ a < 4294967296) (hb : 0 ≤ b ∧ b < 4294967296) (k : K (IntKind.u32.wrap (b - a)) w) : callP P 59 #[.int .u32 a, .int .u32 b] w (Value.int .u64) K := sf59_call _ _ _ _ (by
  rw [wrap_u32] at k
  refine cond_i (fun e => ?_) (fun e => ?_)
  · simp only [wrap_u64] at e ⊢
    have e : b % 18446744073709551616 < a % 18446744073709551616 := by simpa using e
    have e2 : ((b % 18446744073709551616 + 4294967296) % 18446744073709551616 - a % 18446744073709551616) % 18446744073709551616 = (b - a) % 4294967296 := by omega
    rw [e2]; exact k
  · simp only [wrap_u64] at e ⊢
    have e : ¬ b % 18446744073709551616 < a % 18446744073709551616 := by simpa using e
    have e2 : (b % 18446744073709551616 - a % 18446744073709551616) % 18446744073709551616 = (b - a) % 4294967296 := by omega
    rw [e2]; exact k)
/-- a number's bytes, the highest first -/
def beN (v : Int) (n : Nat) : List Int := (List.range n).map fun i => v / ((2 ^ (8 * (n - 1 - i)) : Nat) : Int) % 256
theorem beN_len (v : Int) (n : Nat) : (beN v n).length = n := by simp [beN]
theorem beN_2 {v : Int} : beN v 2 = be2 v := by simp [beN, be2, List.range, List.range.loop]
theorem beN_4 {v : Int} : beN v 4 = be4 v := by
  simp [beN, be4, be2, List.range, List.range.loop]
  omega
theorem beN_get {v : Int} {n i : Nat} (h : i < n) : (beN v n)[i]? = some (v / ((2 ^ (8 * (n - 1 - i)) : Nat) : Int) % 256) := by simp [beN, h]
theorem c57 {v : Int} {n : Nat} {w : World} {H : List HA} {K : SlV → World → Prop} (h : St w H) (hn : 0 < n ∧ n ≤ 8) (k : ∀ s w', St w' (SlO 1 (Value.int .u8) s (beN v n) :: H) → K s w') :
    callP P 57 #[.int .u64 v, .int .i64 (n : Int)] w SlV.val K := sf57_call _ _ _ _ (by
  have e0 : IntKind.i64.wrap ((n : Int) - 1) = (n : Int) - 1 - ((0 : Nat) : Int) := by rw [wrap_i64 (by omega) (by omega)]; omega
  refine loop_i (fun s w' => ∃ i : Nat, s.2 = (n : Int) - 1 - (i : Int) ∧ i ≤ n ∧ St w' (SlO 1 (Value.int .u8) s.1 ((beN v n).take i) :: H)) (fun s _ => (s.2 + 1).toNat) ⟨0, e0, by omega, by rw [List.take_zero]; exact SlO.nil h⟩ ?_
  rintro g ⟨q, _⟩ w1 ⟨i, rfl, hi, h⟩
  simp only at h
  refine cond_i (fun e => ?_) (fun e => ?_)
  · have hi : i < n := by simp at e; omega
    have e8 : IntKind.u64.wrap (IntKind.i64.wrap ((8 : Int) * ((n : Int) - 1 - (i : Int)))) = ((8 * (n - 1 - i) : Nat) : Int) := by rw [wrap_i64 (by omega) (by omega), wrap_u64]; omega
    rw [e8]
    refine chk_i (decide_eq_true (by omega)) ?_
    refine h.nw fun b2 w2 h => ?_
    have ev : IntKind.u8.wrap (Int.fdiv v (2 ^ (min (Int.toNat ((8 * (n - 1 - i) : Nat) : Int)) IntKind.u64.bits))) = v / ((2 ^ (8 * (n - 1 - i)) : Nat) : Int) % 256 := by
      rw [Int.toNat_natCast, fdiv_pow _ _ _ (by show min (8 * (n - 1 - i)) 64 = _; omega), wrap_u8]
    refine h.appY (s := q) (x := v / ((2 ^ (8 * (n - 1 - i)) : Nat) : Int) % 256) slT22 (by omega) (by
      show [Value.int .u8 _] = [Value.int .u8 _]
      rw [ev]) (by simp [beN_len]; omega) (by simp [beN_len]; omega) fun r w3 h => ?_
    have es : IntKind.i64.wrap (((n : Int) - 1 - (i : Int)) - 1) = (n : Int) - 1 - ((i + 1 : Nat) : Int) := by rw [wrap_i64 (by omega) (by omega)]; omega
    refine ⟨⟨i + 1, es, hi, ?_⟩, ?_⟩
    · rw [take_snoc (beN_get hi)]
      exact h
    · show ((IntKind.i64.wrap (((n : Int) - 1 - (i : Int)) - 1)) + 1).toNat < (((n : Int) - 1 - (i : Int)) + 1).toNat
      rw [es]; omega
  · have hi : i = n := by simp at e; omega
    subst hi
    rw [List.take_of_length_le (by rw [beN_len]; omega)] at h
    exact k _ _ h)

/-! ### the document's tape -/
theorem num_small {bs : List Int} (h : Bytes bs) (hl : bs.length ≤ 3) : 0 ≤ num bs ∧ num bs < 16777216 := by
  match bs, hl with
  | [], _ => exact ⟨by decide, by decide⟩
  | [a], _ => have ha := h a (by simp); simp only [num, List.foldl]; omega
  | [a, b], _ => have ha := h a (by simp); have hb := h b (by simp); simp only [num, List.foldl]; omega
  | [a, b, c], _ => have ha := h a (by simp); have hb := h b (by simp); have hc := h c (by simp); simp only [num, List.foldl]; omega
abbrev tp (s : SlV) (i : Nat) : List Value := [s.val, .int .i64 (i : Int), .bool false]
theorem c76 {t : Nat} {s : SlV} {i n : Nat} {xs : List Int} {w0 w : World} {H H' : List HA} {K : SlV → World → Prop} [c : CellsIn t H (tp s i) 118 H'] (h : St w H) (hs : Sl w0 1 (Value.int .u8) s xs) (hi : i + n ≤ xs.length) (hx : xs.length ≤ 1099511627776)
    (k : ∀ r w', St w' (cellsA t (tp s (i + n)) 118 :: H') → Sl w0 1 (Value.int .u8) r ((xs.drop i).take n) → K r w') : callP P 76 #[.pointer (some ⟨t, 0, none⟩), .int .i64 (n : Int)] w SlV.val K := sf76_call _ _ _ _ (by
  have h := (c.imp w).st h
  have hsl := hs.len
  have hsc := hs.1.2.1
  have h := h.drew
  refine cut_i (fun x w' => x = false ∧ St w' (cellsA t (tp s i) 118 :: H')) ?_ ?_
  · refine h.lda (b := t) (x := false) rfl (cond_f rfl (cond_f (by simp) ?_))
    refine h.lda (b := t) (x := s) rfl (h.lda (b := t) (x := (i : Int)) rfl ⟨?_, h⟩)
    rw [hsl, wrap_i64 (by omega) (by omega)]
    exact decide_eq_false (by omega)
  · rintro g _ w1 ⟨rfl, h⟩
    refine cond_f rfl ?_
    refine h.lda (b := t) (x := (i : Int)) rfl ?_
    have e1 : IntKind.i64.wrap ((i : Int) + (n : Int)) = ((i + n : Nat) : Int) := by rw [wrap_i64 (by omega) (by omega)]; omega
    rw [e1]
    refine h.stna (b := t) rfl rfl (Nat.le_of_ble_eq_true rfl) fun w2 h => ?_
    have h : St w2 (cellsA t (tp s (i + n)) 118 :: H') := h
    have h := h.drew
    refine h.lda (b := t) (x := s) rfl (h.lda (b := t) (x := ((i + n : Nat) : Int)) rfl (h.lda (b := t) (x := ((i + n : Nat) : Int)) rfl ?_))
    have e2 : IntKind.i64.wrap (((i + n : Nat) : Int) - (n : Int)) = (i : Int) := by rw [wrap_i64 (by omega) (by omega)]; omega
    rw [e2]
    refine chk_i (leR_i (by omega) (by omega)) (chk_i (leR_i (by omega) (by omega)) ?_)
    refine k _ _ h ?_
    have := Sl.sub (l := i) (m := i + n) hs (by omega) hi
    rw [List.drop_take, Nat.add_sub_cancel_left] at this
    exact this)
theorem c58 {t : Nat} {s : SlV} {i n : Nat} {xs : List Int} {w0 w : World} {H H' : List HA} {K : Int → World → Prop} [c : CellsIn t H (tp s i) 118 H'] (h : St w H) (hs : ∀ w', St w' (cellsA t (tp s (i + n)) 118 :: H') → St w' [.old w0]) (hs0 : Sl w0 1 (Value.int .u8) s xs) (hi : i + n ≤ xs.length) (hx : xs.length ≤ 1099511627776) (hn : n ≤ 4) (hB : Bytes xs)
    (k : ∀ w', St w' (cellsA t (tp s (i + n)) 118 :: H') → K (num ((xs.drop i).take n)) w') : callP P 58 #[.pointer (some ⟨t, 0, none⟩), .int .i64 (n : Int)] w (Value.int .u64) K := sf58_call _ _ _ _ (by
  refine c76 h hs0 hi hx fun r w1 h1 hr => ?_
  have hr := hr.old (hs w1 h1)
  have hby : Bytes ((xs.drop i).take n) := fun y hy => hB y (List.mem_of_mem_drop (List.mem_of_mem_take hy))
  have hlen : ((xs.drop i).take n).length ≤ 4 := by simp; omega
  generalize (xs.drop i).take n = ys at *
  refine loop_cnt2 (n := ys.length) (fun i a w' => a = num (ys.take i) ∧ w' = w1) ⟨by simp [num], rfl⟩ ?_ ?_
  · rintro g i a w2 next hi ⟨rfl, rfl⟩ hn
    rw [hr.len]
    refine cond_t (lt_true hi) ?_
    rw [← hr.len]
    refine hr.atN (List.getElem?_eq_getElem hi) fun ad _ => ?_
    rw [wrap_succ (hr.len_lt hi)]
    have hb1 := hby _ (List.getElem_mem hi)
    have hsm := num_small (bs := ys.take i) (fun y hy => hby y (List.mem_of_mem_take hy)) (by simp; omega)
    refine hn _ _ ⟨?_, rfl⟩
    rw [List.take_succ_eq_append_getElem hi, num_snoc]
    show IntKind.u64.wrap (IntKind.u64.wrap ((256 : Int) * num (ys.take i)) + IntKind.u64.wrap ys[i]) = _
    rw [wrap_u64, wrap_u64, wrap_u64]
    omega
  · rintro g a w2 next ⟨rfl, rfl⟩
    rw [hr.len]
    refine cond_f (lt_false _) ?_
    rw [List.take_length]
    exact k _ h1)
end Go.Vc.SA
