/-
  What the functions of layers 4 and 18 do: contracts.
-/
import Derived.Test.YtbcmfajacbpaiaaBF0
import Derived.Test.YtbcmfajacbpaiaaBF1
import Derived.Test.YtbcmfajacbpaiaaVcSep3
import Derived.Laws.BitsAllLaws
set_option linter.all false
set_option linter.unusedVariables false
set_option maxRecDepth 100000
namespace Go.Vc.SB
open Go.Proofs

theorem slT86 : SlT P 86 1 (Value.int .u16) 2 := slT_of (by kernel_rfl)
theorem slT31 : SlT P 31 1 (Value.int .u8) 1 := slT_of (by kernel_rfl)

/-- slices.Index -/
theorem c114 {s : SlV} {v : Int} {w : World} {xs : List Int} {K : Int → World → Prop} (hs : Sl w 1 (Value.int .u16) s xs)
    (k : ∀ r : Int, (0 ≤ r ↔ v ∈ xs) → K r w) : callP P 114 #[s.val, .int .u16 v] w (Value.int .i64) K := sf114_call _ _ _ _ (by
  refine loop_cnt (n := xs.length) (fun i w' => w' = w ∧ v ∉ xs.take i) ⟨rfl, by simp⟩ ?_ ?_
  · rintro g i w' next hi ⟨rfl, hv⟩ hn
    rw [hs.len]
    refine cond_t (lt_true hi) ?_
    rw [← hs.len]
    refine hs.atN (List.getElem?_eq_getElem hi) fun a _ => cond_i (fun he => k _ ?_) (fun he => ?_)
    · have : v = xs[i] := by simpa using he
      subst this
      simp
    · rw [wrap_succ (hs.len_lt hi)]
      refine hn _ ⟨rfl, fun hm => ?_⟩
      have hne : v ≠ xs[i] := by simpa using he
      rw [List.take_succ_eq_append_getElem hi, List.mem_append, List.mem_singleton] at hm
      exact hm.elim hv hne
  · rintro g w' next ⟨rfl, hv⟩
    rw [hs.len]
    refine cond_f (lt_false _) (k _ ?_)
    rw [List.take_length] at hv
    simp [hv])

/-- slices.Contains -/
theorem c80 {s : SlV} {v : Int} {w : World} {xs : List Int} {K : Bool → World → Prop} (hs : Sl w 1 (Value.int .u16) s xs)
    (k : K (decide (v ∈ xs)) w) : callP P 80 #[s.val, .int .u16 v] w Value.bool K := sf80_call _ _ _ _ (by
  refine c114 hs fun r hr => ?_
  have : decide (r ≥ (0 : Int)) = decide (v ∈ xs) := by simp [ge_iff_le, hr]
  show K _ _
  rw [this]
  exact k)

/-- slices.Clone at []byte -/
theorem c52 {s : SlV} {w : World} {H : List HA} {xs : List Int} {K : SlV → World → Prop} (h : St w H) (hs : Sl w 1 (Value.int .u8) s xs) (hb : xs.length ≤ 1099511627776)
    (k : ∀ r w', St w' (SlO 1 (Value.int .u8) r xs :: H) → K r w') : callP P 52 #[s.val] w SlV.val K := sf52_call _ _ _ (by
  refine cond_i (fun e => ?_) (fun e => ?_)
  · have : xs = [] := hs.nil_of (by simpa [negB] using e)
    subst this
    exact k _ _ (SlO.nil h)
  · refine h.nwg fun b1 w1 h1 hg => ?_
    have h2 : St w1 (SlO 1 (Value.int .u8) (SlV.mk (some ⟨b1, 0, none⟩) 0 0) ([] : List Int) :: H) := SlO.of_cells (xs := []) h1 rfl rfl (by simp)
    refine h2.append slT31 (by omega) (hs.grow hg) (by simp; omega) (by rw [maxLen_eq]; simp; omega) fun s' w' h' => k _ _ (by simpa using h'))

/-- slices.Clone at []uint16 -/
theorem c91 {s : SlV} {w : World} {H : List HA} {xs : List Int} {K : SlV → World → Prop} (h : St w H) (hs : Sl w 1 (Value.int .u16) s xs) (hb : xs.length ≤ 1099511627776)
    (k : ∀ r w', St w' (SlO 1 (Value.int .u16) r xs :: H) → K r w') : callP P 91 #[s.val] w SlV.val K := sf91_call _ _ _ (by
  refine cond_i (fun e => ?_) (fun e => ?_)
  · have : xs = [] := hs.nil_of (by simpa [negB] using e)
    subst this
    exact k _ _ (SlO.nil h)
  · refine h.nwg fun b1 w1 h1 hg => ?_
    have h2 : St w1 (SlO 1 (Value.int .u16) (SlV.mk (some ⟨b1, 0, none⟩) 0 0) ([] : List Int) :: H) := SlO.of_cells (xs := []) h1 rfl rfl (by simp)
    refine h2.append slT86 (by omega) (hs.grow hg) (by simp; omega) (by rw [maxLen_eq]; simp; omega) fun s' w' h' => k _ _ (by simpa using h'))

/-! ### the order -/
theorem c171 {x : Int} {w : World} {K : Bool → World → Prop} (k : K false w) : callP P 171 #[.int .u16 x] w Value.bool K := sf171_call _ _ _ (by
  show K _ _
  have : (x != x) = false := by simp
  rw [this]
  exact k)
theorem c142 {x y : Int} {w : World} {K : Bool → World → Prop} (k : K (decide (x < y)) w) : callP P 142 #[.int .u16 x, .int .u16 y] w Value.bool K := sf142_call _ _ _ _ (by
  refine c171 ?_
  exact k)

def gt (xs : List Int) (i : Nat) : Int := xs.getD i 0
theorem gt_eq {xs : List Int} {i : Nat} (h : i < xs.length) : xs[i]? = some (gt xs i) := by
  simp [gt, List.getD_eq_getElem?_getD, List.getElem?_eq_getElem h]
theorem gt_set {xs : List Int} {i j : Nat} {v : Int} : gt (xs.set i v) j = if i = j ∧ i < xs.length then v else gt xs j := by
  simp only [gt, List.getD_eq_getElem?_getD, List.getElem?_set]
  by_cases h : i = j
  · subst h
    by_cases h2 : i < xs.length <;> simp [h2]
  · simp [h]

/-- slices.insertionSort at uint16, over all -/
theorem c136 {s : SlV} {w : World} {H H' : List HA} {xs : List Int} {K : Unit → World → Prop} [c : SlIn 1 (Value.int .u16) s H xs H'] (h : St w H) 
    (k : ∀ w' ys, ys.Perm xs → ys.Pairwise (· ≤ ·) → St w' (SlO 1 (Value.int .u16) s ys :: H') → K () w') : callP P 136 #[s.val, .int .i64 0, .int .i64 (xs.length : Int)] w unitV K := sf136_call _ _ _ _ _ (by
  have h := h.fsl (s := s)
  have hmax := h.sl.len_le
  refine loop_i (fun s2 w' => ∃ (i : Nat) (ys : List Int), s2 = (i : Int) ∧ 1 ≤ i ∧ ys.Perm xs ∧ (i ≤ xs.length ∨ i = 1) ∧ (∀ p q, p < q → q < i → q < xs.length → gt ys p ≤ gt ys q) ∧ St w' (SlO 1 (Value.int .u16) s ys :: H')) (fun s2 _ => xs.length + 1 - s2.toNat)
    ⟨1, xs, by rw [wrap_i64 (by omega) (by omega)]; rfl, Nat.le_refl _, .refl _, .inr rfl, fun p q h1 h2 _ => by omega, h⟩ ?_
  rintro g _ w1 ⟨i, ys, rfl, hi1, hp, hil, hsort, h1⟩
  have hyl : ys.length = xs.length := hp.length_eq
  refine cond_i (fun hc => ?_) (fun hc => ?_)
  · have hi : i < xs.length := by simpa using hc
    refine loop_i (fun s4 w' => ∃ (j : Nat) (zs : List Int), s4 = (j : Int) ∧ j ≤ i ∧ zs.Perm xs ∧ (∀ p q, p < q → q ≤ i → q ≠ j → gt zs p ≤ gt zs q) ∧ St w' (SlO 1 (Value.int .u16) s zs :: H')) (fun s4 _ => s4.toNat)
      ⟨i, ys, rfl, Nat.le_refl _, hp, fun p q h1 h2 h3 => hsort p q h1 (by omega) (by omega), h1⟩ ?_
    rintro g2 _ w2 ⟨j, zs, rfl, hj, hpz, hs2, h2⟩
    have hzl : zs.length = xs.length := hpz.length_eq
    have fin : ∀ w', St w' (SlO 1 (Value.int .u16) s zs :: H') → (∀ p q, p < q → q ≤ i → gt zs p ≤ gt zs q) → ∃ (i' : Nat) (ys : List Int), IntKind.i64.wrap ((i : Int) + 1) = (i' : Int) ∧ 1 ≤ i' ∧ ys.Perm xs ∧ (i' ≤ xs.length ∨ i' = 1) ∧ (∀ p q, p < q → q < i' → q < xs.length → gt ys p ≤ gt ys q) ∧ St w' (SlO 1 (Value.int .u16) s ys :: H') :=
      fun w' hw hh => ⟨i + 1, zs, wrap_succ (by omega), by omega, hpz, by omega, fun p q h1 h2 _ => hh p q h1 (by omega), hw⟩
    have meas : xs.length + 1 - (IntKind.i64.wrap ((i : Int) + 1)).toNat < xs.length + 1 - ((i : Nat) : Int).toNat := by
      rw [wrap_succ (by omega)]
      simp only [Int.toNat_natCast]
      omega
    refine cut_i (fun _ w' => St w' (SlO 1 (Value.int .u16) s zs :: H') ∧ 0 < j ∧ gt zs j < gt zs (j - 1)) ?_ ?_
    · refine cond_i (fun hj0 => ?_) (fun hj0 => ?_)
      · have hj0 : 0 < j := by simpa using hj0
        have hjw : IntKind.i64.wrap ((j : Int) - 1) = ((j - 1 : Nat) : Int) := by rw [wrap_i64 (by omega) (by omega)]; omega
        rw [hjw]
        have h3 := h2.drew
        refine h3.sl.atN (gt_eq (by omega)) fun a _ => h3.sl.atN (gt_eq (by omega)) fun a _ => ?_
        refine c142 ?_
        refine cond_i (fun hlt => ⟨h3, hj0, by simpa using hlt⟩) (fun hlt => ⟨fin _ h3 fun p q h1 h2 => ?_, meas⟩)
        have hlt : gt zs (j - 1) ≤ gt zs j := by simpa using hlt
        by_cases hq : q = j
        · subst hq
          by_cases hp1 : p = q - 1
          · subst hp1; exact hlt
          · exact Int.le_trans (hs2 p (q - 1) (by omega) (by omega) (by omega)) hlt
        · exact hs2 p q h1 h2 hq
      · have hj0 : j = 0 := by simpa using hj0
        subst hj0
        exact ⟨fin _ h2.drew fun p q h1 h2 => hs2 p q h1 h2 (by omega), meas⟩
    · rintro g3 _ w3 ⟨h3, hj0, hlt⟩
      have hjw : IntKind.i64.wrap ((j : Int) - 1) = ((j - 1 : Nat) : Int) := by rw [wrap_i64 (by omega) (by omega)]; omega
      rw [hjw]
      have h4 := h3.drew
      refine h4.sl.atN (gt_eq (by omega)) fun a _ => h4.sl.atN (gt_eq (by omega)) fun a _ => ?_
      refine h4.setN (by omega) fun w5 h5 => h5.setN (by simp; omega) fun w6 h6 => ⟨⟨j - 1, _, rfl, by omega, ?_, ?_, h6⟩, ?_⟩
      · have e := @List.set_set_perm Int zs j (j - 1) (by omega) (by omega)
        have e1 : gt zs (j - 1) = zs[j - 1]'(by omega) := by
          have := gt_eq (xs := zs) (i := j - 1) (by omega)
          rw [List.getElem?_eq_getElem (by omega)] at this
          exact (Option.some.inj this).symm
        have e2 : gt zs j = zs[j]'(by omega) := by
          have := gt_eq (xs := zs) (i := j) (by omega)
          rw [List.getElem?_eq_getElem (by omega)] at this
          exact (Option.some.inj this).symm
        rw [e1, e2]
        exact e.trans hpz
      · intro p q hpq hqi hqj
        simp only [gt_set, List.length_set]
        have a1 := hs2 p q hpq hqi
        have a2 := hs2 p (j - 1)
        have a3 := hs2 (j - 1) q
        have a4 := hs2 j q
        repeat' split
        all_goals first | omega | (exfalso; omega) | skip
      · simp only [Int.toNat_natCast]
        omega
  · have hn : xs.length ≤ i := by simpa using hc
    refine k _ ys hp ?_ h1
    rw [List.pairwise_iff_getElem]
    intro p q hp1 hq1 hpq
    have := hsort p q hpq (by omega) (by omega)
    have e1 := gt_eq hp1
    have e2 := gt_eq hq1
    rw [List.getElem?_eq_getElem hp1] at e1
    rw [List.getElem?_eq_getElem hq1] at e2
    rw [Option.some.inj e1, Option.some.inj e2]
    exact this)

/-- bits.Len64, bits.Len: some number -/
theorem c146 {x : Int} {w : World} {K : Int → World → Prop} (h0 : 0 ≤ x) (h1 : x < 18446744073709551616) (k : ∀ r, K r w) : callP P 146 #[.int .u64 x] w (Value.int .i64) K := sf146_call _ _ _ (by
  have in256 : ∀ {y : Int} {n : Nat}, 256 ≤ n → inR (IntKind.u8.wrap y) n = true := fun {y n} hn => inR_i (by rw [wrap_u8]; omega) (by rw [wrap_u8]; omega)
  refine cut_i (fun _ w' => w' = w) (cond_i (fun _ => rfl) (fun _ => rfl)) ?_
  rintro g s2 w1 rfl
  refine cut_i (fun _ w' => w' = w1) (cond_i (fun _ => rfl) (fun _ => rfl)) ?_
  rintro g s4 w2 rfl
  exact cond_i (fun _ => chk_i (in256 (Nat.le_refl 256)) (k _)) (fun _ => chk_i (in256 (Nat.le_refl 256)) (k _)))
theorem c116 {x : Int} {w : World} {K : Int → World → Prop} (h0 : 0 ≤ x) (h1 : x < 18446744073709551616) (k : ∀ r, K r w) : callP P 116 #[.int .u64 x] w (Value.int .i64) K := sf116_call _ _ _ (c146 h0 h1 k)

/-- slices.Sort at uint16, of up to 12 -/
theorem c81 {s : SlV} {w : World} {H H' : List HA} {xs : List Int} {K : Unit → World → Prop} [c : SlIn 1 (Value.int .u16) s H xs H'] (h : St w H) (hn : xs.length ≤ 12)
    (k : ∀ w' ys, ys.Perm xs → ys.Pairwise (· ≤ ·) → St w' (SlO 1 (Value.int .u16) s ys :: H') → K () w') : callP P 81 #[s.val] w unitV K := sf81_call _ _ _ (by
  have h := h.fsl (s := s)
  unfold sf81
  rw [h.sl.len]
  refine c116 (by rw [wrap_u64]; omega) (by rw [wrap_u64]; omega) fun r => ?_
  refine sf115_call _ _ _ _ _ _ ?_
  refine loop_i (fun st w' => st.1 = 0 ∧ st.2.1 = (xs.length : Int) ∧ St w' (SlO 1 (Value.int .u16) s xs :: H')) (fun _ _ => 0) ⟨rfl, rfl, h⟩ ?_
  rintro g ⟨a, b, l, p, q⟩ w1 ⟨ha, hb, h1⟩
  simp only at ha hb
  subst ha hb
  refine cond_t ?_ (c136 h1 fun w' ys hp hs h' => k w' ys hp hs h')
  simp only [decide_eq_true_eq]
  rw [wrap_i64 (by omega) (by omega)]
  omega)

/-! ### octet: the writer -/
def be2 (v : Int) : List Int := [v / 256 % 256, v % 256]
def be4 (v : Int) : List Int := be2 (v / 65536 % 65536) ++ be2 (v % 65536)
def Wr (b : Nat) (bs : List Int) : HA := .ex fun s : SlV => .sep (cellsA b [s.val] 182) (SlO 1 (Value.int .u8) s bs)
theorem Wr.un {w : World} {H : List HA} {b : Nat} {bs : List Int} (h : St w (Wr b bs :: H)) : ∃ s : SlV, St w (cellsA b [s.val] 182 :: SlO 1 (Value.int .u8) s bs :: H) := by
  obtain ⟨s, h⟩ := h.unex
  exact ⟨s, h.unsep⟩
theorem Wr.mk {w : World} {H : List HA} {b : Nat} {bs : List Int} {s : SlV} (h : St w (cellsA b [s.val] 182 :: SlO 1 (Value.int .u8) s bs :: H)) : St w (Wr b bs :: H) := h.mksep.mkex s

theorem c83 {b : Nat} {v : Int} {w : World} {H H' : List HA} {bs : List Int} {K : Unit → World → Prop} [c : AtIn Wr b H bs H'] (h : St w H) (hb : bs.length ≤ 1099511627776)
    (k : ∀ w', St w' (Wr b (bs ++ be2 v) :: H') → K () w') : callP P 83 #[.pointer (some ⟨b, 0, none⟩), .int .u16 v] w unitV K := sf83_call _ _ _ _ (by
  obtain ⟨s, h⟩ := Wr.un (h.front (mk := Wr) (k := b))
  refine h.lda rfl ?_
  refine h.app2 (x := v / 256 % 256) (y := v % 256) slT31 (by omega) ?_ (by omega) (by omega) fun s' w' h' => ?_
  · rw [wrap_u8, wrap_u8, Int.fdiv_eq_ediv_of_nonneg _ (by decide)]
    rfl
  · refine h'.stna rfl rfl (Nat.le_refl _) fun w2 h2 => k _ ?_
    exact Wr.mk h2)
theorem c82 {b : Nat} {v : Int} {w : World} {H H' : List HA} {bs : List Int} {K : Unit → World → Prop} [c : AtIn Wr b H bs H'] (h : St w H) (hb : bs.length ≤ 549755813888)
    (k : ∀ w', St w' (Wr b (bs ++ be4 v) :: H') → K () w') : callP P 82 #[.pointer (some ⟨b, 0, none⟩), .int .u32 v] w unitV K := sf82_call _ _ _ _ (by
  refine c83 h (by omega) fun w1 h1 => ?_
  refine c83 h1 (by simp [be2]; omega) fun w2 h2 => k _ ?_
  have e : ((2 : Int) ^ (min (Int.toNat (16 : Int)) IntKind.u32.bits)) = 65536 := by decide
  rw [wrap_u16, wrap_u16, Int.fdiv_eq_ediv_of_nonneg _ (by decide), e] at h2
  simpa [be4] using h2)
theorem c84 {b : Nat} {w : World} {H H' : List HA} {bs : List Int} {K : SlV → World → Prop} [c : AtIn Wr b H bs H'] (h : St w H) (hb : bs.length ≤ 1099511627776)
    (k : ∀ r w', St w' (SlO 1 (Value.int .u8) r bs :: Wr b bs :: H') → K r w') : callP P 84 #[.pointer (some ⟨b, 0, none⟩)] w SlV.val K := sf84_call _ _ _ (by
  obtain ⟨s, h⟩ := Wr.un (h.front (mk := Wr) (k := b))
  refine h.lda rfl ?_
  refine c52 h h.slIn hb fun r w' h' => k _ _ ?_
  exact (Wr.mk (h'.g1.g2.g1)).g1)

/-! ### octet: the reader -/
def Rd (b : Nat) (x : List Int × Bool) : HA := .ex fun s : SlV => .sep (cellsA b [s.val, .bool x.2] 222) (SlO 1 (Value.int .u8) s x.1)
theorem Rd.un {w : World} {H : List HA} {b : Nat} {x : List Int × Bool} (h : St w (Rd b x :: H)) : ∃ s : SlV, St w (cellsA b [s.val, .bool x.2] 222 :: SlO 1 (Value.int .u8) s x.1 :: H) := by
  obtain ⟨s, h⟩ := h.unex
  exact ⟨s, h.unsep⟩
theorem Rd.mk {w : World} {H : List HA} {b : Nat} {x : List Int × Bool} {s : SlV} (h : St w (cellsA b [s.val, .bool x.2] 222 :: SlO 1 (Value.int .u8) s x.1 :: H)) : St w (Rd b x :: H) := h.mksep.mkex s

theorem c85 {s : SlV} {w : World} {H : List HA} {xs : List Int} {K : Option Addr → World → Prop} (h : St w H) (hs : Sl w 1 (Value.int .u8) s xs) (hb : xs.length ≤ 1099511627776)
    (k : ∀ b w', St w' (Rd b (xs, false) :: H) → K (some ⟨b, 0, none⟩) w') : callP P 85 #[s.val] w Value.pointer K := sf85_call _ _ _ (by
  refine c52 h hs hb fun r w1 h1 => ?_
  exact h1.nw fun b w2 h2 => k _ _ (Rd.mk h2))

def takeR (x : List Int × Bool) (n : Nat) : List Int × List Int × Bool :=
  if x.1.length < n then ([], [], true) else if x.2 then ([], x) else (x.1.take n, x.1.drop n, x.2)
theorem c172 {b n : Nat} {w : World} {H H' : List HA} {x : List Int × Bool} {K : SlV → World → Prop} [c : AtIn Rd b H x H'] (h : St w H) (hb : x.1.length ≤ 1099511627776)
    (k : ∀ r w', St w' (SlO 1 (Value.int .u8) r (takeR x n).1 :: Rd b (takeR x n).2 :: H') → K r w') : callP P 172 #[.pointer (some ⟨b, 0, none⟩), .int .i64 (n : Int)] w SlV.val K := sf172_call _ _ _ _ (by
  obtain ⟨s, h⟩ := Rd.un (h.front (mk := Rd) (k := b))
  have hl : s.len = x.1.length := h.g1.sl.len
  have hc : s.len ≤ s.cap := h.g1.sl.1.2.1
  refine cut_i (fun j w' => j = decide (x.1.length < n) ∧ St w' (cellsA b [s.val, .bool x.2] 222 :: SlO 1 (Value.int .u8) s x.1 :: H')) ?_ ?_
  · refine cond_f (by simp) ?_
    refine h.lda rfl ⟨?_, h⟩
    rw [hl]
    exact decide_eq_decide.2 (by omega)
  · rintro g _ w1 ⟨rfl, h⟩
    refine cond_i (fun hd => ?_) (fun hd => ?_)
    · have e : takeR x n = ([], [], true) := by simp only [takeR]; rw [if_pos (by simpa using hd)]
      rw [e] at k
      refine h.stna rfl rfl (Nat.le_of_ble_eq_true rfl) fun w2 h2 => h2.stna rfl rfl (Nat.le_of_ble_eq_true rfl) fun w3 h3 => k _ _ ?_
      exact (SlO.nil (Rd.mk (x := ([], true)) (SlO.nil h3.g1.drop).g1))
    · have hd : ¬ x.1.length < n := by simpa using hd
      refine h.lda rfl ?_
      refine cond_i (fun hx => ?_) (fun hx => ?_)
      · have e : takeR x n = ([], x) := by simp only [takeR]; rw [if_neg hd, if_pos hx]
        rw [e] at k
        exact k _ _ (SlO.nil (Rd.mk h))
      · have e : takeR x n = (x.1.take n, x.1.drop n, x.2) := by simp only [takeR]; rw [if_neg hd, if_neg (by simp [hx])]
        rw [e] at k
        refine h.lda rfl ?_
        refine chk_i (leR_i (by omega) (by omega)) (chk_i (leR_i (by omega) (by omega)) ?_)
        have hsub := h.g1.sl.sub (l := 0) (m := n) (Nat.zero_le _) (by omega)
        simp only [Int.toNat_natCast]
        refine c52 h (by simpa using hsub) (by simp; omega) fun r w2 h2 => ?_
        refine h2.lda rfl ?_
        refine chk_i (leR_i (by omega) (by omega)) (chk_i (leR_i (by omega) (by omega)) ?_)
        refine h2.stna rfl rfl (Nat.le_of_ble_eq_true rfl) fun w3 h3 => k _ _ ?_
        have h4 := SlO.sub (l := n) (m := s.len) (xs := x.1) h3.g2 (by omega) (by omega)
        rw [hl, List.take_length] at h4
        rw [hl] at h3
        exact (Rd.mk (x := (x.1.drop n, x.2)) (h4.g1)).g1)

theorem or_byte {v x : Int} (hv : 0 ≤ v) (h0 : 0 ≤ x) (h1 : x < 256) : bits .or .u32 (IntKind.u32.wrap (v * 256)) x = v * 256 % 4294967296 + x := by
  rw [wrap_u32, u32_or _ _ (by omega) (by omega) h0 (by omega)]
  have e : (v * 256 % 4294967296).toNat = 2 ^ 8 * (v % 16777216).toNat := by omega
  rw [e, ← Nat.two_pow_add_eq_or_of_lt (by omega)]
  omega
def num (bs : List Int) : Int := bs.foldl (fun v x => v * 256 % 4294967296 + x) 0
theorem num_snoc (bs : List Int) (x : Int) : num (bs ++ [x]) = num bs * 256 % 4294967296 + x := by simp [num]
def Bytes (bs : List Int) : Prop := ∀ x ∈ bs, 0 ≤ x ∧ x < 256
theorem num_range {bs : List Int} (h : Bytes bs) : 0 ≤ num bs ∧ num bs < 4294967296 := by
  have g : ∀ (bs : List Int) (v : Int), Bytes bs → 0 ≤ v → v < 4294967296 → 0 ≤ bs.foldl (fun v x => v * 256 % 4294967296 + x) v ∧ bs.foldl (fun v x => v * 256 % 4294967296 + x) v < 4294967296 := by
    intro bs
    induction bs with
    | nil => intro v _ h0 h1; exact ⟨h0, h1⟩
    | cons x bs ih =>
      intro v hb h0 h1
      have hx := hb x (by simp)
      exact ih _ (fun y hy => hb y (by simp [hy])) (by show 0 ≤ v * 256 % 4294967296 + x; omega) (by show v * 256 % 4294967296 + x < _; omega)
  exact g bs 0 h (by omega) (by omega)
theorem c147 {b n : Nat} {w : World} {H H' : List HA} {x : List Int × Bool} {K : Int → World → Prop} [c : AtIn Rd b H x H'] (h : St w H) (hb : x.1.length ≤ 1099511627776) (hx : Bytes x.1)
    (k : ∀ w', St w' (Rd b (takeR x n).2 :: H') → K (num (takeR x n).1) w') : callP P 147 #[.pointer (some ⟨b, 0, none⟩), .int .i64 (n : Int)] w (Value.int .u32) K := sf147_call _ _ _ _ (by
  refine c172 h hb fun r w1 h1 => ?_
  have hby : Bytes (takeR x n).1 := by
    intro y hy
    unfold takeR at hy
    split at hy
    · simp at hy
    · split at hy
      · simp at hy
      · exact hx y (List.mem_of_mem_take hy)
  generalize takeR x n = t at *
  refine loop_cnt2 (n := t.1.length) (fun i a w' => a = num (t.1.take i) ∧ St w' (SlO 1 (Value.int .u8) r t.1 :: Rd b t.2 :: H')) ⟨by simp [num], h1⟩ ?_ ?_
  · rintro g i a w2 next hi ⟨rfl, h2⟩ hn
    rw [h2.sl.len]
    refine cond_t (lt_true hi) ?_
    rw [← h2.sl.len]
    refine h2.sl.atN (List.getElem?_eq_getElem hi) fun ad _ => ?_
    rw [wrap_succ (h2.sl.len_lt hi)]
    have hb1 := hby _ (List.getElem_mem hi)
    have e : ((2 : Int) ^ (min (Int.toNat (8 : Int)) IntKind.u32.bits)) = 256 := by decide
    have hr := num_range (bs := t.1.take i) fun y hy => hby y (List.mem_of_mem_take hy)
    refine hn _ _ ⟨?_, h2⟩
    rw [e, wrap_u32 (x := t.1[i]), Int.emod_eq_of_lt hb1.1 (by omega), or_byte hr.1 hb1.1 hb1.2, List.take_succ_eq_append_getElem hi, num_snoc]
  · rintro g a w2 next ⟨rfl, h2⟩
    rw [h2.sl.len]
    refine cond_f (lt_false _) ?_
    rw [List.take_length]
    exact k _ h2.drop)
end Go.Vc.SB
