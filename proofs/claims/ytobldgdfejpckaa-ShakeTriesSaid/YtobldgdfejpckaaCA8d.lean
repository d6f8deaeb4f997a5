/-
  Layer 8: Insert, the seal: contracts.
-/
import Derived.Test.YtobldgdfejpckaaCA8c
set_option linter.all false
set_option linter.unusedVariables false
set_option maxRecDepth 100000
namespace Go.Vc.SA
open Go.Proofs Go.Vc.Sha

theorem find68 : Extern.find Try.f68 = some (Extern.SlicesOverlaps.overlaps #[85, 85] #[4]) := by kernel_rfl
theorem und85 : P.underlying 85 = some (.slice 22) := by kernel_rfl
theorem info22 : ∃ i, P.info? 22 = some i ∧ i.size = 1 := by
  obtain ⟨e, i, z, h1, h2, h3, h4, _⟩ := slT85
  rw [und85] at h1
  cases h1
  exact ⟨i, h2, h4⟩
theorem size22 (w : World) : (Go.sizeOf 22).run P w = .ok 1 w := by
  obtain ⟨i, hi, hs⟩ := info22
  simp [Go.sizeOf, typeInfo, hi, hs]
/-- slices.overlaps of two in two blocks -/
theorem c68 {b b' o o' : Nat} {cs cs' : List Value} {T T' : TypeId} {la ca lb cb : Nat} {w : World} {H : List HA} {K : Bool → World → Prop} (h : St w (cellsA b cs T :: cellsA b' cs' T' :: H)) (hne : cs'.length ≠ 0) 
    (k : K false w) : callP P 68 #[.slice (some ⟨b, o, none⟩) la ca, .slice (some ⟨b', o', none⟩) lb cb] w Value.bool K := by
  have hb : b ≠ b' := by
    obtain ⟨F, F1, F2, ⟨_, h1⟩, ⟨F3, F4, ⟨_, h3⟩, _, d2, e2⟩, d, e⟩ := h
    rintro rfl
    exact d b ((h1 b).2 rfl) ((e2 b).2 (.inl ((h3 b).2 rfl)))
  have hA := h.own
  have hB := h.g1.own
  have hs : ∀ (b : Nat) (cs : List Value) (T : TypeId), w.heap[b]? = some (.cells cs.toArray T) → w.shape? b = some (T, cs.length) := fun b cs T h => by simp [World.shape?, h]
  have hf : ∀ o, w.frozen? ⟨b, o, none⟩ = false := fun o => froz_of_cells h o
  refine ⟨.inr ⟨false, w, ?_, k⟩⟩
  have := Lib.run_overlaps_apart (P := P) w 85 4 22 und85 1 size22 ⟨b, o, none⟩ ⟨b', o', none⟩ la ca lb cb hb T T' cs.length cs'.length (hs _ _ _ hA) (hs _ _ _ hB) hne (hf _) (hf _)
  rw [run_callFunc_extern (P := P) Try.func68 (by kernel_rfl) (by kernel_rfl) (by kernel_rfl) find68, this]
  rfl

theorem put2 {cs vs : List Value} {u : Value} {off : Nat} (h : off + 1 + vs.length ≤ cs.length) : ((putL (putL cs off [u]) (off + 1) vs).drop off).take (vs.length + 1) = u :: vs := by
  apply List.ext_getElem?
  intro j
  rw [List.getElem?_take]
  split
  · rename_i hj
    rw [List.getElem?_drop]
    cases j with
    | zero =>
      rw [putL_get _ _ _ _ (.inl (by omega)), putL_in [u] cs off 0 (by simp; omega) (by simp)]
      rfl
    | succ j =>
      rw [show off + (j + 1) = off + 1 + j by omega, putL_in vs _ (off + 1) j (by rw [putL_length]; omega) (by omega)]
      simp
  · rw [List.getElem?_eq_none (by simp; omega)]
theorem put3 {cs vs : List Value} {u : Value} {off : Nat} (h : off + 1 + vs.length ≤ cs.length) : ((putL (putL cs (off + 1) vs) off [u]).drop off).take (vs.length + 1) = u :: vs := by
  apply List.ext_getElem?
  intro j
  rw [List.getElem?_take]
  split
  · rename_i hj
    rw [List.getElem?_drop]
    cases j with
    | zero =>
      rw [putL_in [u] _ off 0 (by rw [putL_length]; simp; omega) (by simp)]
      rfl
    | succ j =>
      rw [putL_get _ _ _ _ (.inr (by simp <;> omega)), show off + (j + 1) = off + 1 + j by omega, putL_in vs _ (off + 1) j (by omega) (by omega)]
      simp
  · rw [List.getElem?_eq_none (by simp; omega)]
/-- slices.Insert of one, ahead of all -/
theorem c40 {s : SlV} {bv : Nat} {y : SlV} {ps : List SlV} {w : World} {H : List HA} {T : TypeId} {K : SlV → World → Prop} (h : St w (SlO 1 SlV.val s ps :: cellsA bv [y.val] T :: H)) (hl : ps.length ≤ 1073741824)
    (k : ∀ r w', St w' (SlO 1 SlV.val r (y :: ps) :: H) → K r w') : callP P 40 #[s.val, .int .i64 0, (SlV.mk (some ⟨bv, 0, none⟩) 1 1).val] w SlV.val K := sf40_call _ _ _ _ _ (by
  have hs := h.sl
  have hlen := hs.1.1
  have hcap := hs.1.2.1
  have hcm := hs.1.2.2
  rw [maxLen_eq] at hcm
  have hv : Sl w 1 SlV.val ⟨some ⟨bv, 0, none⟩, 1, 1⟩ [y] := Sl.over (o := 0) h.g1 rfl (Nat.le_refl _) (by rw [maxLen_eq]; omega) (by simp) rfl
  refine chk_i (leR_i (by omega) (by omega)) (chk_i (leR_i (by omega) (by omega)) (cond_f rfl (cond_i (fun e => ?_) (fun e => ?_))))
  · have h0 : ps = [] := List.eq_nil_of_length_eq_zero (by simp at e; omega)
    subst h0
    refine h.append (s := s) slT85 (by omega) hv (by simp) (by rw [maxLen_eq]; simp) fun r w1 h => k _ _ ?_
    rw [List.nil_append] at h
    exact h.re
  · have hpos : 0 < s.len := by simp at e; omega
    have e1 : IntKind.i64.wrap ((s.len : Int) + (((SlV.mk (some (⟨bv, 0, none⟩ : Addr)) 1 1).len : Nat) : Int)) = ((s.len + 1 : Nat) : Int) := by
      show IntKind.i64.wrap ((s.len : Int) + ((1 : Nat) : Int)) = _
      rw [wrap_i64 (by omega) (by omega)]; omega
    have e2 : IntKind.i64.wrap ((0 : Int) + (((SlV.mk (some (⟨bv, 0, none⟩ : Addr)) 1 1).len : Nat) : Int)) = ((1 : Nat) : Int) := by
      show IntKind.i64.wrap ((0 : Int) + ((1 : Nat) : Int)) = _
      decide
    have e3 : IntKind.i64.wrap (((s.len + 1 : Nat) : Int) - 0) = ((s.len + 1 : Nat) : Int) := by rw [wrap_i64 (by omega) (by omega)]; omega
    rw [e1, e2, e3]
    simp only [Int.toNat_natCast]
    refine cond_i (fun eg => ?_) (fun eg => ?_)
    · have hg : s.cap < s.len + 1 := by simp at eg; omega
      refine chk_i (leR_i (by omega) (by omega)) (chk_i (leR_i (by omega) (by omega)) ?_)
      have h0 : Sl w 1 SlV.val (SlV.sub s 0 (Int.toNat 0) s.cap 1) [] := Sl.sub (l := 0) (m := 0) hs (Nat.le_refl _) (Nat.zero_le _)
      refine h.appMakeG h0 slT85 slZ85 und3 (by simp; omega) (by simp; omega) (by show s.cap - 0 < 0 + (s.len + 1); omega) fun r w1 h hk => ?_
      rw [List.nil_append] at h
      have hr := h.sl.1
      simp only [SlN, List.length_replicate] at hr
      refine chk_i (leR_i (by omega) (by omega)) (chk_i (leR_i (by omega) (by omega)) ?_)
      obtain ⟨br, off, cs, Tr, ha, hrow, h⟩ := SlO.opn h (by omega)
      have hcs := hrow.1
      have er0 : SlV.sub r (Int.toNat 0) r.len r.cap 1 = ⟨some ⟨br, off, none⟩, r.len, r.cap⟩ := by
        simp only [SlV.sub, ha]
        congr 1
        split
        · rfl
        · rfl
      rw [er0]
      refine St.copy (o := off) (dl := r.len) (dc := r.cap) h slT85 (by omega) (by omega) (hv.grow hk) fun w2 h => ?_
      refine chk_i (leR_i (by omega) (by omega)) (chk_i (leR_i (by omega) (by omega)) (chk_i (leR_i (by omega) (by omega)) (chk_i (leR_i (by omega) (by omega)) ?_)))
      have h := h.drew
      have er1 : SlV.sub r 1 r.len r.cap 1 = ⟨some ⟨br, off + 1, none⟩, r.len - 1, r.cap - 1⟩ := by
        simp only [SlV.sub, ha]
        congr 1
        rw [if_neg (by omega)]
        show some ((⟨br, off, none⟩ : Addr).add (1 * 1)) = _
        rw [add_lit]
      rw [er1]
      have hs2 : Sl w2.drew 1 SlV.val (SlV.sub s (Int.toNat 0) s.len s.cap 1) ((ps.take s.len).drop 0) := Sl.sub (l := 0) (m := s.len) (h.slIn (s := s)) (by omega) (by omega)
      have eps : (ps.take s.len).drop 0 = ps := by rw [List.drop_zero, hlen, List.take_length]
      rw [eps] at hs2
      refine St.copy (o := off + 1) (dl := r.len - 1) (dc := r.cap - 1) h slT85 (by rw [putL_length]; omega) (by omega) hs2 fun w3 h => k _ _ ?_
      refine St.re (H := SlO 1 SlV.val r (y :: ps) :: SlO 1 SlV.val s ps :: cellsA bv [y.val] T :: H) (SlO.cls (off := off) h ⟨by simp; omega, by omega, hr.2.2⟩ ha ⟨by rw [putL_length, putL_length]; exact hcs, ?_⟩)
      have t1 : ps.take (r.len - 1) = ps := List.take_of_length_le (by omega)
      have t2 : [y].take r.len = [y] := List.take_of_length_le (by simp; omega)
      rw [t1, t2, Nat.mul_one]
      have hfl : (flat SlV.val ps).length = ps.length := by rw [flat_length (n := 1)]; omega
      have hf1 : flat SlV.val [y] = [y.val] := rfl
      rw [hf1]
      have := put2 (cs := cs) (vs := flat SlV.val ps) (u := y.val) (off := off) (by omega)
      rw [hfl] at this
      rw [show r.len = ps.length + 1 by omega, this]
      rfl
    · have hg : s.len + 1 ≤ s.cap := by simp at eg; omega
      obtain ⟨b, off, cs, Ts, ha, hrow, h⟩ := SlO.opn h (by omega)
      have hcs := hrow.1
      have hflat := hrow.2
      rw [Nat.mul_one] at hflat hcs
      have hfl : (flat SlV.val ps).length = ps.length := by rw [flat_length (n := 1)]; omega
      have es : SlV.sub s 0 (s.len + 1) s.cap 1 = ⟨some ⟨b, off, none⟩, s.len + 1, s.cap⟩ := by
        simp only [SlV.sub, ha]
        congr 1
        split
        · rfl
        · rfl
      have es1 : ∀ c, c ≠ 1 → SlV.sub ⟨some ⟨b, off, none⟩, s.len + 1, s.cap⟩ 1 (s.len + 1) c 1 = ⟨some ⟨b, off + 1, none⟩, s.len, c - 1⟩ := by
        intro c hc
        simp only [SlV.sub]
        rw [if_neg hc]
        show (SlV.mk (some ((⟨b, off, none⟩ : Addr).add (1 * 1))) (s.len + 1 - 1) (c - 1)) = _
        rw [add_lit]; rfl
      have es0 : SlV.sub ⟨some ⟨b, off, none⟩, s.len + 1, s.cap⟩ (Int.toNat 0) (s.len + 1) s.cap 1 = ⟨some ⟨b, off, none⟩, s.len + 1, s.cap⟩ := by
        simp only [SlV.sub]
        congr 1
        split
        · rfl
        · rfl
      rw [es]
      simp only
      rw [es1 s.cap (by omega), es0]
      refine chk_i (leR_i (by omega) (by omega)) (chk_i (leR_i (by omega) (by omega)) (chk_i (leR_i (by omega) (by omega)) (chk_i (leR_i (by omega) (by omega)) ?_)))
      refine c68 h.g1 (by omega) (cond_t rfl ?_)
      refine chk_i (leR_i (by omega) (by omega)) (chk_i (leR_i (by omega) (by omega)) (chk_i (leR_i (by omega) (by omega)) (chk_i (leR_i (by omega) (by omega)) ?_)))
      have h := h.drew
      refine St.copyC (o := off + 1) (dl := s.len) (vs := flat SlV.val ps) h slT85 (by omega) (by rw [hfl]; omega) (fun j v hj => ?_) (flat_ones (n := 1) ps) fun w1 h => ?_
      · rw [add_lit, cell_of_cells h, ← hj, ← hflat, List.getElem?_take_of_lt (by have := (List.getElem?_eq_some_iff.1 hj).1; omega), List.getElem?_drop]
      refine chk_i (leR_i (by omega) (by omega)) (chk_i (leR_i (by omega) (by omega)) ?_)
      have hv1 : Sl w1 1 SlV.val ⟨some ⟨bv, 0, none⟩, 1, 1⟩ [y] := Sl.over (o := 0) h.g1 rfl (Nat.le_refl _) (by rw [maxLen_eq]; omega) (by simp) rfl
      refine St.copy (o := off) (dl := s.len + 1) (dc := s.cap) h slT85 (by rw [putL_length]; omega) (by omega) hv1 fun w2 h => k _ _ ?_
      refine St.re (H := SlO 1 SlV.val ⟨some ⟨b, off, none⟩, s.len + 1, s.cap⟩ (y :: ps) :: cellsA bv [y.val] T :: H) (SlO.cls (off := off) h ⟨by simp; omega, by show s.len + 1 ≤ s.cap; omega, hs.1.2.2⟩ rfl ⟨by rw [putL_length, putL_length, Nat.mul_one]; exact hcs, ?_⟩)
      have t2 : [y].take (s.len + 1) = [y] := List.take_of_length_le (by simp)
      have hf1 : flat SlV.val [y] = [y.val] := rfl
      show List.take ((s.len + 1) * 1) _ = _
      rw [t2, Nat.mul_one, hf1]
      have := put3 (cs := cs) (vs := flat SlV.val ps) (u := y.val) (off := off) (by omega)
      rw [hfl] at this
      rw [hlen, this]
      rfl)
end Go.Vc.SA
