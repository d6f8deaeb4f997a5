/-
  Layer 8: slices, the hash, the seal: contracts.
-/
import Derived.Test.YtobldgdfejpckaaCA8
import Derived.Test.YtobldgdfejpckaaVcSep6
set_option linter.all false
set_option linter.unusedVariables false
set_option maxRecDepth 100000
namespace Go.Vc.SA
open Go.Proofs Go.Vc.Sha

theorem und3 : P.underlying 3 = some (.int .i64) := by kernel_rfl

/-- slices.Clone at []byte -/
theorem c38 {s : SlV} {w : World} {H : List HA} {xs : List Int} {K : SlV → World → Prop} (h : St w H) (hs : Sl w 1 (Value.int .u8) s xs) (hb : xs.length ≤ 1099511627776)
    (k : ∀ r w', St w' (SlO 1 (Value.int .u8) r xs :: H) → K r w') : callP P 38 #[s.val] w SlV.val K := sf38_call _ _ _ (by
  refine cond_i (fun e => ?_) (fun e => ?_)
  · have : xs = [] := hs.nil_of (by simpa [negB] using e)
    subst this
    exact k _ _ (SlO.nil h)
  · refine h.nwg fun b1 w1 h1 hg => ?_
    have h2 : St w1 (SlO 1 (Value.int .u8) (SlV.mk (some ⟨b1, 0, none⟩) 0 0) ([] : List Int) :: H) := SlO.of_cells (xs := []) h1 rfl rfl (by simp)
    refine h2.append slT22 (by omega) (hs.grow hg) (by simp; omega) (by rw [maxLen_eq]; simp; omega) fun s' w' h' => k _ _ (by simpa using h'))
/-- slices.Clone at [][]byte -/
theorem c41 {s : SlV} {w : World} {H : List HA} {xs : List SlV} {K : SlV → World → Prop} (h : St w H) (hs : Sl w 1 SlV.val s xs) (hb : xs.length ≤ 1073741824)
    (k : ∀ r w', St w' (SlO 1 SlV.val r xs :: H) → K r w') : callP P 41 #[s.val] w SlV.val K := sf41_call _ _ _ (by
  refine cond_i (fun e => ?_) (fun e => ?_)
  · have : xs = [] := hs.nil_of (by simpa [negB] using e)
    subst this
    exact k _ _ (SlO.nil h)
  · refine h.nwg fun b1 w1 h1 hg => ?_
    have h2 : St w1 (SlO 1 SlV.val (SlV.mk (some ⟨b1, 0, none⟩) 0 0) ([] : List SlV) :: H) := SlO.of_cells (xs := []) h1 rfl rfl (by simp)
    refine h2.append slT85 (by omega) (hs.grow hg) (by simp; omega) (by rw [maxLen_eq]; simp; omega) fun s' w' h' => k _ _ (by simpa using h'))
/-- mac.Seal$1: a copy, turned -/
theorem c39 {b : Nat} {y : Int} {s : SlV} {w : World} {H H' : List HA} {T : TypeId} {xs : List Int} {K : SlV → World → Prop} [c : CellsIn b H [s.val] T H'] (h : St w H) (hs : Sl w 1 (Value.int .u8) s xs) (hb : xs.length ≤ 1099511627776)
    (k : ∀ r w', St w' (SlO 1 (Value.int .u8) r (xs.map fun x => bits .xor .u8 x y) :: H) → K r w') : callP P 39 #[.int .u8 y, .pointer (some ⟨b, 0, none⟩)] w SlV.val K := sf39_call _ _ _ _ (by
  refine h.ld (b := b) (x := s) rfl ?_
  refine c38 h hs hb fun r w1 h => ?_
  have hl := h.sl.len
  refine loop_cnt (n := xs.length) (fun i w' => St w' (SlO 1 (Value.int .u8) r ((xs.map fun x => bits .xor .u8 x y).take i ++ xs.drop i) :: H)) (by simpa using h) ?_ ?_
  · rintro g i w2 next hi h hn
    have hll : ((xs.map fun x => bits .xor .u8 x y).take i ++ xs.drop i).length = xs.length := by simp; omega
    obtain ⟨x, hx⟩ : ∃ x, xs[i]? = some x := ⟨_, List.getElem?_eq_getElem hi⟩
    rw [hl]
    refine cond_t (lt_true hi) ?_
    rw [← hl]
    refine h.sl.atN (x := x) (by rw [roll_get (by simp) hi, hx]) fun _ _ => ?_
    refine h.setN (s := r) (by omega) fun w3 h => ?_
    rw [wrap_succ (h.sl.len_lt (by simp; omega))]
    refine hn _ ?_
    rw [roll_set (r := bits .xor .u8 x y) (by simp) (by simp [hx])] at h
    exact h
  · rintro g w2 next h
    rw [hl]
    refine cond_f (lt_false _) (k _ _ ?_)
    rw [List.take_of_length_le (by simp), List.drop_of_length_le (Nat.le_refl _), List.append_nil] at h
    exact h)

/-- slices.Grow of nothing -/
theorem c70 {n : Nat} {w : World} {H : List HA} {K : SlV → World → Prop} (h : St w H) (hn : n ≤ 1099511627776) (k : ∀ r w', St w' (SlO 1 (Value.int .u8) r [] :: H) → K r w') :
    callP P 70 #[SlV.nil.val, .int .i64 (n : Int)] w SlV.val K := sf70_call _ _ _ _ (by
  refine cut_i (fun _ w' => w' = w) (cond_f (by simp) rfl) ?_
  rintro g _ w1 rfl
  have e : IntKind.i64.wrap ((n : Int) - IntKind.i64.wrap (((SlV.nil.cap : Nat) : Int) - ((SlV.nil.len : Nat) : Int))) = (n : Int) := by
    show IntKind.i64.wrap ((n : Int) - IntKind.i64.wrap ((0 : Int) - 0)) = _
    rw [show IntKind.i64.wrap ((0 : Int) - 0) = 0 by decide, wrap_i64 (by omega) (by omega)]
    omega
  rw [e]
  refine cond_i (fun _ => ?_) (fun _ => k _ _ (SlO.nil h))
  refine chk_i (by decide) (chk_i (by decide) ?_)
  have h : St w1 (SlO 1 (Value.int .u8) (SlV.sub SlV.nil 0 (Int.toNat (SlV.nil.cap : Int)) SlV.nil.cap 1) [] :: H) := SlO.nil h
  refine h.appMake slT22 slZ22 und3 (by simp; omega) (by simp; omega) fun r w2 h => ?_
  have hr := h.sl.1
  refine chk_i (leR_i (by decide) (by show ((0 : Nat) : Int) ≤ _; omega)) (chk_i (by decide) (k _ _ ?_))
  exact SlO.sub (l := 0) (m := 0) h (Nat.le_refl _) (Nat.zero_le _))

/-- slices.Concat -/
theorem c42 {parts : SlV} {ps : List SlV} {bss : List (List Int)} {w : World} {K : SlV → World → Prop} (hp : Sl w 1 SlV.val parts ps) (hb : Parts w ps bss) (hl : bss.flatten.length ≤ 1099511627776)
    (k : ∀ r w', St w' [SlO 1 (Value.int .u8) r bss.flatten, .old w] → K r w') : callP P 42 #[parts.val] w SlV.val K := sf42_call _ _ _ (by
  have hn : ps.length = bss.length := hb.len
  have step : ∀ i, i < ps.length → ∃ p bs, ps[i]? = some p ∧ bss[i]? = some bs ∧ (bss.take (i + 1)).flatten = (bss.take i).flatten ++ bs ∧ (bss.take (i + 1)).flatten.length ≤ bss.flatten.length := by
    intro i hi
    refine ⟨_, _, List.getElem?_eq_getElem hi, List.getElem?_eq_getElem (by omega), ?_, ?_⟩
    · rw [List.take_succ_eq_append_getElem (by omega), List.flatten_append]
      simp only [List.flatten_cons, List.flatten_nil, List.append_nil]
    · conv => rhs; rw [← List.take_append_drop (i + 1) bss, List.flatten_append, List.length_append]
      omega
  refine loop_cnt2 (n := ps.length) (fun i a w' => w' = w ∧ a = ((bss.take i).flatten.length : Int)) ⟨rfl, by simp⟩ ?_ ?_
  · rintro g i a w1 next hi ⟨rfl, rfl⟩ hn2
    obtain ⟨p, bs, h1, h2, h3, h4⟩ := step i hi
    rw [hp.len]
    refine cond_t (lt_true hi) ?_
    rw [← hp.len]
    refine hp.atN h1 fun _ _ => ?_
    have hpl := (hb.at_ i p bs h1 h2).len
    have e : IntKind.i64.wrap ((((bss.take i).flatten.length : Nat) : Int) + (p.len : Int)) = (((bss.take (i + 1)).flatten.length : Nat) : Int) := by
      rw [h3, List.length_append] at h4 ⊢
      rw [wrap_i64 (by omega) (by omega)]
      omega
    rw [e, wrap_succ (hp.len_lt hi)]
    exact cond_f (by simp) (hn2 _ _ ⟨rfl, rfl⟩)
  rintro g a w1 next ⟨rfl, rfl⟩
  rw [hp.len]
  refine cond_f (lt_false _) ?_
  have et : (bss.take ps.length).flatten = bss.flatten := by rw [hn, List.take_length]
  rw [et]
  refine c70 (St.start w1) (by omega) fun r0 w2 h => ?_
  refine loop_cnt2 (n := ps.length) (fun i r w' => St w' [SlO 1 (Value.int .u8) r (bss.take i).flatten, .old w1]) (by simpa using h) ?_ ?_
  · rintro g i r w3 next hi h hn2
    obtain ⟨p, bs, h1, h2, h3, h4⟩ := step i hi
    refine cond_t (lt_true hi) ?_
    rw [← hp.len]
    refine (hp.old h.g1).atN h1 fun _ _ => ?_
    have hS := (hb.at_ i p bs h1 h2).old h.g1
    rw [h3, List.length_append] at h4
    refine h.append (s := r) slT22 (by omega) hS (by omega) (by rw [maxLen_eq]; omega) fun r2 w4 h => ?_
    rw [wrap_succ (hp.len_lt hi)]
    refine hn2 _ _ ?_
    rw [h3]
    exact h
  · rintro g r w3 next h
    refine cond_f (lt_false _) (k _ _ ?_)
    rw [et] at h
    exact h)

/-- slices.Chunk -/
theorem c43 {s : SlV} {n : Int} {w : World} {H : List HA} {K : FnV → World → Prop} (h : St w H) (hn : 1 ≤ n)
    (k : ∀ b1 b2 w', St w' (cellsA b2 [.int .i64 n] 3 :: cellsA b1 [s.val] 22 :: H) → K ⟨71, #[], #[.pointer (some ⟨b1, 0, none⟩), .pointer (some ⟨b2, 0, none⟩)]⟩ w') : callP P 43 #[s.val, .int .i64 n] w FnV.val K := sf43_call _ _ _ _ (by
  refine h.nw fun b1 w1 h => h.nw fun b2 w2 h => ?_
  refine h.ld (b := b2) (x := n) rfl (cond_f (by simp; omega) ?_)
  exact k b1 b2 _ h)
end Go.Vc.SA
