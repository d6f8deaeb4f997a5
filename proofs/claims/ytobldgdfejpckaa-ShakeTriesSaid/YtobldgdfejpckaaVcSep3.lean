/-
  Keyed assertions, counted loops, small numbers. No program in sight.
-/
import Derived.Test.YtobldgdfejpckaaVcSep2
set_option linter.all false
set_option linter.unusedVariables false
namespace Go.Vc

class AtIn {ι X : Type} (mk : ι → X → HA) (k : ι) (H : List HA) (x : outParam X) (H' : outParam (List HA)) : Prop where
  imp : ∀ w, Imp w H (mk k x :: H')
instance (priority := 2000) AtIn.head {ι X : Type} {mk : ι → X → HA} {k : ι} {x : X} {H} : AtIn mk k (mk k x :: H) x H := ⟨fun _ => Imp.refl⟩
instance (priority := 100) AtIn.tail {ι X : Type} {mk : ι → X → HA} {k : ι} {x : X} {A H H'} [c : AtIn mk k H x H'] : AtIn mk k (A :: H) x (A :: H') := ⟨fun w => (Imp.cons (c.imp w)).trans Imp.swap⟩

section
variable {w : World} {H H' : List HA}
theorem St.front {ι X : Type} {mk : ι → X → HA} {k : ι} {x : X} (h : St w H) [c : AtIn mk k H x H'] : St w (mk k x :: H') := (c.imp w).st h
theorem St.fcells {b : Nat} {cs T} (h : St w H) [c : CellsIn b H cs T H'] : St w (cellsA b cs T :: H') := (c.imp w).st h
theorem St.fsl {α : Type} {n : Nat} {val : α → Value} {s : SlV} {xs : List α} (h : St w H) [c : SlIn n val s H xs H'] : St w (SlO n val s xs :: H') := (c.imp w).st h
end

/-- the same in another order; what is not asked for is dropped -/
class Fnd (A : HA) (H : List HA) (H' : outParam (List HA)) : Prop where
  imp : ∀ w, Imp w H (A :: H')
instance (priority := 2000) Fnd.head {A H} : Fnd A (A :: H) H := ⟨fun _ => Imp.refl⟩
instance (priority := 100) Fnd.tail {A B H H'} [c : Fnd A H H'] : Fnd A (B :: H) (B :: H') := ⟨fun w => (Imp.cons (c.imp w)).trans Imp.swap⟩
class Reord (H G : List HA) : Prop where
  imp : ∀ w, Imp w H G
instance (priority := 2000) Reord.refl {H} : Reord H H := ⟨fun _ => Imp.refl⟩
instance (priority := 1000) Reord.cons {A H H' G} [c : Fnd A H H'] [d : Reord H' G] : Reord H (A :: G) := ⟨fun w => (c.imp w).trans (Imp.cons (d.imp w))⟩
theorem Imp.dropH {w : World} {A : HA} {H : List HA} : Imp w (A :: H) H := by
  rintro F ⟨F1, F2, hA, hH, d1, e1⟩
  exact ⟨F2, hH, fun b hb => (e1 b).2 (.inr hb)⟩
instance (priority := 10) Reord.drop {B H G} [d : Reord H G] : Reord (B :: H) G := ⟨fun w => Imp.dropH.trans (d.imp w)⟩
theorem St.re {w : World} {H G : List HA} (h : St w H) [c : Reord H G] : St w G := (c.imp w).st h

theorem St.pull4 {α1 α2 α3 : Type} {n1 n2 n3 : Nat} {v1 : α1 → Value} {v2 : α2 → Value} {v3 : α3 → Value} {x1 : List α1} {x2 : List α2} {x3 : List α3} {w : World} {H H1 H2 H3 H4 : List HA} {cs : List Value} {T : TypeId} (b : Nat) (s1 s2 s3 : SlV)
    [c0 : CellsIn b H cs T H1] [c1 : SlIn n1 v1 s1 H1 x1 H2] [c2 : SlIn n2 v2 s2 H2 x2 H3] [c3 : SlIn n3 v3 s3 H3 x3 H4] (h : St w H) :
    St w (cellsA b cs T :: SlO n1 v1 s1 x1 :: SlO n2 v2 s2 x2 :: SlO n3 v3 s3 x3 :: H4) :=
  ((c0.imp w).trans (((c1.imp w).trans (((c2.imp w).trans ((c3.imp w).cons)).cons)).cons)).st h

/-! ### numbers -/
theorem wrap_i64 {x : Int} (h0 : -9223372036854775808 ≤ x) (h1 : x ≤ 9223372036854775807) : IntKind.i64.wrap x = x := by
  simp only [IntKind.wrap, IntKind.bits, IntKind.signed, Bool.true_and, decide_eq_true_eq, ge_iff_le]
  split <;> omega
theorem wrap_u64 {x : Int} : IntKind.u64.wrap x = x % 18446744073709551616 := by
  simp [IntKind.wrap, IntKind.bits, IntKind.signed]
theorem wrap_u32 {x : Int} : IntKind.u32.wrap x = x % 4294967296 := by
  simp [IntKind.wrap, IntKind.bits, IntKind.signed]
theorem wrap_u16 {x : Int} : IntKind.u16.wrap x = x % 65536 := by
  simp [IntKind.wrap, IntKind.bits, IntKind.signed]
theorem wrap_u8 {x : Int} : IntKind.u8.wrap x = x % 256 := by
  simp [IntKind.wrap, IntKind.bits, IntKind.signed]
theorem wrap_succ {i : Nat} (h : i < 9223372036854775807) : IntKind.i64.wrap ((i : Int) + 1) = ((i + 1 : Nat) : Int) := by
  rw [wrap_i64 (by omega) (by omega)]
  omega
theorem maxLen_eq : maxLen = 9223372036854775807 := rfl

/-! ### loops that count -/
theorem loop_cnt {n : Nat} {w0 : World} {B : (Int → World → Prop) → (Nat → Value) → Int → World → Prop} (I : Nat → World → Prop) (h0 : I 0 w0)
    (step : ∀ g i w next, i < n → I i w → (∀ w', I (i + 1) w' → next ((i + 1 : Nat) : Int) w') → B next g (i : Int) w) (done : ∀ g w next, I n w → B next g (n : Int) w) : loopP Int 0 w0 B := by
  refine loop_i (fun s w => ∃ i : Nat, s = (i : Int) ∧ i ≤ n ∧ I i w) (fun s _ => n - s.toNat) ⟨0, rfl, Nat.zero_le _, h0⟩ ?_
  rintro g s w ⟨i, rfl, hi, h⟩
  by_cases hn : i < n
  · refine step g i w _ hn h fun w' h' => ⟨⟨i + 1, rfl, hn, h'⟩, ?_⟩
    simp only [Int.toNat_natCast]
    omega
  · have : i = n := by omega
    subst this
    exact done g w _ h
theorem loop_cnt2 {α : Type} {n : Nat} {a0 : α} {w0 : World} {B : (α × Int → World → Prop) → (Nat → Value) → α × Int → World → Prop} (I : Nat → α → World → Prop) (h0 : I 0 a0 w0)
    (step : ∀ g i a w next, i < n → I i a w → (∀ a' w', I (i + 1) a' w' → next (a', ((i + 1 : Nat) : Int)) w') → B next g (a, (i : Int)) w) (done : ∀ g a w next, I n a w → B next g (a, (n : Int)) w) : loopP (α × Int) (a0, 0) w0 B := by
  refine loop_i (fun s w => ∃ i : Nat, s.2 = (i : Int) ∧ i ≤ n ∧ I i s.1 w) (fun s _ => n - s.2.toNat) ⟨0, rfl, Nat.zero_le _, h0⟩ ?_
  rintro g ⟨a, s⟩ w ⟨i, rfl, hi, h⟩
  by_cases hn : i < n
  · refine step g i a w _ hn h fun a' w' h' => ⟨⟨i + 1, rfl, hn, h'⟩, ?_⟩
    simp only [Int.toNat_natCast]
    omega
  · have : i = n := by omega
    subst this
    exact done g a w _ h
theorem lt_true {i n : Nat} (h : i < n) : decide ((i : Int) < (n : Int)) = true := by simp [h]
theorem lt_false (n : Nat) : decide ((n : Int) < (n : Int)) = false := by simp

section
variable {α : Type} {val : α → Value} {n : Nat} {s : SlV} {xs : List α} {w w' : World} {H H' : List HA}
theorem Sl.atN [hw : Wide val n] {i : Nat} {x : α} {K : Addr → α → Prop} (h : Sl w n val s xs) (hx : xs[i]? = some x) (k : ∀ a, s.a = some a → K a x) :
    chkP (inR (i : Int) s.len) (nilP s.a fun a => loadP w (a.add (Int.toNat (i : Int) * n)) n val (K a)) :=
  h.at (by omega) (by simpa using hx) k
theorem Sl.len_lt (h : Sl w n val s xs) {i : Nat} (hi : i < xs.length) : i < 9223372036854775807 := by
  have h1 := h.1.1; have h2 := h.1.2.1; have h3 := h.1.2.2
  rw [maxLen_eq] at h3
  omega
theorem Sl.len_le (h : Sl w n val s xs) : xs.length ≤ 9223372036854775807 := by
  have h1 := h.1.1; have h2 := h.1.2.1; have h3 := h.1.2.2
  rw [maxLen_eq] at h3
  omega
/-- s[l:h], read -/
theorem Sl.sub {l m : Nat} (h : Sl w n val s xs) (hl : l ≤ m) (hm : m ≤ xs.length) [hw : Wide val n] : Sl w n val (s.sub l m s.cap n) ((xs.take m).drop l) := by
  obtain ⟨⟨h1, h2, h3⟩, hF⟩ := h
  refine ⟨⟨?_, ?_, ?_⟩, ?_⟩
  · simp [SlV.sub]; omega
  · simp [SlV.sub]; omega
  · simp [SlV.sub]; omega
  · rcases hF with e2 | ⟨b, off, cs, T, fz, e1, ⟨e2, e2'⟩, e3⟩
    · exact .inl (by simp [SlV.sub, e2])
    · by_cases hc : s.cap = l
      · refine .inr ⟨b, off, cs, T, fz, by simp [SlV.sub, e1, hc], ⟨?_, ?_⟩, e3⟩
        · simp only [SlV.sub]
          rw [hc, Nat.sub_self]
          omega
        · have : m = l := by omega
          subst this
          simp [SlV.sub, flat]
      · refine .inr ⟨b, off + l * n, cs, T, fz, by simp [SlV.sub, e1, hc, add_lit], ⟨?_, ?_⟩, e3⟩
        · simp only [SlV.sub]
          have : l * n + (s.cap - l) * n = s.cap * n := by rw [← Nat.add_mul]; congr 1; omega
          omega
        · simp only [SlV.sub]
          rw [← flat_drop (h := hw), ← flat_take (h := hw), ← e2', List.take_take, List.drop_take, List.drop_drop]
          congr 1
          rw [Nat.min_eq_left (show m * n ≤ s.len * n from Nat.mul_le_mul_right _ (by omega)), Nat.sub_mul]
/-- s[i] = y -/
theorem St.setN {i : Nat} {y : α} {K : World → Prop} [hw : Wide val n] [c : SlIn n val s H xs H'] (h : St w H) (hi : i < xs.length)
    (k : ∀ w', St w' (SlO n val s (xs.set i y) :: H') → K w') : chkP (inR (i : Int) s.len) (nilP s.a fun a => storeP w (a.add (Int.toNat (i : Int) * n)) n (val y) K) := by
  have h := h.fsl (s := s)
  have hs := h.sl
  have hl := hs.1.1
  have hcap := hs.1.2.1
  refine chk_i (inR_i (by omega) (by omega)) ?_
  rcases h.slO.2 with ⟨_, hc⟩ | ⟨b, off, cs, T, ha, hr, hh⟩
  · omega
  rw [ha]
  show storeP _ _ _ _ _
  rw [add_lit, Int.toNat_natCast]
  have hvl : (val y).cells.toList.length = n := by rw [Array.length_toList, hw.size]
  have hin : i * n + n ≤ s.len * n := by rw [← Nat.succ_mul]; exact Nat.mul_le_mul_right _ (by omega)
  have hin2 : s.len * n ≤ s.cap * n := Nat.mul_le_mul_right _ hcap
  have hcs := hr.1
  refine ⟨⟨hw.size y, hw.ones y, fun j hj => ?_⟩, k _ ?_⟩
  · rw [add_lit]
    simp only [World.cell?, World.frozen?, hh]
    refine ⟨?_, by simp⟩
    simp
    omega
  · have hp := puts_heap (off + i * n) (val y).cells.toList 0 w cs hh
    have hrow : Rows n val s (xs.set i y) (putL cs (off + i * n) (val y).cells.toList) off := by
      refine ⟨by rw [putL_length]; exact hcs, ?_⟩
      rw [putL_eq _ _ _ (by omega), List.drop_append_of_le_length (by simp; omega), List.drop_take, show off + i * n - off = i * n by omega, hvl]
      have e1 : flat val (xs.set i y) = flat val (xs.take i) ++ ((val y).cells.toList ++ flat val (xs.drop (i + 1))) := by
        rw [List.set_eq_take_append_cons_drop, if_pos hi, flat_append, flat_cons]
      rw [e1, ← flat_take (h := hw), ← flat_drop (h := hw), ← hr.2, List.take_take, Nat.min_eq_left (by omega), List.drop_take, List.drop_drop]
      rw [List.take_append, List.take_append]
      rw [List.take_of_length_le (by simp; omega)]
      congr 1
      have e2 : (List.take (i * n) (List.drop off cs)).length = i * n := by simp; omega
      rw [e2, hvl, List.take_of_length_le (by omega)]
      congr 1
      rw [show off + i * n + n = off + (i + 1) * n by rw [Nat.succ_mul]; omega, Nat.succ_mul]
      congr 1
      omega
    refine h.turn (.puts _ _ _ _) fun F hF => ⟨F, ⟨⟨by simp [hl], hcap, hs.1.2.2⟩, .inr ⟨b, off, _, T, ha, hrow, by simpa using hp.1, ?_⟩⟩, fun _ h => .inl h, fun c hc hF' => ?_⟩
    · rcases hF.2 with ⟨e1, _⟩ | ⟨b1, off1, cs1, T1, e1, _, e3, e4⟩
      · rw [e1] at ha; cases ha
      · rw [e1] at ha
        cases ha
        exact e4
    · rcases hF.2 with ⟨e1, _⟩ | ⟨b1, off1, cs1, T1, e1, _, e3, e4⟩
      · rw [e1] at ha; cases ha
      · rw [e1] at ha
        cases ha
        exact hp.2 c fun e => hF' ((e4 c).2 e)
/-- A slice over a whole block, as it was laid. -/
theorem Sl.lit {b : Nat} {cs : List Value} {T : TypeId} (h : St w (cellsA b cs T :: H)) (hl : cs = flat val xs) [hw : Wide val n] (hm : xs.length ≤ maxLen) : Sl w n val ⟨some ⟨b, 0, none⟩, xs.length, xs.length⟩ xs :=
  (SlO.of_cells (n := n) (val := val) h rfl hl hm).sl

/-- append(s, y): one element, laid in a block of its own. -/
theorem St.app1 {P : Program} {t ty T' : TypeId} {bytes : Nat} {cs : Array Value} {x : α} {K : SlV → World → Prop} [hw : Wide val n] [c : SlIn n val s H xs H'] (h : St w H) (ht : SlT P t n val bytes) (hn : 0 < n)
    (hc : cs = (val x).cells) (hb : (xs.length + 1) * bytes ≤ 140737488355328) (hm : xs.length < 4611686018427387904)
    (k : ∀ s' w', St w' (SlO n val s' (xs ++ [x]) :: H') → K s' w') :
    newP w (.cells cs T') fun b w1 => runP P (Builtin.append_ #[t, t] ty #[s.val, (SlV.mk (some (⟨b, 0, none⟩ : Addr)) 1 1).val]) w1 SlV.val K := by
  refine h.nw fun b w1 h1 => ?_
  have hy : Sl w1 n val (SlV.mk (some (⟨b, 0, none⟩ : Addr)) 1 1) [x] := Sl.lit (xs := [x]) h1 (by rw [hc]; simp [flat]) (by rw [maxLen_eq]; simp)
  have h2 := h1.fsl (s := s)
  refine h2.append ht hn hy hb (by rw [maxLen_eq]; simp; omega) fun s' w' h' => k s' w' ?_
  exact h'.g1.drop
theorem St.app2 {P : Program} {t ty T' : TypeId} {bytes : Nat} {cs : Array Value} {x y : α} {K : SlV → World → Prop} [hw : Wide val n] [c : SlIn n val s H xs H'] (h : St w H) (ht : SlT P t n val bytes) (hn : 0 < n)
    (hc : cs.toList = (val x).cells.toList ++ (val y).cells.toList) (hb : (xs.length + 2) * bytes ≤ 140737488355328) (hm : xs.length < 4611686018427387904)
    (k : ∀ s' w', St w' (SlO n val s' (xs ++ [x, y]) :: H') → K s' w') :
    newP w (.cells cs T') fun b w1 => runP P (Builtin.append_ #[t, t] ty #[s.val, (SlV.mk (some (⟨b, 0, none⟩ : Addr)) 2 2).val]) w1 SlV.val K := by
  refine h.nw fun b w1 h1 => ?_
  have hy : Sl w1 n val (SlV.mk (some (⟨b, 0, none⟩ : Addr)) 2 2) [x, y] := Sl.lit (xs := [x, y]) h1 (by rw [hc]; simp [flat]) (by rw [maxLen_eq]; simp)
  have h2 := h1.fsl (s := s)
  refine h2.append ht hn hy hb (by rw [maxLen_eq]; simp; omega) fun s' w' h' => k s' w' ?_
  exact h'.g1.drop
end
end Go.Vc
