/-
  What the functions of layer 18 (reset) do: contracts.
-/
import Derived.Test.YtbcmfajacbpaiaaC18
set_option linter.all false
set_option linter.unusedVariables false
set_option maxRecDepth 100000
namespace Go.Vc.SB
open Go.Proofs

theorem c117 {b : Nat} {w : World} {H H' : List HA} {x : List Int × Bool} {K : Int → World → Prop} [c : AtIn Rd b H x H'] (h : St w H) (hb : x.1.length ≤ 1099511627776) (hx : Bytes x.1)
    (k : ∀ w', St w' (Rd b (takeR x 4).2 :: H') → K (num (takeR x 4).1) w') : callP P 117 #[.pointer (some ⟨b, 0, none⟩)] w (Value.int .u32) K :=
  sf117_call _ _ _ (c147 (n := 4) h hb hx k)
theorem c119 {b : Nat} {w : World} {H H' : List HA} {x : List Int × Bool} {K : Int → World → Prop} [c : AtIn Rd b H x H'] (h : St w H) (hb : x.1.length ≤ 1099511627776) (hx : Bytes x.1)
    (k : ∀ w', St w' (Rd b (takeR x 2).2 :: H') → K (num (takeR x 2).1 % 65536) w') : callP P 119 #[.pointer (some ⟨b, 0, none⟩)] w (Value.int .u16) K :=
  sf119_call _ _ _ (c147 (n := 2) h hb hx fun w' h' => by rw [wrap_u16]; exact k w' h')
theorem c118 {b : Nat} {w : World} {H H' : List HA} {x : List Int × Bool} {K : Int → World → Prop} [c : AtIn Rd b H x H'] (h : St w H)
    (k : K (x.1.length : Int) w) : callP P 118 #[.pointer (some ⟨b, 0, none⟩)] w (Value.int .i64) K := sf118_call _ _ _ (by
  obtain ⟨s, h⟩ := Rd.un (h.front (mk := Rd) (k := b))
  refine h.lda rfl ?_
  rw [h.g1.sl.len]
  exact k)
theorem c120 {b : Nat} {w : World} {H H' : List HA} {x : List Int × Bool} {K : Bool → World → Prop} [c : AtIn Rd b H x H'] (h : St w H)
    (k : K (!x.2) w) : callP P 120 #[.pointer (some ⟨b, 0, none⟩)] w Value.bool K := sf120_call _ _ _ (by
  obtain ⟨s, h⟩ := Rd.un (h.front (mk := Rd) (k := b))
  exact h.lda rfl k)
theorem c122 {b : Nat} {w : World} {H H' : List HA} {x : List Int × Bool} {K : Int → World → Prop} [c : AtIn Rd b H x H'] (h : St w H)
    (k : K (if x.2 then 40 else if x.1 = [] then 0 else 41) w) : callP P 122 #[.pointer (some ⟨b, 0, none⟩)] w (Value.int .i64) K := sf122_call _ _ _ (by
  obtain ⟨s, h⟩ := Rd.un (h.front (mk := Rd) (k := b))
  refine h.lda rfl (cond_i (fun hx => ?_) (fun hx => ?_))
  · rw [if_pos hx] at k; exact k
  · rw [if_neg (by simp [hx])] at k
    refine h.lda rfl ?_
    rw [h.g1.sl.len]
    refine cond_i (fun hl => ?_) (fun hl => ?_)
    · rw [if_neg (by intro e; simp [e] at hl)] at k; exact k
    · rw [if_pos (List.eq_nil_of_length_eq_zero (by simpa using hl))] at k; exact k)

/-! ### an answer -/
def Pm (b : Nat) (x : Int × List Int) : HA := .ex fun s : SlV => .sep (cellsA b [.int .u16 x.1, s.val] 83) (SlO 1 (Value.int .u8) s x.2)
theorem Pm.un {w : World} {H : List HA} {b : Nat} {x : Int × List Int} (h : St w (Pm b x :: H)) : ∃ s : SlV, St w (cellsA b [.int .u16 x.1, s.val] 83 :: SlO 1 (Value.int .u8) s x.2 :: H) := by
  obtain ⟨s, h⟩ := h.unex
  exact ⟨s, h.unsep⟩
theorem Pm.mk {w : World} {H : List HA} {b : Nat} {x : Int × List Int} {s : SlV} (h : St w (cellsA b [.int .u16 x.1, s.val] 83 :: SlO 1 (Value.int .u8) s x.2 :: H)) : St w (Pm b x :: H) := h.mksep.mkex s
theorem c121 {n r : Int} {w : World} {H : List HA} {K : Option Addr → World → Prop} (h : St w H)
    (k : ∀ b w', St w' (Pm b (16, be4 n ++ be4 r) :: H) → K (some ⟨b, 0, none⟩) w') : callP P 121 #[.int .u32 n, .int .u32 r] w Value.pointer K := sf121_call _ _ _ _ (by
  refine h.nw fun b1 w1 h1 => ?_
  have h2 : St w1 (Wr b1 [] :: H) := Wr.mk (s := SlV.nil) (SlO.nil h1).g1
  refine c82 h2 (by simp) fun w2 h2 => c82 h2 (by simp [be4, be2]) fun w3 h3 => ?_
  refine c84 h3 (by simp [be4, be2]) fun r4 w4 h4 => ?_
  exact h4.g1.drop.nw fun b5 w5 h5 => k _ _ (Pm.mk (x := (16, _)) h5))

/-! ### the engine -/
structure ES where
  mine : Int
  theirs : Int
  wanted : List Int
  open_ : List Int
  request : List Int
def En (b : Nat) (x : ES) : HA := .ex fun s : SlV × SlV × SlV => .sep (cellsA b [.int .u32 x.mine, .int .u32 x.theirs, s.1.val, s.2.1.val, s.2.2.val] 178)
  (.sep (SlO 1 (Value.int .u16) s.1 x.wanted) (.sep (SlO 1 (Value.int .u16) s.2.1 x.open_) (SlO 1 (Value.int .u8) s.2.2 x.request)))
theorem En.un {w : World} {H : List HA} {b : Nat} {x : ES} (h : St w (En b x :: H)) : ∃ wa op rq : SlV, St w (cellsA b [.int .u32 x.mine, .int .u32 x.theirs, wa.val, op.val, rq.val] 178 :: SlO 1 (Value.int .u16) wa x.wanted :: SlO 1 (Value.int .u16) op x.open_ :: SlO 1 (Value.int .u8) rq x.request :: H) := by
  obtain ⟨⟨wa, op, rq⟩, h⟩ := h.unex
  exact ⟨wa, op, rq, h.unsep.g1.unsep.g1.unsep.g2.g3⟩
theorem En.pk {w : World} {b : Nat} {x : ES} {H : List HA} {wa op rq : SlV} (h : St w (cellsA b [.int .u32 x.mine, .int .u32 x.theirs, wa.val, op.val, rq.val] 178 :: SlO 1 (Value.int .u16) wa x.wanted :: SlO 1 (Value.int .u16) op x.open_ :: SlO 1 (Value.int .u8) rq x.request :: H)) : St w (En b x :: H) :=
  (h.g3.g3.mksep.g2.mksep.g1.mksep).mkex (wa, op, rq)

theorem c35 {m t : Int} {w : World} {H : List HA} {K : Option Addr → World → Prop} (h : St w H)
    (k : ∀ b w', St w' (En b ⟨m, t, [], [], []⟩ :: H) → K (some ⟨b, 0, none⟩) w') : callP P 35 #[.int .u32 m, .int .u32 t] w Value.pointer K := sf35_call _ _ _ _ (by
  refine h.nw fun b w1 h1 => k _ _ ?_
  have h2 := SlO.nil (val := Value.int .u16) (n := 1) (SlO.nil (val := Value.int .u16) (n := 1) (SlO.nil (val := Value.int .u8) (n := 1) h1))
  have hP := St.pull4 b SlV.nil SlV.nil SlV.nil h2
  exact En.pk (x := ⟨m, t, [], [], []⟩) hP)

theorem c46 {b : Nat} {w : World} {H H' : List HA} {x : ES} {K : SlV → World → Prop} [c : AtIn En b H x H'] (h : St w H) (hb : x.wanted.length ≤ 1099511627776)
    (k : ∀ r w', St w' (SlO 1 (Value.int .u16) r x.wanted :: En b x :: H') → K r w') : callP P 46 #[.pointer (some ⟨b, 0, none⟩)] w SlV.val K := sf46_call _ _ _ (by
  obtain ⟨wa, op, rq, h⟩ := En.un (h.front (mk := En) (k := b))
  refine h.lda rfl ?_
  refine c91 h h.g1.sl hb fun r w1 h1 => k _ _ ?_
  have hP := St.pull4 b wa op rq h1
  exact (En.pk (x := x) hP).g1)

theorem c48 {b : Nat} {s : Int} {w : World} {H H' : List HA} {x : ES} {K : Bool → World → Prop} [c : AtIn En b H x H'] (h : St w H)
    (k : K (decide (s ∈ x.wanted ∨ s ∈ x.open_)) w) : callP P 48 #[.pointer (some ⟨b, 0, none⟩), .int .u16 s] w Value.bool K := sf48_call _ _ _ _ (by
  obtain ⟨wa, op, rq, h⟩ := En.un (h.front (mk := En) (k := b))
  refine h.lda rfl (c80 h.g1.sl (cond_i (fun h1 => ?_) (fun h1 => ?_)))
  · have e : decide (s ∈ x.wanted ∨ s ∈ x.open_) = true := by simp at h1; simp [h1]
    rw [e] at k; exact k
  · refine h.lda rfl (c80 h.g2.sl ?_)
    have e : decide (s ∈ x.wanted ∨ s ∈ x.open_) = decide (s ∈ x.open_) := by simp at h1; simp [h1]
    rw [e] at k; exact k)

/-- what is wanted, before it is sorted -/
def want1 (x : ES) (l : List Int) (s : Int) : List Int := if s ∈ l ∨ s ∈ x.open_ then l else l ++ [s]
theorem want1_len (x : ES) (l : List Int) (s : Int) : (want1 x l s).length ≤ l.length + 1 := by
  unfold want1; split <;> simp
theorem want_len (x : ES) : ∀ (ss l : List Int), (ss.foldl (want1 x) l).length ≤ l.length + ss.length
  | [], l => by simp
  | s :: ss, l => by
    have h1 := want_len x ss (want1 x l s)
    have h2 := want1_len x l s
    simp only [List.foldl_cons, List.length_cons]
    omega
/-- Want, of up to 12 in all -/
theorem c36 {b : Nat} {s : SlV} {ss : List Int} {w : World} {H H' H'' : List HA} {x : ES} {K : Unit → World → Prop} [c : AtIn En b H x H'] [c2 : SlIn 1 (Value.int .u16) s H' ss H''] (h : St w H)
    (hl : x.wanted.length + ss.length ≤ 12)
    (k : ∀ w' ys, ys.Perm (ss.foldl (want1 x) x.wanted) → ys.Pairwise (· ≤ ·) → St w' (En b { x with wanted := ys } :: SlO 1 (Value.int .u16) s ss :: H'') → K () w') :
    callP P 36 #[.pointer (some ⟨b, 0, none⟩), s.val] w unitV K := sf36_call _ _ _ _ (by
  have h := (c2.imp w).cons.st (h.front (mk := En) (k := b))
  refine loop_cnt (n := ss.length) (fun i w' => St w' (En b { x with wanted := (ss.take i).foldl (want1 x) x.wanted } :: SlO 1 (Value.int .u16) s ss :: H'')) (by simpa using h) ?_ ?_
  · rintro g i w1 next hi h1 hn
    have hlen := want_len x (ss.take i) x.wanted
    have htk : (ss.take i).length = i := by simp; omega
    rw [List.take_succ_eq_append_getElem hi] at hn
    simp only [List.foldl_append, List.foldl_cons, List.foldl_nil] at hn
    generalize (ss.take i).foldl (want1 x) x.wanted = l at *
    rw [h1.g1.sl.len]
    refine cond_t (lt_true hi) ?_
    rw [← h1.g1.sl.len]
    refine h1.g1.sl.atN (List.getElem?_eq_getElem hi) fun ad _ => ?_
    rw [wrap_succ (h1.g1.sl.len_lt hi)]
    generalize ss[i] = v at *
    refine cut_i (fun j w' => j = decide (¬ (v ∈ l ∨ v ∈ x.open_)) ∧ St w' (En b { x with wanted := l } :: SlO 1 (Value.int .u16) s ss :: H'')) ?_ ?_
    · obtain ⟨wa, op, rq, h2⟩ := En.un h1
      have back := h1
      refine h2.lda rfl (c80 h2.g1.sl (cond_i (fun e => ?_) (fun e => ?_)))
      · refine h2.lda rfl (c80 h2.g2.sl ⟨?_, back⟩)
        simp at e
        simp [e]
      · refine ⟨?_, back⟩
        simp at e
        simp [e]
    · rintro g2 j w2 ⟨rfl, h2⟩
      refine cond_i (fun e => ?_) (fun e => ?_)
      · have e : ¬ (v ∈ l ∨ v ∈ x.open_) := by simpa using e
        obtain ⟨wa, op, rq, h3⟩ := En.un h2
        refine h3.lda rfl ?_
        refine h3.app1 (s := wa) (x := v) slT86 (by omega) rfl (by simp only; omega) (by simp only; omega) fun s' w3 h4 => ?_
        refine h4.stna rfl rfl (Nat.le_of_ble_eq_true rfl) fun w4 h5 => hn _ ?_
        rw [want1, if_neg e]
        have hP := St.pull4 b s' op rq h5
        exact En.pk (x := { x with wanted := l ++ [v] }) hP
      · have e : (v ∈ l ∨ v ∈ x.open_) := Decidable.of_not_not (of_decide_eq_false e)
        refine hn _ ?_
        rw [want1, if_pos e]
        exact h2
  · rintro g w1 next h1
    have hlen := want_len x ss x.wanted
    rw [List.take_length] at h1
    rw [h1.g1.sl.len]
    refine cond_f (lt_false _) ?_
    obtain ⟨wa, op, rq, h2⟩ := En.un h1
    refine h2.lda rfl ?_
    refine c81 (s := wa) h2 (by show (ss.foldl (want1 x) x.wanted).length ≤ 12; omega) fun w3 ys hp hs h3 => k _ ys hp hs ?_
    have hP := St.pull4 b wa op rq h3
    exact En.pk (x := { x with wanted := ys }) hP)

/-- Again -/
theorem c38 {b : Nat} {w : World} {H H' : List HA} {x : ES} {K : ParamV × Bool → World → Prop} [c : AtIn En b H x H'] (h : St w H) (hb : x.request.length ≤ 1099511627776)
    (k0 : x.open_ = [] → ∀ w', St w' (En b x :: H') → K (⟨0, SlV.nil⟩, false) w')
    (k1 : x.open_ ≠ [] → ∀ v w', St w' (SlO 1 (Value.int .u8) v x.request :: En b x :: H') → K (⟨13, v⟩, true) w') :
    callP P 38 #[.pointer (some ⟨b, 0, none⟩)] w (tup2V ParamV.val Value.bool) K := sf38_call _ _ _ (by
  obtain ⟨wa, op, rq, h⟩ := En.un (h.front (mk := En) (k := b))
  refine h.nw fun b1 w1 h => ?_
  refine h.lda rfl ?_
  rw [h.g3.sl.len]
  refine cond_i (fun e => ?_) (fun e => ?_)
  · have e : x.open_ = [] := List.eq_nil_of_length_eq_zero (by simpa using e)
    refine h.stn rfl rfl (Nat.le_of_ble_eq_true rfl) fun w2 h => ?_
    refine h.ldn (x := ⟨0, SlV.nil⟩) rfl rfl (k0 e _ ?_)
    have hP := St.pull4 b wa op rq (h.drop)
    exact En.pk (x := x) hP
  · have e : x.open_ ≠ [] := by intro e2; simp [e2] at e
    refine h.lda rfl ?_
    refine c52 h h.g4.sl hb fun r w2 h => ?_
    refine h.stn (b := b1) rfl rfl (Nat.le_of_ble_eq_true rfl) fun w3 h => ?_
    refine h.ldn (x := ⟨13, r⟩) rfl rfl (k1 e _ _ ?_)
    have hP := St.pull4 b wa op rq (h.drop)
    exact (En.pk (x := x) hP).g1)

/-- Open a request -/
abbrev openL (x : ES) (dr : List Int) : List Int := x.wanted.filter fun s => decide (s ∈ dr)
abbrev leftL (x : ES) (dr : List Int) : List Int := x.wanted.filter fun s => !decide (s ∈ dr)
def be2s (l : List Int) : List Int := (l.map be2).flatten
def askB (m t last : Int) (l : List Int) : List Int := be4 m ++ be4 ((t - 1) % 4294967296) ++ be4 last ++ be2s l
theorem be2s_len (l : List Int) : (be2s l).length = 2 * l.length := by
  induction l with
  | nil => rfl
  | cons a l ih => simp only [be2s, List.map_cons, List.flatten_cons, List.length_append] at *; rw [ih]; simp [be2]; omega
theorem askB_len (m t last : Int) (l : List Int) : (askB m t last l).length = 12 + 2 * l.length := by
  simp [askB, be2s_len, be4, be2]; omega
theorem c37 {b : Nat} {last : Int} {s : SlV} {dr : List Int} {w : World} {H H' H'' : List HA} {x : ES} {K : ParamV × Bool → World → Prop} [c : AtIn En b H x H'] [c2 : SlIn 1 (Value.int .u16) s H' dr H''] (h : St w H)
    (hw : x.wanted.length ≤ 1073741824)
    (k0 : x.open_ ≠ [] → ∀ w', St w' (En b x :: SlO 1 (Value.int .u16) s dr :: H'') → K (⟨0, SlV.nil⟩, false) w')
    (k1 : x.open_ = [] → openL x dr = [] → ∀ w', St w' (En b { x with wanted := leftL x dr } :: SlO 1 (Value.int .u16) s dr :: H'') → K (⟨0, SlV.nil⟩, false) w')
    (k2 : x.open_ = [] → openL x dr ≠ [] → ∀ v w', St w' (SlO 1 (Value.int .u8) v (askB x.mine x.theirs last (openL x dr)) :: En b ⟨x.mine, x.theirs, leftL x dr, openL x dr, askB x.mine x.theirs last (openL x dr)⟩ :: SlO 1 (Value.int .u16) s dr :: H'') → K (⟨13, v⟩, true) w') :
    callP P 37 #[.pointer (some ⟨b, 0, none⟩), .int .u32 last, s.val] w (tup2V ParamV.val Value.bool) K := sf37_call _ _ _ _ _ (by
  have h := (c2.imp w).cons.st (h.front (mk := En) (k := b))
  have h := h
  refine h.nw fun b1 w1 h => ?_
  obtain ⟨wa, op, rq, h⟩ := En.un h.g1
  have h := h.g4
  refine h.lda rfl ?_
  rw [h.g3.sl.len]
  refine cond_i (fun e => ?_) (fun e => ?_)
  · have e : x.open_ ≠ [] := by intro e2; simp [e2] at e
    refine h.stn rfl rfl (Nat.le_of_ble_eq_true rfl) fun w2 h => ?_
    refine h.ldn (x := ⟨0, SlV.nil⟩) rfl rfl (k0 e _ ?_)
    have hP := St.pull4 b wa op rq (h.drop)
    exact En.pk (x := x) hP
  · have e : x.open_ = [] := List.eq_nil_of_length_eq_zero (by simpa using e)
    refine h.nw fun b4 w3 h => ?_
    have h : St w3 (Wr b4 [] :: _) := Wr.mk (s := SlV.nil) (SlO.nil h).g1
    refine h.lda rfl ?_
    refine c82 h (by simp) fun w4 h => ?_
    refine h.lda rfl ?_
    refine c82 h (by simp [be4, be2]) fun w5 h => ?_
    refine c82 h (by simp [be4, be2]) fun w6 h => ?_
    refine h.lda rfl ?_
    rw [wrap_u32] at h
    simp only [List.nil_append] at h
    refine loop_cnt2 (n := x.wanted.length) (fun i l w' => ∃ op' : SlV, St w' (SlO 1 (Value.int .u16) l ((x.wanted.take i).filter fun s => !decide (s ∈ dr)) :: SlO 1 (Value.int .u16) op' ((x.wanted.take i).filter fun s => decide (s ∈ dr)) ::
        Wr b4 (askB x.mine x.theirs last ((x.wanted.take i).filter fun s => decide (s ∈ dr))) ::
        cellsA b [.int .u32 x.mine, .int .u32 x.theirs, wa.val, op'.val, rq.val] 178 :: SlO 1 (Value.int .u16) wa x.wanted :: SlO 1 (Value.int .u8) rq x.request :: cellsA b1 [.int .u16 0, SlV.nil.val] 83 :: SlO 1 (Value.int .u16) s dr :: H'')) ⟨op, ?_⟩ ?_ ?_
    · have h : St w6 (Wr b4 (askB x.mine x.theirs last []) :: cellsA b1 [.int .u16 0, SlV.nil.val] 83 :: cellsA b [.int .u32 x.mine, .int .u32 x.theirs, wa.val, op.val, rq.val] 178 :: SlO 1 (Value.int .u16) wa x.wanted ::
          SlO 1 (Value.int .u16) op x.open_ :: SlO 1 (Value.int .u8) rq x.request :: SlO 1 (Value.int .u16) s dr :: H'') := by
        have e0 : askB x.mine x.theirs last [] = be4 x.mine ++ be4 ((x.theirs - 1) % 4294967296) ++ be4 last := by simp [askB, be2s]
        rw [e0]
        exact h
      rw [e] at h
      rw [List.take_zero, List.filter_nil, List.filter_nil]
      exact (SlO.nil (val := Value.int .u16) (n := 1) h).re
    · rintro g i l w7 next hi ⟨op', h⟩ hn
      have hfl := List.length_filter_le (fun s => decide (s ∈ dr)) (x.wanted.take i)
      have hfl2 := List.length_filter_le (fun s => !decide (s ∈ dr)) (x.wanted.take i)
      have htk : (x.wanted.take i).length = i := by simp; omega
      rw [List.take_succ_eq_append_getElem hi] at hn
      simp only [List.filter_append, List.filter_cons, List.filter_nil] at hn
      rw [h.g4.sl.len]
      refine cond_t (lt_true hi) ?_
      rw [← h.g4.sl.len]
      refine h.g4.sl.atN (List.getElem?_eq_getElem hi) fun ad _ => ?_
      rw [wrap_succ (h.g4.sl.len_lt hi)]
      generalize x.wanted[i] = v at *
      refine c80 h.g7.sl (cond_i (fun hd => ?_) (fun hd => ?_))
      · have hd : v ∈ dr := by simpa using hd
        simp only [hd, decide_true, Bool.not_true, if_true, if_false, Bool.false_eq_true, List.append_nil] at hn
        refine h.lda rfl ?_
        refine h.app1 (s := op') (x := v) slT86 (by omega) rfl (by omega) (by omega) fun s' w8 h => ?_
        refine h.stna (b := b) rfl rfl (Nat.le_of_ble_eq_true rfl) fun w9 h => ?_
        refine c83 h (by rw [askB_len]; omega) fun w10 h => hn _ _ ⟨s', ?_⟩
        change St w10 (Wr b4 _ :: cellsA b [.int .u32 x.mine, .int .u32 x.theirs, wa.val, s'.val, rq.val] 178 :: _) at h
        have e : askB x.mine x.theirs last ((x.wanted.take i).filter (fun s => decide (s ∈ dr)) ++ [v]) = askB x.mine x.theirs last ((x.wanted.take i).filter (fun s => decide (s ∈ dr))) ++ be2 v := by simp [askB, be2s]
        rw [e]
        exact h.re
      · have hd : ¬ v ∈ dr := by simpa using hd
        simp only [hd, decide_false, Bool.not_false, if_true, if_false, Bool.false_eq_true, List.append_nil] at hn
        refine h.app1 (s := l) (x := v) slT86 (by omega) rfl (by omega) (by omega) fun s' w8 h => hn _ _ ⟨op', h.re⟩
    · rintro g l w7 next ⟨op', h⟩
      rw [List.take_length] at h
      rw [h.g4.sl.len]
      refine cond_f (lt_false _) ?_
      refine h.stna (b := b) rfl rfl (Nat.le_of_ble_eq_true rfl) fun w8 h => ?_
      refine h.lda rfl ?_
      rw [h.g2.sl.len]
      refine cond_i (fun hz => ?_) (fun hz => ?_)
      · have hz : openL x dr = [] := List.eq_nil_of_length_eq_zero (by simpa [openL] using hz)
        refine h.stn (b := b1) rfl rfl (Nat.le_of_ble_eq_true rfl) fun w9 h => ?_
        refine h.ldn (x := ⟨0, SlV.nil⟩) rfl rfl (k1 e hz _ ?_)
        have hP := St.pull4 b l op' rq h
        rw [show (x.wanted.filter fun s => decide (s ∈ dr)) = x.open_ from hz.trans e.symm] at hP
        have h := En.pk (x := { x with wanted := leftL x dr }) hP
        exact h.re
      · have hz : openL x dr ≠ [] := by intro e2; simp [openL] at e2 hz; exact absurd e2 (by simpa using hz)
        have hol : (openL x dr).length ≤ x.wanted.length := List.length_filter_le _ _
        refine c84 h (by rw [askB_len]; show 12 + 2 * (openL x dr).length ≤ _; omega) fun r w9 h => ?_
        refine h.stna (b := b) rfl rfl (Nat.le_of_ble_eq_true rfl) fun w10 h => ?_
        have hP := St.pull4 b l op' r h
        have h := En.pk (x := ⟨x.mine, x.theirs, leftL x dr, openL x dr, askB x.mine x.theirs last (openL x dr)⟩) hP
        refine c38 h (by rw [askB_len]; show 12 + 2 * (openL x dr).length ≤ _; omega) (fun e => absurd e hz) fun _ v w11 h => ?_
        refine h.stn (b := b1) rfl rfl (Nat.le_of_ble_eq_true rfl) fun w12 h => ?_
        refine h.ldn (x := ⟨13, v⟩) rfl rfl (k2 e hz _ _ ?_)
        exact h.re)
end Go.Vc.SB
