/-
  shake: the parts of it.
-/
import Derived.Test.YtobldgdfejpckaaCA9i
import Derived.Test.YtobldgdfejpckaaVcSep7
set_option linter.all false
set_option linter.unusedVariables false
set_option maxRecDepth 100000
namespace Go.Vc.SA
open Go.Proofs Go.Vc.Sha

instance : Wide ParamV.val 2 := ⟨fun _ => rfl, fun _ => rfl⟩
instance : Wide NoteV.val 20 := ⟨fun _ => rfl, fun _ => rfl⟩
instance : Wide ChunkV.val 19 := ⟨fun _ => rfl, fun _ => rfl⟩
instance : Wide MetV.val 4 := ⟨fun _ => rfl, fun _ => rfl⟩
theorem slT55 : SlT P 55 2 ParamV.val 32 := slT_of (by kernel_rfl)

/-- a chunk of the handshake, as a value -/
structure CK where
  kind : Int
  bare : Bool := false
  tag : Int := 0
  tsn : Int := 0
  window : Int := 0
  out : Int := 0
  inn : Int := 0
  ps : List (Int × List Int) := []
  body : List Int := []
abbrev mkC (C : CK) (ps body : SlV) : ChunkV := { Kind := C.kind, Begin := false, End := false, Loose := false, Bare := C.bare, Tsn := C.tsn, Stream := 0, Mid := 0, Ppid := 0, Frag := 0, Tag := C.tag, Window := C.window, Out := C.out, In := C.inn, Gaps := SlV.nil, Dups := SlV.nil, Skips := SlV.nil, Params := ps, Body := body }
structure PS (w : World) (pv : List ParamV) (l : List (Int × List Int)) : Prop where
  len : pv.length = l.length
  at_ : ∀ (i : Nat) p x, pv[i]? = some p → l[i]? = some x → p.Kind = x.1 ∧ Sl w 1 (Value.int .u8) p.Value_ x.2
structure Ch (w : World) (C : CK) (ps body : SlV) (pv : List ParamV) : Prop where
  sl : Sl w 2 ParamV.val ps pv
  ps : PS w pv C.ps
  body : Sl w 1 (Value.int .u8) body C.body
theorem PS.nil {w : World} : PS w [] [] := ⟨rfl, by simp⟩
theorem PS.snoc {w : World} {pv : List ParamV} {l : List (Int × List Int)} {p : ParamV} {x : Int × List Int} (h : PS w pv l) (h1 : p.Kind = x.1) (h2 : Sl w 1 (Value.int .u8) p.Value_ x.2) : PS w (pv ++ [p]) (l ++ [x]) := by
  refine ⟨by simp [h.len], fun i q y hq hy => ?_⟩
  rcases Nat.lt_trichotomy i pv.length with hi | hi | hi
  · rw [List.getElem?_append_left hi] at hq
    rw [List.getElem?_append_left (by rw [← h.len]; exact hi)] at hy
    exact h.at_ i q y hq hy
  · subst hi
    rw [List.getElem?_append_right (Nat.le_refl _), Nat.sub_self] at hq
    rw [List.getElem?_append_right (by rw [h.len]; exact Nat.le_refl _), h.len, Nat.sub_self] at hy
    simp at hq hy
    subst hq hy
    exact ⟨h1, h2⟩
  · rw [List.getElem?_eq_none (by simp; omega)] at hq
    cases hq
def find (l : List (Int × List Int)) (k : Int) : Option (List Int) := (l.find? fun x => x.1 == k).map (·.2)
def interC (l : List (Int × List Int)) : Bool := match find l 32776 with | some v => decide (v = [64]) | none => false

/-- a part -/
structure Pt where
  e : EndV
  s : Int
  met : MetV
  echo : List Int
  tries : Int
abbrev ptc (x : Pt) (q : SlV) : List Value := (PartV.val ⟨x.e, x.s, x.met, q, x.tries⟩).cells.toList
def PtA (p : Nat) (x : Pt) : HA := .ex fun q : SlV => .sep (cellsA p (ptc x q) 122) (.keep fun w => Sl w 1 (Value.int .u8) q x.echo)
theorem PtA.un {w : World} {H : List HA} {p : Nat} {x : Pt} (h : St w (PtA p x :: H)) : ∃ q : SlV, St w (cellsA p (ptc x q) 122 :: .keep (fun w => Sl w 1 (Value.int .u8) q x.echo) :: H) := by
  obtain ⟨q, h⟩ := h.unex
  exact ⟨q, h.unsep⟩
theorem PtA.mk {w : World} {H : List HA} {p : Nat} {x : Pt} {q : SlV} (h : St w (cellsA p (ptc x q) 122 :: .keep (fun w => Sl w 1 (Value.int .u8) q x.echo) :: H)) : St w (PtA p x :: H) := h.mksep.mkex q

/-- a note that comes out -/
def NoteA (r : SlV) (t : Int) (C : CK) : HA := .ex fun x : SlV × SlV × List ParamV => .sep (SlO 20 NoteV.val r [⟨t, mkC C x.1 x.2.1⟩]) (.keep fun w => Ch w C x.1 x.2.1 x.2.2)
def OutA (r : SlV) : Option (Int × CK) → HA
  | none => .pure (r = SlV.nil)
  | some x => NoteA r x.1 x.2
theorem OutA.none {w : World} {H : List HA} (h : St w H) : St w (OutA SlV.nil none :: H) := h.mkpure rfl

section
variable {p : Nat} {x : Pt} {q : SlV} {w : World} {H H' : List HA}
theorem c60 {s : Int} {K : Unit → World → Prop} [c : CellsIn p H (ptc x q) 122 H'] (h : St w H) (k : ∀ w', St w' (cellsA p (ptc { x with s := s, tries := 0 } q) 122 :: H') → K () w') :
    callP P 60 #[.pointer (some ⟨p, 0, none⟩), .int .i64 s] w unitV K := sf60_call _ _ _ _ (by
  have h := (c.imp w).st h
  refine h.stna (b := p) rfl rfl (Nat.le_of_ble_eq_true rfl) fun w1 h => ?_
  refine h.stna (b := p) rfl rfl (Nat.le_of_ble_eq_true rfl) fun w2 h => k _ h)
theorem c63 {K : Bool → World → Prop} [c : CellsIn p H (ptc x q) 122 H'] (h : St w H) (k : K (decide (0 < x.s ∧ x.s < 8)) w) :
    callP P 63 #[.pointer (some ⟨p, 0, none⟩)] w Value.bool K := sf63_call _ _ _ (by
  refine h.lda (b := p) (x := x.s) rfl (cond_i (fun e => ?_) (fun e => ?_))
  · refine h.lda (b := p) (x := x.s) rfl ?_
    have e : 0 < x.s := by simpa using e
    have e2 : decide (x.s < 8) = decide (0 < x.s ∧ x.s < 8) := decide_eq_decide.2 ⟨fun h => ⟨e, h⟩, fun h => h.2⟩
    rw [e2]; exact k
  · have e : ¬ 0 < x.s := by simpa using e
    rw [decide_eq_false (fun h => e h.1)] at k
    exact k)
theorem c31 {K : Int → World → Prop} [c : CellsIn p H (ptc x q) 122 H'] (h : St w H) (k : K x.s w) : callP P 31 #[.pointer (some ⟨p, 0, none⟩)] w (Value.int .i64) K := sf31_call _ _ _ (h.lda (b := p) (x := x.s) rfl k)
/-- the note of a chunk -/
theorem c66 {C : CK} {ps body : SlV} {pv : List ParamV} {K : SlV → World → Prop} [c : CellsIn p H (ptc x q) 122 H'] (h : St w (.keep (fun w => Ch w C ps body pv) :: H)) (k : ∀ r w', St w' (NoteA r x.met.Tag C :: H) → K r w') :
    callP P 66 #[.pointer (some ⟨p, 0, none⟩), ChunkV.val (mkC C ps body)] w SlV.val K := sf66_call _ _ _ _ (by
  refine h.nw fun b1 w1 h => ?_
  have h := h.drew
  refine h.ldaa (b := p) (x := x.met.Tag) rfl ?_
  refine h.ldn (b := b1) (x := mkC C ps body) rfl rfl ?_
  refine h.nw fun b4 w2 h => k _ _ ?_
  have h := SlO.of_cells (n := 20) (val := NoteV.val) (xs := [⟨x.met.Tag, mkC C ps body⟩]) (s := ⟨some ⟨b4, 0, none⟩, 1, 1⟩) h rfl rfl (by simp [maxLen_eq])
  exact (h.g1.drop).mksep.mkex (ps, body, pv))
theorem c77 {C : CK} {ps body : SlV} {K : Bool → World → Prop} (h : St w H) (k : ∀ w', St w' H → K (decide (C.tag ≠ 0 ∧ C.out ≠ 0 ∧ C.inn ≠ 0)) w') : callP P 77 #[ChunkV.val (mkC C ps body)] w Value.bool K := sf77_call _ _ _ (by
  refine h.nw fun b1 w1 h => ?_
  refine h.lda (b := b1) (x := C.tag) rfl (cond_i (fun e => ?_) (fun e => ?_))
  · have e : C.tag ≠ 0 := by simpa using e
    refine h.lda (b := b1) (x := C.out) rfl (cond_i (fun e2 => ?_) (fun e2 => ?_))
    · have e2 : C.out ≠ 0 := by simpa using e2
      refine h.lda (b := b1) (x := C.inn) rfl ?_
      have := k _ h.drop
      have e3 : (C.inn != 0) = decide (C.tag ≠ 0 ∧ C.out ≠ 0 ∧ C.inn ≠ 0) := by
        by_cases e4 : C.inn = 0 <;> simp [e, e2, e4]
      rw [e3]; exact this
    · have e2 : C.out = 0 := by simpa using e2
      have := k _ h.drop
      rw [decide_eq_false (fun h => h.2.1 e2)] at this
      exact this
  · have e : C.tag = 0 := by simpa using e
    have := k _ h.drop
    rw [decide_eq_false (fun h => h.1 e)] at this
    exact this)
end

/-- param.Find -/
theorem c79 {ps : SlV} {kind : Int} {pv : List ParamV} {l : List (Int × List Int)} {w : World} {H : List HA} {K : SlV × Bool → World → Prop} (h : St w H) (hp : ∀ w', St w' H → Sl w' 2 ParamV.val ps pv ∧ PS w' pv l) (hl : ∀ x ∈ l, x.2.length ≤ 1048576)
    (k : ∀ r w', St w' (SlO 1 (Value.int .u8) r ((find l kind).getD []) :: H) → K (r, (find l kind).isSome) w') : callP P 79 #[ps.val, .int .u16 kind] w (tup2V SlV.val Value.bool) K := sf79_call _ _ _ _ (by
  have hlen : pv.length = l.length := (hp w h).2.len
  refine loop_cnt (n := pv.length) (fun i w' => St w' H ∧ find l kind = find (l.drop i) kind) ⟨h, by rw [List.drop_zero]⟩ ?_ ?_
  · rintro g i w1 next hi ⟨h, hf⟩ hn
    obtain ⟨hs, hps⟩ := hp w1 h
    rw [hs.len]
    refine cond_t (lt_true hi) ?_
    rw [← hs.len]
    have hi2 : i < l.length := by omega
    obtain ⟨p, hpi⟩ : ∃ p, pv[i]? = some p := ⟨_, List.getElem?_eq_getElem hi⟩
    have hxi : l[i]? = some l[i] := List.getElem?_eq_getElem hi2
    obtain ⟨hk, hv⟩ := hps.at_ i p _ hpi hxi
    have hfd : find (l.drop i) kind = if l[i].1 == kind then some l[i].2 else find (l.drop (i + 1)) kind := by
      unfold find
      rw [List.drop_eq_getElem_cons hi2, List.find?_cons]
      split <;> simp_all
    refine hs.atN hpi fun _ _ => ?_
    refine h.nw fun b5 w2 h => ?_
    have h : St w2 (cellsA b5 [.int .u16 0, SlV.nil.val] 144 :: H) := h
    refine h.stn (b := b5) rfl rfl (Nat.le_of_ble_eq_true rfl) fun w3 h => ?_
    have h : St w3 (cellsA b5 [.int .u16 p.Kind, p.Value_.val] 144 :: H) := h
    refine h.lda (b := b5) (x := p.Kind) rfl (cond_i (fun e => ?_) (fun e => ?_))
    · have e : p.Kind = kind := by simpa using e
      refine h.lda (b := b5) (x := p.Value_) rfl ?_
      have hv3 := ((hp w3 h.drop).2.at_ i p _ hpi hxi).2
      refine c38 h hv3 (by have := hl _ (List.getElem_mem hi2); omega) fun r w4 h => ?_
      have := k r w4 (by
        rw [hf, hfd, if_pos (by rw [← hk, e]; simp)]
        exact h.g1.drop)
      rw [hf, hfd, if_pos (by rw [← hk, e]; simp)] at this
      exact this
    · have e : ¬ p.Kind = kind := by simpa using e
      rw [wrap_succ (hs.len_lt hi)]
      refine hn _ ⟨h.drop, ?_⟩
      rw [hf, hfd, if_neg (by rw [← hk]; simpa using e)]
  · rintro g w1 next ⟨h, hf⟩
    obtain ⟨hs, hps⟩ := hp w1 h
    rw [hs.len]
    refine cond_f (lt_false _) ?_
    rw [List.drop_of_length_le (by omega)] at hf
    have hf : find l kind = none := hf
    have := k SlV.nil w1 (by rw [hf]; exact SlO.nil h)
    rw [hf] at this
    exact this)

/-- slices.Equal of bytes -/
theorem c82 {s t : SlV} {xs ys : List Int} {w : World} {H : List HA} {K : Bool → World → Prop} (h : St w H) (h1 : ∀ w', St w' H → Sl w' 1 (Value.int .u8) s xs) (h2 : ∀ w', St w' H → Sl w' 1 (Value.int .u8) t ys) (k : ∀ w', St w' H → K (decide (xs = ys)) w') :
    callP P 82 #[s.val, t.val] w Value.bool K := sf82_call _ _ _ _ (by
  have hl1 := (h1 w h).len
  have hl2 := (h2 w h).len
  refine cond_i (fun e => ?_) (fun e => ?_)
  · have e : xs.length ≠ ys.length := by intro e3; rw [hl1, hl2, e3] at e; simp at e
    have := k w h
    rw [decide_eq_false (fun h => e (congrArg List.length h))] at this
    exact this
  have e : xs.length = ys.length := by rw [hl1, hl2] at e; simp at e; omega
  refine loop_cnt (n := xs.length) (fun i w' => St w' H ∧ xs.take i = ys.take i) ⟨h, by simp⟩ ?_ ?_
  · rintro g i w1 next hi ⟨h, hf⟩ hn
    have hs := h1 w1 h
    rw [hs.len]
    refine cond_t (lt_true hi) ?_
    rw [← hs.len]
    have h := h.drew
    obtain ⟨a, ha⟩ : ∃ a, xs[i]? = some a := ⟨_, List.getElem?_eq_getElem hi⟩
    obtain ⟨b, hb⟩ : ∃ b, ys[i]? = some b := ⟨_, List.getElem?_eq_getElem (by omega)⟩
    refine (h1 _ h).atN ha fun _ _ => ?_
    refine (h2 _ h).atN hb fun _ _ => ?_
    refine cond_i (fun e2 => ?_) (fun e2 => ?_)
    · have e2 : a ≠ b := by simpa using e2
      have := k _ h
      rw [decide_eq_false (fun h => by subst h; rw [ha] at hb; exact e2 (Option.some.inj hb))] at this
      exact this
    · have e2 : a = b := by simpa using e2
      subst e2
      rw [wrap_succ (hs.len_lt hi)]
      refine hn _ ⟨h, ?_⟩
      rw [take_snoc ha, take_snoc hb, hf]
  · rintro g w1 next ⟨h, hf⟩
    rw [(h1 w1 h).len]
    refine cond_f (lt_false _) ?_
    rw [List.take_length, e, List.take_length] at hf
    have := k w1 h
    rw [decide_eq_true hf] at this
    exact this)
end Go.Vc.SA
