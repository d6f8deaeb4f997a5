/-
  Arrays of integers; copy; append of noughts; rounds of a range over a function; what a call leaves as it was. No program in sight.
-/
import Derived.Test.YtobldgdfejpckaaVcSep4
import Derived.Lib.Overlaps
import Derived.Laws.IdiomCopy
import Derived.Deep.AppendSrc
set_option linter.all false
set_option linter.unusedVariables false
set_option linter.unusedSimpArgs false
namespace Go.Vc

section
variable {w w' : World} {H H' : List HA} {A : HA}
theorem Imp.old (h : St w H) : Imp w' [.old w] H := by
  obtain ⟨FH, hFH⟩ := h
  rintro F ⟨F1, F2, ⟨o1, o2, o3⟩, _, _, e⟩
  exact ⟨FH, (sepL H).st w w' FH o3 hFH fun b hb => o1 b ((sepL H).lt w FH hFH b hb), fun b hb => (e b).2 (.inl ((o2 b).2 ((sepL H).lt w FH hFH b hb)))⟩
theorem Imp.app {G : List HA} (k : Imp w H H') : ∀ (L : List HA), Imp w (L ++ H) (L ++ H')
  | [] => k
  | A :: L => Imp.cons (Imp.app (G := G) k L)
/-- What was there is as it was: what held before holds. -/
theorem St.thaw (h : St w H) (L : List HA) (h' : St w' (L ++ [.old w])) : St w' (L ++ H) := (Imp.app (G := H) (Imp.old h) L).st h'
theorem St.thaw0 (h : St w H) (h' : St w' [.old w]) : St w' H := St.thaw h [] h'
theorem St.thaw1 (h : St w H) (h' : St w' [A, .old w]) : St w' (A :: H) := St.thaw h [A] h'
end

/-! ### several slices of bytes -/
structure Parts (w : World) (ps : List SlV) (bss : List (List Int)) : Prop where
  len : ps.length = bss.length
  at_ : ∀ (i : Nat) (p : SlV) (bs : List Int), ps[i]? = some p → bss[i]? = some bs → Sl w 1 (Value.int .u8) p bs
section
variable {w w' : World} {H : List HA} {ps : List SlV} {bss : List (List Int)}
theorem Parts.grow (h : Parts w ps bss) (e : ∀ b, b < w.heap.size → w'.heap[b]? = w.heap[b]?) : Parts w' ps bss := ⟨h.len, fun i p bs h1 h2 => (h.at_ i p bs h1 h2).grow e⟩
theorem Parts.old (h : Parts w ps bss) (h' : St w' (.old w :: H)) : Parts w' ps bss := h.grow fun _ hb => h'.old hb
theorem Parts.nil : Parts w [] [] := ⟨rfl, by simp⟩
theorem Parts.cons {p : SlV} {bs : List Int} (hp : Sl w 1 (Value.int .u8) p bs) (h : Parts w ps bss) : Parts w (p :: ps) (bs :: bss) :=
  ⟨by simp [h.len], fun i q cs h1 h2 => by
    cases i with
    | zero => simp at h1 h2; subst h1 h2; exact hp
    | succ i => exact h.at_ i q cs (by simpa using h1) (by simpa using h2)⟩
theorem Parts.two {p q : SlV} {a b : List Int} (hp : Sl w 1 (Value.int .u8) p a) (hq : Sl w 1 (Value.int .u8) q b) : Parts w [p, q] [a, b] := .cons hp (.cons hq .nil)
end

/-! ### arrays of integers -/
abbrev arrI (k : IntKind) (xs : List Int) : List Value := xs.map (Value.int k)
theorem flat_int (k : IntKind) (xs : List Int) : flat (Value.int k) xs = arrI k xs := by
  unfold flat
  induction xs with
  | nil => rfl
  | cons x l ih => simp only [List.map_cons, List.flatten_cons, ih]; rfl
section
variable {w : World} {H H' : List HA} {b : Nat} {T : TypeId} {k : IntKind} {xs : List Int}
theorem putL_all (vs : List Value) (cs : List Value) (h : cs.length = vs.length) : putL cs 0 vs = vs := by
  rw [putL_eq _ _ _ (by omega), List.take_zero, List.nil_append, Nat.zero_add, List.drop_of_length_le (by omega), List.append_nil]
theorem arrI_ones (k : IntKind) (xs : List Int) : ∀ u ∈ arrI k xs, u.oneCell' = true := by
  intro u hu
  obtain ⟨x, _, rfl⟩ := List.mem_map.1 hu
  rfl
theorem St.nwA {K : Nat → World → Prop} (h : St w H) (kk : ∀ b w', St w' (cellsA b (arrI k xs) T :: H) → K b w') : newP w (.cells ((arrV k) xs).cells T) K := h.nw kk
theorem St.nwAg {K : Nat → World → Prop} (h : St w H) (kk : ∀ b w', St w' (cellsA b (arrI k xs) T :: H) → (∀ c, c < w.heap.size → w'.heap[c]? = w.heap[c]?) → K b w') : newP w (.cells ((arrV k) xs).cells T) K := h.nwg kk
theorem St.ldArr {n : Nat} {K : List Int → Prop} [c : CellsIn b H (arrI k xs) T H'] (h : St w H) (hn : xs.length = n) (kk : K xs) : loadP w ⟨b, 0, none⟩ n (arrV k) K := by
  refine h.ldn (b := b) (x := xs) ?_ ?_ kk
  · rw [List.drop_zero, List.take_of_length_le (by simp [hn])]; rfl
  · show (arrI k xs).toArray.size = n
    simp [hn]
theorem St.stArr {n : Nat} {cs : List Value} {ys : List Int} {K : World → Prop} [c : CellsIn b H cs T H'] (h : St w H) (hn : ys.length = n) (hc : cs.length = n) (kk : ∀ w', St w' (cellsA b (arrI k ys) T :: H') → K w') : storeP w ⟨b, 0, none⟩ n ((arrV k) ys) K := by
  refine h.stn (b := b) ?_ ?_ (by omega) fun w' h' => kk w' ?_
  · show (arrI k ys).toArray.size = n
    simp [hn]
  · rw [List.all_eq_true]; exact arrI_ones k ys
  · have e : ((arrV k) ys).cells.toList = arrI k ys := rfl
    rw [e, putL_all _ _ (by simp [hn, hc])] at h'
    exact h'
theorem St.ldI {i : Nat} {x : Int} {K : Int → Prop} [c : CellsIn b H (arrI k xs) T H'] (h : St w H) (hx : xs[i]? = some x) (kk : K x) : loadP w ((⟨b, 0, none⟩ : Addr).add (Int.toNat (i : Int) * 1)) 1 (Value.int k) K :=
  h.lda (b := b) (x := x) (by rw [Int.toNat_natCast, Nat.mul_one, Nat.zero_add]; simp [hx]) kk
theorem St.stI {i : Nat} {y : Int} {K : World → Prop} [c : CellsIn b H (arrI k xs) T H'] (h : St w H) (hi : i < xs.length) (kk : ∀ w', St w' (cellsA b (arrI k (xs.set i y)) T :: H') → K w') :
    storeP w ((⟨b, 0, none⟩ : Addr).add (Int.toNat (i : Int) * 1)) 1 (.int k y) K := by
  refine h.stna (b := b) rfl rfl (by simp; omega) fun w' h' => kk w' ?_
  have e : putL (arrI k xs) (0 + Int.toNat (i : Int) * 1) (Value.int k y).cells.toList = arrI k (xs.set i y) := by
    rw [Int.toNat_natCast, Nat.mul_one, Nat.zero_add]
    show (arrI k xs).set i (.int k y) = _
    simp [arrI, List.map_set]
  rw [e] at h'
  exact h'
theorem St.holdI {i : Nat} {x : Int} [c : CellsIn b H (arrI k xs) T H'] (h : St w H) (hx : xs[i]? = some x) : Holds w ((⟨b, 0, none⟩ : Addr).add (Int.toNat (i : Int) * 1)) 1 (.int k x) := by
  obtain ⟨y, hy, e⟩ := (h.ldI (b := b) (K := fun y => y = x) hx rfl).ex
  subst e
  exact hy
theorem nthK_i {i : Nat} {x : Int} {K : Int → Prop} (hx : xs[i]? = some x) (kk : K x) : nthK k ((arrV k) xs).cells.toList (Int.toNat (i : Int) * 1) K := by
  have e : ((arrV k) xs).cells.toList = arrI k xs := rfl
  unfold nthK
  rw [e, Int.toNat_natCast, Nat.mul_one, List.getElem?_map, hx]
  simpa using kk
theorem unArr_i {K : List Int → Prop} (kk : K xs) : unArrP k ((arrV k) xs) K := ⟨xs, rfl, kk⟩
end
theorem arrV_inj {k : IntKind} : ∀ {xs ys : List Int}, arrV k xs = arrV k ys → xs = ys := by
  intro xs ys h
  unfold arrV at h
  simp only [Value.agg.injEq] at h
  have h : xs.map (Value.int k) = ys.map (Value.int k) := by simpa using h
  exact (List.map_inj_right fun a b e => by simpa using e).1 h

/-! ### a slice over cells -/
section
variable {α : Type} {val : α → Value} {n : Nat} {w : World} {H : List HA} {b : Nat} {cs : List Value} {T : TypeId} {xs : List α} {P : Program}
theorem Sl.over {o len cap : Nat} (h : St w (cellsA b cs T :: H)) (hl : len = xs.length) (hc : len ≤ cap) (hm : cap ≤ maxLen) (hcs : o + cap * n ≤ cs.length) (he : (cs.drop o).take (len * n) = flat val xs) : Sl w n val ⟨some ⟨b, o, none⟩, len, cap⟩ xs :=
  ⟨⟨hl, hc, hm⟩, .inr ⟨b, o, cs, T, (0, 0), rfl, ⟨hcs, he⟩, h.own⟩⟩
/-- copy -/
theorem St.copy {t ty : TypeId} {bytes : Nat} {o dl dc : Nat} {y : SlV} {ys : List α} {K : Int → World → Prop} [hw : Wide val 1] (h : St w (cellsA b cs T :: H)) (ht : SlT P t 1 val bytes)
    (hd : o + dl ≤ cs.length) (hm : dl < 4611686018427387904) (hy : Sl w 1 val y ys) (k : ∀ w', St w' (cellsA b (putL cs o (flat val (ys.take dl))) T :: H) → K (min ys.length dl : Nat) w') :
    runP P (Builtin.copy_ #[t, t] ty #[(SlV.mk (some ⟨b, o, none⟩) dl dc).val, y.val]) w (Value.int .i64) K := by
  obtain ⟨e, i, z, h1, h2, h3, h4, h5, h6⟩ := ht
  have hs : (P.info? e).map (·.size) = some 1 := by rw [h2]; simp [h4]
  have hyl := hy.len
  have fin : ∀ w', (Builtin.copy_ #[t, t] ty #[(SlV.mk (some ⟨b, o, none⟩) dl dc).val, y.val]).run P w = .ok (goInt ((min ys.length dl : Nat) : Int)) w' → K (min ys.length dl : Nat) w' → runP P (Builtin.copy_ #[t, t] ty #[(SlV.mk (some ⟨b, o, none⟩) dl dc).val, y.val]) w (Value.int .i64) K := by
    intro w' hr hk
    refine ⟨_, w', hr.trans ?_, hk⟩
    rfl
  by_cases hz : min ys.length dl = 0
  · refine fin w ?_ (k w ?_)
    · rw [hz]
      exact run_copy_none w t t ty e _ y.a _ _ y.len y.cap h1 hs (by rw [hyl]; exact hz)
    · have : flat val (ys.take dl) = [] := by
        have : ys.take dl = [] := List.eq_nil_of_length_eq_zero (by rw [List.length_take]; omega)
        rw [this]; rfl
      rw [this]
      exact h
  · rcases hy.2 with hc | ⟨b', o', cs', T', fz', ha, hr, hh⟩
    · exfalso
      have := hy.1.2.1
      omega
    · have hcl : (flat val (ys.take dl)).length = min ys.length dl := by rw [flat_length (h := hw), List.length_take]; omega
      have hsrc : ∀ j v, (flat val (ys.take dl))[j]? = some v → w.cell? ((⟨b', o', none⟩ : Addr).add j) = some v := by
        intro j v hj
        refine hy.cellsOf (hw := hw) ha j v ?_
        have hlt := (List.getElem?_eq_some_iff.1 hj).1
        have := flat_take (h := hw) ys dl
        rw [Nat.mul_one] at this
        rw [← this, List.getElem?_take] at hj
        split at hj
        · exact hj
        · cases hj
      have hrun := run_copy_cells (P := P) w t t ty e b o dl dc ⟨b', o', none⟩ y.len y.cap (flat val (ys.take dl)) h1 hs (by rw [hcl, hyl]) hsrc
        (fun j hj => by rw [cell_of_cells h, List.getElem?_eq_getElem (by omega)]; simp) (fun j hj => froz_of_cells h _) (flat_ones (h := hw) _)
      have hv : y.val = .slice (some ⟨b', o', none⟩) y.len y.cap := by rw [SlV.val, ha]
      refine fin (w.setCells b o (flat val (ys.take dl))) ?_ (k _ ?_)
      · rw [hv, ← hcl]; exact hrun
      · have hp := setCells_heap (flat val (ys.take dl)) o w cs h.own
        exact h.turn (.setCells _ _ _ _) fun F hF => ⟨F, ⟨hp.1, hF.2⟩, fun _ h => .inl h, fun c _ hc => hp.2 c fun e => hc ((hF.2 c).2 e)⟩
end

/-! ### append of noughts -/
def slZB {α : Type} (P : Program) (t : TypeId) (chk : Value → Bool) (x : α) : Bool :=
  match P.underlying t with
  | some (.slice e) => match P.info? e with
    | some i => match i.zero with
      | some z => chk z
      | none => false
    | none => false
  | _ => false
/-- the nought of a slice type's elements -/
structure SlZ {α : Type} (P : Program) (t : TypeId) (val : α → Value) (x : α) : Prop where
  ex : ∀ e i z, P.underlying t = some (.slice e) → P.info? e = some i → i.zero = some z → z.cells = (val x).cells
def intZ (k : IntKind) (v : Value) : Bool := match v with | .int k' n => decide (k' = k) && decide (n = 0) | _ => false
def slNilZ (v : Value) : Bool := match v with | .slice none 0 0 => true | _ => false
theorem slZ_int {P : Program} {t : TypeId} {k : IntKind} (h : slZB P t (intZ k) (0 : Int) = true) : SlZ P t (Value.int k) (0 : Int) := by
  refine ⟨fun e i z h1 h2 h3 => ?_⟩
  unfold slZB at h
  simp only [h1, h2, h3] at h
  unfold intZ at h
  split at h
  · simp only [Bool.and_eq_true, decide_eq_true_eq] at h
    rw [h.1, h.2]
  · cases h
theorem slZ_sl {P : Program} {t : TypeId} (h : slZB P t slNilZ SlV.nil = true) : SlZ P t SlV.val SlV.nil := by
  refine ⟨fun e i z h1 h2 h3 => ?_⟩
  unfold slZB at h
  simp only [h1, h2, h3] at h
  unfold slNilZ at h
  split at h
  · rfl
  · cases h
theorem zeroCells_one {v : Value} {m : Nat} (h : v.cells.size = 1) : (Builtin.zeroCells v.cells m).toList = List.replicate m (v.cells.toList.getD 0 undef) := by
  obtain ⟨⟨l⟩⟩ := Exists.intro (p := fun c => v.cells = c) v.cells rfl
  have hl : v.cells.toList.length = 1 := by simpa using h
  match hc : v.cells.toList, hl with
  | [u], _ =>
    have e : v.cells = #[u] := by apply Array.ext'; simpa using hc
    rw [e]
    apply List.ext_getElem?
    intro i
    simp only [Builtin.zeroCells]
    by_cases hi : i < m <;> simp [hi, Nat.mod_one]

theorem run_append_make_room {P : Program} {w : World} (t tx ty e : TypeId) (k : IntKind) (i : TypeInfo) (z : Value) (ht : P.underlying t = some (.slice e)) (hx : P.underlying tx = some (.int k)) (hi : P.info? e = some i) (hz : i.zero = some z) (base : Option Addr) (sLen sCap m : Nat)
    (hs : i.size = 1) (hb : (m : Int) * i.bytes ≤ 281474976710656) (hm : m < 4611686018427387904) (hroom : sLen + m ≤ sCap) (w' : World) (hz1 : z.cells.size = 1)
    (hst : ∀ b, base = some b → (storeCells (b.add sLen) (Builtin.zeroCells z.cells m).toList).run P w = .ok () w') (hn : base = none → w' = w) :
    (Builtin.append_ #[t, tx] ty #[.slice base sLen sCap, .int .i64 (m : Int)]).run P w = .ok (.slice base (sLen + m) sCap) w' := by
  have hw : IntKind.i64.wrap (m : Int) = m := wrap_i64 (by omega) (by omega)
  have hw0 : IntKind.i64.wrap 0 = 0 := by decide
  have h0 : ¬ ((m : Int) < 0) := by omega
  have hb' : ¬ ((m : Int) * i.bytes > 281474976710656) := by omega
  by_cases hm0 : m = 0
  · subst hm0
    have hr0 : sLen ≤ sCap := by omega
    have e0 : (Builtin.zeroCells z.cells 0) = #[] := by
      apply Array.ext'
      rw [zeroCells_one hz1]; rfl
    cases base with
    | none => simp [Builtin.append_, run_underlying ht, run_underlying hx, sizeOf, typeInfo, hi, hs, asInt, asIntOf, hw, hw0, hn, hr0]
    | some b =>
      have := hst b rfl
      rw [e0] at this
      simp [Builtin.append_, run_underlying ht, run_underlying hx, sizeOf, typeInfo, hi, hs, asInt, asIntOf, hw, hw0, hr0] at this ⊢
      simp [this]
  · cases base with
    | none => simp [Builtin.append_, run_underlying ht, run_underlying hx, sizeOf, typeInfo, hi, hs, asInt, asIntOf, hw, h0, hb', hn, hroom, hm0, zeroValue, hz]
    | some b =>
      have := hst b rfl
      simp [Builtin.append_, run_underlying ht, run_underlying hx, sizeOf, typeInfo, hi, hs, asInt, asIntOf, hw, h0, hb', hroom, hm0, zeroValue, hz, this]
theorem run_append_make_grow {P : Program} {w : World} (t tx ty e : TypeId) (k : IntKind) (i : TypeInfo) (z : Value) (ht : P.underlying t = some (.slice e)) (hx : P.underlying tx = some (.int k)) (hi : P.info? e = some i) (hz : i.zero = some z) (base : Option Addr) (sLen sCap m : Nat)
    (hs : i.size = 1) (hb : (m : Int) * i.bytes ≤ 281474976710656) (hm : m < 4611686018427387904) (hgr : sCap < sLen + m) (hm0 : m ≠ 0) (olds : List Value)
    (hold : (Builtin.firstCells i.size sLen (.slice base sLen sCap)).run P w.drew = .ok olds.toArray w.drew)
    (h63 : ((sLen + m : Nat) : Int) ≤ 9223372036854775807) (hfit : Builtin.nextslicecap (sLen + m) sCap * i.bytes ≤ 281474976710656) :
    (Builtin.append_ #[t, tx] ty #[.slice base sLen sCap, .int .i64 (m : Int)]).run P w =
      .ok (.slice (some ⟨w.heap.size, 0, none⟩) (sLen + m) (grownCap w (sLen + m) sCap e))
        (w.drew.alloc (.cells (olds.toArray ++ Builtin.zeroCells z.cells m ++ Builtin.zeroCells z.cells (grownCap w (sLen + m) sCap e - (sLen + m))) e)) := by
  have hw : IntKind.i64.wrap (m : Int) = m := wrap_i64 (by omega) (by omega)
  have hw0 : IntKind.i64.wrap 0 = 0 := by decide
  have h0 : ¬ ((m : Int) < 0) := by omega
  have hb' : ¬ ((m : Int) * i.bytes > 281474976710656) := by omega
  have hn : ¬ (sLen + m ≤ sCap) := by omega
  have h63' : ¬ (9223372036854775807 < ((sLen : Int) + (m : Int))) := by omega
  have h48' : ¬ (281474976710656 < Builtin.nextslicecap (sLen + m) sCap * i.bytes) := by omega
  rw [hs] at hold
  simp [Builtin.append_, run_underlying ht, run_underlying hx, sizeOf, typeInfo, hi, hs, asInt, asIntOf, hw, h0, hb', hn, zeroValue, hz, h63', h48', Question.forced, hold, newRow, grownCap]
  intro h; exact absurd h hm0

section
variable {α : Type} {val : α → Value} {n : Nat} {s : SlV} {xs : List α} {w w' : World} {H H' : List HA} {P : Program}
/-- append(s, make([]T, m)...) of one-cell elements: s is the call's own. -/
theorem St.appMake {t tx ty : TypeId} {bytes m : Nat} {k0 : IntKind} {x0 : α} {K : SlV → World → Prop} [hw : Wide val 1] [c : SlIn 1 val s H xs H'] (h : St w H) (ht : SlT P t 1 val bytes) (hz0 : SlZ P t val x0) (hx : P.underlying tx = some (.int k0))
    (hb : (xs.length + m) * bytes ≤ 140737488355328) (hm : xs.length + m < 4611686018427387904)
    (k : ∀ s' w', St w' (SlO 1 val s' (xs ++ List.replicate m x0) :: H') → K s' w') : runP P (Builtin.append_ #[t, tx] ty #[s.val, .int .i64 (m : Int)]) w SlV.val K := by
  have h := (c.imp w).st h
  obtain ⟨e, i, z, h1, h2, h3, h4, rfl, h6⟩ := ht
  have hzc := hz0.ex e i z h1 h2 h3
  have hys : (Builtin.zeroCells z.cells m).toList = flat val (List.replicate m x0) := by
    rw [zeroCells_one h6, hzc]
    have h1c : (val x0).cells.toList.length = 1 := by rw [Array.length_toList]; exact hw.size x0
    match hcc : (val x0).cells.toList, h1c with
    | [u], _ =>
      clear k hb hm
      induction m with
      | zero => rfl
      | succ m ih => rw [List.replicate_succ, List.replicate_succ, flat_cons, hcc, ← ih]; rfl
  have hN := h.slO
  have hx1 := h.sl
  have hbm : (m : Int) * i.bytes ≤ 281474976710656 := by
    have : m * i.bytes ≤ (xs.length + m) * i.bytes := Nat.mul_le_mul_right _ (by omega)
    have h9 : m * i.bytes ≤ 281474976710656 := by omega
    have h8 := Int.ofNat_le.2 h9
    rw [Int.natCast_mul] at h8
    exact h8
  have hylen : (flat val (List.replicate m x0)).length = m := by rw [flat_length (h := hw)]; simp
  rcases hN.2 with ⟨sa, sc⟩ | ⟨b, off, cs, T, sa, sr, sh⟩
  · have s0 : s.len = 0 := by have := hx1.1.2.1; omega
    have hxs : xs = [] := List.eq_nil_of_length_eq_zero (by have := hx1.1.1; omega)
    subst hxs
    have hsv : s.val = .slice none 0 0 := by rw [SlV.val, sa, s0, sc]
    by_cases hm0 : m = 0
    · subst hm0
      refine ⟨s, w, ?_, k s w (by simpa using h)⟩
      rw [hsv]
      exact run_append_make_room t tx ty e k0 i z h1 hx h2 h3 none 0 0 0 h4 hbm (by omega) (Nat.le_refl _) w h6 (fun b hb => by cases hb) (fun _ => rfl)
    · have hmx := hm
      simp only [List.length_nil, Nat.zero_add] at hb hmx
      have hr := run_append_make_grow (P := P) (w := w) t tx ty e k0 i z h1 hx h2 h3 none 0 0 m h4 hbm (by omega) (by omega) hm0 [] (by simp [Builtin.firstCells]) (by omega) (growslice_fits (by omega) (by rw [Nat.zero_add]; exact hb))
      have hge := grownCap_ge w (0 + m) 0 e
      refine ⟨⟨some ⟨w.heap.size, 0, none⟩, 0 + m, grownCap w (0 + m) 0 e⟩, _, by rw [hsv, hr]; rfl, k _ _ ?_⟩
      refine h.turn ⟨rfl, rfl, rfl⟩ fun F hF => ⟨fun c => c = w.heap.size, ⟨⟨by simp, hge, grownCap_le_maxLen w _ _ _ (by rw [maxLen_eq]; omega)⟩, .inr ⟨w.heap.size, 0, (flat val (List.replicate m x0) ++ (Builtin.zeroCells z.cells (grownCap w (0 + m) 0 e - (0 + m))).toList), e, rfl, ⟨?_, ?_⟩, ?_, fun _ => Iff.rfl⟩⟩, fun b hb => .inr (Nat.le_of_eq hb.symm), fun b hb _ => heap_alloc_old w.drew _ b hb⟩
      · simp only [List.length_append, hylen, Array.length_toList, size_zeroCells, h6]
        omega
      · rw [List.drop_zero, List.nil_append]
        show List.take ((0 + m) * 1) _ = _
        rw [show (0 + m) * 1 = (flat val (List.replicate m x0)).length by omega, List.take_left]
      · refine (heap_alloc_new w.drew _).trans ?_
        congr 2
        apply Array.ext'
        simp [hys]
  · have hsv : s.val = .slice (some ⟨b, off, none⟩) s.len s.cap := by rw [SlV.val, sa]
    have hxl : (flat val xs).length = s.len := by rw [flat_length (h := hw), hx1.1.1, Nat.mul_one]
    have hxc := hx1.cellsOf (hw := hw) sa
    have hsl := hx1.1.1
    by_cases hroom : s.len + m ≤ s.cap
    · have hfit : off + s.len + (flat val (List.replicate m x0)).length ≤ cs.length := by have := sr.1; omega
      have hst := run_storeCells_cells (P := P) b (off + s.len) (flat val (List.replicate m x0)) 0 w (fun j hj => by simp only [World.cell?, sh]; simp; omega) (fun j hj => by simp [World.frozen?, sh]) (flat_ones (h := hw) _)
      have hr := run_append_make_room (P := P) (w := w) t tx ty e k0 i z h1 hx h2 h3 (some ⟨b, off, none⟩) s.len s.cap m h4 hbm (by omega) hroom (w.setCells b (off + s.len) (flat val (List.replicate m x0))) h6
        (fun b' hb' => by
          cases hb'
          rw [add_lit, hys]
          exact hst) (fun hh => by cases hh)
      refine ⟨⟨some ⟨b, off, none⟩, s.len + m, s.cap⟩, _, by rw [hsv, hr]; rfl, k _ _ ?_⟩
      have hsc := setCells_heap (flat val (List.replicate m x0)) (off + s.len) w cs sh
      have hrow : Rows 1 val ⟨some ⟨b, off, none⟩, s.len + m, s.cap⟩ (xs ++ List.replicate m x0) (putL cs (off + s.len) (flat val (List.replicate m x0))) off := by
        refine ⟨by rw [putL_length]; exact sr.1, ?_⟩
        have h5 := sr.2
        rw [Nat.mul_one] at h5
        show List.take ((s.len + m) * 1) _ = _
        rw [Nat.mul_one, putL_eq _ _ _ hfit, flat_append, ← h5, List.drop_append_of_le_length (by simp; omega), List.drop_take, List.take_append, List.take_append]
        simp only [List.length_take, List.length_drop]
        rw [show off + s.len - off = s.len by omega, List.take_take, Nat.min_eq_left (show s.len ≤ cs.length - off by omega), Nat.min_eq_right (show s.len ≤ s.len + m by omega)]
        rw [show s.len + m - s.len = (flat val (List.replicate m x0)).length by omega, List.take_length, Nat.sub_self, List.take_zero, List.append_nil]
      refine h.turn (.setCells _ _ _ _) fun F hF => ⟨F, ?_, fun _ h => .inl h, fun c hc hF' => ?_⟩
      · refine ⟨⟨by simp [hsl], hroom, hx1.1.2.2⟩, .inr ⟨b, off, _, T, rfl, hrow, hsc.1, ?_⟩⟩
        rcases hF.2 with ⟨e1, _⟩ | ⟨b1, off1, cs1, T1, e1, _, e3, e4⟩
        · rw [e1] at sa; cases sa
        · rw [e1] at sa
          cases sa
          exact e4
      · rcases hF.2 with ⟨e1, _⟩ | ⟨b1, off1, cs1, T1, e1, _, e3, e4⟩
        · rw [e1] at sa; cases sa
        · rw [e1] at sa
          cases sa
          exact hsc.2 c fun e => hF' ((e4 c).2 e)
    · have hm0 : m ≠ 0 := by have := hx1.1.2.1; omega
      have hge := grownCap_ge w (s.len + m) s.cap e
      have hold : (Builtin.firstCells i.size s.len (.slice (some ⟨b, off, none⟩) s.len s.cap)).run P w.drew = .ok (flat val xs).toArray w.drew :=
        run_firstCells_some w.drew i.size s.len ⟨b, off, none⟩ s.len s.cap (flat val xs) (by rw [h4, Nat.mul_one]; exact hxl) (by simpa using hxc)
      have hr := run_append_make_grow (P := P) (w := w) t tx ty e k0 i z h1 hx h2 h3 (some ⟨b, off, none⟩) s.len s.cap m h4 hbm (by omega) (by omega) hm0 (flat val xs) hold (by omega)
        (growslice_fits (by omega) (by rw [hsl]; exact hb))
      refine ⟨⟨some ⟨w.heap.size, 0, none⟩, s.len + m, grownCap w (s.len + m) s.cap e⟩, _, by rw [hsv, hr]; rfl, k _ _ ?_⟩
      refine h.turn ⟨rfl, rfl, rfl⟩ fun F hF => ⟨fun c => c = w.heap.size, ⟨⟨by simp [hsl], hge, grownCap_le_maxLen w _ _ _ (by rw [maxLen_eq]; omega)⟩, .inr ⟨w.heap.size, 0, (flat val xs ++ flat val (List.replicate m x0) ++ (Builtin.zeroCells z.cells (grownCap w (s.len + m) s.cap e - (s.len + m))).toList), e, rfl, ⟨?_, ?_⟩, ?_, fun _ => Iff.rfl⟩⟩, fun b hb => .inr (Nat.le_of_eq hb.symm), fun b hb _ => heap_alloc_old w.drew _ b hb⟩
      · simp only [List.length_append, hylen, hxl, Array.length_toList, size_zeroCells, h6]
        omega
      · rw [List.drop_zero, flat_append]
        show List.take ((s.len + m) * 1) _ = _
        rw [show (s.len + m) * 1 = (flat val xs ++ flat val (List.replicate m x0)).length by rw [List.length_append]; omega, List.take_left]
      · refine (heap_alloc_new w.drew _).trans ?_
        congr 2
        apply Array.ext'
        simp [hys]
end

/-! ### rounds -/
section
variable {w w' : World} {H H' : List HA} {P : Program}
theorem St.put {b : Nat} {o : Obj} (o' : Obj) (h : St w (.own b o :: H)) : St (w.putObj b o') (.own b o' :: H) :=
  h.turn ⟨rfl, rfl, rfl⟩ fun F hF => ⟨F, ⟨World.putObj_heap_same (Array.getElem?_eq_some_iff.1 hF.1).1, hF.2⟩, fun _ h => .inl h, fun c _ hc => World.putObj_heap_other fun e => hc ((hF.2 c).2 e)⟩
theorem St.beg {L : Nat} {rec : Loop} {K : World → Prop} (h : St w (.own L (.loop rec) :: H)) (hs : rec.state = .ready) (k : ∀ w', St w' (.own L (.loop { rec with state := .busy }) :: H) → K w') : begP P L w K :=
  ⟨_, run_beginRound h.own hs, k _ (h.put _)⟩
theorem St.fin {L : Nat} {rec : Loop} {K : World → Prop} (h : St w (.own L (.loop { rec with state := .busy }) :: H)) (hs : rec.state = .ready) (hp : rec.pending = none) (k : ∀ w', St w' (.own L (.loop rec) :: H) → K w') : endP P L w K := by
  have e : ({ { rec with state := .busy } with state := if (none : Option Code).isNone then .ready else .done, pending := none } : Loop) = rec := by
    obtain ⟨_, _, _, _, _, _, _, _⟩ := rec
    simp only at hs hp
    subst hs hp
    rfl
  have hr := run_endRound (P := P) none h.own
  rw [e] at hr
  exact ⟨_, hr, k _ (h.put _)⟩
theorem St.leave {D : Nat} {K : World → Prop} (h : St w (.own D (.deferred (some [])) :: H)) (k : ∀ w', St w' (.own D (.deferred none) :: H) → K w') : leaveP P D w K :=
  ⟨_, run_takeDeferred h.own, k _ (h.put _)⟩
theorem yield_i {α : Type} {L : Nat} {rec : Loop} {vals : α → List Value} {B : Nat → α → World → (World → Prop) → Prop} {x : α} {K : Bool → World → Prop} (hr : RoundsP P rec vals B) (h : St w (.own L (.loop rec) :: H))
    (hB : B L x w (fun W' => endP P L W' fun W'' => K true W'')) : yieldP P L (vals x) w Value.bool K := hr L w x K h.own hB
theorem range_i {α : Type} {g : Nat} {lb : Array Value} {vals : α → List Value} {B : Nat → α → World → (World → Prop) → Prop} {K : Nat → World → Prop} (h : St w H) (hb : bodyOk P g = true)
    (k : ∀ (L D : Nat) (rec : Loop) (w1 : World), rec.state = .ready → rec.pending = none → RoundsP P rec vals B → St w1 (.own L (.loop rec) :: .own D (.deferred (some [])) :: H) →
      callP P g (#[.func (.yield L) #[] #[]] ++ lb) w1 unitV fun _ w2 => ∃ H2, St w2 (.own L (.loop rec) :: H2) ∧ ∀ w3, St w3 H2 → K D w3) : rangeP P (.func (.func g) #[] lb) vals B w K := by
  refine ⟨g, lb, rfl, hb, fun rec hs hp hR => ?_⟩
  have h1 : St ((w.alloc (.deferred (some []))).alloc (.loop rec)) (.own (w.heap.size + 1) (.loop rec) :: .own w.heap.size (.deferred (some [])) :: H) := by
    have a1 : St (w.alloc (.deferred (some []))) (.own w.heap.size (.deferred (some [])) :: H) :=
      h.add (.alloc w _) (fun b hb => heap_alloc_old w _ b hb) (F := fun c => c = w.heap.size) ⟨heap_alloc_new w _, fun _ => Iff.rfl⟩ (fun b hb => by omega)
    refine a1.add (.alloc _ _) (fun b hb => heap_alloc_old _ _ b hb) (F := fun c => c = w.heap.size + 1) ⟨?_, fun _ => Iff.rfl⟩ (fun b hb => by rw [World.size_alloc]; omega)
    have := heap_alloc_new (w.alloc (.deferred (some []))) (.loop rec)
    rwa [World.size_alloc] at this
  have hc := k (w.heap.size + 1) w.heap.size rec _ hs hp hR h1
  rcases hc.ex with ⟨_, hc⟩ | ⟨x, w', hr, _⟩
  · refine hc.mono fun e w2 he => ?_
    cases e <;> first | exact he.elim | skip
    obtain ⟨x, rfl, H2, h2, hK⟩ := he
    exact ⟨⟨_, rfl⟩, _, (run_endLoop (P := P) h2.own (by rw [hs]; simp)).trans (by rw [hp]), hK _ ((h2.put (.loop { rec with state := .exhausted })).drop)⟩
  · exfalso
    rw [callFunc_run hb] at hr
    cases hr
end
end Go.Vc
