/-
  Slices opened to their cells; slices of three bounds; copy by cells. No program in sight.
-/
import Derived.Test.YtobldgdfejpckaaVcSep5
import Derived.Lib.SlBytesConst
set_option linter.all false
set_option linter.unusedVariables false
set_option linter.unusedSimpArgs false
namespace Go.Vc
section
variable {α : Type} {val : α → Value} {n : Nat} {s : SlV} {xs : List α} {w w' : World} {H H' : List HA} {P : Program}
theorem SlO.opn (h : St w (SlO n val s xs :: H)) (hc : 0 < s.cap) : ∃ b off cs T, s.a = some ⟨b, off, none⟩ ∧ Rows n val s xs cs off ∧ St w (cellsA b cs T :: H) := by
  obtain ⟨F, F1, F2, ⟨hN, hA⟩, h2, d, e⟩ := h
  rcases hA with ⟨h1, h2, _⟩ | ⟨b, off, cs, T, h1, hr, h3, h4⟩
  · omega
  · exact ⟨b, off, cs, T, h1, hr, F, F1, F2, ⟨h3, h4⟩, h2, d, e⟩
theorem SlO.cls {b off : Nat} {cs : List Value} {T : TypeId} (h : St w (cellsA b cs T :: H)) (hN : SlN s xs) (ha : s.a = some ⟨b, off, none⟩) (hr : Rows n val s xs cs off) : St w (SlO n val s xs :: H) :=
  h.imp1 fun F hF => ⟨hN, .inr ⟨b, off, cs, T, ha, hr, hF.1, hF.2⟩⟩
/-- s[l:h:m], read -/
theorem Sl.sub3 {l m c : Nat} (h : Sl w n val s xs) (hl : l ≤ m) (hm : m ≤ xs.length) (hmc : m ≤ c) (hc : c ≤ s.cap) [hw : Wide val n] : Sl w n val (s.sub l m c n) ((xs.take m).drop l) := by
  obtain ⟨⟨h1, h2, h3⟩, hF⟩ := h
  refine ⟨⟨?_, ?_, ?_⟩, ?_⟩
  · simp [SlV.sub]; omega
  · simp [SlV.sub]; omega
  · simp [SlV.sub]; omega
  · rcases hF with e2 | ⟨b, off, cs, T, fz, e1, ⟨e2, e2'⟩, e3⟩
    · exact .inl (by simp [SlV.sub]; omega)
    · by_cases hcl : c = l
      · exact .inl (by simp [SlV.sub]; omega)
      · refine .inr ⟨b, off + l * n, cs, T, fz, by simp [SlV.sub, e1, hcl, add_lit], ⟨?_, ?_⟩, e3⟩
        · simp only [SlV.sub]
          have h5 : l * n + (c - l) * n = c * n := by rw [← Nat.add_mul]; congr 1; omega
          have h6 : c * n ≤ s.cap * n := Nat.mul_le_mul_right _ hc
          omega
        · simp only [SlV.sub]
          rw [← flat_drop (h := hw), ← flat_take (h := hw), ← e2', List.take_take, List.drop_take, List.drop_drop]
          congr 1
          rw [Nat.min_eq_left (show m * n ≤ s.len * n from Nat.mul_le_mul_right _ (by omega)), Nat.sub_mul]
/-- copy, of these cells -/
theorem St.copyC {t ty : TypeId} {bytes b o dl dc : Nat} {cs vs : List Value} {T : TypeId} {a' : Addr} {yl yc : Nat} {K : Int → World → Prop} (h : St w (cellsA b cs T :: H)) (ht : SlT P t 1 val bytes)
    (hd : o + dl ≤ cs.length) (hv : vs.length = min yl dl) (hsrc : ∀ j v, vs[j]? = some v → w.cell? (a'.add j) = some v) (h1 : ∀ u ∈ vs, u.oneCell' = true)
    (k : ∀ w', St w' (cellsA b (putL cs o vs) T :: H) → K (vs.length : Nat) w') :
    runP P (Builtin.copy_ #[t, t] ty #[(SlV.mk (some ⟨b, o, none⟩) dl dc).val, (SlV.mk (some a') yl yc).val]) w (Value.int .i64) K := by
  obtain ⟨e, i, z, g1, g2, g3, g4, g5, g6⟩ := ht
  have hs : (P.info? e).map (·.size) = some 1 := by rw [g2]; simp [g4]
  have hrun := run_copy_cells (P := P) w t t ty e b o dl dc a' yl yc vs g1 hs hv hsrc
    (fun j hj => by rw [cell_of_cells h, List.getElem?_eq_getElem (by omega)]; rfl) (fun j hj => froz_of_cells h _) h1
  refine ⟨(vs.length : Nat), w.setCells b o vs, hrun, k _ ?_⟩
  · have hp := setCells_heap vs o w cs h.own
    exact h.turn (.setCells _ _ _ _) fun F hF => ⟨F, ⟨hp.1, hF.2⟩, fun _ h => .inl h, fun c _ hc => hp.2 c fun e => hc ((hF.2 c).2 e)⟩
/-- append(s, make([]T, m)...), where there is no room: s is only read. -/
theorem St.appMakeG {t tx ty : TypeId} {bytes m : Nat} {k0 : IntKind} {x0 : α} {K : SlV → World → Prop} [hw : Wide val 1] (h : St w H) (hsl : Sl w 1 val s xs) (ht : SlT P t 1 val bytes) (hz0 : SlZ P t val x0) (hx : P.underlying tx = some (.int k0))
    (hb : (xs.length + m) * bytes ≤ 140737488355328) (hm : xs.length + m < 4611686018427387904) (hg : s.cap < xs.length + m)
    (k : ∀ s' w', St w' (SlO 1 val s' (xs ++ List.replicate m x0) :: H) → (∀ b, b < w.heap.size → w'.heap[b]? = w.heap[b]?) → K s' w') : runP P (Builtin.append_ #[t, tx] ty #[s.val, .int .i64 (m : Int)]) w SlV.val K := by
  obtain ⟨e, i, z, h1, h2, h3, h4, rfl, h6⟩ := ht
  have hzc := hz0.ex e i z h1 h2 h3
  have hys : (Builtin.zeroCells z.cells m).toList = flat val (List.replicate m x0) := by
    rw [zeroCells_one h6, hzc]
    have h1c : (val x0).cells.toList.length = 1 := by rw [Array.length_toList]; exact hw.size x0
    match hcc : (val x0).cells.toList, h1c with
    | [u], _ =>
      clear k hb hm hg
      induction m with
      | zero => rfl
      | succ m ih => rw [List.replicate_succ, List.replicate_succ, flat_cons, hcc, ← ih]; rfl
  have hbm : (m : Int) * i.bytes ≤ 281474976710656 := by
    have : m * i.bytes ≤ (xs.length + m) * i.bytes := Nat.mul_le_mul_right _ (by omega)
    have h9 : m * i.bytes ≤ 281474976710656 := by omega
    have h8 := Int.ofNat_le.2 h9
    rw [Int.natCast_mul] at h8
    exact h8
  have hylen : (flat val (List.replicate m x0)).length = m := by rw [flat_length (h := hw)]; simp
  have hlen := hsl.1.1
  have hxl : (flat val xs).length = s.len := by rw [flat_length (h := hw), hlen, Nat.mul_one]
  have hm0 : m ≠ 0 := by have := hsl.1.2.1; omega
  have hold : (Builtin.firstCells i.size s.len s.val).run P w.drew = .ok (flat val xs).toArray w.drew := by
    cases hsa : s.a with
    | none =>
      have h0 : xs = [] := hsl.nil_of hsa
      subst h0
      have hv : s.val = .slice none 0 s.cap := by rw [SlV.val, hsa]; simp at hlen; rw [hlen]
      rw [hv]
      simp at hlen
      rw [hlen]
      exact run_firstCells_none w.drew i.size 0 0 s.cap
    | some a =>
      have hv : s.val = .slice (some a) s.len s.cap := by rw [SlV.val, hsa]
      rw [hv]
      exact run_firstCells_some w.drew i.size s.len a s.len s.cap (flat val xs) (by rw [h4, Nat.mul_one]; exact hxl) (by simpa using hsl.cellsOf (hw := hw) hsa)
  have hr := run_append_make_grow (P := P) (w := w) t tx ty e k0 i z h1 hx h2 h3 s.a s.len s.cap m h4 hbm (by omega) (by omega) hm0 (flat val xs) hold (by omega)
    (growslice_fits (by omega) (by rw [hlen]; exact hb))
  have hge := grownCap_ge w (s.len + m) s.cap e
  refine ⟨⟨some ⟨w.heap.size, 0, none⟩, s.len + m, grownCap w (s.len + m) s.cap e⟩, _, (by rw [show s.val = .slice s.a s.len s.cap from rfl, hr]; rfl), k _ _ ?_ (fun b hb => heap_alloc_old w.drew _ b hb)⟩
  refine h.add ⟨rfl, rfl, rfl⟩ (fun b hb => heap_alloc_old w.drew _ b hb) (F := fun c => c = w.heap.size) ⟨⟨by simp [hlen], hge, grownCap_le_maxLen w _ _ _ (by rw [maxLen_eq]; omega)⟩, .inr ⟨w.heap.size, 0, (flat val xs ++ flat val (List.replicate m x0) ++ (Builtin.zeroCells z.cells (grownCap w (s.len + m) s.cap e - (s.len + m))).toList), e, rfl, ⟨?_, ?_⟩, ?_, fun _ => Iff.rfl⟩⟩ (fun b hb => Nat.le_of_eq hb.symm)
  · simp only [List.length_append, hylen, hxl, Array.length_toList, size_zeroCells, h6]
    omega
  · rw [List.drop_zero, flat_append]
    show List.take ((s.len + m) * 1) _ = _
    rw [show (s.len + m) * 1 = (flat val xs ++ flat val (List.replicate m x0)).length by rw [List.length_append]; omega, List.take_left]
  · refine (heap_alloc_new w.drew _).trans ?_
    congr 2
    apply Array.ext'
    simp [hys]
end

/-! ### []byte("..") -/
abbrev LitB (b : Nat) (xs : List Int) (e : TypeId) : HA := HA.own b (.cells (arrI .u8 xs).toArray e (xs.length, xs.length + 1))
theorem LitB.sl {w : World} {H : List HA} {b : Nat} {xs : List Int} {e : TypeId} {n : Nat} (h : St w (LitB b xs e :: H)) (hn : n = xs.length) (hm : n ≤ 1073741824) : Sl w 1 (Value.int .u8) ⟨some ⟨b, 0, none⟩, n, n⟩ xs := by
  subst hn
  refine ⟨⟨rfl, Nat.le_refl _, by rw [maxLen_eq]; show xs.length ≤ _; omega⟩, .inr ⟨b, 0, arrI .u8 xs, e, _, rfl, ⟨by simp, ?_⟩, h.own⟩⟩
  rw [flat_int, List.drop_zero, List.take_of_length_le (by simp)]
theorem St.litB {P : Program} {w : World} {H : List HA} {t e : TypeId} {C : Array Value} {n : Nat} (xs : List Int) {K : SlV → World → Prop} (h : St w H) (ht : P.underlying t = some (.slice e)) (he : P.underlying e = some (.int .u8)) (hC : C = (arrI .u8 xs).toArray)
    (k : ∀ b w', St w' (LitB b xs e :: H) → K ⟨some ⟨b, 0, none⟩, n, n⟩ w') : newP w (.cells C e) fun b w1 => runP P (convert t t (SlV.mk (some (⟨b, 0, none⟩ : Addr)) n n).val) w1 SlV.val K := by
  subst hC
  refine ⟨⟨⟨some ⟨w.heap.size, 0, none⟩, n, n⟩, _, Lib.run_convert_bytes_const w t e (arrI .u8 xs).toArray n n ht he, k _ _ ?_⟩⟩
  refine h.add (.alloc w _) (fun b hb => heap_alloc_old w _ b hb) (F := fun c => c = w.heap.size) ⟨?_, fun _ => Iff.rfl⟩ (fun b hb => by omega)
  rw [heap_alloc_new]
  simp
end Go.Vc
