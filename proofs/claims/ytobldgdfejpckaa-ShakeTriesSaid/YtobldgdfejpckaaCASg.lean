/-
  shake: a handshake.
-/
import Derived.Test.YtobldgdfejpckaaCASf
set_option linter.all false
set_option linter.unusedVariables false
set_option maxRecDepth 100000
namespace Go.Vc.SA
open Go.Proofs Go.Vc.Sha

/-- a field of an element -/
theorem Sl.fld {α β : Type} {val : α → Value} {val' : β → Value} {n i o m : Nat} {s : SlV} {xs : List α} {x : α} {y : β} {w : World} {K : Addr → β → Prop} [hw : Wide val n] (h : Sl w n val s xs) (hx : xs[i]? = some x)
    (hy : ((val x).cells.toList.drop o).take m = (val' y).cells.toList) (hm : (val' y).cells.size = m) (k : ∀ a, s.a = some a → K a y) :
    chkP (inR (i : Int) s.len) (nilP s.a fun a => loadP w ((a.add (Int.toNat (i : Int) * n)).add o) m val' (K a)) := by
  have hi : i < xs.length := (List.getElem?_eq_some_iff.1 hx).1
  refine chk_i (inR_i (by omega) (by rw [h.len]; omega)) ?_
  have h0 := h
  obtain ⟨h1, h2⟩ := h
  rcases h2 with hc | ⟨b, off, cs, T, fz, ha, hr, hh⟩
  · have := h1.1; have := h1.2.1; omega
  · have hco := h0.cellsOf ha
    rw [ha]
    simp only [nilP]
    refine ⟨y, ⟨hm, fun t ht => ?_⟩, k _ ha⟩
    rw [add_lit, add_lit, add_lit, Int.toNat_natCast]
    have hat := flat_at (n := n) (val := val) hx
    have hu : (val' y).cells[t]? = some ((val' y).cells[t]'(by omega)) := Array.getElem?_eq_getElem (by omega)
    rw [hu]
    have e1 : ((val' y).cells.toList)[t]? = some ((val' y).cells[t]'(by omega)) := by rw [Array.getElem?_toList]; exact hu
    rw [← hy, List.getElem?_take_of_lt ht, List.getElem?_drop, ← hat, List.getElem?_take] at e1
    split at e1
    · rw [List.getElem?_drop] at e1
      have := hco _ _ e1
      rw [add_lit] at this
      rw [← this]
      congr 2
      omega
    · cases e1

section
variable {q p : Nat} {x y : Pt} {w : World} {H : List HA}
/-- Hear of the note in a slice -/
theorem hearN {r : SlV} {t : Int} {C : CK} {now : Int} {K : SlV → World → Prop} (h : St w (NoteA r t C :: PtA q y :: H)) (hl : ∀ z ∈ C.ps, z.2.length ≤ 1048576) (hB : BL C.body) (hk : y.e.Key.size ≤ 1000)
    (k : ∀ r' w', St w' (OutA r' (hear y t C now).2 :: PtA q (hear y t C now).1 :: H) → K r' w') :
    chkP (inR (0 : Int) r.len) <|
    nilP r.a fun a_18 =>
    loadP w.drew ((a_18.add (Int.toNat (0 : Int) * 20)).add 0) 1 (Value.int .u32) fun v_19 =>
    chkP (inR (0 : Int) r.len) <|
    nilP r.a fun a_20 =>
    loadP w.drew ((a_20.add (Int.toNat (0 : Int) * 20)).add 1) 19 ChunkV.val fun v_21 =>
    callP P 30 #[(.pointer (some (⟨q, 0, none⟩ : Addr))), (.int .u32 v_19), (ChunkV.val v_21), (.int .u64 now)] w.drew SlV.val K := by
  obtain ⟨⟨ps, body, pv⟩, h⟩ := h.unex
  have h := h.unsep.drew
  simp only at h
  refine Sl.fld (i := 0) (o := 0) (y := t) (x := ⟨t, mkC C ps body⟩) (h.sl) rfl rfl rfl fun _ _ => ?_
  refine Sl.fld (i := 0) (o := 1) (y := mkC C ps body) (x := ⟨t, mkC C ps body⟩) (h.sl) rfl rfl rfl fun _ _ => ?_
  refine c30 (p := q) (x := y) (tag := t) (now := now) (H := .keep (fun w => Ch w C ps body pv) :: H) h.drop.g1 (fun w' h => keep.get h) hl hB hk fun r' w' h => ?_
  exact k r' w' (h.g2.drop)
theorem NoteA.len {r : SlV} {t : Int} {C : CK} (h : St w (NoteA r t C :: H)) : r.len = 1 := by
  obtain ⟨⟨ps, body, pv⟩, h⟩ := h.unex
  exact h.unsep.sl.len
end

/-! ### the handshake as values -/
def y0 (b : EndV) : Pt := ⟨b, 0, zMet, [], 0⟩
def ckA (a b : EndV) (now : Int) : CookieV := ckOf b (initC a 1 []) now
def n2 (a b : EndV) (now : Int) : CK := initC b 2 [(7, made (kb b.Key) (ckA a b now))]
def x2 (a b : EndV) (now : Int) : Pt := { (tos (y0 a) 1) with met := metOf (tos (y0 a) 1) (n2 a b now), echo := made (kb b.Key) (ckA a b now), s := 2, tries := 0 }
def y2 (a b : EndV) (now : Int) : Pt := { (y0 b) with met := ⟨a.Tag, a.Tsn, a.Window, (ckA a b now).Features == 1⟩, s := 3, tries := 0 }
def hsX (a b : EndV) (now : Int) : Nat → Pt | 0 => tos (y0 a) 1 | 1 => tos (y0 a) 1 | 2 => x2 a b now | 3 => x2 a b now | _ => tos (x2 a b now) 3
def hsY (a b : EndV) (now : Int) : Nat → Pt | 0 => y0 b | 1 => y0 b | 2 => y0 b | _ => y2 a b now
def hsN (a b : EndV) (now : Int) : Nat → Option (Int × CK) | 0 => some (0, initC a 1 []) | 1 => some (a.Tag, n2 a b now) | 2 => some (b.Tag, { kind := 10, body := made (kb b.Key) (ckA a b now) }) | 3 => some (a.Tag, { kind := 11 }) | _ => none

structure EW (e : EndV) : Prop where
  tag : W32 e.Tag
  tsn : W32 e.Tsn
  win : W32 e.Window
theorem ckA_wf {a b : EndV} (ha : EW a) (hb : EW b) (now : Int) : CW (ckA a b now) := by
  refine ⟨hb.tag, ha.tag, hb.tsn, ha.tsn, ha.win, (show (0 : Int) ≤ 1024 ∧ (1024 : Int) < 65536 by decide), (show (0 : Int) ≤ 1024 ∧ (1024 : Int) < 65536 by decide), ?_, W32_wrap _, (show W32 0 from ⟨by decide, by decide⟩), (show W32 0 from ⟨by decide, by decide⟩)⟩
  show B8 (if (b.Inter && interC (initC a 1 []).ps) = true then 1 else 0)
  split <;> exact ⟨by decide, by decide⟩
theorem rightI {e : EndV} {kind : Int} {l : List (Int × List Int)} (h : e.Tag ≠ 0) : rightC (initC e kind l) := ⟨h, show (1024 : Int) ≠ 0 by decide, show (1024 : Int) ≠ 0 by decide⟩

theorem hs0 {a b : EndV} {now : Int} (ha : a.Tag ≠ 0) : hear (hsY a b now 0) 0 (initC a 1 []) now = (hsY a b now 1, hsN a b now 1) := by
  unfold hear
  rw [if_pos ⟨rfl, rfl⟩]
  unfold asked
  rw [if_neg (show ¬ (hsY a b now 0).s > 2 from show ¬ ((0 : Int) > 2) by decide), if_neg (fun h => h (rightI ha))]
  rfl
theorem hs1 {a b : EndV} {now : Int} (ha : a.Tag ≠ 0) (hb : b.Tag ≠ 0) : hear (hsX a b now 1) a.Tag (n2 a b now) now = (hsX a b now 2, hsN a b now 2) := by
  unfold hear
  rw [if_neg (fun h => by cases h.1), if_neg (fun h => by cases h.1), if_neg (fun h => h rfl), if_pos (by rfl)]
  unfold granted
  rw [if_neg (fun h => h rfl), if_neg (fun h => h (rightI hb))]
  rfl
theorem hs2 {a b : EndV} {now : Int} (ha : EW a) (hb : EW b) : hear (hsY a b now 2) b.Tag { kind := 10, body := made (kb b.Key) (ckA a b now) } now = (hsY a b now 3, hsN a b now 3) := by
  unfold hear
  rw [if_neg (fun h => by cases h.1), if_neg (fun h => by cases h.1), if_neg (fun h => h rfl), if_neg (fun h => absurd h (show ¬ ((10 : Int) = 2) by decide)), if_pos (by rfl)]
  unfold echoed
  have ho : opn (kb (hsY a b now 2).e.Key) (made (kb b.Key) (ckA a b now)) (IntKind.u32.wrap now) = (ckA a b now, 0) := by
    show opn (kb b.Key) _ _ = _
    rw [opn_made (ckA_wf ha hb now), if_neg]
    show ¬ IntKind.u32.wrap (IntKind.u32.wrap now - IntKind.u32.wrap now) > 600
    rw [Int.sub_self]
    decide
  show echoedK (hsY a b now 2) (opn (kb (hsY a b now 2).e.Key) (made (kb b.Key) (ckA a b now)) (IntKind.u32.wrap now)) = _
  rw [ho]
  unfold echoedK
  rw [if_neg (fun h => h rfl), if_neg (fun h => h rfl), if_neg (show ¬ (hsY a b now 2).s ≥ 8 from show ¬ ((0 : Int) ≥ 8) by decide), if_neg (show ¬ ((hsY a b now 2).s ≥ 2 ∧ _) from fun h => absurd h.1 (show ¬ ((0 : Int) ≥ 2) by decide)), if_pos (show (hsY a b now 2).s ≤ 2 from show (0 : Int) ≤ 2 by decide)]
  rfl
theorem hs3 {a b : EndV} {now : Int} : hear (hsX a b now 3) a.Tag { kind := 11 } now = (hsX a b now 4, hsN a b now 4) := by
  unfold hear
  rw [if_neg (fun h => by cases h.1), if_neg (fun h => by cases h.1), if_neg (fun h => h rfl), if_neg (by decide), if_neg (by decide), if_pos (by rfl)]
  rfl
end Go.Vc.SA
