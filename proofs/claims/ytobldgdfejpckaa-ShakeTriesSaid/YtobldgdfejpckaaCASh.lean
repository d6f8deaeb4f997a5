/-
  shake: the loop of a handshake; first.
-/
import Derived.Test.YtobldgdfejpckaaCASg
set_option linter.all false
set_option linter.unusedVariables false
set_option maxRecDepth 100000
namespace Go.Vc.SA
open Go.Proofs Go.Vc.Sha

theorem initC_ps {e : EndV} {kind : Int} {l : List (Int × List Int)} (h : ∀ z ∈ l, z.2.length ≤ 1048576) : ∀ z ∈ (initC e kind l).ps, z.2.length ≤ 1048576 := by
  intro z hz
  rcases List.mem_append.1 hz with h1 | h1
  · exact h z h1
  · split at h1
    · simp at h1; subst h1; decide
    · simp at h1
theorem n2_ps {a b : EndV} {now : Int} : ∀ z ∈ (n2 a b now).ps, z.2.length ≤ 1048576 := initC_ps (by
  intro z hz
  simp at hz
  subst hz
  simp only [made_len]
  omega)
theorem BL_nil : BL [] := by intro x hx; cases hx

set_option maxHeartbeats 1000000 in
theorem hsLoop {a b : EndV} {p q : Nat} {now : Int} {r : SlV} {w : World} {H : List HA} {Q : World → Prop} (ha : EW a) (hb : EW b) (ha0 : a.Tag ≠ 0) (hb0 : b.Tag ≠ 0) (hka : a.Key.size ≤ 1000) (hkb : b.Key.size ≤ 1000)
    (h : St w (NoteA r 0 (initC a 1 []) :: PtA p (hsX a b now 0) :: PtA q (y0 b) :: H)) (k : ∀ w', St w' (PtA p (hsX a b now 4) :: PtA q (hsY a b now 4) :: H) → Q w') :
    loopP (SlV × Int) (r, (0 : Int)) w fun next__13 _ s_14 w_7 =>
    cutP (Unit) (fun J_15 =>
    cond' (decide (s_14.2 < (4 : Int))) (
    cond' ((s_14.1.len : Int) == (1 : Int)) (
    J_15 () w_7) (
    Q w_7)) (
    Q w_7)) fun _ _ w_8 =>
    cond' ((Int.tmod s_14.2 (2 : Int)) == (0 : Int)) (
    chkP (inR (0 : Int) s_14.1.len) <|
    nilP s_14.1.a fun a_18 =>
    loadP w_8.drew ((a_18.add (Int.toNat (0 : Int) * 20)).add 0) 1 (Value.int .u32) fun v_19 =>
    chkP (inR (0 : Int) s_14.1.len) <|
    nilP s_14.1.a fun a_20 =>
    loadP w_8.drew ((a_20.add (Int.toNat (0 : Int) * 20)).add 1) 19 ChunkV.val fun v_21 =>
    callP P 30 #[(.pointer (some (⟨q, 0, none⟩ : Addr))), (.int .u32 v_19), (ChunkV.val v_21), (.int .u64 now)] w_8.drew SlV.val fun r_22 w_9 =>
    next__13 (r_22, (IntKind.i64.wrap (s_14.2 + (1 : Int)))) w_9) (
    chkP (inR (0 : Int) s_14.1.len) <|
    nilP s_14.1.a fun a_23 =>
    loadP w_8.drew ((a_23.add (Int.toNat (0 : Int) * 20)).add 0) 1 (Value.int .u32) fun v_24 =>
    chkP (inR (0 : Int) s_14.1.len) <|
    nilP s_14.1.a fun a_25 =>
    loadP w_8.drew ((a_25.add (Int.toNat (0 : Int) * 20)).add 1) 19 ChunkV.val fun v_26 =>
    callP P 30 #[(.pointer (some (⟨p, 0, none⟩ : Addr))), (.int .u32 v_24), (ChunkV.val v_26), (.int .u64 now)] w_8.drew SlV.val fun r_27 w_10 =>
    next__13 (r_27, (IntKind.i64.wrap (s_14.2 + (1 : Int)))) w_10) := by
  refine loop_i (fun s w' => ∃ i : Nat, s.2 = (i : Int) ∧ i ≤ 4 ∧ St w' (OutA s.1 (hsN a b now i) :: PtA p (hsX a b now i) :: PtA q (hsY a b now i) :: H)) (fun s _ => 4 - s.2.toNat) ⟨0, rfl, by omega, h⟩ ?_
  rintro g ⟨r, _⟩ w1 ⟨i, rfl, hi, h⟩
  simp only at h
  have step : ∀ (j : Nat) r' w', IntKind.i64.wrap ((j : Int) + 1) = ((j + 1 : Nat) : Int) → j < 4 → St w' (OutA r' (hsN a b now (j + 1)) :: PtA p (hsX a b now (j + 1)) :: PtA q (hsY a b now (j + 1)) :: H) →
      (∃ i : Nat, ((r', IntKind.i64.wrap ((j : Int) + 1)) : SlV × Int).2 = (i : Int) ∧ i ≤ 4 ∧ St w' (OutA ((r', IntKind.i64.wrap ((j : Int) + 1)) : SlV × Int).1 (hsN a b now i) :: PtA p (hsX a b now i) :: PtA q (hsY a b now i) :: H)) ∧ 4 - ((r', IntKind.i64.wrap ((j : Int) + 1)) : SlV × Int).2.toNat < 4 - ((r, (j : Int)) : SlV × Int).2.toNat := by
    intro j r' w' ej hj hh
    refine ⟨⟨j + 1, ej, hj, hh⟩, ?_⟩
    show 4 - (IntKind.i64.wrap ((j : Int) + 1)).toNat < 4 - ((j : Int)).toNat
    rw [ej]; omega
  refine cut_i (fun _ w' => w' = w1 ∧ i < 4) ?_ ?_
  · refine cond_i (fun e => ?_) (fun e => ?_)
    · have e : i < 4 := by simp at e; omega
      have hlen : r.len = 1 := by
        match i, e, h with
        | 0, _, h => exact NoteA.len h
        | 1, _, h => exact NoteA.len h
        | 2, _, h => exact NoteA.len h
        | 3, _, h => exact NoteA.len h
      exact cond_t (by simp [hlen]) ⟨rfl, e⟩
    · have e : i = 4 := by simp at e; omega
      subst e
      exact k _ h.drop
  rintro g2 _ w2 ⟨rfl, hi⟩
  match i, hi, h with
  | 0, _, h =>
    refine cond_t rfl ?_
    refine hearN (q := q) (y := hsY a b now 0) (now := now) h.g2.g1 (initC_ps (by simp)) BL_nil hkb fun r' w' h => ?_
    rw [hs0 ha0] at h
    exact step 0 _ _ (by decide) (by omega) h.g2.g1
  | 1, _, h =>
    refine cond_f rfl ?_
    refine hearN (q := p) (y := hsX a b now 1) (now := now) h n2_ps BL_nil hka fun r' w' h => ?_
    rw [hs1 ha0 hb0] at h
    exact step 1 _ _ (by decide) (by omega) h
  | 2, _, h =>
    refine cond_t rfl ?_
    refine hearN (q := q) (y := hsY a b now 2) (now := now) h.g2.g1 (by simp) (BL_made (ckA_wf ha hb now) _) hkb fun r' w' h => ?_
    rw [hs2 ha hb] at h
    exact step 2 _ _ (by decide) (by omega) h.g2.g1
  | 3, _, h =>
    refine cond_f rfl ?_
    refine hearN (q := p) (y := hsX a b now 3) (now := now) h (by simp) BL_nil hka fun r' w' h => ?_
    rw [hs3] at h
    exact step 3 _ _ (by decide) (by omega) h

abbrev eA : EndV := { Tag := (5 : Int), Tsn := (100 : Int), Window := (9 : Int), Inter := true, Key := ({ data := #[107] } : ByteArray) }
abbrev eB : EndV := { Tag := (6 : Int), Tsn := (200 : Int), Window := (8 : Int), Inter := true, Key := ({ data := #[108] } : ByteArray) }
set_option maxHeartbeats 1000000 in
/-- first -/
theorem c27 {w : World} {H : List HA} {K : Bool → World → Prop} (h : St w H) (k : ∀ w', St w' H → K true w') : callP P 27 #[] w Value.bool K := sf27_call _ _ (by
  refine c28 (e := eA) h (by decide) fun p w1 h => ?_
  refine c28 (e := eB) h (by decide) fun q w2 h => ?_
  refine c28z h rfl fun w3 h => ?_
  refine cut_i (fun _ w' => w' = w3) ?_ ?_
  · refine cond_f rfl (cond_f rfl (cond_f rfl (cond_f rfl (cond_f rfl rfl))))
  rintro g _ w4 rfl
  refine c29 h.g1 fun r w5 h => ?_
  refine cut_i (fun _ w' => St w' (PtA p (hsX eA eB 0 4) :: PtA q (hsY eA eB 0 4) :: H)) ?_ ?_
  · refine hsLoop (a := eA) (b := eB) (now := 0) ⟨⟨by decide, by decide⟩, ⟨by decide, by decide⟩, ⟨by decide, by decide⟩⟩ ⟨⟨by decide, by decide⟩, ⟨by decide, by decide⟩, ⟨by decide, by decide⟩⟩ (by decide) (by decide) (by decide) (by decide) h fun w' h => h
  rintro g _ w6 h
  refine c31p h (cond_t rfl ?_)
  refine c31p h.g1 (cond_t rfl ?_)
  refine c36 h fun w13 h => cond_t ?_ ?_
  · have e : interC (n2 eA eB 0).ps = true := by
      unfold interC find n2 initC
      rfl
    show negB false (((hsX eA eB 0 4).met.Tag == 6) && (((hsX eA eB 0 4).met.Tsn == 200) && (((hsX eA eB 0 4).met.Window == 8) && (((hsX eA eB 0 4).met.Inter == true) && true)))) = true
    have e2 : (hsX eA eB 0 4).met = ⟨6, 200, 8, true && interC (n2 eA eB 0).ps⟩ := rfl
    rw [e2, e]
    rfl
  refine c36 h.g1 fun w14 h => ?_
  exact k _ h.drop.drop)
end Go.Vc.SA
