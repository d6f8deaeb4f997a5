/-
  ResetOnce: the walk.
-/
import Derived.Test.YtbcmfajacbpaiaaC8
set_option linter.all false
set_option linter.unusedVariables false
set_option maxRecDepth 100000
namespace Go.Vc
section
variable {w : World} {H H' : List HA} {b : Nat} {cs : List Value} {T : TypeId}
theorem St.hold {α : Type} {val : α → Value} {x : α} {o : Nat} [o1 : One val] [c : CellsIn b H cs T H'] (h : St w H) (hx : cs[o]? = some (val x)) : Holds w ⟨b, o, none⟩ 1 (val x) := by
  obtain ⟨y, hy, e⟩ := (h.ld (b := b) (K := fun y => y = x) hx rfl).ex
  subst e
  exact hy
theorem St.holda {α : Type} {val : α → Value} {x : α} {o i : Nat} [o1 : One val] [c : CellsIn b H cs T H'] (h : St w H) (hx : cs[o + i]? = some (val x)) : Holds w ((⟨b, o, none⟩ : Addr).add i) 1 (val x) := by
  rw [add_lit]; exact h.hold (b := b) hx
/-- append(s, y), where y lies in a block of its own already -/
theorem St.appY {α : Type} {val : α → Value} {n : Nat} {s : SlV} {xs : List α} {P : Program} {t ty : TypeId} {bytes : Nat} {x : α} {K : SlV → World → Prop} [hw : Wide val n] [c : SlIn n val s H xs H'] (h : St w (cellsA b cs T :: H)) (ht : SlT P t n val bytes) (hn : 0 < n)
    (hc : cs = (val x).cells.toList) (hb : (xs.length + 1) * bytes ≤ 140737488355328) (hm : xs.length < 4611686018427387904)
    (k : ∀ s' w', St w' (SlO n val s' (xs ++ [x]) :: H') → K s' w') :
    runP P (Builtin.append_ #[t, t] ty #[s.val, (SlV.mk (some (⟨b, 0, none⟩ : Addr)) 1 1).val]) w SlV.val K := by
  have hy : Sl w n val (SlV.mk (some (⟨b, 0, none⟩ : Addr)) 1 1) [x] := Sl.lit (xs := [x]) h (by rw [hc]; simp [flat]) (by rw [maxLen_eq]; simp)
  have h2 := h.fsl (s := s)
  refine h2.append ht hn hy hb (by rw [maxLen_eq]; simp; omega) fun s' w' h' => k s' w' ?_
  exact h'.g1.drop
end
theorem Sl.nil {α : Type} {val : α → Value} {n : Nat} (w : World) : Sl w n val SlV.nil ([] : List α) := ⟨⟨rfl, Nat.le_refl _, Nat.zero_le _⟩, .inl rfl⟩
theorem arrF_at {n k : Nat} {f : Nat → Value} (h : k < n) : (arrF n f)[0 + Int.toNat (k : Int) * 1]? = some (f k) := by
  rw [Int.toNat_natCast, Nat.mul_one, Nat.zero_add]; exact arrF_get h
theorem arrF_congr {n : Nat} {f g : Nat → Value} (h : ∀ j, j < n → f j = g j) : arrF n f = arrF n g := by
  unfold arrF
  exact List.map_congr_left fun j hj => h j (List.mem_range.1 hj)
end Go.Vc
namespace Go.Vc.SB
open Go.Proofs
theorem slT46 : SlT P 46 2 ParamV.val 32 := slT_of (by kernel_rfl)

theorem act_k (v : Int) : ∃ k : Nat, k < 2 ∧ IntKind.i64.wrap (Int.tmod (IntKind.u64.wrap v) 2) = (k : Int) := by
  refine ⟨(v % 18446744073709551616 % 2).toNat, by omega, ?_⟩
  rw [wrap_u64, Int.tmod_eq_emod_of_nonneg (by omega), wrap_i64 (by omega) (by omega)]
  omega
theorem act_o {k : Nat} (h : k < 2) : IntKind.i64.wrap ((1 : Int) - (k : Int)) = ((1 - k : Nat) : Int) := by
  rw [wrap_i64 (by omega) (by omega)]
  omega
theorem act_s (v : Int) : 0 ≤ IntKind.u16.wrap (Int.tmod (IntKind.u64.wrap (Int.tdiv (IntKind.u64.wrap v) 2)) 8) ∧ IntKind.u16.wrap (Int.tmod (IntKind.u64.wrap (Int.tdiv (IntKind.u64.wrap v) 2)) 8) < 8 := by
  rw [wrap_u64, wrap_u64, Int.tmod_eq_emod_of_nonneg (by omega), wrap_u16]
  omega
theorem act_at (v : Int) {n : Nat} (h0 : 0 < n) (hn : n ≤ 1000) : ∃ j : Nat, j < n ∧ IntKind.i64.wrap (Int.tmod (IntKind.u64.wrap (Int.tdiv (IntKind.u64.wrap v) 64)) (IntKind.u64.wrap (n : Int))) = (j : Int) := by
  generalize Int.tdiv (IntKind.u64.wrap v) 64 = u
  have e : IntKind.u64.wrap (n : Int) = n := by rw [wrap_u64]; omega
  rw [e, wrap_u64, Int.tmod_eq_emod_of_nonneg (by omega)]
  have h1 := Int.emod_nonneg (u % 18446744073709551616) (show (n : Int) ≠ 0 by omega)
  have h2 := Int.emod_lt_of_pos (u % 18446744073709551616) (show (0 : Int) < n by omega)
  refine ⟨(u % 18446744073709551616 % n).toNat, by omega, ?_⟩
  rw [wrap_i64 (by omega) (by omega)]
  omega

/-- a message goes behind the others on its way -/
theorem push {b5 j : Nat} {v : Nat → SlV} {ps : List ParamV} {p : ParamV} {w : World} {H H1 H2 : List HA} {T : TypeId} {J : World → Prop} [c : CellsIn b5 H (arrF 2 fun i => (v i).val) T H1] [c2 : SlIn 2 ParamV.val (v j) H1 ps H2] (h : St w H) (hj : j < 2) (hl : ps.length ≤ 1000)
    (k : ∀ w' s', St w' (cellsA b5 (arrF 2 fun i => (updN v j s' i).val) T :: SlO 2 ParamV.val s' (ps ++ [p]) :: H2) → J w') :
    newP w (.cells (ParamV.val p).cells 83) fun b w1 => Holds w1 ((⟨b5, 0, none⟩ : Addr).add (Int.toNat (j : Int) * 1)) 1 (SlV.val (v j)) ∧
      (runP P (Builtin.append_ #[46, 46] 46 #[(SlV.val (v j)), (SlV.val (SlV.mk (some (⟨b, 0, none⟩ : Addr)) 1 1))]) w1 SlV.val fun r w2 =>
        chkP (inR (j : Int) 2) <| storeP w2 ((⟨b5, 0, none⟩ : Addr).add (Int.toNat (j : Int) * 1)) 1 (SlV.val r) J) := by
  have h := ((c2.imp w).cons).st (h.fcells (b := b5))
  refine h.nw fun b w1 h => ⟨h.holda (b := b5) (x := v j) (arrF_at hj), ?_⟩
  refine (h.re (G := cellsA b p.val.cells.toList 83 :: SlO 2 ParamV.val (v j) ps :: cellsA b5 (arrF 2 fun i => (v i).val) T :: H2)).appY (s := v j) (x := p) slT46 (by omega) rfl (by omega) (by omega) fun s' w2 h => ?_
  refine chk_i (inR_i (by omega) (by omega)) ?_
  refine h.stna (b := b5) (v := s'.val) rfl rfl (by rw [arrF_len]; simp; omega) fun w3 h => k w3 s' ?_
  have e : putL (arrF 2 fun i => (v i).val) (0 + Int.toNat (j : Int) * 1) s'.val.cells.toList = arrF 2 fun i => (updN v j s' i).val := by
    rw [Int.toNat_natCast, Nat.mul_one, Nat.zero_add]
    refine (arrF_put (n := 2) (i := j) (v := s'.val)).trans (arrF_congr fun i _ => ?_)
    unfold updN
    split <;> rfl
  rw [e] at h
  exact h

/-- some counts go on by one -/
theorem bump {b k : Nat} {f : Nat → Int} {l : List Int} {s : SlV} {w : World} {T : TypeId} {H : List HA} {REST : World → Prop} (h : St w (cellsA b (arrF 16 fun j => .int .i64 (f j)) T :: H)) (hk : k < 2)
    (hs : ∀ w' x, St w' (cellsA b x T :: H) → Sl w' 1 (Value.int .u16) s l) (hl : rising l) (hf : ∀ j, j < 16 → 0 ≤ f j ∧ f j ≤ 1000)
    (hr : ∀ w', St w' (cellsA b (arrF 16 fun j => .int .i64 (f j + if j / 8 = k ∧ ((j % 8 : Nat) : Int) ∈ l then 1 else 0)) T :: H) → REST w') :
    loopP (Int) (0 : Int) w fun next _ s_48 w_32 =>
      cond' (decide (s_48 < (s.len : Int))) (
      chkP (inR s_48 s.len) <|
      nilP s.a fun a_49 =>
      loadP w_32 (a_49.add (Int.toNat s_48 * 1)) 1 (Value.int .u16) fun v_50 =>
      chkP (inR (k : Int) 2) <|
      chkP (inR (Int.tmod v_50 (8 : Int)) 8) <|
      loadP w_32.drew (((⟨b, 0, none⟩ : Addr).add (Int.toNat (k : Int) * 8)).add (Int.toNat (Int.tmod v_50 (8 : Int)) * 1)) 1 (Value.int .i64) fun v_51 =>
      chkP (inR (k : Int) 2) <|
      chkP (inR (Int.tmod v_50 (8 : Int)) 8) <|
      storeP w_32.drew (((⟨b, 0, none⟩ : Addr).add (Int.toNat (k : Int) * 8)).add (Int.toNat (Int.tmod v_50 (8 : Int)) * 1)) 1 (.int .i64 (IntKind.i64.wrap (v_51 + (1 : Int)))) fun w_33 =>
      next (IntKind.i64.wrap (s_48 + (1 : Int))) w_33) (REST w_32) := by
  have hlen := (hs w _ h).len
  refine loop_cnt (n := l.length) (fun i w' => St w' (cellsA b (arrF 16 fun j => .int .i64 (f j + if j / 8 = k ∧ ((j % 8 : Nat) : Int) ∈ l.take i then 1 else 0)) T :: H)) (by simpa using h) ?_ ?_
  · rintro g i w1 next hi h hn
    have hsl := hs _ _ h
    rw [hlen]
    refine cond_t (lt_true hi) ?_
    rw [← hlen]
    refine hsl.atN (List.getElem?_eq_getElem hi) fun a _ => ?_
    have hx := hl.1 l[i] (List.getElem_mem hi)
    obtain ⟨x, hxe⟩ : ∃ x : Nat, l[i] = (x : Int) := ⟨l[i].toNat, by omega⟩
    have hx8 : x < 8 := by omega
    have em : Int.tmod (l[i]) 8 = (x : Int) := by rw [hxe, Int.tmod_eq_emod_of_nonneg (by omega)]; omega
    rw [em]
    refine chk_i (inR_i (by omega) (by omega)) (chk_i (inR_i (by omega) (by omega)) ?_)
    have h := h.drew
    have hni : ¬ ((x : Int) ∈ l.take i) := by
      intro hm
      have hp := hl.2
      rw [List.pairwise_iff_getElem] at hp
      obtain ⟨j, hj, e⟩ := List.mem_take_iff_getElem.1 hm
      have := hp j i (by omega) hi (by omega)
      omega
    have hidx : 0 + Int.toNat (k : Int) * 8 + Int.toNat (x : Int) * 1 = k * 8 + x := by simp
    have hd : (k * 8 + x) / 8 = k ∧ (k * 8 + x) % 8 = x := by omega
    refine h.ldaa (x := f (k * 8 + x)) ?_ (chk_i (inR_i (by omega) (by omega)) (chk_i (inR_i (by omega) (by omega)) ?_))
    · rw [hidx, arrF_get (by omega), if_neg (by rw [hd.2]; exact fun h => hni h.2), Int.add_zero]
    refine h.stnaa rfl rfl (by rw [arrF_len]; simp; omega) fun w2 h => ?_
    rw [wrap_succ (hsl.len_lt hi)]
    refine hn _ ?_
    rw [hidx] at h
    have hb := hf (k * 8 + x) (by omega)
    rw [wrap_i64 (by omega) (by omega)] at h
    have e := arrF_put (n := 16) (i := k * 8 + x) (f := fun j => .int .i64 (f j + if j / 8 = k ∧ ((j % 8 : Nat) : Int) ∈ l.take i then 1 else 0)) (v := .int .i64 (f (k * 8 + x) + 1))
    change St w2 (cellsA b (putL _ _ [.int .i64 (f (k * 8 + x) + 1)]) T :: H) at h
    rw [e] at h
    have e2 : arrF 16 (updN (fun j => .int .i64 (f j + if j / 8 = k ∧ ((j % 8 : Nat) : Int) ∈ l.take i then 1 else 0)) (k * 8 + x) (.int .i64 (f (k * 8 + x) + 1))) =
        arrF 16 fun j => .int .i64 (f j + if j / 8 = k ∧ ((j % 8 : Nat) : Int) ∈ l.take (i + 1) then 1 else 0) := by
      refine arrF_congr fun j hj => ?_
      rw [List.take_succ_eq_append_getElem hi]
      by_cases hjx : j = k * 8 + x
      · subst hjx
        rw [updN_same, if_pos ⟨hd.1, by rw [hd.2, hxe]; simp⟩]
      · rw [updN_other _ _ hjx]
        have : ¬ (j / 8 = k ∧ ((j % 8 : Nat) : Int) = l[i]) := by rw [hxe]; omega
        have hiff : (j / 8 = k ∧ ((j % 8 : Nat) : Int) ∈ l.take i ++ [l[i]]) ↔ (j / 8 = k ∧ ((j % 8 : Nat) : Int) ∈ l.take i) := by
          rw [List.mem_append, List.mem_singleton]
          constructor
          · rintro ⟨h1, h2 | h2⟩
            · exact ⟨h1, h2⟩
            · exact absurd ⟨h1, h2⟩ this
          · rintro ⟨h1, h2⟩
            exact ⟨h1, .inl h2⟩
        simp only [hiff]
    rw [e2] at h
    exact h
  · rintro g w1 next h
    rw [List.take_length] at h
    rw [hlen]
    exact cond_f (lt_false _) (hr _ h)

/-! ### the state between the acts -/
abbrev ends (e : Nat → Nat) : List Value := arrF 2 fun j => .pointer (some ⟨e j, 0, none⟩)
abbrev nets (v : Nat → SlV) : List Value := arrF 2 fun j => (v j).val
abbrev dns (D : Nat → Dir) : List Value := arrF 16 fun j => .int .i64 ((D (j / 8)).dn (j % 8))
abbrev ins (D : Nat → Dir) : List Value := arrF 16 fun j => .int .i64 ((D (1 - j / 8)).inn (j % 8))
abbrev Sn (b4 b5 b6 b7 : Nat) (e : Nat → Nat) (v : Nat → SlV) (D : Nat → Dir) (ps : Nat → List ParamV) (pool : List (SlV × List Int)) (k : Nat) (H : List HA) : List HA :=
  cellsA b4 (ends e) 75 :: cellsA b5 (nets v) 78 :: cellsA b6 (dns D) 80 :: cellsA b7 (ins D) 80 :: SlO 2 ParamV.val (v k) (ps k) :: SlO 2 ParamV.val (v (1 - k)) (ps (1 - k)) ::
    En (e k) (esOf (D k) (D (1 - k))) :: En (e (1 - k)) (esOf (D (1 - k)) (D k)) :: Pool pool :: H
section
variable {b4 b5 b6 b7 : Nat} {e : Nat → Nat} {v : Nat → SlV} {D : Nat → Dir} {ps : Nat → List ParamV} {pool : List (SlV × List Int)} {k : Nat} {H : List HA} {w : World}
theorem Sn.to (hk : k < 2) (h : St w (Sn b4 b5 b6 b7 e v D ps pool 0 H)) : St w (Sn b4 b5 b6 b7 e v D ps pool k H) := by
  rcases (show k = 0 ∨ k = 1 by omega) with rfl | rfl
  · exact h
  · have h' := h
    simp only [Sn, Nat.sub_self, Nat.sub_zero] at h' ⊢
    exact h'.re
theorem Sn.fro (hk : k < 2) (h : St w (Sn b4 b5 b6 b7 e v D ps pool k H)) : St w (Sn b4 b5 b6 b7 e v D ps pool 0 H) := by
  rcases (show k = 0 ∨ k = 1 by omega) with rfl | rfl
  · exact h
  · have h' := h
    simp only [Sn, Nat.sub_self, Nat.sub_zero] at h' ⊢
    exact h'.re

def OkAll (i : Nat) (D : Nat → Dir) (pool : List (SlV × List Int)) (ps : Nat → List ParamV) : Prop := ∀ k, k < 2 → DirOk i (D k) ∧ NetOk i (D k) (D (1 - k)) pool (ps k)
def Iv (b4 b5 b6 b7 : Nat) (e : Nat → Nat) (H : List HA) (i : Nat) (w : World) : Prop := ∃ v D ps pool, OkAll i D pool ps ∧ St w (Sn b4 b5 b6 b7 e v D ps pool 0 H)

def two {α : Type} (k : Nat) (x y : α) : Nat → α := fun j => if j = k then x else y
theorem two_a {α : Type} {k : Nat} {x y : α} : two k x y k = x := by simp [two]
theorem two_b {α : Type} {k : Nat} {x y : α} (hk : k < 2) : two k x y (1 - k) = y := by
  unfold two; rw [if_neg (by omega)]

theorem Iv.mk' {i : Nat} {X Y : Dir} {p q : List ParamV} {c6 c7 : List Value} (hk : k < 2) (h : St w (cellsA b4 (ends e) 75 :: cellsA b5 (nets v) 78 :: cellsA b6 c6 80 :: cellsA b7 c7 80 :: SlO 2 ParamV.val (v k) p :: SlO 2 ParamV.val (v (1 - k)) q ::
    En (e k) (esOf X Y) :: En (e (1 - k)) (esOf Y X) :: Pool pool :: H)) (hX : DirOk i X) (hY : DirOk i Y) (hN : NetOk i X Y pool p) (hM : NetOk i Y X pool q) (h6 : c6 = dns (two k X Y)) (h7 : c7 = ins (two k X Y)) : Iv b4 b5 b6 b7 e H i w := by
  refine ⟨v, two k X Y, two k p q, pool, ?_, Sn.fro hk ?_⟩
  · intro j hj
    by_cases h : j = k
    · subst h
      rw [two_a, two_a, two_b hj]
      exact ⟨hX, hN⟩
    · have e1 : j = 1 - k := by omega
      subst e1
      have e2 : 1 - (1 - k) = k := by omega
      rw [two_b hk, two_b hk, e2, two_a]
      exact ⟨hY, hM⟩
  · subst h6 h7
    unfold Sn
    rw [two_a, two_a, two_b hk, two_b hk]
    exact h
theorem dns_same {X Y : Dir} (hk : k < 2) (hx : X.dn = (D k).dn) (hy : Y.dn = (D (1 - k)).dn) : dns D = dns (two k X Y) := by
  refine arrF_congr fun j hj => ?_
  by_cases h : j / 8 = k
  · rw [h, two_a, hx]
  · have : j / 8 = 1 - k := by omega
    rw [this, two_b hk, hy]
theorem ins_same {X Y : Dir} (hk : k < 2) (hx : X.inn = (D k).inn) (hy : Y.inn = (D (1 - k)).inn) : ins D = ins (two k X Y) := by
  refine arrF_congr fun j hj => ?_
  by_cases h : 1 - j / 8 = k
  · rw [h, two_a, hx]
  · have : 1 - j / 8 = 1 - k := by omega
    rw [this, two_b hk, hy]
end
end Go.Vc.SB
