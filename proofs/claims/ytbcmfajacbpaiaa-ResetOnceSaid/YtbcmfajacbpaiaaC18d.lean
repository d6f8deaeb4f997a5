/-
  first; ResetLater: what the call comes to.
-/
import Derived.Test.YtbcmfajacbpaiaaC18c
set_option linter.all false
set_option linter.unusedVariables false
set_option maxRecDepth 100000
namespace Go.Vc.SB
open Go.Proofs

theorem sorted_eq {ys zs : List Int} (h : ys.Perm zs) (h1 : ys.Pairwise (· ≤ ·)) (h2 : zs.Pairwise (· ≤ ·)) : ys = zs :=
  List.Perm.eq_of_pairwise (fun _ _ _ _ a b => Int.le_antisymm a b) h1 h2 h

theorem bytes_be2 (v : Int) : Bytes (be2 v) := by
  intro x hx
  simp [be2] at hx
  omega
theorem Bytes.app {a b : List Int} (ha : Bytes a) (hb : Bytes b) : Bytes (a ++ b) := fun x hx => (List.mem_append.1 hx).elim (ha x) (hb x)
theorem bytes_be4 (v : Int) : Bytes (be4 v) := (bytes_be2 _).app (bytes_be2 _)
theorem bytes_be2s (l : List Int) : Bytes (be2s l) := by
  intro x hx
  simp only [be2s, List.mem_flatten, List.mem_map] at hx
  obtain ⟨_, ⟨y, _, rfl⟩, h⟩ := hx
  exact bytes_be2 y x h
theorem bytes_ask (m t last : Int) (l : List Int) : Bytes (askB m t last l) := (((bytes_be4 _).app (bytes_be4 _)).app (bytes_be4 _)).app (bytes_be2s _)

theorem num_be4 {v : Int} (h0 : 0 ≤ v) (h1 : v < 4294967296) : num (be4 v) = v := by
  simp only [num, be4, be2, List.cons_append, List.nil_append, List.foldl_cons, List.foldl_nil]
  omega
theorem ask_take4 (m t last : Int) (l : List Int) : (askB m t last l).take 4 = be4 m := rfl
theorem ask_drop8 (m t last : Int) (l : List Int) : ((askB m t last l).drop 8).take 4 = be4 last := rfl
theorem ask_drop12 (m t last : Int) (l : List Int) : (askB m t last l).drop 12 = be2s l := rfl
theorem askedS_be2s : ∀ (l acc : List Int), (∀ x ∈ l, 0 ≤ x ∧ x < 65536) → (acc ++ l).Pairwise (· < ·) → askedS (be2s l) acc = some (acc ++ l)
  | [], acc, _, _ => by simp [be2s, askedS]
  | x :: l, acc, hr, hp => by
    have hx := hr x (by simp)
    have e : be2s (x :: l) = (x / 256 % 256) :: (x % 256) :: be2s l := rfl
    have e2 : x / 256 % 256 * 256 + x % 256 = x := by omega
    rw [e, askedS, e2, if_neg, askedS_be2s l (acc ++ [x]) (fun y hy => hr y (by simp [hy])) (by simpa using hp)]
    · simp
    · rintro ⟨hne, hle⟩
      rw [List.pairwise_append] at hp
      have hm : acc.getLastD 0 ∈ acc := by
        rcases List.eq_nil_or_concat acc with h | ⟨l', a, h⟩
        · exact absurd h hne
        · rw [h]; simp
      have := hp.2.2 _ hm x (by simp)
      omega
theorem askedP_ask {th mark m t last : Int} {l : List Int} (hm : 0 ≤ m ∧ m < 4294967296) (hl : 0 ≤ last ∧ last < 4294967296) (hr : ∀ x ∈ l, 0 ≤ x ∧ x < 65536) (hp : l.Pairwise (· < ·)) :
    askedP th mark (askB m t last l) = if m = (th - 1) % 4294967296 then .rep m 1 else if m ≠ th then .rep m 5 else if less32 mark last then .rep m 6 else .fresh m l := by
  unfold askedP
  rw [if_neg (by rw [askB_len]; omega), ask_take4, ask_drop8, ask_drop12, num_be4 hm.1 hm.2, num_be4 hl.1 hl.2, askedS_be2s l [] hr (by simpa using hp)]
  rfl
theorem answP_ans {x : ES} {n r : Int} (hn : 0 ≤ n ∧ n < 4294967296) (hr : r = 1 ∨ r = 5 ∨ r = 6) :
    answP x (be4 n ++ be4 r) = if x.open_ = [] ∨ n ≠ x.mine ∨ r ≠ 1 then .old else .done := by
  unfold answP
  have e1 : (be4 n ++ be4 r).take 4 = be4 n := rfl
  have e2 : ((be4 n ++ be4 r).drop 4).take 4 = be4 r := rfl
  rw [e1, e2, num_be4 hn.1 hn.2, num_be4 (by omega) (by omega), if_neg (by simp [be4, be2]), if_neg (by omega)]

/-- Hear a request -/
theorem hearAsk {b : Nat} {mark m t last : Int} {l : List Int} {v : SlV} {w : World} {H H' : List HA} {x : ES} {K : HeardV × Int → World → Prop} [c : AtIn En b H x H'] (h : St w H) (hs : Sl w 1 (Value.int .u8) v (askB m t last l))
    (hb : l.length ≤ 65536) (hm : 0 ≤ m ∧ m < 4294967296) (hl : 0 ≤ last ∧ last < 4294967296) (hr : ∀ x ∈ l, 0 ≤ x ∧ x < 65536) (hp : l.Pairwise (· < ·))
    (krep : ∀ r, (r = 1 ∧ m = (x.theirs - 1) % 4294967296 ∨ r = 5 ∧ m ≠ (x.theirs - 1) % 4294967296 ∧ m ≠ x.theirs ∨ r = 6 ∧ m = x.theirs ∧ less32 mark last = true) → ∀ q w', St w' (Pm q (16, be4 m ++ be4 r) :: En b x :: H') → K (⟨some ⟨q, 0, none⟩, SlV.nil, false, SlV.nil⟩, 0) w')
    (kfr : m = x.theirs → less32 mark last = false → ∀ q s w', St w' (Pm q (16, be4 m ++ be4 1) :: SlO 1 (Value.int .u16) s l :: En b { x with theirs := (x.theirs + 1) % 4294967296 } :: H') → K (⟨some ⟨q, 0, none⟩, s, decide (l = []), SlV.nil⟩, 0) w') :
    callP P 39 #[.pointer (some ⟨b, 0, none⟩), ParamV.val ⟨13, v⟩, .int .u32 mark] w (tup2V HeardV.val (Value.int .i64)) K := by
  have hP := askedP_ask (th := x.theirs) (mark := mark) (t := t) hm hl hr hp
  refine c39 (p := ⟨13, v⟩) h hs (by rw [askB_len]; omega) (bytes_ask _ _ _ _) (fun hk => ?_) (fun n r _ hq => ?_) (fun n l' _ hq => ?_) (fun hk => by simp at hk) (fun hk => by simp at hk) (fun hk => by simp at hk)
  · rcases hk with ⟨_, hk⟩ | ⟨hk, _⟩
    · rw [hP] at hk
      split at hk
      · cases hk
      · split at hk
        · cases hk
        · split at hk <;> cases hk
    · simp at hk
  · rw [hP] at hq
    split at hq
    · cases hq; exact krep 1 (.inl ⟨rfl, by assumption⟩)
    · split at hq
      · cases hq; exact krep 5 (.inr (.inl ⟨rfl, by assumption, by assumption⟩))
      · rename_i h1 h2
        split at hq
        · cases hq; exact krep 6 (.inr (.inr ⟨rfl, Decidable.of_not_not h2, by assumption⟩))
        · cases hq
  · rw [hP] at hq
    split at hq
    · cases hq
    · split at hq
      · cases hq
      · rename_i h1 h2
        split at hq
        · cases hq
        · rename_i h3
          cases hq
          exact kfr (Decidable.of_not_not h2) (by simpa using h3)

/-- Hear an answer, by its pointer -/
theorem hearAns {b q : Nat} {n r mark : Int} {w : World} {H H' H'' : List HA} {x : ES} {K : HeardV × Int → World → Prop} [c : AtIn Pm q H (16, be4 n ++ be4 r) H'] [c2 : AtIn En b H' x H''] (h : St w H)
    (hn : 0 ≤ n ∧ n < 4294967296) (hr : r = 1 ∨ r = 5 ∨ r = 6)
    (kold : x.open_ = [] ∨ n ≠ x.mine ∨ r ≠ 1 → ∀ w', St w' (En b x :: Pm q (16, be4 n ++ be4 r) :: H'') → K (⟨none, SlV.nil, false, SlV.nil⟩, 0) w')
    (kdone : x.open_ ≠ [] → n = x.mine → r = 1 → ∀ s w', St w' (SlO 1 (Value.int .u16) s x.open_ :: En b ⟨(x.mine + 1) % 4294967296, x.theirs, x.wanted, [], []⟩ :: Pm q (16, be4 n ++ be4 r) :: H'') → K (⟨none, SlV.nil, false, s⟩, 0) w') :
    nilP (some (⟨q, 0, none⟩ : Addr)) fun a => loadP w a 2 ParamV.val fun v => callP P 39 #[.pointer (some ⟨b, 0, none⟩), ParamV.val v, .int .u32 mark] w (tup2V HeardV.val (Value.int .i64)) K := by
  have h := (c2.imp w).cons.st (h.front (mk := Pm) (k := q))
  obtain ⟨s, h⟩ := Pm.un h
  show loadP _ _ _ _ _
  refine h.ldn (x := ⟨16, s⟩) rfl rfl ?_
  have hP := answP_ans (x := x) hn hr
  have back : ∀ {y : ES} {w' : World} {G : List HA}, St w' (En b y :: cellsA q [.int .u16 16, s.val] 83 :: SlO 1 (Value.int .u8) s (be4 n ++ be4 r) :: G) → St w' (En b y :: Pm q (16, be4 n ++ be4 r) :: G) := fun {y w' G} h =>
    (Pm.mk (x := (16, be4 n ++ be4 r)) (h.re (G := cellsA q [.int .u16 16, s.val] 83 :: SlO 1 (Value.int .u8) s (be4 n ++ be4 r) :: En b y :: G))).g1
  refine c39 (p := ⟨16, s⟩) h h.g1.sl (by simp [be4, be2]) ((bytes_be4 _).app (bytes_be4 _)) (fun hk => ?_) (fun _ _ hk => by simp at hk) (fun _ _ hk => by simp at hk) (fun _ hk => ?_) (fun _ hk => ?_) (fun _ hk => by simp at hk)
  · rcases hk with ⟨hk, _⟩ | ⟨_, hk⟩
    · simp at hk
    · rw [hP] at hk
      split at hk <;> cases hk
  · rw [hP] at hk
    split at hk
    · exact fun w' h => kold (by assumption) w' (back h)
    · cases hk
  · rw [hP] at hk
    split at hk
    · cases hk
    · rename_i hc
      refine fun s' w' h => kdone (fun e => hc (.inl e)) (Decidable.of_not_not fun e => hc (.inr (.inl e))) (Decidable.of_not_not fun e => hc (.inr (.inr e))) s' w' ?_
      change St w' (SlO 1 (Value.int .u16) s' x.open_ :: En b ⟨(x.mine + 1) % 4294967296, x.theirs, x.wanted, [], []⟩ :: cellsA q [.int .u16 16, s.val] 83 :: SlO 1 (Value.int .u8) s (be4 n ++ be4 r) :: H'') at h
      exact (back (h.re (G := En b ⟨(x.mine + 1) % 4294967296, x.theirs, x.wanted, [], []⟩ :: cellsA q [.int .u16 16, s.val] 83 :: SlO 1 (Value.int .u8) s (be4 n ++ be4 r) :: SlO 1 (Value.int .u16) s' x.open_ :: H''))).re

/-- first -/
theorem c34 {w : World} {H : List HA} {K : Bool → World → Prop} (h : St w H) (k : ∀ w', St w' H → K true w') : callP P 34 #[] w Value.bool K := sf34_call _ _ (by
  refine c35 h fun e w1 h => c35 h fun o w2 h => ?_
  refine cut_i (fun _ w' => St w' (En o ⟨200, 100, [], [], []⟩ :: En e ⟨100, 200, [], [], []⟩ :: H)) (cond_f rfl (cond_f rfl h)) ?_
  rintro g _ w3 h
  refine h.nw fun b6 w4 h => ?_
  have h : St w4 (SlO 1 (Value.int .u16) ⟨some ⟨b6, 0, none⟩, 2, 2⟩ [3, 1] :: _) := SlO.of_cells (xs := [3, 1]) h rfl rfl (by simp [maxLen_eq])
  refine c36 (b := e) h (by simp) fun w5 ys hp hs h => ?_
  have hy : ys = [1, 3] := sorted_eq (hp.trans (show ([3, 1] : List Int).Perm [1, 3] from List.Perm.swap _ _ _)) hs (by simp)
  subst hy
  refine h.nw fun b8 w6 h => ?_
  have h : St w6 (SlO 1 (Value.int .u16) ⟨some ⟨b8, 0, none⟩, 2, 2⟩ [1, 2] :: _) := SlO.of_cells (xs := [1, 2]) h rfl rfl (by simp [maxLen_eq])
  refine c37 (b := e) h (by simp) (fun hk => absurd rfl hk) (fun _ hk => by simp [openL] at hk) fun _ _ v w7 h => ?_
  refine h.nw fun b10 w8 h => ?_
  refine h.stn rfl rfl (Nat.le_of_ble_eq_true rfl) fun w9 h => ?_
  refine h.ldn (b := b10) (x := ⟨13, v⟩) rfl rfl ?_
  change St w9 (cellsA b10 [.int .u16 13, v.val] 83 :: SlO 1 (Value.int .u8) v (askB 100 200 50 [1]) :: En e ⟨100, 200, [3], [1], askB 100 200 50 [1]⟩ :: _) at h
  refine hearAsk (b := o) h h.g1.sl (by simp) (by omega) (by omega) (by simp) (by simp) (fun r hr q w10 h => ?_) (fun _ hk => absurd hk (by decide))
  have hr : r = 6 := by
    rcases hr with ⟨_, hr⟩ | ⟨_, _, hr⟩ | ⟨hr, _⟩
    · exact absurd hr (by decide)
    · exact absurd rfl hr
    · exact hr
  subst hr
  refine h.nw fun b13 w11 h => ?_
  refine h.stn rfl rfl (Nat.le_of_ble_eq_true rfl) fun w12 h => ?_
  refine h.ldn (b := b10) (x := ⟨13, v⟩) rfl rfl ?_
  refine hearAsk (b := o) (v := v) h h.slIn (by simp) (by omega) (by omega) (by simp) (by simp) (fun r hr q w10 h => ?_) (fun _ _ q2 s2 w13 h => ?_)
  · exfalso
    rcases hr with ⟨_, hr⟩ | ⟨_, _, hr⟩ | ⟨_, _, hr⟩
    · exact absurd hr (by decide)
    · exact absurd rfl hr
    · exact absurd hr (by decide)
  refine h.nw fun b16 w14 h => ?_
  refine h.stn rfl rfl (Nat.le_of_ble_eq_true rfl) fun w15 h => ?_
  refine cut_i (fun _ w' => St w' (cellsA b16 [.pointer (some ⟨q2, 0, none⟩), s2.val, .bool false, SlV.nil.val] 90 :: Pm q2 (16, be4 100 ++ be4 1) :: En e ⟨100, 200, [3], [1], askB 100 200 50 [1]⟩ :: H)) ?_ ?_
  · refine cond_f rfl (cond_f rfl (cond_f rfl ?_))
    refine h.lda (b := b13) rfl (cond_f rfl ?_)
    refine h.lda (b := b16) rfl (cond_f rfl ?_)
    refine h.lda (b := b13) rfl (cond_f rfl ?_)
    refine h.lda (b := b16) rfl ?_
    have hs2 := h.slIn (s := s2)
    refine h.nwg fun b29 w17 h hg => ?_
    have hl : Sl w17 1 (Value.int .u16) ⟨some ⟨b29, 0, none⟩, 1, 1⟩ [1] := Sl.lit (xs := [1]) h rfl (by simp [maxLen_eq])
    refine c47 h (hs2.grow hg) hl fun w18 h => cond_f rfl ?_
    change St w18 (_ :: cellsA b16 [.pointer (some ⟨q2, 0, none⟩), s2.val, .bool false, SlV.nil.val] 90 :: _) at h
    exact h.re
  · rintro g2 _ w16 h
    refine h.lda (b := b16) rfl ?_
    refine hearAns (b := e) (n := 100) (r := 1) h (by omega) (by omega) (fun hk => by simp at hk) fun _ _ _ s3 w17 h => ?_
    refine h.nw fun b35 w18 h => ?_
    refine h.stn rfl rfl (Nat.le_of_ble_eq_true rfl) fun w19 h => ?_
    refine cond_t rfl ?_
    refine h.lda (b := b35) rfl ?_
    have hs3 := h.slIn (s := s3)
    refine h.nwg fun b38 w20 h hg => ?_
    have hl : Sl w20 1 (Value.int .u16) ⟨some ⟨b38, 0, none⟩, 1, 1⟩ [1] := Sl.lit (xs := [1]) h rfl (by simp [maxLen_eq])
    refine c47 h (hs3.grow hg) hl fun w21 h => cond_t rfl ?_
    refine c46 (b := e) h (by simp) fun r41 w22 h => ?_
    have hs4 := h.slIn (s := r41)
    refine h.nwg fun b42 w23 h hg => ?_
    have hl : Sl w23 1 (Value.int .u16) ⟨some ⟨b42, 0, none⟩, 1, 1⟩ [3] := Sl.lit (xs := [3]) h rfl (by simp [maxLen_eq])
    refine c47 h (hs4.grow hg) hl fun w24 h => ?_
    exact k _ h.re)

theorem less_back {last k : Int} (h0 : 0 ≤ last ∧ last < 4294967296) (hk : 0 < k ∧ k < 2147483648) : less32 (IntKind.u32.wrap (last - k)) last = true := by
  have e : IntKind.u32.wrap (last - IntKind.u32.wrap (last - k)) = k := by rw [wrap_u32, wrap_u32]; omega
  have e2 : IntKind.i32.wrap k = k := by rw [IntKind.wrap_i32]; omega
  rw [less32, e, e2]
  simp; omega
theorem less_self (last : Int) : less32 last last = false := by
  rw [less32, Int.sub_self]
  decide

/-- ResetLater -/
theorem c10 {mine theirs last : Int} {w : World} {H : List HA} {K : Bool → World → Prop} (h : St w H) (hm : 0 ≤ mine ∧ mine < 4294967296) (hl : 0 ≤ last ∧ last < 4294967296)
    (k : ∀ w', St w' H → K true w') : callP P 10 #[.int .u32 mine, .int .u32 theirs, .int .u32 last] w Value.bool K := sf10_call _ _ _ _ _ (by
  refine c34 h fun w1 h => cond_f rfl ?_
  refine c35 h fun e w1 h => c35 h fun o w2 h => ?_
  refine h.nw fun b4 w4 h => ?_
  have h : St w4 (SlO 1 (Value.int .u16) ⟨some ⟨b4, 0, none⟩, 2, 2⟩ [5, 2] :: _) := SlO.of_cells (xs := [5, 2]) h rfl rfl (by simp [maxLen_eq])
  refine c36 (b := e) h (by simp) fun w5 ys hp hs h => ?_
  have hy : ys = [2, 5] := sorted_eq (hp.trans (show ([5, 2] : List Int).Perm [2, 5] from List.Perm.swap _ _ _)) hs (by simp)
  subst hy
  refine h.nw fun b6 w6 h => ?_
  have h : St w6 (SlO 1 (Value.int .u16) ⟨some ⟨b6, 0, none⟩, 2, 2⟩ [2, 5] :: _) := SlO.of_cells (xs := [2, 5]) h rfl rfl (by simp [maxLen_eq])
  refine c37 (b := e) h (by simp) (fun hk => absurd rfl hk) (fun _ hk => by simp [openL] at hk) fun _ _ v w7 h => ?_
  refine h.nw fun b8 w8 h => ?_
  refine h.stn rfl rfl (Nat.le_of_ble_eq_true rfl) fun w9 h => ?_
  refine cond_f rfl ?_
  change St w9 (cellsA b8 [.int .u16 13, v.val] 83 :: SlO 1 (Value.int .u8) v (askB mine theirs last [2, 5]) :: En e ⟨mine, theirs, [], [2, 5], askB mine theirs last [2, 5]⟩ :: _) at h
  have h : St w9 (cellsA b8 [.int .u16 13, v.val] 83 :: SlO 1 (Value.int .u8) v (askB mine theirs last [2, 5]) :: En e ⟨mine, theirs, [], [2, 5], askB mine theirs last [2, 5]⟩ :: En o ⟨theirs, mine, [], [], []⟩ :: H) := h.re
  refine h.nw fun b9 w10 h => ?_
  refine loop_cnt (n := 3) (fun i w' => St w' (cellsA b9 [.int .u32 1000, .int .u32 1, .int .u32 2] 35 :: cellsA b8 [.int .u16 13, v.val] 83 :: SlO 1 (Value.int .u8) v (askB mine theirs last [2, 5]) :: En e ⟨mine, theirs, [], [2, 5], askB mine theirs last [2, 5]⟩ :: En o ⟨theirs, mine, [], [], []⟩ :: H)) h ?_ ?_
  · rintro g i w11 next hi h hn
    refine cond_t (lt_true hi) (chk_i (inR_i (by omega) (by omega)) ?_)
    obtain ⟨kk, hk, hk0⟩ : ∃ kk : Int, ([.int .u32 1000, .int .u32 1, .int .u32 2] : List Value)[0 + Int.toNat (i : Int) * 1]? = some (.int .u32 kk) ∧ 0 < kk ∧ kk < 2147483648 := by
      match i, hi with
      | 0, _ => exact ⟨1000, rfl, by omega⟩
      | 1, _ => exact ⟨1, rfl, by omega⟩
      | 2, _ => exact ⟨2, rfl, by omega⟩
    refine h.lda (b := b9) hk ?_
    refine h.ldn (b := b8) (x := ⟨13, v⟩) rfl rfl ?_
    refine hearAsk (b := o) (v := v) h h.slIn (by simp) hm hl (by simp) (by simp) (fun r hr q w12 h => ?_) (fun _ hless => by rw [less_back hl hk0] at hless; cases hless)
    have hr : r = 6 := by
      rcases hr with ⟨_, hr⟩ | ⟨_, _, hr⟩ | ⟨hr, _⟩
      · exfalso; simp only at hr; omega
      · exact absurd rfl hr
      · exact hr
    subst hr
    refine h.nw fun b15 w13 h => ?_
    refine h.stn rfl rfl (Nat.le_of_ble_eq_true rfl) fun w14 h => ?_
    change St w14 (cellsA b15 [.pointer (some ⟨q, 0, none⟩), SlV.nil.val, .bool false, SlV.nil.val] 90 :: _) at h
    refine cut_i (fun _ w' => St w' (cellsA b15 [.pointer (some ⟨q, 0, none⟩), SlV.nil.val, .bool false, SlV.nil.val] 90 :: Pm q (16, be4 mine ++ be4 6) :: En o ⟨theirs, mine, [], [], []⟩ :: cellsA b9 [.int .u32 1000, .int .u32 1, .int .u32 2] 35 :: cellsA b8 [.int .u16 13, v.val] 83 :: SlO 1 (Value.int .u8) v (askB mine theirs last [2, 5]) :: En e ⟨mine, theirs, [], [2, 5], askB mine theirs last [2, 5]⟩ :: H)) ?_ ?_
    · refine cond_f rfl (h.lda (b := b15) rfl (cond_f rfl (h.lda (b := b15) rfl (cond_f rfl h.re))))
    · rintro g2 _ w15 h
      refine h.lda (b := b15) rfl ?_
      refine hearAns (b := e) (n := mine) (r := 6) h hm (by omega) (fun _ w16 h => ?_) (fun _ _ hk => absurd hk (by omega))
      refine h.nw fun b26 w17 h => ?_
      refine h.stn rfl rfl (Nat.le_of_ble_eq_true rfl) fun w18 h => ?_
      refine cond_f rfl (h.lda (b := b26) rfl (cond_f rfl ?_))
      rw [wrap_succ (by omega)]
      exact hn _ h.re
  · rintro g w11 next h
    refine cond_f (by decide) ?_
    refine h.ldn (b := b8) (x := ⟨13, v⟩) rfl rfl ?_
    refine hearAsk (b := o) (v := v) h h.slIn (by simp) hm hl (by simp) (by simp) (fun r hr q w12 h => ?_) (fun _ _ q s w12 h => ?_)
    · exfalso
      rcases hr with ⟨_, hr⟩ | ⟨_, _, hr⟩ | ⟨_, _, hr⟩
      · simp only at hr; omega
      · exact absurd rfl hr
      · rw [less_self] at hr; cases hr
    refine h.nw fun b31 w13 h => ?_
    refine h.stn rfl rfl (Nat.le_of_ble_eq_true rfl) fun w14 h => ?_
    refine h.ldn (b := b8) (x := ⟨13, v⟩) rfl rfl ?_
    refine hearAsk (b := o) (v := v) h h.slIn (by simp) hm hl (by simp) (by simp) (fun r hr q2 w15 h => ?_) (fun hk => by simp only at hk; omega)
    have hr : r = 1 := by
      rcases hr with ⟨hr, _⟩ | ⟨_, hr, _⟩ | ⟨_, hr, _⟩
      · exact hr
      · exfalso; simp only at hr; omega
      · exfalso; simp only at hr; omega
    subst hr
    refine h.nw fun b34 w16 h => ?_
    refine h.stn rfl rfl (Nat.le_of_ble_eq_true rfl) fun w17 h => ?_
    change St w17 (cellsA b34 [.pointer (some ⟨q2, 0, none⟩), SlV.nil.val, .bool false, SlV.nil.val] 90 :: _) at h
    refine cut_i (fun _ w' => St w' (cellsA b34 [.pointer (some ⟨q2, 0, none⟩), SlV.nil.val, .bool false, SlV.nil.val] 90 :: Pm q2 (16, be4 mine ++ be4 1) :: En e ⟨mine, theirs, [], [2, 5], askB mine theirs last [2, 5]⟩ :: H)) ?_ ?_
    · refine cond_f rfl (cond_f rfl ?_)
      refine h.lda (b := b31) rfl ?_
      have hs := h.slIn (s := s)
      refine h.nwg fun b40 w18 h hg => ?_
      have hl : Sl w18 1 (Value.int .u16) ⟨some ⟨b40, 0, none⟩, 2, 2⟩ [2, 5] := Sl.lit (xs := [2, 5]) h rfl (by simp [maxLen_eq])
      refine c47 h (hs.grow hg) hl fun w19 h => cond_f rfl ?_
      refine h.lda (b := b34) rfl (cond_f rfl (h.lda (b := b34) rfl (cond_f rfl h.re)))
    · rintro g2 _ w18 h
      refine h.lda (b := b34) rfl ?_
      refine hearAns (b := e) (n := mine) (r := 1) h hm (by omega) (fun hk => by simp at hk) fun _ _ _ s3 w19 h => ?_
      refine h.nw fun b50 w20 h => ?_
      refine h.stn rfl rfl (Nat.le_of_ble_eq_true rfl) fun w21 h => ?_
      refine cond_t rfl (h.lda (b := b50) rfl ?_)
      have hs := h.slIn (s := s3)
      refine h.nwg fun b53 w22 h hg => ?_
      have hl : Sl w22 1 (Value.int .u16) ⟨some ⟨b53, 0, none⟩, 2, 2⟩ [2, 5] := Sl.lit (xs := [2, 5]) h rfl (by simp [maxLen_eq])
      refine c47 h (hs.grow hg) hl fun w23 h => cond_t rfl ?_
      refine c48 (b := e) h ?_
      exact k _ h.re)
end Go.Vc.SB
