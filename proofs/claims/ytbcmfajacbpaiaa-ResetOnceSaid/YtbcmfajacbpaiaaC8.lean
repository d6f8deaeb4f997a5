/-
  ResetOnce: what holds between two engines.
-/
import Derived.Test.YtbcmfajacbpaiaaC18d
import Derived.Test.YtbcmfajacbpaiaaVcSep4
set_option linter.all false
set_option linter.unusedVariables false
set_option maxRecDepth 100000
namespace Go.Vc.SB
open Go.Proofs
instance : Wide ParamV.val 2 := ⟨fun _ => rfl, fun _ => rfl⟩

def num32 (a : Int) (m : Nat) : Int := (a + m) % 4294967296
def rising (l : List Int) : Prop := (∀ x ∈ l, 0 ≤ x ∧ x < 8) ∧ l.Pairwise (· < ·)
structure Dir where
  a : Int
  M : Nat
  T : Nat
  wa : List Int
  op : List Int
  rq : List Int
  dn : Nat → Int
  inn : Nat → Int
abbrev esOf (X Y : Dir) : ES := ⟨num32 X.a X.M, num32 Y.a Y.T, X.wa, X.op, X.rq⟩
/-- a message on its way to the end of X -/
def MsgTo (X Y : Dir) (kind : Int) (bs : List Int) : Prop :=
  (kind = 13 ∧ ∃ m l t, bs = askB (num32 Y.a m) t 0 l ∧ m ≤ Y.M ∧ rising l ∧ (m = Y.M → l = Y.op ∧ l ≠ [])) ∨
  (kind = 16 ∧ ∃ m r, bs = be4 (num32 X.a m) ++ be4 r ∧ m ≤ X.M ∧ (r = 1 ∨ r = 5 ∨ r = 6) ∧ (m = X.M → r = 1 → X.T = X.M + 1))
structure DirOk (i : Nat) (X : Dir) : Prop where
  Mi : X.M ≤ i
  lo : X.M ≤ X.T
  hi : X.T ≤ X.M + 1
  shut : X.op = [] → X.T = X.M
  wa : rising X.wa
  op : rising X.op
  rql : X.rq.length ≤ 100
  rq : X.op ≠ [] → ∃ t, X.rq = askB (num32 X.a X.M) t 0 X.op
  dn : ∀ x, x < 8 → 0 ≤ X.dn x ∧ X.dn x ≤ X.M
  inn : ∀ x, x < 8 → X.inn x = X.dn x + if X.T = X.M + 1 ∧ (x : Int) ∈ X.op then 1 else 0
structure NetOk (i : Nat) (X Y : Dir) (pool : List (SlV × List Int)) (ps : List ParamV) : Prop where
  len : ps.length ≤ i
  all : ∀ p ∈ ps, ∃ bs, (p.Value_, bs) ∈ pool ∧ MsgTo X Y p.Kind bs

theorem num32_range (a : Int) (m : Nat) : 0 ≤ num32 a m ∧ num32 a m < 4294967296 := by unfold num32; omega
theorem num32_eq {a : Int} {m n : Nat} (hm : m ≤ 1000) (hn : n ≤ 1000) (h : num32 a m = num32 a n) : m = n := by unfold num32 at h; omega
theorem num32_succ (a : Int) (m : Nat) : (num32 a m + 1) % 4294967296 = num32 a (m + 1) := by unfold num32; omega
theorem num32_pred {a : Int} {m n : Nat} (hm : m ≤ 1000) (hn : n ≤ 1000) (h : num32 a m = (num32 a n - 1) % 4294967296) : n = m + 1 := by unfold num32 at h; omega
theorem rising_len {l : List Int} (h : rising l) : l.length ≤ 8 := by
  have g : ∀ (l : List Int) (lo : Int), lo ≤ 8 → (∀ x ∈ l, lo ≤ x ∧ x < 8) → l.Pairwise (· < ·) → (l.length : Int) ≤ 8 - lo := by
    intro l
    induction l with
    | nil => intro lo h _ _; simp; omega
    | cons x l ih =>
      intro lo h0 hr hp
      have hx := hr x (by simp)
      have := ih (x + 1) (by omega) (fun y hy => ⟨by have := (List.pairwise_cons.1 hp).1 y hy; omega, (hr y (by simp [hy])).2⟩) (List.pairwise_cons.1 hp).2
      simp only [List.length_cons]
      omega
  have := g l 0 (by omega) h.1 h.2
  omega
theorem rising_filter {l : List Int} (h : rising l) (p : Int → Bool) : rising (l.filter p) :=
  ⟨fun x hx => h.1 x (List.mem_filter.1 hx).1, h.2.sublist List.filter_sublist⟩
theorem rising_nil : rising [] := ⟨fun _ h => by simp at h, .nil⟩
/-- what Want leaves, where one is wanted -/
theorem rising_want {X : ES} {ys : List Int} {s : Int} (hs : 0 ≤ s ∧ s < 8) (hw : rising X.wanted) (hp : ys.Perm (want1 X X.wanted s)) (hy : ys.Pairwise (· ≤ ·)) : rising ys := by
  have hn : (want1 X X.wanted s).Nodup := by
    have h0 : X.wanted.Nodup := hw.2.imp (fun h => Int.ne_of_lt h)
    unfold want1
    split
    · exact h0
    · rename_i h
      rw [List.nodup_append]
      exact ⟨h0, by simp, fun a ha b hb => by simp at hb; subst hb; exact fun e => h (.inl (e ▸ ha))⟩
  have hm : ∀ x ∈ want1 X X.wanted s, 0 ≤ x ∧ x < 8 := by
    intro x hx
    unfold want1 at hx
    split at hx
    · exact hw.1 x hx
    · rcases List.mem_append.1 hx with h | h
      · exact hw.1 x h
      · simp at h; subst h; exact hs
  refine ⟨fun x hx => hm x (hp.mem_iff.1 hx), ?_⟩
  have hny : ys.Nodup := hp.nodup_iff.2 hn
  exact (List.pairwise_and_iff.2 ⟨hy, hny⟩).imp fun h => Int.lt_iff_le_and_ne.2 h

/-! ### what acts do, at the end of X -/
section
variable {i : Nat} {X Y : Dir} {pool : List (SlV × List Int)} {ps ps' : List ParamV}
theorem DirOk.mono (h : DirOk i X) {j : Nat} (hj : i ≤ j) : DirOk j X := { h with Mi := Nat.le_trans h.Mi hj }
theorem NetOk.mono (h : NetOk i X Y pool ps) {j : Nat} (hj : i ≤ j) : NetOk j X Y pool ps := { h with len := Nat.le_trans h.len hj }
theorem NetOk.more (h : NetOk i X Y pool ps) (x : SlV × List Int) : NetOk i X Y (x :: pool) ps :=
  { h with all := fun p hp => by obtain ⟨bs, h1, h2⟩ := h.all p hp; exact ⟨bs, List.mem_cons_of_mem _ h1, h2⟩ }
theorem NetOk.add (h : NetOk i X Y pool ps) {kind : Int} {v : SlV} {bs : List Int} (hm : MsgTo X Y kind bs) : NetOk (i + 1) X Y ((v, bs) :: pool) (ps ++ [⟨kind, v⟩]) where
  len := by have := h.len; simp; omega
  all p hp := by
    rcases List.mem_append.1 hp with hp | hp
    · obtain ⟨bs, h1, h2⟩ := h.all p hp
      exact ⟨bs, List.mem_cons_of_mem _ h1, h2⟩
    · simp at hp
      subst hp
      exact ⟨bs, by simp, hm⟩
theorem NetOk.drop (h : NetOk i X Y pool ps) (n : Nat) : NetOk i X Y pool (ps.drop n) where
  len := by have := h.len; simp; omega
  all p hp := h.all p (List.mem_of_mem_drop hp)

/-- what the messages ask of the two directions -/
theorem MsgTo.imp {X Y X' Y' : Dir} {kind : Int} {bs : List Int} (h : MsgTo X Y kind bs) (ea : X'.a = X.a) (eb : Y'.a = Y.a)
    (hY : ∀ m l, m ≤ Y.M → (m = Y.M → l = Y.op ∧ l ≠ []) → m ≤ Y'.M ∧ (m = Y'.M → l = Y'.op ∧ l ≠ []))
    (hX : ∀ m, m ≤ X.M → (m = X.M → X.T = X.M + 1) → m ≤ X'.M ∧ (m = X'.M → X'.T = X'.M + 1)) (hX' : X.M ≤ X'.M) : MsgTo X' Y' kind bs := by
  rcases h with ⟨hk, m, l, t, e, hm, hl, hc⟩ | ⟨hk, m, r, e, hm, hr, hc⟩
  · obtain ⟨h1, h2⟩ := hY m l hm hc
    exact .inl ⟨hk, m, l, t, by rw [eb]; exact e, h1, hl, h2⟩
  · refine .inr ⟨hk, m, r, by rw [ea]; exact e, Nat.le_trans hm hX', hr, fun e1 e2 => ?_⟩
    exact (hX m hm fun e3 => hc e3 e2).2 e1

/-- Open -/
theorem open_step {l left : List Int} {t : Int} (hX : DirOk i X) (hN : NetOk i X Y pool ps) (hN' : NetOk i Y X pool ps') (he : X.op = []) (hl : rising l) (hl0 : l ≠ []) (hw : rising left) :
    DirOk i { X with wa := left, op := l, rq := askB (num32 X.a X.M) t 0 l } ∧ NetOk i { X with wa := left, op := l, rq := askB (num32 X.a X.M) t 0 l } Y pool ps ∧
      NetOk i Y { X with wa := left, op := l, rq := askB (num32 X.a X.M) t 0 l } pool ps' ∧ MsgTo Y { X with wa := left, op := l, rq := askB (num32 X.a X.M) t 0 l } 13 (askB (num32 X.a X.M) t 0 l) := by
  have hT := hX.shut he
  refine ⟨{ Mi := hX.Mi, lo := hX.lo, hi := hX.hi, shut := fun e => absurd e hl0, wa := hw, op := hl, rql := ?_, rq := fun _ => ⟨t, rfl⟩, dn := hX.dn, inn := fun x hx => ?_ }, ⟨hN.len, hN.all⟩, ⟨hN'.len, fun p hp => ?_⟩, ?_⟩
  · show (askB _ _ _ _).length ≤ 100
    rw [askB_len]
    have := rising_len hl
    omega
  · have := hX.inn x hx
    rw [if_neg (by rw [hT]; rintro ⟨h, _⟩; omega)] at this
    rw [if_neg (by show ¬ (X.T = X.M + 1 ∧ _); rw [hT]; rintro ⟨h, _⟩; omega)]
    exact this
  · obtain ⟨bs, h1, h2⟩ := hN'.all p hp
    refine ⟨bs, h1, h2.imp rfl rfl (fun m l' hm hc => ⟨hm, fun e => ?_⟩) (fun m hm hc => ⟨hm, hc⟩) (Nat.le_refl _)⟩
    obtain ⟨e1, e2⟩ := hc e
    rw [he] at e1
    exact absurd e1 e2
  · exact .inl ⟨rfl, X.M, l, t, rfl, Nat.le_refl _, hl, fun _ => ⟨rfl, hl0⟩⟩
theorem again_step (hX : DirOk i X) (he : X.op ≠ []) : MsgTo Y X 13 X.rq := by
  obtain ⟨t, e⟩ := hX.rq he
  exact .inl ⟨rfl, X.M, X.op, t, e, Nat.le_refl _, hX.op, fun _ => ⟨rfl, he⟩⟩
theorem rep_step {m : Nat} {r : Int} (hY : DirOk i Y) (hi : i ≤ 200) (hm : m ≤ Y.M) (hr : r = 1 ∧ num32 Y.a m = (num32 Y.a Y.T - 1) % 4294967296 ∨ r = 5 ∨ r = 6) : MsgTo Y X 16 (be4 (num32 Y.a m) ++ be4 r) := by
  have h1 := hY.Mi; have h2 := hY.hi
  refine .inr ⟨rfl, m, r, rfl, hm, hr.imp (·.1) id, fun e e1 => ?_⟩
  rcases hr with ⟨_, h⟩ | h | h
  · have := num32_pred (by omega) (by omega) h
    omega
  · omega
  · omega
theorem fresh_step {m : Nat} {l : List Int} (hY : DirOk i Y) (hN : NetOk i X Y pool ps) (hN' : NetOk i Y X pool ps') (hi : i ≤ 200) (hm : m ≤ Y.M) (hc : m = Y.M → l = Y.op ∧ l ≠ []) (ht : num32 Y.a m = num32 Y.a Y.T) :
    DirOk i { Y with T := Y.T + 1, inn := fun x => Y.inn x + if (x : Int) ∈ l then 1 else 0 } ∧ NetOk i X { Y with T := Y.T + 1, inn := fun x => Y.inn x + if (x : Int) ∈ l then 1 else 0 } pool ps ∧
      NetOk i { Y with T := Y.T + 1, inn := fun x => Y.inn x + if (x : Int) ∈ l then 1 else 0 } X pool ps' ∧ MsgTo { Y with T := Y.T + 1, inn := fun x => Y.inn x + if (x : Int) ∈ l then 1 else 0 } X 16 (be4 (num32 Y.a m) ++ be4 1) := by
  have h1 := hY.Mi; have h2 := hY.hi; have h3 := hY.lo
  have e := num32_eq (by omega) (by omega) ht
  have em : m = Y.M := by omega
  obtain ⟨el, hl0⟩ := hc em
  have eT : Y.T = Y.M := by omega
  refine ⟨{ Mi := hY.Mi, lo := by show Y.M ≤ Y.T + 1; omega, hi := by show Y.T + 1 ≤ Y.M + 1; omega, shut := fun e2 => ?_, wa := hY.wa, op := hY.op, rql := hY.rql, rq := hY.rq, dn := hY.dn, inn := fun x hx => ?_ }, ⟨hN.len, hN.all⟩, ⟨hN'.len, fun p hp => ?_⟩, ?_⟩
  · rw [el] at hl0
    exact absurd e2 hl0
  · show Y.inn x + _ = Y.dn x + if Y.T + 1 = Y.M + 1 ∧ _ then 1 else 0
    rw [hY.inn x hx, if_neg (by rintro ⟨h, _⟩; omega), el]
    simp [eT]
  · obtain ⟨bs, h1, h2⟩ := hN'.all p hp
    exact ⟨bs, h1, h2.imp rfl rfl (fun m l' hm hc => ⟨hm, hc⟩) (fun m' hm' _ => ⟨hm', fun e => by show Y.T + 1 = Y.M + 1; omega⟩) (Nat.le_refl _)⟩
  · exact .inr ⟨rfl, m, 1, rfl, hm, .inl rfl, fun _ _ => by show Y.T + 1 = Y.M + 1; omega⟩
theorem done_step {m : Nat} {r : Int} (hX : DirOk i X) (hN : NetOk i X Y pool ps) (hN' : NetOk i Y X pool ps') (hi : i ≤ 200) (hm : m ≤ X.M) (hc : m = X.M → r = 1 → X.T = X.M + 1) (hn : num32 X.a m = num32 X.a X.M) (hr : r = 1) :
    DirOk (i + 1) { X with M := X.M + 1, op := [], rq := [], dn := fun x => X.dn x + if (x : Int) ∈ X.op then 1 else 0 } ∧ NetOk (i + 1) { X with M := X.M + 1, op := [], rq := [], dn := fun x => X.dn x + if (x : Int) ∈ X.op then 1 else 0 } Y pool ps ∧
      NetOk (i + 1) Y { X with M := X.M + 1, op := [], rq := [], dn := fun x => X.dn x + if (x : Int) ∈ X.op then 1 else 0 } pool ps' := by
  have h1 := hX.Mi
  have em := num32_eq (by omega) (by omega) hn
  have hT := hc em hr
  refine ⟨{ Mi := by show X.M + 1 ≤ i + 1; omega, lo := by show X.M + 1 ≤ X.T; omega, hi := by show X.T ≤ X.M + 1 + 1; omega, shut := fun _ => hT, wa := hX.wa, op := rising_nil, rql := by simp, rq := fun h => absurd rfl h, dn := fun x hx => ?_, inn := fun x hx => ?_ }, ⟨by have := hN.len; omega, fun p hp => ?_⟩, ⟨by have := hN'.len; omega, fun p hp => ?_⟩⟩
  · have := hX.dn x hx
    show 0 ≤ X.dn x + _ ∧ X.dn x + _ ≤ ((X.M + 1 : Nat) : Int)
    split <;> omega
  · show X.inn x = X.dn x + _ + _
    rw [hX.inn x hx]
    simp [hT]
  · obtain ⟨bs, h1, h2⟩ := hN.all p hp
    exact ⟨bs, h1, h2.imp rfl rfl (fun m l' hm hc => ⟨hm, hc⟩) (fun m' hm' _ => ⟨by show m' ≤ X.M + 1; omega, fun e => by exfalso; change m' = X.M + 1 at e; omega⟩) (by show X.M ≤ X.M + 1; omega)⟩
  · obtain ⟨bs, h1, h2⟩ := hN'.all p hp
    exact ⟨bs, h1, h2.imp rfl rfl (fun m' l' hm' hc => ⟨by show m' ≤ X.M + 1; omega, fun e => by exfalso; change m' = X.M + 1 at e; omega⟩) (fun m hm hc => ⟨hm, hc⟩) (Nat.le_refl _)⟩
end
end Go.Vc.SB
