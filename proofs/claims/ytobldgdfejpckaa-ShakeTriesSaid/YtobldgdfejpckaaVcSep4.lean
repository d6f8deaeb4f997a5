/-
  Arrays as functions; a pool of byte slices that are only read. No program in sight.
-/
import Derived.Test.YtobldgdfejpckaaVcSep3
set_option linter.all false
set_option linter.unusedVariables false
namespace Go.Vc

def arrF (n : Nat) (f : Nat → Value) : List Value := (List.range n).map f
theorem arrF_get {n i : Nat} {f : Nat → Value} (h : i < n) : (arrF n f)[i]? = some (f i) := by simp [arrF, h]
theorem arrF_len (n : Nat) (f : Nat → Value) : (arrF n f).length = n := by simp [arrF]
def updN {α : Type} (f : Nat → α) (i : Nat) (v : α) : Nat → α := fun j => if j = i then v else f j
theorem updN_same {α : Type} (f : Nat → α) (i : Nat) (v : α) : updN f i v i = v := by simp [updN]
theorem updN_other {α : Type} (f : Nat → α) {i j : Nat} (v : α) (h : j ≠ i) : updN f i v j = f j := by simp [updN, h]
theorem arrF_set {n i : Nat} {f : Nat → Value} {v : Value} : (arrF n f).set i v = arrF n (updN f i v) := by
  apply List.ext_getElem?
  intro j
  rw [List.getElem?_set]
  by_cases hj : j < n
  · by_cases hij : i = j
    · subst hij
      simp [arrF, hj, updN]
    · simp [arrF, hj, updN, hij, Ne.symm hij]
  · simp [arrF, hj]
    omega
theorem arrF_put {n i : Nat} {f : Nat → Value} {v : Value} : putL (arrF n f) i [v] = arrF n (updN f i v) := arrF_set

def Pool : List (SlV × List Int) → HA
  | [] => .emp
  | x :: l => .sep (SlO 1 (Value.int .u8) x.1 x.2) (Pool l)
theorem Pool.nil {w : World} {H : List HA} (h : St w H) : St w (Pool [] :: H) :=
  h.add (.refl w) (fun _ _ => rfl) (F := fun _ => False) (fun _ h => h) (fun _ h => h.elim)
theorem Pool.add {w : World} {H : List HA} {s : SlV} {bs : List Int} {l : List (SlV × List Int)} (h : St w (SlO 1 (Value.int .u8) s bs :: Pool l :: H)) : St w (Pool ((s, bs) :: l) :: H) := h.mksep
theorem Pool.get {w : World} : ∀ {l : List (SlV × List Int)} {H : List HA} {s : SlV} {bs : List Int}, St w (Pool l :: H) → (s, bs) ∈ l → Sl w 1 (Value.int .u8) s bs
  | x :: l, H, s, bs, h, hm => by
    have h := h.unsep
    rcases List.mem_cons.1 hm with e | e
    · cases e
      exact h.sl
    · exact Pool.get h.g1 e
section
variable {w : World} {H H' : List HA} {b : Nat} {cs : List Value} {T : TypeId}
theorem St.hold {α : Type} {val : α → Value} {x : α} {o : Nat} [o1 : One val] [c : CellsIn b H cs T H'] (h : St w H) (hx : cs[o]? = some (val x)) : Holds w ⟨b, o, none⟩ 1 (val x) := by
  obtain ⟨y, hy, e⟩ := (h.ld (b := b) (K := fun y => y = x) hx rfl).ex
  subst e
  exact hy
theorem St.holda {α : Type} {val : α → Value} {x : α} {o i : Nat} [o1 : One val] [c : CellsIn b H cs T H'] (h : St w H) (hx : cs[o + i]? = some (val x)) : Holds w ((⟨b, o, none⟩ : Addr).add i) 1 (val x) := by
  rw [add_lit]; exact h.hold (b := b) hx
/-- append(s, y), where y lies in a block of its own already -/
theorem St.appY {α : Type} {val : α → Value} {n : Nat} {s : SlV} {xs : List α} {P : Program} {t ty : TypeId} {bytes : Nat} {x : α} {K : SlV → World → Prop} [hw : Wide val n] [c : SlIn n val s H xs H'] (h : St w (cellsA b cs T :: H)) (ht : SlT P t n val bytes) (hn : 0 < n)
    (hc : cs = (val x).cells.toList) (hb : (xs.length + 1) * bytes ≤ 140737488355328) (hm : xs.length < 4611686018427387904)
    (k : ∀ s' w', St w' (SlO n val s' (xs ++ [x]) :: H') → K s' w') :
    runP P (Builtin.append_ #[t, t] ty #[s.val, (SlV.mk (some (⟨b, 0, none⟩ : Addr)) 1 1).val]) w SlV.val K := by
  have hy : Sl w n val (SlV.mk (some (⟨b, 0, none⟩ : Addr)) 1 1) [x] := Sl.lit (xs := [x]) h (by rw [hc]; simp [flat]) (by rw [maxLen_eq]; simp)
  have h2 := h.fsl (s := s)
  refine h2.append ht hn hy hb (by rw [maxLen_eq]; simp; omega) fun s' w' h' => k s' w' ?_
  exact h'.g1.drop
end
theorem Sl.nil {α : Type} {val : α → Value} {n : Nat} (w : World) : Sl w n val SlV.nil ([] : List α) := ⟨⟨rfl, Nat.le_refl _, Nat.zero_le _⟩, .inl rfl⟩
theorem arrF_at {n k : Nat} {f : Nat → Value} (h : k < n) : (arrF n f)[0 + Int.toNat (k : Int) * 1]? = some (f k) := by
  rw [Int.toNat_natCast, Nat.mul_one, Nat.zero_add]; exact arrF_get h
theorem arrF_congr {n : Nat} {f g : Nat → Value} (h : ∀ j, j < n → f j = g j) : arrF n f = arrF n g := by
  unfold arrF
  exact List.map_congr_left fun j hj => h j (List.mem_range.1 hj)
end Go.Vc
