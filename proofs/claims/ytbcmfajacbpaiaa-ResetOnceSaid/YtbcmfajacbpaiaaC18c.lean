/-
  reset.Hear; lists that are the same: contracts.
-/
import Derived.Test.YtbcmfajacbpaiaaC18b
set_option linter.all false
set_option linter.unusedVariables false
set_option maxRecDepth 100000
namespace Go.Vc.SB
open Go.Proofs

/-- Same -/
theorem c47 {a b : SlV} {xs ys : List Int} {w : World} {H : List HA} {K : Bool → World → Prop} (h : St w H) (ha : Sl w 1 (Value.int .u16) a xs) (hb : Sl w 1 (Value.int .u16) b ys)
    (k : ∀ w', St w' H → K (decide (xs = ys)) w') : callP P 47 #[a.val, b.val] w Value.bool K := sf47_call _ _ _ _ (by
  unfold sf47
  rw [ha.len, hb.len]
  refine cond_i (fun e => ?_) (fun e => ?_)
  · have e : decide (xs = ys) = false := by
      rw [decide_eq_false_iff_not]; intro e2; simp [e2] at e
    rw [e] at k
    exact k _ h
  · have e : xs.length = ys.length := by simp at e; omega
    refine loop_cnt (n := xs.length) (fun i w' => St w' H ∧ Sl w' 1 (Value.int .u16) a xs ∧ Sl w' 1 (Value.int .u16) b ys ∧ xs.take i = ys.take i) ⟨h, ha, hb, by simp⟩ ?_ ?_
    · rintro g i w1 next hi ⟨h1, ha1, hb1, ht⟩ hn
      refine cond_t (lt_true hi) ?_
      have h2 := ha1.drew.atN (i := i) (K := fun _ v_4 => chkP (inR (i : Int) b.len) (nilP b.a fun a_5 => loadP w1.drew (a_5.add (Int.toNat (i : Int) * 1)) 1 (Value.int .u16) fun v_6 =>
        cond' (v_4 != v_6) (K false w1.drew) (next (IntKind.i64.wrap ((i : Int) + 1)) w1.drew))) (List.getElem?_eq_getElem hi) fun ad _ => ?_
      · rw [ha.len] at h2
        rw [hb.len] at h2
        exact h2
      · refine hb1.drew.atN (List.getElem?_eq_getElem (by omega)) fun ad2 _ => cond_i (fun hv => ?_) (fun hv => ?_)
        · have hv : decide (xs = ys) = false := by
            rw [decide_eq_false_iff_not]; intro e2; subst e2; simp at hv
          rw [hv] at k
          exact k _ h1.drew
        · rw [wrap_succ (ha1.len_lt hi)]
          have hv : xs[i] = ys[i]'(by omega) := by simpa using hv
          refine hn _ ⟨h1.drew, ha1.drew, hb1.drew, ?_⟩
          rw [List.take_succ_eq_append_getElem hi, List.take_succ_eq_append_getElem (by omega), ht, hv]
    · rintro g w1 next ⟨h1, ha1, hb1, ht⟩
      refine cond_f (lt_false _) ?_
      rw [List.take_length, e, List.take_length] at ht
      rw [decide_eq_true ht] at k
      exact k _ h1)

def askedS : List Int → List Int → Option (List Int)
  | [], acc => some acc
  | [_], _ => none
  | a :: b :: r, acc => if acc ≠ [] ∧ (a * 256 + b) ≤ acc.getLastD 0 then none else askedS r (acc ++ [a * 256 + b])
def less32 (a b : Int) : Bool := decide (IntKind.i32.wrap (IntKind.u32.wrap (b - a)) > 0)
inductive AskR where
  | bad
  | rep (n r : Int)
  | fresh (n : Int) (l : List Int)
def askedP (theirs mark : Int) (bs : List Int) : AskR :=
  if bs.length < 12 then .bad else
  match askedS (bs.drop 12) [] with
  | none => .bad
  | some l => if num (bs.take 4) = (theirs - 1) % 4294967296 then .rep (num (bs.take 4)) 1 else if num (bs.take 4) ≠ theirs then .rep (num (bs.take 4)) 5
    else if less32 mark (num ((bs.drop 8).take 4)) then .rep (num (bs.take 4)) 6 else .fresh (num (bs.take 4)) l

theorem c65 {a b : Int} {w : World} {K : Bool → World → Prop} (k : K (less32 a b) w) : callP P 65 #[.int .u32 a, .int .u32 b] w Value.bool K := sf65_call _ _ _ _ k

theorem takeR_ok {bs : List Int} {n : Nat} (h : n ≤ bs.length) : takeR (bs, false) n = (bs.take n, bs.drop n, false) := by
  simp only [takeR]; rw [if_neg (by omega)]; simp
theorem takeR_short {bs : List Int} {n : Nat} {f : Bool} (h : bs.length < n) : takeR (bs, f) n = ([], [], true) := by
  simp only [takeR]; rw [if_pos h]
theorem Bytes.drop {bs : List Int} (h : Bytes bs) (n : Nat) : Bytes (bs.drop n) := fun x hx => h x (List.mem_of_mem_drop hx)

theorem c86 {b rb : Nat} {mark : Int} {bs : List Int} {w : World} {H H' H'' : List HA} {x : ES} {K : HeardV × Int → World → Prop} [c : AtIn En b H x H'] [c2 : AtIn Rd rb H' (bs, false) H''] (h : St w H)
    (hb : bs.length ≤ 1073741824) (hx : Bytes bs)
    (kbad : askedP x.theirs mark bs = .bad → ∀ w', St w' (En b x :: H'') → K (⟨none, SlV.nil, false, SlV.nil⟩, 42) w')
    (krep : ∀ n r, askedP x.theirs mark bs = .rep n r → ∀ p w', St w' (Pm p (16, be4 n ++ be4 r) :: En b x :: H'') → K (⟨some ⟨p, 0, none⟩, SlV.nil, false, SlV.nil⟩, 0) w')
    (kfr : ∀ n l, askedP x.theirs mark bs = .fresh n l → ∀ p s w', St w' (Pm p (16, be4 n ++ be4 1) :: SlO 1 (Value.int .u16) s l :: En b { x with theirs := (x.theirs + 1) % 4294967296 } :: H'') → K (⟨some ⟨p, 0, none⟩, s, decide (l = []), SlV.nil⟩, 0) w') :
    callP P 86 #[.pointer (some ⟨b, 0, none⟩), .pointer (some ⟨rb, 0, none⟩), .int .u32 mark] w (tup2V HeardV.val (Value.int .i64)) K := sf86_call _ _ _ _ _ (by
  have h := (c2.imp w).cons.st (h.front (mk := En) (k := b))
  refine h.nw fun b1 w1 h => ?_
  refine c117 h (by simpa using (by omega : bs.length ≤ 1099511627776)) hx fun w2 h => ?_
  have f2 : ((takeR (bs, false) 4).2 = ([], true) ∧ bs.length < 4) ∨ ((takeR (bs, false) 4).2 = (bs.drop 4, false) ∧ 4 ≤ bs.length ∧ (takeR (bs, false) 4).1 = bs.take 4) := by
    by_cases hl : bs.length < 4
    · exact .inl ⟨by rw [takeR_short hl], hl⟩
    · exact .inr ⟨by rw [takeR_ok (by omega)], by omega, by rw [takeR_ok (by omega)]⟩
  generalize hx2 : (takeR (bs, false) 4).2 = x2 at *
  generalize hn1 : num (takeR (bs, false) 4).1 = n1
  have f2n : 4 ≤ bs.length → n1 = num (bs.take 4) := fun hl => by
    rcases f2 with ⟨_, h⟩ | ⟨_, _, h⟩
    · omega
    · rw [← hn1, h]
  have l2 : x2.1.length ≤ bs.length ∧ Bytes x2.1 := by
    rcases f2 with ⟨h, _⟩ | ⟨h, _⟩ <;> rw [h]
    · exact ⟨by simp, fun _ h => by simp at h⟩
    · exact ⟨by simp, hx.drop 4⟩
  refine c117 h (by omega) l2.2 fun w3 h => ?_
  have f3 : ((takeR x2 4).2 = ([], true) ∧ bs.length < 8) ∨ ((takeR x2 4).2 = (bs.drop 8, false) ∧ 8 ≤ bs.length) := by
    rcases f2 with ⟨h, hl⟩ | ⟨h, hl, _⟩ <;> rw [h]
    · exact .inl ⟨by rw [takeR_short (by simp)], by omega⟩
    · by_cases hl2 : bs.length < 8
      · exact .inl ⟨by rw [takeR_short (by simp; omega)], hl2⟩
      · exact .inr ⟨by rw [takeR_ok (by simp; omega)]; simp, by omega⟩
  generalize hx3 : (takeR x2 4).2 = x3 at *
  have l3 : x3.1.length ≤ bs.length ∧ Bytes x3.1 := by
    rcases f3 with ⟨h, _⟩ | ⟨h, _⟩ <;> rw [h]
    · exact ⟨by simp, fun _ h => by simp at h⟩
    · exact ⟨by simp, hx.drop 8⟩
  refine c117 h (by omega) l3.2 fun w4 h => ?_
  have f4 : ((takeR x3 4).2 = ([], true) ∧ bs.length < 12) ∨ ((takeR x3 4).2 = (bs.drop 12, false) ∧ 12 ≤ bs.length ∧ (takeR x3 4).1 = (bs.drop 8).take 4) := by
    rcases f3 with ⟨h, hl⟩ | ⟨h, hl⟩ <;> rw [h]
    · exact .inl ⟨by rw [takeR_short (by simp)], by omega⟩
    · by_cases hl2 : bs.length < 12
      · exact .inl ⟨by rw [takeR_short (by simp; omega)], hl2⟩
      · exact .inr ⟨by rw [takeR_ok (by simp; omega)]; simp, by omega, by rw [takeR_ok (by simp; omega)]⟩
  generalize hx4 : (takeR x3 4).2 = x4 at *
  generalize hn3 : num (takeR x3 4).1 = n3
  have f4n : 12 ≤ bs.length → n3 = num ((bs.drop 8).take 4) := fun hl => by
    rcases f4 with ⟨_, h⟩ | ⟨_, _, h⟩
    · omega
    · rw [← hn3, h]
  clear hx2 hx3 hx4 hn1 hn3 f2 f3 l2 l3
  refine loop_i (fun s w' => ∃ acc rest f, St w' (SlO 1 (Value.int .u16) s acc :: Rd rb (rest, f) :: cellsA b1 [.pointer none, SlV.nil.val, .bool false, SlV.nil.val] 90 :: En b x :: H'') ∧ acc.length + rest.length ≤ bs.length ∧ Bytes rest ∧
      ((f = true ∧ rest = [] ∧ askedP x.theirs mark bs = .bad) ∨ (f = false ∧ 12 ≤ bs.length ∧ askedS (bs.drop 12) [] = askedS rest acc)))
    (fun s _ => bs.length - s.len) ?_ ?_
  · have h : St w4 (Rd rb (x4.1, x4.2) :: cellsA b1 [.pointer none, SlV.nil.val, .bool false, SlV.nil.val] 90 :: En b x :: H'') := h
    rcases f4 with ⟨e, hl⟩ | ⟨e, hl, _⟩
    · rw [e] at h
      exact ⟨[], [], true, SlO.nil h, by simp, fun _ h => by simp at h, .inl ⟨rfl, rfl, by unfold askedP; rw [if_pos hl]⟩⟩
    · rw [e] at h
      exact ⟨[], bs.drop 12, false, SlO.nil h, by simp, hx.drop 12, .inr ⟨rfl, hl, rfl⟩⟩
  · rintro g s w5 ⟨acc, rest, f, h, hlen, hrest, hf⟩
    have hsl := h.sl.len
    refine c118 h (cond_i (fun hp => ?_) (fun hp => ?_))
    · have hp : 0 < rest.length := by simpa using hp
      have hff : f = false ∧ 12 ≤ bs.length ∧ askedS (bs.drop 12) [] = askedS rest acc := by
        rcases hf with ⟨_, h, _⟩ | h
        · simp [h] at hp
        · exact h
      obtain ⟨rfl, h12, hS⟩ := hff
      have isbad : askedS rest acc = none → askedP x.theirs mark bs = .bad := fun hn => by
        unfold askedP
        rw [if_neg (by omega), hS, hn]
      refine c119 h (by simp only; omega) hrest fun w6 h => ?_
      have fv : ∃ v rest' f', num (takeR (rest, false) 2).1 % 65536 = v ∧ (takeR (rest, false) 2).2 = (rest', f') ∧ rest'.length < rest.length ∧ Bytes rest' ∧
          (acc ≠ [] ∧ v ≤ acc.getLastD 0 → askedS rest acc = none) ∧ (¬ (acc ≠ [] ∧ v ≤ acc.getLastD 0) → (f' = true ∧ rest' = [] ∧ askedS rest acc = none) ∨ (f' = false ∧ askedS rest acc = askedS rest' (acc ++ [v]))) := by
        match rest, hp, hrest with
        | [a], _, _ => exact ⟨0, [], true, by rw [takeR_short (by simp)]; rfl, by rw [takeR_short (by simp)], by simp, fun _ h => by simp at h, fun _ => rfl, fun _ => .inl ⟨rfl, rfl, rfl⟩⟩
        | a :: b' :: r, _, hr =>
          have ha := hr a (by simp)
          have hb' := hr b' (by simp)
          refine ⟨a * 256 + b', r, false, ?_, by rw [takeR_ok (by simp)]; rfl, by simp; omega, fun y hy => hr y (by simp [hy]), fun hc => by rw [askedS, if_pos hc], fun hc => .inr ⟨rfl, by rw [askedS, if_neg hc]⟩⟩
          rw [takeR_ok (by simp)]
          show ((0 * 256 % 4294967296 + a) * 256 % 4294967296 + b') % 65536 = _
          omega
      obtain ⟨v, rest', f', e1, e2, hrl, hrb, hbad, hgood⟩ := fv
      rw [e1]
      rw [e2] at h
      rw [hsl]
      have h : St w6 (SlO 1 (Value.int .u16) s acc :: Rd rb (rest', f') :: cellsA b1 [.pointer none, SlV.nil.val, .bool false, SlV.nil.val] 90 :: En b x :: H'') := h.re
      refine cut_i (fun _ w' => ¬ (acc ≠ [] ∧ v ≤ acc.getLastD 0) ∧ St w' (SlO 1 (Value.int .u16) s acc :: Rd rb (rest', f') :: cellsA b1 [.pointer none, SlV.nil.val, .bool false, SlV.nil.val] 90 :: En b x :: H'')) ?_ ?_
      · refine cond_i (fun hq => ?_) (fun hq => ?_)
        · have hq : 0 < acc.length := by simpa using hq
          have hw : IntKind.i64.wrap ((acc.length : Int) - 1) = ((acc.length - 1 : Nat) : Int) := by rw [wrap_i64 (by omega) (by have := h.sl.len_le; omega)]; omega
          rw [hw]
          have hne : acc ≠ [] := by intro e; simp [e] at hq
          have hlast : acc[acc.length - 1]? = some (acc.getLastD 0) := by
            rw [List.getLastD_eq_getLast?, List.getLast?_eq_getElem?]
            rw [List.getElem?_eq_getElem (by omega)]
            rfl
          have h2 := h.sl.atN (i := acc.length - 1) (K := fun _ v_13 => cond' (decide (v ≤ v_13)) (storeP w6 (⟨b1, 0, none⟩ : Addr) 4 (HeardV.val ({ Reply := none, In := SlV.nil, All := false, Done := SlV.nil } : HeardV)) fun w_9 =>
              loadP w_9 (⟨b1, 0, none⟩ : Addr) 4 HeardV.val fun v_14 => K (v_14, (42 : Int)) w_9) (¬ (acc ≠ [] ∧ v ≤ acc.getLastD 0) ∧ St w6 (SlO 1 (Value.int .u16) s acc :: Rd rb (rest', f') :: cellsA b1 [.pointer none, SlV.nil.val, .bool false, SlV.nil.val] 90 :: En b x :: H''))) hlast fun ad _ => ?_
          · rw [hsl] at h2
            exact h2
          · refine cond_i (fun hv => ?_) (fun hv => ⟨fun hc => absurd hc.2 (of_decide_eq_false hv), h⟩)
            refine h.stn (b := b1) rfl rfl (Nat.le_of_ble_eq_true rfl) fun w7 h => ?_
            refine h.ldn (x := ⟨none, SlV.nil, false, SlV.nil⟩) rfl rfl (kbad (isbad (hbad ⟨hne, by simpa using hv⟩)) _ h.re)
        · exact ⟨fun hc => by simp at hq; exact hc.1 hq, h⟩
      · rintro g2 _ w7 ⟨hc, h⟩
        refine h.app1 (s := s) (x := v) slT86 (by omega) rfl (by omega) (by omega) fun s' w8 h => ⟨⟨acc ++ [v], rest', f', h, by simp; omega, hrb, ?_⟩, ?_⟩
        · rcases hgood hc with ⟨h1, h2, h3⟩ | ⟨h1, h2⟩
          · exact .inl ⟨h1, h2, isbad h3⟩
          · exact .inr ⟨h1, h12, hS.trans h2⟩
        · rw [h.sl.len]
          simp
          omega
    · have hp : rest = [] := List.eq_nil_of_length_eq_zero (by simpa using hp)
      subst hp
      refine c120 h (cond_i (fun hp => ?_) (fun hp => ?_))
      · rcases hf with ⟨rfl, _, hbad⟩ | ⟨rfl, _⟩
        · refine h.stn (b := b1) rfl rfl (Nat.le_of_ble_eq_true rfl) fun w7 h => ?_
          exact h.ldn (x := ⟨none, SlV.nil, false, SlV.nil⟩) rfl rfl (kbad hbad _ h.re)
        · simp at hp
      · rcases hf with ⟨rfl, _, hbad⟩ | ⟨rfl, h12, hS⟩
        · simp at hp
        · have hP : askedP x.theirs mark bs = if num (bs.take 4) = (x.theirs - 1) % 4294967296 then .rep (num (bs.take 4)) 1 else if num (bs.take 4) ≠ x.theirs then .rep (num (bs.take 4)) 5
              else if less32 mark (num ((bs.drop 8).take 4)) then .rep (num (bs.take 4)) 6 else .fresh (num (bs.take 4)) acc := by
            unfold askedP
            rw [if_neg (by omega), hS]
            rfl
          rw [← f2n (by omega), ← f4n h12] at hP
          have h : St w5 (En b x :: SlO 1 (Value.int .u16) s acc :: cellsA b1 [.pointer none, SlV.nil.val, .bool false, SlV.nil.val] 90 :: H'') := h.re
          obtain ⟨wa, op, rq, h⟩ := En.un h
          refine h.lda rfl ?_
          rw [wrap_u32]
          refine cond_i (fun he => ?_) (fun he => ?_)
          · have he : n1 = (x.theirs - 1) % 4294967296 := by simpa using he
            rw [if_pos he] at hP
            refine c121 h fun p w6 h => ?_
            refine h.stn (b := b1) rfl rfl (Nat.le_of_ble_eq_true rfl) fun w7 h => ?_
            refine h.ldn (x := ⟨some ⟨p, 0, none⟩, SlV.nil, false, SlV.nil⟩) rfl rfl (krep _ _ hP p _ ?_)
            have hP := St.pull4 b wa op rq h
            have h := En.pk (x := x) hP
            exact h.re
          · have he : ¬ n1 = (x.theirs - 1) % 4294967296 := by simpa using he
            rw [if_neg he] at hP
            refine h.lda rfl (cond_i (fun he => ?_) (fun he => ?_))
            · have he : n1 ≠ x.theirs := by simpa using he
              rw [if_pos he] at hP
              refine c121 h fun p w6 h => ?_
              refine h.stn (b := b1) rfl rfl (Nat.le_of_ble_eq_true rfl) fun w7 h => ?_
              refine h.ldn (x := ⟨some ⟨p, 0, none⟩, SlV.nil, false, SlV.nil⟩) rfl rfl (krep _ _ hP p _ ?_)
              have hP := St.pull4 b wa op rq h
              have h := En.pk (x := x) hP
              exact h.re
            · have he : ¬ n1 ≠ x.theirs := by simpa using he
              rw [if_neg he] at hP
              refine c65 (cond_i (fun hless => ?_) (fun hless => ?_))
              · rw [if_pos hless] at hP
                refine c121 h fun p w6 h => ?_
                refine h.stn (b := b1) rfl rfl (Nat.le_of_ble_eq_true rfl) fun w7 h => ?_
                refine h.ldn (x := ⟨some ⟨p, 0, none⟩, SlV.nil, false, SlV.nil⟩) rfl rfl (krep _ _ hP p _ ?_)
                have hP := St.pull4 b wa op rq h
                have h := En.pk (x := x) hP
                exact h.re
              · rw [if_neg (by simp [hless])] at hP
                refine h.lda rfl ?_
                rw [wrap_u32]
                refine h.stna (b := b) rfl rfl (Nat.le_of_ble_eq_true rfl) fun w6 h => ?_
                refine c121 h fun p w7 h => ?_
                refine h.stn (b := b1) rfl rfl (Nat.le_of_ble_eq_true rfl) fun w8 h => ?_
                refine h.ldn (x := ⟨some ⟨p, 0, none⟩, s, decide (acc = []), SlV.nil⟩) ?_ rfl ?_
                · have e : ((s.len : Int) == (0 : Int)) = decide (acc = []) := by
                    rw [hsl]
                    cases acc <;> simp
                    omega
                  rw [e]
                  rfl
                · refine kfr _ _ hP p s _ ?_
                  have hP := St.pull4 b wa op rq h
                  have h := En.pk (x := { x with theirs := (x.theirs + 1) % 4294967296 }) hP
                  exact h.re)

inductive AnsR where
  | bad
  | old
  | done
def answP (x : ES) (bs : List Int) : AnsR :=
  if bs.length ≠ 8 then .bad else
  if num ((bs.drop 4).take 4) ≠ 1 ∧ num ((bs.drop 4).take 4) ≠ 5 ∧ num ((bs.drop 4).take 4) ≠ 6 then .bad else
  if x.open_ = [] ∨ num (bs.take 4) ≠ x.mine ∨ num ((bs.drop 4).take 4) ≠ 1 then .old else .done

theorem c87 {b rb : Nat} {bs : List Int} {w : World} {H H' H'' : List HA} {x : ES} {K : HeardV × Int → World → Prop} [c : AtIn En b H x H'] [c2 : AtIn Rd rb H' (bs, false) H''] (h : St w H)
    (hb : bs.length ≤ 1073741824) (hx : Bytes bs)
    (kbad : answP x bs = .bad → ∀ w', St w' (En b x :: H'') → K (⟨none, SlV.nil, false, SlV.nil⟩, 42) w')
    (kold : answP x bs = .old → ∀ w', St w' (En b x :: H'') → K (⟨none, SlV.nil, false, SlV.nil⟩, 0) w')
    (kdone : answP x bs = .done → ∀ s w', St w' (SlO 1 (Value.int .u16) s x.open_ :: En b ⟨(x.mine + 1) % 4294967296, x.theirs, x.wanted, [], []⟩ :: H'') → K (⟨none, SlV.nil, false, s⟩, 0) w') :
    callP P 87 #[.pointer (some ⟨b, 0, none⟩), .pointer (some ⟨rb, 0, none⟩)] w (tup2V HeardV.val (Value.int .i64)) K := sf87_call _ _ _ _ (by
  have h := (c2.imp w).cons.st (h.front (mk := En) (k := b))
  refine h.nw fun b1 w1 h => ?_
  refine c117 h (by simpa using (by omega : bs.length ≤ 1099511627776)) hx fun w2 h => ?_
  have f2 : ((takeR (bs, false) 4).2 = ([], true) ∧ bs.length < 4) ∨ ((takeR (bs, false) 4).2 = (bs.drop 4, false) ∧ 4 ≤ bs.length ∧ (takeR (bs, false) 4).1 = bs.take 4) := by
    by_cases hl : bs.length < 4
    · exact .inl ⟨by rw [takeR_short hl], hl⟩
    · exact .inr ⟨by rw [takeR_ok (by omega)], by omega, by rw [takeR_ok (by omega)]⟩
  generalize hx2 : (takeR (bs, false) 4).2 = x2 at *
  generalize hn1 : num (takeR (bs, false) 4).1 = n1
  have f2n : 4 ≤ bs.length → n1 = num (bs.take 4) := fun hl => by
    rcases f2 with ⟨_, h⟩ | ⟨_, _, h⟩
    · omega
    · rw [← hn1, h]
  have l2 : x2.1.length ≤ bs.length ∧ Bytes x2.1 := by
    rcases f2 with ⟨h, _⟩ | ⟨h, _⟩ <;> rw [h]
    · exact ⟨by simp, fun _ h => by simp at h⟩
    · exact ⟨by simp, hx.drop 4⟩
  refine c117 h (by omega) l2.2 fun w3 h => ?_
  have f3 : ((takeR x2 4).2 = ([], true) ∧ bs.length < 8) ∨ ((takeR x2 4).2 = (bs.drop 8, false) ∧ 8 ≤ bs.length ∧ (takeR x2 4).1 = (bs.drop 4).take 4) := by
    rcases f2 with ⟨h, hl⟩ | ⟨h, hl, _⟩ <;> rw [h]
    · exact .inl ⟨by rw [takeR_short (by simp)], by omega⟩
    · by_cases hl2 : bs.length < 8
      · exact .inl ⟨by rw [takeR_short (by simp; omega)], hl2⟩
      · exact .inr ⟨by rw [takeR_ok (by simp; omega)]; simp, by omega, by rw [takeR_ok (by simp; omega)]⟩
  generalize hx3 : (takeR x2 4).2 = x3 at *
  generalize hn2 : num (takeR x2 4).1 = n2
  have f3n : 8 ≤ bs.length → n2 = num ((bs.drop 4).take 4) := fun hl => by
    rcases f3 with ⟨_, h⟩ | ⟨_, _, h⟩
    · omega
    · rw [← hn2, h]
  have fe : (if x3.2 then (40 : Int) else if x3.1 = [] then 0 else 41) = 0 ↔ bs.length = 8 := by
    rcases f3 with ⟨h, hl⟩ | ⟨h, hl, _⟩ <;> rw [h]
    · simp; omega
    · simp only [Bool.false_eq_true, if_false]
      by_cases h8 : bs.length = 8
      · rw [if_pos (List.drop_eq_nil_of_le (by omega))]; simp [h8]
      · rw [if_neg (by simp; omega)]; simp [h8]
  have hP : answP x bs = if bs.length ≠ 8 then .bad else if n2 ≠ 1 ∧ n2 ≠ 5 ∧ n2 ≠ 6 then .bad else if x.open_ = [] ∨ n1 ≠ x.mine ∨ n2 ≠ 1 then .old else .done := by
    unfold answP
    by_cases h8 : bs.length = 8
    · rw [← f2n (by omega), ← f3n (by omega)]
    · rw [if_pos h8, if_pos h8]
  clear hx2 hx3 hn1 hn2 f2 f3 l2 f2n f3n
  refine cut_i (fun _ w' => answP x bs = .done ∧ St w' (cellsA b1 [.pointer none, SlV.nil.val, .bool false, SlV.nil.val] 90 :: En b x :: H'')) ?_ ?_
  · refine cut_i (fun j w' => j = decide (bs.length ≠ 8 ∨ (n2 ≠ 1 ∧ n2 ≠ 5 ∧ n2 ≠ 6)) ∧ St w' (cellsA b1 [.pointer none, SlV.nil.val, .bool false, SlV.nil.val] 90 :: En b x :: H'')) ?_ ?_
    · have hh : St w3 (Rd rb x3 :: cellsA b1 [.pointer none, SlV.nil.val, .bool false, SlV.nil.val] 90 :: En b x :: H'') := h
      refine c122 hh ?_
      have hh := hh.drop
      refine cond_i (fun e => ⟨?_, hh⟩) (fun e => ?_)
      · have : bs.length ≠ 8 := fun h8 => by rw [fe.2 h8] at e; simp at e
        simp [this]
      · have h8 : bs.length = 8 := fe.1 (by simpa using e)
        refine cond_i (fun e => ?_) (fun e => ⟨?_, hh⟩)
        · refine cond_i (fun e2 => ⟨?_, hh⟩) (fun e2 => ⟨?_, hh⟩)
          · simp at e e2
            simp [h8, e, e2, bne, BEq.beq]
          · simp at e e2
            simp [h8, e2]
        · simp at e
          simp [h8, e]
    · rintro g _ w4 ⟨rfl, h⟩
      refine cond_i (fun e => ?_) (fun e => ?_)
      · refine h.stn rfl rfl (Nat.le_of_ble_eq_true rfl) fun w5 h => ?_
        refine h.ldn (x := ⟨none, SlV.nil, false, SlV.nil⟩) rfl rfl (kbad ?_ _ h.re)
        rw [hP]
        have e := of_decide_eq_true e
        by_cases h8 : bs.length ≠ 8
        · rw [if_pos h8]
        · rw [if_neg h8, if_pos (e.resolve_left h8)]
      · have e := of_decide_eq_false e
        rw [if_neg (fun h => e (.inl h)), if_neg (fun h => e (.inr h))] at hP
        have h : St w4 (En b x :: cellsA b1 [.pointer none, SlV.nil.val, .bool false, SlV.nil.val] 90 :: H'') := h.re
        have hback := h
        obtain ⟨wa, op, rq, h⟩ := En.un h
        have old : (x.open_ = [] ∨ n1 ≠ x.mine ∨ n2 ≠ 1) → storeP w4 (⟨b1, 0, none⟩ : Addr) 4 (HeardV.val ({ Reply := none, In := SlV.nil, All := false, Done := SlV.nil } : HeardV)) fun w_8 =>
            loadP w_8 (⟨b1, 0, none⟩ : Addr) 4 HeardV.val fun v_15 => K (v_15, (0 : Int)) w_8 := fun ho => by
          refine hback.stn (b := b1) rfl rfl (Nat.le_of_ble_eq_true rfl) fun w5 h => ?_
          exact h.ldn (x := ⟨none, SlV.nil, false, SlV.nil⟩) rfl rfl (kold (by rw [hP, if_pos ho]) _ h.re)
        refine h.lda rfl ?_
        rw [h.g2.sl.len]
        refine cond_i (fun e1 => old (.inl (List.eq_nil_of_length_eq_zero (by simpa using e1)))) (fun e1 => ?_)
        refine h.lda rfl (cond_i (fun e2 => old (.inr (.inl (by simpa using e2)))) (fun e2 => ?_))
        refine cond_i (fun e3 => old (.inr (.inr (by simpa using e3)))) (fun e3 => ⟨?_, hback.re⟩)
        rw [hP, if_neg]
        rintro (h | h | h)
        · simp [h] at e1
        · simp at e2; exact h e2
        · simp at e3; exact h e3
  · rintro g _ w4 ⟨hd, h⟩
    have h : St w4 (En b x :: cellsA b1 [.pointer none, SlV.nil.val, .bool false, SlV.nil.val] 90 :: H'') := h.re
    obtain ⟨wa, op, rq, h⟩ := En.un h
    refine h.lda rfl ?_
    refine h.nw fun b21 w5 h => ?_
    refine h.stn (b := b21) rfl rfl (Nat.le_of_ble_eq_true rfl) fun w6 h => ?_
    refine h.stna (b := b) rfl rfl (Nat.le_of_ble_eq_true rfl) fun w7 h => ?_
    refine h.stna (b := b) rfl rfl (Nat.le_of_ble_eq_true rfl) fun w8 h => ?_
    refine h.lda (b := b) rfl ?_
    rw [wrap_u32]
    refine h.stna (b := b) rfl rfl (Nat.le_of_ble_eq_true rfl) fun w9 h => ?_
    refine h.ldn (b := b21) (x := ⟨none, SlV.nil, false, op⟩) rfl rfl ?_
    refine h.stn (b := b1) rfl rfl (Nat.le_of_ble_eq_true rfl) fun w10 h => ?_
    refine h.ldn (b := b1) (x := ⟨none, SlV.nil, false, op⟩) rfl rfl (kdone hd op _ ?_)
    change St _ (_ :: cellsA b [.int .u32 ((x.mine + 1) % 4294967296), .int .u32 x.theirs, wa.val, SlV.nil.val, SlV.nil.val] 178 :: _) at h
    have h : St w10 (cellsA b [.int .u32 ((x.mine + 1) % 4294967296), .int .u32 x.theirs, wa.val, SlV.nil.val, SlV.nil.val] 178 :: SlO 1 (Value.int .u16) wa x.wanted :: SlO 1 (Value.int .u16) SlV.nil [] :: SlO 1 (Value.int .u8) SlV.nil [] :: SlO 1 (Value.int .u16) op x.open_ :: H'') :=
      (SlO.nil (val := Value.int .u16) (n := 1) (SlO.nil (val := Value.int .u8) (n := 1) h)).re
    exact (En.pk (x := ⟨_, _, _, [], []⟩) h).g1)

/-- Hear -/
theorem c39 {b : Nat} {mark : Int} {p : ParamV} {bs : List Int} {w : World} {H H' : List HA} {x : ES} {K : HeardV × Int → World → Prop} [c : AtIn En b H x H'] (h : St w H) (hs : Sl w 1 (Value.int .u8) p.Value_ bs)
    (hb : bs.length ≤ 1073741824) (hx : Bytes bs)
    (kbad : (p.Kind = 13 ∧ askedP x.theirs mark bs = .bad) ∨ (p.Kind = 16 ∧ answP x bs = .bad) → ∀ w', St w' (En b x :: H') → K (⟨none, SlV.nil, false, SlV.nil⟩, 42) w')
    (krep : ∀ n r, p.Kind = 13 → askedP x.theirs mark bs = .rep n r → ∀ q w', St w' (Pm q (16, be4 n ++ be4 r) :: En b x :: H') → K (⟨some ⟨q, 0, none⟩, SlV.nil, false, SlV.nil⟩, 0) w')
    (kfr : ∀ n l, p.Kind = 13 → askedP x.theirs mark bs = .fresh n l → ∀ q s w', St w' (Pm q (16, be4 n ++ be4 1) :: SlO 1 (Value.int .u16) s l :: En b { x with theirs := (x.theirs + 1) % 4294967296 } :: H') → K (⟨some ⟨q, 0, none⟩, s, decide (l = []), SlV.nil⟩, 0) w')
    (kold : p.Kind = 16 → answP x bs = .old → ∀ w', St w' (En b x :: H') → K (⟨none, SlV.nil, false, SlV.nil⟩, 0) w')
    (kdone : p.Kind = 16 → answP x bs = .done → ∀ s w', St w' (SlO 1 (Value.int .u16) s x.open_ :: En b ⟨(x.mine + 1) % 4294967296, x.theirs, x.wanted, [], []⟩ :: H') → K (⟨none, SlV.nil, false, s⟩, 0) w')
    (kkind : p.Kind ≠ 13 → p.Kind ≠ 16 → ∀ w', St w' (En b x :: H') → K (⟨none, SlV.nil, false, SlV.nil⟩, 60) w') :
    callP P 39 #[.pointer (some ⟨b, 0, none⟩), p.val, .int .u32 mark] w (tup2V HeardV.val (Value.int .i64)) K := sf39_call _ _ _ _ _ (by
  have h := h.front (mk := En) (k := b)
  refine h.nwg fun b1 w1 h hg1 => ?_
  refine h.nwg fun b2 w2 h hg2 => ?_
  refine h.lda (b := b1) rfl ?_
  refine c85 h ((hs.grow hg1).grow hg2) (by omega) fun rb w3 h => ?_
  have h : St w3 (En b x :: Rd rb (bs, false) :: cellsA b2 [.pointer none, SlV.nil.val, .bool false, SlV.nil.val] 90 :: cellsA b1 [.int .u16 p.Kind, p.Value_.val] 83 :: H') := by
    change St w3 (_ :: cellsA b2 [.pointer none, SlV.nil.val, .bool false, SlV.nil.val] 90 :: cellsA b1 [.int .u16 p.Kind, p.Value_.val] 83 :: _) at h
    exact h.re
  refine h.lda (b := b1) rfl ?_
  refine cond_i (fun e => ?_) (fun e => ?_)
  · have e : p.Kind = 13 := by simpa using e
    refine c86 h hb hx (fun hr w4 h => ?_) (fun n r hr q w4 h => ?_) (fun n l hr q s w4 h => ?_)
    · refine h.stn (b := b2) rfl rfl (Nat.le_of_ble_eq_true rfl) fun w5 h => ?_
      exact h.ldn (b := b2) (x := ⟨none, SlV.nil, false, SlV.nil⟩) rfl rfl (kbad (.inl ⟨e, hr⟩) _ h.re)
    · refine h.stn (b := b2) rfl rfl (Nat.le_of_ble_eq_true rfl) fun w5 h => ?_
      exact h.ldn (b := b2) (x := ⟨some ⟨q, 0, none⟩, SlV.nil, false, SlV.nil⟩) rfl rfl (krep n r e hr q _ h.re)
    · refine h.stn (b := b2) rfl rfl (Nat.le_of_ble_eq_true rfl) fun w5 h => ?_
      exact h.ldn (b := b2) (x := ⟨some ⟨q, 0, none⟩, s, decide (l = []), SlV.nil⟩) rfl rfl (kfr n l e hr q s _ h.re)
  · have e : p.Kind ≠ 13 := by simpa using e
    refine cond_i (fun e2 => ?_) (fun e2 => ?_)
    · have e2 : p.Kind = 16 := by simpa using e2
      refine c87 h hb hx (fun hr w4 h => ?_) (fun hr w4 h => ?_) (fun hr s w4 h => ?_)
      · refine h.stn (b := b2) rfl rfl (Nat.le_of_ble_eq_true rfl) fun w5 h => ?_
        exact h.ldn (b := b2) (x := ⟨none, SlV.nil, false, SlV.nil⟩) rfl rfl (kbad (.inr ⟨e2, hr⟩) _ h.re)
      · refine h.stn (b := b2) rfl rfl (Nat.le_of_ble_eq_true rfl) fun w5 h => ?_
        exact h.ldn (b := b2) (x := ⟨none, SlV.nil, false, SlV.nil⟩) rfl rfl (kold e2 hr _ h.re)
      · refine h.stn (b := b2) rfl rfl (Nat.le_of_ble_eq_true rfl) fun w5 h => ?_
        exact h.ldn (b := b2) (x := ⟨none, SlV.nil, false, s⟩) rfl rfl (kdone e2 hr s _ h.re)
    · have e2 : p.Kind ≠ 16 := by simpa using e2
      refine h.stn (b := b2) rfl rfl (Nat.le_of_ble_eq_true rfl) fun w5 h => ?_
      exact h.ldn (b := b2) (x := ⟨none, SlV.nil, false, SlV.nil⟩) rfl rfl (kkind e e2 _ h.re))
end Go.Vc.SB
