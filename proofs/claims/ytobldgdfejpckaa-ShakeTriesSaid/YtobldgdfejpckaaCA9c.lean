/-
  cookie: contracts.
-/
import Derived.Test.YtobldgdfejpckaaCA9b
set_option linter.all false
set_option linter.unusedVariables false
set_option maxRecDepth 100000
namespace Go.Vc.SA
open Go.Proofs Go.Vc.Sha

theorem Sl.holds {n : Nat} {s : SlV} {xs : List Int} {w : World} {a : Addr} (h : Sl w 1 (Value.int .u8) s xs) (ha : s.a = some a) (hl : xs.length = n) : Holds w a n (arrV .u8 xs) := by
  refine ⟨by show (arrI .u8 xs).toArray.size = n; simp [hl], fun i hi => ?_⟩
  have hco := h.cellsOf ha
  rw [flat_int] at hco
  have hi : i < xs.length := by omega
  have hu : (arrI .u8 xs)[i]? = some (.int .u8 xs[i]) := by simp [hi]
  rw [hco _ _ hu]
  show _ = (arrI .u8 xs).toArray[i]?
  simp [hi]
/-- the array that a slice shows -/
theorem Sl.arrP {n : Nat} {s : SlV} {xs : List Int} {w : World} {K : Addr → List Int → Prop} (h : Sl w 1 (Value.int .u8) s xs) (hl : xs.length = n) (hn : 0 < n) (k : ∀ a, s.a = some a → K a xs) : nilP s.a fun a => loadP w a n (arrV .u8) (K a) := by
  rcases ha : s.a with _ | a
  · have := h.nil_of ha
    subst this
    simp at hl; omega
  · exact ⟨xs, Sl.holds h ha hl, k a ha⟩

theorem retC {b : Nat} {v : CookieV} {e : Int} {w : World} {H H' : List HA} {cs : List Value} {K : CookieV × Int → World → Prop} [ci : CellsIn b H cs 36 H'] (h : St w H) (hl : cs.length = 11)
    (k : ∀ w', St w' (cellsA b (CookieV.val v).cells.toList 36 :: H') → K (v, e) w') : storeP w ⟨b, 0, none⟩ 11 (CookieV.val v) fun w2 => loadP w2 ⟨b, 0, none⟩ 11 CookieV.val fun x => K (x, e) w2 := by
  refine h.stn (b := b) rfl rfl (by omega) fun w2 h => ?_
  rw [putL_all _ _ (by rw [hl]; rfl)] at h
  exact h.ldn (b := b) (x := v) rfl rfl (k _ h)

theorem takeR_drop {bs : List Int} {p n : Nat} (h : p + n ≤ bs.length) : takeR (bs.drop p, false) n = ((bs.drop p).take n, bs.drop (p + n), false) := by
  simp only [takeR]
  rw [if_neg (by simp; omega), if_neg (by simp), List.drop_drop]
theorem Bytes_drop {bs : List Int} (h : Bytes bs) (p : Nat) : Bytes (bs.drop p) := fun y hy => h y (List.mem_of_mem_drop hy)
theorem fld_1 {b : List Int} (hB : Bytes b) (i : Nat) : IntKind.u8.wrap (fld b i 1) = fld b i 1 := by
  have : Bytes ((b.drop i).take 1) := fun y hy => hB y (List.mem_of_mem_drop (List.mem_of_mem_take hy))
  unfold fld
  match (b.drop i).take 1, this, List.length_take_le 1 (b.drop i) with
  | [], _, _ => rfl
  | [x], h, _ => have := h x (by simp); simp only [num, List.foldl]; rw [wrap_u8]; omega
theorem fld_2 {b : List Int} (hB : Bytes b) (i : Nat) : IntKind.u16.wrap (fld b i 2) = fld b i 2 := by
  have : Bytes ((b.drop i).take 2) := fun y hy => hB y (List.mem_of_mem_drop (List.mem_of_mem_take hy))
  unfold fld
  match (b.drop i).take 2, this, List.length_take_le 2 (b.drop i) with
  | [], _, _ => rfl
  | [x], h, _ => have := h x (by simp); simp only [num, List.foldl]; rw [wrap_u16]; omega
  | [x, y], h, _ => have := h x (by simp); have := h y (by simp); simp only [num, List.foldl]; rw [wrap_u16]; omega
theorem fld_4 {b : List Int} (hB : Bytes b) (i n : Nat) : 0 ≤ fld b i n ∧ fld b i n < 4294967296 := num_range fun y hy => hB y (List.mem_of_mem_drop (List.mem_of_mem_take hy))

def ckW (b : List Int) (i : Nat) : List Value := [.int .u32 (if 0 < i then fld b 0 4 else 0), .int .u32 (if 1 < i then fld b 4 4 else 0), .int .u32 (if 2 < i then fld b 8 4 else 0), .int .u32 (if 3 < i then fld b 12 4 else 0), .int .u32 (if 4 < i then fld b 16 4 else 0),
  .int .u16 0, .int .u16 0, .int .u8 0, .int .u32 0, .int .u32 0, .int .u32 0]
theorem ckW_step (b : List Int) : ∀ i, i < 5 → putL (ckW b i) (0 + i) (Value.int .u32 (fld b (4 * i) 4)).cells.toList = ckW b (i + 1)
  | 0, _ => rfl
  | 1, _ => rfl
  | 2, _ => rfl
  | 3, _ => rfl
  | 4, _ => rfl
  | i + 5, h => absurd h (by omega)
abbrev ptrs (b : Nat) : List Value := [.pointer (some ((⟨b, 0, none⟩ : Addr).add 0)), .pointer (some ((⟨b, 0, none⟩ : Addr).add 1)), .pointer (some ((⟨b, 0, none⟩ : Addr).add 2)), .pointer (some ((⟨b, 0, none⟩ : Addr).add 3)), .pointer (some ((⟨b, 0, none⟩ : Addr).add 4))]
theorem ptrs_get (b : Nat) : ∀ i : Nat, i < 5 → (ptrs b)[0 + Int.toNat (i : Int) * 1]? = some (.pointer (some ((⟨b, 0, none⟩ : Addr).add i)))
  | 0, _ => rfl
  | 1, _ => rfl
  | 2, _ => rfl
  | 3, _ => rfl
  | 4, _ => rfl
  | i + 5, h => absurd h (by omega)

set_option maxHeartbeats 1000000 in
/-- cookie.Open -/
theorem c23 {key b : SlV} {kk bb : List Int} {now : Int} {w : World} {K : CookieV × Int → World → Prop} (hk : Sl w 1 (Value.int .u8) key kk) (hkl : kk.length ≤ 1048576) (hb : Sl w 1 (Value.int .u8) b bb) (hB : Bytes bb)
    (k : ∀ w', St w' [.old w] → K (opn kk bb now) w') : callP P 23 #[key.val, b.val, .int .u32 now] w (tup2V CookieV.val (Value.int .i64)) K := sf23_call _ _ _ _ _ (by
  refine (St.start w).nw fun b1 w1 h => ?_
  have hbl := hb.len
  have hbc := hb.1.2.1
  unfold opn at k
  rw [hbl]
  refine cond_i (fun e => ?_) (fun e => ?_)
  · have e : bb.length < 70 := by simp at e; omega
    rw [if_pos e] at k
    exact retC (b := b1) h rfl fun w' h => k _ h.re
  have e1 : ¬ bb.length < 70 := by simp at e; omega
  rw [if_neg e1] at k
  refine cond_i (fun e => ?_) (fun e => ?_)
  · have e : bb.length > 70 := by simp at e; omega
    rw [if_pos e] at k
    exact retC (b := b1) h rfl fun w' h => k _ h.re
  have e2 : ¬ bb.length > 70 := by simp at e; omega
  rw [if_neg e2] at k
  have hl : bb.length = 70 := by omega
  refine chk_i (leR_i (by omega) (by omega)) (chk_i (leR_i (by omega) (by omega)) (chk_i (leR_i (by omega) (by omega)) ?_))
  have hs1 : Sl w 1 (Value.int .u8) (SlV.sub b 38 b.len b.cap 1) _ := Sl.sub (l := 38) (m := b.len) hb (by omega) (by omega)
  have hs0 : Sl w 1 (Value.int .u8) (SlV.sub b 0 38 b.cap 1) _ := Sl.sub (l := 0) (m := 38) hb (by omega) (by omega)
  rw [hbl, List.take_length] at hs1
  rw [List.drop_zero] at hs0
  have hdl : (bb.drop 38).length = 32 := by simp [hl]
  rw [hbl] at *
  refine chk_i (decide_eq_true (by rw [hs1.len]; omega)) ?_
  have h := h.drew
  refine Sl.arrP (hs1.old (h.re : St w1.drew [.old w])) hdl (by omega) fun a4 ha4 => ?_
  refine h.nw fun b6 w4 h => ⟨Sl.holds (hs1.old (h.re : St w4 [.old w])) ha4 hdl, ?_⟩
  have ef : ([bb.take 38] : List (List Int)).flatten = bb.take 38 := by simp
  refine c16 (hk.old (h.re : St w4 [.old w])) (Sl.of1 (b := b6) h) (.cons (hs0.old (h.re : St w4 [.old w])) .nil) hkl (by rw [ef]; simp; omega) (by simp) fun w5 h' => ?_
  have h := h.thaw0 h'
  rw [ef]
  have hml := hmac_len kk (bb.take 38)
  refine ⟨Sl.holds (hs1.old (h.re : St w5 [.old w])) ha4 hdl, ?_⟩
  refine c20 h hml hdl fun w6 h => ?_
  refine cond_i (fun e => ?_) (fun e => ?_)
  · rw [if_pos (by simpa using e)] at k
    exact retC (b := b1) h rfl fun w' h => k _ h.re
  rw [if_neg (by simpa using e)] at k
  clear e hml ha4
  refine c52 h (hb.old (h.re : St w6 [.old w])) (by omega) fun rb w8 h => ?_
  refine h.nw fun b11 w9 h => h.nw fun b12 w10 h => ?_
  have h0 : St w10 [cellsA b12 (ptrs b11) 109, cellsA b11 (ckW bb 0) 36, Rd rb (bb.drop 0, false), cellsA b1 (CookieV.val zc).cells.toList 36, .old w] := (h.re : St w10 [cellsA b12 (ptrs b11) 109, cellsA b11 (CookieV.val zc).cells.toList 36, Rd rb (bb, false), cellsA b1 (CookieV.val zc).cells.toList 36, .old w])
  clear h
  refine loop_cnt (n := 5) (fun i w' => St w' [cellsA b12 (ptrs b11) 109, cellsA b11 (ckW bb i) 36, Rd rb (bb.drop (4 * i), false), cellsA b1 (CookieV.val zc).cells.toList 36, .old w]) h0 ?_ ?_
  · rintro g i w11 next hi h hn
    refine cond_t (lt_true hi) (chk_i (inR_i (by omega) (by omega)) ?_)
    refine h.lda (b := b12) (ptrs_get b11 i hi) ?_
    refine c53 (b := rb) h (by simp; omega) (Bytes_drop hB _) fun w12 h => ?_
    rw [takeR_drop (by omega)] at h ⊢
    simp only [nilP]
    refine h.stna (b := b11) rfl rfl (by show 0 + i + 1 ≤ 11; omega) fun w13 h => ?_
    rw [wrap_succ (by omega)]
    have e5 := ckW_step bb i hi
    refine hn _ ?_
    rw [show 4 * (i + 1) = 4 * i + 4 by omega]
    rw [show (num ((bb.drop (4 * i)).take 4)) = fld bb (4 * i) 4 from rfl, e5] at h
    exact h.re
  rintro g w11 next h
  refine cond_f (by decide) ?_
  have h : St w11 [cellsA b12 (ptrs b11) 109, cellsA b11 (ckW bb 5) 36, Rd rb (bb.drop 20, false), cellsA b1 (CookieV.val zc).cells.toList 36, .old w] := h
  refine c54 (b := rb) h (by simp; omega) (Bytes_drop hB _) fun w14 h => ?_
  rw [takeR_drop (by omega)] at h ⊢
  refine c54 (b := rb) h (by simp; omega) (Bytes_drop hB _) fun w15 h => ?_
  rw [takeR_drop (by omega)] at h ⊢
  refine c55 (b := rb) h (by simp; omega) (Bytes_drop hB _) fun w16 h => ?_
  rw [takeR_drop (by omega)] at h ⊢
  simp only [show (num ((bb.drop 20).take 2)) = fld bb 20 2 from rfl, show (num ((bb.drop (20 + 2)).take 2)) = fld bb 22 2 from rfl, show (num ((bb.drop (20 + 2 + 2)).take 1)) = fld bb 24 1 from rfl, fld_1 hB, fld_2 hB]
  refine h.stna (b := b11) rfl rfl (Nat.le_of_ble_eq_true rfl) fun w17 h => ?_
  refine h.stna (b := b11) rfl rfl (Nat.le_of_ble_eq_true rfl) fun w18 h => ?_
  refine h.stna (b := b11) rfl rfl (Nat.le_of_ble_eq_true rfl) fun w19 h => ?_
  refine c55 (b := rb) h (by simp; omega) (Bytes_drop hB _) fun w20 h => ?_
  rw [takeR_drop (by omega)] at h ⊢
  refine c53 (b := rb) h (by simp; omega) (Bytes_drop hB _) fun w21 h => ?_
  rw [takeR_drop (by omega)] at h ⊢
  refine c53 (b := rb) h (by simp; omega) (Bytes_drop hB _) fun w22 h => ?_
  rw [takeR_drop (by omega)] at h ⊢
  refine c53 (b := rb) h (by simp; omega) (Bytes_drop hB _) fun w23 h => ?_
  rw [takeR_drop (by omega)] at h ⊢
  simp only [show (num ((bb.drop (20 + 2 + 2 + 1)).take 1)) = fld bb 25 1 from rfl, show (num ((bb.drop (20 + 2 + 2 + 1 + 1)).take 4)) = fld bb 26 4 from rfl, show (num ((bb.drop (20 + 2 + 2 + 1 + 1 + 4)).take 4)) = fld bb 30 4 from rfl, show (num ((bb.drop (20 + 2 + 2 + 1 + 1 + 4 + 4)).take 4)) = fld bb 34 4 from rfl, fld_1 hB]
  refine h.stna (b := b11) rfl rfl (Nat.le_of_ble_eq_true rfl) fun w24 h => ?_
  refine h.stna (b := b11) rfl rfl (Nat.le_of_ble_eq_true rfl) fun w25 h => ?_
  refine h.stna (b := b11) rfl rfl (Nat.le_of_ble_eq_true rfl) fun w26 h => ?_
  have h : St w26 (cellsA b11 (CookieV.val (parse bb)).cells.toList 36 :: _) := h
  have h : St w26 [cellsA b11 (CookieV.val (parse bb)).cells.toList 36, cellsA b1 (CookieV.val zc).cells.toList 36, .old w] := h.re
  refine cond_i (fun e => ?_) (fun e => ?_)
  · rw [if_pos (by simpa using e)] at k
    exact retC (b := b1) h rfl fun w' h => k _ h.re
  rw [if_neg (by simpa using e)] at k
  refine h.lda (b := b11) (x := (parse bb).Made) rfl ?_
  refine c56 ?_
  refine cond_i (fun e => ?_) (fun e => ?_)
  · rw [if_pos (by simpa using e)] at k
    exact retC (b := b1) h rfl fun w' h => k _ h.re
  rw [if_neg (by simpa using e)] at k
  refine h.ldn (b := b11) (x := parse bb) rfl rfl ?_
  exact retC (b := b1) h rfl fun w' h => k _ h.re)
end Go.Vc.SA
