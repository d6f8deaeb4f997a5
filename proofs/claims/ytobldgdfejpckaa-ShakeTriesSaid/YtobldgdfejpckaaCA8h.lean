/-
  The document's answer: the seal; MacSeals.
-/
import Derived.Test.YtobldgdfejpckaaCA8g
import Derived.Laws.BytesString
import Derived.Lib.BufferRead
set_option linter.all false
set_option linter.unusedVariables false
set_option maxRecDepth 100000
namespace Go.Vc.SA
open Go.Proofs Go.Vc.Sha

theorem take_snoc {l : List Int} {i : Nat} {x : Int} (h : l[i]? = some x) : l.take (i + 1) = l.take i ++ [x] := by
  have h1 := (List.getElem?_eq_some_iff.1 h).1
  rw [List.take_succ_eq_append_getElem h1, (List.getElem?_eq_some_iff.1 h).2]

def strOf (xs : List Int) : ByteArray := xs.foldl (fun r n => r.push (UInt8.ofNat n.toNat)) ByteArray.empty
/-- string(s) -/
theorem Sl.str {src dst e : TypeId} {s : SlV} {xs : List Int} {w : World} {K : ByteArray → Prop} (h : Sl w 1 (Value.int .u8) s xs)
    (hs : P.underlying src = some (.slice e)) (he : P.underlying e = some (.int .u8)) (hd : P.underlying dst = some .string) (k : K (strOf xs)) : readP P (convert src dst s.val) w Value.string K := by
  refine ⟨strOf xs, ?_, k⟩
  have h0 := h
  obtain ⟨⟨h1, h2, h3⟩, hc⟩ := h
  rcases ha : s.a with _ | a
  · have hx : xs = [] := h0.nil_of ha
    subst hx
    have hl : s.len = 0 := by simpa using h1
    rw [SlV.val, ha, hl, Go.Lib.run_convert_nil_bytes w src dst e _ hs he hd]
    rfl
  · rw [SlV.val, ha, run_convert_bytes_string w src dst e _ _ _ hs he hd]
    refine run_bytesToString w a s.len s.cap xs ?_
    have hco := h0.cellsOf ha
    rw [flat_int] at hco
    have hr := loadCellsFrom_run (P := P) w a (arrI .u8 xs).toArray s.len 0 #[] (by simp [h1]) (fun j hj => by
      have hj : j < xs.length := by simpa using hj
      have hu : (arrI .u8 xs)[j]? = some (.int .u8 xs[j]) := by simp [hj]
      rw [hco _ _ hu]
      simp [hj])
    simp only [loadCells]
    rw [hr]
    simp

theorem key_fill {kk kx : List Int} (hkx : (if kk.length > 64 then sha kk else kk) = kx) : kx.length ≤ 64 ∧ Sha.key kk = kx ++ List.replicate (64 - kx.length) 0 := by
  refine ⟨by rw [← hkx]; split <;> first | (rw [sha_len]; omega) | omega, ?_⟩
  unfold Sha.key
  simp only
  rw [hkx]

/-- what the key's array comes to -/
theorem keyA_end {kx : List Int} (h : kx.length ≤ 64) : fill (kx ++ List.replicate (64 - kx.length) 0) 64 kx.length = kx ++ List.replicate (64 - kx.length) 0 := by
  unfold fill
  rw [List.take_left]

theorem BL_xor (y : Int) (l : List Int) : BL (l.map fun x => bits .xor .u8 x y) := by
  intro x hx
  obtain ⟨z, _, rfl⟩ := List.mem_map.1 hx
  exact B8_wrap _
theorem BL_append {l m : List Int} (h : BL l) (h' : BL m) : BL (l ++ m) := by
  intro x hx
  rcases List.mem_append.1 hx with h1 | h1
  · exact h _ h1
  · exact h' _ h1

set_option maxHeartbeats 1000000 in
/-- the document's seal -/
theorem c18 {key s : SlV} {kk mm : List Int} {w : World} {K : List Int → World → Prop} (hk : Sl w 1 (Value.int .u8) key kk) (hm : Sl w 1 (Value.int .u8) s mm) (hB : BL kk) (hBm : BL mm) (hkl : kk.length ≤ 1048576) (hml : mm.length ≤ 1048576)
    (k : ∀ w', St w' [.old w] → K (hmac kk mm) w') : callP P 18 #[key.val, s.val] w (arrV .u8) K := sf18_call _ _ _ _ (by
  refine (St.start w).nwA fun b1 w1 h => ?_
  refine h.nwA fun b2 w2 h => ?_
  refine cut_i (fun _ w' => St w' [cellsA b2 (arrI .u8 (Sha.key kk)) 97, cellsA b1 (arrI .u8 (List.replicate 32 0)) 25, .old w]) ?_ ?_
  · rw [hk.len]
    refine cond_i (fun e => ?_) (fun e => ?_)
    · have e : kk.length > 64 := by simp at e; omega
      refine c19 (hk.old (h.re : St w2 [.old w])) hB (by omega) fun w4 h' => ?_
      have h := h.thaw0 h'
      obtain ⟨hx1, hx2⟩ := key_fill (kk := kk) (kx := sha kk) (by rw [if_pos e])
      have hsl := sha_len kk
      have hend := keyA_end hx1
      rw [← hx2] at hend
      generalize sha kk = sv at h hx1 hx2 hsl hend ⊢
      refine h.nwA fun b6 w5 h => ?_
      refine h.stArr (b := b6) hsl (by simp) fun w6 h => ?_
      refine loop_cnt (n := 32) (fun i w' => St w' [cellsA b6 (arrI .u8 sv) 25, cellsA b2 (arrI .u8 (fill (Sha.key kk) 64 i)) 97, cellsA b1 (arrI .u8 (List.replicate 32 0)) 25, .old w]) (by rw [fill_zero]; exact h) ?_ ?_
      · rintro g i w7 next hi h hn
        refine cond_t (lt_true hi) ?_
        have hi2 : i < sv.length := by omega
        obtain ⟨x, hx⟩ : ∃ x, sv[i]? = some x := ⟨_, List.getElem?_eq_getElem hi2⟩
        have hxk : (Sha.key kk)[i]? = some x := by rw [hx2, List.getElem?_append_left hi2, hx]
        refine chk_i (inR_i (by omega) (by omega)) (h.ldI (b := b6) hx (chk_i (inR_i (by omega) (by omega)) ?_))
        refine h.stI (b := b2) (by rw [fill_len (by rw [key_len]; omega) (by omega)]; omega) fun w8 h => ?_
        rw [wrap_succ (by omega)]
        rw [fill_set' hxk (by omega)] at h
        exact hn _ h.re
      · rintro g w7 next h
        refine cond_f (by decide) ?_
        rw [hsl] at hend
        rw [hend] at h
        exact h.re
    · have e : ¬ kk.length > 64 := by simp at e; omega
      obtain ⟨hx1, hx2⟩ := key_fill (kk := kk) (kx := kk) (by rw [if_neg e])
      have hend := keyA_end hx1
      rw [← hx2] at hend
      refine loop_cnt (n := kk.length) (fun i w' => St w' [cellsA b2 (arrI .u8 (fill (Sha.key kk) 64 i)) 97, cellsA b1 (arrI .u8 (List.replicate 32 0)) 25, .old w]) (by rw [fill_zero]; exact h) ?_ ?_
      · rintro g i w7 next hi h hn
        refine cond_t (lt_true hi) ?_
        obtain ⟨x, hx⟩ : ∃ x, kk[i]? = some x := ⟨_, List.getElem?_eq_getElem hi⟩
        have hxk : (Sha.key kk)[i]? = some x := by rw [hx2, List.getElem?_append_left hi, hx]
        rw [← hk.len]
        refine (hk.old (h.re : St w7 [.old w])).atN hx fun _ _ => ?_
        refine chk_i (inR_i (by omega) (by omega)) ?_
        refine h.stI (b := b2) (by rw [fill_len (by rw [key_len]; omega) (by omega)]; omega) fun w8 h => ?_
        rw [wrap_succ (by omega)]
        rw [fill_set' hxk (by omega)] at h
        exact hn _ h.re
      · rintro g w7 next h
        refine cond_f (lt_false _) ?_
        rw [hend] at h
        exact h.re
  rintro g _ w3 h
  have hky := key_len kk
  have ehm : hmac kk mm = sha (((Sha.key kk).map fun x => bits .xor .u8 x 92) ++ sha (((Sha.key kk).map fun x => bits .xor .u8 x 54) ++ mm)) := rfl
  rw [ehm] at k
  clear ehm
  generalize Sha.key kk = ky at h hky k
  have hi64 : (ky.map fun x => bits .xor .u8 x 54).length = 64 := by simp [hky]
  have ho64 : (ky.map fun x => bits .xor .u8 x 92).length = 64 := by simp [hky]
  have hiB := BL_xor 54 ky
  have hoB := BL_xor 92 ky
  have hig : ∀ i (x : Int), ky[i]? = some x → (ky.map fun x => bits .xor .u8 x 54)[i]? = some (bits .xor .u8 x 54) := fun i x e => by rw [List.getElem?_map, e]; rfl
  have hog : ∀ i (x : Int), ky[i]? = some x → (ky.map fun x => bits .xor .u8 x 92)[i]? = some (bits .xor .u8 x 92) := fun i x e => by rw [List.getElem?_map, e]; rfl
  generalize (ky.map fun x => bits .xor .u8 x 54) = li at k hi64 hiB hig
  generalize (ky.map fun x => bits .xor .u8 x 92) = lo at k ho64 hoB hog
  refine loop_i (fun s w' => ∃ i : Nat, s.2.2 = (i : Int) ∧ i ≤ 64 ∧ St w' [SlO 1 (Value.int .u8) s.1 (li.take i), SlO 1 (Value.int .u8) s.2.1 (lo.take i), cellsA b2 (arrI .u8 ky) 97, cellsA b1 (arrI .u8 (List.replicate 32 0)) 25, .old w]) (fun s _ => 64 - s.2.2.toNat) ⟨0, rfl, by omega, by
    rw [List.take_zero, List.take_zero]; exact SlO.nil (SlO.nil h)⟩ ?_
  rintro g ⟨q1, q2, _⟩ w4 ⟨i, rfl, hi, h⟩
  simp only at h
  refine cond_i (fun e => ?_) (fun e => ?_)
  · have hi : i < 64 := by simp at e; omega
    obtain ⟨x, hx⟩ : ∃ x, ky[i]? = some x := ⟨_, List.getElem?_eq_getElem (by omega)⟩
    refine chk_i (inR_i (by show (0:Int) ≤ (i:Int); omega) (by show (i:Int) < _; omega)) (h.ldI (b := b2) hx ?_)
    refine h.nw fun b17 w5 h => ?_
    refine h.appY (s := q1) (x := bits .xor .u8 x 54) slT22 (by omega) rfl (by simp; omega) (by simp; omega) fun r18 w6 h => ?_
    refine chk_i (inR_i (by show (0:Int) ≤ (i:Int); omega) (by show (i:Int) < _; omega)) (h.ldI (b := b2) hx ?_)
    refine h.nw fun b20 w7 h => ?_
    refine h.appY (s := q2) (x := bits .xor .u8 x 92) slT22 (by omega) rfl (by simp; omega) (by simp; omega) fun r21 w8 h => ?_
    have es : IntKind.i64.wrap ((i : Int) + 1) = ((i + 1 : Nat) : Int) := by rw [wrap_i64 (by omega) (by omega)]; omega
    refine ⟨⟨i + 1, es, hi, ?_⟩, ?_⟩
    · rw [take_snoc (hig _ _ hx), take_snoc (hog _ _ hx)]
      exact h.re
    · show 64 - (IntKind.i64.wrap ((i : Int) + 1)).toNat < 64 - (i : Int).toNat
      rw [es]; omega
  have hi : i = 64 := by simp at e; omega
  subst hi
  rw [List.take_of_length_le (by omega), List.take_of_length_le (by omega)] at h
  refine h.append (s := q1) slT22 (by omega) (hm.old (h.re : St w4 [.old w])) (by omega) (by rw [maxLen_eq]; omega) fun r22 w5 h => ?_
  refine c19 (h.slIn (s := r22)) (BL_append hiB hBm) (by simp; omega) fun w6 h' => ?_
  have h := h.thaw0 h'
  have hsl := sha_len (li ++ mm)
  have hsB := BL_sha (li ++ mm)
  generalize sha (li ++ mm) = inn at h hsl hsB k ⊢
  refine h.nwA fun b24 w7 h => ?_
  refine h.stArr (b := b24) hsl (by simp) fun w8 h => ?_
  refine loop_cnt2 (n := 32) (fun i s w' => St w' [SlO 1 (Value.int .u8) s (lo ++ inn.take i), cellsA b24 (arrI .u8 inn) 25, cellsA b1 (arrI .u8 (List.replicate 32 0)) 25, .old w]) (by rw [List.take_zero, List.append_nil]; exact h.re) ?_ ?_
  · rintro g i q w9 next hi h hn
    refine cond_t (lt_true hi) ?_
    obtain ⟨x, hx⟩ : ∃ x, inn[i]? = some x := ⟨_, List.getElem?_eq_getElem (by omega)⟩
    refine chk_i (inR_i (by omega) (by omega)) (h.ldI (b := b24) hx ?_)
    refine h.nw fun b28 w10 h => ?_
    refine h.appY (s := q) (x := x) slT22 (by omega) rfl (by simp; omega) (by simp; omega) fun r29 w11 h => ?_
    show next (r29, IntKind.i64.wrap ((i : Int) + 1)) w11
    rw [wrap_succ (by omega)]
    refine hn _ _ ?_
    rw [take_snoc hx, ← List.append_assoc]
    exact h.re
  · rintro g q w9 next h
    refine cond_f (by show decide (((32 : Nat) : Int) < 32) = false; decide) ?_
    rw [List.take_of_length_le (by omega)] at h
    refine c19 (h.slIn (s := q)) (BL_append hoB hsB) (by simp; omega) fun w10 h' => ?_
    have h := h.thaw0 h'
    refine h.stArr (b := b1) (sha_len _) (by simp) fun w11 h => ?_
    refine h.ldArr (b := b1) (sha_len _) (unArr_i (k _ h.re)))
end Go.Vc.SA
