/-
  Layer 8: the seal, what is answered first: contracts.
-/
import Derived.Test.YtobldgdfejpckaaCA8d
set_option linter.all false
set_option linter.unusedVariables false
set_option maxRecDepth 100000
namespace Go.Vc.SA
open Go.Proofs Go.Vc.Sha

theorem arrSub32 (b : Nat) : arrSub (⟨b, 0, none⟩ : Addr) 0 32 32 1 = ⟨some ⟨b, 0, none⟩, 32, 32⟩ := rfl
theorem Sl.arr {b : Nat} {xs : List Int} {w : World} {H H' : List HA} {T : TypeId} [c : CellsIn b H (arrI .u8 xs) T H'] (h : St w H) (hn : xs.length = 32) : Sl w 1 (Value.int .u8) ⟨some ⟨b, 0, none⟩, 32, 32⟩ xs := by
  have h := h.fcells (b := b)
  have := Sl.lit (n := 1) (val := Value.int .u8) (xs := xs) h (flat_int _ _).symm (by rw [maxLen_eq]; omega)
  rw [hn] at this
  exact this

/-- mac.Same -/
theorem c20 {a b : List Int} {w : World} {H : List HA} {K : Bool → World → Prop} (h : St w H) (ha : a.length = 32) (hb : b.length = 32) (k : ∀ w', St w' H → K (a == b) w') : callP P 20 #[arrV .u8 a, arrV .u8 b] w Value.bool K := sf20_call _ _ _ _ (by
  refine h.nwA fun b1 w1 h => h.nwA fun b2 w2 h => ?_
  refine h.ldArr (b := b1) ha (h.ldArr (b := b2) hb ⟨a, b, ha, hb, rfl, rfl, ?_⟩)
  exact k _ h.re)
theorem eqArr_i {a b : List Int} {K : Bool → Prop} (ha : a.length = 32) (hb : b.length = 32) (k : K (a == b)) : eqArrP 32 .u8 (arrV .u8 a) (arrV .u8 b) K := ⟨a, b, ha, hb, rfl, rfl, k⟩

set_option maxHeartbeats 1000000 in
/-- mac.Seal -/
theorem c16 {key parts : SlV} {kk : List Int} {ps : List SlV} {bss : List (List Int)} {w : World} {K : List Int → World → Prop} (hk : Sl w 1 (Value.int .u8) key kk) (hp : Sl w 1 SlV.val parts ps) (hb : Parts w ps bss) (hkl : kk.length ≤ 1048576) (hl : bss.flatten.length ≤ 1048576) (hpl : ps.length ≤ 1048576)
    (k : ∀ w', St w' [.old w] → K (hmac kk bss.flatten) w') : callP P 16 #[key.val, parts.val] w (arrV .u8) K := sf16_call _ _ _ _ (by
  refine (St.start w).nwA fun b1 w1 h => ?_
  refine c38 h (hk.old h.g1) (by omega) fun r w2 h => ?_
  refine h.nw fun b3 w3 h => ?_
  refine h.stn (b := b3) rfl rfl (Nat.le_refl _) fun w4 h => ?_
  change St w4 (cellsA b3 [r.val] 22 :: _) at h
  refine cut_i (fun _ w' => ∃ q : SlV, St w' [cellsA b3 [q.val] 22, SlO 1 (Value.int .u8) q (if kk.length > 64 then sha kk else kk), cellsA b1 (arrI .u8 (List.replicate 32 0)) 25, .old w]) ?_ ?_
  · refine h.ld (b := b3) (x := r) rfl ?_
    rw [h.g1.sl.len]
    refine cond_i (fun e => ?_) (fun e => ?_)
    · have e : kk.length > 64 := by simp at e; omega
      refine h.ld (b := b3) (x := r) rfl ?_
      refine h.nw fun b8 w6 h => ?_
      have hp1 : Sl w6 1 SlV.val ⟨some ⟨b8, 0, none⟩, 1, 1⟩ [r] := Sl.lit (xs := [r]) h rfl (by simp [maxLen_eq])
      refine c17 hp1 (.cons (h.slIn (s := r)) .nil) (by simp; omega) fun w7 h' => ?_
      have h := h.thaw0 h'
      have e1 : ([kk] : List (List Int)).flatten = kk := by simp
      rw [e1]
      refine h.nwA fun b10 w8 h => ?_
      refine h.stArr (b := b10) (sha_len kk) (by simp) fun w9 h => ?_
      refine h.stn (b := b3) rfl rfl (Nat.le_refl _) fun w10 h => ?_
      rw [arrSub32] at h
      change St w10 (cellsA b3 [(SlV.mk (some ⟨b10, 0, none⟩) 32 32).val] 22 :: _) at h
      refine ⟨⟨some ⟨b10, 0, none⟩, 32, 32⟩, ?_⟩
      rw [if_pos e]
      have h : St w10 (cellsA b10 (arrI .u8 (sha kk)) 25 :: cellsA b3 [(SlV.mk (some ⟨b10, 0, none⟩) 32 32).val] 22 :: cellsA b1 (arrI .u8 (List.replicate 32 0)) 25 :: [.old w]) := h.re
      have h := SlO.of_cells (n := 1) (val := Value.int .u8) (xs := sha kk) (s := ⟨some ⟨b10, 0, none⟩, 32, 32⟩) h (by rw [sha_len]) (flat_int _ _).symm (by rw [sha_len, maxLen_eq]; omega)
      exact h.re
    · have e : ¬ kk.length > 64 := by simp at e; omega
      refine ⟨r, ?_⟩
      rw [if_neg e]
      exact h.re
  rintro g _ w5 ⟨q, h⟩
  generalize hkx : (if kk.length > 64 then sha kk else kk) = kx at h
  have hkxl : kx.length ≤ 64 := by rw [← hkx]; split <;> first | (rw [sha_len]; omega) | omega
  have hkey : Sha.key kk = kx ++ List.replicate (64 - kx.length) 0 := by unfold Sha.key; simp only; rw [hkx]
  refine h.ld (b := b3) (x := q) rfl (h.ld (b := b3) (x := q) rfl ?_)
  have e64 : IntKind.i64.wrap ((64 : Int) - (q.len : Int)) = ((64 - kx.length : Nat) : Int) := by rw [h.g1.sl.len, wrap_i64 (by omega) (by omega)]; omega
  rw [e64]
  refine h.appMake (s := q) slT22 slZ22 und3 (by omega) (by omega) fun q2 w11 h => ?_
  rw [← hkey] at h
  refine h.stn (b := b3) rfl rfl (Nat.le_refl _) fun w12 h => ?_
  change St w12 (cellsA b3 [q2.val] 22 :: _) at h
  have hky := key_len kk
  refine c41 h (hp.old (h.re : St w12 [.old w])) (by omega) fun r14 w13 h => ?_
  refine c39 (b := b3) (s := q2) h (h.slIn (s := q2)) (by omega) fun r15 w14 h => ?_
  refine h.nw fun b16 w15 h => ?_
  refine c40 (s := r14) (y := r15) (h.re (G := SlO 1 SlV.val r14 ps :: cellsA b16 [r15.val] 22 :: SlO 1 (Value.int .u8) r15 ((Sha.key kk).map fun x => bits .xor .u8 x 54) :: cellsA b3 [q2.val] 22 :: SlO 1 (Value.int .u8) q2 (Sha.key kk) :: cellsA b1 (arrI .u8 (List.replicate 32 0)) 25 :: [.old w])) (by omega) fun r17 w16 h => ?_
  refine c17 (h.slIn (s := r17)) (.cons (h.slIn (s := r15)) (hb.old (h.re : St w16 [.old w]))) (by simp [hky]; simp at hl; omega) fun w17 h' => ?_
  have h := h.thaw0 h'
  simp only [List.flatten_cons]
  generalize hin : sha (((Sha.key kk).map fun x => bits .xor .u8 x 54) ++ bss.flatten) = inn
  have hinl : inn.length = 32 := by rw [← hin]; exact sha_len _
  refine h.nwA fun b19 w18 h => ?_
  refine h.stArr (b := b19) hinl (by simp) fun w19 h => ?_
  have h := h.drew
  refine c39 (b := b3) (s := q2) h (h.slIn (s := q2)) (by omega) fun r20 w20 h => ?_
  refine h.nw fun b21 w21 h => ?_
  rw [arrSub32] at h
  have hp2 : Sl w21 1 SlV.val ⟨some ⟨b21, 0, none⟩, 2, 2⟩ [r20, ⟨some ⟨b19, 0, none⟩, 32, 32⟩] := Sl.lit (xs := [r20, ⟨some ⟨b19, 0, none⟩, 32, 32⟩]) h rfl (by simp [maxLen_eq])
  refine c17 hp2 (.two (h.slIn (s := r20)) (Sl.arr (b := b19) h hinl)) (by simp [hky, hinl]) fun w22 h' => ?_
  have h := h.thaw0 h'
  have e2 : ([(Sha.key kk).map fun x => bits .xor .u8 x 92, inn] : List (List Int)).flatten = ((Sha.key kk).map fun x => bits .xor .u8 x 92) ++ inn := by simp
  have ehm : hmac kk bss.flatten = sha (((Sha.key kk).map fun x => bits .xor .u8 x 92) ++ inn) := by unfold hmac; simp only; rw [hin]
  rw [e2]
  rw [ehm] at k
  refine h.stArr (b := b1) (sha_len _) (by simp) fun w23 h => ?_
  refine h.ldArr (b := b1) (sha_len _) (unArr_i (k _ h.re)))

theorem und22 : P.underlying 22 = some (.slice 5) := by kernel_rfl
theorem und5 : P.underlying 5 = some (.int .u8) := by kernel_rfl

theorem first_sha : (sha [97, 98, 99]).getD 0 0 = 186 ∧ (sha [97, 98, 99]).getD 31 0 = 173 := by decide +kernel
theorem first_hmac : (hmac [74, 101, 102, 101] [119, 104, 97, 116, 32, 100, 111, 32, 121, 97, 32, 119, 97, 110, 116, 32, 102, 111, 114, 32, 110, 111, 116, 104, 105, 110, 103, 63]).getD 0 0 = 91 ∧
  (hmac [74, 101, 102, 101] [119, 104, 97, 116, 32, 100, 111, 32, 121, 97, 32, 119, 97, 110, 116, 32, 102, 111, 114, 32, 110, 111, 116, 104, 105, 110, 103, 63]).getD 31 0 = 67 := by decide +kernel

theorem getD_some {l : List Int} {i : Nat} {x : Int} (h : l.getD i 0 = x) (hl : i < l.length) : l[i]? = some x := by
  rw [List.getD_eq_getElem?_getD, List.getElem?_eq_getElem hl] at h
  rw [List.getElem?_eq_getElem hl]
  simpa using h
/-- first -/
theorem c15 {w : World} {H : List HA} {K : Bool → World → Prop} (h : St w H) (k : ∀ w', St w' H → K true w') : callP P 15 #[] w Value.bool K := sf15_call _ _ (by
  refine h.litB [97] und22 und5 rfl fun b1 w1 h => ?_
  refine h.litB [98, 99] und22 und5 rfl fun b3 w3 h => ?_
  refine h.nw fun b5 w5 h => ?_
  have s1 : Sl w5 1 (Value.int .u8) ⟨some ⟨b1, 0, none⟩, 1, 1⟩ [97] := LitB.sl h.g2 rfl (by omega)
  have s3 : Sl w5 1 (Value.int .u8) ⟨some ⟨b3, 0, none⟩, 2, 2⟩ [98, 99] := LitB.sl h.g1 rfl (by omega)
  have s5 : Sl w5 1 SlV.val ⟨some ⟨b5, 0, none⟩, 2, 2⟩ [⟨some ⟨b1, 0, none⟩, 1, 1⟩, ⟨some ⟨b3, 0, none⟩, 2, 2⟩] := Sl.lit (xs := [(⟨some ⟨b1, 0, none⟩, 1, 1⟩ : SlV), ⟨some ⟨b3, 0, none⟩, 2, 2⟩]) h rfl (by simp [maxLen_eq])
  refine c17 s5 (.two s1 s3) (by simp) fun w6 h' => ?_
  have h := h.thaw0 h'
  have e1 : ([[97], [98, 99]] : List (List Int)).flatten = [97, 98, 99] := rfl
  rw [e1]
  obtain ⟨f0, f31⟩ := first_sha
  obtain ⟨g0, g31⟩ := first_hmac
  generalize hs : sha [97, 98, 99] = sv at f0 f31
  have hsl : sv.length = 32 := by rw [← hs]; exact sha_len _
  refine h.nwA fun b7 w7 h => ?_
  refine h.stArr (b := b7) hsl (by simp) fun w8 h => ?_
  refine h.litB [74, 101, 102, 101] und22 und5 rfl fun b8 w9 h => ?_
  refine h.litB [119, 104, 97, 116, 32, 100, 111, 32, 121, 97, 32, 119, 97, 110, 116, 32, 102, 111, 114, 32, 110, 111, 116, 104, 105, 110, 103, 63] und22 und5 rfl fun b10 w11 h => ?_
  refine h.nw fun b12 w13 h => ?_
  have s8 : Sl w13 1 (Value.int .u8) ⟨some ⟨b8, 0, none⟩, 4, 4⟩ [74, 101, 102, 101] := LitB.sl h.g2 rfl (by omega)
  have s10 : Sl w13 1 (Value.int .u8) ⟨some ⟨b10, 0, none⟩, 28, 28⟩ [119, 104, 97, 116, 32, 100, 111, 32, 121, 97, 32, 119, 97, 110, 116, 32, 102, 111, 114, 32, 110, 111, 116, 104, 105, 110, 103, 63] := LitB.sl h.g1 rfl (by omega)
  have s12 : Sl w13 1 SlV.val ⟨some ⟨b12, 0, none⟩, 1, 1⟩ [⟨some ⟨b10, 0, none⟩, 28, 28⟩] := Sl.lit (xs := [(⟨some ⟨b10, 0, none⟩, 28, 28⟩ : SlV)]) h rfl (by simp [maxLen_eq])
  refine c16 s8 s12 (.cons s10 .nil) (by simp) (by simp) (by simp) fun w14 h' => ?_
  have h := h.thaw0 h'
  simp only [List.flatten_cons, List.flatten_nil, List.append_nil]
  generalize hh : hmac [74, 101, 102, 101] [119, 104, 97, 116, 32, 100, 111, 32, 121, 97, 32, 119, 97, 110, 116, 32, 102, 111, 114, 32, 110, 111, 116, 104, 105, 110, 103, 63] = hv at g0 g31
  have hhl : hv.length = 32 := by rw [← hh]; exact hmac_len _ _
  refine h.nwA fun b14 w15 h => ?_
  refine h.stArr (b := b14) hhl (by simp) fun w16 h => ?_
  refine h.ldI (b := b7) (i := 0) (x := 186) (getD_some f0 (by omega)) (cond_t rfl ?_)
  refine h.ldI (b := b7) (i := 31) (x := 173) (getD_some f31 (by omega)) (cond_t rfl ?_)
  refine h.ldI (b := b14) (i := 0) (x := 91) (getD_some g0 (by omega)) (cond_t rfl ?_)
  refine h.ldI (b := b14) (i := 31) (x := 67) (getD_some g31 (by omega)) (cond_t rfl ?_)
  refine h.ldArr (b := b7) hsl (h.ldArr (b := b7) hsl ?_)
  refine c20 h hsl hsl fun w17 h => cond_t (by simp) ?_
  refine h.ldArr (b := b7) hsl (h.ldArr (b := b14) hhl ?_)
  refine c20 h hsl hhl fun w18 h => ?_
  have hne : (sv == hv) = false := by
    rw [beq_eq_false_iff_ne]
    intro e
    rw [e] at f0
    omega
  rw [hne]
  exact k _ h.re)
end Go.Vc.SA
