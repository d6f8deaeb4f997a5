/-
  The hash, told in another way: bits. No program in sight.
-/
import Derived.Test.YtobldgdfejpckaaSha
import Derived.Laws.BitsLemmas
set_option linter.all false
set_option linter.unusedVariables false
set_option maxRecDepth 100000
namespace Go.Vc.Sha
def W32 (x : Int) : Prop := 0 ≤ x ∧ x < 4294967296
def B8 (x : Int) : Prop := 0 ≤ x ∧ x < 256
theorem wrap32_id {x : Int} (h : W32 x) : IntKind.u32.wrap x = x := by rw [wrap_u32]; unfold W32 at h; omega
theorem W32_wrap (x : Int) : W32 (IntKind.u32.wrap x) := by rw [wrap_u32]; unfold W32; omega
theorem B8_wrap (x : Int) : B8 (IntKind.u8.wrap x) := by rw [wrap_u8]; unfold B8; omega
/-- what the bits are -/
def bv (x : Int) : BitVec 32 := BitVec.ofInt 32 x
theorem bits_bv (op : BinOp) (x y : Int) : bits op .u32 x y = ((match op with | .and => bv x &&& bv y | .or => bv x ||| bv y | .xor => bv x ^^^ bv y | _ => bv x &&& ~~~ bv y).toNat : Int) := by
  have h : ∀ z : BitVec 32, IntKind.u32.wrap (z.toNat : Int) = (z.toNat : Int) := fun z => wrap32_id ⟨by omega, by have := z.isLt; omega⟩
  unfold bits
  exact h _
theorem bv_nat (z : BitVec 32) : bv (z.toNat : Int) = z := by
  unfold bv
  rw [BitVec.ofInt_natCast]
  simp
theorem or_comm32 (x y : Int) : bits .or .u32 x y = bits .or .u32 y x := by
  rw [bits_bv, bits_bv]
  simp only
  rw [BitVec.or_comm]
theorem bv_not {e : Int} (h : W32 e) : bv (IntKind.u32.wrap (4294967295 - e)) = ~~~ bv e := by
  unfold W32 at h
  apply BitVec.eq_of_toNat_eq
  rw [BitVec.toNat_not]
  unfold bv
  rw [BitVec.toNat_ofInt, BitVec.toNat_ofInt, wrap_u32]
  have e1 : ((2 ^ 32 : Nat) : Int) = 4294967296 := by decide
  have e2 : (2 : Nat) ^ 32 = 4294967296 := by decide
  rw [e1, e2]
  omega
theorem bv_ones : bv (if IntKind.u32.signed then -1 else IntKind.u32.max) = BitVec.allOnes 32 := by decide
theorem ch_eq {e f g : Int} (h : W32 e) : bits .or .u32 (an e f) (an (IntKind.u32.wrap (4294967295 - e)) g) = xo (an e f) (an (xo (if IntKind.u32.signed then -1 else IntKind.u32.max) e) g) := by
  show bits .or .u32 (bits .and .u32 e f) (bits .and .u32 (IntKind.u32.wrap (4294967295 - e)) g) = bits .xor .u32 (bits .and .u32 e f) (bits .and .u32 (bits .xor .u32 (if IntKind.u32.signed then -1 else IntKind.u32.max) e) g)
  rw [bits_bv .or, bits_bv .xor (bits .and .u32 e f), bits_bv .and e f, bits_bv .and (IntKind.u32.wrap (4294967295 - e)) g, bits_bv .and (bits .xor .u32 _ e) g, bits_bv .xor _ e]
  simp only [bv_nat]
  rw [bv_not h, bv_ones]
  generalize bv e = E
  generalize bv f = F
  generalize bv g = G
  congr 2
  apply BitVec.eq_of_getLsbD_eq
  intro i hi
  simp only [BitVec.getLsbD_or, BitVec.getLsbD_and, BitVec.getLsbD_xor, BitVec.getLsbD_not, BitVec.getLsbD_allOnes, hi, decide_true, Bool.true_and, Bool.true_xor]
  cases E.getLsbD i <;> cases F.getLsbD i <;> cases G.getLsbD i <;> rfl
theorem maj_eq (a b c : Int) : bits .or .u32 (bits .or .u32 (an a b) (an a c)) (an b c) = xo (xo (an a b) (an a c)) (an b c) := by
  show bits .or .u32 (bits .or .u32 (bits .and .u32 a b) (bits .and .u32 a c)) (bits .and .u32 b c) = bits .xor .u32 (bits .xor .u32 (bits .and .u32 a b) (bits .and .u32 a c)) (bits .and .u32 b c)
  rw [bits_bv .or (bits .or .u32 _ _), bits_bv .xor (bits .xor .u32 _ _), bits_bv .or (bits .and .u32 a b), bits_bv .xor (bits .and .u32 a b), bits_bv .and a b, bits_bv .and a c, bits_bv .and b c]
  simp only [bv_nat]
  generalize bv a = A
  generalize bv b = B
  generalize bv c = C
  congr 2
  apply BitVec.eq_of_getLsbD_eq
  intro i hi
  simp only [BitVec.getLsbD_or, BitVec.getLsbD_and, BitVec.getLsbD_xor]
  cases A.getLsbD i <;> cases B.getLsbD i <;> cases C.getLsbD i <;> rfl

def part (bs : List Int) : Int := bs.foldl (fun v b => IntKind.u32.wrap (IntKind.u32.wrap (256 * v) + IntKind.u32.wrap b)) 0
theorem part_snoc (bs : List Int) (b : Int) : part (bs ++ [b]) = IntKind.u32.wrap (IntKind.u32.wrap (256 * part bs) + IntKind.u32.wrap b) := by simp [part]
theorem join32 (i : Nat) (x y : Int) (hx : W32 x) (hm : x % 2 ^ i = 0) (hy0 : 0 ≤ y) (hy : y < 2 ^ i) (hy1 : y < 4294967296) : bits .or .u32 x y = x + y :=
  bits_join .u32 32 (Nat.le_refl _) (fun n h0 h1 => wrap32_id ⟨h0, h1⟩) i x y hx.1 hm hx.2 hy0 hy hy1
theorem wd_sum {a b c d : Int} (ha : B8 a) (hb : B8 b) (hc : B8 c) (hd : B8 d) : wd a b c d = a * 16777216 + b * 65536 + c * 256 + d := by
  unfold B8 at *
  unfold wd
  rw [wrap_u32 (x := a), wrap_u32 (x := b), wrap_u32 (x := c), wrap_u32 (x := d), wrap_u32, wrap_u32, wrap_u32]
  have e1 : a % 4294967296 * 16777216 % 4294967296 = a * 16777216 := by omega
  have e2 : b % 4294967296 * 65536 % 4294967296 = b * 65536 := by omega
  have e3 : c % 4294967296 * 256 % 4294967296 = c * 256 := by omega
  have e4 : d % 4294967296 = d := by omega
  rw [e1, e2, e3, e4]
  rw [join32 24 (a * 16777216) (b * 65536) ⟨by omega, by omega⟩ (by omega) (by omega) (by omega) (by omega)]
  rw [join32 16 (a * 16777216 + b * 65536) (c * 256) ⟨by omega, by omega⟩ (by omega) (by omega) (by omega) (by omega)]
  rw [join32 8 (a * 16777216 + b * 65536 + c * 256) d ⟨by omega, by omega⟩ (by omega) (by omega) (by omega) (by omega)]
theorem part_wd {a b c d : Int} (ha : B8 a) (hb : B8 b) (hc : B8 c) (hd : B8 d) : part [a, b, c, d] = wd a b c d := by
  rw [wd_sum ha hb hc hd]
  unfold B8 at *
  simp only [part, List.foldl_cons, List.foldl_nil, wrap_u32]
  omega

/-! ### ranges -/
def WL (l : List Int) : Prop := ∀ x ∈ l, W32 x
def BL (l : List Int) : Prop := ∀ x ∈ l, B8 x
theorem WL_H0 : WL H0 := by
  intro x hx
  simp only [H0, List.mem_cons, List.mem_nil_iff, or_false] at hx
  unfold W32
  omega
theorem WL_rnd {v : List Int} {k w : Int} (h : WL v) : WL (rnd v k w) := by
  unfold rnd
  split
  · rename_i a b c d e f g i
    intro x hx
    simp only [List.mem_cons, List.mem_nil_iff, or_false] at hx
    rcases hx with rfl | rfl | rfl | rfl | rfl | rfl | rfl | rfl
    · exact W32_wrap _
    · exact h _ (by simp)
    · exact h _ (by simp)
    · exact h _ (by simp)
    · exact W32_wrap _
    · exact h _ (by simp)
    · exact h _ (by simp)
    · exact h _ (by simp)
  · exact h
theorem WL_rnds : ∀ (ks ws v : List Int), WL v → WL (rnds v ks ws)
  | [], _, _, h => by simpa [rnds] using h
  | _ :: _, [], _, h => by simpa [rnds] using h
  | k :: ks, w :: ws, v, h => WL_rnds ks ws _ (WL_rnd h)
theorem WL_blk (h b : List Int) : WL (blk h b) := by
  intro x hx
  unfold blk at hx
  rw [List.mem_iff_getElem?] at hx
  obtain ⟨i, hi⟩ := hx
  rw [List.getElem?_zipWith] at hi
  split at hi
  · cases hi; exact W32_wrap _
  · cases hi
theorem WL_blks : ∀ (n : Nat) (h b : List Int), WL h → WL (blks n h b)
  | 0, _, _, h => h
  | n + 1, _, _, _ => WL_blks n _ _ (WL_blk _ _)
theorem BL_pad {m : List Int} (h : BL m) : BL (pad m) := by
  intro x hx
  unfold pad at hx
  simp only [List.mem_append, List.mem_singleton, List.mem_replicate] at hx
  rcases hx with ((hx | hx) | hx) | hx
  · exact h x hx
  · subst hx; unfold B8; omega
  · rw [hx.2]; unfold B8; omega
  · simp only [be8, List.map_cons, List.map_nil, List.mem_cons, List.mem_nil_iff, or_false] at hx
    rcases hx with rfl | rfl | rfl | rfl | rfl | rfl | rfl | rfl <;> exact B8_wrap _
theorem BL_outs {l : List Int} : BL (outs l) := by
  intro x hx
  unfold outs at hx
  simp only [List.mem_flatten, List.mem_map] at hx
  obtain ⟨_, ⟨y, _, rfl⟩, hx⟩ := hx
  simp only [out4, List.mem_cons, List.mem_nil_iff, or_false] at hx
  rcases hx with rfl | rfl | rfl | rfl <;> exact B8_wrap _
theorem BL_sha (m : List Int) : BL (sha m) := BL_outs
theorem fill_same {l : List Int} {n i : Nat} (hi : i ≤ l.length) (hn : i < n) : (fill l n i).set i 0 = fill l n i := by
  unfold fill
  rw [List.set_append_right _ _ (by simp; omega)]
  refine congrArg (l.take i ++ ·) ?_
  rw [show (l.take i).length = i by simp; omega, Nat.sub_self, show n - i = (n - i - 1) + 1 by omega, List.replicate_succ, List.set_cons_zero]
end Go.Vc.Sha
