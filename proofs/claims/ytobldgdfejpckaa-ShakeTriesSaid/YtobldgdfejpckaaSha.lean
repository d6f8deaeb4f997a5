/-
  The hash and the seal as functions of lists of numbers. No program in sight.
-/
import Derived.Test.YtobldgdfejpckaaVcSep5
set_option linter.all false
set_option linter.unusedVariables false
set_option maxRecDepth 100000
namespace Go.Vc.Sha
def K : List Int := [1116352408, 1899447441, 3049323471, 3921009573, 961987163, 1508970993, 2453635748, 2870763221, 3624381080, 310598401, 607225278, 1426881987, 1925078388, 2162078206, 2614888103, 3248222580, 3835390401, 4022224774, 264347078, 604807628, 770255983, 1249150122, 1555081692, 1996064986, 2554220882, 2821834349, 2952996808, 3210313671, 3336571891, 3584528711, 113926993, 338241895, 666307205, 773529912, 1294757372, 1396182291, 1695183700, 1986661051, 2177026350, 2456956037, 2730485921, 2820302411, 3259730800, 3345764771, 3516065817, 3600352804, 4094571909, 275423344, 430227734, 506948616, 659060556, 883997877, 958139571, 1322822218, 1537002063, 1747873779, 1955562222, 2024104815, 2227730452, 2361852424, 2428436474, 2756734187, 3204031479, 3329325298]
def H0 : List Int := [1779033703, 3144134277, 1013904242, 2773480762, 1359893119, 2600822924, 528734635, 1541459225]
abbrev xo (a b : Int) : Int := bits .xor .u32 a b
abbrev an (a b : Int) : Int := bits .and .u32 a b
abbrev ad (a b : Int) : Int := IntKind.u32.wrap (a + b)
def rotr (x : Int) (n : Nat) : Int := bits .or .u32 (IntKind.u32.wrap (x * ((2 ^ (32 - n) : Nat) : Int))) (x / ((2 ^ n : Nat) : Int))
def wd (a b c d : Int) : Int := bits .or .u32 (bits .or .u32 (bits .or .u32 (IntKind.u32.wrap (IntKind.u32.wrap a * 16777216)) (IntKind.u32.wrap (IntKind.u32.wrap b * 65536))) (IntKind.u32.wrap (IntKind.u32.wrap c * 256))) (IntKind.u32.wrap d)
def words : List Int → List Int
  | a :: b :: c :: d :: r => wd a b c d :: words r
  | _ => []
def nextW (l : List Int) (t : Nat) : Int :=
  let x := l.getD (t - 2) 0
  let y := l.getD (t - 15) 0
  ad (ad (ad (xo (xo (rotr x 17) (rotr x 19)) (x / 1024)) (l.getD (t - 7) 0)) (xo (xo (rotr y 7) (rotr y 18)) (y / 8))) (l.getD (t - 16) 0)
def sched (l : List Int) : Nat → List Int
  | 0 => l
  | n + 1 => let m := sched l n; m ++ [nextW m (16 + n)]
abbrev T1 (e f g h k w : Int) : Int := ad (ad (ad (ad h (xo (xo (rotr e 6) (rotr e 11)) (rotr e 25))) (xo (an e f) (an (xo (if IntKind.u32.signed then -1 else IntKind.u32.max) e) g))) k) w
abbrev T2 (a b c : Int) : Int := ad (xo (xo (rotr a 2) (rotr a 13)) (rotr a 22)) (xo (xo (an a b) (an a c)) (an b c))
def rnd (v : List Int) (k w : Int) : List Int :=
  match v with
  | [a, b, c, d, e, f, g, h] => [ad (T1 e f g h k w) (T2 a b c), a, b, c, ad d (T1 e f g h k w), e, f, g]
  | v => v
def rnds : List Int → List Int → List Int → List Int
  | v, k :: ks, w :: ws => rnds (rnd v k w) ks ws
  | v, _, _ => v
def blk (h b : List Int) : List Int := List.zipWith ad h (rnds h K (sched (words b) 48))
def be8 (n : Int) : List Int := [56, 48, 40, 32, 24, 16, 8, 0].map fun i => IntKind.u8.wrap (n / ((2 ^ i : Nat) : Int))
def padN (n : Nat) : Nat := (120 - (n + 1) % 64) % 64
def bitN (n : Nat) : Int := IntKind.u64.wrap (IntKind.u64.wrap (n : Int) * 8)
def pad (m : List Int) : List Int := m ++ [128] ++ List.replicate (padN m.length) 0 ++ be8 (bitN m.length)
def blks : Nat → List Int → List Int → List Int
  | 0, h, _ => h
  | n + 1, h, b => blks n (blk h (b.take 64)) (b.drop 64)
def out4 (x : Int) : List Int := [IntKind.u8.wrap (x / 16777216), IntKind.u8.wrap (x / 65536), IntKind.u8.wrap (x / 256), IntKind.u8.wrap (x / 1)]
def outs (l : List Int) : List Int := (l.map out4).flatten
def sha (m : List Int) : List Int := let p := pad m; outs (blks (p.length / 64) H0 p)
def key (k : List Int) : List Int := let k := if k.length > 64 then sha k else k; k ++ List.replicate (64 - k.length) 0
def hmac (k m : List Int) : List Int :=
  let k := key k
  sha ((k.map fun x => bits .xor .u8 x 92) ++ sha ((k.map fun x => bits .xor .u8 x 54) ++ m))

/-! ### arrays that are filled -/
def fill (l : List Int) (n i : Nat) : List Int := l.take i ++ List.replicate (n - i) 0
theorem fill_len {l : List Int} {n i : Nat} (hi : i ≤ l.length) (hn : i ≤ n) : (fill l n i).length = n := by simp [fill]; omega
theorem fill_zero (l : List Int) (n : Nat) : fill l n 0 = List.replicate n 0 := by simp [fill]
theorem fill_all {l : List Int} {n : Nat} (h : l.length = n) : fill l n n = l := by simp [fill, ← h]
theorem fill_get {l : List Int} {n i j : Nat} (hj : j < i) (hi : i ≤ l.length) : (fill l n i)[j]? = l[j]? := by
  unfold fill
  rw [List.getElem?_append_left (by simp; omega), List.getElem?_take_of_lt hj]
theorem fill_set {l : List Int} {n i : Nat} (hi : i < l.length) (hn : i < n) : (fill l n i).set i l[i] = fill l n (i + 1) := by
  unfold fill
  rw [List.set_append_right _ _ (by simp; omega), List.take_succ_eq_append_getElem hi, List.append_assoc]
  congr 1
  rw [show (l.take i).length = i by simp; omega, Nat.sub_self, show n - i = (n - (i + 1)) + 1 by omega, List.replicate_succ, List.set_cons_zero]
  rfl
theorem fill_set' {l : List Int} {n i : Nat} {x : Int} (hi : l[i]? = some x) (hn : i < n) : (fill l n i).set i x = fill l n (i + 1) := by
  have h := (List.getElem?_eq_some_iff.1 hi).1
  have e := (List.getElem?_eq_some_iff.1 hi).2
  rw [← e]
  exact fill_set h hn
theorem fill_prefix {l m : List Int} {n i : Nat} (h : l.take i = m.take i) : fill l n i = fill m n i := by unfold fill; rw [h]

/-! ### lengths -/
theorem words_len : ∀ (n : Nat) (l : List Int), l.length = 4 * n → (words l).length = n
  | 0, [], _ => rfl
  | 0, _ :: _, h => by simp at h
  | n + 1, a :: b :: c :: d :: r, h => by
    simp only [List.length_cons] at h
    simp [words, words_len n r (by omega)]
  | n + 1, [], h => by simp at h
  | n + 1, [_], h => by simp at h; omega
  | n + 1, [_, _], h => by simp at h; omega
  | n + 1, [_, _, _], h => by simp at h; omega
theorem words_get : ∀ (i : Nat) (l : List Int) (a b c d : Int), l[4 * i]? = some a → l[4 * i + 1]? = some b → l[4 * i + 2]? = some c → l[4 * i + 3]? = some d → (words l)[i]? = some (wd a b c d)
  | 0, l, a, b, c, d, ha, hb, hc, hd => by
    match l, ha, hb, hc, hd with
    | [], ha, _, _, _ => simp at ha
    | [_], _, hb, _, _ => simp at hb
    | [_, _], _, _, hc, _ => simp at hc
    | [_, _, _], _, _, _, hd => simp at hd
    | a' :: b' :: c' :: d' :: r, ha, hb, hc, hd =>
      simp at ha hb hc hd
      subst ha hb hc hd
      rfl
  | i + 1, l, a, b, c, d, ha, hb, hc, hd => by
    match l, ha, hb, hc, hd with
    | [], ha, _, _, _ => simp at ha
    | [_], _, hb, _, _ => simp at hb
    | [_, _], _, _, hc, _ => simp at hc
    | [_, _, _], _, _, _, hd => simp at hd
    | a' :: b' :: c' :: d' :: r, ha, hb, hc, hd =>
      rw [show 4 * (i + 1) = 4 * i + 4 by omega] at ha hb hc hd
      rw [show 4 * i + 4 + 1 = 4 * i + 1 + 4 by omega] at hb
      rw [show 4 * i + 4 + 2 = 4 * i + 2 + 4 by omega] at hc
      rw [show 4 * i + 4 + 3 = 4 * i + 3 + 4 by omega] at hd
      have := words_get i r a b c d (by simpa using ha) (by simpa using hb) (by simpa using hc) (by simpa using hd)
      simpa [words] using this
theorem sched_len (l : List Int) : ∀ n, (sched l n).length = l.length + n
  | 0 => rfl
  | n + 1 => by simp [sched, sched_len l n]; omega
theorem sched_take (l : List Int) : ∀ (n m : Nat), m ≤ n → (sched l n).take (l.length + m) = sched l m
  | 0, m, h => by
    have : m = 0 := by omega
    subst this
    simp [sched]
  | n + 1, m, h => by
    by_cases hm : m = n + 1
    · subst hm
      rw [← sched_len l (n + 1), List.take_length]
    · show ((sched l n) ++ [nextW (sched l n) (16 + n)]).take (l.length + m) = _
      rw [List.take_append_of_le_length (by rw [sched_len]; omega), sched_take l n m (by omega)]
theorem sched_get (l : List Int) {n m : Nat} (h : m < n) : (sched l n)[l.length + m]? = some (nextW (sched l m) (16 + m)) := by
  have h1 := sched_take l n (m + 1) (by omega)
  have h2 : (sched l (m + 1))[l.length + m]? = some (nextW (sched l m) (16 + m)) := by
    show ((sched l m) ++ [nextW (sched l m) (16 + m)])[l.length + m]? = _
    rw [List.getElem?_append_right (by rw [sched_len]; omega), sched_len]
    simp
  rw [← h1, List.getElem?_take_of_lt (by omega)] at h2
  exact h2
theorem rnd_len (v : List Int) (k w : Int) (h : v.length = 8) : (rnd v k w).length = 8 := by
  match v, h with
  | [a, b, c, d, e, f, g, i], _ => rfl
theorem rnds_len : ∀ (ks ws v : List Int), v.length = 8 → (rnds v ks ws).length = 8
  | [], _, _, h => by simpa [rnds] using h
  | _ :: _, [], _, h => by simpa [rnds] using h
  | k :: ks, w :: ws, v, h => rnds_len ks ws _ (rnd_len v k w h)
theorem rnds_snoc : ∀ (ks ws v : List Int) (k w : Int), ks.length = ws.length → rnds v (ks ++ [k]) (ws ++ [w]) = rnd (rnds v ks ws) k w
  | [], [], _, _, _, _ => rfl
  | [], _ :: _, _, _, _, h => by simp at h
  | _ :: _, [], _, _, _, h => by simp at h
  | a :: ks, b :: ws, v, k, w, h => rnds_snoc ks ws (rnd v a b) k w (by simpa using h)
theorem rnds_step {v ks ws : List Int} {t : Nat} {k w : Int} (hk : ks[t]? = some k) (hw : ws[t]? = some w) : rnds v (ks.take (t + 1)) (ws.take (t + 1)) = rnd (rnds v (ks.take t) (ws.take t)) k w := by
  have h1 := (List.getElem?_eq_some_iff.1 hk).1
  have h2 := (List.getElem?_eq_some_iff.1 hw).1
  rw [List.take_succ_eq_append_getElem h1, List.take_succ_eq_append_getElem h2, (List.getElem?_eq_some_iff.1 hk).2, (List.getElem?_eq_some_iff.1 hw).2]
  exact rnds_snoc _ _ _ _ _ (by simp; omega)
theorem blk_len {h b : List Int} (hh : h.length = 8) : (blk h b).length = 8 := by simp [blk, hh, rnds_len _ _ _ hh]
theorem blks_len : ∀ (n : Nat) (h b : List Int), h.length = 8 → (blks n h b).length = 8
  | 0, _, _, h => h
  | n + 1, _, _, h => blks_len n _ _ (blk_len h)
theorem outs_len : ∀ (l : List Int), (outs l).length = 4 * l.length
  | [] => rfl
  | x :: l => by
    have := outs_len l
    simp only [outs, List.map_cons, List.flatten_cons, List.length_append, List.length_cons] at this ⊢
    rw [this]
    simp [out4]; omega
theorem H0_len : H0.length = 8 := rfl
theorem sha_len (m : List Int) : (sha m).length = 32 := by unfold sha; simp only; rw [outs_len, blks_len _ _ _ H0_len]
theorem be8_len (n : Int) : (be8 n).length = 8 := rfl
theorem pad_len (m : List Int) : (pad m).length = m.length + 1 + padN m.length + 8 := by simp [pad, be8_len]; omega
theorem pad_mod (m : List Int) : (pad m).length % 64 = 0 := by rw [pad_len]; unfold padN; omega
theorem hmac_len (k m : List Int) : (hmac k m).length = 32 := sha_len _
theorem key_len (k : List Int) : (key k).length = 64 := by
  unfold key
  simp only
  split
  · simp [sha_len]
  · simp; omega
theorem outs_get : ∀ (l : List Int) (i : Nat) (x : Int), l[i]? = some x → ∀ j, j < 4 → (outs l)[4 * i + j]? = (out4 x)[j]?
  | y :: l, 0, x, h, j, hj => by
    simp at h
    subst h
    simp only [outs, List.map_cons, List.flatten_cons]
    rw [List.getElem?_append_left (by simp [out4]; omega)]
    simp
  | y :: l, i + 1, x, h, j, hj => by
    simp only [outs, List.map_cons, List.flatten_cons]
    rw [List.getElem?_append_right (by simp [out4]; omega)]
    have := outs_get l i x (by simpa using h) j hj
    rw [← this]
    simp only [outs]
    congr 1
    simp [out4]; omega
/-- what some blocks come to -/
theorem blks_snoc : ∀ (n : Nat) (h b : List Int), blks (n + 1) h b = blk (blks n h b) ((b.drop (64 * n)).take 64)
  | 0, h, b => by simp [blks]
  | n + 1, h, b => by
    show blks (n + 1) (blk h (b.take 64)) (b.drop 64) = blk (blks n (blk h (b.take 64)) (b.drop 64)) _
    rw [blks_snoc n, List.drop_drop, show 64 + 64 * n = 64 * (n + 1) by omega]
theorem roll_set {z hs : List Int} {i : Nat} {r : Int} (hl : z.length = hs.length) (hi : z[i]? = some r) : (z.take i ++ hs.drop i).set i r = z.take (i + 1) ++ hs.drop (i + 1) := by
  have h0 := (List.getElem?_eq_some_iff.1 hi).1
  have h1 := (List.getElem?_eq_some_iff.1 hi).2
  rw [List.set_append_right _ _ (by simp; omega), List.take_succ_eq_append_getElem h0, h1, List.append_assoc]
  refine congrArg (z.take i ++ ·) ?_
  show (hs.drop i).set (i - (z.take i).length) r = [r] ++ hs.drop (i + 1)
  rw [List.length_take, Nat.min_eq_left (by omega), Nat.sub_self, List.drop_eq_getElem_cons (by omega), List.set_cons_zero]
  rfl
theorem roll_get {z hs : List Int} {i : Nat} (hl : z.length = hs.length) (hi : i < hs.length) : (z.take i ++ hs.drop i)[i]? = hs[i]? := by
  rw [List.getElem?_append_right (by simp; omega), List.getElem?_drop, List.length_take, Nat.min_eq_left (by omega), Nat.sub_self, Nat.add_zero]
end Go.Vc.Sha
