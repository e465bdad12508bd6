/-
  What the digest's functions compute, as lists of whole numbers: no program in sight.
-/
import Derived.Test.YtojllgpnhaaagaaDoorCxA
import Derived.Test.YtojllgpnhaaagaaDoorCxF
namespace Go.Cx.Rb
open Go Go.Cx

def kk : List Int := [1116352408, 1899447441, 3049323471, 3921009573, 961987163, 1508970993, 2453635748, 2870763221, 3624381080, 310598401, 607225278, 1426881987, 1925078388, 2162078206, 2614888103, 3248222580, 3835390401, 4022224774, 264347078, 604807628, 770255983, 1249150122, 1555081692, 1996064986, 2554220882, 2821834349, 2952996808, 3210313671, 3336571891, 3584528711, 113926993, 338241895, 666307205, 773529912, 1294757372, 1396182291, 1695183700, 1986661051, 2177026350, 2456956037, 2730485921, 2820302411, 3259730800, 3345764771, 3516065817, 3600352804, 4094571909, 275423344, 430227734, 506948616, 659060556, 883997877, 958139571, 1322822218, 1537002063, 1747873779, 1955562222, 2024104815, 2227730452, 2361852424, 2428436474, 2756734187, 3204031479, 3329325298]
def iv : List Int := [1779033703, 3144134277, 1013904242, 2773480762, 1359893119, 2600822924, 528734635, 1541459225]

/-- a word turned right -/
def rr (x n : Int) : Int := bor .u32 (bshr .u32 x n) (bshl .u32 x (wsub .u64 32 n))
/-- the word that stands at a place -/
def wordS (b : List Int) (i : Nat) : Int :=
  bor .u32 (bor .u32 (bor .u32 (bshl .u32 (wcv .u32 (nthI b i)) 24) (bshl .u32 (wcv .u32 (nthI b (i + 1))) 16)) (bshl .u32 (wcv .u32 (nthI b (i + 2))) 8)) (wcv .u32 (nthI b (i + 3)))
def s0 (x : Int) : Int := bxor .u32 (bxor .u32 (rr x 7) (rr x 18)) (bshr .u32 x 3)
def s1 (x : Int) : Int := bxor .u32 (bxor .u32 (rr x 17) (rr x 19)) (bshr .u32 x 10)
def mix (w : List Int) (k : Nat) : Int := wadd .u32 (wadd .u32 (wadd .u32 (nthI w (k - 16)) (s0 (nthI w (k - 15)))) (nthI w (k - 7))) (s1 (nthI w (k - 2)))
/-- the first words of a piece -/
def schedL (b : List Int) : Nat → List Int
  | 0 => []
  | k + 1 => schedL b k ++ [if k < 16 then wordS b (4 * k) else mix (schedL b k) k]
def t1 (v : List Int) (k w : Int) : Int :=
  wadd .u32 (wadd .u32 (wadd .u32 (wadd .u32 (nthI v 7) (bxor .u32 (bxor .u32 (rr (nthI v 4) 6) (rr (nthI v 4) 11)) (rr (nthI v 4) 25)))
    (bxor .u32 (band .u32 (nthI v 4) (nthI v 5)) (band .u32 (bcpl .u32 (nthI v 4)) (nthI v 6)))) k) w
def t2 (v : List Int) : Int :=
  wadd .u32 (bxor .u32 (bxor .u32 (rr (nthI v 0) 2) (rr (nthI v 0) 13)) (rr (nthI v 0) 22))
    (bxor .u32 (bxor .u32 (band .u32 (nthI v 0) (nthI v 1)) (band .u32 (nthI v 0) (nthI v 2))) (band .u32 (nthI v 1) (nthI v 2)))
def rnd (v : List Int) (k w : Int) : List Int :=
  [wadd .u32 (t1 v k w) (t2 v), nthI v 0, nthI v 1, nthI v 2, wadd .u32 (nthI v 3) (t1 v k w), nthI v 4, nthI v 5, nthI v 6]
def rndL (h w : List Int) : Nat → List Int
  | 0 => h
  | i + 1 => rnd (rndL h w i) (nthI kk i) (nthI w i)
def addL (h v : List Int) : List Int := (List.range 8).map fun i => wadd .u32 (nthI h i) (nthI v i)
/-- a piece of 64 bytes gone through -/
def piece (h b : List Int) : List Int := addL h (rndL h (schedL b 64) 64)
/-- k pieces -/
def blk (h b : List Int) : Nat → List Int
  | 0 => h
  | k + 1 => piece (blk h b k) (b.drop (64 * k))
def outB (h : List Int) (i : Nat) : Int := wcv .u8 (bshr .u32 (nthI h (i / 4)) (24 - 8 * (i % 4 : Nat)))
/-- the digest's bytes -/
def outL (h : List Int) : List Int := (List.range 32).map (outB h)
def lenB (n : Nat) (i : Nat) : Int := wcv .u8 (bshr .u64 (wmul .u64 n 8) (56 - 8 * (i : Int)))
/-- what stands behind n bytes -/
def padL (n : Nat) : List Int := 128 :: List.replicate ((119 - n % 64) % 64) 0 ++ (List.range 8).map (lenB n)
def digest (b : List Int) : List Int := outL (blk iv (b ++ padL b.length) ((b ++ padL b.length).length / 64))
end Go.Cx.Rb

/- Laws of the digest's lists. -/
namespace Go.Cx.Rb
open Go Go.Cx

theorem wordS_congr {x y : List Int} {i : Nat} (h : ∀ j, j < 64 → nthI x j = nthI y j) (hi : i + 3 < 64) : wordS x i = wordS y i := by
  simp only [wordS, h i (by omega), h (i + 1) (by omega), h (i + 2) (by omega), h (i + 3) (by omega)]
theorem schedL_congr {x y : List Int} (h : ∀ j, j < 64 → nthI x j = nthI y j) : ∀ k, schedL x k = schedL y k
  | 0 => rfl
  | k + 1 => by
    simp only [schedL, schedL_congr h k]
    by_cases hk : k < 16
    · rw [if_pos hk, if_pos hk, wordS_congr h (by omega)]
    · rw [if_neg hk, if_neg hk]
theorem piece_congr {h x y : List Int} (hx : ∀ j, j < 64 → nthI x j = nthI y j) : piece h x = piece h y := by
  simp only [piece, schedL_congr hx]

/-- the words behind more bytes, and what is left of them -/
def addW (h l b : List Int) : List Int := blk h (l ++ b) ((l.length + b.length) / 64)
def addR (l b : List Int) : List Int := (l ++ b).drop (64 * ((l.length + b.length) / 64))
def addM (n m : Nat) : Nat := (n + m) % 64
def addS (s : Int) (m : Nat) : Int := wadd .u64 s (wcv .u64 (m : Int))
/-- the words behind k pieces of these -/
def runW (h l b : List Int) (k : Nat) : List Int := blk h (l ++ b) k

theorem runW_next {h l b : List Int} {k n : Nat} (h1 : l.length ≤ 64 * k) (h2 : 64 ≤ n) : piece (runW h l b k) (subL b (64 * k - l.length) n) = runW h l b (k + 1) := by
  simp only [runW, blk]
  refine piece_congr fun j hj => ?_
  rw [nthI_subL (by omega), nthI_drop, nthI_cat, if_neg (by omega)]
  congr 1
  omega
theorem runW_first {h l b : List Int} {n t : Nat} (h1 : l.length + t = 64) : piece h (subL (catL (subL l 0 l.length) (subL b 0 t)) 0 n) = runW h l b 1 ∨ n < 64 := by
  by_cases hn : n < 64
  · exact .inr hn
  · refine .inl ?_
    simp only [runW, blk]
    refine piece_congr fun j hj => ?_
    rw [nthI_subL (by omega), nthI_drop, catL, subL_all (Nat.le_refl _), nthI_cat, nthI_cat]
    simp only [Nat.zero_add, Nat.mul_zero]
    split
    · rfl
    · rw [nthI_subL (by omega), Nat.zero_add]
theorem addR_few {l b : List Int} (h : l.length + b.length < 64) : addR l b = l ++ b := by
  rw [addR, Nat.div_eq_of_lt h]; rfl
theorem addW_few {h l b : List Int} (h1 : l.length + b.length < 64) : addW h l b = h := by
  rw [addW, Nat.div_eq_of_lt h1]; rfl
theorem addR_end {l b : List Int} {k : Nat} (h1 : l.length ≤ 64 * k) (h2 : 64 * k ≤ l.length + b.length) (h3 : l.length + b.length < 64 * k + 64) : addR l b = subL b (64 * k - l.length) (b.length - (64 * k - l.length)) := by
  have e : (l.length + b.length) / 64 = k := by omega
  rw [addR, e, subL, List.drop_append, List.drop_of_length_le (by omega), List.nil_append, List.take_of_length_le (by simp)]
theorem addW_end {h l b : List Int} {k : Nat} (h2 : 64 * k ≤ l.length + b.length) (h3 : l.length + b.length < 64 * k + 64) : runW h l b k = addW h l b := by
  have e : (l.length + b.length) / 64 = k := by omega
  rw [addW, e, runW]
end Go.Cx.Rb
namespace Go.Cx.Rb
open Go Go.Cx
/-- a byte of the length -/
def lenS (s : Int) (i : Nat) : Int := wcv .u8 (bshr .u64 (wmul .u64 s 8) (56 - 8 * (i : Int)))
def pN (n z : Nat) : Nat := n + (1 + z)
def pL (l : List Int) (z : Nat) : List Int := l ++ 128 :: List.replicate z 0
def qN (n i : Nat) : Nat := n + (1 + (119 - n) % 64) + i
def qL (l : List Int) (s : Int) (i : Nat) : List Int := pL l ((119 - l.length) % 64) ++ (List.range i).map (lenS s)
def endW (h l : List Int) (s : Int) (k : Nat) : List Int := blk h (qL l s 8) k
def digW (h l : List Int) (s : Int) : List Int := outL (blk h (qL l s 8) ((qL l s 8).length / 64))
def outF (h : List Int) (i : Nat) : List Int := (List.range i).map (outB h) ++ List.replicate (32 - i) 0
theorem outF_set {h : List Int} {i : Nat} (hi : i < 32) : setI (outF h i) i (outB h i) = outF h (i + 1) := fillL_set hi rfl
theorem pL_len (l : List Int) (z : Nat) : (pL l z).length = pN l.length z := by simp [pL, pN]; omega
theorem qL_len (l : List Int) (s : Int) (i : Nat) : (qL l s i).length = qN l.length i := by simp [qL, qN, pL_len, pN]
theorem pL_next (l : List Int) (z : Nat) : pL l z ++ [0] = pL l (z + 1) := by simp [pL, List.replicate_succ']
theorem qL_next (l : List Int) (s : Int) (i : Nat) : qL l s i ++ [lenS s i] = qL l s (i + 1) := by simp [qL, List.range_succ]
theorem endW_next {h l : List Int} {s : Int} {k n : Nat} (h2 : 64 ≤ n) : piece (endW h l s k) (subL (qL l s 8) (64 * k) n) = endW h l s (k + 1) := by
  simp only [endW, blk]
  refine piece_congr fun j hj => ?_
  rw [nthI_subL (by omega), nthI_drop]
end Go.Cx.Rb

/- The digest by pieces is the digest of the whole. -/
namespace Go.Cx.Rb
open Go Go.Cx

theorem blk_congr {h x y : List Int} : ∀ {k : Nat}, (∀ j, j < 64 * k → nthI x j = nthI y j) → blk h x k = blk h y k
  | 0, _ => rfl
  | k + 1, hx => by
    simp only [blk]
    rw [blk_congr (fun j hj => hx j (by omega))]
    exact piece_congr fun j hj => by rw [nthI_drop, nthI_drop]; exact hx _ (by omega)
theorem blk_more {h x : List Int} {K : Nat} : ∀ {k : Nat}, blk h x (K + k) = blk (blk h x K) (x.drop (64 * K)) k
  | 0 => rfl
  | k + 1 => by
    rw [← Nat.add_assoc]
    simp only [blk]
    rw [blk_more, List.drop_drop, show 64 * K + 64 * k = 64 * (K + k) by omega]

theorem wcv_u64_nat {n : Nat} (h : n ≤ 9223372036854775807) : wcv .u64 (n : Int) = (n : Int) := wcv_u64 (by omega)
theorem addS_zero {n : Nat} (h : n ≤ 9223372036854775807) : addS 0 n = (n : Int) := by
  rw [addS, wcv_u64_nat h, wadd_u64 (by omega), Int.zero_add]

theorem padL_len (n : Nat) : (padL n).length = 1 + (119 - n % 64) % 64 + 8 := by simp [padL]; omega

theorem digW_digest {b : List Int} (hb : b.length ≤ 9223372036854775807) : digW (addW iv [] b) (addR [] b) (addS 0 b.length) = digest b := by
  have hR : addR [] b = b.drop (64 * (b.length / 64)) := by simp [addR]
  have hRl : (addR [] b).length = b.length % 64 := by rw [hR, List.length_drop]; omega
  have hq : qL (addR [] b) (addS 0 b.length) 8 = (b ++ padL b.length).drop (64 * (b.length / 64)) := by
    rw [List.drop_append, show 64 * (b.length / 64) - b.length = 0 by omega, List.drop_zero, qL, pL, hRl, hR, padL, addS_zero hb]
    simp only [List.append_assoc, List.cons_append]
    rfl
  have hd : (b ++ padL b.length).length / 64 = b.length / 64 + ((b ++ padL b.length).drop (64 * (b.length / 64))).length / 64 := by
    rw [List.length_drop, List.length_append, padL_len]; omega
  rw [digW, digest, hd, blk_more, hq]
  congr 2
  rw [addW]
  simp only [List.nil_append, List.length_nil, Nat.zero_add]
  exact blk_congr fun j hj => by rw [nthI_cat, if_pos (by omega)]
end Go.Cx.Rb
namespace Go.Cx.Rb
open Go Go.Cx
def padZ (n : Nat) : Nat := (119 - n % 64) % 64
def padN (n : Nat) : Nat := n + (1 + padZ n) + 8
def padW (b : List Int) : List Int := b ++ padL b.length
def nsh (x : Int) : Nat → Int
  | 0 => x
  | i + 1 => bshl .u64 (nsh x i) 8
def lenR (x : Int) (i : Nat) : Int := wcv .u8 (bshr .u64 (nsh x i) 56)
def rN (n i : Nat) : Nat := n + (1 + padZ n) + i
def rL (b : List Int) (x : Int) (i : Nat) : List Int := pL b (padZ b.length) ++ (List.range i).map (lenR x)
def len8 (n : Nat) : Int := wmul .u64 (n : Int) 8
theorem rL_len (l : List Int) (s : Int) (i : Nat) : (rL l s i).length = rN l.length i := by simp [rL, rN, pL_len, pN]
theorem rL_next (l : List Int) (s : Int) (i : Nat) : rL l s i ++ [lenR s i] = rL l s (i + 1) := by simp [rL, List.range_succ]

theorem u64_emod (n : Int) : IntKind.u64.wrap n = n % 18446744073709551616 := by simp [IntKind.wrap, IntKind.bits, IntKind.signed]
theorem u8_emod (n : Int) : IntKind.u8.wrap n = n % 256 := by simp [IntKind.wrap, IntKind.bits, IntKind.signed]
theorem nsh_le {x : Int} (h0 : 0 ≤ x ∧ x ≤ 18446744073709551615) : ∀ i, 0 ≤ nsh x i ∧ nsh x i ≤ 18446744073709551615
  | 0 => h0
  | i + 1 => by
    simp only [nsh, bshl, u64_emod]
    omega
theorem lenR_eq {x : Int} (_h0 : 0 ≤ x ∧ x ≤ 18446744073709551615) {i : Nat} (hi : i < 8) : lenR x i = wcv .u8 (bshr .u64 x (56 - 8 * (i : Int))) := by
  have e : ∀ (y : Int) (k : Nat), k ≤ 64 → bshr .u64 y (k : Int) = y / 2 ^ k := fun y k hk => by
    simp only [bshr, Int.toNat_natCast, IntKind.bits]
    rw [Nat.min_eq_left hk, Int.fdiv_eq_ediv_of_nonneg _ (Int.pow_nonneg (by omega))]
  have e8 : ∀ y : Int, bshl .u64 y 8 = (y * 256) % 18446744073709551616 := fun y => by simp [bshl, u64_emod, IntKind.bits]
  have e56 : ∀ y : Int, bshr .u64 y 56 = y / 72057594037927936 := fun y => (e y 56 (by omega)).trans rfl
  have hj : (56 - 8 * (i : Int)) = ((56 - 8 * i : Nat) : Int) := by omega
  rw [hj, e _ _ (by omega), lenR, e56]
  simp only [wcv, u8_emod]
  obtain rfl | rfl | rfl | rfl | rfl | rfl | rfl | rfl : i = 0 ∨ i = 1 ∨ i = 2 ∨ i = 3 ∨ i = 4 ∨ i = 5 ∨ i = 6 ∨ i = 7 := by omega
  all_goals simp only [nsh, e8, Nat.mul_zero, Nat.sub_zero, Nat.reduceMul, Nat.reduceSub, Int.reducePow, Nat.sub_self]
  all_goals omega
end Go.Cx.Rb
namespace Go.Cx.Rb
open Go Go.Cx
theorem rL_end (b : List Int) : rL b (len8 b.length) 8 = padW b := by
  have h0 : 0 ≤ len8 b.length ∧ len8 b.length ≤ 18446744073709551615 := by
    simp only [len8, wmul, u64_emod]; omega
  rw [rL, padW, padL, pL, List.append_assoc, ← List.append_assoc]
  simp only [List.append_assoc, List.cons_append]
  congr 3
  refine List.map_congr_left fun i hi => ?_
  have hi : i < 8 := by simpa using hi
  rw [lenR_eq h0 hi]; rfl
theorem padW_len (b : List Int) : (padW b).length = padN b.length := by rw [← rL_end, rL_len]; rfl
end Go.Cx.Rb

/- The reference's words. -/
namespace Go.Cx.Rb
open Go Go.Cx

def dropB (D : List Int) (k : Nat) : List Int := D.drop (64 * k)
def blkI (D : List Int) (k : Nat) : List Int := blk iv D k
/-- a word, by j of its bytes -/
def pw (D : List Int) (p : Nat) : Nat → Int
  | 0 => 0
  | j + 1 => bor .u32 (bshl .u32 (pw D p j) 8) (wcv .u32 (nthI D (p + j)))
def fillW (W B : List Int) (i : Nat) : List Int := schedL B i ++ W.drop i
def fillP (W B : List Int) (i j : Nat) : List Int := setI (fillW W B i) i (pw B (4 * i) j)

theorem fillW_len {W B : List Int} {i : Nat} (hW : W.length = 64) (hi : i ≤ 64) : (fillW W B i).length = 64 := by
  simp [fillW, schedL_len, hW]; omega
where
  schedL_len (b : List Int) : ∀ i, (schedL b i).length = i
    | 0 => rfl
    | i + 1 => by simp [schedL, schedL_len b i]
theorem setI_setI {l : List Int} {i : Nat} {x y : Int} : setI (setI l i x) i y = setI l i y := by simp [setI]
theorem nthI_setI {l : List Int} {i : Nat} {x : Int} (h : i < l.length) : nthI (setI l i x) i = x := by
  simp [nthI, setI, List.getD_eq_getElem?_getD, h]
theorem fillW_set {W B : List Int} {i : Nat} {x : Int} (hW : W.length = 64) (hi : i < 64) (hx : x = if i < 16 then wordS B (4 * i) else mix (schedL B i) i) : setI (fillW W B i) i x = fillW W B (i + 1) := by
  subst hx
  have e : W.drop i = W[i] :: W.drop (i + 1) := List.drop_eq_getElem_cons (by omega)
  simp only [fillW, setI]
  rw [List.set_append_right _ _ (by rw [fillW_len.schedL_len]; exact Nat.le_refl _), fillW_len.schedL_len, Nat.sub_self]
  simp only [schedL, List.append_assoc]
  congr 1
  rw [e]
  rfl
theorem fillW_get {W B : List Int} {i j : Nat} (h : j < i) : nthI (fillW W B i) j = nthI (schedL B i) j := nthI_app_lt (by rw [fillW_len.schedL_len]; exact h)
theorem fillW_end {W B : List Int} (hW : W.length = 64) : fillW W B 64 = schedL B 64 := by
  rw [fillW, List.drop_of_length_le (by omega), List.append_nil]

theorem u32_emod (n : Int) : IntKind.u32.wrap n = n % 4294967296 := by simp [IntKind.wrap, IntKind.bits, IntKind.signed]
/-- bits that do not meet: a sum -/
theorem bor_add {X x y z : Nat} (k : Nat) (hX : X = x * 2 ^ k) (hy : y < 2 ^ k) (hz : z = X + y) (hx : z < 2 ^ 32) : bor .u32 (X : Int) (y : Int) = (z : Int) := by
  have e : X ||| y = z := by
    rw [hz, hX, ← Nat.shiftLeft_eq, ← Nat.shiftLeft_add_eq_or_of_lt hy]
  show IntKind.u32.wrap (((BitVec.ofInt 32 (X : Int) ||| BitVec.ofInt 32 (y : Int)).toNat : Nat) : Int) = _
  rw [BitVec.ofInt_natCast, BitVec.ofInt_natCast, BitVec.toNat_or, BitVec.toNat_ofNat, BitVec.toNat_ofNat, Nat.mod_eq_of_lt (by omega), Nat.mod_eq_of_lt (by omega), e, u32_emod]
  omega
theorem bshl_lit {x z : Nat} (k : Nat) (hk : k ≤ 32) (hz : z = x * 2 ^ k) (hx : z < 4294967296) : bshl .u32 (x : Int) (k : Int) = (z : Int) := by
  simp only [bshl, IntKind.bits, Int.toNat_natCast, Nat.min_eq_left hk, u32_emod]
  have : ((x : Int) * 2 ^ k) = (z : Int) := by rw [hz]; push_cast; rfl
  rw [this]
  omega
theorem byte_at {B : List Int} (hB : ∀ y ∈ B, inR .u8 y) (i : Nat) : ∃ n : Nat, n < 256 ∧ nthI B i = (n : Int) := by
  have h : 0 ≤ nthI B i ∧ nthI B i ≤ 255 := by
    by_cases hi : i < B.length
    · have : nthI B i ∈ B := by
        simp only [nthI, List.getD_eq_getElem?_getD, List.getElem?_eq_getElem hi]
        exact List.getElem_mem hi
      exact inR_u8.1 (hB _ this)
    · simp [nthI, List.getD_eq_getElem?_getD, List.getElem?_eq_none (by omega : B.length ≤ i)]
  exact ⟨(nthI B i).toNat, by omega, by omega⟩
theorem wcv_u32_nat {n : Nat} (h : n < 4294967296) : wcv .u32 (n : Int) = (n : Int) := wcv_u32 (by omega)

theorem pw_word {B : List Int} (hB : ∀ y ∈ B, inR .u8 y) (p : Nat) : pw B p 4 = wordS B p := by
  obtain ⟨a, ha, ea⟩ := byte_at hB p
  obtain ⟨b, hb, eb⟩ := byte_at hB (p + 1)
  obtain ⟨c, hc, ec⟩ := byte_at hB (p + 2)
  obtain ⟨d, hd, ed⟩ := byte_at hB (p + 3)
  simp only [pw, wordS, Nat.add_zero, ea, eb, ec, ed, wcv_u32_nat (show a < 4294967296 by omega), wcv_u32_nat (show b < 4294967296 by omega), wcv_u32_nat (show c < 4294967296 by omega), wcv_u32_nat (show d < 4294967296 by omega)]
  obtain ⟨n2, h2⟩ : ∃ n, n = a * 256 + b := ⟨_, rfl⟩
  obtain ⟨n3, h3⟩ : ∃ n, n = n2 * 256 + c := ⟨_, rfl⟩
  obtain ⟨n4, h4⟩ : ∃ n, n = n3 * 256 + d := ⟨_, rfl⟩
  obtain ⟨m1, k1⟩ : ∃ n, n = a * 256 := ⟨_, rfl⟩
  obtain ⟨m2, k2⟩ : ∃ n, n = n2 * 256 := ⟨_, rfl⟩
  obtain ⟨m3, k3⟩ : ∃ n, n = n3 * 256 := ⟨_, rfl⟩
  obtain ⟨p1, j1⟩ : ∃ n, n = a * 16777216 := ⟨_, rfl⟩
  obtain ⟨p2, j2⟩ : ∃ n, n = b * 65536 := ⟨_, rfl⟩
  obtain ⟨p3, j3⟩ : ∃ n, n = c * 256 := ⟨_, rfl⟩
  obtain ⟨q2, i2⟩ : ∃ n, n = p1 + p2 := ⟨_, rfl⟩
  obtain ⟨q3, i3⟩ : ∃ n, n = q2 + p3 := ⟨_, rfl⟩
  have l0 : bshl .u32 0 8 = ((0 : Nat) : Int) := bshl_lit (x := 0) 8 (by omega) (by omega) (by omega)
  have l1 : bor .u32 ((0 : Nat) : Int) (a : Int) = (a : Int) := bor_add (x := 0) 8 (by omega) (by omega) (by omega) (by omega)
  have l2 : bshl .u32 (a : Int) 8 = (m1 : Int) := bshl_lit 8 (by omega) (by omega) (by omega)
  have l3 : bor .u32 (m1 : Int) (b : Int) = (n2 : Int) := bor_add (x := a) 8 (by omega) (by omega) (by omega) (by omega)
  have l4 : bshl .u32 (n2 : Int) 8 = (m2 : Int) := bshl_lit 8 (by omega) (by omega) (by omega)
  have l5 : bor .u32 (m2 : Int) (c : Int) = (n3 : Int) := bor_add (x := n2) 8 (by omega) (by omega) (by omega) (by omega)
  have l6 : bshl .u32 (n3 : Int) 8 = (m3 : Int) := bshl_lit 8 (by omega) (by omega) (by omega)
  have l7 : bor .u32 (m3 : Int) (d : Int) = (n4 : Int) := bor_add (x := n3) 8 (by omega) (by omega) (by omega) (by omega)
  have r1 : bshl .u32 (a : Int) 24 = (p1 : Int) := bshl_lit 24 (by omega) (by omega) (by omega)
  have r2 : bshl .u32 (b : Int) 16 = (p2 : Int) := bshl_lit 16 (by omega) (by omega) (by omega)
  have r3 : bshl .u32 (c : Int) 8 = (p3 : Int) := bshl_lit 8 (by omega) (by omega) (by omega)
  have r4 : bor .u32 (p1 : Int) (p2 : Int) = (q2 : Int) := bor_add (x := a) 24 (by omega) (by omega) (by omega) (by omega)
  have r5 : bor .u32 (q2 : Int) (p3 : Int) = (q3 : Int) := bor_add (x := a * 256 + b) 16 (by omega) (by omega) (by omega) (by omega)
  have r6 : bor .u32 (q3 : Int) (d : Int) = (n4 : Int) := bor_add (x := n3) 8 (by omega) (by omega) (by omega) (by omega)
  rw [r1, r2, r3, r4, r5, r6]
  rw [l0, l1, l2, l3, l4, l5, l6, l7]
end Go.Cx.Rb
