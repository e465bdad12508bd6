/-
  Slots in plain Lean: what is wrapped is unwrapped; what is laid into bytes is read from them.
-/
import Derived.Test.YtojllgpnhaaagaaDoorCxbM
namespace Go.Cx.Rb
open Go Go.Cx

theorem okR_go {l : List Int} {k : Int} (h0 : 0 ≤ k) (h : k ≤ l.length) : okR l false k = true := okR_t.2 ⟨rfl, h0, h⟩
theorem okR_sp {l : List Int} {k : Int} : okR l true k = false := okR_f (.inl rfl)
theorem tk_go {l : List Int} {k : Int} (h0 : 0 ≤ k) (h : k ≤ l.length) : tk (l, false) k = l.take k.toNat := by
  simp only [tk, tkL, okR_go h0 h, if_true]
theorem rd_go {l : List Int} {k : Int} (h0 : 0 ≤ k) (h : k ≤ l.length) : rd (l, false) k = (l.drop k.toNat, false) := by
  simp only [rd, rsL, flS, okR_go h0 h, if_true, Bool.not_true]
theorem rz_go {l : List Int} {k : Int} (h0 : 0 ≤ k) (h : k ≤ l.length) : rz (l, false) k = (l.drop k.toNat, !allZ (l.take k.toNat)) := by
  simp only [rz, rsL, zrS, tkL, okR_go h0 h, if_true, Bool.true_and]
theorem tk_sp {l : List Int} {k : Int} : tk (l, true) k = [] := by simp only [tk, tkL, okR_sp, if_false, Bool.false_eq_true]
theorem rd_sp {l : List Int} {k : Int} : rd (l, true) k = (l, true) := by simp only [rd, rsL, flS, okR_sp, if_false, Bool.not_false, Bool.false_eq_true]
theorem cpyL_all {z t : List Int} {n : Nat} (hz : z.length = n) (ht : t.length = n) : cpyL z t n = t := by
  simp [cpyL, layL, takeL, minN, llen, ht, List.take_of_length_le, List.drop_of_length_le, hz]

/-- the fields of 80 bytes -/
def slotB (b : List Int) (u : Bool) : SlotP := ⟨u, nthI b 1, numL ((b.drop 4).take 4), (b.drop 8).take 16, (b.drop 24).take 32, (b.drop 56).take 24⟩
theorem num_one {b : List Int} {i : Nat} (h : i < b.length) : numL ((b.drop i).take 1) = nthI b i := by
  have e : (b.drop i).take 1 = [nthI b i] := by
    rw [List.drop_eq_getElem_cons h, List.take_succ_cons, List.take_zero]
    simp [nthI, List.getD_eq_getElem?_getD, h]
  rw [e]; simp [numL]
theorem wcv_num {l : List Int} (h : ∀ y ∈ l, inR .u8 y) (hl : l.length ≤ 7) : wcv .i64 (numL l) = numL l := by
  obtain ⟨h1, h2⟩ := numL_rng l h
  have h3 := Nat.pow_le_pow_right (n := 256) (by omega) hl
  have h4 : (256 : Int) ^ l.length ≤ 72057594037927936 := by
    have h5 : ((256 ^ l.length : Nat) : Int) ≤ ((256 ^ 7 : Nat) : Int) := Int.ofNat_le.2 h3
    rw [Int.natCast_pow] at h5
    exact h5
  exact wcv_i64 (by omega)
theorem rng_sub {b : List Int} (h : ∀ y ∈ b, inR .u8 y) {i n : Nat} : ∀ y ∈ (b.drop i).take n, inR .u8 y := fun y hy => h y (List.mem_of_mem_drop (List.mem_of_mem_take hy))

theorem dec_good {b : List Int} (hb : ∀ y ∈ b, inR .u8 y) (hl : b.length = 80) (hz : allZ ((b.drop 2).take 2) = true) : decQ b = slotB b true ∧ d7 b = ([], false) := by
  have e1 : rd (b, false) 1 = (b.drop 1, false) := rd_go (by omega) (by omega)
  have e2 : d2 b = (b.drop 2, false) := by
    rw [d2, e1, rd_go (by omega) (by simp [hl])]; simp
  have e3 : rz (d2 b) 2 = (b.drop 4, false) := by
    rw [e2, rz_go (by omega) (by simp [hl])]
    simp [hz]
  have e4 : d4 b = (b.drop 8, false) := by
    rw [d4, e3, rd_go (by omega) (by simp [hl])]; simp
  have e5 : rd (d4 b) 16 = (b.drop 24, false) := by
    rw [e4, rd_go (by omega) (by simp [hl])]; simp
  have e6 : rd (rd (d4 b) 16) 32 = (b.drop 56, false) := by
    rw [e5, rd_go (by omega) (by simp [hl])]; simp
  have e7 : d7 b = ([], false) := by
    rw [d7, e6, rd_go (by omega) (by simp [hl])]
    simp [List.drop_of_length_le, hl]
  refine ⟨?_, e7⟩
  have t1 : tk (rd (b, false) 1) 1 = (b.drop 1).take 1 := by rw [e1, tk_go (by omega) (by simp [hl])]; rfl
  have t2 : tk (rz (d2 b) 2) 4 = (b.drop 4).take 4 := by rw [e3, tk_go (by omega) (by simp [hl])]; rfl
  have t3 : tk (d4 b) 16 = (b.drop 8).take 16 := by rw [e4, tk_go (by omega) (by simp [hl])]; rfl
  have t4 : tk (rd (d4 b) 16) 32 = (b.drop 24).take 32 := by rw [e5, tk_go (by omega) (by simp [hl])]; rfl
  have t5 : tk (rd (rd (d4 b) 16) 32) 24 = (b.drop 56).take 24 := by rw [e6, tk_go (by omega) (by simp [hl])]; rfl
  have w1 : wcv .i64 (numL ((b.drop 1).take 1)) = nthI b 1 := by rw [wcv_num (rng_sub hb) (by simp; omega), num_one (by omega)]
  have w2 : wcv .i64 (numL ((b.drop 4).take 4)) = numL ((b.drop 4).take 4) := wcv_num (rng_sub hb) (by simp; omega)
  unfold decQ slotB
  rw [t1, t2, t3, t4, t5, w1, w2, cpyL_all (by decide) (by simp [hl]), cpyL_all (by decide) (by simp [hl]), cpyL_all (by decide) (by simp [hl])]
theorem dec_bad {b : List Int} (hl : b.length = 80) (hz : allZ ((b.drop 2).take 2) = false) : (d7 b).2 = true := by
  have e1 : rd (b, false) 1 = (b.drop 1, false) := rd_go (by omega) (by omega)
  have e2 : d2 b = (b.drop 2, false) := by
    rw [d2, e1, rd_go (by omega) (by simp [hl])]; simp
  have e3 : rz (d2 b) 2 = (b.drop 4, true) := by
    rw [e2, rz_go (by omega) (by simp [hl])]
    simp [hz]
  rw [d7, d4, e3, rd_sp, rd_sp, rd_sp, rd_sp]
def okB (b : List Int) : Bool := decide (b.length = 80) && decide (nthI b 0 = 1) && allZ ((b.drop 2).take 2) && rightS (slotB b true)
/-- what bytes are read as -/
theorem dec_spec {b : List Int} (hb : ∀ y ∈ b, inR .u8 y) :
    decE b = (if (decide (b.length = 80) && allZ b) || okB b then 0 else 12) ∧ decP b = (if okB b then slotB b true else slot0) := by
  by_cases hl : b.length = 80
  · have hu : numL (tkL b false 1) = nthI b 0 := by
      have := tk_go (l := b) (k := 1) (by omega) (by omega)
      rw [show tkL b false 1 = tk (b, false) 1 from rfl, this]
      exact num_one (b := b) (i := 0) (by omega)
    have hn : decNo b = !okB b := by
      rw [decNo, okB, decide_eq_true hl, decide_eq_false (fun h => h hl), decBad, hu]
      cases hz : allZ ((b.drop 2).take 2) with
      | true =>
        obtain ⟨h1, h2⟩ := dec_good hb hl hz
        rw [h1, h2]
        by_cases h0 : nthI b 0 = 1 <;> simp [h0, endE]
      | false =>
        have h1 := dec_bad hl hz
        simp [endE, h1]
    have hz0 : allZ b = true → okB b = false := fun h => by
      have : nthI b 0 = 0 := by
        simp only [allZ, decide_eq_true_eq] at h
        have h0 : 0 < b.length := by omega
        have := h b[0] (List.getElem_mem h0)
        simpa [nthI, List.getD_eq_getElem?_getD, h0] using this
      simp [okB, this]
    have hq : okB b = true → decQ b = slotB b true := fun h => by
      simp only [okB, Bool.and_eq_true] at h
      exact (dec_good hb hl h.1.2).1
    cases ho : okB b with
    | true =>
      have hz1 : allZ b = false := by
        cases e : allZ b with
        | false => rfl
        | true => rw [hz0 e] at ho; cases ho
      simp [decE, decP, hn, ho, hz1, hq ho, hl]
    | false =>
      cases hz1 : allZ b <;> simp [decE, decP, hn, ho, hz1, hl]
  · have h1 : okB b = false := by simp [okB, hl]
    simp [decE, decP, decNo, hl, h1]
end Go.Cx.Rb

/- Slots in plain Lean: there and back. -/
namespace Go.Cx.Rb
open Go Go.Cx

theorem four {l : List Int} (h : l.length = 4) : ∃ a b c d, l = [a, b, c, d] := by
  match l, h with
  | [a, b, c, d], _ => exact ⟨a, b, c, d, rfl⟩
theorem eight {l : List Int} (h : l.length = 8) : ∃ a b c d e f g i, l = [a, b, c, d, e, f, g, i] := by
  match l, h with
  | [a, b, c, d, e, f, g, i], _ => exact ⟨a, b, c, d, e, f, g, i, rfl⟩
theorem beL4 (v : Int) : beL 4 v = [v / 16777216 % 256, v / 65536 % 256, v / 256 % 256, v / 1 % 256] := rfl
theorem beL8 (v : Int) : beL 8 v = [v / 72057594037927936 % 256, v / 281474976710656 % 256, v / 1099511627776 % 256, v / 4294967296 % 256, v / 16777216 % 256, v / 65536 % 256, v / 256 % 256, v / 1 % 256] := rfl
theorem be_num4 {l : List Int} (h : l.length = 4) (hb : ∀ y ∈ l, inR .u8 y) : beL 4 (numL l) = l := by
  obtain ⟨a, b, c, d, rfl⟩ := four h
  have ha : 0 ≤ a ∧ a ≤ 255 := hb a (by simp)
  have hb' : 0 ≤ b ∧ b ≤ 255 := hb b (by simp)
  have hc : 0 ≤ c ∧ c ≤ 255 := hb c (by simp)
  have hd : 0 ≤ d ∧ d ≤ 255 := hb d (by simp)
  rw [beL4]
  simp only [numL, List.foldl_cons, List.foldl_nil, List.cons.injEq, and_true]
  refine ⟨?_, ?_, ?_, ?_⟩ <;> omega
theorem num_be4 {v : Int} (h : 0 ≤ v ∧ v < 4294967296) : numL (beL 4 v) = v := by
  rw [beL4]
  simp only [numL, List.foldl_cons, List.foldl_nil]
  omega
theorem be_num8 {l : List Int} (h : l.length = 8) (hb : ∀ y ∈ l, inR .u8 y) : beL 8 (numL l) = l := by
  obtain ⟨a, b, c, d, e, f, g, i, rfl⟩ := eight h
  have ha : 0 ≤ a ∧ a ≤ 255 := hb a (by simp)
  have hb' : 0 ≤ b ∧ b ≤ 255 := hb b (by simp)
  have hc : 0 ≤ c ∧ c ≤ 255 := hb c (by simp)
  have hd : 0 ≤ d ∧ d ≤ 255 := hb d (by simp)
  have he : 0 ≤ e ∧ e ≤ 255 := hb e (by simp)
  have hf : 0 ≤ f ∧ f ≤ 255 := hb f (by simp)
  have hg : 0 ≤ g ∧ g ≤ 255 := hb g (by simp)
  have hi : 0 ≤ i ∧ i ≤ 255 := hb i (by simp)
  rw [beL8]
  simp only [numL, List.foldl_cons, List.foldl_nil, List.cons.injEq, and_true]
  refine ⟨?_, ?_, ?_, ?_, ?_, ?_, ?_, ?_⟩ <;> omega
theorem num_be8 {v : Int} (h : 0 ≤ v ∧ v < 18446744073709551616) : numL (beL 8 v) = v := by
  rw [beL8]
  simp only [numL, List.foldl_cons, List.foldl_nil]
  omega

theorem cut_at {l : List Int} (i n : Nat) : l.drop i = (l.drop i).take n ++ l.drop (i + n) := by
  rw [← List.drop_drop, List.take_append_drop]
theorem allZ2 {l : List Int} (h : allZ l = true) (hl : l.length = 2) : l = [0, 0] := by
  match l, hl with
  | [a, b], _ =>
    simp only [allZ, decide_eq_true_eq] at h
    rw [h a (by simp), h b (by simp)]
/-- the bytes of what is read are what was read -/
theorem enc_dec {b : List Int} (hb : ∀ y ∈ b, inR .u8 y) (h : okB b = true) : encB (slotB b true) = b := by
  simp only [okB, Bool.and_eq_true, decide_eq_true_eq] at h
  obtain ⟨⟨⟨hl, h0⟩, hz⟩, hr⟩ := h
  have e0 : b = b.drop 0 := rfl
  have c0 : b.drop 0 = [nthI b 0] ++ b.drop 1 := by
    rw [List.drop_eq_getElem_cons (show 0 < b.length by omega)]
    simp [nthI, List.getD_eq_getElem?_getD, show 0 < b.length by omega]
  have c1 : b.drop 1 = [nthI b 1] ++ b.drop 2 := by
    rw [List.drop_eq_getElem_cons (show 1 < b.length by omega)]
    simp [nthI, List.getD_eq_getElem?_getD, show 1 < b.length by omega]
  have c2 : b.drop 2 = [0, 0] ++ b.drop 4 := by
    rw [cut_at 2 2, allZ2 hz (by simp [hl])]
  have c4 := cut_at (l := b) 4 4
  have c8 := cut_at (l := b) 8 16
  have c24 := cut_at (l := b) 24 32
  have c56 : b.drop 56 = (b.drop 56).take 24 := by rw [List.take_of_length_le]; simp [hl]
  have hk : wcv .u8 (nthI b 1) = nthI b 1 := wcv_u8 (byte_rng hb 1)
  have e4 : beL 4 (numL ((b.drop 4).take 4)) = (b.drop 4).take 4 := be_num4 (by simp [hl]) (rng_sub hb)
  have e5 : encB (slotB b true) = headS (slotB b true) ++ (slotB b true).c := by
    simp only [encB, hr, if_true]
    rfl
  rw [e5]
  simp only [headS, slotB, hk, e4]
  conv => rhs; rw [e0, c0, c1, c2, c4, c8, c24, c56]
  rw [h0]
  simp [List.append_assoc]
/-- a right slot's bytes are read as it -/
theorem dec_enc {q : SlotP} (hr : rightS q = true) (hu : q.u = true) (h1 : q.s.length = 16) (h2 : q.w.length = 32) (h3 : q.c.length = 24) : okB (encB q) = true ∧ slotB (encB q) true = q := by
  obtain ⟨k1, k2, r1, r2⟩ := (right_t hu).1 hr
  obtain ⟨u, k, r, s, w, c⟩ := q
  simp only at hu k1 k2 r1 r2 h1 h2 h3
  subst hu
  have hk : wcv .u8 k = k := wcv_u8 (by omega)
  have e : encB ⟨true, k, r, s, w, c⟩ = [1, k, 0, 0] ++ (beL 4 r ++ (s ++ (w ++ c))) := by
    simp only [encB, hr, if_true, headS, hk]
    simp [List.append_assoc]
  have hl4 := beL_len 4 r
  have f1 : ((([1, k, 0, 0] ++ (beL 4 r ++ (s ++ (w ++ c)))).drop 4).take 4) = beL 4 r := by simp [hl4]
  have f2 : ((([1, k, 0, 0] ++ (beL 4 r ++ (s ++ (w ++ c)))).drop 8).take 16) = s := by
    rw [show 8 = 4 + 4 from rfl, ← List.drop_drop]
    simp [hl4, h1, List.drop_append]
  have f3 : ((([1, k, 0, 0] ++ (beL 4 r ++ (s ++ (w ++ c)))).drop 24).take 32) = w := by
    simp [hl4, h1, h2, List.drop_append, List.drop_of_length_le]
  have f4 : ((([1, k, 0, 0] ++ (beL 4 r ++ (s ++ (w ++ c)))).drop 56).take 24) = c := by
    simp [hl4, h1, h2, h3, List.take_of_length_le, List.drop_append, List.drop_of_length_le]
  have eS : slotB (encB ⟨true, k, r, s, w, c⟩) true = ⟨true, k, r, s, w, c⟩ := by
    rw [e]
    unfold slotB
    rw [f1, f2, f3, f4, num_be4 (by omega)]
    rfl
  refine ⟨?_, eS⟩
  rw [okB, eS, hr, e]
  simp [hl4, h1, h2, h3, nthI, allZ]

/-! ### Wrapped and unwrapped -/
theorem bxor_back {x y : Int} (hx : 0 ≤ x ∧ x ≤ 255) : bxor .u8 (bxor .u8 x y) y = x := by
  obtain ⟨a, rfl⟩ := Int.eq_ofNat_of_zero_le hx.1
  have ha : a < 256 := by omega
  show IntKind.u8.wrap (((BitVec.ofInt 8 (IntKind.u8.wrap (((BitVec.ofInt 8 (a : Int) ^^^ BitVec.ofInt 8 y).toNat : Nat) : Int)) ^^^ BitVec.ofInt 8 y).toNat : Nat) : Int) = _
  have e1 : ∀ v : BitVec 8, IntKind.u8.wrap (v.toNat : Int) = (v.toNat : Int) := fun v => by
    have := v.isLt
    rw [u8_emod]; omega
  rw [e1, e1, BitVec.ofInt_natCast, BitVec.ofInt_natCast, BitVec.ofNat_toNat, BitVec.setWidth_eq, BitVec.xor_assoc, BitVec.xor_self, BitVec.xor_zero, BitVec.toNat_ofNat]
  omega
theorem xorP_len32 {a b : List Int} (h : a.length = 32) : (xorP a b 32).length = 32 := by rw [xorP_len (by omega), h]
theorem crS_len {K m : List Int} (h : m.length = 32) : (crS K m).length = 32 := xorP_len32 h
theorem cr_back {K m : List Int} (hm : m.length = 32) (hr : ∀ y ∈ m, inR .u8 y) : crS K (crS K m) = m := by
  refine same_list (n := 32) (crS_len (crS_len hm)) hm fun j hj => ?_
  show nthI (xorP (xorP m _ 32) _ 32) j = _
  rw [xorP_at hj, xorP_at hj]
  exact bxor_back (byte_rng hr j)
theorem wrapP_len {x : WrapA} (h1 : x.s.length = 16) (h2 : x.m.length = 32) : (wrapP x).s.length = 16 ∧ (wrapP x).w.length = 32 ∧ (wrapP x).c.length = 24 := by
  unfold wrapP
  split
  · exact ⟨by decide, by decide, by decide⟩
  · exact ⟨h1, crS_len h2, chk_len _ _⟩
theorem headS_c (q : SlotP) (d : List Int) : headS { q with c := d } = headS q := rfl
theorem chkS_c (K : List Int) (q : SlotP) (d : List Int) : chkS K { q with c := d } = chkS K q := by
  unfold chkS; rw [headS_c]
theorem wrapP_ok {x : WrapA} (h : wrapBad x = false) : wrapP x = { wrap1 x with c := chkS (sOut x.p x.s x.r) (wrap1 x) } := by
  unfold wrapP; rw [h]; rfl
theorem wrap_right {x : WrapA} (h : wrapE x = 0) : wrapBad x = false ∧ rightS (wrapP x) = true ∧ (wrapP x).u = true := by
  have hb : wrapBad x = false := by
    cases e : wrapBad x with
    | false => rfl
    | true => simp [wrapE, e] at h
  refine ⟨hb, ?_, by rw [wrapP_ok hb]; rfl⟩
  have hu : (wrapP x).u = true := by rw [wrapP_ok hb]; rfl
  rw [right_t hu, wrapP_ok hb]
  simp only [wrapBad, Bool.or_eq_false_iff, decide_eq_false_iff_not, Decidable.not_not] at hb
  have := sErr_cases x.p x.r
  show 1 ≤ x.k ∧ x.k ≤ 255 ∧ 1 ≤ x.r ∧ x.r ≤ 64
  omega
theorem unw_wrap {x : WrapA} (h : wrapE x = 0) (hm : x.m.length = 32) (hr : ∀ y ∈ x.m, inR .u8 y) : unwE x.p (wrapP x) = 0 ∧ unwM x.p (wrapP x) = x.m := by
  obtain ⟨hb, h1, h2⟩ := wrap_right h
  have hs : sErr x.p x.r = 0 := by
    simp only [wrapBad, Bool.or_eq_false_iff, decide_eq_false_iff_not, Decidable.not_not] at hb
    exact hb.1.1
  have e := wrapP_ok hb
  have e2 : (wrapP x).r = x.r := by rw [e]; rfl
  have e3 : (wrapP x).s = x.s := by rw [e]; rfl
  have e4 : (wrapP x).w = crS (sOut x.p x.s x.r) x.m := by rw [e]; rfl
  have e5 : (wrapP x).c = chkS (sOut x.p x.s x.r) (wrap1 x) := by rw [e]
  have hc : chkS (sOut x.p (wrapP x).s (wrapP x).r) (wrapP x) = (wrapP x).c := by
    rw [e2, e3, e5, e, chkS_c]
  have hn : unwBad x.p (wrapP x) = false := by
    rw [unwBad, hc, e2, hs]
    simp [eqL]
  refine ⟨by simp only [unwE, h1, h2, hn, if_true, Bool.false_eq_true, if_false], ?_⟩
  simp only [unwM, h1, h2, hn, Bool.and_self, Bool.not_false, if_true]
  rw [e2, e3, e4]
  exact cr_back hm hr
end Go.Cx.Rb
