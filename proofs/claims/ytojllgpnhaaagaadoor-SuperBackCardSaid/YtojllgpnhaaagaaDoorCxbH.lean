/-
  What the stretching of a passphrase computes.
-/
import Derived.Test.YtojllgpnhaaagaaDoorCxbF
import Derived.Test.YtojllgpnhaaagaaDoorCxbG
namespace Go.Cx.Rb
open Go Go.Cx

/-- the first k bytes turned by others -/
def xorP (a b : List Int) (k : Nat) : List Int := ((List.range k).map fun j => bxor .u8 (nthI a j) (nthI b j)) ++ a.drop k
theorem xorP_len {a b : List Int} {k : Nat} (h : k ≤ a.length) : (xorP a b k).length = a.length := by simp [xorP]; omega
theorem xorP_zero {a b : List Int} : xorP a b 0 = a := rfl
theorem xorP_nth {a b : List Int} {k : Nat} : nthI (xorP a b k) k = nthI a k := by
  simp only [xorP, nthI, List.getD_eq_getElem?_getD]
  rw [List.getElem?_append_right (by simp)]
  simp
theorem xorP_set {a b : List Int} {k : Nat} (h : k < a.length) : setI (xorP a b k) k (bxor .u8 (nthI (xorP a b k) k) (nthI b k)) = xorP a b (k + 1) := by
  rw [xorP_nth]
  have hl : ((List.range k).map fun j => bxor .u8 (nthI a j) (nthI b j)).length = k := by simp
  simp only [xorP, setI]
  rw [List.set_append_right _ _ (by omega), hl, Nat.sub_self, List.drop_eq_getElem_cons h, List.range_succ]
  simp only [List.set_cons_zero, List.map_append, List.map_cons, List.map_nil, List.append_assoc, List.cons_append, List.nil_append]

def saltX (salt : List Int) : List Int := salt ++ [0, 0, 0, 1]
def uS (pass salt : List Int) : Nat → List Int
  | 0 => macS pass (saltX salt)
  | i + 1 => macS pass (uS pass salt i)
def oS (pass salt : List Int) : Nat → List Int
  | 0 => uS pass salt 0
  | i + 1 => xorP (oS pass salt i) (uS pass salt (i + 1)) 32
def oR (pass salt : List Int) : Nat → List Int
  | 0 => zerosI 32
  | i + 1 => xorP (oR pass salt i) (uS pass salt i) 32
/-- what is hashed in round i -/
def lastL (pass salt : List Int) : Nat → List Int
  | 0 => saltX salt
  | i + 1 => uS pass salt i
def lastN : Nat → Nat
  | 0 => 20
  | _ + 1 => 32
def sBad (pass : List Int) (r : Int) : Bool := decide (r < 1) || decide (64 < r) || decide (64 < pass.length)
def sOut (pass salt : List Int) (r : Int) : List Int := if sBad pass r then zerosI 32 else oS pass salt (r.toNat - 1)
def sErr (pass : List Int) (r : Int) : Int := if sBad pass r then 2 else 0

theorem macS_len (k m : List Int) : (macS k m).length = 32 := digest_len _
theorem uS_len (p s : List Int) (i : Nat) : (uS p s i).length = 32 := by cases i <;> exact macS_len _ _
theorem oS_len (p s : List Int) : ∀ i, (oS p s i).length = 32
  | 0 => uS_len p s 0
  | i + 1 => by rw [oS, xorP_len (by rw [oS_len p s i]; omega), oS_len p s i]
theorem oR_len (p s : List Int) : ∀ i, (oR p s i).length = 32
  | 0 => by simp [oR, zerosI]
  | i + 1 => by rw [oR, xorP_len (by rw [oR_len p s i]; omega), oR_len p s i]
theorem lastL_len {p s : List Int} (hs : s.length = 16) (i : Nat) : (lastL p s i).length = lastN i := by
  cases i with
  | zero => simp [lastL, saltX, lastN, hs]
  | succ i => exact uS_len p s i
theorem lastL_macS {p s : List Int} (i : Nat) : macS p (lastL p s i) = uS p s i := by cases i <;> rfl
theorem xorP_at {a b : List Int} {k j : Nat} (h : j < k) : nthI (xorP a b k) j = bxor .u8 (nthI a j) (nthI b j) := by
  simp only [xorP]
  rw [nthI_cat, if_pos (by simpa using h)]
  simp [nthI, List.getD_eq_getElem?_getD, h]
theorem bxor_zero {x : Int} (h : 0 ≤ x ∧ x ≤ 255) : bxor .u8 0 x = x := by
  obtain ⟨a, rfl⟩ := Int.eq_ofNat_of_zero_le h.1
  have ha : a < 2 ^ 8 := by omega
  show IntKind.u8.wrap (((BitVec.ofInt 8 (0 : Int) ^^^ BitVec.ofInt 8 (a : Int)).toNat : Nat) : Int) = _
  rw [BitVec.ofInt_natCast, BitVec.toNat_xor, BitVec.toNat_ofNat, Nat.mod_eq_of_lt ha]
  show IntKind.u8.wrap ((0 ^^^ a : Nat) : Int) = _
  rw [Nat.zero_xor, u8_emod]; omega
theorem outL_rng (h : List Int) : ∀ y ∈ outL h, 0 ≤ y ∧ y ≤ 255 := fun y hy => by
  simp only [outL, List.mem_map] at hy
  obtain ⟨i, _, rfl⟩ := hy
  have : ∀ n, 0 ≤ IntKind.u8.wrap n ∧ IntKind.u8.wrap n ≤ 255 := fun n => by rw [u8_emod]; omega
  exact this _
end Go.Cx.Rb

/- Keys out of keys and out of passphrases. -/
namespace Go.Cx.Rb
open Go Go.Cx Go.Proofs

theorem digest_rng (b : List Int) (j : Nat) : 0 ≤ nthI (digest b) j ∧ nthI (digest b) j ≤ 255 := by
  by_cases h : j < (digest b).length
  · have e : nthI (digest b) j = (digest b)[j] := by simp [nthI, List.getD_eq_getElem?_getD, h]
    rw [e]
    exact outL_rng _ _ (List.getElem_mem h)
  · have e : nthI (digest b) j = 0 := by simp [nthI, List.getD_eq_getElem?_getD, Nat.le_of_not_lt h]
    rw [e]; omega
theorem oR_oS (p s : List Int) : ∀ i, oR p s (i + 1) = oS p s i
  | 0 => by
    rw [oR, oR, oS]
    refine same_list (n := 32) (by rw [xorP_len (by simp [zerosI])]; simp [zerosI]) (uS_len p s 0) fun j hj => ?_
    rw [xorP_at hj]
    have e : nthI (zerosI 32) j = 0 := by
      rw [nthI, List.getD_eq_getElem?_getD, zerosI, List.getElem?_replicate, if_pos hj]; rfl
    rw [e]
    exact bxor_zero (digest_rng _ j)
  | i + 1 => by rw [oR, oR_oS p s i, oS]

def cDerive (ap : AP) : Ctr
  | [.v (.ints .u8 n k), .v (.str l)] => rif (n == 32) 240 <| .chk (ap _ _ (ap _ _ leN (ap _ _ llen l)) 140737488351232) (.ok ⟨.ints .u8 32 (ap _ _ (ap _ _ macS k) l), [], []⟩)
  | _ => .fail 240

theorem vc119 (args : List Arg) (out : Out) (h : (cDerive apf args).to out) (hok : okAs args) :
    args.length = ic119.nargs ∧ ic119.nargs ≤ ic119.ntmps ∧ ∃ A, run apf [(120, cMac apf)] A ic119.body (fnQ apf args out ic119.res) (st0 G1 true args) := by
  unfold cDerive at h
  split at h
  · rename_i n k l
    unfold rif at h
    split at h
    · rename_i hn
      obtain rfl : n = 32 := by simpa using hn
      obtain ⟨h1, h⟩ := h
      cases h
      have h1 : l.length ≤ 140737488351232 := h1
      obtain ⟨hk, hl, _⟩ := hok
      have hk : k.length = 32 := hk.1
      refine ⟨rfl, by decide, [], ?_⟩
      have sk : subL k 0 32 = k := subL_all (Nat.le_of_eq hk)
      have sl : subL l 0 l.length = l := subL_all (Nat.le_refl _)
      show run apf _ _ _ _ (st0 [(1, .ints .u32 64 kk)] _ _)
      generalize hK : kk = K
      generalize hap : apf = ap
      cbv
      and_intros
      all_goals subst hap
      all_goals try simp only [apf, leN, addN, V.cnt, llen, sk, sl, eqL', eqN, Nat.zero_add]
      all_goals first
        | exact True.intro
        | omega
    · exact h.elim
  · exact h.elim
theorem s119 : Sound Tryd.prog G1 119 (pu 119) (cDerive apf) := fn_sound rfl Tryd.call119 ok119 co119 (env_cons s120 env_nil) vc119
theorem vc142 (args : List Arg) (out : Out) (h : (cDerive apf args).to out) (hok : okAs args) :
    args.length = ic142.nargs ∧ ic142.nargs ≤ ic142.ntmps ∧ ∃ A, run apf [(141, cMacR apf)] A ic142.body (fnQ apf args out ic142.res) (st0 G2 true args) := by
  unfold cDerive at h
  split at h
  · rename_i n k l
    unfold rif at h
    split at h
    · rename_i hn
      obtain rfl : n = 32 := by simpa using hn
      obtain ⟨h1, h⟩ := h
      cases h
      have h1 : l.length ≤ 140737488351232 := h1
      obtain ⟨hk, hl, _⟩ := hok
      have hk : k.length = 32 := hk.1
      refine ⟨rfl, by decide, [], ?_⟩
      have sk : subL k 0 32 = k := subL_all (Nat.le_of_eq hk)
      have sl : subL l 0 l.length = l := subL_all (Nat.le_refl _)
      show run apf _ _ _ _ (st0 [(0, .ints .u32 64 kk), (1, .ints .u32 64 kk)] _ _)
      generalize hK : kk = K
      generalize hap : apf = ap
      cbv
      and_intros
      all_goals subst hap
      all_goals try simp only [apf, leN, addN, V.cnt, llen, sk, sl, eqL', eqN, Nat.zero_add]
      all_goals first
        | exact True.intro
        | omega
    · exact h.elim
  · exact h.elim
theorem s142 : Sound Tryd.prog G2 142 (pu 142) (cDerive apf) := fn_sound rfl Tryd.call142 ok142 co142 (env_cons s141 env_nil) vc142
end Go.Cx.Rb

/- The stretching of passphrases. -/
namespace Go.Cx.Rb
open Go Go.Cx Go.Proofs

def cStretch (ap : AP) : Ctr
  | [.v (.str p), .v (.ints .u8 n s), .v (.int .i64 r)] => rif (n == 16) 241 (.ok ⟨.tcons (.ints .u8 32 (ap _ _ (ap _ _ (ap _ _ sOut p) s) r)) (.tcons (.int .i64 (ap _ _ (ap _ _ sErr p) r)) .tnil), [], []⟩)
  | _ => .fail 241

def aStretch (ap : AP) (p s : List Int) (R : Nat) : List (Nat × Ann) := [
  (0, .nest (Nat × List (Nat × Nat)) (fun x => ⟨[(0, .str p), (6, .ptr 6 []), (8, .ptr 8 []), (9, .ptr 9 []), (31, .int .i64 (ap _ _ lenI R)), (32, .int .i64 (ap _ _ lenI x.1))],
      [(6, ⟨.own, .ints .u8 32 (ap _ _ zerosI 32)⟩), (8, ⟨.own, .ints .u8 32 (ap _ _ (ap _ _ (ap _ _ uS p) s) x.1)⟩), (9, ⟨.own, .ints .u8 32 (ap _ _ (ap _ _ (ap _ _ oS p) s) x.1)⟩)], x.2⟩)
    (fun x => x.1 ≤ R) (fun x => R - x.1)
    (fun x => [(1, .inv Nat (fun k => ⟨[(0, .str p), (6, .ptr 6 []), (8, .ptr 8 []), (9, .ptr 9 []), (31, .int .i64 (ap _ _ lenI R)), (32, .int .i64 (ap _ _ lenI x.1)), (38, .int .i64 (ap _ _ lenI k))],
      [(6, ⟨.own, .ints .u8 32 (ap _ _ zerosI 32)⟩), (8, ⟨.own, .ints .u8 32 (ap _ _ (ap _ _ (ap _ _ uS p) s) (x.1 + 1))⟩), (9, ⟨.own, .ints .u8 32 (ap _ _ (ap _ _ (ap _ _ xorP (ap _ _ (ap _ _ (ap _ _ oS p) s) x.1)) (ap _ _ (ap _ _ (ap _ _ uS p) s) (x.1 + 1))) k)⟩)], []⟩)
      (fun k => k ≤ 32) (fun k => 32 - k))]))]

set_option maxRecDepth 20000 in
set_option maxHeartbeats 1000000 in
theorem vc83 (args : List Arg) (out : Out) (h : (cStretch apf args).to out) (hok : okAs args) :
    args.length = ic83.nargs ∧ ic83.nargs ≤ ic83.ntmps ∧ ∃ A, run apf [(120, cMac apf)] A ic83.body (fnQ apf args out ic83.res) (st0 G1 true args) := by
  unfold cStretch at h
  split at h
  · rename_i p n s r
    unfold rif at h
    split at h
    · rename_i hn
      obtain rfl : n = 16 := by simpa using hn
      cases h
      obtain ⟨hp, hs, hr, _⟩ := hok
      have hs : s.length = 16 := hs.1
      have sp : subL p 0 p.length = p := subL_all (Nat.le_refl _)
      refine ⟨rfl, by decide, aStretch apf p s (r.toNat - 1), ?_⟩
      show run apf _ _ _ _ (st0 [(1, .ints .u32 64 kk)] _ _)
      generalize hK : kk = K
      generalize hR : r.toNat - 1 = R
      generalize hap : apf = ap
      cbv
      refine ⟨fun h0 => ?_, fun h0 => ?_⟩
      · cbv
        subst hap
        have c0 : r < 1 := lss_t h0
        have e : sBad p r = true := by simp [sBad, c0]
        simp only [apf, eqN, eqL', eqI', sOut, sErr, e, if_true]
        and_intros
        all_goals first | exact True.intro | rfl
      · have c0 : 1 ≤ r := by subst hap; exact lss_f h0
        cbv
        refine ⟨fun h1 => ?_, fun h1 => ?_⟩
        · cbv
          subst hap
          have c1 : 64 < r := gtr_t h1
          have e : sBad p r = true := by simp [sBad, c1]
          simp only [apf, eqN, eqL', eqI', sOut, sErr, e, if_true]
          and_intros
          all_goals first | exact True.intro | rfl
        · have c1 : r ≤ 64 := by subst hap; exact gtr_f h1
          cbv
          refine ⟨fun h2 => ?_, fun h2 => ?_⟩
          · cbv
            subst hap
            have c2 : (64 : Int) < (p.length : Int) := gtr_t h2
            have c2 : 64 < p.length := by omega
            have e : sBad p r = true := by simp [sBad, c2]
            simp only [apf, eqN, eqL', eqI', sOut, sErr, e, if_true]
            and_intros
            all_goals first | exact True.intro | rfl
          · cbv
            have c2 : p.length ≤ 64 := by
              have : (p.length : Int) ≤ 64 := by subst hap; exact gtr_f h2
              omega
            have sb : sBad p r = false := by
              rw [sBad, decide_eq_false (show ¬ r < 1 by omega), decide_eq_false (show ¬ 64 < r by omega), decide_eq_false (show ¬ 64 < p.length by omega)]; rfl
            and_intros
            any_goals (refine ⟨(0, []), Nat.zero_le _, ?_⟩; cbv; and_intros)
            rotate_right 1
            · intro (x : Nat × List (Nat × Nat)) hx _ _
              obtain ⟨i, rn⟩ := x
              have hx : i ≤ R := hx
              cbv
              refine ⟨fun hlt => ?_, fun hge => ?_⟩
              · have d0 : i < R := by
                  have : (i : Int) < (R : Int) := by subst hap; exact lss_t hlt
                  omega
                cbv
                and_intros
                any_goals (refine ⟨0, Nat.zero_le _, ?_⟩; cbv; and_intros)
                rotate_right 1
                · intro (k : Nat) hk _ _
                  have hk : k ≤ 32 := hk
                  cbv
                  refine ⟨fun hlt2 => ?_, fun hge2 => ?_⟩
                  · have e0 : k < 32 := by
                      have : (k : Int) < 32 := by subst hap; exact lss_t hlt2
                      omega
                    have e1 : k + 1 ≤ 32 := by omega
                    have e2 : 32 - (k + 1) < 32 - k := by omega
                    cbv
                    and_intros
                    any_goals (refine ⟨k + 1, e1, e2, ?_⟩; cbv; and_intros)
                    all_goals subst hap
                    all_goals have inc : wadd .i64 (k : Int) 1 = ((k + 1 : Nat) : Int) := inc_i64 (by omega)
                    all_goals try simp only [apf, ltN, natI, eqN, eqI', eqL', arF, lenI, inc, Int.toNat_natCast]
                    all_goals clear inc
                    all_goals try omega
                    all_goals exact (xorP_set (by rw [oS_len]; exact e0)).symm
                  · have e0 : k = 32 := by
                      have : (32 : Int) ≤ (k : Int) := by subst hap; exact lss_f hge2
                      omega
                    have d1 : i + 1 ≤ R := by omega
                    have d2 : R - (i + 1) < R - i := by omega
                    subst e0
                    cbv
                    and_intros
                    any_goals (refine ⟨(i + 1, []), d1, d2, ?_⟩; cbv; and_intros)
                    all_goals subst hap
                    all_goals have inc : wadd .i64 (i : Int) 1 = ((i + 1 : Nat) : Int) := inc_i64 (by omega)
                    all_goals try simp only [apf, eqN, eqI', eqL', arF, lenI, inc]
                    all_goals first | exact True.intro | rfl
                all_goals subst hap
                all_goals try simp only [apf, leN, addN, V.cnt, llen, eqN, eqI', eqL', lenI, Nat.zero_add, sp, Int.natCast_zero]
                all_goals first
                  | exact True.intro
                  | omega
                  | (rw [subL_all (Nat.le_of_eq (uS_len p s i))]; rfl)
                  | rfl
              · cbv
                have e0 : i = R := by
                  have : (R : Int) ≤ (i : Int) := by subst hap; exact lss_f hge
                  omega
                subst e0
                and_intros
                all_goals subst hap
                all_goals try simp only [apf, eqN, eqI', eqL', sOut, sErr, sb, hR]
                all_goals first | exact True.intro | rfl
            all_goals subst hap
            all_goals have dec : wsub .i64 r 1 = (R : Int) := by rw [wsub_i64 (by omega)]; omega
            all_goals try simp only [apf, leN, ltN, appN, addN, V.cnt, llen, eqN, eqI', eqL', arF, lenI, dec, Nat.zero_add, sp, Int.natCast_zero]
            all_goals clear dec
            all_goals first
              | exact True.intro
              | omega
              | (rw [subL_all (Nat.le_of_eq hs), subL_all (b := [0, 0, 0, 1]) (by decide), catL, subL_all (by rw [List.length_append, hs]; exact Nat.le_refl _)]; rfl)
              | rfl
    · exact h.elim
  · exact h.elim
theorem s83 : Sound Tryd.prog G1 83 (pu 83) (cStretch apf) := fn_sound rfl Tryd.call83 ok83 co83 (env_cons s120 env_nil) vc83
end Go.Cx.Rb

/- The reference's stretching of passphrases. -/
namespace Go.Cx.Rb
open Go Go.Cx Go.Proofs

theorem lastN_le (i : Nat) : lastN i ≤ 140737488351232 := by cases i <;> simp [lastN]
def aStretchR (ap : AP) (p s : List Int) (R : Nat) (r : Int) : List (Nat × Ann) := [
  (0, .nest (Nat × List (Nat × Nat)) (fun x => ⟨[(0, .str p), (2, .int .i64 r), (6, .ptr 6 []), (8, .ptr 8 []), (9, .sl 8001 [] 0 (ap _ _ lastN x.1) 1 none), (10, .int .i64 (ap _ _ lenI x.1))],
      [(6, ⟨.own, .ints .u8 32 (ap _ _ zerosI 32)⟩), (8, ⟨.own, .ints .u8 32 (ap _ _ (ap _ _ (ap _ _ oR p) s) x.1)⟩), (8001, ⟨.own, .ints .u8 (ap _ _ lastN x.1) (ap _ _ (ap _ _ (ap _ _ lastL p) s) x.1)⟩)], x.2⟩)
    (fun x => x.1 ≤ R) (fun x => R - x.1)
    (fun x => [(1, .inv Nat (fun k => ⟨[(0, .str p), (2, .int .i64 r), (6, .ptr 6 []), (8, .ptr 8 []), (11, .ptr 11 []), (10, .int .i64 (ap _ _ lenI x.1)), (12, .int .i64 (ap _ _ lenI k))],
      [(6, ⟨.own, .ints .u8 32 (ap _ _ zerosI 32)⟩), (11, ⟨.own, .ints .u8 32 (ap _ _ (ap _ _ (ap _ _ uS p) s) x.1)⟩), (8, ⟨.own, .ints .u8 32 (ap _ _ (ap _ _ (ap _ _ xorP (ap _ _ (ap _ _ (ap _ _ oR p) s) x.1)) (ap _ _ (ap _ _ (ap _ _ uS p) s) x.1)) k)⟩)], []⟩)
      (fun k => k ≤ 32) (fun k => 32 - k))]))]

set_option maxRecDepth 20000 in
set_option maxHeartbeats 1000000 in
theorem vc86 (args : List Arg) (out : Out) (h : (cStretch apf args).to out) (hok : okAs args) :
    args.length = ic86.nargs ∧ ic86.nargs ≤ ic86.ntmps ∧ ∃ A, run apf [(141, cMacR apf)] A ic86.body (fnQ apf args out ic86.res) (st0 G2 true args) := by
  unfold cStretch at h
  split at h
  · rename_i p n s r
    unfold rif at h
    split at h
    · rename_i hn
      obtain rfl : n = 16 := by simpa using hn
      cases h
      obtain ⟨hp, hs, hr, _⟩ := hok
      have hs : s.length = 16 := hs.1
      have sp : subL p 0 p.length = p := subL_all (Nat.le_refl _)
      refine ⟨rfl, by decide, aStretchR apf p s r.toNat r, ?_⟩
      show run apf _ _ _ _ (st0 [(0, .ints .u32 64 kk), (1, .ints .u32 64 kk)] _ _)
      generalize hK : kk = K
      generalize hR : r.toNat = R
      generalize hap : apf = ap
      cbv
      refine ⟨fun h0 => ?_, fun h0 => ?_⟩
      · cbv
        subst hap
        have c0 : r < 1 := lss_t h0
        have e : sBad p r = true := by simp [sBad, c0]
        simp only [apf, eqN, eqL', eqI', sOut, sErr, e, if_true]
        and_intros
        all_goals first | exact True.intro | rfl
      · have c0 : 1 ≤ r := by subst hap; exact lss_f h0
        cbv
        refine ⟨fun h1 => ?_, fun h1 => ?_⟩
        · cbv
          subst hap
          have c1 : 64 < r := gtr_t h1
          have e : sBad p r = true := by simp [sBad, c1]
          simp only [apf, eqN, eqL', eqI', sOut, sErr, e, if_true]
          and_intros
          all_goals first | exact True.intro | rfl
        · have c1 : r ≤ 64 := by subst hap; exact gtr_f h1
          cbv
          refine ⟨fun h2 => ?_, fun h2 => ?_⟩
          · cbv
            subst hap
            have c2 : (64 : Int) < (p.length : Int) := gtr_t h2
            have c2 : 64 < p.length := by omega
            have e : sBad p r = true := by simp [sBad, c2]
            simp only [apf, eqN, eqL', eqI', sOut, sErr, e, if_true]
            and_intros
            all_goals first | exact True.intro | rfl
          · cbv
            have c2 : p.length ≤ 64 := by
              have : (p.length : Int) ≤ 64 := by subst hap; exact gtr_f h2
              omega
            have sb : sBad p r = false := by
              rw [sBad, decide_eq_false (show ¬ r < 1 by omega), decide_eq_false (show ¬ 64 < r by omega), decide_eq_false (show ¬ 64 < p.length by omega)]; rfl
            and_intros
            any_goals (refine ⟨(0, [(8001, 30)]), Nat.zero_le _, ?_⟩; cbv; and_intros)
            rotate_right 1
            · intro (x : Nat × List (Nat × Nat)) hx _ _
              obtain ⟨i, rn⟩ := x
              have hx : i ≤ R := hx
              cbv
              refine ⟨fun hlt => ?_, fun hge => ?_⟩
              · have d0 : i < R := by
                  have : (i : Int) < r := by subst hap; exact lss_t hlt
                  omega
                cbv
                and_intros
                any_goals (refine ⟨0, Nat.zero_le _, ?_⟩; cbv; and_intros)
                rotate_right 1
                · intro (k : Nat) hk _ _
                  have hk : k ≤ 32 := hk
                  cbv
                  refine ⟨fun hlt2 => ?_, fun hge2 => ?_⟩
                  · have e0 : k < 32 := by
                      have : (k : Int) < 32 := by subst hap; exact lss_t hlt2
                      omega
                    have e1 : k + 1 ≤ 32 := by omega
                    have e2 : 32 - (k + 1) < 32 - k := by omega
                    cbv
                    and_intros
                    any_goals (refine ⟨k + 1, e1, e2, ?_⟩; cbv; and_intros)
                    all_goals subst hap
                    all_goals have inc : wadd .i64 (k : Int) 1 = ((k + 1 : Nat) : Int) := inc_i64 (by omega)
                    all_goals try simp only [apf, ltN, natI, eqN, eqI', eqL', arF, lenI, inc, Int.toNat_natCast]
                    all_goals clear inc
                    all_goals try omega
                    all_goals exact (xorP_set (by rw [oR_len]; exact e0)).symm
                  · have e0 : k = 32 := by
                      have : (32 : Int) ≤ (k : Int) := by subst hap; exact lss_f hge2
                      omega
                    have d1 : i + 1 ≤ R := by omega
                    have d2 : R - (i + 1) < R - i := by omega
                    subst e0
                    cbv
                    and_intros
                    any_goals (refine ⟨(i + 1, [(8001, 54)]), d1, d2, ?_⟩; cbv; and_intros)
                    all_goals subst hap
                    all_goals have inc : wadd .i64 (i : Int) 1 = ((i + 1 : Nat) : Int) := inc_i64 (by omega)
                    all_goals try simp only [apf, eqN, eqI', eqL', leN, addN, appN, V.cnt, arF, lenI, inc, Nat.zero_add]
                    all_goals clear inc
                    all_goals first
                      | exact True.intro
                      | omega
                      | (rw [subL_all (Nat.le_of_eq (uS_len p s i))]; rfl)
                      | rfl
                all_goals subst hap
                all_goals try simp only [apf, leN, addN, V.cnt, llen, eqN, eqI', eqL', lenI, Nat.zero_add, sp, Int.natCast_zero]
                all_goals first
                  | exact True.intro
                  | omega
                  | (rw [subL_all (Nat.le_of_eq (lastL_len hs i))]; exact (lastL_macS i).symm)
                  | exact lastN_le i
                  | rfl
              · cbv
                have e0 : i = R := by
                  have : r ≤ (i : Int) := by subst hap; exact lss_f hge
                  omega
                subst e0
                have e1 : oR p s i = oS p s (i - 1) := by
                  obtain ⟨j, rfl⟩ : ∃ j, i = j + 1 := ⟨i - 1, by omega⟩
                  exact oR_oS p s j
                and_intros
                all_goals subst hap
                all_goals try simp only [apf, eqN, eqI', eqL', sOut, sErr, sb, hR, e1]
                all_goals first | exact True.intro | rfl
            all_goals subst hap
            all_goals try simp only [apf, leN, appN, addN, V.cnt, eqN, eqI', eqL', lenI, Nat.zero_add, Int.natCast_zero]
            all_goals first
              | exact True.intro
              | omega
              | (rw [subL_all (Nat.le_of_eq hs), subL_all (Nat.le_of_eq hs), subL_all (b := [0, 0, 0, 1]) (by decide), catL]; rfl)
              | rfl
    · exact h.elim
  · exact h.elim
theorem s86 : Sound Tryd.prog G2 86 (pu 86) (cStretch apf) := fn_sound rfl Tryd.call86 ok86 co86 (env_cons s141 env_nil) vc86
end Go.Cx.Rb

/- The law 'MacDerives' returns true. -/
namespace Go.Cx.Rb
open Go Go.Cx Go.Proofs

def cMacDerives (ap : AP) : Ctr
  | [.v (.ints .u8 n _), .v (.str l), .v (.str _), .v (.ints .u8 m _), .v (.int .i64 _)] => rif (n == 32 && m == 16) 242 <| .chk (ap _ _ (ap _ _ leN (ap _ _ llen l)) 140737488351232) (.ok ⟨.tt, [], []⟩)
  | _ => .fail 242

theorem s83' : Sound Tryd.prog G2 83 (pu 83) (cStretch apf) := s83.more g12
theorem s119' : Sound Tryd.prog G2 119 (pu 119) (cDerive apf) := s119.more g12

end Go.Cx.Rb
