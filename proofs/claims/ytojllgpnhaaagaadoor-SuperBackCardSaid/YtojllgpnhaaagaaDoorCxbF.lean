/-
  The law 'ShaNil' returns true.
-/
import Derived.Test.YtojllgpnhaaagaaDoorCxbE
import Derived.Test.YtojllgpnhaaagaaDoorCxbC
namespace Go.Cx.Rb
open Go Go.Cx Go.Proofs

theorem g12 (n : Nat) (v : V) (h : look G1 n = some v) : look G2 n = some v := by
  simp only [look] at h ⊢
  split at h
  · rename_i e; subst e; rw [if_neg (by decide), if_pos rfl]; exact h
  · cases h
theorem s136' : Sound Tryd.prog G2 136 (pu 136) (cNew apf) := s136.more g12
theorem s137' : Sound Tryd.prog G2 137 (pu 137) (cAdd apf) := s137.more g12
theorem s138' : Sound Tryd.prog G2 138 (pu 138) (cSum apf) := s138.more g12

def cShaNil (ap : AP) : Ctr
  | [.b n 1 (.ints .u8 _ _), .b m 1 (.ints .u8 _ _)] => .chk (ap _ _ (ap _ _ leN n) 140737488351232) <| .chk (ap _ _ (ap _ _ leN m) 140737488351232) (.ok ⟨.tt, [], []⟩)
  | _ => .fail 215

theorem sum_digest {b : List Int} {m : Nat} (hb : b.length = m) (hm : m ≤ 9223372036854775807) : digW (addW iv (zs 0) (subL b 0 m)) (addR (zs 0) (subL b 0 m)) (addS (lenI 0) m) = digest b := by
  have e1 : subL b 0 m = b := subL_all (Nat.le_of_eq hb)
  have e2 := digW_digest (b := b) (by rw [hb]; exact hm)
  rw [hb] at e2
  rw [e1]; exact e2

end Go.Cx.Rb

/- What the macs compute. -/
namespace Go.Cx.Rb
open Go Go.Cx

def shortL (key : List Int) : List Int := if 64 < key.length then digest key else key
/-- a key of 64 bytes -/
def keyL (key : List Int) : List Int := shortL key ++ List.replicate (64 - (shortL key).length) 0
def padX (key : List Int) (x : Int) : List Int := (keyL key).map fun b => bxor .u8 b x
def macS (key msg : List Int) : List Int := digest (padX key 92 ++ digest (padX key 54 ++ msg))
/-- the first i bytes turned -/
def xorL (l : List Int) (x : Int) (i : Nat) : List Int := ((l.take i).map fun b => bxor .u8 b x) ++ l.drop i

theorem outL_len (h : List Int) : (outL h).length = 32 := by simp [outL]
theorem digest_len (b : List Int) : (digest b).length = 32 := outL_len _
theorem shortL_len (key : List Int) : (shortL key).length ≤ 64 := by
  unfold shortL
  split
  · rw [digest_len]; omega
  · omega
theorem keyL_len (key : List Int) : (keyL key).length = 64 := by
  have := shortL_len key
  simp [keyL]; omega
theorem padX_len (key : List Int) (x : Int) : (padX key x).length = 64 := by simp [padX, keyL_len]
theorem xorL_set {l : List Int} {x : Int} {i : Nat} (hi : i < l.length) : setI (xorL l x i) i (bxor .u8 (nthI (xorL l x i) i) x) = xorL l x (i + 1) := by
  have e : l.drop i = l[i] :: l.drop (i + 1) := List.drop_eq_getElem_cons hi
  have hl : ((l.take i).map fun b => bxor .u8 b x).length = i := by simp; omega
  have hg : nthI (xorL l x i) i = l[i] := by
    simp only [xorL, nthI, List.getD_eq_getElem?_getD]
    rw [List.getElem?_append_right (by omega), hl, Nat.sub_self, e]
    rfl
  rw [hg]
  simp only [xorL, setI]
  rw [List.set_append_right _ _ (by omega), hl, Nat.sub_self, e, List.take_add_one, List.getElem?_eq_getElem hi]
  simp only [List.set_cons_zero, List.map_append, List.map_cons, List.map_nil, List.append_assoc, List.cons_append, List.nil_append, Option.toList_some]
theorem xorL_end {l : List Int} {x : Int} (hl : l.length = 64) : xorL l x 64 = l.map fun b => bxor .u8 b x := by
  rw [xorL, List.take_of_length_le (by omega), List.drop_of_length_le (by omega), List.append_nil]

/-- Bytes that come behind others. -/
theorem addW_more {h l b : List Int} : addW (addW h [] l) (addR [] l) b = addW h [] (l ++ b) := by
  have hR : addR [] l = l.drop (64 * (l.length / 64)) := by simp [addR]
  have hRl : (addR [] l).length = l.length % 64 := by rw [hR, List.length_drop]; omega
  have hk : (l.length + b.length) / 64 = l.length / 64 + (l.length % 64 + b.length) / 64 := by omega
  simp only [addW, List.nil_append, List.length_nil, Nat.zero_add, List.length_append]
  rw [hRl, hk, blk_more, List.drop_append_of_le_length (by omega), ← hR]
  congr 1
  exact blk_congr fun j hj => by rw [nthI_cat, if_pos (by omega)]
theorem addR_more {l b : List Int} : addR (addR [] l) b = addR [] (l ++ b) := by
  have hR : addR [] l = l.drop (64 * (l.length / 64)) := by simp [addR]
  have hRl : (addR [] l).length = l.length % 64 := by rw [hR, List.length_drop]; omega
  have e1 : addR [] (l ++ b) = (l ++ b).drop (64 * ((l.length + b.length) / 64)) := by simp [addR]
  have hk : 64 * ((l.length + b.length) / 64) = 64 * (l.length / 64) + 64 * ((l.length % 64 + b.length) / 64) := by omega
  rw [e1, hk, ← List.drop_drop, List.drop_append_of_le_length (by omega), ← hR, addR, hRl]
theorem addS_more {a b : Nat} (h : a + b ≤ 9223372036854775807) : addS (addS 0 a) b = addS 0 (a + b) := by
  rw [addS_zero (by omega), addS_zero h, addS, wcv_u64_nat (by omega), wadd_u64 (by omega)]; omega

/-- a key copied as far as i -/
def cpL (s : List Int) (i : Nat) : List Int := s.take i ++ List.replicate (64 - i) 0
theorem cpL_set {s : List Int} {i : Nat} (h1 : i < s.length) (h2 : i < 64) : setI (cpL s i) i (nthI s i) = cpL s (i + 1) := by
  have hg : nthI s i = s[i] := by simp [nthI, List.getD_eq_getElem?_getD, h1]
  rw [cpL, setI_fill (by simp; omega) (by omega), hg, cpL, List.take_add_one, List.getElem?_eq_getElem h1]
  rfl
theorem cpL_zero {s : List Int} : cpL s 0 = zerosI 64 := rfl
theorem cpL_end {s : List Int} : cpL s s.length = s ++ List.replicate (64 - s.length) 0 := by rw [cpL, List.take_length]
def xm (l : List Int) (x : Int) (i : Nat) : List Int := (l.take i).map fun b => bxor .u8 b x
theorem xm_len {l : List Int} {x : Int} {i : Nat} (h : i ≤ l.length) : (xm l x i).length = i := by simp [xm]; omega
theorem xm_next {l : List Int} {x : Int} {i : Nat} (h : i < l.length) : xm l x i ++ [bxor .u8 (nthI l i) x] = xm l x (i + 1) := by
  have hg : nthI l i = l[i] := by simp [nthI, List.getD_eq_getElem?_getD, h]
  rw [hg, xm, xm, List.take_add_one, List.getElem?_eq_getElem h, List.map_append]
  rfl
theorem xm_end {key : List Int} {x : Int} : xm (keyL key) x 64 = padX key x := by
  rw [xm, List.take_of_length_le (by rw [keyL_len]; omega), padX]
end Go.Cx.Rb

/- The mac keeps its contract. -/
namespace Go.Cx.Rb
open Go Go.Cx Go.Proofs

def cPadM (ap : AP) : Ctr
  | [.b _ 1 (.ints .u8 _ b), .v (.lit .u8 x)] => .ok ⟨.sl 0 [] 0 64 1 (some 64), [], [.ints .u8 64 (ap _ _ (ap _ _ padX b) x)]⟩
  | _ => .fail 220

def aPadM (ap : AP) (b : List Int) (x : Int) : List (Nat × Ann) := [
  (0, .inv Nat (fun i => ⟨[(6, .sl 14 [] 0 64 1 (some 64)), (19, .int .i64 (ap _ _ lenI 64)), (20, .int .i64 (ap _ _ lenI i)), (1, .lit .u8 x)], [(14, ⟨.own, .ints .u8 64 (ap _ _ (ap _ _ (ap _ _ xorL (ap _ _ keyL b)) x) i)⟩)], []⟩) (fun i => i ≤ 64) (fun i => 64 - i))]

theorem xorL_zero {l : List Int} {x : Int} : xorL l x 0 = l := rfl
theorem lay_key {b : List Int} (_h : b.length ≤ 64) : layL (zerosI 64) 0 b = b ++ List.replicate (64 - b.length) 0 := by
  simp only [layL, zerosI, List.take_zero, List.nil_append, Nat.zero_add, List.drop_replicate]

theorem vc146 (args : List Arg) (out : Out) (h : (cPadM apf args).to out) (hok : okAs args) :
    args.length = ic146.nargs ∧ ic146.nargs ≤ ic146.ntmps ∧ ∃ A, run apf [(79, cDig apf)] A ic146.body (fnQ apf args out ic146.res) (st0 G1 true args) := by
  unfold cPadM at h
  split at h
  · rename_i n m b x
    cases h
    obtain ⟨⟨hn, ⟨rfl, _⟩, hb⟩, hx, _⟩ := hok
    refine ⟨rfl, by decide, aPadM apf b x, ?_⟩
    show run apf _ _ _ _ (st0 [(1, .ints .u32 64 kk)] _ _)
    generalize hK : kk = K
    have sb : subL b 0 m = b := subL_all (Nat.le_of_eq hb.1)
    generalize hap : apf = ap
    cbv
    refine ⟨fun hlt => ?_, fun hge => ?_⟩
    · have b0 : 64 < m := by
        have : (64 : Int) < (m : Int) := by subst hap; exact gtr_t hlt
        omega
      cbv
      and_intros
      any_goals (refine ⟨0, show 0 ≤ 64 from Nat.zero_le _, ?_⟩; cbv; and_intros)
      rotate_right 1
      · intro (i : Nat) hi _ _
        have hi : i ≤ 64 := hi
        cbv
        refine ⟨fun hlt1 => ?_, fun hge1 => ?_⟩
        · have c0 : i < 64 := by
            have : (i : Int) < 64 := by subst hap; exact lss_t hlt1
            omega
          have c1 : i + 1 ≤ 64 := by omega
          have c2 : 64 - (i + 1) < 64 - i := by omega
          cbv
          and_intros
          any_goals (refine ⟨i + 1, c1, c2, ?_⟩; cbv; and_intros)
          all_goals subst hap
          all_goals have inc : wadd .i64 (i : Int) 1 = ((i + 1 : Nat) : Int) := inc_i64 (by omega)
          all_goals try simp only [apf, ltN, natI, addN, eqN, eqI', eqL', arF, lenI, inc, Int.toNat_natCast, Nat.zero_add]
          all_goals try omega
          exact (xorL_set (by rw [keyL_len]; exact c0)).symm
        · have c0 : i = 64 := by
            have : 64 ≤ (i : Int) := by subst hap; exact lss_f hge1
            omega
          subst c0
          cbv
          subst hap
          simp only [apf, eqN, eqL']
          have e := xorL_end (x := x) (keyL_len b)
          rw [e]
          and_intros
          all_goals first
            | exact True.intro
            | rfl
      all_goals subst hap
      all_goals try simp only [apf, leN, addN, V.cnt, eqN, eqI', eqL', lenI, mksN, minN, Nat.zero_add]
      all_goals try omega
      rw [sb, subL_all (by rw [digest_len]; omega), takeL, List.take_of_length_le (by rw [digest_len]; omega), lay_key (by rw [digest_len]; omega), xorL_zero, keyL, shortL, if_pos (by rw [hb.1]; exact b0)]
    · have b0 : m ≤ 64 := by
        have : (m : Int) ≤ 64 := by subst hap; exact gtr_f hge
        omega
      cbv
      and_intros
      any_goals (refine ⟨0, show 0 ≤ 64 from Nat.zero_le _, ?_⟩; cbv; and_intros)
      rotate_right 1
      · intro (i : Nat) hi _ _
        have hi : i ≤ 64 := hi
        cbv
        refine ⟨fun hlt1 => ?_, fun hge1 => ?_⟩
        · have c0 : i < 64 := by
            have : (i : Int) < 64 := by subst hap; exact lss_t hlt1
            omega
          have c1 : i + 1 ≤ 64 := by omega
          have c2 : 64 - (i + 1) < 64 - i := by omega
          cbv
          and_intros
          any_goals (refine ⟨i + 1, c1, c2, ?_⟩; cbv; and_intros)
          all_goals subst hap
          all_goals have inc : wadd .i64 (i : Int) 1 = ((i + 1 : Nat) : Int) := inc_i64 (by omega)
          all_goals try simp only [apf, ltN, natI, addN, eqN, eqI', eqL', arF, lenI, inc, Int.toNat_natCast, Nat.zero_add]
          all_goals try omega
          exact (xorL_set (by rw [keyL_len]; exact c0)).symm
        · have c0 : i = 64 := by
            have : 64 ≤ (i : Int) := by subst hap; exact lss_f hge1
            omega
          subst c0
          cbv
          subst hap
          simp only [apf, eqN, eqL']
          have e := xorL_end (x := x) (keyL_len b)
          rw [e]
          and_intros
          all_goals first
            | exact True.intro
            | rfl
      all_goals subst hap
      all_goals try simp only [apf, leN, addN, V.cnt, eqN, eqI', eqL', lenI, mksN, minN, Nat.zero_add]
      all_goals try omega
      have e : min m 64 = m := by omega
      rw [sb, e, takeL, List.take_of_length_le (by rw [hb.1]; omega), lay_key (by rw [hb.1]; omega), xorL_zero, keyL, shortL, if_neg (by rw [hb.1]; omega)]
  · exact h.elim
theorem s146 : Sound Tryd.prog G1 146 (pu 146) (cPadM apf) := fn_sound rfl Tryd.call146 ok146 co146 (env_cons s79 env_nil) vc146

def cMac (ap : AP) : Ctr
  | [.b _ 1 (.ints .u8 _ k), .b m 1 (.ints .u8 _ b)] => .chk (ap _ _ (ap _ _ leN m) 140737488351232) (.ok ⟨.ints .u8 32 (ap _ _ (ap _ _ macS k) b), [], []⟩)
  | _ => .fail 221

theorem mac_sum {k b : List Int} {m : Nat} (hb : b.length = m) (hm : m ≤ 140737488351232) : digW (addW (addW iv (zs 0) (padX k 54)) (addR (zs 0) (padX k 54)) b) (addR (addR (zs 0) (padX k 54)) b) (addS (addS 0 64) m) = digest (padX k 54 ++ b) := by
  show digW (addW (addW iv [] (padX k 54)) (addR [] (padX k 54)) b) (addR (addR [] (padX k 54)) b) (addS (addS 0 64) m) = _
  have h := digW_digest (b := padX k 54 ++ b) (by rw [List.length_append, padX_len, hb]; omega)
  rw [List.length_append, padX_len, hb] at h
  rw [addW_more, addR_more, addS_more (by omega)]
  exact h

theorem vc120 (args : List Arg) (out : Out) (h : (cMac apf args).to out) (hok : okAs args) :
    args.length = ic120.nargs ∧ ic120.nargs ≤ ic120.ntmps ∧ ∃ A, run apf [(136, cNew apf), (146, cPadM apf), (137, cAdd apf), (138, cSum apf), (79, cDig apf)] A ic120.body (fnQ apf args out ic120.res) (st0 G1 true args) := by
  unfold cMac at h
  split at h
  · rename_i n n' k m m' b
    obtain ⟨h1, h⟩ := h
    cases h
    have h1 : m ≤ 140737488351232 := h1
    obtain ⟨⟨hn, ⟨rfl, _⟩, hk⟩, ⟨hm, ⟨rfl, _⟩, hb⟩, _⟩ := hok
    refine ⟨rfl, by decide, [], ?_⟩
    show run apf _ _ _ _ (st0 [(1, .ints .u32 64 kk)] _ _)
    generalize hK : kk = K
    have sk : subL k 0 n' = k := subL_all (Nat.le_of_eq hk.1)
    have sb : subL b 0 m' = b := subL_all (Nat.le_of_eq hb.1)
    generalize hap : apf = ap
    cbv
    and_intros
    all_goals subst hap
    all_goals try simp only [apf, ltN, leN, addN, appN, addM, V.cnt, eqN, Nat.zero_add]
    all_goals try omega
    show macS k b = digest (subL (catL (subL (padX (subL k 0 n') 92) 0 64) (subL (digW (addW (addW iv (zs 0) (subL (padX (subL k 0 n') 54) 0 64)) (addR (zs 0) (subL (padX (subL k 0 n') 54) 0 64)) (subL b 0 m')) (addR (addR (zs 0) (subL (padX (subL k 0 n') 54) 0 64)) (subL b 0 m')) (addS (addS 0 64) m')) 0 32)) 0 (64 + 32))
    rw [sk, sb, subL_all (Nat.le_of_eq (padX_len k 92)), subL_all (Nat.le_of_eq (padX_len k 54)), mac_sum hb.1 h1, subL_all (Nat.le_of_eq (digest_len _)), catL, subL_all (by rw [List.length_append, padX_len, digest_len]; exact Nat.le_refl _)]
    rfl
  · exact h.elim
theorem s120 : Sound Tryd.prog G1 120 (pu 120) (cMac apf) := fn_sound rfl Tryd.call120 ok120 co120 (env_cons s136 (env_cons s146 (env_cons s137 (env_cons s138 (env_cons s79 env_nil))))) vc120
end Go.Cx.Rb

/- The mac's fixed answer. -/
namespace Go.Cx.Rb
open Go Go.Cx Go.Proofs

def fox : List Int := [84, 104, 101, 32, 113, 117, 105, 99, 107, 32, 98, 114, 111, 119, 110, 32, 102, 111, 120, 32, 106, 117, 109, 112, 115, 32, 111, 118, 101, 114, 32, 116, 104, 101, 32, 108, 97, 122, 121, 32, 100, 111, 103]
def foxK : List Int := [107, 101, 121]
theorem fox0 : nthI (macS foxK fox) 0 = 247 := by kernel_rfl
theorem fox1 : nthI (macS foxK fox) 1 = 188 := by kernel_rfl
theorem fox31 : nthI (macS foxK fox) 31 = 216 := by kernel_rfl

end Go.Cx.Rb

/- The reference's mac. -/
namespace Go.Cx.Rb
open Go Go.Cx Go.Proofs

def cMacR (ap : AP) : Ctr
  | [.b n 1 (.ints .u8 _ k), .b m 1 (.ints .u8 _ b)] => .chk (ap _ _ (ap _ _ leN n) 140737488355256) <| .chk (ap _ _ (ap _ _ leN m) 140737488351232) (.ok ⟨.ints .u8 32 (ap _ _ (ap _ _ macS k) b), [], []⟩)
  | _ => .fail 222

def aMac1 (ap : AP) (k : List Int) (m : Nat) (b : List Int) (x : Nat × List (Nat × Nat)) : LSt := match x.1 with
  | 0 => ⟨[(4, .ptr 4 []), (1, .sl (parH 1) [] 0 m 1 none), (5, .sl 13 [] 0 64 1 (some 64)), (9, .nsl), (10, .nsl), (11, .lit .i64 0)],
    [(4, ⟨.own, .ints .u8 32 (ap _ _ zs 32)⟩), (parH 1, ⟨.bor, .ints .u8 m b⟩), (13, ⟨.own, .ints .u8 64 (ap _ _ keyL k)⟩)], x.2⟩
  | i + 1 => ⟨[(4, .ptr 4 []), (1, .sl (parH 1) [] 0 m 1 none), (5, .sl 13 [] 0 64 1 (some 64)), (9, .sl 8001 [] 0 (i + 1) 1 none), (10, .sl 8002 [] 0 (i + 1) 1 none), (11, .int .i64 (ap _ _ lenI (i + 1)))],
    [(4, ⟨.own, .ints .u8 32 (ap _ _ zs 32)⟩), (parH 1, ⟨.bor, .ints .u8 m b⟩), (13, ⟨.own, .ints .u8 64 (ap _ _ keyL k)⟩), (8001, ⟨.own, .ints .u8 (i + 1) (ap _ _ (ap _ _ (ap _ _ xm (ap _ _ keyL k)) 54) (i + 1))⟩), (8002, ⟨.own, .ints .u8 (i + 1) (ap _ _ (ap _ _ (ap _ _ xm (ap _ _ keyL k)) 92) (i + 1))⟩)], x.2⟩
def aMacB (ap : AP) (k : List Int) (m : Nat) (b : List Int) : List (Nat × Ann) := [
  (0, .inv Nat (fun i => ⟨[(4, .ptr 4 []), (1, .sl (parH 1) [] 0 m 1 none), (5, .sl 13 [] 0 64 1 (some 64)), (6, .sl 7 [] 0 32 1 (some 32)), (8, .int .i64 (ap _ _ lenI i))],
    [(4, ⟨.own, .ints .u8 32 (ap _ _ zs 32)⟩), (parH 1, ⟨.bor, .ints .u8 m b⟩), (13, ⟨.own, .ints .u8 64 (ap _ _ (ap _ _ cpL (ap _ _ digest k)) i)⟩), (7, ⟨.own, .ints .u8 32 (ap _ _ digest k)⟩)], []⟩) (fun i => i ≤ 32) (fun i => 32 - i)),
  (1, .inv (Nat × List (Nat × Nat)) (aMac1 ap k m b) (fun x => x.1 ≤ 64) (fun x => 64 - x.1))]
def aMacS (ap : AP) (n : Nat) (k : List Int) (m : Nat) (b : List Int) : List (Nat × Ann) := [
  (0, .inv Nat (fun i => ⟨[(4, .ptr 4 []), (1, .sl (parH 1) [] 0 m 1 none), (5, .sl 13 [] 0 64 1 (some 64)), (6, .sl (parH 0) [] 0 n 1 none), (8, .int .i64 (ap _ _ lenI i))],
    [(4, ⟨.own, .ints .u8 32 (ap _ _ zs 32)⟩), (parH 1, ⟨.bor, .ints .u8 m b⟩), (13, ⟨.own, .ints .u8 64 (ap _ _ (ap _ _ cpL k) i)⟩), (parH 0, ⟨.bor, .ints .u8 n k⟩)], []⟩) (fun i => i ≤ n) (fun i => n - i)),
  (1, .inv (Nat × List (Nat × Nat)) (aMac1 ap k m b) (fun x => x.1 ≤ 64) (fun x => 64 - x.1))]

theorem xm_step {l : List Int} {x : Int} {i : Nat} (h : i + 1 < l.length) : xm l x (i + 1 + 1) = catL (subL (xm l x (i + 1)) 0 (i + 1)) (subL [bxor .u8 (nthI l (i + 1)) x] 0 1) := by
  rw [subL_all (Nat.le_of_eq (xm_len (by omega))), subL_one, catL, xm_next h]
theorem xm_first {l : List Int} {x : Int} (h : 0 < l.length) : xm l x 1 = subL [bxor .u8 (nthI l 0) x] 0 1 := (xm_next h).symm

theorem vc141 (args : List Arg) (out : Out) (h : (cMacR apf args).to out) (hok : okAs args) :
    args.length = ic141.nargs ∧ ic141.nargs ≤ ic141.ntmps ∧ ∃ A, run apf [(80, cRef apf)] A ic141.body (fnQ apf args out ic141.res) (st0 G2 true args) := by
  unfold cMacR at h
  split at h
  · rename_i n n' k m m' b
    obtain ⟨hq, h1, h⟩ := h
    cases h
    have hq : n ≤ 140737488355256 := hq
    have h1 : m ≤ 140737488351232 := h1
    obtain ⟨⟨hn, ⟨rfl, _⟩, hk⟩, ⟨hm, ⟨rfl, _⟩, hb⟩, _⟩ := hok
    refine ⟨rfl, by decide, ?_⟩
    have sk : subL k 0 n' = k := subL_all (Nat.le_of_eq hk.1)
    have sb : subL b 0 m' = b := subL_all (Nat.le_of_eq hb.1)
    by_cases hc : 64 < n'
    · refine ⟨aMacB apf k m' b, ?_⟩
      show run apf _ _ _ _ (st0 [(0, .ints .u32 64 kk), (1, .ints .u32 64 kk)] _ _)
      generalize hK : kk = K
      generalize hap : apf = ap
      cbv
      refine ⟨?_, fun hlt => ?_, fun hge => ?_⟩
      rotate_right 1
      · exfalso
        have : (n' : Int) ≤ (64 : Int) := by subst hap; exact gtr_f hge
        omega
      · subst hap; exact show 1 * 64 ≤ 140737488355328 by omega
      · cbv
        refine ⟨?_, ?_, ⟨0, Nat.zero_le _, ?_⟩, ?_⟩
        · subst hap; exact show 0 + n' ≤ n' by omega
        · subst hap; exact show n' ≤ 140737488355256 from hq
        · cbv
          subst hap
          simp only [apf, eqN, eqI', eqL', lenI, Int.natCast_zero, sk]
          and_intros
          all_goals first
            | exact True.intro
            | rw [cpL_zero]
            | rfl
        · intro (i : Nat) hi _ _
          have hi : i ≤ 32 := hi
          cbv
          refine ⟨fun hlt1 => ?_, fun hge1 => ?_⟩
          · have c0 : i < 32 := by
              have : (i : Int) < ((32 : Nat) : Int) := by subst hap; exact lss_t hlt1
              omega
            have c1 : i + 1 ≤ 32 := by omega
            have c2 : 32 - (i + 1) < 32 - i := by omega
            cbv
            and_intros
            any_goals (refine ⟨i + 1, c1, c2, ?_⟩; cbv; and_intros)
            all_goals subst hap
            all_goals have inc : wadd .i64 (i : Int) 1 = ((i + 1 : Nat) : Int) := inc_i64 (by omega)
            all_goals try simp only [apf, ltN, natI, addN, eqN, eqI', eqL', arF, lenI, inc, Int.toNat_natCast, Nat.zero_add]
            all_goals try omega
            exact (cpL_set (by rw [digest_len]; exact c0) (by omega)).symm
          · have c0 : i = 32 := by
              have : ((32 : Nat) : Int) ≤ (i : Int) := by subst hap; exact lss_f hge1
              omega
            cbv
            refine ⟨⟨(0, []), Nat.zero_le _, ?_⟩, ?_⟩
            · cbv
              subst hap
              simp only [apf, eqN, eqI', eqL']
              have e : keyL k = cpL (digest k) i := by
                have e2 := cpL_end (s := digest k)
                rw [digest_len] at e2
                rw [c0, e2, keyL, shortL, if_pos (by rw [hk.1]; exact hc), digest_len]
              rw [e]
              and_intros
              all_goals first
                | exact True.intro
                | rfl
            · intro (x : Nat × List (Nat × Nat)) hp _ _
              obtain ⟨i, r⟩ := x
              have hp : i ≤ 64 := hp
              cases i with
              | zero =>
                cbv
                and_intros
                any_goals (refine ⟨(1, [(8001, 45), (8002, 53)]), show 1 ≤ 64 by omega, show 64 - 1 < 64 - 0 by omega, ?_⟩; cbv; and_intros)
                all_goals subst hap
                all_goals try simp only [apf, ltN, leN, addN, appN, V.cnt, eqN, eqI', eqL', arF, lenI, Nat.zero_add]
                all_goals try omega
                all_goals first
                  | rfl
                  | exact xm_first (by rw [keyL_len]; omega)
              | succ i =>
                cbv
                refine ⟨fun hlt2 => ?_, fun hge2 => ?_⟩
                · have c0 : i + 1 < 64 := by
                    have : ((i + 1 : Nat) : Int) < 64 := by subst hap; exact lss_t hlt2
                    omega
                  have c1 : i + 1 + 1 ≤ 64 := by omega
                  have c2 : 64 - (i + 1 + 1) < 64 - (i + 1) := by omega
                  cbv
                  and_intros
                  any_goals (refine ⟨(i + 1 + 1, [(8001, 45), (8002, 53)]), c1, c2, ?_⟩; cbv; and_intros)
                  all_goals subst hap
                  all_goals have inc : wadd .i64 ((i + 1 : Nat) : Int) 1 = ((i + 1 + 1 : Nat) : Int) := inc_i64 (by omega)
                  all_goals try simp only [apf, ltN, leN, natI, addN, appN, V.cnt, eqN, eqI', eqL', arF, lenI, inc, Int.toNat_natCast, Nat.zero_add]
                  all_goals clear inc
                  all_goals try omega
                  all_goals exact xm_step (by rw [keyL_len]; exact c0)
                · have c0 : i + 1 = 64 := by
                    have : 64 ≤ ((i + 1 : Nat) : Int) := by subst hap; exact lss_f hge2
                    omega
                  obtain rfl : i = 63 := by omega
                  cbv
                  and_intros
                  all_goals subst hap
                  all_goals try simp only [apf, leN, addN, appN, V.cnt, eqN, Nat.zero_add]
                  all_goals try omega
                  show macS k b = digest (subL (catL (subL (xm (keyL k) 92 64) 0 64) (subL (digest (subL (catL (subL (xm (keyL k) 54 64) 0 64) (subL b 0 m')) 0 (64 + m'))) 0 32)) 0 (64 + 32))
                  rw [xm_end, xm_end, sb, subL_all (Nat.le_of_eq (padX_len k 92)), subL_all (Nat.le_of_eq (padX_len k 54)), catL, catL, subL_all (b := padX k 54 ++ b) (by rw [List.length_append, padX_len, hb.1]; exact Nat.le_refl _), subL_all (b := digest _) (Nat.le_of_eq (digest_len _)), subL_all (b := padX k 92 ++ digest _) (by rw [List.length_append, padX_len, digest_len]; exact Nat.le_refl _)]
                  rfl
    · refine ⟨aMacS apf n' k m' b, ?_⟩
      show run apf _ _ _ _ (st0 [(0, .ints .u32 64 kk), (1, .ints .u32 64 kk)] _ _)
      generalize hK : kk = K
      generalize hap : apf = ap
      cbv
      refine ⟨?_, fun hlt => ?_, fun hge => ?_⟩
      · subst hap; exact show 1 * 64 ≤ 140737488355328 by omega
      · exfalso
        have : (64 : Int) < (n' : Int) := by subst hap; exact gtr_t hlt
        omega
      · cbv
        refine ⟨⟨0, Nat.zero_le _, ?_⟩, ?_⟩
        · cbv
          subst hap
          simp only [apf, eqN, eqI', eqL', lenI, Int.natCast_zero]
          and_intros
          all_goals first
            | exact True.intro
            | rw [cpL_zero]
            | rfl
        · intro (i : Nat) hi _ _
          have hi : i ≤ n' := hi
          cbv
          refine ⟨fun hlt1 => ?_, fun hge1 => ?_⟩
          · have c0 : i < n' := by
              have : (i : Int) < (n' : Int) := by subst hap; exact lss_t hlt1
              omega
            have c1 : i + 1 ≤ n' := by omega
            have c2 : n' - (i + 1) < n' - i := by omega
            cbv
            and_intros
            any_goals (refine ⟨i + 1, c1, c2, ?_⟩; cbv; and_intros)
            all_goals subst hap
            all_goals have inc : wadd .i64 (i : Int) 1 = ((i + 1 : Nat) : Int) := inc_i64 (by omega)
            all_goals try simp only [apf, ltN, natI, addN, eqN, eqI', eqL', arF, lenI, inc, Int.toNat_natCast, Nat.zero_add]
            all_goals try omega
            exact (cpL_set (by rw [hk.1]; exact c0) (by omega)).symm
          · have c0 : i = n' := by
              have : (n' : Int) ≤ (i : Int) := by subst hap; exact lss_f hge1
              omega
            cbv
            refine ⟨⟨(0, []), Nat.zero_le _, ?_⟩, ?_⟩
            · cbv
              subst hap
              simp only [apf, eqN, eqI', eqL']
              have e : keyL k = cpL k i := by rw [c0, keyL, shortL, if_neg (by rw [hk.1]; exact hc), ← hk.1, cpL_end]
              rw [e]
              and_intros
              all_goals first
                | exact True.intro
                | rfl
            · intro (x : Nat × List (Nat × Nat)) hp _ _
              obtain ⟨i, r⟩ := x
              have hp : i ≤ 64 := hp
              cases i with
              | zero =>
                cbv
                and_intros
                any_goals (refine ⟨(1, [(8001, 45), (8002, 53)]), show 1 ≤ 64 by omega, show 64 - 1 < 64 - 0 by omega, ?_⟩; cbv; and_intros)
                all_goals subst hap
                all_goals try simp only [apf, ltN, leN, addN, appN, V.cnt, eqN, eqI', eqL', arF, lenI, Nat.zero_add]
                all_goals try omega
                all_goals first
                  | rfl
                  | exact xm_first (by rw [keyL_len]; omega)
              | succ i =>
                cbv
                refine ⟨fun hlt2 => ?_, fun hge2 => ?_⟩
                · have c0 : i + 1 < 64 := by
                    have : ((i + 1 : Nat) : Int) < 64 := by subst hap; exact lss_t hlt2
                    omega
                  have c1 : i + 1 + 1 ≤ 64 := by omega
                  have c2 : 64 - (i + 1 + 1) < 64 - (i + 1) := by omega
                  cbv
                  and_intros
                  any_goals (refine ⟨(i + 1 + 1, [(8001, 45), (8002, 53)]), c1, c2, ?_⟩; cbv; and_intros)
                  all_goals subst hap
                  all_goals have inc : wadd .i64 ((i + 1 : Nat) : Int) 1 = ((i + 1 + 1 : Nat) : Int) := inc_i64 (by omega)
                  all_goals try simp only [apf, ltN, leN, natI, addN, appN, V.cnt, eqN, eqI', eqL', arF, lenI, inc, Int.toNat_natCast, Nat.zero_add]
                  all_goals clear inc
                  all_goals try omega
                  all_goals exact xm_step (by rw [keyL_len]; exact c0)
                · have c0 : i + 1 = 64 := by
                    have : 64 ≤ ((i + 1 : Nat) : Int) := by subst hap; exact lss_f hge2
                    omega
                  obtain rfl : i = 63 := by omega
                  cbv
                  and_intros
                  all_goals subst hap
                  all_goals try simp only [apf, leN, addN, appN, V.cnt, eqN, Nat.zero_add]
                  all_goals try omega
                  show macS k b = digest (subL (catL (subL (xm (keyL k) 92 64) 0 64) (subL (digest (subL (catL (subL (xm (keyL k) 54 64) 0 64) (subL b 0 m')) 0 (64 + m'))) 0 32)) 0 (64 + 32))
                  rw [xm_end, xm_end, sb, subL_all (Nat.le_of_eq (padX_len k 92)), subL_all (Nat.le_of_eq (padX_len k 54)), catL, catL, subL_all (b := padX k 54 ++ b) (by rw [List.length_append, padX_len, hb.1]; exact Nat.le_refl _), subL_all (b := digest _) (Nat.le_of_eq (digest_len _)), subL_all (b := padX k 92 ++ digest _) (by rw [List.length_append, padX_len, digest_len]; exact Nat.le_refl _)]
                  rfl
  · exact h.elim
theorem s141 : Sound Tryd.prog G2 141 (pu 141) (cMacR apf) := fn_sound rfl Tryd.call141 ok141 co141 (env_cons s80 env_nil) vc141
end Go.Cx.Rb

/- The laws 'MacMacs' and 'MacKeys' return true. -/
namespace Go.Cx.Rb
open Go Go.Cx Go.Proofs

theorem s120' : Sound Tryd.prog G2 120 (pu 120) (cMac apf) := s120.more g12

def cMacMacs (ap : AP) : Ctr
  | [.b n 1 (.ints .u8 _ _), .b m 1 (.ints .u8 _ _)] => .chk (ap _ _ (ap _ _ leN n) 140737488351232) <| .chk (ap _ _ (ap _ _ leN m) 140737488351232) (.ok ⟨.tt, [], []⟩)
  | _ => .fail 230

def remR (n : Int) : Int := wcv .i64 (wrem .u64 (wcv .u64 n) 65)
theorem remR_le (n : Int) : remR n ≤ 64 := by
  have h0 : 0 ≤ wcv .u64 n := by simp only [wcv, u64_emod]; omega
  obtain ⟨k, hk⟩ := Int.eq_ofNat_of_zero_le h0
  have e : wrem .u64 (wcv .u64 n) 65 = ((k % 65 : Nat) : Int) := by rw [hk]; rfl
  rw [remR, e, wcv_i64 (by omega)]; omega
def kz (k : List Int) (z : Nat) : List Int := k ++ List.replicate z 0
theorem kz_zero {k : List Int} : kz k 0 = k := List.append_nil k
theorem kz_len (k : List Int) (z : Nat) : (kz k z).length = k.length + z := by simp [kz]
theorem kz_next (k : List Int) (z : Nat) : kz k z ++ [0] = kz k (z + 1) := by simp [kz, List.replicate_succ']
theorem mac_kz {k b : List Int} {z : Nat} (h : k.length + z ≤ 64) : macS (kz k z) b = macS k b := by
  have e : keyL (kz k z) = keyL k := by
    have h1 : shortL (kz k z) = kz k z := by rw [shortL, if_neg (by rw [kz_len]; omega)]
    have h2 : shortL k = k := by rw [shortL, if_neg (by omega)]
    rw [keyL, keyL, h1, h2, kz_len, kz, List.append_assoc, List.replicate_append_replicate]
    congr 2
    omega
  simp only [macS, padX, e]
theorem mac_dig {k b : List Int} (h : 64 < k.length) : macS (digest k) b = macS k b := by
  have e : keyL (digest k) = keyL k := by
    have h1 : shortL (digest k) = digest k := by rw [shortL, if_neg (by rw [digest_len]; omega)]
    have h2 : shortL k = digest k := by rw [shortL, if_pos h]
    rw [keyL, keyL, h1, h2]
  simp only [macS, padX, e]

def cMacKeys (ap : AP) : Ctr
  | [.b n 1 (.ints .u8 _ _), .b m 1 (.ints .u8 _ _), .v (.int .i64 _)] => .chk (ap _ _ (ap _ _ leN n) 140737488351232) <| .chk (ap _ _ (ap _ _ leN m) 140737488351232) (.ok ⟨.tt, [], []⟩)
  | _ => .fail 231

def aMacKeys (ap : AP) (n : Nat) (k : List Int) (m : Nat) (b : List Int) (nn : Int) : List (Nat × Ann) := [
  (0, .inv (Nat × Nat × List (Nat × Nat)) (fun x => ⟨[(1, .sl (parH 1) [] 0 m 1 none), (7, .ptr 7 []), (9, .sl 8001 [] 0 (ap _ _ (ap _ _ addN n) x.2.1) 1 none), (31, .int .i64 (ap _ _ remR nn)), (32, .int .i64 (ap _ _ lenI x.1))],
    [(parH 1, ⟨.bor, .ints .u8 m b⟩), (7, ⟨.own, .ints .u8 32 (ap _ _ (ap _ _ macS k) b)⟩), (8001, ⟨.own, .ints .u8 (ap _ _ (ap _ _ addN n) x.2.1) (ap _ _ (ap _ _ kz k) x.2.1)⟩)], x.2.2⟩)
    (fun x => x.1 ≤ 65 ∧ n + x.2.1 ≤ 64) (fun x => 65 - x.1))]

end Go.Cx.Rb
