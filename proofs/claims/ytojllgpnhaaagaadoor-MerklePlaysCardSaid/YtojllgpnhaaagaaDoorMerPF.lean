/-
  What the laws of this claim stand on, part F: proved parts, no statement of its own.
-/
import Derived.Test.YtojllgpnhaaagaaDoorMerPE
/- CxbF1 -/
namespace Go.Cx.Rb
open Go Go.Cx Go.Proofs
abbrev G1 : List (Nat × V) := [(1, .ints .u32 64 kk)]
def rotK : List Int := [-7, -18, -17, -19, -6, -11, -25, -2, -13, -22]
def cRot (ap : AP) : Ctr
  | [.v (.int .u32 x), .v (.lit .i64 k)] => rif (rotK.contains k) 200 (.ok ⟨.int .u32 (ap _ _ (ap _ _ rr x) (-k)), [], []⟩)
  | _ => .fail 200
theorem vc161 (args : List Arg) (out : Out) (h : (cRot apf args).to out) (hok : okAs args) : args.length = ic161.nargs ∧ ic161.nargs ≤ ic161.ntmps ∧ ∃ A, run apf [] A ic161.body (fnQ apf args out ic161.res) (st0 G1 true args) := by
  unfold cRot at h
  split at h
  · rename_i x k
    obtain ⟨hk, h⟩ := rif_to h
    cases h
    refine ⟨rfl, by decide, [], ?_⟩
    simp only [rotK, List.contains_cons, List.contains_nil, Bool.or_false, Bool.or_eq_true, beq_iff_eq] at hk
    rcases hk with rfl | rfl | rfl | rfl | rfl | rfl | rfl | rfl | rfl | rfl <;>
    · generalize hap : apf = ap
      cbv
      subst hap
      refine ⟨?_, trivial⟩
      simp only [apf, eqI', rr, arF]
      rw [bor_comm]
      rfl
  · exact h.elim
theorem s161 : Sound Tryd.prog G1 161 (pu 161) (cRot apf) := fn_sound (E := []) rfl Tryd.call161 ok161 co161 (fun _ _ _ h => by cases h) vc161
/-- 'word' -/
def ge0 (x : Int) : Prop := 0 ≤ x
def fits (x : Int) (m n : Nat) : Prop := x.toNat + m ≤ n
def cWord (ap : AP) : Ctr
  | [.b n 1 (.ints .u8 _ b), .v (.int .i64 x)] => .chk (ap _ _ ge0 x) (.chk (ap _ _ (ap _ _ (ap _ _ fits x) 4) n) (.ok ⟨.int .u32 (ap _ _ (ap _ _ wordS b) (ap _ _ natI x)), [], []⟩))
  | _ => .fail 201
theorem vc163 (args : List Arg) (out : Out) (h : (cWord apf args).to out) (hok : okAs args) : args.length = ic163.nargs ∧ ic163.nargs ≤ ic163.ntmps ∧ ∃ A, run apf [] A ic163.body (fnQ apf args out ic163.res) (st0 G1 true args) := by
  unfold cWord at h
  split at h
  · rename_i n m b x
    obtain ⟨h1, h2, h⟩ := h
    cases h
    have h1 : 0 ≤ x := h1
    have h2 : x.toNat + 4 ≤ n := h2
    obtain ⟨⟨hn, ⟨rfl, _⟩, hb⟩, _⟩ := hok
    refine ⟨rfl, by decide, [], ?_⟩
    generalize hap : apf = ap
    cbv
    subst hap
    have a1 : wadd .i64 x 1 = x + 1 := wadd_i64 (by omega)
    have a2 : wadd .i64 x 2 = x + 2 := wadd_i64 (by omega)
    have a3 : wadd .i64 x 3 = x + 3 := wadd_i64 (by omega)
    have e1 : (x + 1).toNat = x.toNat + 1 := by omega
    have e2 : (x + 2).toNat = x.toNat + 2 := by omega
    have e3 : (x + 3).toNat = x.toNat + 3 := by omega
    simp only [apf, ltN, addN, natI, arF, a1, a2, a3, eqI', e1, e2, e3, Nat.zero_add]
    refine ⟨h1, ?_, ?_, ?_, ?_, ?_, ?_, ?_, ?_, ?_, ?_, ?_, rfl, trivial⟩ <;> omega
  · exact h.elim
theorem s163 : Sound Tryd.prog G1 163 (pu 163) (cWord apf) := fn_sound (E := []) rfl Tryd.call163 ok163 co163 (fun _ _ _ h => by cases h) vc163
/-- 'schedule' -/
def schedW (b : List Int) : List Int := schedL b 64
def cSched (ap : AP) : Ctr
  | [.b n 1 (.ints .u8 _ b)] => .chk (ap _ _ (ap _ _ leN 64) n) (.ok ⟨.ints .u32 64 (ap _ _ schedW b), [], []⟩)
  | _ => .fail 202
def zs (m : Nat) : List Int := List.replicate m 0
def fill (b : List Int) (i : Nat) : List Int := schedL b i ++ zs (64 - i)
theorem schedL_len (b : List Int) : ∀ i, (schedL b i).length = i
  | 0 => rfl
  | i + 1 => by simp [schedL, schedL_len b i]
theorem fill_set {b : List Int} {i : Nat} {x : Int} (h : i < 64) (hx : x = if i < 16 then wordS b (4 * i) else mix (schedL b i) i) : setI (fill b i) i x = fill b (i + 1) := by
  subst hx
  rw [fill, zs, setI_fill (schedL_len b i) (by omega)]
  simp only [fill, zs, schedL]
  congr 2
theorem fill_get {b : List Int} {i j : Nat} (h : j < i) : nthI (fill b i) j = nthI (schedL b i) j := nthI_app_lt (by rw [schedL_len]; exact h)
def aSched (ap : AP) (m : Nat) (l : List Int) : List (Nat × Ann) := [
  (0, .inv Nat (fun i => { ts := [(0, .sl (parH 0) [] 0 m 1 none), (2, .ptr 2 []), (3, .ptr 3 []), (10, .int .i64 (ap _ _ lenI i))], hs := [(parH 0, ⟨.bor, .ints .u8 m l⟩), (2, ⟨.own, .ints .u32 64 (ap _ _ zs 64)⟩), (3, ⟨.own, .ints .u32 64 (ap _ _ (ap _ _ fill l) i)⟩)] }) (fun i => i ≤ 16) (fun i => 16 - i)),
  (1, .inv Nat (fun i => { ts := [(2, .ptr 2 []), (3, .ptr 3 []), (5, .int .i64 (ap _ _ lenI i))], hs := [(2, ⟨.own, .ints .u32 64 (ap _ _ zs 64)⟩), (3, ⟨.own, .ints .u32 64 (ap _ _ (ap _ _ fill l) i)⟩)] }) (fun i => 16 ≤ i ∧ i ≤ 64) (fun i => 64 - i))]
theorem vc160 (args : List Arg) (out : Out) (h : (cSched apf args).to out) (hok : okAs args) :
    args.length = ic160.nargs ∧ ic160.nargs ≤ ic160.ntmps ∧ ∃ A, run apf [(161, cRot apf), (163, cWord apf)] A ic160.body (fnQ apf args out ic160.res) (st0 G1 true args) := by
  unfold cSched at h
  split at h
  · rename_i n m b
    obtain ⟨h1, h⟩ := h
    cases h
    have h1 : 64 ≤ n := h1
    obtain ⟨⟨hn, ⟨rfl, _⟩, hb⟩, _⟩ := hok
    refine ⟨rfl, by decide, aSched apf m b, ?_⟩
    generalize hap : apf = ap
    cbv
    refine ⟨⟨0, Nat.zero_le _, ?_⟩, ?_⟩
    · cbv
      subst hap
      exact ⟨rfl, rfl, rfl, rfl, rfl, rfl, rfl, rfl, rfl, trivial⟩
    · intro (i : Nat) hi _ _
      have hi : i ≤ 16 := hi
      cbv
      refine ⟨fun hlt => ?_, fun hge => ?_⟩
      · have b0 : i < 16 := by
          have : (i : Int) < 16 := by subst hap; exact lss_t hlt
          omega
        have b1 : i + 1 ≤ 16 := by omega
        have b2 : 16 - (i + 1) < 16 - i := by omega
        cbv
        refine ⟨?_, ?_, ?_, ?_, ?_, ?_, i + 1, b1, b2, ?_⟩
        rotate_right 1
        · cbv
          subst hap
          have a1 : wmul .i64 4 (i : Int) = 4 * (i : Int) := wmul_i64 (by omega)
          refine ⟨rfl, rfl, (wadd_i64 (x := i) (y := 1) (by omega)).symm, rfl, rfl, rfl, rfl, rfl, ?_, trivial⟩
          refine (fill_set (by omega) ?_).symm
          rw [if_pos (by omega)]
          have e : (4 * (i : Int)).toNat = 4 * i := by omega
          show wordS (subL b 0 m) (wmul .i64 4 (i : Int)).toNat = _
          rw [a1, e, subL, List.drop_zero, List.take_of_length_le (by rw [hb.1]; omega)]
        all_goals subst hap
        all_goals have a1 : wmul .i64 4 (i : Int) = 4 * (i : Int) := wmul_i64 (by omega)
        all_goals simp only [apf, ltN, leN, addN, natI, lenI, ge0, fits, arF, a1, V.cnt, Nat.zero_add, Int.toNat_natCast]
        all_goals omega
      · have hge : i = 16 := by
          have : 16 ≤ (i : Int) := by subst hap; exact lss_f hge
          omega
        subst hge
        cbv
        refine ⟨⟨16, ⟨by omega, by omega⟩, ?_⟩, ?_⟩
        · cbv
          subst hap
          exact ⟨rfl, rfl, rfl, rfl, rfl, trivial⟩
        · intro (i : Nat) hi _ _
          have hi : 16 ≤ i ∧ i ≤ 64 := hi
          cbv
          refine ⟨fun hlt => ?_, fun hge => ?_⟩
          · have b0 : i < 64 := by
              have : (i : Int) < 64 := by subst hap; exact lss_t hlt
              omega
            have b1 : 16 ≤ i + 1 ∧ i + 1 ≤ 64 := by omega
            have b2 : 64 - (i + 1) < 64 - i := by omega
            cbv
            refine ⟨?_, ?_, ?_, ?_, ?_, ?_, ?_, ?_, ?_, ?_, ?_, ?_, ?_, ?_, ?_, i + 1, b1, b2, ?_⟩
            all_goals have a1 : wsub .i64 (i : Int) 15 = (i : Int) - 15 := wsub_i64 (by omega)
            all_goals have a2 : wsub .i64 (i : Int) 2 = (i : Int) - 2 := wsub_i64 (by omega)
            all_goals have a3 : wsub .i64 (i : Int) 16 = (i : Int) - 16 := wsub_i64 (by omega)
            all_goals have a4 : wsub .i64 (i : Int) 7 = (i : Int) - 7 := wsub_i64 (by omega)
            rotate_right 1
            · cbv
              subst hap
              refine ⟨(wadd_i64 (x := i) (y := 1) (by omega)).symm, rfl, rfl, rfl, ?_, trivial⟩
              refine (fill_set (by omega) ?_).symm
              rw [if_neg (by omega)]
              have e1 : ((i : Int) - 15).toNat = i - 15 := by omega
              have e2 : ((i : Int) - 2).toNat = i - 2 := by omega
              have e3 : ((i : Int) - 16).toNat = i - 16 := by omega
              have e4 : ((i : Int) - 7).toNat = i - 7 := by omega
              simp only [apf, arF, natI, lenI]
              rw [a1, a2, a3, a4, e1, e2, e3, e4, fill_get (by omega), fill_get (by omega), fill_get (by omega), fill_get (by omega)]
              rfl
            all_goals subst hap
            all_goals simp only [apf, ltN, natI, lenI, arF, a1, a2, a3, a4, Int.toNat_natCast]
            all_goals omega
          · have hge : i = 64 := by
              have : 64 ≤ (i : Int) := by subst hap; exact lss_f hge
              omega
            subst hge
            cbv
            subst hap
            exact ⟨rfl, by simp [apf, eqL', schedW, fill, zs], trivial⟩
  · exact h.elim
theorem s160 : Sound Tryd.prog G1 160 (pu 160) (cSched apf) := fn_sound rfl Tryd.call160 ok160 co160 (fun f c _ h => by
  simp only [look] at h
  split at h
  · rename_i e; cases h; cases e; exact s161
  · split at h
    · rename_i e; cases h; cases e; exact s163
    · cases h) vc160
end Go.Cx.Rb
/- CxbF2 -/
namespace Go.Cx.Rb
open Go Go.Cx Go.Proofs
def cPiece (ap : AP) : Ctr
  | [.v (.ints .u32 8 h), .b n 1 (.ints .u8 _ b)] => .chk (ap _ _ (ap _ _ leN 64) n) (.ok ⟨.ints .u32 8 (ap _ _ (ap _ _ piece h) b), [], []⟩)
  | _ => .fail 203
def addP (h v : List Int) (i : Nat) : List Int := ((List.range i).map fun j => wadd .u32 (nthI h j) (nthI v j)) ++ h.drop i
theorem addP_get {h v : List Int} {i : Nat} : nthI (addP h v i) i = nthI h i := by
  have : nthI (addP h v i) i = nthI (h.drop i) 0 := by
    simp only [addP, nthI, List.getD_eq_getElem?_getD]
    rw [List.getElem?_append_right (by simp)]
    simp
  rw [this, nthI_drop]; rfl
theorem addP_set {h v : List Int} {i : Nat} (hi : i < h.length) : setI (addP h v i) i (wadd .u32 (nthI h i) (nthI v i)) = addP h v (i + 1) := by
  simp only [addP, setI, List.range_succ, List.map_append, List.map_cons, List.map_nil, List.append_assoc]
  rw [List.set_append_right _ _ (by simp)]
  simp only [List.length_map, List.length_range, Nat.sub_self]
  congr 1
  rw [List.drop_eq_getElem_cons hi]
  rfl
theorem addP_end {h v : List Int} (hi : h.length = 8) : addP h v 8 = addL h v := by
  simp [addP, addL, List.drop_of_length_le, hi]
def aPiece (ap : AP) (K h w v : List Int) : List (Nat × Ann) := [
  (0, .inv Nat (fun i => ⟨[(2, .ptr 2 []), (4, .ptr 4 []), (5, .ptr 5 []), (6, .ptr 6 []), (16, .int .i64 (ap _ _ lenI i))],
      [(globH 1, ⟨.imm, .ints .u32 64 K⟩), (2, ⟨.own, .ints .u32 8 h⟩), (4, ⟨.own, .ints .u32 8 (ap _ _ zs 8)⟩), (5, ⟨.own, .ints .u32 64 w⟩), (6, ⟨.own, .ints .u32 8 (ap _ _ (ap _ _ (ap _ _ rndL h) w) i)⟩)], []⟩) (fun i => i ≤ 64) (fun i => 64 - i)),
  (1, .inv Nat (fun i => ⟨[(2, .ptr 2 []), (4, .ptr 4 []), (6, .ptr 6 []), (98, .int .i64 (ap _ _ lenI i))],
      [(2, ⟨.own, .ints .u32 8 (ap _ _ (ap _ _ (ap _ _ addP h) v) i)⟩), (4, ⟨.own, .ints .u32 8 (ap _ _ zs 8)⟩), (6, ⟨.own, .ints .u32 8 v⟩)], []⟩) (fun i => i ≤ 8) (fun i => 8 - i))]
theorem vc152 (args : List Arg) (out : Out) (h : (cPiece apf args).to out) (hok : okAs args) :
    args.length = ic152.nargs ∧ ic152.nargs ≤ ic152.ntmps ∧ ∃ A, run apf [(161, cRot apf), (160, cSched apf)] A ic152.body (fnQ apf args out ic152.res) (st0 G1 true args) := by
  unfold cPiece at h
  split at h
  · rename_i hh n m b
    obtain ⟨h1, h⟩ := h
    cases h
    obtain ⟨⟨hl, _⟩, ⟨hn, ⟨rfl, _⟩, hb⟩, _⟩ := hok
    refine ⟨rfl, by decide, aPiece apf kk hh (apf _ _ schedW b) (apf _ _ (apf _ _ (apf _ _ rndL hh) (apf _ _ schedW b)) 64), ?_⟩
    show run apf _ _ _ _ (st0 [(1, .ints .u32 64 kk)] _ _)
    generalize hK : kk = K
    generalize hap : apf = ap
    cbv
    refine ⟨?_, ?_, ⟨0, Nat.zero_le _, ?_⟩, ?_⟩
    · subst hap; simp only [apf, leN, addN, V.cnt, Nat.zero_add]; exact Nat.le_refl _
    · subst hap; exact h1
    · cbv
      subst hap
      simp only [apf, eqN, eqI', eqL', lenI, rndL, subL_all (Nat.le_of_eq hb.1)]
      and_intros <;> first | trivial | rfl
    · intro (i : Nat) hi _ _
      have hi : i ≤ 64 := hi
      cbv
      refine ⟨fun hlt => ?_, fun hge => ?_⟩
      · have b0 : i < 64 := by
          have : (i : Int) < 64 := by subst hap; exact lss_t hlt
          omega
        have b1 : i + 1 ≤ 64 := by omega
        have b2 : 64 - (i + 1) < 64 - i := by omega
        cbv
        and_intros
        any_goals (refine ⟨i + 1, b1, b2, ?_⟩; cbv; and_intros)
        all_goals subst hap
        all_goals have inc : wadd .i64 (i : Int) 1 = ((i + 1 : Nat) : Int) := inc_i64 (by omega)
        all_goals try simp only [apf, ltN, natI, lenI, arF, eqI', eqL', eqN, Int.toNat_natCast, inc]
        all_goals try omega
        subst hK
        simp only [Int.neg_neg]
        rfl
      · have hge : i = 64 := by
          have : 64 ≤ (i : Int) := by subst hap; exact lss_f hge
          omega
        subst hge
        cbv
        refine ⟨⟨0, Nat.zero_le _, ?_⟩, ?_⟩
        · cbv
          subst hap
          simp only [apf, eqN, eqI', eqL', lenI]
          and_intros <;> first | trivial | rfl
        · intro (i : Nat) hi _ _
          have hi : i ≤ 8 := hi
          cbv
          refine ⟨fun hlt => ?_, fun hge => ?_⟩
          · have b0 : i < 8 := by
              have : (i : Int) < 8 := by subst hap; exact lss_t hlt
              omega
            have b1 : i + 1 ≤ 8 := by omega
            have b2 : 8 - (i + 1) < 8 - i := by omega
            cbv
            and_intros
            any_goals (refine ⟨i + 1, b1, b2, ?_⟩; cbv; and_intros)
            all_goals subst hap
            all_goals have inc : wadd .i64 (i : Int) 1 = ((i + 1 : Nat) : Int) := inc_i64 (by omega)
            all_goals try simp only [apf, ltN, natI, lenI, arF, eqI', eqL', eqN, Int.toNat_natCast, inc]
            all_goals try omega
            rw [addP_get]
            exact (addP_set (by omega)).symm
          · have hge : i = 8 := by
              have : 8 ≤ (i : Int) := by subst hap; exact lss_f hge
              omega
            subst hge
            cbv
            subst hap
            simp only [apf, eqN, eqL']
            exact ⟨trivial, (addP_end hl).symm, trivial⟩
  · exact h.elim
theorem s152 : Sound Tryd.prog G1 152 (pu 152) (cPiece apf) := fn_sound rfl Tryd.call152 ok152 co152 (fun f c _ h => by
  simp only [look] at h
  split at h
  · rename_i e; cases h; cases e; exact s161
  · split at h
    · rename_i e; cases h; cases e; exact s160
    · cases h) vc152
end Go.Cx.Rb
/- CxbF3 -/
namespace Go.Cx.Rb
open Go Go.Cx Go.Proofs
def cFirst (_ : AP) : Ctr
  | [] => .ok ⟨.ints .u32 8 iv, [], []⟩
  | _ => .fail 204
theorem vc151 (args : List Arg) (out : Out) (h : (cFirst apf args).to out) (hok : okAs args) :
    args.length = ic151.nargs ∧ ic151.nargs ≤ ic151.ntmps ∧ ∃ A, run apf [] A ic151.body (fnQ apf args out ic151.res) (st0 G1 true args) := by
  unfold cFirst at h
  split at h
  · cases h
    refine ⟨rfl, by decide, [], ?_⟩
    generalize hap : apf = ap
    cbv
    subst hap
    exact ⟨rfl, rfl, trivial⟩
  · exact h.elim
theorem s151 : Sound Tryd.prog G1 151 (pu 151) (cFirst apf) := fn_sound rfl Tryd.call151 ok151 co151 env_nil vc151
def hashV (h : List Int) (n : Nat) (l : List Int) (s : Int) : V := .cat 8 2 (.ints .u32 8 h) (.cat 1 1 (.osl n 1 (.ints .u8 n l)) (.int .u64 s))
def cNew (ap : AP) : Ctr
  | [] => .ok ⟨.ptr 0 [], [], [hashV iv 0 (ap _ _ zs 0) (ap _ _ lenI 0)]⟩
  | _ => .fail 205
theorem vc136 (args : List Arg) (out : Out) (h : (cNew apf args).to out) (hok : okAs args) :
    args.length = ic136.nargs ∧ ic136.nargs ≤ ic136.ntmps ∧ ∃ A, run apf [(151, cFirst apf)] A ic136.body (fnQ apf args out ic136.res) (st0 G1 true args) := by
  unfold cNew at h
  split at h
  · cases h
    refine ⟨rfl, by decide, [], ?_⟩
    generalize hap : apf = ap
    cbv
    subst hap
    exact ⟨rfl, rfl, rfl, rfl, rfl, rfl, trivial⟩
  · exact h.elim
theorem s136 : Sound Tryd.prog G1 136 (pu 136) (cNew apf) := fn_sound rfl Tryd.call136 ok136 co136 (env_cons s151 env_nil) vc136
end Go.Cx.Rb
/- CxbSpec2 -/
namespace Go.Cx.Rb
open Go Go.Cx
theorem wordS_congr {x y : List Int} {i : Nat} (h : ∀ j, j < 64 → nthI x j = nthI y j) (hi : i + 3 < 64) : wordS x i = wordS y i := by
  simp only [wordS, h i (by omega), h (i + 1) (by omega), h (i + 2) (by omega), h (i + 3) (by omega)]
theorem schedL_congr {x y : List Int} (h : ∀ j, j < 64 → nthI x j = nthI y j) : ∀ k, schedL x k = schedL y k
  | 0 => rfl
  | k + 1 => by
    simp only [schedL, schedL_congr h k]
    by_cases hk : k < 16
    · rw [if_pos hk, if_pos hk, wordS_congr h (by omega)]
    · rw [if_neg hk, if_neg hk]
theorem piece_congr {h x y : List Int} (hx : ∀ j, j < 64 → nthI x j = nthI y j) : piece h x = piece h y := by
  simp only [piece, schedL_congr hx]
/-- the words behind more bytes, and what is left of them -/
def addW (h l b : List Int) : List Int := blk h (l ++ b) ((l.length + b.length) / 64)
def addR (l b : List Int) : List Int := (l ++ b).drop (64 * ((l.length + b.length) / 64))
def addM (n m : Nat) : Nat := (n + m) % 64
def addS (s : Int) (m : Nat) : Int := wadd .u64 s (wcv .u64 (m : Int))
/-- the words behind k pieces of these -/
def runW (h l b : List Int) (k : Nat) : List Int := blk h (l ++ b) k
theorem runW_next {h l b : List Int} {k n : Nat} (h1 : l.length ≤ 64 * k) (h2 : 64 ≤ n) : piece (runW h l b k) (subL b (64 * k - l.length) n) = runW h l b (k + 1) := by
  simp only [runW, blk]
  refine piece_congr fun j hj => ?_
  rw [nthI_subL (by omega), nthI_drop, nthI_cat, if_neg (by omega)]
  congr 1
  omega
theorem runW_first {h l b : List Int} {n t : Nat} (h1 : l.length + t = 64) : piece h (subL (catL (subL l 0 l.length) (subL b 0 t)) 0 n) = runW h l b 1 ∨ n < 64 := by
  by_cases hn : n < 64
  · exact .inr hn
  · refine .inl ?_
    simp only [runW, blk]
    refine piece_congr fun j hj => ?_
    rw [nthI_subL (by omega), nthI_drop, catL, subL_all (Nat.le_refl _), nthI_cat, nthI_cat]
    simp only [Nat.zero_add, Nat.mul_zero]
    split
    · rfl
    · rw [nthI_subL (by omega), Nat.zero_add]
theorem addR_few {l b : List Int} (h : l.length + b.length < 64) : addR l b = l ++ b := by
  rw [addR, Nat.div_eq_of_lt h]; rfl
theorem addW_few {h l b : List Int} (h1 : l.length + b.length < 64) : addW h l b = h := by
  rw [addW, Nat.div_eq_of_lt h1]; rfl
theorem addR_end {l b : List Int} {k : Nat} (h1 : l.length ≤ 64 * k) (h2 : 64 * k ≤ l.length + b.length) (h3 : l.length + b.length < 64 * k + 64) : addR l b = subL b (64 * k - l.length) (b.length - (64 * k - l.length)) := by
  have e : (l.length + b.length) / 64 = k := by omega
  rw [addR, e, subL, List.drop_append, List.drop_of_length_le (by omega), List.nil_append, List.take_of_length_le (by simp)]
theorem addW_end {h l b : List Int} {k : Nat} (h2 : 64 * k ≤ l.length + b.length) (h3 : l.length + b.length < 64 * k + 64) : runW h l b k = addW h l b := by
  have e : (l.length + b.length) / 64 = k := by omega
  rw [addW, e, runW]
end Go.Cx.Rb
namespace Go.Cx.Rb
open Go Go.Cx
/-- a byte of the length -/
def lenS (s : Int) (i : Nat) : Int := wcv .u8 (bshr .u64 (wmul .u64 s 8) (56 - 8 * (i : Int)))
def pN (n z : Nat) : Nat := n + (1 + z)
def pL (l : List Int) (z : Nat) : List Int := l ++ 128 :: List.replicate z 0
def qN (n i : Nat) : Nat := n + (1 + (119 - n) % 64) + i
def qL (l : List Int) (s : Int) (i : Nat) : List Int := pL l ((119 - l.length) % 64) ++ (List.range i).map (lenS s)
def endW (h l : List Int) (s : Int) (k : Nat) : List Int := blk h (qL l s 8) k
def digW (h l : List Int) (s : Int) : List Int := outL (blk h (qL l s 8) ((qL l s 8).length / 64))
def outF (h : List Int) (i : Nat) : List Int := (List.range i).map (outB h) ++ List.replicate (32 - i) 0
theorem outF_set {h : List Int} {i : Nat} (hi : i < 32) : setI (outF h i) i (outB h i) = outF h (i + 1) := fillL_set hi rfl
theorem pL_len (l : List Int) (z : Nat) : (pL l z).length = pN l.length z := by simp [pL, pN]; omega
theorem qL_len (l : List Int) (s : Int) (i : Nat) : (qL l s i).length = qN l.length i := by simp [qL, qN, pL_len, pN]
theorem pL_next (l : List Int) (z : Nat) : pL l z ++ [0] = pL l (z + 1) := by simp [pL, List.replicate_succ']
theorem qL_next (l : List Int) (s : Int) (i : Nat) : qL l s i ++ [lenS s i] = qL l s (i + 1) := by simp [qL, List.range_succ]
theorem endW_next {h l : List Int} {s : Int} {k n : Nat} (h2 : 64 ≤ n) : piece (endW h l s k) (subL (qL l s 8) (64 * k) n) = endW h l s (k + 1) := by
  simp only [endW, blk]
  refine piece_congr fun j hj => ?_
  rw [nthI_subL (by omega), nthI_drop]
end Go.Cx.Rb
/- CxbF4 -/
namespace Go.Cx.Rb
open Go Go.Cx Go.Proofs
def cAdd (ap : AP) : Ctr
  | [.o (.cat 8 2 (.ints .u32 8 h) (.cat 1 1 (.osl n 1 (.ints .u8 n' l)) (.int .u64 s))), .b m 1 (.ints .u8 _ b)] =>
    .chk (ap _ _ (ap _ _ eqN n) n') <| .chk (ap _ _ (ap _ _ ltN n) 64) (.ok ⟨.lit .i64 0, [hashV (ap _ _ (ap _ _ (ap _ _ addW h) l) b) (ap _ _ (ap _ _ addM n) m) (ap _ _ (ap _ _ addR l) b) (ap _ _ (ap _ _ addS s) m)], []⟩)
  | [.v .nilp, .b _ 1 (.ints .u8 _ _)] => .ok ⟨.lit .i64 1, [], []⟩
  | _ => .fail 206
def offA (n k : Nat) : Nat := 64 * k - n
def lenA (n m k : Nat) : Nat := m - (64 * k - n)
def aAdd (ap : AP) (h : List Int) (n : Nat) (l : List Int) (m : Nat) (b : List Int) (s : Int) : List (Nat × Ann) := [
  (0, .inv (Nat × List (Nat × Nat) × Nat × List Int) (fun x => ⟨[(0, .ptr (parH 0) []), (1, .sl (parH 1) [] (ap _ _ (ap _ _ offA n) x.1) (ap _ _ (ap _ _ (ap _ _ lenA n) m) x.1) 1 none)],
      [(parH 0, ⟨.own, .cat 8 2 (.ints .u32 8 (ap _ _ (ap _ _ (ap _ _ (ap _ _ runW h) l) b) x.1)) (.cat 1 1 (.sl 50 [] 0 0 1 none) (.int .u64 s))⟩), (50, ⟨.own, .ints .u8 x.2.2.1 x.2.2.2⟩), (parH 1, ⟨.bor, .ints .u8 m b⟩)], x.2.1⟩)
    (fun x => n ≤ 64 * x.1 ∧ 64 * x.1 ≤ n + m) (fun x => n + m - 64 * x.1))]
theorem vc137 (args : List Arg) (out : Out) (h : (cAdd apf args).to out) (hok : okAs args) :
    args.length = ic137.nargs ∧ ic137.nargs ≤ ic137.ntmps ∧ ∃ A, run apf [(152, cPiece apf)] A ic137.body (fnQ apf args out ic137.res) (st0 G1 false args) := by
  unfold cAdd at h
  split at h
  · rename_i hh n n' l s m m' b
    obtain ⟨h0, h1, h⟩ := h
    cases h
    have h0 : n = n' := h0
    subst h0
    have h1 : n < 64 := h1
    obtain ⟨⟨hh8, hl, hs⟩, ⟨hm, ⟨rfl, _⟩, hb⟩, _⟩ := hok
    refine ⟨rfl, by decide, aAdd apf hh n l m' b (apf _ _ (apf _ _ addS s) m'), ?_⟩
    show run apf _ _ _ _ (st0 [(1, .ints .u32 64 kk)] _ _)
    generalize hK : kk = K
    have hmin : minI (wsub .i64 64 (n : Int)) (m' : Int) = ((min (64 - n) m' : Nat) : Int) := by
      rw [wsub_i64 (by omega), minI]
      split <;> omega
    have hmt : apf _ _ natI (apf _ _ (apf _ _ minI (apf _ _ (apf _ _ (arF .sub .i64) 64) (apf _ _ lenI n))) (apf _ _ lenI m')) = min (64 - n) m' := by
      show (minI (wsub .i64 64 (n : Int)) (m' : Int)).toNat = _
      rw [hmin]; simp
    have hm0 : 0 ≤ minI (wsub .i64 64 (n : Int)) (m' : Int) := by rw [hmin]; omega
    clear hmin
    generalize hap : apf = ap at hmt ⊢
    cbv
    refine ⟨fun hlt => ?_, fun hge => ?_⟩
    · have hn0 : 0 < n := by
        have : (0 : Int) < (n : Int) := by subst hap; exact gtr_t hlt
        omega
      cbv
      simp only [hmt]
      generalize ht : min (64 - n) m' = t
      and_intros
      rotate_right 2
      · intro h2
        have h2 : n + t < 64 := by
          have : ((n + t : Nat) : Int) < 64 := by subst hap; exact lss_t h2
          omega
        cbv
        subst hap
        have e1 : t = m' := by omega
        subst e1
        simp only [apf, eqI', eqL', eqN, addN, addM, true_and, and_true]
        have e2 : l.length + b.length < 64 := by rw [hl.1, hb.1]; omega
        have e3 : catL (subL l 0 n) (subL b 0 t) = l ++ b := by rw [catL, subL_all (by rw [hl.1]; omega), subL_all (by rw [hb.1]; omega)]
        rw [e3, addW_few e2, addR_few e2, Nat.mod_eq_of_lt (by omega)]
        have e4 : subL (l ++ b) 0 (n + t) = l ++ b := by
          rw [subL_all]
          rw [List.length_append, hl.1, hb.1]
          exact Nat.le_refl _
        rw [e4]
        and_intros
        all_goals first
          | rfl
          | exact True.intro
          | exact show 0 + (n + t) ≤ n + t by omega
      · intro h2
        have h2 : 64 ≤ n + t := by
          have : 64 ≤ ((n + t : Nat) : Int) := by subst hap; exact lss_f h2
          omega
        cbv
        refine ⟨?_, ?_, ?_, ⟨(1, [(50, 41)], ap _ _ (ap _ _ addN n) t, ap _ _ (ap _ _ catL (ap _ _ (ap _ _ (ap _ _ subL l) 0) n)) (ap _ _ (ap _ _ (ap _ _ subL b) 0) t)), ⟨by omega, by omega⟩, ?_⟩, ?_⟩
        · subst hap; simp only [apf, leN, addN, V.cnt]; omega
        · subst hap; simp only [apf, leN, addN]; omega
        · subst hap; simp only [apf, leN, addN]; omega
        · cbv
          subst hap
          have e := (runW_first (h := hh) (l := l) (b := b) (n := n + t) (t := t) (by rw [hl.1]; omega)).resolve_right (by omega)
          rw [hl.1] at e
          simp only [apf, eqN, eqI', eqL', offA, lenA, subN, addN, addS]
          and_intros
          all_goals first
            | exact True.intro
            | omega
            | exact e.symm
            | rfl
        · intro (x : Nat × List (Nat × Nat) × Nat × List Int) hp _ _
          obtain ⟨k, r, cN, cL⟩ := x
          have hp : n ≤ 64 * k ∧ 64 * k ≤ n + m' := hp
          cbv
          refine ⟨fun hlt2 => ?_, fun hge2 => ?_⟩
          · have b0 : 64 ≤ lenA n m' k := by
              have : 64 ≤ ((lenA n m' k : Nat) : Int) := by subst hap; exact geq_t hlt2
              omega
            have b0' : 64 ≤ m' - (64 * k - n) := b0
            have b1 : n ≤ 64 * (k + 1) ∧ 64 * (k + 1) ≤ n + m' := by omega
            have b2 : n + m' - 64 * (k + 1) < n + m' - 64 * k := by omega
            cbv
            and_intros
            any_goals (refine ⟨(k + 1, [], cN, cL), b1, b2, ?_⟩; cbv; and_intros)
            all_goals subst hap
            all_goals simp only [apf, leN, addN, V.cnt, eqN, eqI', eqL', offA, lenA, subN]
            all_goals try omega
            have e := runW_next (h := hh) (l := l) (b := b) (k := k) (n := m' - (64 * k - n)) (by rw [hl.1]; omega) b0'
            rw [hl.1] at e
            exact e.symm
          · have b0 : lenA n m' k < 64 := by
              have : ((lenA n m' k : Nat) : Int) < 64 := by subst hap; exact geq_f hge2
              omega
            have b0' : m' - (64 * k - n) < 64 := b0
            cbv
            subst hap
            have e1 : l.length ≤ 64 * k := by rw [hl.1]; omega
            have e2 : 64 * k ≤ l.length + b.length := by rw [hl.1, hb.1]; omega
            have e3 : l.length + b.length < 64 * k + 64 := by rw [hl.1, hb.1]; omega
            have g1 := addW_end (h := hh) e2 e3
            have g2 := addR_end e1 e2 e3
            rw [hl.1, hb.1] at g2
            simp only [apf, leN, addN, V.cnt, eqN, eqI', eqL', offA, lenA, appN, addM, addS, Nat.zero_add]
            and_intros
            all_goals first
              | exact True.intro
              | omega
              | exact g1.symm
              | (rw [catL_nil, subL_all (by rw [subL_len (by rw [hb.1]; omega)]; omega)]; exact g2)
              | rfl
      all_goals subst hap
      all_goals simp only [apf, leN, addN, appN, V.cnt]
      all_goals first | exact hm0 | omega
    · have hn0 : n = 0 := by
        have : (n : Int) ≤ 0 := by subst hap; exact gtr_f hge
        omega
      subst hn0
      cbv
      refine ⟨⟨(0, [(50, 9000)], 0, l), ⟨by omega, by omega⟩, ?_⟩, ?_⟩
      · cbv
        subst hap
        simp only [apf, eqN, eqI', eqL', offA, lenA, addS, runW, blk]
        and_intros
        all_goals first
          | exact True.intro
          | omega
          | rfl
      · intro (x : Nat × List (Nat × Nat) × Nat × List Int) hp _ _
        obtain ⟨k, r, cN, cL⟩ := x
        have hp : 0 ≤ 64 * k ∧ 64 * k ≤ 0 + m' := hp
        cbv
        refine ⟨fun hlt2 => ?_, fun hge2 => ?_⟩
        · have b0 : 64 ≤ lenA 0 m' k := by
            have : 64 ≤ ((lenA 0 m' k : Nat) : Int) := by subst hap; exact geq_t hlt2
            omega
          have b0' : 64 ≤ m' - (64 * k - 0) := b0
          have b1 : 0 ≤ 64 * (k + 1) ∧ 64 * (k + 1) ≤ 0 + m' := by omega
          have b2 : 0 + m' - 64 * (k + 1) < 0 + m' - 64 * k := by omega
          cbv
          and_intros
          any_goals (refine ⟨(k + 1, [], cN, cL), b1, b2, ?_⟩; cbv; and_intros)
          all_goals subst hap
          all_goals simp only [apf, leN, addN, V.cnt, eqN, eqI', eqL', offA, lenA, subN]
          all_goals try omega
          have e := runW_next (h := hh) (l := l) (b := b) (k := k) (n := m' - (64 * k - 0)) (by rw [hl.1]; omega) b0'
          rw [hl.1] at e
          exact e.symm
        · have b0 : lenA 0 m' k < 64 := by
            have : ((lenA 0 m' k : Nat) : Int) < 64 := by subst hap; exact geq_f hge2
            omega
          have b0' : m' - (64 * k - 0) < 64 := b0
          cbv
          subst hap
          have e1 : l.length ≤ 64 * k := by rw [hl.1]; omega
          have e2 : 64 * k ≤ l.length + b.length := by rw [hl.1, hb.1]; omega
          have e3 : l.length + b.length < 64 * k + 64 := by rw [hl.1, hb.1]; omega
          have g1 := addW_end (h := hh) e2 e3
          have g2 := addR_end e1 e2 e3
          rw [hl.1, hb.1] at g2
          simp only [apf, leN, addN, V.cnt, eqN, eqI', eqL', offA, lenA, appN, addM, addS, Nat.zero_add]
          and_intros
          all_goals first
            | exact True.intro
            | omega
            | exact g1.symm
            | (rw [catL_nil, subL_all (by rw [subL_len (by rw [hb.1]; omega)]; omega)]; exact g2)
            | rfl
  · cases h
    refine ⟨rfl, by decide, [], ?_⟩
    generalize hap : apf = ap
    cbv
    subst hap
    exact ⟨rfl, trivial⟩
  · exact h.elim
theorem s137 : Sound Tryd.prog G1 137 (pu 137) (cAdd apf) := fn_sound rfl Tryd.call137 ok137 co137 (env_cons s152 env_nil) vc137
end Go.Cx.Rb
/- CxbF5 -/
namespace Go.Cx.Rb
open Go Go.Cx Go.Proofs
def cSum (ap : AP) : Ctr
  | [.o (.cat 8 2 (.ints .u32 8 h) (.cat 1 1 (.osl n 1 (.ints .u8 n' l)) (.int .u64 s)))] => .chk (ap _ _ (ap _ _ eqN n) n') <| .chk (ap _ _ (ap _ _ ltN n) 64)
    (.ok ⟨.tcons (.ints .u8 32 (ap _ _ (ap _ _ (ap _ _ digW h) l) s)) (.tcons (.lit .i64 0) .tnil), [hashV h n l s], []⟩)
  | [.v .nilp] => .ok ⟨.tcons (.ints .u8 32 (ap _ _ zs 32)) (.tcons (.lit .i64 1) .tnil), [], []⟩
  | _ => .fail 207
def off64 (k : Nat) : Nat := 64 * k
def rest64 (N k : Nat) : Nat := N - 64 * k
def aSum (ap : AP) (h : List Int) (n : Nat) (l : List Int) (s : Int) : List (Nat × Ann) := [
  (0, .inv (Nat × List (Nat × Nat)) (fun x => ⟨[(0, .ptr (parH 0) []), (2, .ptr 2 []), (3, .lit .i64 0), (4, .sl 50 [] 0 (ap _ _ (ap _ _ pN n) x.1) 1 none)],
    [(parH 0, ⟨.own, .cat 8 2 (.ints .u32 8 h) (.cat 1 1 (.sl 9000 [] 0 n 1 none) (.int .u64 s))⟩), (9000, ⟨.own, .ints .u8 n l⟩), (2, ⟨.own, .ints .u8 32 (ap _ _ zs 32)⟩), (50, ⟨.own, .ints .u8 (ap _ _ (ap _ _ pN n) x.1) (ap _ _ (ap _ _ pL l) x.1)⟩)], x.2⟩)
    (fun x => x.1 ≤ (119 - n) % 64) (fun x => (119 - n) % 64 - x.1)),
  (1, .inv (Nat × List (Nat × Nat)) (fun x => ⟨[(0, .ptr (parH 0) []), (2, .ptr 2 []), (3, .lit .i64 0), (4, .sl 50 [] 0 (ap _ _ (ap _ _ qN n) x.1) 1 none), (28, .int .i64 (ap _ _ lenI x.1))],
    [(parH 0, ⟨.own, .cat 8 2 (.ints .u32 8 h) (.cat 1 1 (.sl 9000 [] 0 n 1 none) (.int .u64 s))⟩), (9000, ⟨.own, .ints .u8 n l⟩), (2, ⟨.own, .ints .u8 32 (ap _ _ zs 32)⟩), (50, ⟨.own, .ints .u8 (ap _ _ (ap _ _ qN n) x.1) (ap _ _ (ap _ _ (ap _ _ qL l) s) x.1)⟩)], x.2⟩)
    (fun x => x.1 ≤ 8) (fun x => 8 - x.1)),
  (2, .inv Nat (fun k => ⟨[(0, .ptr (parH 0) []), (2, .ptr 2 []), (3, .lit .i64 0), (6, .ptr 6 []), (4, .sl 50 [] (ap _ _ off64 k) (ap _ _ (ap _ _ rest64 (ap _ _ (ap _ _ qN n) 8)) k) 1 none)],
    [(parH 0, ⟨.own, .cat 8 2 (.ints .u32 8 h) (.cat 1 1 (.sl 9000 [] 0 n 1 none) (.int .u64 s))⟩), (9000, ⟨.own, .ints .u8 n l⟩), (2, ⟨.own, .ints .u8 32 (ap _ _ zs 32)⟩), (50, ⟨.own, .ints .u8 (ap _ _ (ap _ _ qN n) 8) (ap _ _ (ap _ _ (ap _ _ qL l) s) 8)⟩),
      (6, ⟨.own, .ints .u32 8 (ap _ _ (ap _ _ (ap _ _ (ap _ _ endW h) l) s) k)⟩)], []⟩)
    (fun k => 64 * k ≤ qN n 8) (fun k => qN n 8 - 64 * k)),
  (3, .inv Nat (fun i => ⟨[(0, .ptr (parH 0) []), (2, .ptr 2 []), (3, .lit .i64 0), (6, .ptr 6 []), (7, .ptr 7 []), (57, .int .i64 (ap _ _ lenI i))],
    [(parH 0, ⟨.own, .cat 8 2 (.ints .u32 8 h) (.cat 1 1 (.sl 9000 [] 0 n 1 none) (.int .u64 s))⟩), (9000, ⟨.own, .ints .u8 n l⟩), (2, ⟨.own, .ints .u8 32 (ap _ _ zs 32)⟩),
      (6, ⟨.own, .ints .u32 8 (ap _ _ (ap _ _ (ap _ _ (ap _ _ endW h) l) s) (qN n 8 / 64))⟩), (7, ⟨.own, .ints .u8 32 (ap _ _ (ap _ _ outF (ap _ _ (ap _ _ (ap _ _ (ap _ _ endW h) l) s) (qN n 8 / 64))) i)⟩)], []⟩)
    (fun i => i ≤ 32) (fun i => 32 - i))]
theorem vc138 (args : List Arg) (out : Out) (h : (cSum apf args).to out) (hok : okAs args) :
    args.length = ic138.nargs ∧ ic138.nargs ≤ ic138.ntmps ∧ ∃ A, run apf [(152, cPiece apf)] A ic138.body (fnQ apf args out ic138.res) (st0 G1 false args) := by
  unfold cSum at h
  split at h
  · rename_i hh n n' l s
    obtain ⟨h0, h1, h⟩ := h
    cases h
    have h0 : n = n' := h0
    subst h0
    have h1 : n < 64 := h1
    obtain ⟨⟨hh8, hl, hs⟩, _⟩ := hok
    refine ⟨rfl, by decide, aSum apf hh n l s, ?_⟩
    show run apf _ _ _ _ (st0 [(1, .ints .u32 64 kk)] _ _)
    generalize hK : kk = K
    generalize hap : apf = ap
    cbv
    and_intros
    any_goals (refine ⟨(0, [(50, 20)]), show 0 ≤ (119 - n) % 64 from Nat.zero_le _, ?_⟩; cbv; and_intros)
    rotate_right 1
    · intro (x : Nat × List (Nat × Nat)) hp _ _
      obtain ⟨z, r⟩ := x
      have hp : z ≤ (119 - n) % 64 := hp
      cbv
      refine ⟨fun hlt => ?_, fun hge => ?_⟩
      · have b0 : ((n + (1 + z)) % 64 : Nat) ≠ 56 := fun e => by
          have : wrem .i64 ((n + (1 + z) : Nat) : Int) 64 ≠ 56 := by subst hap; exact neq_t hlt
          rw [show (64 : Int) = ((64 : Nat) : Int) from rfl, rem_i64, e] at this
          exact this rfl
        have b1 : z + 1 ≤ (119 - n) % 64 := by omega
        have b2 : (119 - n) % 64 - (z + 1) < (119 - n) % 64 - z := by omega
        cbv
        and_intros
        any_goals (refine ⟨(z + 1, [(50, 27)]), b1, b2, ?_⟩; cbv; and_intros)
        all_goals subst hap
        all_goals simp only [apf, leN, addN, V.cnt, eqN, eqI', eqL', appN, pN]
        all_goals try omega
        rw [subL_all (by rw [pL_len, hl.1, pN]; omega), subL_one, catL, pL_next]
      · have b0 : ((n + (1 + z)) % 64 : Nat) = 56 := by
          have : wrem .i64 ((n + (1 + z) : Nat) : Int) 64 = 56 := by subst hap; exact neq_f hge
          rw [show (64 : Int) = ((64 : Nat) : Int) from rfl, rem_i64] at this
          omega
        have b1 : z = (119 - n) % 64 := by omega
        cbv
        and_intros
        any_goals (refine ⟨(0, []), show 0 ≤ 8 from Nat.zero_le _, ?_⟩; cbv; and_intros)
        rotate_right 1
        · intro (x : Nat × List (Nat × Nat)) hp _ _
          obtain ⟨i, r⟩ := x
          have hp : i ≤ 8 := hp
          cbv
          refine ⟨fun hlt => ?_, fun hge => ?_⟩
          · have b0 : i < 8 := by
              have : (i : Int) < 8 := by subst hap; exact lss_t hlt
              omega
            have b1 : i + 1 ≤ 8 := by omega
            have b2 : 8 - (i + 1) < 8 - i := by omega
            cbv
            and_intros
            any_goals (refine ⟨(i + 1, [(50, 43)]), b1, b2, ?_⟩; cbv; and_intros)
            all_goals subst hap
            all_goals have a1 : wmul .i64 8 (i : Int) = 8 * (i : Int) := wmul_i64 (by omega)
            all_goals have a2 : wsub .i64 56 (8 * (i : Int)) = 56 - 8 * (i : Int) := wsub_i64 (by omega)
            all_goals have inc : wadd .i64 (i : Int) 1 = ((i + 1 : Nat) : Int) := inc_i64 (by omega)
            all_goals try simp only [apf, leN, addN, V.cnt, eqN, eqI', eqL', appN, qN, arF, lenI, a1, a2, inc]
            all_goals try omega
            rw [subL_all (by rw [qL_len, hl.1, qN]; omega), subL_one, catL]
            exact (qL_next l s i).symm
          · have b0 : i = 8 := by
              have : 8 ≤ (i : Int) := by subst hap; exact lss_f hge
              omega
            subst b0
            cbv
            and_intros
            any_goals (refine ⟨0, show 64 * 0 ≤ qN n 8 from Nat.zero_le _, ?_⟩; cbv; and_intros)
            rotate_right 1
            · intro (k : Nat) hp _ _
              have hp : 64 * k ≤ qN n 8 := hp
              cbv
              refine ⟨fun hlt => ?_, fun hge => ?_⟩
              · have b0 : 0 < qN n 8 - 64 * k := by
                  have : (0 : Int) < ((qN n 8 - 64 * k : Nat) : Int) := by subst hap; exact gtr_t hlt
                  omega
                have hq : qN n 8 = n + (1 + (119 - n) % 64) + 8 := rfl
                have b1 : 64 * (k + 1) ≤ qN n 8 := by omega
                have b2 : qN n 8 - 64 * (k + 1) < qN n 8 - 64 * k := by omega
                cbv
                and_intros
                any_goals (refine ⟨k + 1, b1, b2, ?_⟩; cbv; and_intros)
                all_goals subst hap
                all_goals try simp only [apf, leN, addN, subN, V.cnt, eqN, eqI', eqL', off64, rest64]
                all_goals try omega
                exact (endW_next (by omega)).symm
              · have b0 : qN n 8 - 64 * k ≤ 0 := by
                  have : ((qN n 8 - 64 * k : Nat) : Int) ≤ 0 := by subst hap; exact gtr_f hge
                  omega
                have b1 : k = qN n 8 / 64 := by omega
                subst b1
                cbv
                refine ⟨⟨0, show 0 ≤ 32 from Nat.zero_le _, ?_⟩, ?_⟩
                · cbv
                  subst hap
                  simp only [apf, eqN, eqI', eqL', lenI]
                  and_intros
                  all_goals first | exact True.intro | rfl
                · intro (i : Nat) hp _ _
                  have hp : i ≤ 32 := hp
                  cbv
                  refine ⟨fun hlt => ?_, fun hge => ?_⟩
                  · have b0 : i < 32 := by
                      have : (i : Int) < 32 := by subst hap; exact lss_t hlt
                      omega
                    have b1 : i + 1 ≤ 32 := by omega
                    have b2 : 32 - (i + 1) < 32 - i := by omega
                    cbv
                    and_intros
                    any_goals (refine ⟨i + 1, b1, b2, ?_⟩; cbv; and_intros)
                    all_goals subst hap
                    all_goals have inc : wadd .i64 (i : Int) 1 = ((i + 1 : Nat) : Int) := inc_i64 (by omega)
                    all_goals have a1 : wquo .i64 (i : Int) 4 = ((i / 4 : Nat) : Int) := quo_i64 (k := 4) (by omega)
                    all_goals have a2 : wrem .i64 (i : Int) 4 = ((i % 4 : Nat) : Int) := rem_i64 (k := 4)
                    all_goals have a3 : wmul .i64 8 ((i % 4 : Nat) : Int) = 8 * ((i % 4 : Nat) : Int) := wmul_i64 (by omega)
                    all_goals have a4 : wsub .i64 24 (8 * ((i % 4 : Nat) : Int)) = 24 - 8 * ((i % 4 : Nat) : Int) := wsub_i64 (by omega)
                    all_goals try simp only [apf, ltN, natI, eqN, eqI', eqL', arF, lenI, inc, a1, a2, a3, a4, Int.toNat_natCast]
                    all_goals try omega
                    exact (outF_set b0).symm
                  · have b0 : i = 32 := by
                      have : 32 ≤ (i : Int) := by subst hap; exact lss_f hge
                      omega
                    subst b0
                    cbv
                    subst hap
                    simp only [apf, eqN, eqI', eqL']
                    have e : digW hh l s = outF (endW hh l s (qN n 8 / 64)) 32 := by
                      rw [digW, qL_len, hl.1, outF, outL]
                      exact (List.append_nil _).symm
                    rw [e]
                    and_intros
                    all_goals first
                      | exact True.intro
                      | rfl
                      | (show 0 + n ≤ n; omega)
                      | exact (subL_all (Nat.le_of_eq hl.1)).symm
            all_goals subst hap
            all_goals try simp only [apf, eqN, eqI', eqL', off64, rest64]
            all_goals try omega
            rfl
        all_goals subst hap
        all_goals try simp only [apf, eqN, eqI', eqL', pN, qN, lenI]
        all_goals try omega
        rw [b1, qL, hl.1]; exact List.append_nil _
    all_goals subst hap
    all_goals try simp only [apf, leN, addN, V.cnt, appN, eqN, eqI', eqL', pN]
    all_goals try omega
    · rfl
    · rw [subL_all (Nat.le_of_eq hl.1), subL_all (Nat.le_of_eq hl.1)]; rfl
  · cases h
    refine ⟨rfl, by decide, [], ?_⟩
    generalize hap : apf = ap
    cbv
    subst hap
    exact ⟨rfl, rfl, rfl, trivial⟩
  · exact h.elim
theorem s138 : Sound Tryd.prog G1 138 (pu 138) (cSum apf) := fn_sound rfl Tryd.call138 ok138 co138 (env_cons s152 env_nil) vc138
end Go.Cx.Rb
/- CxbSpec3 -/
namespace Go.Cx.Rb
open Go Go.Cx
theorem blk_congr {h x y : List Int} : ∀ {k : Nat}, (∀ j, j < 64 * k → nthI x j = nthI y j) → blk h x k = blk h y k
  | 0, _ => rfl
  | k + 1, hx => by
    simp only [blk]
    rw [blk_congr (fun j hj => hx j (by omega))]
    exact piece_congr fun j hj => by rw [nthI_drop, nthI_drop]; exact hx _ (by omega)
theorem blk_more {h x : List Int} {K : Nat} : ∀ {k : Nat}, blk h x (K + k) = blk (blk h x K) (x.drop (64 * K)) k
  | 0 => rfl
  | k + 1 => by
    rw [← Nat.add_assoc]
    simp only [blk]
    rw [blk_more, List.drop_drop, show 64 * K + 64 * k = 64 * (K + k) by omega]
theorem wcv_u64_nat {n : Nat} (h : n ≤ 9223372036854775807) : wcv .u64 (n : Int) = (n : Int) := wcv_u64 (by omega)
theorem addS_zero {n : Nat} (h : n ≤ 9223372036854775807) : addS 0 n = (n : Int) := by
  rw [addS, wcv_u64_nat h, wadd_u64 (by omega), Int.zero_add]
theorem padL_len (n : Nat) : (padL n).length = 1 + (119 - n % 64) % 64 + 8 := by simp [padL]; omega
theorem digW_digest {b : List Int} (hb : b.length ≤ 9223372036854775807) : digW (addW iv [] b) (addR [] b) (addS 0 b.length) = digest b := by
  have hR : addR [] b = b.drop (64 * (b.length / 64)) := by simp [addR]
  have hRl : (addR [] b).length = b.length % 64 := by rw [hR, List.length_drop]; omega
  have hq : qL (addR [] b) (addS 0 b.length) 8 = (b ++ padL b.length).drop (64 * (b.length / 64)) := by
    rw [List.drop_append, show 64 * (b.length / 64) - b.length = 0 by omega, List.drop_zero, qL, pL, hRl, hR, padL, addS_zero hb]
    simp only [List.append_assoc, List.cons_append]
    rfl
  have hd : (b ++ padL b.length).length / 64 = b.length / 64 + ((b ++ padL b.length).drop (64 * (b.length / 64))).length / 64 := by
    rw [List.length_drop, List.length_append, padL_len]; omega
  rw [digW, digest, hd, blk_more, hq]
  congr 2
  rw [addW]
  simp only [List.nil_append, List.length_nil, Nat.zero_add]
  exact blk_congr fun j hj => by rw [nthI_cat, if_pos (by omega)]
end Go.Cx.Rb
namespace Go.Cx.Rb
open Go Go.Cx
def padZ (n : Nat) : Nat := (119 - n % 64) % 64
def padN (n : Nat) : Nat := n + (1 + padZ n) + 8
def padW (b : List Int) : List Int := b ++ padL b.length
def nsh (x : Int) : Nat → Int
  | 0 => x
  | i + 1 => bshl .u64 (nsh x i) 8
def lenR (x : Int) (i : Nat) : Int := wcv .u8 (bshr .u64 (nsh x i) 56)
def rN (n i : Nat) : Nat := n + (1 + padZ n) + i
def rL (b : List Int) (x : Int) (i : Nat) : List Int := pL b (padZ b.length) ++ (List.range i).map (lenR x)
def len8 (n : Nat) : Int := wmul .u64 (n : Int) 8
theorem rL_len (l : List Int) (s : Int) (i : Nat) : (rL l s i).length = rN l.length i := by simp [rL, rN, pL_len, pN]
theorem rL_next (l : List Int) (s : Int) (i : Nat) : rL l s i ++ [lenR s i] = rL l s (i + 1) := by simp [rL, List.range_succ]
theorem u64_emod (n : Int) : IntKind.u64.wrap n = n % 18446744073709551616 := by simp [IntKind.wrap, IntKind.bits, IntKind.signed]
theorem u8_emod (n : Int) : IntKind.u8.wrap n = n % 256 := by simp [IntKind.wrap, IntKind.bits, IntKind.signed]
theorem lenR_eq {x : Int} (_h0 : 0 ≤ x ∧ x ≤ 18446744073709551615) {i : Nat} (hi : i < 8) : lenR x i = wcv .u8 (bshr .u64 x (56 - 8 * (i : Int))) := by
  have e : ∀ (y : Int) (k : Nat), k ≤ 64 → bshr .u64 y (k : Int) = y / 2 ^ k := fun y k hk => by
    simp only [bshr, Int.toNat_natCast, IntKind.bits]
    rw [Nat.min_eq_left hk, Int.fdiv_eq_ediv_of_nonneg _ (Int.pow_nonneg (by omega))]
  have e8 : ∀ y : Int, bshl .u64 y 8 = (y * 256) % 18446744073709551616 := fun y => by simp [bshl, u64_emod, IntKind.bits]
  have e56 : ∀ y : Int, bshr .u64 y 56 = y / 72057594037927936 := fun y => (e y 56 (by omega)).trans rfl
  have hj : (56 - 8 * (i : Int)) = ((56 - 8 * i : Nat) : Int) := by omega
  rw [hj, e _ _ (by omega), lenR, e56]
  simp only [wcv, u8_emod]
  obtain rfl | rfl | rfl | rfl | rfl | rfl | rfl | rfl : i = 0 ∨ i = 1 ∨ i = 2 ∨ i = 3 ∨ i = 4 ∨ i = 5 ∨ i = 6 ∨ i = 7 := by omega
  all_goals simp only [nsh, e8, Nat.mul_zero, Nat.sub_zero, Nat.reduceMul, Nat.reduceSub, Int.reducePow, Nat.sub_self]
  all_goals omega
end Go.Cx.Rb
namespace Go.Cx.Rb
open Go Go.Cx
theorem rL_end (b : List Int) : rL b (len8 b.length) 8 = padW b := by
  have h0 : 0 ≤ len8 b.length ∧ len8 b.length ≤ 18446744073709551615 := by
    simp only [len8, wmul, u64_emod]; omega
  rw [rL, padW, padL, pL, List.append_assoc, ← List.append_assoc]
  simp only [List.append_assoc, List.cons_append]
  congr 3
  refine List.map_congr_left fun i hi => ?_
  have hi : i < 8 := by simpa using hi
  rw [lenR_eq h0 hi]; rfl
theorem padW_len (b : List Int) : (padW b).length = padN b.length := by rw [← rL_end, rL_len]; rfl
end Go.Cx.Rb
/- CxbF6 -/
namespace Go.Cx.Rb
open Go Go.Cx Go.Proofs
abbrev G2 : List (Nat × V) := [(0, .ints .u32 64 kk), (1, .ints .u32 64 kk)]
def cDig (ap : AP) : Ctr
  | [.b _ 1 (.ints .u8 _ b)] => .ok ⟨.ints .u8 32 (ap _ _ digest b), [], []⟩
  | _ => .fail 208
theorem vc79 (args : List Arg) (out : Out) (h : (cDig apf args).to out) (hok : okAs args) :
    args.length = ic79.nargs ∧ ic79.nargs ≤ ic79.ntmps ∧ ∃ A, run apf [(136, cNew apf), (137, cAdd apf), (138, cSum apf)] A ic79.body (fnQ apf args out ic79.res) (st0 G1 true args) := by
  unfold cDig at h
  split at h
  · rename_i n m b
    cases h
    obtain ⟨⟨hn, ⟨rfl, _⟩, hb⟩, _⟩ := hok
    refine ⟨rfl, by decide, [], ?_⟩
    show run apf _ _ _ _ (st0 [(1, .ints .u32 64 kk)] _ _)
    generalize hK : kk = K
    generalize hap : apf = ap
    cbv
    subst hap
    have e1 : subL b 0 m = b := subL_all (Nat.le_of_eq hb.1)
    have e2 := digW_digest (b := b) (by rw [hb.1]; exact hn)
    rw [hb.1] at e2
    have e3 : digest b = digW (addW iv (zs 0) (subL b 0 m)) (addR (zs 0) (subL b 0 m)) (addS (lenI 0) m) := by rw [e1]; exact e2.symm
    refine ⟨show 0 + m ≤ m by omega, rfl, show 0 < 64 by omega, rfl, Nat.mod_lt _ (by omega), rfl, ?_, trivial⟩
    exact e3
  · exact h.elim
theorem s79 : Sound Tryd.prog G1 79 (pu 79) (cDig apf) := fn_sound rfl Tryd.call79 ok79 co79 (env_cons s136 (env_cons s137 (env_cons s138 env_nil))) vc79
/-- 'right' -/
def rightK : List Int := [7, 18, 17, 19, 6, 11, 25, 2, 13, 22]
def cRight (ap : AP) : Ctr
  | [.v (.int .u32 x), .v (.lit .u64 k)] => rif (rightK.contains k) 210 (.ok ⟨.int .u32 (ap _ _ (ap _ _ rr x) k), [], []⟩)
  | _ => .fail 210
theorem vc140 (args : List Arg) (out : Out) (h : (cRight apf args).to out) (hok : okAs args) : args.length = ic140.nargs ∧ ic140.nargs ≤ ic140.ntmps ∧ ∃ A, run apf [] A ic140.body (fnQ apf args out ic140.res) (st0 G2 true args) := by
  unfold cRight at h
  split at h
  · rename_i x k
    obtain ⟨hk, h⟩ := rif_to h
    cases h
    refine ⟨rfl, by decide, [], ?_⟩
    simp only [rightK, List.contains_cons, List.contains_nil, Bool.or_false, Bool.or_eq_true, beq_iff_eq] at hk
    rcases hk with rfl | rfl | rfl | rfl | rfl | rfl | rfl | rfl | rfl | rfl <;>
    · generalize hap : apf = ap
      cbv
      subst hap
      exact ⟨rfl, trivial⟩
  · exact h.elim
theorem s140 : Sound Tryd.prog G2 140 (pu 140) (cRight apf) := fn_sound rfl Tryd.call140 ok140 co140 env_nil vc140
end Go.Cx.Rb
/- CxbF7 -/
namespace Go.Cx.Rb
open Go Go.Cx Go.Proofs
def cPadR (ap : AP) : Ctr
  | [.b n 1 (.ints .u8 _ b)] => .chk (ap _ _ (ap _ _ leN n) 140737488355256) (.ok ⟨.sl 0 [] 0 (ap _ _ padN n) 1 none, [], [.ints .u8 (ap _ _ padN n) (ap _ _ padW b)]⟩)
  | _ => .fail 211
def aPadR (ap : AP) (n : Nat) (b : List Int) : List (Nat × Ann) := [
  (0, .inv (Nat × List (Nat × Nat)) (fun x => ⟨[(0, .sl (parH 0) [] 0 n 1 none), (3, .sl 50 [] 0 (ap _ _ (ap _ _ pN n) x.1) 1 none)],
    [(parH 0, ⟨.bor, .ints .u8 n b⟩), (50, ⟨.own, .ints .u8 (ap _ _ (ap _ _ pN n) x.1) (ap _ _ (ap _ _ pL b) x.1)⟩)], x.2⟩)
    (fun x => x.1 ≤ padZ n) (fun x => padZ n - x.1)),
  (1, .inv (Nat × List (Nat × Nat)) (fun x => ⟨[(3, .sl 50 [] 0 (ap _ _ (ap _ _ rN n) x.1) 1 none), (4, .int .u64 (ap _ _ (ap _ _ nsh (ap _ _ len8 n)) x.1)), (5, .int .i64 (ap _ _ lenI x.1))],
    [(50, ⟨.own, .ints .u8 (ap _ _ (ap _ _ rN n) x.1) (ap _ _ (ap _ _ (ap _ _ rL b) (ap _ _ len8 n)) x.1)⟩)], x.2⟩)
    (fun x => x.1 ≤ 8) (fun x => 8 - x.1))]
theorem vc139 (args : List Arg) (out : Out) (h : (cPadR apf args).to out) (hok : okAs args) :
    args.length = ic139.nargs ∧ ic139.nargs ≤ ic139.ntmps ∧ ∃ A, run apf [] A ic139.body (fnQ apf args out ic139.res) (st0 G2 true args) := by
  unfold cPadR at h
  split at h
  · rename_i n m b
    obtain ⟨h1, h⟩ := h
    cases h
    have h1 : n ≤ 140737488355256 := h1
    obtain ⟨⟨hn, ⟨rfl, _⟩, hb⟩, _⟩ := hok
    have hZ : padZ m < 64 := Nat.mod_lt _ (by omega)
    refine ⟨rfl, by decide, aPadR apf m b, ?_⟩
    show run apf _ _ _ _ (st0 [(0, .ints .u32 64 kk), (1, .ints .u32 64 kk)] _ _)
    generalize hK : kk = K
    generalize hap : apf = ap
    cbv
    and_intros
    any_goals (refine ⟨(0, [(50, 11)]), show 0 ≤ padZ m from Nat.zero_le _, ?_⟩; cbv; and_intros)
    rotate_right 1
    · intro (x : Nat × List (Nat × Nat)) hp _ _
      obtain ⟨z, r⟩ := x
      have hp : z ≤ padZ m := hp
      cbv
      refine ⟨fun hlt => ?_, fun hge => ?_⟩
      · have b0 : ((m + (1 + z)) % 64 : Nat) ≠ 56 := fun e => by
          have : wrem .i64 ((m + (1 + z) : Nat) : Int) 64 ≠ 56 := by subst hap; exact neq_t hlt
          rw [show (64 : Int) = ((64 : Nat) : Int) from rfl, rem_i64, e] at this
          exact this rfl
        have hz : padZ m = (119 - m % 64) % 64 := rfl
        have b1 : z + 1 ≤ padZ m := by omega
        have b2 : padZ m - (z + 1) < padZ m - z := by omega
        cbv
        and_intros
        any_goals (refine ⟨(z + 1, [(50, 18)]), b1, b2, ?_⟩; cbv; and_intros)
        all_goals subst hap
        all_goals simp only [apf, leN, addN, V.cnt, eqN, eqL', appN, pN]
        all_goals try omega
        rw [subL_all (by rw [pL_len, hb.1, pN]; omega), subL_one, catL, pL_next]
      · have b0 : ((m + (1 + z)) % 64 : Nat) = 56 := by
          have : wrem .i64 ((m + (1 + z) : Nat) : Int) 64 = 56 := by subst hap; exact neq_f hge
          rw [show (64 : Int) = ((64 : Nat) : Int) from rfl, rem_i64] at this
          omega
        have hz : padZ m = (119 - m % 64) % 64 := rfl
        have b1 : z = padZ m := by omega
        subst b1
        cbv
        and_intros
        any_goals (refine ⟨(0, []), show 0 ≤ 8 from Nat.zero_le _, ?_⟩; cbv; and_intros)
        rotate_right 1
        · intro (x : Nat × List (Nat × Nat)) hp _ _
          obtain ⟨i, r⟩ := x
          have hp : i ≤ 8 := hp
          cbv
          refine ⟨fun hlt => ?_, fun hge => ?_⟩
          · have b0 : i < 8 := by
              have : (i : Int) < 8 := by subst hap; exact lss_t hlt
              omega
            have b1 : i + 1 ≤ 8 := by omega
            have b2 : 8 - (i + 1) < 8 - i := by omega
            cbv
            and_intros
            any_goals (refine ⟨(i + 1, [(50, 32)]), b1, b2, ?_⟩; cbv; and_intros)
            all_goals subst hap
            all_goals have inc : wadd .i64 (i : Int) 1 = ((i + 1 : Nat) : Int) := inc_i64 (by omega)
            all_goals try simp only [apf, leN, addN, V.cnt, eqN, eqI', eqL', appN, rN, arF, lenI, inc]
            all_goals try omega
            all_goals first
              | rfl
              | (rw [subL_all (by rw [rL_len, hb.1, rN]; omega), subL_one, catL]; exact (rL_next b (len8 m) i).symm)
          · have b0 : i = 8 := by
              have : 8 ≤ (i : Int) := by subst hap; exact lss_f hge
              omega
            subst b0
            cbv
            subst hap
            simp only [apf, eqN, eqL']
            have e := rL_end b
            rw [hb.1] at e
            and_intros
            all_goals first
              | exact True.intro
              | exact e.symm
              | rfl
        all_goals subst hap
        all_goals try simp only [apf, eqN, eqI', eqL', pN, rN, lenI]
        all_goals try omega
        all_goals first
          | rfl
          | (rw [rL, hb.1]; exact List.append_nil _)
          | (show wmul .u64 (m : Int) 8 = wmul .u64 (wcv .u64 (m : Int)) 8; rw [wcv_u64_nat hn])
    all_goals subst hap
    all_goals try simp only [apf, leN, addN, V.cnt, appN, eqN, eqL', pN]
    all_goals try omega
    all_goals first
      | rfl
      | (rw [subL_all (Nat.le_of_eq hb.1), subL_all (Nat.le_of_eq hb.1)]; rfl)
  · exact h.elim
theorem s139 : Sound Tryd.prog G2 139 (pu 139) (cPadR apf) := fn_sound rfl Tryd.call139 ok139 co139 env_nil vc139
end Go.Cx.Rb
/- CxbSpec4 -/
namespace Go.Cx.Rb
open Go Go.Cx
def dropB (D : List Int) (k : Nat) : List Int := D.drop (64 * k)
def blkI (D : List Int) (k : Nat) : List Int := blk iv D k
/-- a word, by j of its bytes -/
def pw (D : List Int) (p : Nat) : Nat → Int
  | 0 => 0
  | j + 1 => bor .u32 (bshl .u32 (pw D p j) 8) (wcv .u32 (nthI D (p + j)))
def fillW (W B : List Int) (i : Nat) : List Int := schedL B i ++ W.drop i
def fillP (W B : List Int) (i j : Nat) : List Int := setI (fillW W B i) i (pw B (4 * i) j)
theorem fillW_len {W B : List Int} {i : Nat} (hW : W.length = 64) (hi : i ≤ 64) : (fillW W B i).length = 64 := by
  simp [fillW, schedL_len, hW]; omega
where
  schedL_len (b : List Int) : ∀ i, (schedL b i).length = i
    | 0 => rfl
    | i + 1 => by simp [schedL, schedL_len b i]
theorem setI_setI {l : List Int} {i : Nat} {x y : Int} : setI (setI l i x) i y = setI l i y := by simp [setI]
theorem nthI_setI {l : List Int} {i : Nat} {x : Int} (h : i < l.length) : nthI (setI l i x) i = x := by
  simp [nthI, setI, List.getD_eq_getElem?_getD, h]
theorem fillW_set {W B : List Int} {i : Nat} {x : Int} (hW : W.length = 64) (hi : i < 64) (hx : x = if i < 16 then wordS B (4 * i) else mix (schedL B i) i) : setI (fillW W B i) i x = fillW W B (i + 1) := by
  subst hx
  have e : W.drop i = W[i] :: W.drop (i + 1) := List.drop_eq_getElem_cons (by omega)
  simp only [fillW, setI]
  rw [List.set_append_right _ _ (by rw [fillW_len.schedL_len]; exact Nat.le_refl _), fillW_len.schedL_len, Nat.sub_self]
  simp only [schedL, List.append_assoc]
  congr 1
  rw [e]
  rfl
theorem fillW_get {W B : List Int} {i j : Nat} (h : j < i) : nthI (fillW W B i) j = nthI (schedL B i) j := nthI_app_lt (by rw [fillW_len.schedL_len]; exact h)
theorem fillW_end {W B : List Int} (hW : W.length = 64) : fillW W B 64 = schedL B 64 := by
  rw [fillW, List.drop_of_length_le (by omega), List.append_nil]
theorem u32_emod (n : Int) : IntKind.u32.wrap n = n % 4294967296 := by simp [IntKind.wrap, IntKind.bits, IntKind.signed]
/-- bits that do not meet: a sum -/
theorem bor_add {X x y z : Nat} (k : Nat) (hX : X = x * 2 ^ k) (hy : y < 2 ^ k) (hz : z = X + y) (hx : z < 2 ^ 32) : bor .u32 (X : Int) (y : Int) = (z : Int) := by
  have e : X ||| y = z := by
    rw [hz, hX, ← Nat.shiftLeft_eq, ← Nat.shiftLeft_add_eq_or_of_lt hy]
  show IntKind.u32.wrap (((BitVec.ofInt 32 (X : Int) ||| BitVec.ofInt 32 (y : Int)).toNat : Nat) : Int) = _
  rw [BitVec.ofInt_natCast, BitVec.ofInt_natCast, BitVec.toNat_or, BitVec.toNat_ofNat, BitVec.toNat_ofNat, Nat.mod_eq_of_lt (by omega), Nat.mod_eq_of_lt (by omega), e, u32_emod]
  omega
theorem bshl_lit {x z : Nat} (k : Nat) (hk : k ≤ 32) (hz : z = x * 2 ^ k) (hx : z < 4294967296) : bshl .u32 (x : Int) (k : Int) = (z : Int) := by
  simp only [bshl, IntKind.bits, Int.toNat_natCast, Nat.min_eq_left hk, u32_emod]
  have : ((x : Int) * 2 ^ k) = (z : Int) := by rw [hz]; push_cast; rfl
  rw [this]
  omega
theorem byte_at {B : List Int} (hB : ∀ y ∈ B, inR .u8 y) (i : Nat) : ∃ n : Nat, n < 256 ∧ nthI B i = (n : Int) := by
  have h : 0 ≤ nthI B i ∧ nthI B i ≤ 255 := by
    by_cases hi : i < B.length
    · have : nthI B i ∈ B := by
        simp only [nthI, List.getD_eq_getElem?_getD, List.getElem?_eq_getElem hi]
        exact List.getElem_mem hi
      exact inR_u8.1 (hB _ this)
    · simp [nthI, List.getD_eq_getElem?_getD, List.getElem?_eq_none (by omega : B.length ≤ i)]
  exact ⟨(nthI B i).toNat, by omega, by omega⟩
theorem wcv_u32_nat {n : Nat} (h : n < 4294967296) : wcv .u32 (n : Int) = (n : Int) := wcv_u32 (by omega)
theorem pw_word {B : List Int} (hB : ∀ y ∈ B, inR .u8 y) (p : Nat) : pw B p 4 = wordS B p := by
  obtain ⟨a, ha, ea⟩ := byte_at hB p
  obtain ⟨b, hb, eb⟩ := byte_at hB (p + 1)
  obtain ⟨c, hc, ec⟩ := byte_at hB (p + 2)
  obtain ⟨d, hd, ed⟩ := byte_at hB (p + 3)
  simp only [pw, wordS, Nat.add_zero, ea, eb, ec, ed, wcv_u32_nat (show a < 4294967296 by omega), wcv_u32_nat (show b < 4294967296 by omega), wcv_u32_nat (show c < 4294967296 by omega), wcv_u32_nat (show d < 4294967296 by omega)]
  obtain ⟨n2, h2⟩ : ∃ n, n = a * 256 + b := ⟨_, rfl⟩
  obtain ⟨n3, h3⟩ : ∃ n, n = n2 * 256 + c := ⟨_, rfl⟩
  obtain ⟨n4, h4⟩ : ∃ n, n = n3 * 256 + d := ⟨_, rfl⟩
  obtain ⟨m1, k1⟩ : ∃ n, n = a * 256 := ⟨_, rfl⟩
  obtain ⟨m2, k2⟩ : ∃ n, n = n2 * 256 := ⟨_, rfl⟩
  obtain ⟨m3, k3⟩ : ∃ n, n = n3 * 256 := ⟨_, rfl⟩
  obtain ⟨p1, j1⟩ : ∃ n, n = a * 16777216 := ⟨_, rfl⟩
  obtain ⟨p2, j2⟩ : ∃ n, n = b * 65536 := ⟨_, rfl⟩
  obtain ⟨p3, j3⟩ : ∃ n, n = c * 256 := ⟨_, rfl⟩
  obtain ⟨q2, i2⟩ : ∃ n, n = p1 + p2 := ⟨_, rfl⟩
  obtain ⟨q3, i3⟩ : ∃ n, n = q2 + p3 := ⟨_, rfl⟩
  have l0 : bshl .u32 0 8 = ((0 : Nat) : Int) := bshl_lit (x := 0) 8 (by omega) (by omega) (by omega)
  have l1 : bor .u32 ((0 : Nat) : Int) (a : Int) = (a : Int) := bor_add (x := 0) 8 (by omega) (by omega) (by omega) (by omega)
  have l2 : bshl .u32 (a : Int) 8 = (m1 : Int) := bshl_lit 8 (by omega) (by omega) (by omega)
  have l3 : bor .u32 (m1 : Int) (b : Int) = (n2 : Int) := bor_add (x := a) 8 (by omega) (by omega) (by omega) (by omega)
  have l4 : bshl .u32 (n2 : Int) 8 = (m2 : Int) := bshl_lit 8 (by omega) (by omega) (by omega)
  have l5 : bor .u32 (m2 : Int) (c : Int) = (n3 : Int) := bor_add (x := n2) 8 (by omega) (by omega) (by omega) (by omega)
  have l6 : bshl .u32 (n3 : Int) 8 = (m3 : Int) := bshl_lit 8 (by omega) (by omega) (by omega)
  have l7 : bor .u32 (m3 : Int) (d : Int) = (n4 : Int) := bor_add (x := n3) 8 (by omega) (by omega) (by omega) (by omega)
  have r1 : bshl .u32 (a : Int) 24 = (p1 : Int) := bshl_lit 24 (by omega) (by omega) (by omega)
  have r2 : bshl .u32 (b : Int) 16 = (p2 : Int) := bshl_lit 16 (by omega) (by omega) (by omega)
  have r3 : bshl .u32 (c : Int) 8 = (p3 : Int) := bshl_lit 8 (by omega) (by omega) (by omega)
  have r4 : bor .u32 (p1 : Int) (p2 : Int) = (q2 : Int) := bor_add (x := a) 24 (by omega) (by omega) (by omega) (by omega)
  have r5 : bor .u32 (q2 : Int) (p3 : Int) = (q3 : Int) := bor_add (x := a * 256 + b) 16 (by omega) (by omega) (by omega) (by omega)
  have r6 : bor .u32 (q3 : Int) (d : Int) = (n4 : Int) := bor_add (x := n3) 8 (by omega) (by omega) (by omega) (by omega)
  rw [r1, r2, r3, r4, r5, r6]
  rw [l0, l1, l2, l3, l4, l5, l6, l7]
end Go.Cx.Rb
/- CxbF8 -/
namespace Go.Cx.Rb
open Go Go.Cx Go.Proofs
def cRef (ap : AP) : Ctr
  | [.b n 1 (.ints .u8 _ b)] => .chk (ap _ _ (ap _ _ leN n) 140737488355256) (.ok ⟨.ints .u8 32 (ap _ _ digest b), [], []⟩)
  | _ => .fail 212
def aRef (ap : AP) (K : List Int) (n : Nat) (b : List Int) : List (Nat × Ann) := [
  (0, .nest (Nat × List Int) (fun x => ⟨[(2, .ptr 2 []), (3, .ptr 3 []), (4, .sl 22 [] 0 (ap _ _ padN n) 1 none), (5, .sl 23 [] 0 64 1 (some 64)), (6, .int .i64 (ap _ _ lenI (ap _ _ off64 x.1)))], [(globH 0, ⟨.imm, .ints .u32 64 K⟩), (2, ⟨.own, .ints .u8 32 (ap _ _ zs 32)⟩), (3, ⟨.own, .ints .u32 8 (ap _ _ (ap _ _ blkI (ap _ _ padW b)) x.1)⟩), (22, ⟨.own, .ints .u8 (ap _ _ padN n) (ap _ _ padW b)⟩), (23, ⟨.own, .ints .u32 64 x.2⟩)], []⟩) (fun x => 64 * x.1 ≤ padN n) (fun x => padN n - 64 * x.1) (fun x => [
    (1, .nest Nat (fun i => ⟨[(2, .ptr 2 []), (3, .ptr 3 []), (4, .sl 22 [] 0 (ap _ _ padN n) 1 none), (5, .sl 23 [] 0 64 1 (some 64)), (6, .int .i64 (ap _ _ lenI (ap _ _ off64 x.1))), (7, .int .i64 (ap _ _ lenI i))], [(globH 0, ⟨.imm, .ints .u32 64 K⟩), (2, ⟨.own, .ints .u8 32 (ap _ _ zs 32)⟩), (3, ⟨.own, .ints .u32 8 (ap _ _ (ap _ _ blkI (ap _ _ padW b)) x.1)⟩), (22, ⟨.own, .ints .u8 (ap _ _ padN n) (ap _ _ padW b)⟩), (23, ⟨.own, .ints .u32 64 (ap _ _ (ap _ _ (ap _ _ fillW x.2) (ap _ _ (ap _ _ dropB (ap _ _ padW b)) x.1)) i)⟩)], []⟩) (fun i => i ≤ 16) (fun i => 16 - i) (fun i => [
      (2, .inv Nat (fun j => ⟨[(2, .ptr 2 []), (3, .ptr 3 []), (4, .sl 22 [] 0 (ap _ _ padN n) 1 none), (5, .sl 23 [] 0 64 1 (some 64)), (6, .int .i64 (ap _ _ lenI (ap _ _ off64 x.1))), (7, .int .i64 (ap _ _ lenI i)), (8, .int .i64 (ap _ _ lenI j))], [(globH 0, ⟨.imm, .ints .u32 64 K⟩), (2, ⟨.own, .ints .u8 32 (ap _ _ zs 32)⟩), (3, ⟨.own, .ints .u32 8 (ap _ _ (ap _ _ blkI (ap _ _ padW b)) x.1)⟩), (22, ⟨.own, .ints .u8 (ap _ _ padN n) (ap _ _ padW b)⟩), (23, ⟨.own, .ints .u32 64 (ap _ _ (ap _ _ (ap _ _ (ap _ _ fillP x.2) (ap _ _ (ap _ _ dropB (ap _ _ padW b)) x.1)) i) j)⟩)], []⟩) (fun j => j ≤ 4) (fun j => 4 - j))])),
    (3, .inv Nat (fun i => ⟨[(2, .ptr 2 []), (3, .ptr 3 []), (4, .sl 22 [] 0 (ap _ _ padN n) 1 none), (5, .sl 23 [] 0 64 1 (some 64)), (6, .int .i64 (ap _ _ lenI (ap _ _ off64 x.1))), (9, .int .i64 (ap _ _ lenI i))], [(globH 0, ⟨.imm, .ints .u32 64 K⟩), (2, ⟨.own, .ints .u8 32 (ap _ _ zs 32)⟩), (3, ⟨.own, .ints .u32 8 (ap _ _ (ap _ _ blkI (ap _ _ padW b)) x.1)⟩), (22, ⟨.own, .ints .u8 (ap _ _ padN n) (ap _ _ padW b)⟩), (23, ⟨.own, .ints .u32 64 (ap _ _ (ap _ _ (ap _ _ fillW x.2) (ap _ _ (ap _ _ dropB (ap _ _ padW b)) x.1)) i)⟩)], []⟩) (fun i => 16 ≤ i ∧ i ≤ 64) (fun i => 64 - i)),
    (4, .nest Nat (fun i => ⟨[(2, .ptr 2 []), (3, .ptr 3 []), (4, .sl 22 [] 0 (ap _ _ padN n) 1 none), (5, .sl 23 [] 0 64 1 (some 64)), (6, .int .i64 (ap _ _ lenI (ap _ _ off64 x.1))), (12, .ptr 12 []), (13, .int .i64 (ap _ _ lenI i))], [(globH 0, ⟨.imm, .ints .u32 64 K⟩), (2, ⟨.own, .ints .u8 32 (ap _ _ zs 32)⟩), (3, ⟨.own, .ints .u32 8 (ap _ _ (ap _ _ blkI (ap _ _ padW b)) x.1)⟩), (22, ⟨.own, .ints .u8 (ap _ _ padN n) (ap _ _ padW b)⟩), (23, ⟨.own, .ints .u32 64 (ap _ _ schedW (ap _ _ (ap _ _ dropB (ap _ _ padW b)) x.1))⟩), (12, ⟨.own, .ints .u32 8 (ap _ _ (ap _ _ (ap _ _ rndL (ap _ _ (ap _ _ blkI (ap _ _ padW b)) x.1)) (ap _ _ schedW (ap _ _ (ap _ _ dropB (ap _ _ padW b)) x.1))) i)⟩)], []⟩) (fun i => i ≤ 64) (fun i => 64 - i) (fun _ => [(5, .unroll 9)])),
    (6, .inv Nat (fun i => ⟨[(2, .ptr 2 []), (3, .ptr 3 []), (4, .sl 22 [] 0 (ap _ _ padN n) 1 none), (5, .sl 23 [] 0 64 1 (some 64)), (6, .int .i64 (ap _ _ lenI (ap _ _ off64 x.1))), (12, .ptr 12 []), (17, .int .i64 (ap _ _ lenI i))], [(globH 0, ⟨.imm, .ints .u32 64 K⟩), (2, ⟨.own, .ints .u8 32 (ap _ _ zs 32)⟩), (3, ⟨.own, .ints .u32 8 (ap _ _ (ap _ _ (ap _ _ addP (ap _ _ (ap _ _ blkI (ap _ _ padW b)) x.1)) (ap _ _ (ap _ _ (ap _ _ rndL (ap _ _ (ap _ _ blkI (ap _ _ padW b)) x.1)) (ap _ _ schedW (ap _ _ (ap _ _ dropB (ap _ _ padW b)) x.1))) 64)) i)⟩), (22, ⟨.own, .ints .u8 (ap _ _ padN n) (ap _ _ padW b)⟩), (23, ⟨.own, .ints .u32 64 (ap _ _ schedW (ap _ _ (ap _ _ dropB (ap _ _ padW b)) x.1))⟩), (12, ⟨.own, .ints .u32 8 (ap _ _ (ap _ _ (ap _ _ rndL (ap _ _ (ap _ _ blkI (ap _ _ padW b)) x.1)) (ap _ _ schedW (ap _ _ (ap _ _ dropB (ap _ _ padW b)) x.1))) 64)⟩)], []⟩) (fun i => i ≤ 8) (fun i => 8 - i))])),
  (7, .inv Nat (fun i => ⟨[(2, .ptr 2 []), (3, .ptr 3 []), (18, .ptr 18 []), (19, .int .i64 (ap _ _ lenI i))], [(2, ⟨.own, .ints .u8 32 (ap _ _ zs 32)⟩), (3, ⟨.own, .ints .u32 8 (ap _ _ (ap _ _ blkI (ap _ _ padW b)) (padN n / 64))⟩), (18, ⟨.own, .ints .u8 32 (ap _ _ (ap _ _ outF (ap _ _ (ap _ _ blkI (ap _ _ padW b)) (padN n / 64))) i)⟩)], []⟩) (fun i => i ≤ 32) (fun i => 32 - i))]
theorem addP_zero {h v : List Int} : addP h v 0 = h := rfl
theorem bcpl_u32 (x : Int) : bcpl .u32 x = bxor .u32 x 4294967295 := by rw [bcpl, bxor_comm]; rfl
theorem outF_zero {h : List Int} : outF h 0 = zerosI 32 := rfl
set_option maxRecDepth 20000 in
set_option maxHeartbeats 1000000 in
theorem vc80 (args : List Arg) (out : Out) (h : (cRef apf args).to out) (hok : okAs args) :
    args.length = ic80.nargs ∧ ic80.nargs ≤ ic80.ntmps ∧ ∃ A, run apf [(139, cPadR apf), (140, cRight apf)] A ic80.body (fnQ apf args out ic80.res) (st0 G2 true args) := by
  unfold cRef at h
  split at h
  · rename_i n m b
    obtain ⟨h1, h⟩ := h
    cases h
    have h1 : n ≤ 140737488355256 := h1
    obtain ⟨⟨hn, ⟨rfl, _⟩, hb⟩, _⟩ := hok
    have hZ : padZ m < 64 := Nat.mod_lt _ (by omega)
    have hN : padN m = m + (1 + padZ m) + 8 := rfl
    have hN64 : padN m % 64 = 0 := by
      have hz : padZ m = (119 - m % 64) % 64 := rfl
      omega
    refine ⟨rfl, by decide, aRef apf kk m b, ?_⟩
    show run apf _ _ _ _ (st0 [(0, .ints .u32 64 kk), (1, .ints .u32 64 kk)] _ _)
    generalize hK : kk = K
    generalize hap : apf = ap
    cbv
    and_intros
    any_goals (refine ⟨(0, ap _ _ zerosI 64), show 64 * 0 ≤ padN m from Nat.zero_le _, ?_⟩; cbv; and_intros)
    rotate_right 1
    · intro (x : Nat × List Int) hp hts hhs
      obtain ⟨k, W⟩ := x
      have hp : 64 * k ≤ padN m := hp
      have hW : W.length = 64 := hhs.2.2.2.2.1.1
      have hH : (blkI (padW b) k).length = 8 := by subst hap; exact hhs.2.2.1.1
      have hB : ∀ y ∈ dropB (padW b) k, inR .u8 y := by
        subst hap
        intro y hy
        exact hhs.2.2.2.1.2 y (List.mem_of_mem_drop hy)
      clear hts hhs
      cbv
      refine ⟨fun hlt => ?_, fun hge => ?_⟩
      · have b0 : 64 * k < padN m := by
          have : ((64 * k : Nat) : Int) < ((padN m : Nat) : Int) := by subst hap; exact lss_t hlt
          omega
        have b1 : 64 * (k + 1) ≤ padN m := by omega
        have b2 : padN m - 64 * (k + 1) < padN m - 64 * k := by omega
        cbv
        refine ⟨⟨0, show 0 ≤ 16 from Nat.zero_le _, ?_⟩, ?_⟩
        · cbv
          subst hap
          simp only [apf, eqN, eqI', eqL', lenI, Int.natCast_zero]
          and_intros
          all_goals first | exact True.intro | rfl
        · intro (i : Nat) hi _ _
          have hi : i ≤ 16 := hi
          cbv
          refine ⟨fun hlt1 => ?_, fun hge1 => ?_⟩
          · have c0 : i < 16 := by
              have : (i : Int) < 16 := by subst hap; exact lss_t hlt1
              omega
            have c1 : i + 1 ≤ 16 := by omega
            have c2 : 16 - (i + 1) < 16 - i := by omega
            have c3 : i < (fillW W (dropB (padW b) k) i).length := by rw [fillW_len hW (by omega)]; omega
            cbv
            and_intros
            any_goals (refine ⟨0, show 0 ≤ 4 from Nat.zero_le _, ?_⟩; cbv; and_intros)
            rotate_right 1
            · intro (j : Nat) hj _ _
              have hj : j ≤ 4 := hj
              cbv
              refine ⟨fun hlt2 => ?_, fun hge2 => ?_⟩
              · have d0 : j < 4 := by
                  have : (j : Int) < 4 := by subst hap; exact lss_t hlt2
                  omega
                have d1 : j + 1 ≤ 4 := by omega
                have d2 : 4 - (j + 1) < 4 - j := by omega
                cbv
                and_intros
                any_goals (refine ⟨j + 1, d1, d2, ?_⟩; cbv; and_intros)
                all_goals subst hap
                all_goals have inc : wadd .i64 (j : Int) 1 = ((j + 1 : Nat) : Int) := inc_i64 (by omega)
                all_goals have a1 : wmul .i64 4 (i : Int) = ((4 * i : Nat) : Int) := (wmul_i64 (by omega)).trans (by omega)
                all_goals have a2 : wadd .i64 ((64 * k : Nat) : Int) ((4 * i : Nat) : Int) = ((64 * k + 4 * i : Nat) : Int) := (wadd_i64 (by omega)).trans (by omega)
                all_goals have a3 : wadd .i64 ((64 * k + 4 * i : Nat) : Int) (j : Int) = ((64 * k + 4 * i + j : Nat) : Int) := (wadd_i64 (by omega)).trans (by omega)
                all_goals try simp only [apf, ltN, natI, addN, eqN, eqI', eqL', off64, arF, lenI, inc, a1, a2, a3, Int.toNat_natCast, Nat.zero_add]
                all_goals try omega
                simp only [fillP]
                rw [nthI_setI c3, setI_setI]
                show setI (fillW W (dropB (padW b) k) i) i (bor .u32 (bshl .u32 (pw (dropB (padW b) k) (4 * i) j) 8) (wcv .u32 (nthI (dropB (padW b) k) (4 * i + j)))) = _
                rw [dropB, nthI_drop, ← Nat.add_assoc]
              · have d0 : j = 4 := by
                  have : 4 ≤ (j : Int) := by subst hap; exact lss_f hge2
                  omega
                subst d0
                cbv
                refine ⟨i + 1, c1, c2, ?_⟩
                cbv
                subst hap
                have inc : wadd .i64 (i : Int) 1 = ((i + 1 : Nat) : Int) := inc_i64 (by omega)
                simp only [apf, eqN, eqI', eqL', lenI, arF, inc]
                and_intros
                all_goals first
                  | exact True.intro
                  | with_reducible rfl
                  | (rw [fillP, fillW_set hW (by omega) (by rw [if_pos c0, pw_word hB])]; done)
            all_goals subst hap
            all_goals try simp only [apf, ltN, natI, addN, eqN, eqI', eqL', lenI, Int.toNat_natCast, Nat.zero_add]
            all_goals try omega
            all_goals rfl
          · have c0 : i = 16 := by
              have : 16 ≤ (i : Int) := by subst hap; exact lss_f hge1
              omega
            subst c0
            cbv
            refine ⟨⟨16, ⟨by omega, by omega⟩, ?_⟩, ?_⟩
            · cbv
              subst hap
              simp only [apf, eqN, eqI', eqL', lenI]
              and_intros
              all_goals first | exact True.intro | rfl
            · intro (i : Nat) hi _ _
              have hi : 16 ≤ i ∧ i ≤ 64 := hi
              cbv
              refine ⟨fun hlt3 => ?_, fun hge3 => ?_⟩
              · have e0 : i < 64 := by
                  have : (i : Int) < 64 := by subst hap; exact lss_t hlt3
                  omega
                have e1 : 16 ≤ i + 1 ∧ i + 1 ≤ 64 := by omega
                have e2 : 64 - (i + 1) < 64 - i := by omega
                cbv
                and_intros
                any_goals (refine ⟨i + 1, e1, e2, ?_⟩; cbv; and_intros)
                all_goals subst hap
                all_goals have inc : wadd .i64 (i : Int) 1 = ((i + 1 : Nat) : Int) := inc_i64 (by omega)
                all_goals have a1 : wsub .i64 (i : Int) 15 = ((i - 15 : Nat) : Int) := (wsub_i64 (by omega)).trans (by omega)
                all_goals have a2 : wsub .i64 (i : Int) 2 = ((i - 2 : Nat) : Int) := (wsub_i64 (by omega)).trans (by omega)
                all_goals have a3 : wsub .i64 (i : Int) 16 = ((i - 16 : Nat) : Int) := (wsub_i64 (by omega)).trans (by omega)
                all_goals have a4 : wsub .i64 (i : Int) 7 = ((i - 7 : Nat) : Int) := (wsub_i64 (by omega)).trans (by omega)
                all_goals try simp only [apf, ltN, natI, addN, eqN, eqI', eqL', arF, lenI, inc, a1, a2, a3, a4, Int.toNat_natCast, Nat.zero_add]
                all_goals try omega
                refine (fillW_set hW e0 ?_).symm
                rw [if_neg (by omega), fillW_get (by omega), fillW_get (by omega), fillW_get (by omega), fillW_get (by omega)]
                rfl
              · have e0 : i = 64 := by
                  have : 64 ≤ (i : Int) := by subst hap; exact lss_f hge3
                  omega
                subst e0
                cbv
                refine ⟨⟨0, show 0 ≤ 64 from Nat.zero_le _, ?_⟩, ?_⟩
                · cbv
                  subst hap
                  simp only [apf, eqN, eqI', eqL', lenI, Int.natCast_zero]
                  and_intros
                  all_goals first
                    | exact True.intro
                    | with_reducible rfl
                    | rw [schedW, fillW_end hW]
                    | rw [rndL]
                · intro (i : Nat) hi hts hhs
                  have hi : i ≤ 64 := hi
                  have hv : (rndL (blkI (padW b) k) (schedW (dropB (padW b) k)) i).length = 8 := by subst hap; exact hhs.2.2.2.2.2.1.1
                  clear hts hhs
                  cbv
                  refine ⟨fun hlt4 => ?_, fun hge4 => ?_⟩
                  · have e0 : i < 64 := by
                      have : (i : Int) < 64 := by subst hap; exact lss_t hlt4
                      omega
                    have e1 : i + 1 ≤ 64 := by omega
                    have e2 : 64 - (i + 1) < 64 - i := by omega
                    cbv
                    and_intros
                    any_goals (refine ⟨i + 1, e1, e2, ?_⟩; cbv; and_intros)
                    all_goals subst hap
                    all_goals have inc : wadd .i64 (i : Int) 1 = ((i + 1 : Nat) : Int) := inc_i64 (by omega)
                    all_goals try simp only [apf, ltN, natI, addN, eqN, eqI', eqL', arF, lenI, inc, Int.toNat_natCast, Nat.zero_add]
                    all_goals try omega
                    show rnd (rndL _ _ i) (nthI kk i) (nthI _ i) = _
                    rw [hK]
                    generalize rndL (blkI (padW b) k) (schedW (dropB (padW b) k)) i = v at hv ⊢
                    match v, hv with
                    | [v0, v1, v2, v3, v4, v5, v6, v7], _ =>
                      simp only [rnd, t1, t2, setI, nthI, List.set_cons_zero, List.set_cons_succ, List.getD_cons_zero, List.getD_cons_succ, bcpl_u32]
                  · have e0 : i = 64 := by
                      have : 64 ≤ (i : Int) := by subst hap; exact lss_f hge4
                      omega
                    subst e0
                    cbv
                    refine ⟨⟨0, show 0 ≤ 8 from Nat.zero_le _, ?_⟩, ?_⟩
                    · cbv
                      subst hap
                      simp only [apf, eqN, eqI', eqL', lenI, Int.natCast_zero]
                      and_intros
                      all_goals first
                        | exact True.intro
                        | with_reducible rfl
                        | rw [addP_zero]
                    · intro (i : Nat) hi _ _
                      have hi : i ≤ 8 := hi
                      cbv
                      refine ⟨fun hlt5 => ?_, fun hge5 => ?_⟩
                      · have e0 : i < 8 := by
                          have : (i : Int) < 8 := by subst hap; exact lss_t hlt5
                          omega
                        have e1 : i + 1 ≤ 8 := by omega
                        have e2 : 8 - (i + 1) < 8 - i := by omega
                        cbv
                        and_intros
                        any_goals (refine ⟨i + 1, e1, e2, ?_⟩; cbv; and_intros)
                        all_goals subst hap
                        all_goals have inc : wadd .i64 (i : Int) 1 = ((i + 1 : Nat) : Int) := inc_i64 (by omega)
                        all_goals try simp only [apf, ltN, natI, eqN, eqI', eqL', arF, lenI, inc, Int.toNat_natCast]
                        all_goals try omega
                        rw [addP_get, addP_set (by omega)]
                      · have e0 : i = 8 := by
                          have : 8 ≤ (i : Int) := by subst hap; exact lss_f hge5
                          omega
                        subst e0
                        cbv
                        refine ⟨(k + 1, ap _ _ schedW (ap _ _ (ap _ _ dropB (ap _ _ padW b)) k)), b1, b2, ?_⟩
                        cbv
                        subst hap
                        have inc : wadd .i64 ((64 * k : Nat) : Int) 64 = ((64 * (k + 1) : Nat) : Int) := (wadd_i64 (by omega)).trans (by omega)
                        simp only [apf, eqN, eqI', eqL', lenI, off64, arF, inc]
                        and_intros
                        all_goals first
                          | exact True.intro
                          | with_reducible rfl
                          | (rw [addP_end hH]; rfl)
      · have b0 : padN m = 64 * k := by
          have : ((padN m : Nat) : Int) ≤ ((64 * k : Nat) : Int) := by subst hap; exact lss_f hge
          omega
        have b1 : k = padN m / 64 := by omega
        subst b1
        cbv
        refine ⟨⟨0, show 0 ≤ 32 from Nat.zero_le _, ?_⟩, ?_⟩
        · cbv
          subst hap
          simp only [apf, eqN, eqI', eqL', lenI, Int.natCast_zero]
          and_intros
          all_goals first
            | exact True.intro
            | with_reducible rfl
            | rw [outF_zero]
        · intro (i : Nat) hp2 _ _
          have hp2 : i ≤ 32 := hp2
          cbv
          refine ⟨fun hlt => ?_, fun hge => ?_⟩
          · have b0 : i < 32 := by
              have : (i : Int) < 32 := by subst hap; exact lss_t hlt
              omega
            have b1 : i + 1 ≤ 32 := by omega
            have b2 : 32 - (i + 1) < 32 - i := by omega
            cbv
            and_intros
            any_goals (refine ⟨i + 1, b1, b2, ?_⟩; cbv; and_intros)
            all_goals subst hap
            all_goals have inc : wadd .i64 (i : Int) 1 = ((i + 1 : Nat) : Int) := inc_i64 (by omega)
            all_goals have a1 : wquo .i64 (i : Int) 4 = ((i / 4 : Nat) : Int) := quo_i64 (k := 4) (by omega)
            all_goals have a2 : wrem .i64 (i : Int) 4 = ((i % 4 : Nat) : Int) := rem_i64 (k := 4)
            all_goals have a3 : wmul .i64 ((i % 4 : Nat) : Int) 8 = 8 * ((i % 4 : Nat) : Int) := (wmul_i64 (by omega)).trans (by omega)
            all_goals have a4 : wsub .i64 24 (8 * ((i % 4 : Nat) : Int)) = 24 - 8 * ((i % 4 : Nat) : Int) := wsub_i64 (by omega)
            all_goals have a5 : wcv .u64 (24 - 8 * ((i % 4 : Nat) : Int)) = 24 - 8 * ((i % 4 : Nat) : Int) := wcv_u64 (by omega)
            all_goals try simp only [apf, ltN, natI, eqN, eqI', eqL', arF, lenI, inc, a1, a2, a3, a4, a5, Int.toNat_natCast]
            all_goals try omega
            exact (outF_set b0).symm
          · have b0 : i = 32 := by
              have : 32 ≤ (i : Int) := by subst hap; exact lss_f hge
              omega
            subst b0
            cbv
            subst hap
            simp only [apf, eqN, eqL']
            have e : digest b = outF (blkI (padW b) (padN m / 64)) 32 := by
              have e2 := padW_len b
              rw [hb.1] at e2
              rw [digest, outF, outL, blkI, ← padW, e2]
              exact (List.append_nil _).symm
            rw [e]
            and_intros
            all_goals first
              | exact True.intro
              | with_reducible rfl
    all_goals subst hap
    all_goals try simp only [apf, leN, addN, V.cnt, eqN, eqI', eqL']
    all_goals try omega
    all_goals first
      | rfl
      | exact show 4 * 64 ≤ 140737488355328 by omega
      | (rw [subL_all (Nat.le_of_eq hb.1)])
  · exact h.elim
theorem s80 : Sound Tryd.prog G2 80 (pu 80) (cRef apf) := fn_sound rfl Tryd.call80 ok80 co80 (env_cons s139 (env_cons s140 env_nil)) vc80
end Go.Cx.Rb
/- CxbF9 -/
namespace Go.Cx.Rb
open Go Go.Cx Go.Proofs
theorem s79' : Sound Tryd.prog G2 79 (pu 79) (cDig apf) := s79.more (fun n v h => by
  simp only [look] at h ⊢
  split at h
  · rename_i e; subst e; rw [if_neg (by decide), if_pos rfl]; exact h
  · cases h)
end Go.Cx.Rb
/- CxbM5 -/
namespace Go.Cx.Rb
open Go Go.Cx Go.Proofs
def unRw (f : Nat → V) (t : Nat) : List Int := match f t with
  | .ints _ _ l => l
  | _ => []
def rowV (ap : AP) (g : Nat → List Int) : Nat → V := fun t => .ints .u8 32 (ap _ _ g t)
def isRw (f : Nat → V) : Prop := f = rowV apf (unRw f)
def unR (n : Nat) (f : Nat → V) : List (List Int) := (List.range n).map (unRw f)
theorem unR_len {n : Nat} {f : Nat → V} : (unR n f).length = n := by simp [unR]
theorem unR_get {n t : Nat} {f : Nat → V} (h : t < n) : getL (unR n f) t = unRw f t := by
  simp [getL, unR, List.getD_eq_getElem?_getD, h]
theorem unRw_r {g : Nat → List Int} : unRw (rowV apf g) = g := rfl
theorem unR_e {n : Nat} {l : List (List Int)} (h : l.length = n) : ((List.range n).map (getL l)) = l := by
  subst h
  apply List.ext_getElem (by simp)
  intro i h1 h2
  simp [getL, List.getD_eq_getElem?_getD, h2]
/-- the digest above two -/
def jn (a b : List Int) : List Int := digest ([1] ++ a ++ b)
/-- what stands above the places 2 i and 2 i + 1 -/
def atL (l : List (List Int)) (i : Nat) : List Int := if 2 * i + 1 = l.length then getL l (2 * i) else jn (getL l (2 * i)) (getL l (2 * i + 1))
def atP (n : Nat) (i : Int) : Prop := 0 ≤ i ∧ 2 * i < n ∧ n ≤ 1000000
noncomputable def cJoin (ap : AP) : Ctr
  | [.v (.ints .u8 32 a), .v (.ints .u8 32 b)] => .ok ⟨.ints .u8 32 (ap _ _ (ap _ _ jn a) b), [], []⟩
  | _ => .fail 604
noncomputable def cAt (ap : AP) : Ctr
  | [.b n 32 (.rows 32 _m f), .v (.int .i64 i)] => .chk (ap _ _ isRw f) <| .chk (ap _ _ (ap _ _ atP n) i) <|
      .ok ⟨.ints .u8 32 (ap _ _ (ap _ _ atL (ap _ _ (ap _ _ unR n) f)) (ap _ _ natI i)), [], []⟩
  | _ => .fail 605
/-- a row that is copied -/
noncomputable def cCloneR (ap : AP) : Ctr
  | [.b n 32 (.rows 32 _m f)] => .chk (ap _ _ isRw f) <| .chk (ap _ _ (ap _ _ ltN 0) n) <| .chk (ap _ _ (ap _ _ leN n) 4398046511104) <|
      .ok ⟨.sl 0 [] 0 n 32 none, [], [.rows 32 n fun t => .ints .u8 32 (ap _ _ (ap _ _ getL (ap _ _ (ap _ _ unR n) f)) t)]⟩
  | _ => .fail 606
theorem jn_e {a b : List Int} (ha : a.length = 32) (hb : b.length = 32) : jn a b = digest (subL (catL (subL (catL (subL [1] 0 1) (subL a 0 32)) 0 (1 + 32)) (subL b 0 32)) 0 (1 + 32 + 32)) := by
  rw [subL_one, subL_all (Nat.le_of_eq ha), subL_all (Nat.le_of_eq hb), subL_all (b := catL [1] a) (by simp only [catL, List.length_append, ha]; decide), subL_all (by simp only [catL, List.length_append, ha, hb]; decide), jn, catL, catL]
set_option maxRecDepth 20000 in
set_option maxHeartbeats 1600000 in
theorem vc81 (args : List Arg) (out : Out) (h : (cJoin apf args).to out) (hok : okAs args) :
    args.length = ic81.nargs ∧ ic81.nargs ≤ ic81.ntmps ∧ ∃ A, run apf [(79, cDig apf)] A ic81.body (fnQ apf args out ic81.res) (st0 G2 true args) := by
  unfold cJoin at h
  split at h
  · rename_i a b
    cases h
    obtain ⟨⟨h1, _⟩, ⟨h2, _⟩, _⟩ := hok
    refine ⟨rfl, by decide, [], ?_⟩
    show run apf _ _ _ _ (st0 [(0, .ints .u32 64 kk), (1, .ints .u32 64 kk)] _ _)
    generalize hK : kk = K
    generalize hap : apf = ap
    cbv
    repeat' first
      | exact True.intro
      | (intro (hh : _ = true); first | with_reducible exact absurd hh (bk_t (by assumption)) | cbv)
      | (intro (hh : _ = false); first | with_reducible exact absurd hh (bk_f (by assumption)) | cbv)
      | with_reducible refine And.intro ?_ ?_
      | fail
    all_goals subst hap
    all_goals try simp only [apf, eqL', eqN, addN, leN, appN, V.cnt, Nat.zero_add] at *
    all_goals first
      | omega
      | with_reducible exact jn_e h1 h2
      | with_reducible exact rfl
      | trace_state
  · exact h.elim
theorem s81 : Sound Tryd.prog G2 81 (puM 81) (cJoin apf) := fn_sound rfl Tryd.call81 ok81 co81 (env_cons s79' env_nil) vc81
set_option maxRecDepth 20000 in
set_option maxHeartbeats 1600000 in
theorem vc82 (args : List Arg) (out : Out) (h : (cJoin apf args).to out) (hok : okAs args) :
    args.length = ic82.nargs ∧ ic82.nargs ≤ ic82.ntmps ∧ ∃ A, run apf [(80, cRef apf)] A ic82.body (fnQ apf args out ic82.res) (st0 G2 true args) := by
  unfold cJoin at h
  split at h
  · rename_i a b
    cases h
    obtain ⟨⟨h1, _⟩, ⟨h2, _⟩, _⟩ := hok
    refine ⟨rfl, by decide, [], ?_⟩
    show run apf _ _ _ _ (st0 [(0, .ints .u32 64 kk), (1, .ints .u32 64 kk)] _ _)
    generalize hK : kk = K
    generalize hap : apf = ap
    cbv
    repeat' first
      | exact True.intro
      | (intro (hh : _ = true); first | with_reducible exact absurd hh (bk_t (by assumption)) | cbv)
      | (intro (hh : _ = false); first | with_reducible exact absurd hh (bk_f (by assumption)) | cbv)
      | with_reducible refine And.intro ?_ ?_
      | fail
    all_goals subst hap
    all_goals try simp only [apf, eqL', eqN, addN, leN, appN, V.cnt, Nat.zero_add] at *
    all_goals first
      | omega
      | with_reducible exact jn_e h1 h2
      | with_reducible exact rfl
      | trace_state
  · exact h.elim
theorem s82 : Sound Tryd.prog G2 82 (puM 82) (cJoin apf) := fn_sound rfl Tryd.call82 ok82 co82 (env_cons s80 env_nil) vc82
end Go.Cx.Rb
/- CxbM6 -/
namespace Go.Cx.Rb
open Go Go.Cx Go.Proofs
/-- the level above -/
def upL (l : List (List Int)) : List (List Int) := (List.range ((l.length + 1) / 2)).map (atL l)
/-- the levels, one above the other -/
def lvl (l : List (List Int)) : Nat → List (List Int)
  | 0 => l
  | j + 1 => upL (lvl l j)
/-- how many levels -/
def hN (n : Nat) : Nat := if n ≤ 1 then 1 else hN ((n + 1) / 2) + 1
termination_by n
decreasing_by omega
theorem hN_one {n : Nat} (h : n ≤ 1) : hN n = 1 := by rw [hN, if_pos h]
theorem hN_more {n : Nat} (h : 1 < n) : hN n = hN ((n + 1) / 2) + 1 := by rw [hN, if_neg (by omega)]
theorem hN_pos (n : Nat) : 1 ≤ hN n := by
  rcases Nat.lt_or_ge 1 n with h | h
  · rw [hN_more h]; omega
  · rw [hN_one h]; omega
theorem hN_le : ∀ (n : Nat), 1 ≤ n → hN n ≤ n := by
  intro n
  induction n using Nat.strongRecOn with
  | _ n ih =>
    intro h
    rcases Nat.lt_or_ge 1 n with h1 | h1
    · rw [hN_more h1]
      have := ih ((n + 1) / 2) (by omega) (by omega)
      omega
    · rw [hN_one h1]; omega
theorem upL_len {l : List (List Int)} : (upL l).length = (l.length + 1) / 2 := by simp [upL]
theorem upL_get {l : List (List Int)} {i : Nat} (h : i < (l.length + 1) / 2) : getL (upL l) i = atL l i := by
  simp [getL, upL, List.getD_eq_getElem?_getD, h]
theorem lvl_up {l : List (List Int)} : ∀ {j : Nat}, lvl l (j + 1) = lvl (upL l) j
  | 0 => rfl
  | j + 1 => by rw [lvl, lvl_up (j := j)]; rfl
/-- a level that is there has leaves; more than one where another stands above it -/
theorem lvl_has : ∀ {j : Nat} {l : List (List Int)}, 0 < l.length → j < hN l.length → 0 < (lvl l j).length ∧ (1 < (lvl l j).length ↔ j + 1 < hN l.length)
  | 0, l, h0, _ => by
    refine ⟨h0, fun h => ?_, fun h => ?_⟩
    · have h : 1 < l.length := h
      rw [hN_more h]; have := hN_pos ((l.length + 1) / 2); omega
    · rcases Nat.lt_or_ge 1 l.length with h1 | h1
      · exact h1
      · rw [hN_one h1] at h; omega
  | j + 1, l, h0, hj => by
    rcases Nat.lt_or_ge 1 l.length with h1 | h1
    · rw [hN_more h1] at hj ⊢
      rw [lvl_up]
      have := lvl_has (j := j) (l := upL l) (by rw [upL_len]; omega) (by rw [upL_len]; omega)
      rw [upL_len] at this
      exact ⟨this.1, this.2.trans (by omega)⟩
    · rw [hN_one h1] at hj; omega
theorem lvl_len_le : ∀ {j : Nat} {l : List (List Int)}, (lvl l j).length ≤ l.length + 1
  | 0, l => by simp [lvl]
  | j + 1, l => by rw [lvl, upL_len]; have := lvl_len_le (j := j) (l := l); omega
theorem lvl_len2 {j : Nat} {l : List (List Int)} : (lvl l (j + 1)).length = ((lvl l j).length + 1) / 2 := upL_len
theorem set_get {l : List (List Int)} {i j : Nat} {x : List Int} (h : i < l.length) : getL (l.set i x) j = if j = i then x else getL l j := by
  simp only [getL, List.getD_eq_getElem?_getD, List.getElem?_set]
  by_cases e : i = j
  · subst e; simp [h]
  · rw [if_neg e, if_neg (fun h => e h.symm)]
theorem atL_set {l : List (List Int)} {i j : Nat} {x : List Int} (h : i < l.length) (hj : j ≠ i / 2) : atL (l.set i x) j = atL l j := by
  simp only [atL, List.length_set, set_get h]
  rw [if_neg (show ¬ 2 * j = i by omega), if_neg (show ¬ 2 * j + 1 = i by omega)]
theorem upL_set {l : List (List Int)} {i : Nat} {x : List Int} (h : i < l.length) : upL (l.set i x) = (upL l).set (i / 2) (atL (l.set i x) (i / 2)) := by
  apply List.ext_getElem (by simp [upL])
  intro j h1 h2
  simp only [upL, List.length_map, List.length_range, List.length_set] at h1 h2 ⊢
  simp only [List.getElem_set, List.getElem_map, List.getElem_range]
  split
  · rename_i e; rw [e]
  · rename_i e; exact atL_set h (fun hh => e hh.symm)
/-- the place above, j levels up -/
def plc (i j : Nat) : Nat := i / 2 ^ j
theorem plc_zero {i : Nat} : plc i 0 = i := by simp [plc]
theorem plc_succ {i j : Nat} : plc i (j + 1) = plc i j / 2 := by rw [plc, plc, Nat.pow_succ, Nat.div_div_eq_div_mul]
theorem plc_lt : ∀ {j i : Nat} {l : List (List Int)}, i < l.length → plc i j < (lvl l j).length
  | 0, i, l, h => by rw [plc_zero]; exact h
  | j + 1, i, l, h => by rw [plc_succ, lvl_len2]; have := plc_lt (j := j) h; omega
theorem lvl_set : ∀ {j i : Nat} {l : List (List Int)} {x : List Int}, i < l.length → lvl (l.set i x) (j + 1) = (lvl l (j + 1)).set (plc i (j + 1)) (atL (lvl (l.set i x) j) (plc i (j + 1)))
  | 0, i, l, x, h => by
    rw [plc_succ, plc_zero]
    exact upL_set h
  | j + 1, i, l, x, h => by
    have h1 := lvl_set (j := j) (x := x) h
    have h2 := plc_lt (j := j + 1) h
    rw [lvl, h1, upL_set h2, ← plc_succ, ← h1]
    rfl
theorem lvl_len_set {j i : Nat} {l : List (List Int)} {x : List Int} (h : i < l.length) : (lvl (l.set i x) j).length = (lvl l j).length := by
  cases j with
  | zero => simp [lvl]
  | succ j => rw [lvl_set h, List.length_set]
/-- the levels up to k as they will be, those above as they were -/
def mixL (l l' : List (List Int)) (k j : Nat) : List (List Int) := if j ≤ k then lvl l' j else lvl l j
def setT (l : List (List Int)) (i : Int) (x : List Int) : List (List Int) := if i < 0 ∨ (l.length : Int) ≤ i then l else l.set i.toNat x
def sib (i : Nat) : Nat := if i % 2 = 1 then i - 1 else i + 1
theorem bxor_one {i : Nat} (h : i ≤ 9223372036854775806) : bxor .i64 (i : Int) 1 = ((sib i : Nat) : Int) := by
  have e0 : i < 2 ^ 64 := by omega
  have e1 : i ^^^ 1 = sib i := by
    rw [sib]
    apply Nat.eq_of_testBit_eq
    intro k
    rw [Nat.testBit_xor]
    cases k with
    | zero =>
      simp only [Nat.testBit_zero]
      split
      · rename_i h1
        have : (i - 1) % 2 = 0 := by omega
        simp [h1, this]
      · rename_i h1
        have h2 : i % 2 = 0 := by omega
        have : (i + 1) % 2 = 1 := by omega
        simp [h2, this]
    | succ k =>
      simp only [Nat.testBit_succ]
      split
      · have : (i - 1) / 2 = i / 2 := by omega
        simp [this]
      · have : (i + 1) / 2 = i / 2 := by omega
        simp [this]
  have e2 : i ^^^ 1 < 2 ^ 64 := Nat.xor_lt_two_pow e0 (by omega)
  show IntKind.i64.wrap (((BitVec.ofInt 64 (i : Int) ^^^ BitVec.ofInt 64 (1 : Int)).toNat : Nat) : Int) = _
  rw [BitVec.ofInt_natCast, show (1 : Int) = ((1 : Nat) : Int) from rfl, BitVec.ofInt_natCast, BitVec.toNat_xor, BitVec.toNat_ofNat, BitVec.toNat_ofNat, Nat.mod_eq_of_lt e0, Nat.mod_eq_of_lt (by omega : 1 < 2 ^ 64), e1]
  apply IntWalk.i64_in
  have : sib i ≤ i + 1 := by rw [sib]; split <;> omega
  omega
/-- what stands beside a place, if anything does -/
def besL (lv : List (List Int)) (i : Nat) : List (List Int) := if sib i < lv.length then [getL lv (sib i)] else []
def pathK (l : List (List Int)) (i : Nat) : Nat → List (List Int)
  | 0 => []
  | j + 1 => pathK l i j ++ besL (lvl l j) (plc i j)
/-- the whole path -/
def pathT (l : List (List Int)) (i : Nat) : List (List Int) := pathK l i (hN l.length - 1)
/-- the root of a tree -/
def rootL (l : List (List Int)) : List Int := topT (lvl l) (hN l.length)
theorem rootL_one {l : List (List Int)} (h : l.length ≤ 1) : rootL l = getL l 0 := by
  rw [rootL, topT, hN_one h]; rfl
theorem rootL_more {l : List (List Int)} (h : 1 < l.length) : rootL l = rootL (upL l) := by
  rw [rootL, topT, rootL, topT, upL_len, hN_more h, Nat.add_sub_cancel]
  have := hN_pos ((l.length + 1) / 2)
  obtain ⟨k, hk⟩ : ∃ k, hN ((l.length + 1) / 2) = k + 1 := ⟨hN ((l.length + 1) / 2) - 1, by omega⟩
  rw [hk, lvl_up, Nat.add_sub_cancel]
end Go.Cx.Rb
/- CxbM7 -/
namespace Go.Cx.Rb
open Go Go.Cx Go.Proofs
theorem atL_u {n : Nat} {f : Nat → V} {i : Int} (h0 : 0 ≤ i) (h : 2 * i < n) : atL (unR n f) i.toNat = if 2 * i + 1 = n then unRw f (2 * i).toNat else jn (unRw f (2 * i).toNat) (unRw f (2 * i + 1).toNat) := by
  obtain ⟨k, rfl⟩ := Int.eq_ofNat_of_zero_le h0
  rw [Int.toNat_natCast, atL, unR_len, show (2 * (k : Int)).toNat = 2 * k by omega, show (2 * (k : Int) + 1).toNat = 2 * k + 1 by omega]
  have e : 2 * k + 1 = n ↔ 2 * (k : Int) + 1 = n := by omega
  by_cases c : 2 * k + 1 = n
  · rw [if_pos c, if_pos (e.1 c), unR_get (by omega)]
  · rw [if_neg c, if_neg (fun h => c (e.2 h)), unR_get (by omega), unR_get (by omega)]
theorem rows_u {m : Nat} {g : Nat → List Int} : eqRows m (fun t => .ints .u8 32 (getL (unR m (rowV apf g)) t)) (fun j => rowV apf g j) := fun _ hj => congrArg (fun l => V.ints .u8 32 l) (unR_get hj)
set_option maxRecDepth 20000 in
set_option maxHeartbeats 1600000 in
theorem vc76 (args : List Arg) (out : Out) (h : (cAt apf args).to out) (hok : okAs args) :
    args.length = ic76.nargs ∧ ic76.nargs ≤ ic76.ntmps ∧ ∃ A, run apf [(81, cJoin apf)] A ic76.body (fnQ apf args out ic76.res) (st0 G2 true args) := by
  unfold cAt at h
  split at h
  · rename_i n m f i
    obtain ⟨hf, hp, h⟩ := h
    cases h
    obtain ⟨⟨_, ⟨rfl, _⟩, _⟩, _⟩ := hok
    obtain ⟨p1, p2, p3⟩ : atP m i := hp
    generalize hg : unRw f = g
    have hf : f = rowV apf g := by rw [← hg]; exact hf
    clear hg
    subst hf
    have e2 : wmul .i64 2 i = 2 * i := wmul_i64 (by omega)
    have e3 : wadd .i64 (2 * i) 1 = 2 * i + 1 := wadd_i64 (by omega)
    refine ⟨rfl, by decide, [], ?_⟩
    show run apf _ _ _ _ (st0 [(0, .ints .u32 64 kk), (1, .ints .u32 64 kk)] _ _)
    generalize hK : kk = K
    generalize hap : apf = ap
    cbv
    repeat' first
      | exact True.intro
      | (intro (hh : _ = true); first | with_reducible exact absurd hh (bk_t (by assumption)) | cbv)
      | (intro (hh : _ = false); first | with_reducible exact absurd hh (bk_f (by assumption)) | cbv)
      | with_reducible refine And.intro ?_ ?_
      | fail
    all_goals subst hap
    all_goals try simp only [cast_fix] at *
    all_goals try simp only [apf, cmF, arF, eqL', ltN, eqN, addN, Nat.zero_add, e2, e3, eq_t, eq_f, lenI, natI] at *
    all_goals first
      | exact rfl
      | exact Nat.le_refl _
      | omega
      | (rw [atL_u p1 p2, if_pos (by assumption)]; rfl)
      | (rw [atL_u p1 p2, if_neg (by assumption)]; rfl)
      | trace_state
  · exact h.elim
theorem s76 : Sound Tryd.prog G2 76 (puM 76) (cAt apf) := fn_sound rfl Tryd.call76 ok76 co76 (env_cons s81 env_nil) vc76
set_option maxRecDepth 20000 in
set_option maxHeartbeats 1600000 in
theorem vc75 (args : List Arg) (out : Out) (h : (cCloneR apf args).to out) (hok : okAs args) :
    args.length = ic75.nargs ∧ ic75.nargs ≤ ic75.ntmps ∧ ∃ A, run apf [] A ic75.body (fnQ apf args out ic75.res) (st0 G2 true args) := by
  unfold cCloneR at h
  split at h
  · rename_i n m f
    obtain ⟨hf, h1, h2, h⟩ := h
    cases h
    obtain ⟨⟨_, ⟨rfl, _⟩, _⟩, _⟩ := hok
    have h1 : 0 < m := h1
    have h2 : m ≤ 4398046511104 := h2
    generalize hg : unRw f = g
    have hf : f = rowV apf g := by rw [← hg]; exact hf
    clear hg
    subst hf
    refine ⟨rfl, by decide, [], ?_⟩
    show run apf _ _ _ _ (st0 [(0, .ints .u32 64 kk), (1, .ints .u32 64 kk)] _ _)
    generalize hK : kk = K
    generalize hap : apf = ap
    cbv
    repeat' first
      | exact True.intro
      | (intro (hh : _ = true); first | with_reducible exact absurd hh (bk_t (by assumption)) | cbv)
      | (intro (hh : _ = false); first | with_reducible exact absurd hh (bk_f (by assumption)) | cbv)
      | with_reducible refine And.intro ?_ ?_
      | fail
    all_goals subst hap
    all_goals try simp only [apf, ltN, eqN, addN, leN, appN, V.cnt, Nat.zero_add] at *
    all_goals first
      | exact rows_u
      | exact rfl
      | omega
      | trace_state
  · exact h.elim
theorem s75 : Sound Tryd.prog G2 75 (puM 75) (cCloneR apf) := fn_sound rfl Tryd.call75 ok75 co75 env_nil vc75
end Go.Cx.Rb
/- CxbM8 -/
namespace Go.Cx.Rb
open Go Go.Cx Go.Proofs
def upN (n : Nat) : Nat := (n + 1) / 2
def dblI (k : Nat) : Int := 2 * (k : Int)
def takeLL (l : List (List Int)) (k : Nat) : List (List Int) := l.take k
noncomputable def cLevel (ap : AP) : Ctr
  | [.b n 32 (.rows 32 _m f)] => .chk (ap _ _ isRw f) <| .chk (ap _ _ (ap _ _ ltN 0) n) <| .chk (ap _ _ (ap _ _ leN n) 1000000) <|
      .ok ⟨.sl 0 [] 0 (ap _ _ upN n) 32 none, [], [.rows 32 (ap _ _ upN n) fun t => .ints .u8 32 (ap _ _ (ap _ _ getL (ap _ _ upL (ap _ _ (ap _ _ unR n) f))) t)]⟩
  | _ => .fail 607
noncomputable def famLv (ap : AP) (m : Nat) (f : Nat → V) : Nat × Nat → LSt
  | (0, _) => ⟨[(3, .nsl), (0, .sl (parH 0) [] 0 m 32 none), (4, .int .i64 (ap _ _ dblI 0))], [(parH 0, ⟨.bor, .rows 32 m f⟩)], []⟩
  | (k + 1, h) => ⟨[(3, .sl 7000 [] 0 (k + 1) 32 none), (0, .sl (parH 0) [] 0 m 32 none), (4, .int .i64 (ap _ _ dblI (k + 1)))], [(parH 0, ⟨.bor, .rows 32 m f⟩), (7000, ⟨.own, .rows 32 (k + 1) (fun t => .ints .u8 32 (ap _ _ (ap _ _ getL (ap _ _ (ap _ _ takeLL (ap _ _ upL (ap _ _ (ap _ _ unR m) f))) (k + 1))) t))⟩)], [(7000, h)]⟩
noncomputable def aLv (ap : AP) (m : Nat) (f : Nat → V) : List (Nat × Ann) := [(0, .inv (Nat × Nat) (famLv ap m f) (fun x => 2 * x.1 ≤ m + 1) (fun x => m + 1 - 2 * x.1))]
theorem tk_get {l : List (List Int)} {j k : Nat} (h : j < k) : getL (takeLL l k) j = getL l j := by
  simp [getL, takeLL, List.getD_eq_getElem?_getD, h]
theorem tk_all {l : List (List Int)} {k : Nat} (h : l.length ≤ k) : takeLL l k = l := List.take_of_length_le h
theorem up_len {m : Nat} {f : Nat → V} : (upL (unR m f)).length = (m + 1) / 2 := by rw [upL_len, unR_len]
theorem lv_new {m k : Nat} {g : Nat → List Int} {x : List Int} (h : 2 * k < m) (hx : x = atL (unR m (rowV apf g)) k) : x = getL (takeLL (upL (unR m (rowV apf g))) (k + 1)) k := by
  rw [tk_get (Nat.lt_succ_self k), upL_get (by rw [unR_len]; omega), hx]
theorem lv_row0 {z : V} {m : Nat} {g : Nat → List Int} {x : List Int} (h : 2 * 0 < m) (hx : x = atL (unR m (rowV apf g)) 0) :
    eqRows 1 (fun t => .ints .u8 32 (getL (takeLL (upL (unR m (rowV apf g))) 1) t)) (fun j => lkV z [(0, .ints .u8 32 x)] j) := by
  intro j hj
  obtain rfl : j = 0 := by omega
  exact congrArg (fun l => V.ints .u8 32 l) (lv_new h hx).symm
theorem lv_row {z : V} {m k : Nat} {g : Nat → List Int} {x : List Int} (h : 2 * k < m) (hx : x = atL (unR m (rowV apf g)) k) :
    eqRows (k + 1) (fun t => .ints .u8 32 (getL (takeLL (upL (unR m (rowV apf g))) (k + 1)) t)) (catR (fun j => .ints .u8 32 (getL (takeLL (upL (unR m (rowV apf g))) k) j)) k fun j => lkV z [(0, .ints .u8 32 x)] j) := by
  intro j hj
  simp only [catR]
  by_cases c : j < k
  · rw [if_pos c, tk_get hj, tk_get c]
  · obtain rfl : j = k := by omega
    rw [if_neg c, Nat.sub_self]
    exact congrArg (fun l => V.ints .u8 32 l) (lv_new h hx).symm
theorem at_one {m k : Nat} {g : Nat → List Int} (h : 2 * k < m) (hm : m ≤ 1000000) (hh : (m : Int) ≤ wadd .i64 (2 * (k : Int)) 1) : g (2 * (k : Int)).toNat = atL (unR m (rowV apf g)) k := by
  rw [wadd_i64 (by omega)] at hh
  rw [show (2 * (k : Int)).toNat = 2 * k by omega, atL, unR_len, if_pos (by omega), unR_get h]; rfl
theorem at_two {m k : Nat} {g : Nat → List Int} (h : 2 * k < m) (hm : m ≤ 1000000) (hh : wadd .i64 (2 * (k : Int)) 1 < (m : Int)) : jn (g (2 * (k : Int)).toNat) (g (wadd .i64 (2 * (k : Int)) 1).toNat) = atL (unR m (rowV apf g)) k := by
  rw [wadd_i64 (by omega)] at hh ⊢
  rw [show (2 * (k : Int)).toNat = 2 * k by omega, show (2 * (k : Int) + 1).toNat = 2 * k + 1 by omega, atL, unR_len, if_neg (by omega), unR_get h, unR_get (by omega)]; rfl
theorem lv_end {m k : Nat} {g : Nat → List Int} (h : (m : Int) ≤ 2 * ((k + 1 : Nat) : Int)) : eqRows ((m + 1) / 2) (fun t => .ints .u8 32 (getL (upL (unR m (rowV apf g))) t)) fun t => .ints .u8 32 (getL (takeLL (upL (unR m (rowV apf g))) (k + 1)) t) := by
  rw [tk_all (by rw [up_len]; omega)]
  exact fun _ _ => rfl
set_option maxRecDepth 20000 in
set_option maxHeartbeats 1600000 in
theorem vc78 (args : List Arg) (out : Out) (h : (cLevel apf args).to out) (hok : okAs args) :
    args.length = ic78.nargs ∧ ic78.nargs ≤ ic78.ntmps ∧ ∃ A, run apf [(82, cJoin apf)] A ic78.body (fnQ apf args out ic78.res) (st0 G2 true args) := by
  unfold cLevel at h
  split at h
  · rename_i n m f
    obtain ⟨hf, h1, h2, h⟩ := h
    cases h
    obtain ⟨⟨_, ⟨rfl, _⟩, _⟩, _⟩ := hok
    have h1 : 0 < m := h1
    have h2 : m ≤ 1000000 := h2
    generalize hg : unRw f = g
    have hf : f = rowV apf g := by rw [← hg]; exact hf
    clear hg
    subst hf
    refine ⟨rfl, by decide, aLv apf m (rowV apf g), ?_⟩
    show run apf _ _ _ _ (st0 [(0, .ints .u32 64 kk), (1, .ints .u32 64 kk)] _ _)
    generalize hK : kk = K
    generalize hap : apf = ap
    cbv
    repeat' first
      | exact True.intro
      | (intro (hh : _ = true); first | with_reducible exact absurd hh (bk_t (by assumption)) | cbv)
      | (intro (hh : _ = false); first | with_reducible exact absurd hh (bk_f (by assumption)) | cbv)
      | with_reducible refine And.intro ?_ ?_
      | (refine ⟨(0, 0), ?_, ?_⟩; rotate_left 1; (try cbv); with_reducible refine And.intro ?_ ?_)
      | fail
    all_goals first
      | (intro (x : Nat × Nat) hx k1 k2
         clear k1 k2
         obtain ⟨_ | k, hd⟩ := x
         all_goals cbv
         all_goals (
           repeat' first
             | exact True.intro
             | (intro (hh : _ = true); first | with_reducible exact absurd hh (bk_t (by assumption)) | cbv)
             | (intro (hh : _ = false); first | with_reducible exact absurd hh (bk_f (by assumption)) | cbv)
             | with_reducible refine And.intro ?_ ?_
             | (refine ⟨(k + 1 + 1, 28), ?_, (?_ : _ < _), ?_⟩; rotate_left 2; (try cbv); with_reducible refine And.intro ?_ ?_)
             | (refine ⟨(k + 1 + 1, 35), ?_, (?_ : _ < _), ?_⟩; rotate_left 2; (try cbv); with_reducible refine And.intro ?_ ?_)
             | (refine ⟨(1, 28), ?_, (?_ : _ < _), ?_⟩; rotate_left 2; (try cbv); with_reducible refine And.intro ?_ ?_)
             | (refine ⟨(1, 35), ?_, (?_ : _ < _), ?_⟩; rotate_left 2; (try cbv); with_reducible refine And.intro ?_ ?_)
             | fail))
      | skip
    all_goals subst hap
    all_goals try simp only [apf, Nat.succ_eq_add_one, cmF, arF, eqI', ltN, eqN, addN, leN, appN, V.cnt, Nat.zero_add, lt_t, lt_f, lenI, natI, dblI, upN] at *
    all_goals first
      | omega
      | exact fun _ _ => rfl
      | (rw [wadd_i64] <;> omega)
      | (refine lv_row0 (by omega) ?_; first | exact at_one (by omega) h2 (by assumption) | exact at_two (by omega) h2 (by assumption))
      | (refine lv_row (by omega) ?_; first | exact at_one (by omega) h2 (by assumption) | exact at_two (by omega) h2 (by assumption))
      | exact lv_end (by assumption)
      | exact rfl
      | trace_state
  · exact h.elim
theorem s78 : Sound Tryd.prog G2 78 (puM 78) (cLevel apf) := fn_sound rfl Tryd.call78 ok78 co78 (env_cons s82 env_nil) vc78
end Go.Cx.Rb
/- CxbM9 -/
namespace Go.Cx.Rb
open Go Go.Cx Go.Proofs
noncomputable def cRootR (ap : AP) : Ctr
  | [.b n 32 (.rows 32 _m f)] => .chk (ap _ _ isRw f) <| .chk (ap _ _ (ap _ _ ltN 0) n) <| .chk (ap _ _ (ap _ _ leN n) 999999) <|
      .ok ⟨.ints .u8 32 (ap _ _ rootL (ap _ _ (ap _ _ unR n) f)), [], []⟩
  | _ => .fail 608
noncomputable def famRt (ap : AP) (m : Nat) (f : Nat → V) (L : List (List Int)) : Nat → LSt
  | 0 => ⟨[(0, .sl (parH 0) [] 0 m 32 none), (2, .ptr 2 [])], [(parH 0, ⟨.bor, .rows 32 m f⟩), (2, ⟨.own, .ints .u8 32 (ap _ _ zerosI 32)⟩)], []⟩
  | j + 1 => ⟨[(0, .sl 7000 [] 0 (ap _ _ lenL (ap _ _ (ap _ _ lvl L) (j + 1))) 32 none), (2, .ptr 2 [])], [(7000, ⟨.own, .rows 32 (ap _ _ lenL (ap _ _ (ap _ _ lvl L) (j + 1))) (fun t => .ints .u8 32 (ap _ _ (ap _ _ getL (ap _ _ (ap _ _ lvl L) (j + 1))) t))⟩), (2, ⟨.own, .ints .u8 32 (ap _ _ zerosI 32)⟩)], [(7000, 7)]⟩
noncomputable def aRt (ap : AP) (m : Nat) (f : Nat → V) (L : List (List Int)) : List (Nat × Ann) := [(0, .inv Nat (famRt ap m f L) (fun j => j < ap _ _ hN m) (fun j => ap _ _ hN m - j))]
theorem unR_l {l : List (List Int)} : unR l.length (fun t => .ints .u8 32 (getL l t)) = l := unR_e rfl
theorem root_at {l : List (List Int)} {j : Nat} (h0 : 0 < l.length) (hj : j < hN l.length) (h : (lvl l j).length ≤ 1) : getL (lvl l j) 0 = rootL l := by
  have := lvl_has h0 hj
  rw [rootL, topT, show hN l.length - 1 = j by omega]
theorem HLm {m : Nat} {g : Nat → List Int} (h1 : 0 < m) : ∀ j, j < hN m → 0 < (lvl (unR m (rowV apf g)) j).length ∧ (1 < (lvl (unR m (rowV apf g)) j).length ↔ j + 1 < hN m) := fun j hj => by
  have := lvl_has (l := unR m (rowV apf g)) (j := j) (by rw [unR_len]; exact h1) (by rw [unR_len]; exact hj)
  rwa [unR_len] at this
theorem HEm {m : Nat} {g : Nat → List Int} : ∀ j, (lvl (unR m (rowV apf g)) j).length ≤ m + 1 := fun j => by
  have := lvl_len_le (l := unR m (rowV apf g)) (j := j)
  rwa [unR_len] at this
theorem lv_next {l : List (List Int)} {j : Nat} : eqRows (lvl l (j + 1)).length (fun t => .ints .u8 32 (getL (lvl l (j + 1)) t)) fun t => .ints .u8 32 (getL (upL (unR (lvl l j).length fun i => .ints .u8 32 (getL (lvl l j) i))) t) := by
  rw [unR_l]
  exact fun _ _ => rfl
set_option maxRecDepth 20000 in
set_option maxHeartbeats 1600000 in
theorem vc25 (args : List Arg) (out : Out) (h : (cRootR apf args).to out) (hok : okAs args) :
    args.length = ic25.nargs ∧ ic25.nargs ≤ ic25.ntmps ∧ ∃ A, run apf [(78, cLevel apf)] A ic25.body (fnQ apf args out ic25.res) (st0 G2 true args) := by
  unfold cRootR at h
  split at h
  · rename_i n m f
    obtain ⟨hf, h1, h2, h⟩ := h
    cases h
    obtain ⟨⟨_, ⟨rfl, _⟩, _⟩, _⟩ := hok
    have h1 : 0 < m := h1
    have h2 : m ≤ 999999 := h2
    generalize hg : unRw f = g
    have hf : f = rowV apf g := by rw [← hg]; exact hf
    clear hg
    subst hf
    refine ⟨rfl, by decide, aRt apf m (rowV apf g) (apf _ _ (apf _ _ unR m) (rowV apf g)), ?_⟩
    show run apf _ _ _ _ (st0 [(0, .ints .u32 64 kk), (1, .ints .u32 64 kk)] _ _)
    generalize hK : kk = K
    generalize hap : apf = ap
    cbv
    repeat' first
      | exact True.intro
      | (intro (hh : _ = true); first | with_reducible exact absurd hh (bk_t (by assumption)) | cbv)
      | (intro (hh : _ = false); first | with_reducible exact absurd hh (bk_f (by assumption)) | cbv)
      | with_reducible refine And.intro ?_ ?_
      | (refine ⟨0, ?_, ?_⟩; rotate_left 1; (try cbv); with_reducible refine And.intro ?_ ?_)
      | fail
    all_goals first
      | (intro (x : Nat) hx k1 k2
         clear k1 k2
         obtain _ | k := x
         all_goals cbv
         all_goals (
           repeat' first
             | exact True.intro
             | (intro (hh : _ = true); first | with_reducible exact absurd hh (bk_t (by assumption)) | cbv)
             | (intro (hh : _ = false); first | with_reducible exact absurd hh (bk_f (by assumption)) | cbv)
             | with_reducible refine And.intro ?_ ?_
             | (refine ⟨k + 1 + 1, ?_, (?_ : _ < _), ?_⟩; rotate_left 2; (try cbv); with_reducible refine And.intro ?_ ?_)
             | (refine ⟨1, ?_, (?_ : _ < _), ?_⟩; rotate_left 2; (try cbv); with_reducible refine And.intro ?_ ?_)
             | fail))
      | skip
    all_goals subst hap
    all_goals have HP := hN_pos m
    all_goals have HL := HLm (g := g) h1
    all_goals have HE := HEm (g := g) (m := m)
    all_goals have H0 : (lvl (unR m (rowV apf g)) 0).length = m := unR_len
    all_goals try simp only [apf, Nat.sub_eq, Nat.succ_eq_add_one, cmF, eqL', ltN, eqN, addN, leN, V.cnt, Nat.zero_add, Nat.add_zero, gt_t, gt_f, lenI, lenL, upN] at *
    all_goals first
      | exact fun _ _ => rfl
      | exact lv_next
      | omega
      | exact lvl_len2
      | (have q := HL (k + 1) (by assumption); omega)
      | (have q := HL 0 HP; omega)
      | (have q := HE (k + 1); omega)
      | (rw [lvl_len2]; omega)
      | (rw [rootL_one (by rw [unR_len]; omega), unR_get h1]; rfl)
      | exact (root_at (by rw [unR_len]; exact h1) (by rw [unR_len]; assumption) (by omega)).symm
      | exact rfl
      | trace_state
  · exact h.elim
theorem s25 : Sound Tryd.prog G2 25 (puM 25) (cRootR apf) := fn_sound rfl Tryd.call25 ok25 co25 (env_cons s78 env_nil) vc25
end Go.Cx.Rb
/- CxbMA -/
namespace Go.Cx.Rb
open Go Go.Cx Go.Proofs
def plP (n : Nat) (i : Int) : Prop := 0 ≤ i ∧ i < n
def pathI (l : List (List Int)) (i : Int) : List (List Int) := pathT l i.toNat
def emL (l : List (List Int)) : Bool := l.isEmpty
def pathJ (l : List (List Int)) (i : Int) (j : Nat) : List (List Int) := pathK l i.toNat j
def plcI (i : Int) (j : Nat) : Int := (plc i.toNat j : Nat)
noncomputable def cPathR (ap : AP) : Ctr
  | [.b n 32 (.rows 32 _m f), .v (.int .i64 i)] => .chk (ap _ _ isRw f) <| .chk (ap _ _ (ap _ _ plP n) i) <| .chk (ap _ _ (ap _ _ leN n) 999999) <|
      .br (ap _ _ emL (ap _ _ (ap _ _ pathI (ap _ _ (ap _ _ unR n) f)) i)) (.ok ⟨.nsl, [], []⟩)
        (.ok ⟨.sl 0 [] 0 (ap _ _ lenL (ap _ _ (ap _ _ pathI (ap _ _ (ap _ _ unR n) f)) i)) 32 none, [], [.rows 32 (ap _ _ lenL (ap _ _ (ap _ _ pathI (ap _ _ (ap _ _ unR n) f)) i)) (fun t => .ints .u8 32 (ap _ _ (ap _ _ getL (ap _ _ (ap _ _ pathI (ap _ _ (ap _ _ unR n) f)) i)) t))]⟩)
  | _ => .fail 609
noncomputable def famPr (ap : AP) (m : Nat) (f : Nat → V) (i : Int) (L : List (List Int)) : Nat × Nat → LSt
  | (0, _) => ⟨[(5, .nsl), (0, .sl (parH 0) [] 0 m 32 none), (1, .int .i64 (ap _ _ (ap _ _ plcI i) 0))], [(parH 0, ⟨.bor, .rows 32 m f⟩)], []⟩
  | (j + 1, 0) => ⟨[(5, .nsl), (0, .sl 7000 [] 0 (ap _ _ lenL (ap _ _ (ap _ _ lvl L) (j + 1))) 32 none), (1, .int .i64 (ap _ _ (ap _ _ plcI i) (j + 1)))], [(7000, ⟨.own, .rows 32 (ap _ _ lenL (ap _ _ (ap _ _ lvl L) (j + 1))) (fun t => .ints .u8 32 (ap _ _ (ap _ _ getL (ap _ _ (ap _ _ lvl L) (j + 1))) t))⟩)], [(7000, 34)]⟩
  | (j + 1, h + 1) => ⟨[(5, .sl 7001 [] 0 (ap _ _ lenL (ap _ _ (ap _ _ (ap _ _ pathJ L) i) (j + 1))) 32 none), (0, .sl 7000 [] 0 (ap _ _ lenL (ap _ _ (ap _ _ lvl L) (j + 1))) 32 none), (1, .int .i64 (ap _ _ (ap _ _ plcI i) (j + 1)))], [(7000, ⟨.own, .rows 32 (ap _ _ lenL (ap _ _ (ap _ _ lvl L) (j + 1))) (fun t => .ints .u8 32 (ap _ _ (ap _ _ getL (ap _ _ (ap _ _ lvl L) (j + 1))) t))⟩), (7001, ⟨.own, .rows 32 (ap _ _ lenL (ap _ _ (ap _ _ (ap _ _ pathJ L) i) (j + 1))) (fun t => .ints .u8 32 (ap _ _ (ap _ _ getL (ap _ _ (ap _ _ (ap _ _ pathJ L) i) (j + 1))) t))⟩)], [(7000, 34), (7001, h + 1)]⟩
def pPr (L : List (List Int)) (i : Int) (m : Nat) (x : Nat × Nat) : Prop := x.1 < hN m ∧ (x.1 = 0 ∨ (x.2 = 0 ↔ pathJ L i x.1 = []))
noncomputable def aPr (ap : AP) (m : Nat) (f : Nat → V) (i : Int) (L : List (List Int)) : List (Nat × Ann) := [(0, .inv (Nat × Nat) (famPr ap m f i L) (fun x => ap _ _ (ap _ _ (ap _ _ (ap _ _ pPr L) i) m) x) (fun x => ap _ _ hN m - x.1))]
theorem bes_odd {l : List (List Int)} {P : Nat} (h : P % 2 = 1) (hp : P < l.length) : besL l P = [getL l (P - 1)] := by
  rw [besL, sib, if_pos h, if_pos (by omega)]
theorem bes_even {l : List (List Int)} {P : Nat} (h : P % 2 ≠ 1) (hp : P + 1 < l.length) : besL l P = [getL l (P + 1)] := by
  rw [besL, sib, if_neg h, if_pos (by omega)]
theorem bes_none {l : List (List Int)} {P : Nat} (h : P % 2 ≠ 1) (hp : l.length ≤ P + 1) : besL l P = [] := by
  rw [besL, sib, if_neg h, if_neg (by omega)]
theorem bes_le {l : List (List Int)} {P : Nat} : (besL l P).length ≤ 1 := by
  rw [besL]; split <;> simp
theorem pathK_le {l : List (List Int)} {i : Nat} : ∀ {j : Nat}, (pathK l i j).length ≤ j
  | 0 => Nat.le_refl _
  | j + 1 => by rw [pathK, List.length_append]; have := pathK_le (l := l) (i := i) (j := j); have := bes_le (l := lvl l j) (P := plc i j); omega
theorem pfacts {L : List (List Int)} {i : Int} {m j h : Nat} (hL : L.length = m) (h0 : 0 ≤ i) (h1 : i < m) (h2 : m ≤ 999999) (hx : pPr L i m (j, h)) :
    ∃ P : Nat, plcI i j = (P : Int) ∧ plcI i (j + 1) = ((P / 2 : Nat) : Int) ∧ P < (lvl L j).length ∧ (lvl L j).length ≤ m + 1 ∧ j < hN m ∧ (1 < (lvl L j).length ↔ j + 1 < hN m) ∧
      pathJ L i (j + 1) = pathJ L i j ++ besL (lvl L j) P ∧ (pathJ L i j).length ≤ j ∧ hN m ≤ m ∧ wadd .i64 (P : Int) 1 = ((P + 1 : Nat) : Int) ∧ wsub .i64 (P : Int) 1 = (P : Int) - 1 ∧ wrem .i64 (P : Int) 2 = ((P % 2 : Nat) : Int) ∧ wquo .i64 (P : Int) 2 = ((P / 2 : Nat) : Int) ∧
      (j + 1 = hN m → pathI L i = pathJ L i j) := by
  subst hL
  have a1 : 0 < L.length := by omega
  have a2 : i.toNat < L.length := by omega
  have a3 := lvl_has a1 hx.1
  have a4 := plc_lt (j := j) a2
  have a5 := lvl_len_le (l := L) (j := j)
  refine ⟨plc i.toNat j, rfl, congrArg Int.ofNat plc_succ, a4, a5, hx.1, a3.2, rfl, pathK_le, hN_le _ a1, wadd_i64 (by omega), wsub_i64 (by omega), rfl, quo_i64 (by omega), fun e => ?_⟩
  rw [pathI, pathT, ← e, Nat.add_sub_cancel]
  rfl
theorem row_snoc {z : V} {l : List (List Int)} {x x' : List Int} (h : x' = x) : eqRows (l ++ [x]).length (fun t => .ints .u8 32 (getL (l ++ [x]) t)) (catR (fun j => .ints .u8 32 (getL l j)) l.length fun j => lkV z [(0, .ints .u8 32 x')] j) := by
  subst h
  intro j hj
  simp only [List.length_append, List.length_cons, List.length_nil] at hj
  simp only [catR]
  by_cases c : j < l.length
  · rw [if_pos c]
    simp [getL, List.getD_eq_getElem?_getD, List.getElem?_append, c]
  · obtain rfl : j = l.length := by omega
    rw [if_neg c, Nat.sub_self]
    simp [getL, List.getD_eq_getElem?_getD, lkV]
theorem row_one {z : V} {x x' : List Int} (h : x' = x) : eqRows [x].length (fun t => .ints .u8 32 (getL [x] t)) (fun j => lkV z [(0, .ints .u8 32 x')] j) := by
  subst h
  intro j hj
  obtain rfl : j = 0 := by simpa using hj
  rfl
theorem plc0 {i : Int} (h : 0 ≤ i) : plcI i 0 = i := by rw [plcI, plc_zero]; exact Int.toNat_of_nonneg h
theorem pathJ0 {l : List (List Int)} {i : Int} : pathJ l i 0 = [] := rfl
theorem pnil {L : List (List Int)} {i : Int} {m j : Nat} (h : pPr L i m (j + 1, 0)) : pathJ L i (j + 1) = [] := h.2.elim (fun e => absurd e (by simp)) (fun e => e.1 rfl)
theorem pnot {L : List (List Int)} {i : Int} {m j h : Nat} (hx : pPr L i m (j + 1, h + 1)) : pathJ L i (j + 1) ≠ [] := hx.2.elim (fun e => absurd e (by simp)) (fun e k => absurd (e.2 k) (by simp))
theorem mkP {L : List (List Int)} {i : Int} {m j h : Nat} (a : j < hN m) (b : h = 0 ↔ pathJ L i j = []) : pPr L i m (j, h) := ⟨a, .inr b⟩
theorem em_t {l : List (List Int)} (h : emL l = true) : l = [] := List.isEmpty_iff.1 h
theorem isRw_l {g : Nat → List Int} : isRw (fun t => .ints .u8 32 (g t)) := rfl
theorem g_at {m t : Nat} {g : Nat → List Int} (h : t < m) : g t = getL (lvl (unR m (rowV apf g)) 0) t := (unR_get (f := rowV apf g) h).symm
set_option maxRecDepth 20000 in
set_option maxHeartbeats 1600000 in
theorem vc30 (args : List Arg) (out : Out) (h : (cPathR apf args).to out) (hok : okAs args) :
    args.length = ic30.nargs ∧ ic30.nargs ≤ ic30.ntmps ∧ ∃ A, run apf [(78, cLevel apf)] A ic30.body (fnQ apf args out ic30.res) (st0 G2 true args) := by
  unfold cPathR at h
  split at h
  · rename_i n m f i
    obtain ⟨hf, h1, h2, h⟩ := h
    obtain ⟨⟨_, ⟨rfl, _⟩, _⟩, _⟩ := hok
    obtain ⟨h0, h1⟩ : plP m i := h1
    have h2 : m ≤ 999999 := h2
    generalize hg : unRw f = g
    have hf : f = rowV apf g := by rw [← hg]; exact hf
    clear hg
    subst hf
    have hm : 0 < m := by omega
    have HP := hN_pos m
    have HL := HLm (g := g) hm
    have HE := HEm (g := g) (m := m)
    have H0 : (lvl (unR m (rowV apf g)) 0).length = m := unR_len
    rcases h with ⟨hb, h⟩ | ⟨hb, h⟩
    all_goals cases h
    all_goals (
      refine ⟨rfl, by decide, aPr apf m (rowV apf g) i (apf _ _ (apf _ _ unR m) (rowV apf g)), ?_⟩
      show run apf _ _ _ _ (st0 [(0, .ints .u32 64 kk), (1, .ints .u32 64 kk)] _ _)
      generalize hK : kk = K
      generalize hap : apf = ap
      cbv
      repeat' first
        | exact True.intro
        | (intro (hh : _ = true); first | with_reducible exact absurd hh (bk_t (by assumption)) | cbv)
        | (intro (hh : _ = false); first | with_reducible exact absurd hh (bk_f (by assumption)) | cbv)
        | with_reducible refine And.intro ?_ ?_
        | (refine ⟨(0, 0), ?_, ?_⟩; rotate_left 1; (try cbv); with_reducible refine And.intro ?_ ?_)
        | fail
      all_goals first
        | (intro (x : Nat × Nat) hx k1 k2
           clear k1 k2
           obtain ⟨_ | k, _ | hd⟩ := x
           all_goals cbv
           all_goals (
             repeat' first
               | exact True.intro
               | (intro (hh : _ = true); first | with_reducible exact absurd hh (bk_t (by assumption)) | cbv)
               | (intro (hh : _ = false); first | with_reducible exact absurd hh (bk_f (by assumption)) | cbv)
               | with_reducible refine And.intro ?_ ?_
               | (refine ⟨(k + 1 + 1, 19), ?_, (?_ : _ < _), ?_⟩; rotate_left 2; (try cbv); with_reducible refine And.intro ?_ ?_)
               | (refine ⟨(k + 1 + 1, 32), ?_, (?_ : _ < _), ?_⟩; rotate_left 2; (try cbv); with_reducible refine And.intro ?_ ?_)
               | (refine ⟨(k + 1 + 1, 0), ?_, (?_ : _ < _), ?_⟩; rotate_left 2; (try cbv); with_reducible refine And.intro ?_ ?_)
               | (refine ⟨(k + 1 + 1, 7001), ?_, (?_ : _ < _), ?_⟩; rotate_left 2; (try cbv); with_reducible refine And.intro ?_ ?_)
               | (refine ⟨(1, 19), ?_, (?_ : _ < _), ?_⟩; rotate_left 2; (try cbv); with_reducible refine And.intro ?_ ?_)
               | (refine ⟨(1, 32), ?_, (?_ : _ < _), ?_⟩; rotate_left 2; (try cbv); with_reducible refine And.intro ?_ ?_)
               | (refine ⟨(1, 0), ?_, (?_ : _ < _), ?_⟩; rotate_left 2; (try cbv); with_reducible refine And.intro ?_ ?_)
               | (refine ⟨(1, 7001), ?_, (?_ : _ < _), ?_⟩; rotate_left 2; (try cbv); with_reducible refine And.intro ?_ ?_)
               | fail))
        | skip
      all_goals subst hap
      all_goals try simp only [cast_fix] at *
      all_goals first
        | (have F := pfacts (L := unR m (rowV apf g)) unR_len h0 h1 h2 hx
           obtain ⟨P, q1, q2, q3, q4, q5, q6, q7, q8, q9, r1, r2, r3, r4, r5⟩ := F
           try simp only [apf, cmF, arF, eq_t, eq_f, lt_t, lt_f, gt_t, gt_f, lenI, lenL, q1, q2, r1, r2, r3, r4, Nat.zero_add] at *
           first
             | rw [pnil hx, List.nil_append] at q7
             | rw [pathJ0, List.nil_append] at q7
             | skip
           first
             | rw [bes_odd (by omega) (by omega)] at q7
             | rw [bes_even (by omega) (by omega)] at q7
             | rw [bes_none (by omega) (by omega)] at q7
             | skip)
        | skip
      all_goals try simp only [apf, Nat.succ_eq_add_one, eqI', ltN, eqN, addN, leN, appN, V.cnt, Nat.zero_add, natI, upN] at *
      all_goals first
        | exact fun _ _ => rfl
        | exact lv_next
        | omega
        | exact isRw_l
        | exact lvl_len2
        | (rw [q7]; simp only [List.length_cons, List.length_nil]; done)
        | (rw [q7, List.append_nil]; done)
        | (rw [q7, List.length_append]; simp only [List.length_cons, List.length_nil]; done)
        | (rw [q7, List.append_nil]; exact fun _ _ => rfl)
        | (rw [q7]; refine row_one ?_; (first | rw [show ((P : Int) - 1).toNat = P - 1 by omega] | rw [Int.toNat_natCast]) <;> first | with_reducible exact rfl | exact g_at (by omega))
        | (rw [q7]; refine row_snoc ?_; (first | rw [show ((P : Int) - 1).toNat = P - 1 by omega] | rw [Int.toNat_natCast]) <;> first | with_reducible exact rfl | exact g_at (by omega))
        | (rw [r5 (by omega)]; done)
        | (rw [r5 (by omega)]; exact fun _ _ => rfl)
        | (rw [r5 (by omega)] at hb; exact pnot hx (em_t hb))
        | (rw [r5 (by omega), pnil hx] at hb; cases hb)
        | (rw [r5 (by omega), pathJ0] at hb; cases hb)
        | (refine mkP (by omega) ?_; rw [q7]; simp; done)
        | (refine mkP (by omega) ?_; rw [q7, List.append_nil]; simp [pnot hx]; done)
        | exact plc0 h0
        | exact ⟨HP, .inl rfl⟩
        | (have q := HL (k + 1) (by assumption); omega)
        | (have q := HL 0 HP; omega)
        | (have q := HE (k + 1); omega)
        | (rw [lvl_len2]; omega)
        | trace_state)
  · exact h.elim
theorem s30 : Sound Tryd.prog G2 30 (puM 30) (cPathR apf) := fn_sound rfl Tryd.call30 ok30 co30 (env_cons s78 env_nil) vc30
end Go.Cx.Rb
/- CxbMB -/
namespace Go.Cx.Rb
open Go Go.Cx Go.Proofs
structure FoS where
  sz : Nat
  i : Nat
  x : List Int
  k : Nat
end Go.Cx.Rb
/- CxbMC -/
namespace Go.Cx.Rb
open Go Go.Cx Go.Proofs
def lfD (b : List Int) : List Int := digest ([0] ++ b)
theorem lf_e {b : List Int} {n : Nat} (h : b.length = n) : lfD b = digest (subL (catL (subL [0] 0 1) (subL b 0 n)) 0 (1 + n)) := by
  rw [subL_one, subL_all (Nat.le_of_eq h), subL_all (by simp only [catL, List.length_append, List.length_cons, List.length_nil, h]; omega), lfD, catL]
noncomputable def cLeafD (ap : AP) : Ctr
  | [.b n 1 (.ints .u8 _ b)] => .chk (ap _ _ (ap _ _ leN n) 140737488355255) <| .ok ⟨.ints .u8 32 (ap _ _ lfD b), [], []⟩
  | _ => .fail 611
/-- two rows of digests -/
def eqLL (a b : List (List Int)) : Bool := decide (a = b)
noncomputable def cPaths (ap : AP) : Ctr
  | [.b n 32 (.rows 32 _ f), .b k 32 (.rows 32 _ g)] => .chk (ap _ _ isRw f) <| .chk (ap _ _ isRw g) <| .ok ⟨.bool (ap _ _ (ap _ _ eqLL (ap _ _ (ap _ _ unR n) f)) (ap _ _ (ap _ _ unR k) g)), [], []⟩
  | _ => .fail 612
def pPa (p q : List (List Int)) (i : Nat) : Prop := i ≤ p.length ∧ ∀ j, j < i → getL p j = getL q j
noncomputable def aPa (ap : AP) (n : Nat) (f g : Nat → V) (p q : List (List Int)) : List (Nat × Ann) := [(0, .inv Nat (fun i => ⟨[(0, .sl (parH 0) [] 0 n 32 none), (1, .sl (parH 1) [] 0 n 32 none), (12, .int .i64 (ap _ _ lenI n)), (13, .int .i64 (ap _ _ lenI i))],
  [(parH 0, ⟨.bor, .rows 32 n f⟩), (parH 1, ⟨.bor, .rows 32 n g⟩)], []⟩) (fun i => ap _ _ (ap _ _ (ap _ _ pPa p) q) i) (fun i => n - i))]
theorem eqLL_ne {a b : List (List Int)} (h : a.length ≠ b.length) : eqLL a b = false := decide_eq_false (fun e => h (congrArg List.length e))
theorem eqLL_at {a b : List (List Int)} {i : Nat} (h : getL a i ≠ getL b i) : eqLL a b = false := decide_eq_false (fun e => h (by rw [e]))
theorem eqLL_all {a b : List (List Int)} {i : Nat} (hl : a.length = b.length) (h : pPa a b i) (hi : a.length ≤ i) : eqLL a b = true := by
  refine decide_eq_true (List.ext_getElem hl fun j h1 h2 => ?_)
  have := h.2 j (by omega)
  simpa [getL, List.getD_eq_getElem?_getD, h1, h2] using this
theorem pPa_next {a b : List (List Int)} {i : Nat} (h : pPa a b i) (hi : i < a.length) (e : getL a i = getL b i) : pPa a b (i + 1) := by
  refine ⟨hi, fun j hj => ?_⟩
  rcases Nat.lt_or_eq_of_le (Nat.le_of_lt_succ hj) with c | c
  · exact h.2 j c
  · rw [c]; exact e
theorem pPa_zero {a b : List (List Int)} : pPa a b 0 := ⟨Nat.zero_le _, fun j hj => by omega⟩
set_option maxRecDepth 20000 in
set_option maxHeartbeats 1600000 in
theorem vc31 (args : List Arg) (out : Out) (h : (cLeafD apf args).to out) (hok : okAs args) :
    args.length = ic31.nargs ∧ ic31.nargs ≤ ic31.ntmps ∧ ∃ A, run apf [(79, cDig apf)] A ic31.body (fnQ apf args out ic31.res) (st0 G2 true args) := by
  unfold cLeafD at h
  split at h
  · rename_i n m b
    obtain ⟨hn, h⟩ := h
    cases h
    obtain ⟨⟨_, ⟨rfl, _⟩, ⟨hl, _⟩⟩, _⟩ := hok
    have hn : m ≤ 140737488355255 := hn
    refine ⟨rfl, by decide, [], ?_⟩
    show run apf _ _ _ _ (st0 [(0, .ints .u32 64 kk), (1, .ints .u32 64 kk)] _ _)
    generalize hK : kk = K
    generalize hap : apf = ap
    cbv
    repeat' first
      | exact True.intro
      | (intro (hh : _ = true); first | with_reducible exact absurd hh (bk_t (by assumption)) | cbv)
      | (intro (hh : _ = false); first | with_reducible exact absurd hh (bk_f (by assumption)) | cbv)
      | with_reducible refine And.intro ?_ ?_
      | fail
    all_goals subst hap
    all_goals try simp only [apf, eqL', eqN, addN, leN, appN, V.cnt, Nat.zero_add] at *
    all_goals first
      | omega
      | with_reducible exact lf_e hl
      | trace_state
  · exact h.elim
theorem s31 : Sound Tryd.prog G2 31 (puM 31) (cLeafD apf) := fn_sound rfl Tryd.call31 ok31 co31 (env_cons s79' env_nil) vc31
set_option maxRecDepth 20000 in
set_option maxHeartbeats 1600000 in
theorem vc32 (args : List Arg) (out : Out) (h : (cLeafD apf args).to out) (hok : okAs args) :
    args.length = ic32.nargs ∧ ic32.nargs ≤ ic32.ntmps ∧ ∃ A, run apf [(80, cRef apf)] A ic32.body (fnQ apf args out ic32.res) (st0 G2 true args) := by
  unfold cLeafD at h
  split at h
  · rename_i n m b
    obtain ⟨hn, h⟩ := h
    cases h
    obtain ⟨⟨_, ⟨rfl, _⟩, ⟨hl, _⟩⟩, _⟩ := hok
    have hn : m ≤ 140737488355255 := hn
    refine ⟨rfl, by decide, [], ?_⟩
    show run apf _ _ _ _ (st0 [(0, .ints .u32 64 kk), (1, .ints .u32 64 kk)] _ _)
    generalize hK : kk = K
    generalize hap : apf = ap
    cbv
    repeat' first
      | exact True.intro
      | (intro (hh : _ = true); first | with_reducible exact absurd hh (bk_t (by assumption)) | cbv)
      | (intro (hh : _ = false); first | with_reducible exact absurd hh (bk_f (by assumption)) | cbv)
      | with_reducible refine And.intro ?_ ?_
      | fail
    all_goals subst hap
    all_goals try simp only [apf, eqL', eqN, addN, leN, appN, V.cnt, Nat.zero_add] at *
    all_goals first
      | omega
      | with_reducible exact lf_e hl
      | trace_state
  · exact h.elim
theorem s32 : Sound Tryd.prog G2 32 (puM 32) (cLeafD apf) := fn_sound rfl Tryd.call32 ok32 co32 (env_cons s80 env_nil) vc32
set_option maxRecDepth 20000 in
set_option maxHeartbeats 1600000 in
theorem vc29 (args : List Arg) (out : Out) (h : (cPaths apf args).to out) (hok : okAs args) :
    args.length = ic29.nargs ∧ ic29.nargs ≤ ic29.ntmps ∧ ∃ A, run apf [] A ic29.body (fnQ apf args out ic29.res) (st0 G2 true args) := by
  unfold cPaths at h
  split at h
  · rename_i n m f k k' g
    obtain ⟨hf, hg, h⟩ := h
    cases h
    obtain ⟨⟨hn, ⟨rfl, _⟩, hof⟩, ⟨hk, ⟨rfl, _⟩, hog⟩, _⟩ := hok
    generalize ha : unRw f = a
    have hf : f = rowV apf a := by rw [← ha]; exact hf
    clear ha
    subst hf
    generalize hb : unRw g = b
    have hg : g = rowV apf b := by rw [← hb]; exact hg
    clear hb
    subst hg
    have e1 : (unR m (rowV apf a)).length = m := unR_len
    have e2 : (unR k' (rowV apf b)).length = k' := unR_len
    by_cases hc : m = k'
    · subst hc
      refine ⟨rfl, by decide, aPa apf m (rowV apf a) (rowV apf b) (apf _ _ (apf _ _ unR m) (rowV apf a)) (apf _ _ (apf _ _ unR m) (rowV apf b)), ?_⟩
      show run apf _ _ _ _ (st0 [(0, .ints .u32 64 kk), (1, .ints .u32 64 kk)] _ _)
      generalize hK : kk = K
      generalize hap : apf = ap
      cbv
      repeat' first
        | exact True.intro
        | (intro (hh : _ = true); first | with_reducible exact absurd hh (bk_t (by assumption)) | cbv)
        | (intro (hh : _ = false); first | with_reducible exact absurd hh (bk_f (by assumption)) | cbv)
        | with_reducible refine And.intro ?_ ?_
        | (refine ⟨0, ?_, ?_⟩; rotate_left 1; (try cbv); with_reducible refine And.intro ?_ ?_)
        | (refine ⟨i + 1, ?_, (?_ : _ < _), ?_⟩; rotate_left 2; (try cbv); with_reducible refine And.intro ?_ ?_)
        | fail
      all_goals first
        | (intro (i : Nat) hi k1 k2
           clear k1 k2
           cbv
           repeat' first
             | exact True.intro
             | (intro (hh : _ = true); first | with_reducible exact absurd hh (bk_t (by assumption)) | cbv)
             | (intro (hh : _ = false); first | with_reducible exact absurd hh (bk_f (by assumption)) | cbv)
             | with_reducible refine And.intro ?_ ?_
             | (refine ⟨i + 1, ?_, (?_ : _ < _), ?_⟩; rotate_left 2; (try cbv); with_reducible refine And.intro ?_ ?_)
             | fail
           )
        | skip
      all_goals subst hap
      all_goals try simp only [apf, Nat.sub_eq, Nat.succ_eq_add_one, cmF, arF, eqI', eqB', ltN, eqN, addN, Nat.zero_add, ne_t, ne_f, lt_t, lt_f, eqL_t, eqL_f, notB_t, notB_f, lenI, natI] at *
      all_goals try simp only [cast_fix] at *
      all_goals first
        | exact fun _ _ => rfl
        | omega
        | exact pPa_zero
        | (rw [inc_i64 (by omega)]; done)
        | exact eqLL_all (by omega) hi (by omega)
        | exact (eqLL_all (by omega) hi (by omega)).symm
        | exact pPa_next hi (by omega) (by rw [unR_get (by omega), unR_get (by omega)]; assumption)
        | exact eqLL_at (i := i) (by rw [unR_get (by omega), unR_get (by omega)]; assumption)
        | exact (eqLL_at (i := i) (by rw [unR_get (by omega), unR_get (by omega)]; assumption)).symm
        | trace_state
    · refine ⟨rfl, by decide, [], ?_⟩
      show run apf _ _ _ _ (st0 [(0, .ints .u32 64 kk), (1, .ints .u32 64 kk)] _ _)
      generalize hK : kk = K
      generalize hap : apf = ap
      cbv
      repeat' first
        | exact True.intro
        | (intro (hh : _ = true); first | with_reducible exact absurd hh (bk_t (by assumption)) | cbv)
        | (intro (hh : _ = false); first | with_reducible exact absurd hh (bk_f (by assumption)) | cbv)
        | with_reducible refine And.intro ?_ ?_
        | fail
      all_goals subst hap
      all_goals try simp only [apf, cmF, eqB', ne_t, ne_f, lenI] at *
      all_goals try simp only [cast_fix] at *
      all_goals first
        | omega
        | exact eqLL_ne (by omega)
        | exact (eqLL_ne (by omega)).symm
        | trace_state
  · exact h.elim
theorem s29 : Sound Tryd.prog G2 29 (puM 29) (cPaths apf) := fn_sound rfl Tryd.call29 ok29 co29 env_nil vc29
end Go.Cx.Rb
/- CxbMD -/
namespace Go.Cx.Rb
open Go Go.Cx Go.Proofs
def badN (n : Nat) : Bool := decide (n < 1 ∨ 256 < n)
noncomputable def treeL (ap : AP) (m : Nat) (l : List (List Int)) : V := treeA ap m (ap _ _ lvl l)
noncomputable def cNewT (ap : AP) : Ctr
  | [.b n 32 (.rows 32 _ f)] => .chk (ap _ _ isRw f) <| .br (ap _ _ badN n)
      (.ok ⟨.tcons .nilp (.tcons (.int .i64 2) .tnil), [], []⟩)
      (.ok ⟨.tcons (.ptr 0 []) (.tcons (.int .i64 0) .tnil), [], [treeL ap (ap _ _ hN n) (ap _ _ (ap _ _ unR n) f)]⟩)
  | _ => .fail 613
/-- the first i of a row, noughts behind them -/
def fillLL (l : List (List Int)) (i : Nat) : List (List Int) := l.take i ++ List.replicate (l.length - i) (zerosI 32)
noncomputable def famNt (ap : AP) (L : List (List Int)) : Nat → LSt
  | 0 => ⟨[(5, .sl 7000 [] 0 (ap _ _ lenL (ap _ _ (ap _ _ lvl L) 0)) 32 none), (4, .ptr 20 [])], [(20, ⟨.own, .sl 7001 [] 0 1 1 none⟩), (7001, ⟨.own, .orow 1 32 (levV ap (ap _ _ lvl L)) [(0, 7000, ap _ _ lenL (ap _ _ (ap _ _ lvl L) 0))]⟩), (7000, ⟨.own, .rows 32 (ap _ _ lenL (ap _ _ (ap _ _ lvl L) 0)) (fun t => .ints .u8 32 (ap _ _ (ap _ _ getL ((ap _ _ (ap _ _ lvl L) 0))) t))⟩)], [(7000, 17), (7001, 18)]⟩
  | j + 1 => ⟨[(5, .sl 7000 [] 0 (ap _ _ lenL (ap _ _ (ap _ _ lvl L) (j + 1))) 32 none), (4, .ptr 20 [])], [(20, ⟨.own, .sl 7001 [] 0 (j + 2) 1 none⟩), (7001, ⟨.own, .orow (j + 2) 32 (levV ap (ap _ _ lvl L)) [(j + 1, 7000, ap _ _ lenL (ap _ _ (ap _ _ lvl L) (j + 1)))]⟩), (7000, ⟨.own, .rows 32 (ap _ _ lenL (ap _ _ (ap _ _ lvl L) (j + 1))) (fun t => .ints .u8 32 (ap _ _ (ap _ _ getL ((ap _ _ (ap _ _ lvl L) (j + 1)))) t))⟩)], [(7000, 34), (7001, 54)]⟩
noncomputable def famNu (ap : AP) (L : List (List Int)) (j i : Nat) : LSt :=
  ⟨[(5, .sl 7000 [] 0 (ap _ _ lenL (ap _ _ (ap _ _ lvl L) j)) 32 none), (4, .ptr 20 []), (6, .sl 34 [] 0 (ap _ _ upN (ap _ _ lenL (ap _ _ (ap _ _ lvl L) j))) 32 none), (36, .int .i64 (ap _ _ lenI (ap _ _ upN (ap _ _ lenL (ap _ _ (ap _ _ lvl L) j))))), (37, .int .i64 (ap _ _ lenI i))],
    [(20, ⟨.own, .sl 7001 [] 0 (j + 1) 1 none⟩), (7001, ⟨.own, .orow (j + 1) 32 (levV ap (ap _ _ lvl L)) [(j, 7000, ap _ _ lenL (ap _ _ (ap _ _ lvl L) j))]⟩), (7000, ⟨.own, .rows 32 (ap _ _ lenL (ap _ _ (ap _ _ lvl L) j)) (fun t => .ints .u8 32 (ap _ _ (ap _ _ getL ((ap _ _ (ap _ _ lvl L) j))) t))⟩), (34, ⟨.own, .rows 32 (ap _ _ upN (ap _ _ lenL (ap _ _ (ap _ _ lvl L) j))) (fun t => .ints .u8 32 (ap _ _ (ap _ _ getL (ap _ _ (ap _ _ fillLL (ap _ _ upL (ap _ _ (ap _ _ lvl L) j))) i)) t))⟩)], []⟩
noncomputable def aNt (ap : AP) (n : Nat) (L : List (List Int)) : List (Nat × Ann) := [(0, .nest Nat (famNt ap L) (fun j => j < ap _ _ hN n) (fun j => ap _ _ hN n - j) (fun j => [(1, .inv (Nat × Unit) (fun x => famNu ap L j x.1) (fun x => x.1 ≤ ap _ _ upN (ap _ _ lenL (ap _ _ (ap _ _ lvl L) j))) (fun x => ap _ _ upN (ap _ _ lenL (ap _ _ (ap _ _ lvl L) j)) - x.1))]))]
theorem fl_get {u : List (List Int)} {i t : Nat} (h : t < u.length) : getL (fillLL u i) t = if t < i then getL u t else zerosI 32 := by
  simp only [getL, fillLL, List.getD_eq_getElem?_getD, List.getElem?_append, List.length_take, List.getElem?_take, List.getElem?_replicate]
  by_cases c : t < i
  · rw [if_pos (by omega), if_pos c, if_pos c]
  · rw [if_neg (by omega), if_neg c, if_pos (by omega)]
    rfl
theorem fl_zero {u : List (List Int)} {n : Nat} (h : n = u.length) : eqRows n (fun t => .ints .u8 32 (getL (fillLL u 0) t)) (fun _ => (ZT.ints .u8 32).val) := by
  intro t ht
  show V.ints .u8 32 (getL (fillLL u 0) t) = _
  rw [fl_get (by omega), if_neg (by omega)]
  rfl
theorem fl_set {u : List (List Int)} {n i : Nat} {x : List Int} (h : n = u.length) (hx : x = getL u i) : eqRows n (fun t => .ints .u8 32 (getL (fillLL u (i + 1)) t)) (updR (fun t => .ints .u8 32 (getL (fillLL u i) t)) i (.ints .u8 32 x)) := by
  intro t ht
  show V.ints .u8 32 (getL (fillLL u (i + 1)) t) = nV (updR (fun t => .ints .u8 32 (getL (fillLL u i) t)) i (.ints .u8 32 x) t)
  by_cases c : t = i
  · subst c
    rw [fl_get (by omega), if_pos (by omega), ← hx]
    simp [updR, nV]
  · simp only [updR, if_neg c]
    rw [fl_get (by omega), fl_get (by omega)]
    by_cases d : t < i
    · rw [if_pos d, if_pos (by omega)]; rfl
    · rw [if_neg d, if_neg (by omega)]; rfl
theorem fl_end {u : List (List Int)} {i : Nat} (h : u.length ≤ i) : fillLL u i = u := by
  rw [fillLL, List.take_of_length_le h, Nat.sub_eq_zero_of_le h, List.replicate_zero, List.append_nil]
theorem half_i64 {n : Nat} (h : n ≤ 1000) : wquo .i64 (wadd .i64 (n : Int) 1) 2 = (((n + 1) / 2 : Nat) : Int) := by
  rw [inc_i64 (by omega)]
  exact quo_i64 (by omega)
theorem fl_up {lv : List (List Int)} {i : Nat} (h : i < (lv.length + 1) / 2) : atL (unR lv.length fun j => .ints .u8 32 (getL lv j)) i = getL (upL lv) i := by
  rw [unR_l, upL_get h]
set_option maxRecDepth 20000 in
set_option maxHeartbeats 1600000 in
theorem vc22 (args : List Arg) (out : Out) (h : (cNewT apf args).to out) (hok : okAs args) :
    args.length = ic22.nargs ∧ ic22.nargs ≤ ic22.ntmps ∧ ∃ A, run apf [(75, cCloneR apf), (76, cAt apf)] A ic22.body (fnQ apf args out ic22.res) (st0 G2 true args) := by
  unfold cNewT at h
  split at h
  · rename_i n m f
    obtain ⟨hf, h⟩ := h
    obtain ⟨⟨hn, ⟨rfl, _⟩, _⟩, _⟩ := hok
    generalize hg : unRw f = g
    have hf : f = rowV apf g := by rw [← hg]; exact hf
    clear hg
    subst hf
    have hlen : (unR m (rowV apf g)).length = m := unR_len
    rcases h with ⟨hb, h⟩ | ⟨hb, h⟩
    all_goals cases h
    all_goals (
      refine ⟨rfl, by decide, aNt apf m (apf _ _ (apf _ _ unR m) (rowV apf g)), ?_⟩
      show run apf _ _ _ _ (st0 [(0, .ints .u32 64 kk), (1, .ints .u32 64 kk)] _ _)
      generalize hK : kk = K
      generalize hap : apf = ap
      cbv
      repeat' first
        | exact True.intro
        | (intro (hh : _ = true); first | with_reducible exact absurd hh (bk_t (by assumption)) | cbv)
        | (intro (hh : _ = false); first | with_reducible exact absurd hh (bk_f (by assumption)) | cbv)
        | with_reducible refine And.intro ?_ ?_
        | (refine ⟨0, ?_, ?_⟩; rotate_left 1; (try cbv); with_reducible refine And.intro ?_ ?_)
        | fail
      all_goals first
        | (intro (x : Nat) hx k1 k2
           clear k1 k2
           obtain _ | k := x
           all_goals cbv
           all_goals (
             repeat' first
               | exact True.intro
               | (intro (hh : _ = true); first | with_reducible exact absurd hh (bk_t (by assumption)) | cbv)
               | (intro (hh : _ = false); first | with_reducible exact absurd hh (bk_f (by assumption)) | cbv)
               | with_reducible refine And.intro ?_ ?_
               | (refine ⟨(0, ()), ?_, ?_⟩; rotate_left 1; (try cbv); with_reducible refine And.intro ?_ ?_)
               | fail))
        | skip
      all_goals first
        | (intro (y : Nat × Unit) hy k1 k2
           clear k1 k2
           obtain ⟨i, _⟩ := y
           all_goals cbv
           all_goals (
             repeat' first
               | exact True.intro
               | (intro (hh : _ = true); first | with_reducible exact absurd hh (bk_t (by assumption)) | cbv)
               | (intro (hh : _ = false); first | with_reducible exact absurd hh (bk_f (by assumption)) | cbv)
               | with_reducible refine And.intro ?_ ?_
               | (refine ⟨k + 1 + 1, ?_, (?_ : _ < _), ?_⟩; rotate_left 2; (try cbv); with_reducible refine And.intro ?_ ?_)
               | (refine ⟨1, ?_, (?_ : _ < _), ?_⟩; rotate_left 2; (try cbv); with_reducible refine And.intro ?_ ?_)
               | (refine ⟨(i + 1, ()), ?_, (?_ : _ < _), ?_⟩; rotate_left 2; (try cbv); with_reducible refine And.intro ?_ ?_)
               | fail))
        | skip
      all_goals subst hap
      all_goals try simp only at *
      all_goals try simp only [apf, Nat.sub_eq, Nat.succ_eq_add_one, cmF, arF, eqI', ltN, eqN, addN, leN, appN, mksN, V.cnt, Nat.zero_add, Nat.add_zero, lt_t, lt_f, gt_t, gt_f, lenI, lenL, natI, upN, Int.toNat_natCast] at *
      all_goals try have HP := hN_pos m
      all_goals try have HQ := hN_le m (by omega)
      all_goals try have HE := HEm (g := g) (m := m)
      all_goals try have HL := HLm (g := g) (by omega : 0 < m)
      all_goals first
        | (have q := HE (k + 1)
           have w := half_i64 (n := (lvl (unR m (rowV apf g)) (k + 1)).length) (by omega)
           try simp only [w, Int.toNat_natCast] at *)
        | (have q := HE 0
           have w := half_i64 (n := (lvl (unR m (rowV apf g)) 0).length) (by omega)
           try simp only [w, Int.toNat_natCast] at *)
        | skip
      all_goals try simp only [apf, Nat.sub_eq, Nat.succ_eq_add_one, cmF, arF, eqI', eqL', eqB', ltN, eqN, addN, subN, leN, minN, appN, mksN, V.cnt, llen, Nat.zero_add, Nat.add_zero, eq_t, eq_f, lt_t, lt_f, gt_t, gt_f, ge_t, ge_f, lenI, lenL, natI, upN, Int.toNat_natCast] at *
      all_goals first
        | exact fun _ _ => rfl
        | exact fun _ _ _ => rfl
        | exact rowsO_upd rfl
        | omega
        | exact isRw_l
        | exact lvl_len2
        | exact hlen
        | (simp [notIn]; done)
        | exact absurd hb (by simp [badN]; omega)
        | exact fl_zero (by rw [upL_len])
        | (refine fl_set (by rw [upL_len]) ?_; rw [fl_up (by omega)])
        | (rw [fl_end (by rw [upL_len]; omega)]; exact fun _ _ => rfl)
        | exact ⟨by omega, by omega, by omega⟩
        | (have q := HL 0 hx; omega)
        | (have q := HL (k + 1) hx; omega)
        | exact (inc_i64 (by omega)).symm
        | (intro t ht hn; simp at hn; omega)
        | trace_state)
  · exact h.elim
theorem s22 : Sound Tryd.prog G2 22 (puM 22) (cNewT apf) := fn_sound rfl Tryd.call22 ok22 co22 (env_cons s75 (env_cons s76 env_nil)) vc22
end Go.Cx.Rb
/- CxbME -/
namespace Go.Cx.Rb
open Go Go.Cx Go.Proofs
theorem lv_ext {l r : List (List Int)} (h : l.length = r.length) (hg : ∀ t, getL l t = getL r t) : l = r := by
  refine List.ext_getElem h fun j h1 h2 => ?_
  have := hg j
  simpa [getL, List.getD_eq_getElem?_getD, h1, h2] using this
theorem unLv_e {L : Nat → List (List Int)} : unLv (levV apf L) = L := by
  have h := unLv_s (f := levV apf L) ⟨L, rfl⟩
  funext j
  have hj : levV apf L j = levV apf (unLv (levV apf L)) j := congrFun h j
  have hj : V.rows 32 (lenL (L j)) (fun t => .ints .u8 32 (getL (L j) t)) = V.rows 32 (lenL (unLv (levV apf L) j)) (fun t => .ints .u8 32 (getL (unLv (levV apf L) j) t)) := hj
  injection hj with _ h1 h2
  refine (lv_ext h1 fun t => ?_).symm
  have h3 := congrFun h2 t
  injection h3
/-- the leaves of a tree that is right -/
noncomputable def unT (f : Nat → V) : List (List Int) := unLv f 0
def isTr (m : Nat) (f : Nat → V) : Prop := ∃ l : List (List Int), 0 < l.length ∧ l.length ≤ 256 ∧ m = hN l.length ∧ f = levV apf (lvl l)
theorem unT_e {l : List (List Int)} : unT (levV apf (lvl l)) = l := congrFun unLv_e 0
theorem s26' : Sound Tryd.prog G2 26 (puM 26) (cSizeT apf) := s26.more (fun n v h => by cases h)
theorem s77' : Sound Tryd.prog G2 77 (puM 77) (cHasT apf) := s77.more (fun n v h => by cases h)
theorem s23' : Sound Tryd.prog G2 23 (puM 23) (cRootT apf) := s23.more (fun n v h => by cases h)
theorem s27' : Sound Tryd.prog G2 27 (puM 27) (cLeafT apf) := s27.more (fun n v h => by cases h)
noncomputable def cSetT (ap : AP) : Ctr
  | [.v .nilp, .v (.int .i64 _), .v (.ints .u8 32 _)] => .ok ⟨.int .i64 1, [], []⟩
  | [.o (.osl n 1 (.orow m 32 f [])) none, .v (.int .i64 i), .v (.ints .u8 32 x)] => .chk (ap _ _ (ap _ _ eqN n) m) <| .chk (ap _ _ (ap _ _ isTr m) f) <|
      .ok ⟨.int .i64 (ap _ _ (ap _ _ hasT (ap _ _ unT f)) i), [treeL ap m (ap _ _ (ap _ _ (ap _ _ setT (ap _ _ unT f)) i) x)], []⟩
  | _ => .fail 614
theorem rows_set {L0 L1 : List (List Int)} {p : Nat} {y : List Int} (hp : p < L0.length) (h : L1 = L0.set p y) : V.rows 32 L1.length (fun t => .ints .u8 32 (getL L1 t)) = V.rows 32 L0.length (updR (fun t => .ints .u8 32 (getL L0 t)) p (.ints .u8 32 y)) := by
  subst h
  have e : (fun t => V.ints .u8 32 (getL (L0.set p y) t)) = updR (fun t => V.ints .u8 32 (getL L0 t)) p (V.ints .u8 32 y) := by
    funext t
    simp only [updR]
    by_cases c : t = p
    · subst c
      rw [if_pos rfl, set_get hp, if_pos rfl]
    · rw [if_neg c, set_get hp, if_neg c]
  rw [e, List.length_set]
theorem setT_in {l : List (List Int)} {i : Int} {x : List Int} (h : 0 ≤ i ∧ i < l.length) : setT l i x = l.set i.toNat x := if_neg (by omega)
theorem setT_out {l : List (List Int)} {i : Int} {x : List Int} (h : hasT l i ≠ 0) : setT l i x = l := if_pos (by
  by_cases c : i < 0 ∨ (l.length : Int) ≤ i
  · exact c
  · exact absurd (if_neg c) h)
theorem has_in {l : List (List Int)} {i : Int} (h : hasT l i = 0) : 0 ≤ i ∧ i < l.length := by
  by_cases c : i < 0 ∨ (l.length : Int) ≤ i
  · rw [hasT, if_pos c] at h; cases h
  · omega
/-- the levels up to k as they will be -/
def mixT (l : List (List Int)) (i : Int) (x : List Int) (k j : Nat) : List (List Int) := mixL l (setT l i x) k j
def mixV (l : List (List Int)) (i : Int) (x : List Int) (k : Nat) : Nat → List (List Int) := fun j => mixT l i x k j
theorem levV_at {L : Nat → List (List Int)} {j : Nat} : levV apf L j = .rows 32 (L j).length fun t => .ints .u8 32 (getL (L j) t) := rfl
theorem mix_zero {l : List (List Int)} {i : Int} {x : List Int} {n : Nat} {o : List Nat} (hr : 0 ≤ i ∧ i < l.length) : eqRowsO n o (levV apf (mixV l i x 0)) (updR (levV apf (lvl l)) 0 (.rows 32 l.length (updR (fun t => .ints .u8 32 (getL l t)) i.toNat (.ints .u8 32 x)))) := by
  intro j hj _
  apply congrArg nV
  by_cases c : j = 0
  · subst c
    rw [levV_at]
    simp only [updR, if_true]
    exact rows_set (by omega) (setT_in hr)
  · simp only [updR, if_neg c]
    rw [levV_at, levV_at, show mixV l i x 0 j = lvl l j from if_neg (by omega)]
theorem mix_step {l : List (List Int)} {i : Int} {x : List Int} {k j : Nat} (hr : 0 ≤ i ∧ i < l.length) : levV apf (mixV l i x (k + 1)) j =
    if j = k + 1 then .rows 32 (lvl l (k + 1)).length (updR (fun t => .ints .u8 32 (getL (lvl l (k + 1)) t)) (plc i.toNat (k + 1)) (.ints .u8 32 (atL (lvl (setT l i x) k) (plc i.toNat (k + 1))))) else levV apf (mixV l i x k) j := by
  have h0 : i.toNat < l.length := by omega
  by_cases c : j = k + 1
  · subst c
    rw [if_pos rfl, levV_at, show mixV l i x (k + 1) (k + 1) = lvl (setT l i x) (k + 1) from if_pos (Nat.le_refl _)]
    exact rows_set (plc_lt h0) (by rw [setT_in hr]; exact lvl_set h0)
  · rw [if_neg c, levV_at, levV_at]
    have e : mixV l i x (k + 1) j = mixV l i x k j := by
      simp only [mixV, mixT, mixL]
      by_cases d : j ≤ k
      · rw [if_pos d, if_pos (by omega)]
      · rw [if_neg d, if_neg (by omega)]
    rw [e]
theorem mix_end {l : List (List Int)} {i : Int} {x : List Int} {k n : Nat} {o : List Nat} (h : n ≤ k + 1) : eqRowsO n o (levV apf (lvl (setT l i x))) (levV apf (mixV l i x k)) := by
  intro j hj _
  rw [levV_at, levV_at, show mixV l i x k j = lvl (setT l i x) j from if_pos (by omega)]
theorem mix_at {l : List (List Int)} {i : Int} {x : List Int} {k : Nat} : mixV l i x k k = lvl (setT l i x) k := if_pos (Nat.le_refl _)
theorem mix_up {l : List (List Int)} {i : Int} {x : List Int} {k : Nat} : mixV l i x k (k + 1) = lvl l (k + 1) := if_neg (by omega)
theorem mix_next {l : List (List Int)} {i : Int} {x y : List Int} {k n : Nat} {o : List Nat} (hr : 0 ≤ i ∧ i < l.length) (hy : y = atL (lvl (setT l i x) k) (plc i.toNat (k + 1))) : eqRowsO n o (levV apf (mixV l i x (k + 1))) (updR (updR (levV apf (mixV l i x k)) (k + 1) (.rows 32 (lvl l (k + 1)).length (updR (fun t => .ints .u8 32 (getL (lvl l (k + 1)) t)) (plc i.toNat (k + 1)) (.ints .u8 32 y)))) k (.rows 32 (lvl (setT l i x) k).length fun t => .ints .u8 32 (getL (lvl (setT l i x) k) t))) := by
  intro j hj _
  apply congrArg nV
  rw [mix_step hr]
  subst hy
  simp only [updR]
  by_cases c : j = k
  · subst c
    rw [if_neg (by omega), if_pos rfl, levV_at, mix_at]
  · rw [if_neg c]
theorem sfacts {l : List (List Int)} {i : Int} {x : List Int} {k n : Nat} (hr : 0 ≤ i ∧ i < l.length) (l1 : l.length ≤ 256) (_hm : n = hN l.length) (_hk : k + 1 < n) :
    wquo .i64 (plcI i k) 2 = plcI i (k + 1) ∧ plcI i (k + 1) = ((plc i.toNat (k + 1) : Nat) : Int) ∧ plc i.toNat (k + 1) < (lvl l (k + 1)).length ∧ 2 * plc i.toNat (k + 1) < (lvl (setT l i x) k).length ∧ (lvl (setT l i x) k).length ≤ 257 := by
  have h0 : i.toNat < l.length := by omega
  have h1 := plc_lt (j := k) h0
  have h2 := lvl_len_le (l := l) (j := k)
  have h3 : (lvl (setT l i x) k).length = (lvl l k).length := by rw [setT_in hr]; exact lvl_len_set h0
  have h4 := plc_lt (j := k + 1) h0
  have h5 : plc i.toNat (k + 1) = plc i.toNat k / 2 := plc_succ
  refine ⟨?_, rfl, h4, by omega, by omega⟩
  rw [plcI, plcI, plc_succ]
  exact quo_i64 (by omega)
noncomputable def aSt (ap : AP) (m : Nat) (l : List (List Int)) (i : Int) (x : List Int) : List (Nat × Ann) := [(0, .inv Nat (fun k =>
  ⟨[(0, .ptr (parH 0) []), (1, .int .i64 (ap _ _ (ap _ _ plcI i) k)), (35, .sl 2192 [] 0 (ap _ _ (ap _ _ subN m) 1) 1 none), (36, .int .i64 (ap _ _ lenI (ap _ _ (ap _ _ subN m) 1))), (37, .int .i64 (ap _ _ lenI k))],
   [(parH 0, ⟨.own, .sl 2192 [] 0 m 1 none⟩), (2192, ⟨.own, .orow m 32 (levV ap (ap _ _ (ap _ _ (ap _ _ (ap _ _ mixV l) i) x) k)) []⟩)], []⟩) (fun k => k < m) (fun k => m - k))]
set_option maxRecDepth 20000 in
set_option maxHeartbeats 1600000 in
theorem vc24 (args : List Arg) (out : Out) (h : (cSetT apf args).to out) (hok : okAs args) :
    args.length = ic24.nargs ∧ ic24.nargs ≤ ic24.ntmps ∧ ∃ A, run apf [(77, cHasT apf), (76, cAt apf)] A ic24.body (fnQ apf args out ic24.res) (st0 G2 (puM 24) args) := by
  unfold cSetT at h
  split at h
  · cases h
    refine ⟨rfl, by decide, [], ?_⟩
    clear hok
    show run apf _ _ _ _ (st0 [(0, .ints .u32 64 kk), (1, .ints .u32 64 kk)] _ _)
    generalize hK : kk = K
    generalize hap : apf = ap
    cbv
    repeat' first
      | exact True.intro
      | (intro (hh : _ = true); first | with_reducible exact absurd hh (bk_t (by assumption)) | cbv)
      | (intro (hh : _ = false); first | with_reducible exact absurd hh (bk_f (by assumption)) | cbv)
      | with_reducible refine And.intro ?_ ?_
      | fail
    all_goals subst hap
    all_goals first
      | exact rfl
      | (exfalso
         have h8 : neI 1 0 = false := by assumption
         exact absurd h8 (by decide))
      | trace_state
  · rename_i n m f i x
    obtain ⟨h1, h2, h⟩ := h
    cases h
    obtain rfl : n = m := h1
    obtain ⟨l, l0, l1, hm, rfl⟩ : isTr n f := h2
    have hU : unT (levV apf (lvl l)) = l := unT_e
    have hL : unLv (levV apf (lvl l)) = lvl l := unLv_e
    have hT : isTr n (levV apf (lvl l)) := ⟨l, l0, l1, hm, rfl⟩
    have hl0 : lvl l 0 = l := rfl
    have HP := hN_pos l.length
    have HQ := hN_le l.length l0
    have hn1 : 1 ≤ n ∧ n ≤ 256 := by omega
    have w1 : wsub .i64 (n : Int) 1 = ((n - 1 : Nat) : Int) := by rw [wsub_i64 (by omega)]; omega
    generalize hLL : lvl l = L at hU hL hT hl0
    refine ⟨rfl, by decide, aSt apf n l i x, ?_⟩
    show run apf _ _ _ _ (st0 [(0, .ints .u32 64 kk), (1, .ints .u32 64 kk)] _ _)
    generalize hK : kk = K
    generalize hap : apf = ap
    cbv
    repeat' first
      | exact True.intro
      | (intro (hh : _ = true); first | with_reducible exact absurd hh (bk_t (by assumption)) | cbv)
      | (intro (hh : _ = false); first | with_reducible exact absurd hh (bk_f (by assumption)) | cbv)
      | with_reducible refine And.intro ?_ ?_
      | (refine ⟨0, ?_, ?_⟩; rotate_left 1; (try cbv); with_reducible refine And.intro ?_ ?_)
      | fail
    all_goals first
      | (intro (k : Nat) hk k1 k2
         clear k1 k2
         skip
         all_goals cbv
         all_goals (
           repeat' first
             | exact True.intro
             | (intro (hh : _ = true); first | with_reducible exact absurd hh (bk_t (by assumption)) | cbv)
             | (intro (hh : _ = false); first | with_reducible exact absurd hh (bk_f (by assumption)) | cbv)
             | with_reducible refine And.intro ?_ ?_
             | (refine ⟨k + 1, ?_, (?_ : _ < _), ?_⟩; rotate_left 2; (try cbv); with_reducible refine And.intro ?_ ?_)
             | fail))
      | skip
    all_goals subst hap
    all_goals try simp only [cast_fix] at *
    all_goals try simp only [apf, Nat.sub_eq, Nat.succ_eq_add_one, cmF, arF, eqI', ltN, eqN, addN, subN, leN, V.cnt, Nat.zero_add, Nat.add_zero, ne_t, ne_f, lt_t, lt_f, lenI, lenL, natI, Int.toNat_natCast, hU, hL, hl0] at *
    all_goals subst hLL
    all_goals try simp only [w1, Int.toNat_natCast] at *
    all_goals first
      | (have hr := has_in (l := l) (i := i) (by assumption)
         first
           | (have w2 := inc_i64 (i := k) (by omega)
              have F := sfacts (x := x) hr l1 hm (show k + 1 < n by omega)
              obtain ⟨f1, f2, f3, f4, f5⟩ := F
              try simp only [w2, f1, Int.toNat_natCast, mix_at, mix_up] at *
              try simp only [f2, Int.toNat_natCast] at *)
           | skip)
      | skip
    all_goals first
      | exact fun _ _ => rfl
      | exact fun _ _ _ => rfl
      | exact rowsO_upd rfl
      | omega
      | exact hr.1
      | exact isRw_l
      | exact ⟨_, rfl⟩
      | (simp [notIn]; done)
      | exact mix_zero hr
      | exact mix_next hr (by rw [unR_l])
      | exact mix_end (by omega)
      | exact plc0 hr.1
      | (rw [setT_out (by assumption)]; exact fun _ _ _ => rfl)
      | exact ⟨by omega, by omega, by omega⟩
      | trace_state
  · exact h.elim
theorem s24 : Sound Tryd.prog G2 24 (puM 24) (cSetT apf) := fn_sound rfl Tryd.call24 ok24 co24 (env_cons s77' (env_cons s76 env_nil)) vc24
end Go.Cx.Rb
/- CxbMF -/
namespace Go.Cx.Rb
open Go Go.Cx Go.Proofs
def isOut (l : List (List Int)) (i : Int) : Bool := neI (hasT l i) 0
noncomputable def cPathT (ap : AP) : Ctr
  | [.v .nilp, .v (.int .i64 _)] => .ok ⟨.tcons .nsl (.tcons (.int .i64 1) .tnil), [], []⟩
  | [.o (.osl n 1 (.orow m 32 f [])) none, .v (.int .i64 i)] => .chk (ap _ _ (ap _ _ eqN n) m) <| .chk (ap _ _ (ap _ _ isTr m) f) <|
      .br (ap _ _ (ap _ _ isOut (ap _ _ unT f)) i) (.ok ⟨.tcons .nsl (.tcons (.int .i64 2) .tnil), [treeL ap m (ap _ _ unT f)], []⟩) <|
      .br (ap _ _ emL (ap _ _ (ap _ _ pathI (ap _ _ unT f)) i)) (.ok ⟨.tcons .nsl (.tcons (.int .i64 0) .tnil), [treeL ap m (ap _ _ unT f)], []⟩)
        (.ok ⟨.tcons (.sl 0 [] 0 (ap _ _ lenL (ap _ _ (ap _ _ pathI (ap _ _ unT f)) i)) 32 none) (.tcons (.int .i64 0) .tnil), [treeL ap m (ap _ _ unT f)], [.rows 32 (ap _ _ lenL (ap _ _ (ap _ _ pathI (ap _ _ unT f)) i)) (fun t => .ints .u8 32 (ap _ _ (ap _ _ getL (ap _ _ (ap _ _ pathI (ap _ _ unT f)) i)) t))]⟩)
  | _ => .fail 615
noncomputable def famPt (ap : AP) (n : Nat) (l : List (List Int)) (i : Int) : Nat × Nat → LSt
  | (0, _) => ⟨[(7, .nsl), (0, .ptr (parH 0) []), (1, .int .i64 (ap _ _ (ap _ _ plcI i) 0)), (27, .sl 2208 [] 0 (ap _ _ (ap _ _ subN n) 1) 1 none), (28, .int .i64 (ap _ _ lenI (ap _ _ (ap _ _ subN n) 1))), (29, .int .i64 (ap _ _ lenI 0))], [(parH 0, ⟨.own, .sl 2208 [] 0 n 1 none⟩), (2208, ⟨.own, .orow n 32 (levV ap (ap _ _ lvl l)) []⟩)], []⟩
  | (j + 1, 0) => ⟨[(7, .nsl), (0, .ptr (parH 0) []), (1, .int .i64 (ap _ _ (ap _ _ plcI i) (j + 1))), (27, .sl 2208 [] 0 (ap _ _ (ap _ _ subN n) 1) 1 none), (28, .int .i64 (ap _ _ lenI (ap _ _ (ap _ _ subN n) 1))), (29, .int .i64 (ap _ _ lenI (j + 1)))], [(parH 0, ⟨.own, .sl 2208 [] 0 n 1 none⟩), (2208, ⟨.own, .orow n 32 (levV ap (ap _ _ lvl l)) []⟩)], []⟩
  | (j + 1, h + 1) => ⟨[(7, .sl 7001 [] 0 (ap _ _ lenL (ap _ _ (ap _ _ (ap _ _ pathJ l) i) (j + 1))) 32 none), (0, .ptr (parH 0) []), (1, .int .i64 (ap _ _ (ap _ _ plcI i) (j + 1))), (27, .sl 2208 [] 0 (ap _ _ (ap _ _ subN n) 1) 1 none), (28, .int .i64 (ap _ _ lenI (ap _ _ (ap _ _ subN n) 1))), (29, .int .i64 (ap _ _ lenI (j + 1)))], [(parH 0, ⟨.own, .sl 2208 [] 0 n 1 none⟩), (2208, ⟨.own, .orow n 32 (levV ap (ap _ _ lvl l)) []⟩), (7001, ⟨.own, .rows 32 (ap _ _ lenL (ap _ _ (ap _ _ (ap _ _ pathJ l) i) (j + 1))) (fun t => .ints .u8 32 (ap _ _ (ap _ _ getL (ap _ _ (ap _ _ (ap _ _ pathJ l) i) (j + 1))) t))⟩)], [(7001, h + 1)]⟩
noncomputable def aPt (ap : AP) (n : Nat) (l : List (List Int)) (i : Int) : List (Nat × Ann) := [(0, .inv (Nat × Nat) (famPt ap n l i) (fun x => ap _ _ (ap _ _ (ap _ _ (ap _ _ pPr l) i) (ap _ _ List.length l)) x) (fun x => ap _ _ hN (ap _ _ List.length l) - x.1))]
theorem has_two {l : List (List Int)} {i : Int} (h : hasT l i ≠ 0) : hasT l i = 2 := by
  by_cases c : i < 0 ∨ (l.length : Int) ≤ i
  · exact if_pos c
  · exact absurd (if_neg c) h
theorem bes_in {l : List (List Int)} {P : Nat} (h : sib P < l.length) : besL l P = [getL l (sib P)] := if_pos h
theorem bes_out {l : List (List Int)} {P : Nat} (h : l.length ≤ sib P) : besL l P = [] := if_neg (by omega)
set_option maxRecDepth 20000 in
set_option maxHeartbeats 1600000 in
theorem vc28 (args : List Arg) (out : Out) (h : (cPathT apf args).to out) (hok : okAs args) :
    args.length = ic28.nargs ∧ ic28.nargs ≤ ic28.ntmps ∧ ∃ A, run apf [(77, cHasT apf)] A ic28.body (fnQ apf args out ic28.res) (st0 G2 (puM 28) args) := by
  unfold cPathT at h
  split at h
  · cases h
    refine ⟨rfl, by decide, [], ?_⟩
    clear hok
    show run apf _ _ _ _ (st0 [(0, .ints .u32 64 kk), (1, .ints .u32 64 kk)] _ _)
    generalize hK : kk = K
    generalize hap : apf = ap
    cbv
    repeat' first
      | exact True.intro
      | (intro (hh : _ = true); first | with_reducible exact absurd hh (bk_t (by assumption)) | cbv)
      | (intro (hh : _ = false); first | with_reducible exact absurd hh (bk_f (by assumption)) | cbv)
      | with_reducible refine And.intro ?_ ?_
      | fail
    all_goals subst hap
    all_goals first
      | exact rfl
      | (exfalso
         have h8 : neI 1 0 = false := by assumption
         exact absurd h8 (by decide))
      | trace_state
  · rename_i n m f i
    obtain ⟨h1, h2, h⟩ := h
    obtain rfl : n = m := h1
    obtain ⟨l, l0, l1, hm, rfl⟩ : isTr n f := h2
    have hU : unT (levV apf (lvl l)) = l := unT_e
    have hL : unLv (levV apf (lvl l)) = lvl l := unLv_e
    have hT : isTr n (levV apf (lvl l)) := ⟨l, l0, l1, hm, rfl⟩
    have hl0 : lvl l 0 = l := rfl
    have HP := hN_pos l.length
    have HQ := hN_le l.length l0
    have hn1 : 1 ≤ n ∧ n ≤ 256 := by omega
    have w1 : wsub .i64 (n : Int) 1 = ((n - 1 : Nat) : Int) := by rw [wsub_i64 (by omega)]; omega
    generalize hLL : lvl l = L at hU hL hT hl0
    rcases h with ⟨hb, h⟩ | ⟨hb, ⟨hb2, h⟩ | ⟨hb2, h⟩⟩
    all_goals cases h
    all_goals (
      refine ⟨rfl, by decide, aPt apf n l i, ?_⟩
      show run apf _ _ _ _ (st0 [(0, .ints .u32 64 kk), (1, .ints .u32 64 kk)] _ _)
      generalize hK : kk = K
      generalize hap : apf = ap
      cbv
      repeat' first
        | exact True.intro
        | (intro (hh : _ = true); first | with_reducible exact absurd hh (bk_t (by assumption)) | cbv)
        | (intro (hh : _ = false); first | with_reducible exact absurd hh (bk_f (by assumption)) | cbv)
        | with_reducible refine And.intro ?_ ?_
        | (refine ⟨(0, 0), ?_, ?_⟩; rotate_left 1; (try cbv); with_reducible refine And.intro ?_ ?_)
        | fail
      all_goals first
        | (intro (x : Nat × Nat) hx k1 k2
           clear k1 k2
           obtain ⟨_ | k, _ | hd⟩ := x
           all_goals cbv
           all_goals (
             repeat' first
               | exact True.intro
               | (intro (hh : _ = true); first | with_reducible exact absurd hh (bk_t (by assumption)) | cbv)
               | (intro (hh : _ = false); first | with_reducible exact absurd hh (bk_f (by assumption)) | cbv)
               | with_reducible refine And.intro ?_ ?_
               | (refine ⟨(k + 1 + 1, 45), ?_, (?_ : _ < _), ?_⟩; rotate_left 2; (try cbv); with_reducible refine And.intro ?_ ?_; (repeat' with_reducible refine And.intro ?_ ?_); (all_goals (fail_if_success (with_reducible show False))))
               | (refine ⟨(k + 1 + 1, 0), ?_, (?_ : _ < _), ?_⟩; rotate_left 2; (try cbv); with_reducible refine And.intro ?_ ?_; (repeat' with_reducible refine And.intro ?_ ?_); (all_goals (fail_if_success (with_reducible show False))))
               | (refine ⟨(k + 1 + 1, 7001), ?_, (?_ : _ < _), ?_⟩; rotate_left 2; (try cbv); with_reducible refine And.intro ?_ ?_; (repeat' with_reducible refine And.intro ?_ ?_); (all_goals (fail_if_success (with_reducible show False))))
               | (refine ⟨(1, 45), ?_, (?_ : _ < _), ?_⟩; rotate_left 2; (try cbv); with_reducible refine And.intro ?_ ?_; (repeat' with_reducible refine And.intro ?_ ?_); (all_goals (fail_if_success (with_reducible show False))))
               | (refine ⟨(1, 0), ?_, (?_ : _ < _), ?_⟩; rotate_left 2; (try cbv); with_reducible refine And.intro ?_ ?_; (repeat' with_reducible refine And.intro ?_ ?_); (all_goals (fail_if_success (with_reducible show False))))
               | (refine ⟨(1, 7001), ?_, (?_ : _ < _), ?_⟩; rotate_left 2; (try cbv); with_reducible refine And.intro ?_ ?_; (repeat' with_reducible refine And.intro ?_ ?_); (all_goals (fail_if_success (with_reducible show False))))
               | fail))
        | skip
      all_goals subst hap
      all_goals try simp only [cast_fix] at *
      all_goals try simp only [apf, Nat.succ_eq_add_one, cmF, arF, eqI', ltN, eqN, addN, subN, leN, appN, V.cnt, Nat.zero_add, Nat.add_zero, ne_t, ne_f, lt_t, lt_f, lenI, lenL, natI, Int.toNat_natCast, hU, hL, hl0, isOut] at *
      all_goals subst hLL
      all_goals try simp only [w1, Int.toNat_natCast, unT_e] at *
      all_goals first
        | (have hr := has_in (l := l) (i := i) (by assumption)
           first
             | (have F := pfacts (L := l) (m := l.length) rfl hr.1 hr.2 (by omega) hx
                obtain ⟨P, q1, q2, q3, q4, q5, q6, q7, q8, q9, r1, r2, r3, r4, r5⟩ := F
                have w3 := bxor_one (i := P) (by omega)
                try simp only [q1, q2, r1, r2, r3, r4, w3, Int.toNat_natCast, Nat.zero_add] at *
                first
                  | rw [pnil hx, List.nil_append] at q7
                  | rw [pathJ0, List.nil_append] at q7
                  | skip
                first
                  | rw [bes_in (by omega)] at q7
                  | rw [bes_out (by omega)] at q7
                  | skip)
             | skip)
        | skip
      all_goals first
        | exact fun _ _ => rfl
        | exact fun _ _ _ => rfl
        | exact rowsO_upd rfl
        | omega
        | exact hr.1
        | exact isRw_l
        | exact ⟨_, rfl⟩
        | (simp [notIn]; done)
        | exact plc0 hr.1
        | exact (inc_i64 (by omega)).symm
        | (rw [q7]; simp only [List.length_cons, List.length_nil]; done)
        | (rw [q7, List.append_nil]; done)
        | (rw [q7, List.length_append]; simp only [List.length_cons, List.length_nil]; done)
        | (rw [q7, List.append_nil]; exact fun _ _ => rfl)
        | (rw [q7]; exact row_one rfl)
        | (rw [q7]; exact row_snoc rfl)
        | (rw [r5 (by omega)]; done)
        | (rw [r5 (by omega)]; exact fun _ _ => rfl)
        | (rw [r5 (by omega)] at hb2; exact pnot hx (em_t hb2))
        | (rw [r5 (by omega), pnil hx] at hb2; cases hb2)
        | (rw [r5 (by omega), pathJ0] at hb2; cases hb2)
        | (refine mkP (by omega) ?_; rw [q7]; simp; done)
        | (refine mkP (by omega) ?_; rw [q7, List.append_nil]; simp [pnot hx]; done)
        | exact ⟨HP, .inl rfl⟩
        | exact has_two (by assumption)
        | exact (has_two (by assumption)).symm
        | trace_state)
  · exact h.elim
theorem s28 : Sound Tryd.prog G2 28 (puM 28) (cPathT apf) := fn_sound rfl Tryd.call28 ok28 co28 (env_cons s77' env_nil) vc28
end Go.Cx.Rb
/- CxbMG -/
namespace Go.Cx.Rb
open Go Go.Cx Go.Proofs
def aL1 : List Int := 1 :: List.replicate 31 0
def aL2 : List Int := 2 :: List.replicate 31 0
def aJ : List Int := [127, 80, 117, 78, 227, 143, 160, 51, 23, 237, 95, 254, 79, 42, 217, 20, 128, 133, 79, 170, 249, 85, 136, 108, 215, 128, 243, 116, 250, 101, 130, 246]
theorem aJ_e : jn aL1 aL2 = aJ := by kernel_rfl
theorem aR_e : nthI (jn aJ aL1) 0 = 25 := by kernel_rfl
theorem up3 {a b c : List Int} : upL [a, b, c] = [jn a b, c] := by
  simp [upL, atL, getL, List.range_succ]
theorem up2 {a b : List Int} : upL [a, b] = [jn a b] := by
  simp [upL, atL, getL, List.range_succ]
theorem root_ab : rootL [aL1, aL2, aL1] = jn aJ aL1 := by
  rw [rootL_more (by simp), up3, aJ_e, rootL_more (by simp), up2, rootL_one (by simp)]
  simp [getL]
theorem unR3 {z : V} {a b c : List Int} : unR 3 (lkV z [(0, .ints .u8 32 a), (1, .ints .u8 32 b), (2, .ints .u8 32 c)]) = [a, b, c] := by
  simp [unR, unRw, lkV, List.range_succ]
theorem isRw_all {f : Nat → V} (h : ∀ t, ∃ l, f t = .ints .u8 32 l) : isRw f := by
  funext t
  obtain ⟨l, e⟩ := h t
  show f t = .ints .u8 32 (unRw f t)
  rw [unRw, e]
theorem isRw3 {z a b c : List Int} : isRw (lkV (.ints .u8 32 z) [(0, .ints .u8 32 a), (1, .ints .u8 32 b), (2, .ints .u8 32 c)]) := isRw_all fun t => by
  simp only [lkV]
  by_cases h0 : t = 0
  · exact ⟨a, if_pos h0⟩
  · rw [if_neg h0]
    by_cases h1 : t = 1
    · exact ⟨b, if_pos h1⟩
    · rw [if_neg h1]
      by_cases h2 : t = 2
      · exact ⟨c, if_pos h2⟩
      · exact ⟨z, if_neg h2⟩
theorem tree_lv {l : List (List Int)} : isLv (levV apf (lvl l)) := ⟨_, rfl⟩
theorem tree_pos {l : List (List Int)} (h0 : 0 < l.length) (h1 : l.length ≤ 256) : posT (lvl l) (hN l.length) :=
  ⟨hN_pos _, by have := hN_le _ h0; omega, fun j hj => (lvl_has h0 hj).1⟩
theorem root_ne : eqL (rootL [aL1, aL2, aL1]) aL1 = false := by
  rw [root_ab]
  refine decide_eq_false fun h => ?_
  have := aR_e
  rw [h] at this
  exact absurd this (by decide)
theorem topT3 {a b c : List Int} : topT (lvl [a, b, c]) (hN 3) = rootL [a, b, c] := rfl
theorem lv0 {l : List (List Int)} : lvl l 0 = l := rfl
theorem root_ne' (h : rootL [[1, 0, 0, 0, 0, 0, 0, 0, 0, 0, 0, 0, 0, 0, 0, 0, 0, 0, 0, 0, 0, 0, 0, 0, 0, 0, 0, 0, 0, 0, 0, 0], [2, 0, 0, 0, 0, 0, 0, 0, 0, 0, 0, 0, 0, 0, 0, 0, 0, 0, 0, 0, 0, 0, 0, 0, 0, 0, 0, 0, 0, 0, 0, 0], [1, 0, 0, 0, 0, 0, 0, 0, 0, 0, 0, 0, 0, 0, 0, 0, 0, 0, 0, 0, 0, 0, 0, 0, 0, 0, 0, 0, 0, 0, 0, 0]] = [1, 0, 0, 0, 0, 0, 0, 0, 0, 0, 0, 0, 0, 0, 0, 0, 0, 0, 0, 0, 0, 0, 0, 0, 0, 0, 0, 0, 0, 0, 0, 0]) : False := by
  have := root_ne
  exact absurd (show rootL [aL1, aL2, aL1] = aL1 from h) (of_decide_eq_false this)
noncomputable def cFixM (_ : AP) : Ctr
  | [] => .ok ⟨.tt, [], []⟩
  | _ => .fail 616
noncomputable def cLaw6 (ap : AP) : Ctr
  | [.v (.int .i64 _), .b n 1 (.ints .u8 _ _)] => .chk (ap _ _ (ap _ _ leN n) 140737488351232) <| .ok ⟨.tt, [], []⟩
  | _ => .fail 617
set_option maxRecDepth 20000 in
set_option maxHeartbeats 1600000 in
theorem vc21 (args : List Arg) (out : Out) (h : (cFixM apf args).to out) (hok : okAs args) :
    args.length = ic21.nargs ∧ ic21.nargs ≤ ic21.ntmps ∧ ∃ A, run apf [(22, cNewT apf), (26, cSizeT apf), (23, cRootT apf), (25, cRootR apf), (31, cLeafD apf), (32, cLeafD apf)] A ic21.body (fnQ apf args out ic21.res) (st0 G2 true args) := by
  unfold cFixM at h
  split at h
  · skip
    cases h
    refine ⟨rfl, by decide, [], ?_⟩
    show run apf _ _ _ _ (st0 [(0, .ints .u32 64 kk), (1, .ints .u32 64 kk)] _ _)
    generalize hK : kk = K
    generalize hap : apf = ap
    cbv
    repeat' first
      | exact True.intro
      | (intro (hh : _ = true); first | with_reducible exact absurd hh (bk_t (by assumption)) | cbv)
      | (intro (hh : _ = false); first | with_reducible exact absurd hh (bk_f (by assumption)) | cbv)
      | with_reducible refine And.intro ?_ ?_
      | fail
    all_goals subst hap
    all_goals try simp only [cast_fix] at *
    all_goals try simp only [apf, cmF, eqB', ltN, eqN, addN, leN, V.cnt, Nat.zero_add, eq_t, eq_f, ne_t, ne_f, eqL_t, eqL_f, notB_t, notB_f, lenI, lenL] at *
    all_goals try simp only [unLv_e, unR3, topT3, lv0] at *
    all_goals try simp only [apf, Nat.sub_eq, Nat.succ_eq_add_one, cmF, arF, eqI', eqL', eqB', ltN, eqN, addN, subN, leN, minN, appN, mksN, V.cnt, llen, Nat.zero_add, Nat.add_zero, eq_t, eq_f, ne_t, ne_f, lt_t, lt_f, gt_t, gt_f, ge_t, ge_f, eqL_t, eqL_f, notB_t, notB_f, lenI, lenL, natI, Int.toNat_natCast] at *
    all_goals first
      | omega
      | contradiction
      | exact absurd hh (by decide)
      | exact root_ne' (by assumption)
      | (exfalso; simp at *; done)
      | exact isRw3
      | exact tree_lv
      | exact hN_pos _
      | exact tree_pos (by simp) (by simp)
      | trace_state
  · exact h.elim
theorem s21 : Sound Tryd.prog G2 21 (puM 21) (cFixM apf) := fn_sound rfl Tryd.call21 ok21 co21 (env_cons s22 (env_cons s26' (env_cons s23' (env_cons s25 (env_cons s31 (env_cons s32 env_nil)))))) vc21
set_option maxRecDepth 20000 in
set_option maxHeartbeats 1600000 in
theorem vc6 (args : List Arg) (out : Out) (h : (cLaw6 apf args).to out) (hok : okAs args) :
    args.length = ic6.nargs ∧ ic6.nargs ≤ ic6.ntmps ∧ ∃ A, run apf [(21, cFixM apf), (23, cRootT apf), (27, cLeafT apf), (28, cPathT apf), (24, cSetT apf), (26, cSizeT apf), (31, cLeafD apf), (32, cLeafD apf)] A ic6.body (fnQ apf args out ic6.res) (st0 G2 true args) := by
  unfold cLaw6 at h
  split at h
  · rename_i _ n m b
    obtain ⟨hn, h⟩ := h
    cases h
    obtain ⟨_, ⟨_, ⟨rfl, _⟩, ⟨hl, _⟩⟩, _⟩ := hok
    have hn : m ≤ 140737488351232 := hn
    refine ⟨rfl, by decide, [], ?_⟩
    show run apf _ _ _ _ (st0 [(0, .ints .u32 64 kk), (1, .ints .u32 64 kk)] _ _)
    generalize hK : kk = K
    generalize hap : apf = ap
    cbv
    repeat' first
      | exact True.intro
      | (intro (hh : _ = true); first | with_reducible exact absurd hh (bk_t (by assumption)) | cbv)
      | (intro (hh : _ = false); first | with_reducible exact absurd hh (bk_f (by assumption)) | cbv)
      | with_reducible refine And.intro ?_ ?_
      | fail
    all_goals subst hap
    all_goals try simp only at *
    all_goals try simp only [apf, cmF, eqB', addN, leN, V.cnt, Nat.zero_add, eq_t, eq_f, eqL_t] at *
    all_goals try simp only [unLv_e, unT_e, unR3, topT3, lv0] at *
    all_goals try simp only [apf, Nat.sub_eq, Nat.succ_eq_add_one, cmF, arF, eqI', eqL', eqB', ltN, eqN, addN, subN, leN, minN, appN, mksN, V.cnt, llen, Nat.zero_add, Nat.add_zero, eq_t, eq_f, ne_t, ne_f, lt_t, lt_f, gt_t, gt_f, ge_t, ge_f, eqL_t, eqL_f, notB_t, notB_f, lenI, lenL, natI, Int.toNat_natCast] at *
    all_goals first
      | omega
      | contradiction
      | exact absurd hh (by decide)
      | exact root_ne' (by assumption)
      | (exfalso; simp at *; done)
      | exact isRw3
      | exact tree_lv
      | exact hN_pos _
      | exact tree_pos (by simp) (by simp)
      | trace_state
  · exact h.elim
theorem s6 : Sound Tryd.prog G2 6 (puM 6) (cLaw6 apf) := fn_sound rfl Tryd.call6 ok6 co6 (env_cons s21 (env_cons s23' (env_cons s27' (env_cons s28 (env_cons s24 (env_cons s26' (env_cons s31 (env_cons s32 env_nil)))))))) vc6
end Go.Cx.Rb
/- CxbMH -/
namespace Go.Cx.Rb
open Go Go.Cx Go.Proofs
noncomputable def cLaw3 (ap : AP) : Ctr
  | [.v (.dsl n 32 (.rows 32 m f)), .v (.int .i64 _), .v (.ints .u8 32 _)] => .chk (ap _ _ (ap _ _ eqN n) m) <| .chk (ap _ _ isRw f) <| .chk (ap _ _ (ap _ _ leN n) 4398046510976) <| .ok ⟨.tt, [], []⟩
  | _ => .fail 618
def ixM (n : Nat) (a : Int) : Int := wcv .i64 (wrem .u64 (wcv .u64 a) (wcv .u64 (n : Int)))
theorem ixM_ok {n : Nat} {a : Int} (h0 : 1 ≤ n) (h1 : n ≤ 256) : wcv .u64 (n : Int) ≠ 0 ∧ 0 ≤ ixM n a ∧ ixM n a < n := by
  have e : wcv .u64 (n : Int) = n := wcv_u64 (by omega)
  have ha : 0 ≤ wcv .u64 a := by
    rw [wcv, u64_emod]; omega
  obtain ⟨k, hk⟩ := Int.eq_ofNat_of_zero_le ha
  have e2 : wrem .u64 (wcv .u64 a) (wcv .u64 (n : Int)) = ((k % n : Nat) : Int) := by rw [e, hk]; rfl
  have h3 : k % n < n := Nat.mod_lt _ (by omega)
  refine ⟨by omega, ?_⟩
  rw [ixM, e2, wcv_i64 (by omega)]
  omega
theorem topT_n {l : List (List Int)} {n : Nat} (h : l.length = n) : topT (lvl l) (hN n) = rootL l := by subst h; rfl
theorem setT_len {l : List (List Int)} {i : Int} {x : List Int} : (setT l i x).length = l.length := by rw [setT]; split <;> simp
theorem tree_is {l : List (List Int)} {n : Nat} (h : l.length = n) (h0 : 1 ≤ n) (h1 : n ≤ 256) : isTr (hN n) (levV apf (lvl l)) := ⟨l, by omega, by omega, by rw [h], rfl⟩
theorem tree_ps {l : List (List Int)} {n : Nat} (h : l.length = n) (h0 : 1 ≤ n) (h1 : n ≤ 256) : posT (lvl l) (hN n) := by subst h; exact tree_pos h0 h1
theorem has_ok {l : List (List Int)} {i : Int} (h : 0 ≤ i ∧ i < l.length) : hasT l i = 0 := if_neg (by omega)
theorem unR_upd {n p : Nat} {g : Nat → List Int} {x : List Int} (h : p < n) : unR n (updR (rowV apf g) p (.ints .u8 32 x)) = (unR n (rowV apf g)).set p x := by
  apply List.ext_getElem (by simp [unR])
  intro j h1 h2
  simp only [unR, List.length_map, List.length_range] at h1
  simp only [unR, List.getElem_map, List.getElem_range, List.getElem_set, unRw, updR]
  by_cases c : j = p
  · subst c; simp
  · rw [if_neg c, if_neg (fun e => c e.symm)]
theorem setT_same {l : List (List Int)} {i : Int} (h : 0 ≤ i ∧ i < l.length) : setT l i (getL l i.toNat) = l := by
  rw [setT_in h]
  refine List.ext_getElem (by simp) fun j h1 h2 => ?_
  simp only [List.getElem_set, getL, List.getD_eq_getElem?_getD]
  split
  · rename_i e; subst e; simp [List.getElem?_eq_getElem h2]
  · rfl
theorem isRw_upd {f : Nat → V} {p : Nat} {x : List Int} (h : isRw f) : isRw (updR f p (.ints .u8 32 x)) := isRw_all fun t => by
  simp only [updR]
  split
  · exact ⟨x, rfl⟩
  · exact ⟨unRw f t, congrFun h t⟩
set_option maxRecDepth 20000 in
set_option maxHeartbeats 1600000 in
theorem vc3 (args : List Arg) (out : Out) (h : (cLaw3 apf args).to out) (hok : okAs args) :
    args.length = ic3.nargs ∧ ic3.nargs ≤ ic3.ntmps ∧ ∃ A, run apf [(21, cFixM apf), (22, cNewT apf), (23, cRootT apf), (24, cSetT apf), (25, cRootR apf)] A ic3.body (fnQ apf args out ic3.res) (st0 G2 true args) := by
  unfold cLaw3 at h
  split at h
  · rename_i n m f at0 leaf
    obtain ⟨h1, hf, h2, h⟩ := h
    cases h
    obtain rfl : n = m := h1
    have h2 : n ≤ 4398046510976 := h2
    generalize hg : unRw f = g
    have hf : f = rowV apf g := by rw [← hg]; exact hf
    clear hg
    subst hf
    have hl : (unR n (rowV apf g)).length = n := unR_len
    refine ⟨rfl, by decide, [], ?_⟩
    show run apf _ _ _ _ (st0 [(0, .ints .u32 64 kk), (1, .ints .u32 64 kk)] _ _)
    generalize hK : kk = K
    generalize hap : apf = ap
    cbv
    repeat' first
      | exact True.intro
      | (intro (hh : _ = true); first | with_reducible exact absurd hh (bk_t (by assumption)) | cbv)
      | (intro (hh : _ = false); first | with_reducible exact absurd hh (bk_f (by assumption)) | cbv)
      | with_reducible refine And.intro ?_ ?_
      | fail
    all_goals subst hap
    all_goals try simp only [cast_fix] at *
    all_goals try simp only [apf, cmF, arF, eqB', ltN, eqN, addN, leN, appN, V.cnt, Nat.zero_add, ne_t, ne_f, lt_f, gt_f, eqL_t, eqL_f, eqB_t, eqB_f, notB_t, notB_f, lenI, natI] at *
    all_goals try simp only [unLv_e, unT_e] at *
    all_goals try have K := ixM_ok (a := at0) (n := n) (by omega) (by omega)
    all_goals try rw [ixM] at K
    all_goals try (generalize wcv .i64 (wrem .u64 (wcv .u64 at0) (wcv .u64 (n : Int))) = q at *)
    all_goals try have t1 : topT (lvl (unR n (rowV apf g))) (hN n) = rootL (unR n (rowV apf g)) := topT_n hl
    all_goals try have t2 : topT (lvl (setT (unR n (rowV apf g)) q leaf)) (hN n) = rootL (setT (unR n (rowV apf g)) q leaf) := topT_n (setT_len.trans hl)
    all_goals try have t3 : unR n (updR (rowV apf g) q.toNat (.ints .u8 32 leaf)) = setT (unR n (rowV apf g)) q leaf := (unR_upd (by omega)).trans (setT_in (by omega)).symm
    all_goals try simp only [t1, t2, t3] at *
    all_goals try simp only [apf, Nat.sub_eq, Nat.succ_eq_add_one, cmF, arF, eqI', eqL', eqB', ltN, eqN, addN, subN, leN, minN, appN, mksN, V.cnt, llen, Nat.zero_add, Nat.add_zero, eq_t, eq_f, ne_t, ne_f, lt_t, lt_f, gt_t, gt_f, ge_t, ge_f, eqL_t, eqL_f, eqB_t, eqB_f, notB_t, notB_f, lenI, lenL, natI, Int.toNat_natCast] at *
    all_goals first
      | omega
      | contradiction
      | (have hb : badN n = true := by assumption
         simp [badN] at hb
         omega)
      | exact absurd (has_ok (l := unR n (rowV apf g)) (i := q) (by rw [hl]; omega)) (by assumption)
      | exact K.1
      | exact tree_ps hl (by omega) (by omega)
      | exact tree_ps (setT_len.trans hl) (by omega) (by omega)
      | exact tree_is hl (by omega) (by omega)
      | exact isRw_upd hf
      | (have e : setT (unR n (rowV apf g)) q leaf = unR n (rowV apf g) := by
           rw [show leaf = getL (unR n (rowV apf g)) q.toNat from (by assumption : leaf = g q.toNat).trans (unR_get (f := rowV apf g) (by omega)).symm, setT_same (by omega)]
         rw [e])
      | exact tree_lv
      | exact hN_pos _
      | trace_state
  · exact h.elim
theorem s3 : Sound Tryd.prog G2 3 (puM 3) (cLaw3 apf) := fn_sound rfl Tryd.call3 ok3 co3 (env_cons s21 (env_cons s22 (env_cons s23' (env_cons s24 (env_cons s25 env_nil))))) vc3
end Go.Cx.Rb
/- CxbMI -/
namespace Go.Cx.Rb
open Go Go.Cx Go.Proofs
theorem isRw_c {v : List Int} : isRw (fun _ => .ints .u8 32 v) := rfl
theorem bad_f {n : Nat} (h : badN n = false) : 1 ≤ n ∧ n ≤ 256 := by
  have := of_decide_eq_false h
  omega
theorem unR_nil {f : Nat → V} : unR 0 f = [] := rfl
end Go.Cx.Rb
