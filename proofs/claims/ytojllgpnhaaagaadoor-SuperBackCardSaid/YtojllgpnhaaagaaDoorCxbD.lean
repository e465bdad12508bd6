/-
  The digest's inner functions keep their contracts: words, schedule, pieces.
-/
import Derived.Test.YtojllgpnhaaagaaDoorCxF
import Derived.Test.YtojllgpnhaaagaaDoorCxbC
import Derived.Test.YtojllgpnhaaagaaDoorCxbA
namespace Go.Cx.Rb
open Go Go.Cx Go.Proofs

abbrev G1 : List (Nat × V) := [(1, .ints .u32 64 kk)]

def rotK : List Int := [-7, -18, -17, -19, -6, -11, -25, -2, -13, -22]
def cRot (ap : AP) : Ctr
  | [.v (.int .u32 x), .v (.lit .i64 k)] => rif (rotK.contains k) 200 (.ok ⟨.int .u32 (ap _ _ (ap _ _ rr x) (-k)), [], []⟩)
  | _ => .fail 200

theorem vc161 (args : List Arg) (out : Out) (h : (cRot apf args).to out) (hok : okAs args) : args.length = ic161.nargs ∧ ic161.nargs ≤ ic161.ntmps ∧ ∃ A, run apf [] A ic161.body (fnQ apf args out ic161.res) (st0 G1 true args) := by
  unfold cRot at h
  split at h
  · rename_i x k
    obtain ⟨hk, h⟩ := rif_to h
    cases h
    refine ⟨rfl, by decide, [], ?_⟩
    simp only [rotK, List.contains_cons, List.contains_nil, Bool.or_false, Bool.or_eq_true, beq_iff_eq] at hk
    rcases hk with rfl | rfl | rfl | rfl | rfl | rfl | rfl | rfl | rfl | rfl <;>
    · generalize hap : apf = ap
      cbv
      subst hap
      refine ⟨?_, trivial⟩
      simp only [apf, eqI', rr, arF]
      rw [bor_comm]
      rfl
  · exact h.elim

theorem s161 : Sound Tryd.prog G1 161 (pu 161) (cRot apf) := fn_sound (E := []) rfl Tryd.call161 ok161 co161 (fun _ _ h => by cases h) vc161

/-- 'word' -/
def ge0 (x : Int) : Prop := 0 ≤ x
def fits (x : Int) (m n : Nat) : Prop := x.toNat + m ≤ n
def cWord (ap : AP) : Ctr
  | [.b n 1 (.ints .u8 _ b), .v (.int .i64 x)] => .chk (ap _ _ ge0 x) (.chk (ap _ _ (ap _ _ (ap _ _ fits x) 4) n) (.ok ⟨.int .u32 (ap _ _ (ap _ _ wordS b) (ap _ _ natI x)), [], []⟩))
  | _ => .fail 201

theorem vc163 (args : List Arg) (out : Out) (h : (cWord apf args).to out) (hok : okAs args) : args.length = ic163.nargs ∧ ic163.nargs ≤ ic163.ntmps ∧ ∃ A, run apf [] A ic163.body (fnQ apf args out ic163.res) (st0 G1 true args) := by
  unfold cWord at h
  split at h
  · rename_i n m b x
    obtain ⟨h1, h2, h⟩ := h
    cases h
    have h1 : 0 ≤ x := h1
    have h2 : x.toNat + 4 ≤ n := h2
    obtain ⟨⟨hn, ⟨rfl, _⟩, hb⟩, _⟩ := hok
    refine ⟨rfl, by decide, [], ?_⟩
    generalize hap : apf = ap
    cbv
    subst hap
    have a1 : wadd .i64 x 1 = x + 1 := wadd_i64 (by omega)
    have a2 : wadd .i64 x 2 = x + 2 := wadd_i64 (by omega)
    have a3 : wadd .i64 x 3 = x + 3 := wadd_i64 (by omega)
    have e1 : (x + 1).toNat = x.toNat + 1 := by omega
    have e2 : (x + 2).toNat = x.toNat + 2 := by omega
    have e3 : (x + 3).toNat = x.toNat + 3 := by omega
    simp only [apf, ltN, addN, natI, arF, a1, a2, a3, eqI', e1, e2, e3, Nat.zero_add]
    refine ⟨h1, ?_, ?_, ?_, ?_, ?_, ?_, ?_, ?_, ?_, ?_, ?_, rfl, trivial⟩ <;> omega
  · exact h.elim

theorem s163 : Sound Tryd.prog G1 163 (pu 163) (cWord apf) := fn_sound (E := []) rfl Tryd.call163 ok163 co163 (fun _ _ h => by cases h) vc163

/-- 'schedule' -/
def schedW (b : List Int) : List Int := schedL b 64
def cSched (ap : AP) : Ctr
  | [.b n 1 (.ints .u8 _ b)] => .chk (ap _ _ (ap _ _ leN 64) n) (.ok ⟨.ints .u32 64 (ap _ _ schedW b), [], []⟩)
  | _ => .fail 202

def zs (m : Nat) : List Int := List.replicate m 0
def fill (b : List Int) (i : Nat) : List Int := schedL b i ++ zs (64 - i)

theorem schedL_len (b : List Int) : ∀ i, (schedL b i).length = i
  | 0 => rfl
  | i + 1 => by simp [schedL, schedL_len b i]
theorem fill_set {b : List Int} {i : Nat} {x : Int} (h : i < 64) (hx : x = if i < 16 then wordS b (4 * i) else mix (schedL b i) i) : setI (fill b i) i x = fill b (i + 1) := by
  subst hx
  rw [fill, zs, setI_fill (schedL_len b i) (by omega)]
  simp only [fill, zs, schedL]
  congr 2
theorem fill_get {b : List Int} {i j : Nat} (h : j < i) : nthI (fill b i) j = nthI (schedL b i) j := nthI_app_lt (by rw [schedL_len]; exact h)

def aSched (ap : AP) (m : Nat) (l : List Int) : List (Nat × Ann) := [
  (0, .inv Nat (fun i => { ts := [(0, .sl (parH 0) [] 0 m 1 none), (2, .ptr 2 []), (3, .ptr 3 []), (10, .int .i64 (ap _ _ lenI i))], hs := [(parH 0, ⟨.bor, .ints .u8 m l⟩), (2, ⟨.own, .ints .u32 64 (ap _ _ zs 64)⟩), (3, ⟨.own, .ints .u32 64 (ap _ _ (ap _ _ fill l) i)⟩)] }) (fun i => i ≤ 16) (fun i => 16 - i)),
  (1, .inv Nat (fun i => { ts := [(2, .ptr 2 []), (3, .ptr 3 []), (5, .int .i64 (ap _ _ lenI i))], hs := [(2, ⟨.own, .ints .u32 64 (ap _ _ zs 64)⟩), (3, ⟨.own, .ints .u32 64 (ap _ _ (ap _ _ fill l) i)⟩)] }) (fun i => 16 ≤ i ∧ i ≤ 64) (fun i => 64 - i))]

theorem vc160 (args : List Arg) (out : Out) (h : (cSched apf args).to out) (hok : okAs args) :
    args.length = ic160.nargs ∧ ic160.nargs ≤ ic160.ntmps ∧ ∃ A, run apf [(161, cRot apf), (163, cWord apf)] A ic160.body (fnQ apf args out ic160.res) (st0 G1 true args) := by
  unfold cSched at h
  split at h
  · rename_i n m b
    obtain ⟨h1, h⟩ := h
    cases h
    have h1 : 64 ≤ n := h1
    obtain ⟨⟨hn, ⟨rfl, _⟩, hb⟩, _⟩ := hok
    refine ⟨rfl, by decide, aSched apf m b, ?_⟩
    generalize hap : apf = ap
    cbv
    refine ⟨⟨0, Nat.zero_le _, ?_⟩, ?_⟩
    · cbv
      subst hap
      exact ⟨rfl, rfl, rfl, rfl, rfl, rfl, rfl, rfl, rfl, trivial⟩
    · intro (i : Nat) hi _ _
      have hi : i ≤ 16 := hi
      cbv
      refine ⟨fun hlt => ?_, fun hge => ?_⟩
      · have b0 : i < 16 := by
          have : (i : Int) < 16 := by subst hap; exact lss_t hlt
          omega
        have b1 : i + 1 ≤ 16 := by omega
        have b2 : 16 - (i + 1) < 16 - i := by omega
        cbv
        refine ⟨?_, ?_, ?_, ?_, ?_, ?_, i + 1, b1, b2, ?_⟩
        rotate_right 1
        · cbv
          subst hap
          have a1 : wmul .i64 4 (i : Int) = 4 * (i : Int) := wmul_i64 (by omega)
          refine ⟨rfl, rfl, (wadd_i64 (x := i) (y := 1) (by omega)).symm, rfl, rfl, rfl, rfl, rfl, ?_, trivial⟩
          refine (fill_set (by omega) ?_).symm
          rw [if_pos (by omega)]
          have e : (4 * (i : Int)).toNat = 4 * i := by omega
          show wordS (subL b 0 m) (wmul .i64 4 (i : Int)).toNat = _
          rw [a1, e, subL, List.drop_zero, List.take_of_length_le (by rw [hb.1]; omega)]
        all_goals subst hap
        all_goals have a1 : wmul .i64 4 (i : Int) = 4 * (i : Int) := wmul_i64 (by omega)
        all_goals simp only [apf, ltN, leN, addN, natI, lenI, ge0, fits, arF, a1, V.cnt, Nat.zero_add, Int.toNat_natCast]
        all_goals omega
      · have hge : i = 16 := by
          have : 16 ≤ (i : Int) := by subst hap; exact lss_f hge
          omega
        subst hge
        cbv
        refine ⟨⟨16, ⟨by omega, by omega⟩, ?_⟩, ?_⟩
        · cbv
          subst hap
          exact ⟨rfl, rfl, rfl, rfl, rfl, trivial⟩
        · intro (i : Nat) hi _ _
          have hi : 16 ≤ i ∧ i ≤ 64 := hi
          cbv
          refine ⟨fun hlt => ?_, fun hge => ?_⟩
          · have b0 : i < 64 := by
              have : (i : Int) < 64 := by subst hap; exact lss_t hlt
              omega
            have b1 : 16 ≤ i + 1 ∧ i + 1 ≤ 64 := by omega
            have b2 : 64 - (i + 1) < 64 - i := by omega
            cbv
            refine ⟨?_, ?_, ?_, ?_, ?_, ?_, ?_, ?_, ?_, ?_, ?_, ?_, ?_, ?_, ?_, i + 1, b1, b2, ?_⟩
            all_goals have a1 : wsub .i64 (i : Int) 15 = (i : Int) - 15 := wsub_i64 (by omega)
            all_goals have a2 : wsub .i64 (i : Int) 2 = (i : Int) - 2 := wsub_i64 (by omega)
            all_goals have a3 : wsub .i64 (i : Int) 16 = (i : Int) - 16 := wsub_i64 (by omega)
            all_goals have a4 : wsub .i64 (i : Int) 7 = (i : Int) - 7 := wsub_i64 (by omega)
            rotate_right 1
            · cbv
              subst hap
              refine ⟨(wadd_i64 (x := i) (y := 1) (by omega)).symm, rfl, rfl, rfl, ?_, trivial⟩
              refine (fill_set (by omega) ?_).symm
              rw [if_neg (by omega)]
              have e1 : ((i : Int) - 15).toNat = i - 15 := by omega
              have e2 : ((i : Int) - 2).toNat = i - 2 := by omega
              have e3 : ((i : Int) - 16).toNat = i - 16 := by omega
              have e4 : ((i : Int) - 7).toNat = i - 7 := by omega
              simp only [apf, arF, natI, lenI]
              rw [a1, a2, a3, a4, e1, e2, e3, e4, fill_get (by omega), fill_get (by omega), fill_get (by omega), fill_get (by omega)]
              rfl
            all_goals subst hap
            all_goals simp only [apf, ltN, natI, lenI, arF, a1, a2, a3, a4, Int.toNat_natCast]
            all_goals omega
          · have hge : i = 64 := by
              have : 64 ≤ (i : Int) := by subst hap; exact lss_f hge
              omega
            subst hge
            cbv
            subst hap
            exact ⟨rfl, by simp [apf, eqL', schedW, fill, zs], trivial⟩
  · exact h.elim

theorem s160 : Sound Tryd.prog G1 160 (pu 160) (cSched apf) := fn_sound rfl Tryd.call160 ok160 co160 (fun f c h => by
  simp only [look] at h
  split at h
  · rename_i e; cases h; cases e; exact s161
  · split at h
    · rename_i e; cases h; cases e; exact s163
    · cases h) vc160
end Go.Cx.Rb

/- The digest's inner functions keep their contracts: a piece. -/
namespace Go.Cx.Rb
open Go Go.Cx Go.Proofs

def cPiece (ap : AP) : Ctr
  | [.v (.ints .u32 8 h), .b n 1 (.ints .u8 _ b)] => .chk (ap _ _ (ap _ _ leN 64) n) (.ok ⟨.ints .u32 8 (ap _ _ (ap _ _ piece h) b), [], []⟩)
  | _ => .fail 203

def addP (h v : List Int) (i : Nat) : List Int := ((List.range i).map fun j => wadd .u32 (nthI h j) (nthI v j)) ++ h.drop i
theorem addP_get {h v : List Int} {i : Nat} : nthI (addP h v i) i = nthI h i := by
  have : nthI (addP h v i) i = nthI (h.drop i) 0 := by
    simp only [addP, nthI, List.getD_eq_getElem?_getD]
    rw [List.getElem?_append_right (by simp)]
    simp
  rw [this, nthI_drop]; rfl
theorem addP_set {h v : List Int} {i : Nat} (hi : i < h.length) : setI (addP h v i) i (wadd .u32 (nthI h i) (nthI v i)) = addP h v (i + 1) := by
  simp only [addP, setI, List.range_succ, List.map_append, List.map_cons, List.map_nil, List.append_assoc]
  rw [List.set_append_right _ _ (by simp)]
  simp only [List.length_map, List.length_range, Nat.sub_self]
  congr 1
  rw [List.drop_eq_getElem_cons hi]
  rfl
theorem addP_end {h v : List Int} (hi : h.length = 8) : addP h v 8 = addL h v := by
  simp [addP, addL, List.drop_of_length_le, hi]

def aPiece (ap : AP) (K h w v : List Int) : List (Nat × Ann) := [
  (0, .inv Nat (fun i => ⟨[(2, .ptr 2 []), (4, .ptr 4 []), (5, .ptr 5 []), (6, .ptr 6 []), (16, .int .i64 (ap _ _ lenI i))],
      [(globH 1, ⟨.imm, .ints .u32 64 K⟩), (2, ⟨.own, .ints .u32 8 h⟩), (4, ⟨.own, .ints .u32 8 (ap _ _ zs 8)⟩), (5, ⟨.own, .ints .u32 64 w⟩), (6, ⟨.own, .ints .u32 8 (ap _ _ (ap _ _ (ap _ _ rndL h) w) i)⟩)], []⟩) (fun i => i ≤ 64) (fun i => 64 - i)),
  (1, .inv Nat (fun i => ⟨[(2, .ptr 2 []), (4, .ptr 4 []), (6, .ptr 6 []), (98, .int .i64 (ap _ _ lenI i))],
      [(2, ⟨.own, .ints .u32 8 (ap _ _ (ap _ _ (ap _ _ addP h) v) i)⟩), (4, ⟨.own, .ints .u32 8 (ap _ _ zs 8)⟩), (6, ⟨.own, .ints .u32 8 v⟩)], []⟩) (fun i => i ≤ 8) (fun i => 8 - i))]

theorem vc152 (args : List Arg) (out : Out) (h : (cPiece apf args).to out) (hok : okAs args) :
    args.length = ic152.nargs ∧ ic152.nargs ≤ ic152.ntmps ∧ ∃ A, run apf [(161, cRot apf), (160, cSched apf)] A ic152.body (fnQ apf args out ic152.res) (st0 G1 true args) := by
  unfold cPiece at h
  split at h
  · rename_i hh n m b
    obtain ⟨h1, h⟩ := h
    cases h
    obtain ⟨⟨hl, _⟩, ⟨hn, ⟨rfl, _⟩, hb⟩, _⟩ := hok
    refine ⟨rfl, by decide, aPiece apf kk hh (apf _ _ schedW b) (apf _ _ (apf _ _ (apf _ _ rndL hh) (apf _ _ schedW b)) 64), ?_⟩
    show run apf _ _ _ _ (st0 [(1, .ints .u32 64 kk)] _ _)
    generalize hK : kk = K
    generalize hap : apf = ap
    cbv
    refine ⟨?_, ?_, ⟨0, Nat.zero_le _, ?_⟩, ?_⟩
    · subst hap; simp only [apf, leN, addN, V.cnt, Nat.zero_add]; exact Nat.le_refl _
    · subst hap; exact h1
    · cbv
      subst hap
      simp only [apf, eqN, eqI', eqL', lenI, rndL, subL_all (Nat.le_of_eq hb.1)]
      and_intros <;> first | trivial | rfl
    · intro (i : Nat) hi _ _
      have hi : i ≤ 64 := hi
      cbv
      refine ⟨fun hlt => ?_, fun hge => ?_⟩
      · have b0 : i < 64 := by
          have : (i : Int) < 64 := by subst hap; exact lss_t hlt
          omega
        have b1 : i + 1 ≤ 64 := by omega
        have b2 : 64 - (i + 1) < 64 - i := by omega
        cbv
        and_intros
        any_goals (refine ⟨i + 1, b1, b2, ?_⟩; cbv; and_intros)
        all_goals subst hap
        all_goals have inc : wadd .i64 (i : Int) 1 = ((i + 1 : Nat) : Int) := inc_i64 (by omega)
        all_goals try simp only [apf, ltN, natI, lenI, arF, eqI', eqL', eqN, Int.toNat_natCast, inc]
        all_goals try omega
        subst hK
        simp only [Int.neg_neg]
        rfl
      · have hge : i = 64 := by
          have : 64 ≤ (i : Int) := by subst hap; exact lss_f hge
          omega
        subst hge
        cbv
        refine ⟨⟨0, Nat.zero_le _, ?_⟩, ?_⟩
        · cbv
          subst hap
          simp only [apf, eqN, eqI', eqL', lenI]
          and_intros <;> first | trivial | rfl
        · intro (i : Nat) hi _ _
          have hi : i ≤ 8 := hi
          cbv
          refine ⟨fun hlt => ?_, fun hge => ?_⟩
          · have b0 : i < 8 := by
              have : (i : Int) < 8 := by subst hap; exact lss_t hlt
              omega
            have b1 : i + 1 ≤ 8 := by omega
            have b2 : 8 - (i + 1) < 8 - i := by omega
            cbv
            and_intros
            any_goals (refine ⟨i + 1, b1, b2, ?_⟩; cbv; and_intros)
            all_goals subst hap
            all_goals have inc : wadd .i64 (i : Int) 1 = ((i + 1 : Nat) : Int) := inc_i64 (by omega)
            all_goals try simp only [apf, ltN, natI, lenI, arF, eqI', eqL', eqN, Int.toNat_natCast, inc]
            all_goals try omega
            rw [addP_get]
            exact (addP_set (by omega)).symm
          · have hge : i = 8 := by
              have : 8 ≤ (i : Int) := by subst hap; exact lss_f hge
              omega
            subst hge
            cbv
            subst hap
            simp only [apf, eqN, eqL']
            exact ⟨trivial, (addP_end hl).symm, trivial⟩
  · exact h.elim

theorem s152 : Sound Tryd.prog G1 152 (pu 152) (cPiece apf) := fn_sound rfl Tryd.call152 ok152 co152 (fun f c h => by
  simp only [look] at h
  split at h
  · rename_i e; cases h; cases e; exact s161
  · split at h
    · rename_i e; cases h; cases e; exact s160
    · cases h) vc152
end Go.Cx.Rb

/- The digest's state: at first, and behind more bytes. -/
namespace Go.Cx.Rb
open Go Go.Cx Go.Proofs

def cFirst (_ : AP) : Ctr
  | [] => .ok ⟨.ints .u32 8 iv, [], []⟩
  | _ => .fail 204

theorem vc151 (args : List Arg) (out : Out) (h : (cFirst apf args).to out) (hok : okAs args) :
    args.length = ic151.nargs ∧ ic151.nargs ≤ ic151.ntmps ∧ ∃ A, run apf [] A ic151.body (fnQ apf args out ic151.res) (st0 G1 true args) := by
  unfold cFirst at h
  split at h
  · cases h
    refine ⟨rfl, by decide, [], ?_⟩
    generalize hap : apf = ap
    cbv
    subst hap
    exact ⟨rfl, rfl, trivial⟩
  · exact h.elim
theorem s151 : Sound Tryd.prog G1 151 (pu 151) (cFirst apf) := fn_sound rfl Tryd.call151 ok151 co151 env_nil vc151

def hashV (h : List Int) (n : Nat) (l : List Int) (s : Int) : V := .cat 8 2 (.ints .u32 8 h) (.cat 1 1 (.osl n 1 (.ints .u8 n l)) (.int .u64 s))
def cNew (ap : AP) : Ctr
  | [] => .ok ⟨.ptr 0 [], [], [hashV iv 0 (ap _ _ zs 0) (ap _ _ lenI 0)]⟩
  | _ => .fail 205

theorem vc136 (args : List Arg) (out : Out) (h : (cNew apf args).to out) (hok : okAs args) :
    args.length = ic136.nargs ∧ ic136.nargs ≤ ic136.ntmps ∧ ∃ A, run apf [(151, cFirst apf)] A ic136.body (fnQ apf args out ic136.res) (st0 G1 true args) := by
  unfold cNew at h
  split at h
  · cases h
    refine ⟨rfl, by decide, [], ?_⟩
    generalize hap : apf = ap
    cbv
    subst hap
    exact ⟨rfl, rfl, rfl, rfl, rfl, rfl, trivial⟩
  · exact h.elim
theorem s136 : Sound Tryd.prog G1 136 (pu 136) (cNew apf) := fn_sound rfl Tryd.call136 ok136 co136 (env_cons s151 env_nil) vc136
end Go.Cx.Rb

/- More bytes for a digest. -/
namespace Go.Cx.Rb
open Go Go.Cx Go.Proofs

def cAdd (ap : AP) : Ctr
  | [.o (.cat 8 2 (.ints .u32 8 h) (.cat 1 1 (.osl n 1 (.ints .u8 n' l)) (.int .u64 s))), .b m 1 (.ints .u8 _ b)] =>
    .chk (ap _ _ (ap _ _ eqN n) n') <| .chk (ap _ _ (ap _ _ ltN n) 64) (.ok ⟨.lit .i64 0, [hashV (ap _ _ (ap _ _ (ap _ _ addW h) l) b) (ap _ _ (ap _ _ addM n) m) (ap _ _ (ap _ _ addR l) b) (ap _ _ (ap _ _ addS s) m)], []⟩)
  | [.v .nilp, .b _ 1 (.ints .u8 _ _)] => .ok ⟨.lit .i64 1, [], []⟩
  | _ => .fail 206

def offA (n k : Nat) : Nat := 64 * k - n
def lenA (n m k : Nat) : Nat := m - (64 * k - n)
def aAdd (ap : AP) (h : List Int) (n : Nat) (l : List Int) (m : Nat) (b : List Int) (s : Int) : List (Nat × Ann) := [
  (0, .inv (Nat × List (Nat × Nat) × Nat × List Int) (fun x => ⟨[(0, .ptr (parH 0) []), (1, .sl (parH 1) [] (ap _ _ (ap _ _ offA n) x.1) (ap _ _ (ap _ _ (ap _ _ lenA n) m) x.1) 1 none)],
      [(parH 0, ⟨.own, .cat 8 2 (.ints .u32 8 (ap _ _ (ap _ _ (ap _ _ (ap _ _ runW h) l) b) x.1)) (.cat 1 1 (.sl 50 [] 0 0 1 none) (.int .u64 s))⟩), (50, ⟨.own, .ints .u8 x.2.2.1 x.2.2.2⟩), (parH 1, ⟨.bor, .ints .u8 m b⟩)], x.2.1⟩)
    (fun x => n ≤ 64 * x.1 ∧ 64 * x.1 ≤ n + m) (fun x => n + m - 64 * x.1))]

theorem vc137 (args : List Arg) (out : Out) (h : (cAdd apf args).to out) (hok : okAs args) :
    args.length = ic137.nargs ∧ ic137.nargs ≤ ic137.ntmps ∧ ∃ A, run apf [(152, cPiece apf)] A ic137.body (fnQ apf args out ic137.res) (st0 G1 false args) := by
  unfold cAdd at h
  split at h
  · rename_i hh n n' l s m m' b
    obtain ⟨h0, h1, h⟩ := h
    cases h
    have h0 : n = n' := h0
    subst h0
    have h1 : n < 64 := h1
    obtain ⟨⟨hh8, hl, hs⟩, ⟨hm, ⟨rfl, _⟩, hb⟩, _⟩ := hok
    refine ⟨rfl, by decide, aAdd apf hh n l m' b (apf _ _ (apf _ _ addS s) m'), ?_⟩
    show run apf _ _ _ _ (st0 [(1, .ints .u32 64 kk)] _ _)
    generalize hK : kk = K
    have hmin : minI (wsub .i64 64 (n : Int)) (m' : Int) = ((min (64 - n) m' : Nat) : Int) := by
      rw [wsub_i64 (by omega), minI]
      split <;> omega
    have hmt : apf _ _ natI (apf _ _ (apf _ _ minI (apf _ _ (apf _ _ (arF .sub .i64) 64) (apf _ _ lenI n))) (apf _ _ lenI m')) = min (64 - n) m' := by
      show (minI (wsub .i64 64 (n : Int)) (m' : Int)).toNat = _
      rw [hmin]; simp
    have hm0 : 0 ≤ minI (wsub .i64 64 (n : Int)) (m' : Int) := by rw [hmin]; omega
    clear hmin
    generalize hap : apf = ap at hmt ⊢
    cbv
    refine ⟨fun hlt => ?_, fun hge => ?_⟩
    · have hn0 : 0 < n := by
        have : (0 : Int) < (n : Int) := by subst hap; exact gtr_t hlt
        omega
      cbv
      simp only [hmt]
      generalize ht : min (64 - n) m' = t
      and_intros
      rotate_right 2
      · intro h2
        have h2 : n + t < 64 := by
          have : ((n + t : Nat) : Int) < 64 := by subst hap; exact lss_t h2
          omega
        cbv
        subst hap
        have e1 : t = m' := by omega
        subst e1
        simp only [apf, eqI', eqL', eqN, addN, addM, true_and, and_true]
        have e2 : l.length + b.length < 64 := by rw [hl.1, hb.1]; omega
        have e3 : catL (subL l 0 n) (subL b 0 t) = l ++ b := by rw [catL, subL_all (by rw [hl.1]; omega), subL_all (by rw [hb.1]; omega)]
        rw [e3, addW_few e2, addR_few e2, Nat.mod_eq_of_lt (by omega)]
        have e4 : subL (l ++ b) 0 (n + t) = l ++ b := by
          rw [subL_all]
          rw [List.length_append, hl.1, hb.1]
          exact Nat.le_refl _
        rw [e4]
        and_intros
        all_goals first
          | rfl
          | exact True.intro
          | exact show 0 + (n + t) ≤ n + t by omega
      · intro h2
        have h2 : 64 ≤ n + t := by
          have : 64 ≤ ((n + t : Nat) : Int) := by subst hap; exact lss_f h2
          omega
        cbv
        refine ⟨?_, ?_, ?_, ⟨(1, [(50, 41)], ap _ _ (ap _ _ addN n) t, ap _ _ (ap _ _ catL (ap _ _ (ap _ _ (ap _ _ subL l) 0) n)) (ap _ _ (ap _ _ (ap _ _ subL b) 0) t)), ⟨by omega, by omega⟩, ?_⟩, ?_⟩
        · subst hap; simp only [apf, leN, addN, V.cnt]; omega
        · subst hap; simp only [apf, leN, addN]; omega
        · subst hap; simp only [apf, leN, addN]; omega
        · cbv
          subst hap
          have e := (runW_first (h := hh) (l := l) (b := b) (n := n + t) (t := t) (by rw [hl.1]; omega)).resolve_right (by omega)
          rw [hl.1] at e
          simp only [apf, eqN, eqI', eqL', offA, lenA, subN, addN, addS]
          and_intros
          all_goals first
            | exact True.intro
            | omega
            | exact e.symm
            | rfl
        · intro (x : Nat × List (Nat × Nat) × Nat × List Int) hp _ _
          obtain ⟨k, r, cN, cL⟩ := x
          have hp : n ≤ 64 * k ∧ 64 * k ≤ n + m' := hp
          cbv
          refine ⟨fun hlt2 => ?_, fun hge2 => ?_⟩
          · have b0 : 64 ≤ lenA n m' k := by
              have : 64 ≤ ((lenA n m' k : Nat) : Int) := by subst hap; exact geq_t hlt2
              omega
            have b0' : 64 ≤ m' - (64 * k - n) := b0
            have b1 : n ≤ 64 * (k + 1) ∧ 64 * (k + 1) ≤ n + m' := by omega
            have b2 : n + m' - 64 * (k + 1) < n + m' - 64 * k := by omega
            cbv
            and_intros
            any_goals (refine ⟨(k + 1, [], cN, cL), b1, b2, ?_⟩; cbv; and_intros)
            all_goals subst hap
            all_goals simp only [apf, leN, addN, V.cnt, eqN, eqI', eqL', offA, lenA, subN]
            all_goals try omega
            have e := runW_next (h := hh) (l := l) (b := b) (k := k) (n := m' - (64 * k - n)) (by rw [hl.1]; omega) b0'
            rw [hl.1] at e
            exact e.symm
          · have b0 : lenA n m' k < 64 := by
              have : ((lenA n m' k : Nat) : Int) < 64 := by subst hap; exact geq_f hge2
              omega
            have b0' : m' - (64 * k - n) < 64 := b0
            cbv
            subst hap
            have e1 : l.length ≤ 64 * k := by rw [hl.1]; omega
            have e2 : 64 * k ≤ l.length + b.length := by rw [hl.1, hb.1]; omega
            have e3 : l.length + b.length < 64 * k + 64 := by rw [hl.1, hb.1]; omega
            have g1 := addW_end (h := hh) e2 e3
            have g2 := addR_end e1 e2 e3
            rw [hl.1, hb.1] at g2
            simp only [apf, leN, addN, V.cnt, eqN, eqI', eqL', offA, lenA, appN, addM, addS, Nat.zero_add]
            and_intros
            all_goals first
              | exact True.intro
              | omega
              | exact g1.symm
              | (rw [catL_nil, subL_all (by rw [subL_len (by rw [hb.1]; omega)]; omega)]; exact g2)
              | rfl
      all_goals subst hap
      all_goals simp only [apf, leN, addN, appN, V.cnt]
      all_goals first | exact hm0 | omega
    · have hn0 : n = 0 := by
        have : (n : Int) ≤ 0 := by subst hap; exact gtr_f hge
        omega
      subst hn0
      cbv
      refine ⟨⟨(0, [(50, 9000)], 0, l), ⟨by omega, by omega⟩, ?_⟩, ?_⟩
      · cbv
        subst hap
        simp only [apf, eqN, eqI', eqL', offA, lenA, addS, runW, blk]
        and_intros
        all_goals first
          | exact True.intro
          | omega
          | rfl
      · intro (x : Nat × List (Nat × Nat) × Nat × List Int) hp _ _
        obtain ⟨k, r, cN, cL⟩ := x
        have hp : 0 ≤ 64 * k ∧ 64 * k ≤ 0 + m' := hp
        cbv
        refine ⟨fun hlt2 => ?_, fun hge2 => ?_⟩
        · have b0 : 64 ≤ lenA 0 m' k := by
            have : 64 ≤ ((lenA 0 m' k : Nat) : Int) := by subst hap; exact geq_t hlt2
            omega
          have b0' : 64 ≤ m' - (64 * k - 0) := b0
          have b1 : 0 ≤ 64 * (k + 1) ∧ 64 * (k + 1) ≤ 0 + m' := by omega
          have b2 : 0 + m' - 64 * (k + 1) < 0 + m' - 64 * k := by omega
          cbv
          and_intros
          any_goals (refine ⟨(k + 1, [], cN, cL), b1, b2, ?_⟩; cbv; and_intros)
          all_goals subst hap
          all_goals simp only [apf, leN, addN, V.cnt, eqN, eqI', eqL', offA, lenA, subN]
          all_goals try omega
          have e := runW_next (h := hh) (l := l) (b := b) (k := k) (n := m' - (64 * k - 0)) (by rw [hl.1]; omega) b0'
          rw [hl.1] at e
          exact e.symm
        · have b0 : lenA 0 m' k < 64 := by
            have : ((lenA 0 m' k : Nat) : Int) < 64 := by subst hap; exact geq_f hge2
            omega
          have b0' : m' - (64 * k - 0) < 64 := b0
          cbv
          subst hap
          have e1 : l.length ≤ 64 * k := by rw [hl.1]; omega
          have e2 : 64 * k ≤ l.length + b.length := by rw [hl.1, hb.1]; omega
          have e3 : l.length + b.length < 64 * k + 64 := by rw [hl.1, hb.1]; omega
          have g1 := addW_end (h := hh) e2 e3
          have g2 := addR_end e1 e2 e3
          rw [hl.1, hb.1] at g2
          simp only [apf, leN, addN, V.cnt, eqN, eqI', eqL', offA, lenA, appN, addM, addS, Nat.zero_add]
          and_intros
          all_goals first
            | exact True.intro
            | omega
            | exact g1.symm
            | (rw [catL_nil, subL_all (by rw [subL_len (by rw [hb.1]; omega)]; omega)]; exact g2)
            | rfl
  · cases h
    refine ⟨rfl, by decide, [], ?_⟩
    generalize hap : apf = ap
    cbv
    subst hap
    exact ⟨rfl, trivial⟩
  · exact h.elim
theorem s137 : Sound Tryd.prog G1 137 (pu 137) (cAdd apf) := fn_sound rfl Tryd.call137 ok137 co137 (env_cons s152 env_nil) vc137
end Go.Cx.Rb

/- A digest's state asked for the digest. -/
namespace Go.Cx.Rb
open Go Go.Cx Go.Proofs

def cSum (ap : AP) : Ctr
  | [.o (.cat 8 2 (.ints .u32 8 h) (.cat 1 1 (.osl n 1 (.ints .u8 n' l)) (.int .u64 s)))] => .chk (ap _ _ (ap _ _ eqN n) n') <| .chk (ap _ _ (ap _ _ ltN n) 64)
    (.ok ⟨.tcons (.ints .u8 32 (ap _ _ (ap _ _ (ap _ _ digW h) l) s)) (.tcons (.lit .i64 0) .tnil), [hashV h n l s], []⟩)
  | [.v .nilp] => .ok ⟨.tcons (.ints .u8 32 (ap _ _ zs 32)) (.tcons (.lit .i64 1) .tnil), [], []⟩
  | _ => .fail 207

def off64 (k : Nat) : Nat := 64 * k
def rest64 (N k : Nat) : Nat := N - 64 * k

def aSum (ap : AP) (h : List Int) (n : Nat) (l : List Int) (s : Int) : List (Nat × Ann) := [
  (0, .inv (Nat × List (Nat × Nat)) (fun x => ⟨[(0, .ptr (parH 0) []), (2, .ptr 2 []), (3, .lit .i64 0), (4, .sl 50 [] 0 (ap _ _ (ap _ _ pN n) x.1) 1 none)],
    [(parH 0, ⟨.own, .cat 8 2 (.ints .u32 8 h) (.cat 1 1 (.sl 9000 [] 0 n 1 none) (.int .u64 s))⟩), (9000, ⟨.own, .ints .u8 n l⟩), (2, ⟨.own, .ints .u8 32 (ap _ _ zs 32)⟩), (50, ⟨.own, .ints .u8 (ap _ _ (ap _ _ pN n) x.1) (ap _ _ (ap _ _ pL l) x.1)⟩)], x.2⟩)
    (fun x => x.1 ≤ (119 - n) % 64) (fun x => (119 - n) % 64 - x.1)),
  (1, .inv (Nat × List (Nat × Nat)) (fun x => ⟨[(0, .ptr (parH 0) []), (2, .ptr 2 []), (3, .lit .i64 0), (4, .sl 50 [] 0 (ap _ _ (ap _ _ qN n) x.1) 1 none), (28, .int .i64 (ap _ _ lenI x.1))],
    [(parH 0, ⟨.own, .cat 8 2 (.ints .u32 8 h) (.cat 1 1 (.sl 9000 [] 0 n 1 none) (.int .u64 s))⟩), (9000, ⟨.own, .ints .u8 n l⟩), (2, ⟨.own, .ints .u8 32 (ap _ _ zs 32)⟩), (50, ⟨.own, .ints .u8 (ap _ _ (ap _ _ qN n) x.1) (ap _ _ (ap _ _ (ap _ _ qL l) s) x.1)⟩)], x.2⟩)
    (fun x => x.1 ≤ 8) (fun x => 8 - x.1)),
  (2, .inv Nat (fun k => ⟨[(0, .ptr (parH 0) []), (2, .ptr 2 []), (3, .lit .i64 0), (6, .ptr 6 []), (4, .sl 50 [] (ap _ _ off64 k) (ap _ _ (ap _ _ rest64 (ap _ _ (ap _ _ qN n) 8)) k) 1 none)],
    [(parH 0, ⟨.own, .cat 8 2 (.ints .u32 8 h) (.cat 1 1 (.sl 9000 [] 0 n 1 none) (.int .u64 s))⟩), (9000, ⟨.own, .ints .u8 n l⟩), (2, ⟨.own, .ints .u8 32 (ap _ _ zs 32)⟩), (50, ⟨.own, .ints .u8 (ap _ _ (ap _ _ qN n) 8) (ap _ _ (ap _ _ (ap _ _ qL l) s) 8)⟩),
      (6, ⟨.own, .ints .u32 8 (ap _ _ (ap _ _ (ap _ _ (ap _ _ endW h) l) s) k)⟩)], []⟩)
    (fun k => 64 * k ≤ qN n 8) (fun k => qN n 8 - 64 * k)),
  (3, .inv Nat (fun i => ⟨[(0, .ptr (parH 0) []), (2, .ptr 2 []), (3, .lit .i64 0), (6, .ptr 6 []), (7, .ptr 7 []), (57, .int .i64 (ap _ _ lenI i))],
    [(parH 0, ⟨.own, .cat 8 2 (.ints .u32 8 h) (.cat 1 1 (.sl 9000 [] 0 n 1 none) (.int .u64 s))⟩), (9000, ⟨.own, .ints .u8 n l⟩), (2, ⟨.own, .ints .u8 32 (ap _ _ zs 32)⟩),
      (6, ⟨.own, .ints .u32 8 (ap _ _ (ap _ _ (ap _ _ (ap _ _ endW h) l) s) (qN n 8 / 64))⟩), (7, ⟨.own, .ints .u8 32 (ap _ _ (ap _ _ outF (ap _ _ (ap _ _ (ap _ _ (ap _ _ endW h) l) s) (qN n 8 / 64))) i)⟩)], []⟩)
    (fun i => i ≤ 32) (fun i => 32 - i))]

theorem vc138 (args : List Arg) (out : Out) (h : (cSum apf args).to out) (hok : okAs args) :
    args.length = ic138.nargs ∧ ic138.nargs ≤ ic138.ntmps ∧ ∃ A, run apf [(152, cPiece apf)] A ic138.body (fnQ apf args out ic138.res) (st0 G1 false args) := by
  unfold cSum at h
  split at h
  · rename_i hh n n' l s
    obtain ⟨h0, h1, h⟩ := h
    cases h
    have h0 : n = n' := h0
    subst h0
    have h1 : n < 64 := h1
    obtain ⟨⟨hh8, hl, hs⟩, _⟩ := hok
    refine ⟨rfl, by decide, aSum apf hh n l s, ?_⟩
    show run apf _ _ _ _ (st0 [(1, .ints .u32 64 kk)] _ _)
    generalize hK : kk = K
    generalize hap : apf = ap
    cbv
    and_intros
    any_goals (refine ⟨(0, [(50, 20)]), show 0 ≤ (119 - n) % 64 from Nat.zero_le _, ?_⟩; cbv; and_intros)
    rotate_right 1
    · intro (x : Nat × List (Nat × Nat)) hp _ _
      obtain ⟨z, r⟩ := x
      have hp : z ≤ (119 - n) % 64 := hp
      cbv
      refine ⟨fun hlt => ?_, fun hge => ?_⟩
      · have b0 : ((n + (1 + z)) % 64 : Nat) ≠ 56 := fun e => by
          have : wrem .i64 ((n + (1 + z) : Nat) : Int) 64 ≠ 56 := by subst hap; exact neq_t hlt
          rw [show (64 : Int) = ((64 : Nat) : Int) from rfl, rem_i64, e] at this
          exact this rfl
        have b1 : z + 1 ≤ (119 - n) % 64 := by omega
        have b2 : (119 - n) % 64 - (z + 1) < (119 - n) % 64 - z := by omega
        cbv
        and_intros
        any_goals (refine ⟨(z + 1, [(50, 27)]), b1, b2, ?_⟩; cbv; and_intros)
        all_goals subst hap
        all_goals simp only [apf, leN, addN, V.cnt, eqN, eqI', eqL', appN, pN]
        all_goals try omega
        rw [subL_all (by rw [pL_len, hl.1, pN]; omega), subL_one, catL, pL_next]
      · have b0 : ((n + (1 + z)) % 64 : Nat) = 56 := by
          have : wrem .i64 ((n + (1 + z) : Nat) : Int) 64 = 56 := by subst hap; exact neq_f hge
          rw [show (64 : Int) = ((64 : Nat) : Int) from rfl, rem_i64] at this
          omega
        have b1 : z = (119 - n) % 64 := by omega
        cbv
        and_intros
        any_goals (refine ⟨(0, []), show 0 ≤ 8 from Nat.zero_le _, ?_⟩; cbv; and_intros)
        rotate_right 1
        · intro (x : Nat × List (Nat × Nat)) hp _ _
          obtain ⟨i, r⟩ := x
          have hp : i ≤ 8 := hp
          cbv
          refine ⟨fun hlt => ?_, fun hge => ?_⟩
          · have b0 : i < 8 := by
              have : (i : Int) < 8 := by subst hap; exact lss_t hlt
              omega
            have b1 : i + 1 ≤ 8 := by omega
            have b2 : 8 - (i + 1) < 8 - i := by omega
            cbv
            and_intros
            any_goals (refine ⟨(i + 1, [(50, 43)]), b1, b2, ?_⟩; cbv; and_intros)
            all_goals subst hap
            all_goals have a1 : wmul .i64 8 (i : Int) = 8 * (i : Int) := wmul_i64 (by omega)
            all_goals have a2 : wsub .i64 56 (8 * (i : Int)) = 56 - 8 * (i : Int) := wsub_i64 (by omega)
            all_goals have inc : wadd .i64 (i : Int) 1 = ((i + 1 : Nat) : Int) := inc_i64 (by omega)
            all_goals try simp only [apf, leN, addN, V.cnt, eqN, eqI', eqL', appN, qN, arF, lenI, a1, a2, inc]
            all_goals try omega
            rw [subL_all (by rw [qL_len, hl.1, qN]; omega), subL_one, catL]
            exact (qL_next l s i).symm
          · have b0 : i = 8 := by
              have : 8 ≤ (i : Int) := by subst hap; exact lss_f hge
              omega
            subst b0
            cbv
            and_intros
            any_goals (refine ⟨0, show 64 * 0 ≤ qN n 8 from Nat.zero_le _, ?_⟩; cbv; and_intros)
            rotate_right 1
            · intro (k : Nat) hp _ _
              have hp : 64 * k ≤ qN n 8 := hp
              cbv
              refine ⟨fun hlt => ?_, fun hge => ?_⟩
              · have b0 : 0 < qN n 8 - 64 * k := by
                  have : (0 : Int) < ((qN n 8 - 64 * k : Nat) : Int) := by subst hap; exact gtr_t hlt
                  omega
                have hq : qN n 8 = n + (1 + (119 - n) % 64) + 8 := rfl
                have b1 : 64 * (k + 1) ≤ qN n 8 := by omega
                have b2 : qN n 8 - 64 * (k + 1) < qN n 8 - 64 * k := by omega
                cbv
                and_intros
                any_goals (refine ⟨k + 1, b1, b2, ?_⟩; cbv; and_intros)
                all_goals subst hap
                all_goals try simp only [apf, leN, addN, subN, V.cnt, eqN, eqI', eqL', off64, rest64]
                all_goals try omega
                exact (endW_next (by omega)).symm
              · have b0 : qN n 8 - 64 * k ≤ 0 := by
                  have : ((qN n 8 - 64 * k : Nat) : Int) ≤ 0 := by subst hap; exact gtr_f hge
                  omega
                have b1 : k = qN n 8 / 64 := by omega
                subst b1
                cbv
                refine ⟨⟨0, show 0 ≤ 32 from Nat.zero_le _, ?_⟩, ?_⟩
                · cbv
                  subst hap
                  simp only [apf, eqN, eqI', eqL', lenI]
                  and_intros
                  all_goals first | exact True.intro | rfl
                · intro (i : Nat) hp _ _
                  have hp : i ≤ 32 := hp
                  cbv
                  refine ⟨fun hlt => ?_, fun hge => ?_⟩
                  · have b0 : i < 32 := by
                      have : (i : Int) < 32 := by subst hap; exact lss_t hlt
                      omega
                    have b1 : i + 1 ≤ 32 := by omega
                    have b2 : 32 - (i + 1) < 32 - i := by omega
                    cbv
                    and_intros
                    any_goals (refine ⟨i + 1, b1, b2, ?_⟩; cbv; and_intros)
                    all_goals subst hap
                    all_goals have inc : wadd .i64 (i : Int) 1 = ((i + 1 : Nat) : Int) := inc_i64 (by omega)
                    all_goals have a1 : wquo .i64 (i : Int) 4 = ((i / 4 : Nat) : Int) := quo_i64 (k := 4) (by omega)
                    all_goals have a2 : wrem .i64 (i : Int) 4 = ((i % 4 : Nat) : Int) := rem_i64 (k := 4)
                    all_goals have a3 : wmul .i64 8 ((i % 4 : Nat) : Int) = 8 * ((i % 4 : Nat) : Int) := wmul_i64 (by omega)
                    all_goals have a4 : wsub .i64 24 (8 * ((i % 4 : Nat) : Int)) = 24 - 8 * ((i % 4 : Nat) : Int) := wsub_i64 (by omega)
                    all_goals try simp only [apf, ltN, natI, eqN, eqI', eqL', arF, lenI, inc, a1, a2, a3, a4, Int.toNat_natCast]
                    all_goals try omega
                    exact (outF_set b0).symm
                  · have b0 : i = 32 := by
                      have : 32 ≤ (i : Int) := by subst hap; exact lss_f hge
                      omega
                    subst b0
                    cbv
                    subst hap
                    simp only [apf, eqN, eqI', eqL']
                    have e : digW hh l s = outF (endW hh l s (qN n 8 / 64)) 32 := by
                      rw [digW, qL_len, hl.1, outF, outL]
                      exact (List.append_nil _).symm
                    rw [e]
                    and_intros
                    all_goals first
                      | exact True.intro
                      | rfl
                      | (show 0 + n ≤ n; omega)
                      | exact (subL_all (Nat.le_of_eq hl.1)).symm
            all_goals subst hap
            all_goals try simp only [apf, eqN, eqI', eqL', off64, rest64]
            all_goals try omega
            rfl
        all_goals subst hap
        all_goals try simp only [apf, eqN, eqI', eqL', pN, qN, lenI]
        all_goals try omega
        rw [b1, qL, hl.1]; exact List.append_nil _
    all_goals subst hap
    all_goals try simp only [apf, leN, addN, V.cnt, appN, eqN, eqI', eqL', pN]
    all_goals try omega
    · rfl
    · rw [subL_all (Nat.le_of_eq hl.1), subL_all (Nat.le_of_eq hl.1)]; rfl
  · cases h
    refine ⟨rfl, by decide, [], ?_⟩
    generalize hap : apf = ap
    cbv
    subst hap
    exact ⟨rfl, rfl, rfl, trivial⟩
  · exact h.elim
theorem s138 : Sound Tryd.prog G1 138 (pu 138) (cSum apf) := fn_sound rfl Tryd.call138 ok138 co138 (env_cons s152 env_nil) vc138
end Go.Cx.Rb

/- The digest of bytes. -/
namespace Go.Cx.Rb
open Go Go.Cx Go.Proofs

abbrev G2 : List (Nat × V) := [(0, .ints .u32 64 kk), (1, .ints .u32 64 kk)]

def cDig (ap : AP) : Ctr
  | [.b _ 1 (.ints .u8 _ b)] => .ok ⟨.ints .u8 32 (ap _ _ digest b), [], []⟩
  | _ => .fail 208

theorem vc79 (args : List Arg) (out : Out) (h : (cDig apf args).to out) (hok : okAs args) :
    args.length = ic79.nargs ∧ ic79.nargs ≤ ic79.ntmps ∧ ∃ A, run apf [(136, cNew apf), (137, cAdd apf), (138, cSum apf)] A ic79.body (fnQ apf args out ic79.res) (st0 G1 true args) := by
  unfold cDig at h
  split at h
  · rename_i n m b
    cases h
    obtain ⟨⟨hn, ⟨rfl, _⟩, hb⟩, _⟩ := hok
    refine ⟨rfl, by decide, [], ?_⟩
    show run apf _ _ _ _ (st0 [(1, .ints .u32 64 kk)] _ _)
    generalize hK : kk = K
    generalize hap : apf = ap
    cbv
    subst hap
    have e1 : subL b 0 m = b := subL_all (Nat.le_of_eq hb.1)
    have e2 := digW_digest (b := b) (by rw [hb.1]; exact hn)
    rw [hb.1] at e2
    have e3 : digest b = digW (addW iv (zs 0) (subL b 0 m)) (addR (zs 0) (subL b 0 m)) (addS (lenI 0) m) := by rw [e1]; exact e2.symm
    refine ⟨show 0 + m ≤ m by omega, rfl, show 0 < 64 by omega, rfl, Nat.mod_lt _ (by omega), rfl, ?_, trivial⟩
    exact e3
  · exact h.elim
theorem s79 : Sound Tryd.prog G1 79 (pu 79) (cDig apf) := fn_sound rfl Tryd.call79 ok79 co79 (env_cons s136 (env_cons s137 (env_cons s138 env_nil))) vc79

/-- 'right' -/
def rightK : List Int := [7, 18, 17, 19, 6, 11, 25, 2, 13, 22]
def cRight (ap : AP) : Ctr
  | [.v (.int .u32 x), .v (.lit .u64 k)] => rif (rightK.contains k) 210 (.ok ⟨.int .u32 (ap _ _ (ap _ _ rr x) k), [], []⟩)
  | _ => .fail 210

theorem vc140 (args : List Arg) (out : Out) (h : (cRight apf args).to out) (hok : okAs args) : args.length = ic140.nargs ∧ ic140.nargs ≤ ic140.ntmps ∧ ∃ A, run apf [] A ic140.body (fnQ apf args out ic140.res) (st0 G2 true args) := by
  unfold cRight at h
  split at h
  · rename_i x k
    obtain ⟨hk, h⟩ := rif_to h
    cases h
    refine ⟨rfl, by decide, [], ?_⟩
    simp only [rightK, List.contains_cons, List.contains_nil, Bool.or_false, Bool.or_eq_true, beq_iff_eq] at hk
    rcases hk with rfl | rfl | rfl | rfl | rfl | rfl | rfl | rfl | rfl | rfl <;>
    · generalize hap : apf = ap
      cbv
      subst hap
      exact ⟨rfl, trivial⟩
  · exact h.elim
theorem s140 : Sound Tryd.prog G2 140 (pu 140) (cRight apf) := fn_sound rfl Tryd.call140 ok140 co140 env_nil vc140
end Go.Cx.Rb

/- The reference's padding. -/
namespace Go.Cx.Rb
open Go Go.Cx Go.Proofs

def cPadR (ap : AP) : Ctr
  | [.b n 1 (.ints .u8 _ b)] => .chk (ap _ _ (ap _ _ leN n) 140737488355256) (.ok ⟨.sl 0 [] 0 (ap _ _ padN n) 1 none, [], [.ints .u8 (ap _ _ padN n) (ap _ _ padW b)]⟩)
  | _ => .fail 211

def aPadR (ap : AP) (n : Nat) (b : List Int) : List (Nat × Ann) := [
  (0, .inv (Nat × List (Nat × Nat)) (fun x => ⟨[(0, .sl (parH 0) [] 0 n 1 none), (3, .sl 50 [] 0 (ap _ _ (ap _ _ pN n) x.1) 1 none)],
    [(parH 0, ⟨.bor, .ints .u8 n b⟩), (50, ⟨.own, .ints .u8 (ap _ _ (ap _ _ pN n) x.1) (ap _ _ (ap _ _ pL b) x.1)⟩)], x.2⟩)
    (fun x => x.1 ≤ padZ n) (fun x => padZ n - x.1)),
  (1, .inv (Nat × List (Nat × Nat)) (fun x => ⟨[(3, .sl 50 [] 0 (ap _ _ (ap _ _ rN n) x.1) 1 none), (4, .int .u64 (ap _ _ (ap _ _ nsh (ap _ _ len8 n)) x.1)), (5, .int .i64 (ap _ _ lenI x.1))],
    [(50, ⟨.own, .ints .u8 (ap _ _ (ap _ _ rN n) x.1) (ap _ _ (ap _ _ (ap _ _ rL b) (ap _ _ len8 n)) x.1)⟩)], x.2⟩)
    (fun x => x.1 ≤ 8) (fun x => 8 - x.1))]

theorem vc139 (args : List Arg) (out : Out) (h : (cPadR apf args).to out) (hok : okAs args) :
    args.length = ic139.nargs ∧ ic139.nargs ≤ ic139.ntmps ∧ ∃ A, run apf [] A ic139.body (fnQ apf args out ic139.res) (st0 G2 true args) := by
  unfold cPadR at h
  split at h
  · rename_i n m b
    obtain ⟨h1, h⟩ := h
    cases h
    have h1 : n ≤ 140737488355256 := h1
    obtain ⟨⟨hn, ⟨rfl, _⟩, hb⟩, _⟩ := hok
    have hZ : padZ m < 64 := Nat.mod_lt _ (by omega)
    refine ⟨rfl, by decide, aPadR apf m b, ?_⟩
    show run apf _ _ _ _ (st0 [(0, .ints .u32 64 kk), (1, .ints .u32 64 kk)] _ _)
    generalize hK : kk = K
    generalize hap : apf = ap
    cbv
    and_intros
    any_goals (refine ⟨(0, [(50, 11)]), show 0 ≤ padZ m from Nat.zero_le _, ?_⟩; cbv; and_intros)
    rotate_right 1
    · intro (x : Nat × List (Nat × Nat)) hp _ _
      obtain ⟨z, r⟩ := x
      have hp : z ≤ padZ m := hp
      cbv
      refine ⟨fun hlt => ?_, fun hge => ?_⟩
      · have b0 : ((m + (1 + z)) % 64 : Nat) ≠ 56 := fun e => by
          have : wrem .i64 ((m + (1 + z) : Nat) : Int) 64 ≠ 56 := by subst hap; exact neq_t hlt
          rw [show (64 : Int) = ((64 : Nat) : Int) from rfl, rem_i64, e] at this
          exact this rfl
        have hz : padZ m = (119 - m % 64) % 64 := rfl
        have b1 : z + 1 ≤ padZ m := by omega
        have b2 : padZ m - (z + 1) < padZ m - z := by omega
        cbv
        and_intros
        any_goals (refine ⟨(z + 1, [(50, 18)]), b1, b2, ?_⟩; cbv; and_intros)
        all_goals subst hap
        all_goals simp only [apf, leN, addN, V.cnt, eqN, eqL', appN, pN]
        all_goals try omega
        rw [subL_all (by rw [pL_len, hb.1, pN]; omega), subL_one, catL, pL_next]
      · have b0 : ((m + (1 + z)) % 64 : Nat) = 56 := by
          have : wrem .i64 ((m + (1 + z) : Nat) : Int) 64 = 56 := by subst hap; exact neq_f hge
          rw [show (64 : Int) = ((64 : Nat) : Int) from rfl, rem_i64] at this
          omega
        have hz : padZ m = (119 - m % 64) % 64 := rfl
        have b1 : z = padZ m := by omega
        subst b1
        cbv
        and_intros
        any_goals (refine ⟨(0, []), show 0 ≤ 8 from Nat.zero_le _, ?_⟩; cbv; and_intros)
        rotate_right 1
        · intro (x : Nat × List (Nat × Nat)) hp _ _
          obtain ⟨i, r⟩ := x
          have hp : i ≤ 8 := hp
          cbv
          refine ⟨fun hlt => ?_, fun hge => ?_⟩
          · have b0 : i < 8 := by
              have : (i : Int) < 8 := by subst hap; exact lss_t hlt
              omega
            have b1 : i + 1 ≤ 8 := by omega
            have b2 : 8 - (i + 1) < 8 - i := by omega
            cbv
            and_intros
            any_goals (refine ⟨(i + 1, [(50, 32)]), b1, b2, ?_⟩; cbv; and_intros)
            all_goals subst hap
            all_goals have inc : wadd .i64 (i : Int) 1 = ((i + 1 : Nat) : Int) := inc_i64 (by omega)
            all_goals try simp only [apf, leN, addN, V.cnt, eqN, eqI', eqL', appN, rN, arF, lenI, inc]
            all_goals try omega
            all_goals first
              | rfl
              | (rw [subL_all (by rw [rL_len, hb.1, rN]; omega), subL_one, catL]; exact (rL_next b (len8 m) i).symm)
          · have b0 : i = 8 := by
              have : 8 ≤ (i : Int) := by subst hap; exact lss_f hge
              omega
            subst b0
            cbv
            subst hap
            simp only [apf, eqN, eqL']
            have e := rL_end b
            rw [hb.1] at e
            and_intros
            all_goals first
              | exact True.intro
              | exact e.symm
              | rfl
        all_goals subst hap
        all_goals try simp only [apf, eqN, eqI', eqL', pN, rN, lenI]
        all_goals try omega
        all_goals first
          | rfl
          | (rw [rL, hb.1]; exact List.append_nil _)
          | (show wmul .u64 (m : Int) 8 = wmul .u64 (wcv .u64 (m : Int)) 8; rw [wcv_u64_nat hn])
    all_goals subst hap
    all_goals try simp only [apf, leN, addN, V.cnt, appN, eqN, eqL', pN]
    all_goals try omega
    all_goals first
      | rfl
      | (rw [subL_all (Nat.le_of_eq hb.1), subL_all (Nat.le_of_eq hb.1)]; rfl)
  · exact h.elim
theorem s139 : Sound Tryd.prog G2 139 (pu 139) (cPadR apf) := fn_sound rfl Tryd.call139 ok139 co139 env_nil vc139
end Go.Cx.Rb
