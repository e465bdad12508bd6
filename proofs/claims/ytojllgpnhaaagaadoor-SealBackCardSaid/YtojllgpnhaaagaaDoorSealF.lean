/-
  What the laws of this claim stand on, part F: proved parts, no statement of its own.
-/
import Derived.Test.YtojllgpnhaaagaaDoorSealE
import Derived.KernelRfl
/- CxbW2 -/
namespace Go.Cx.Rb
open Go Go.Cx Go.Proofs
theorem s143 : Sound Tryd.prog G1 143 (pu 143) (cTake apf) := fn_sound rfl Tryd.call143 ok143 co143 env_nil vc143
theorem allZ_f {l : List Int} {i : Nat} (h : nthI l i ≠ 0) : allZ l = false := by
  refine decide_eq_false fun hz => h ?_
  unfold nthI
  rw [List.getD_eq_getElem?_getD]
  cases hi : l[i]? with
  | none => rfl
  | some x => exact hz x (List.mem_of_getElem? hi)
theorem allZ_t {l : List Int} (h : ∀ j, j < l.length → nthI l j = 0) : allZ l = true := by
  refine decide_eq_true fun x hx => ?_
  obtain ⟨i, hi, rfl⟩ := List.mem_iff_getElem.1 hx
  have := h i hi
  simpa [nthI, List.getD_eq_getElem?_getD, hi] using this
/-- 'wire.Zero' -/
def cZero (ap : AP) : Ctr
  | [.b _ 1 (.ints .u8 _ l)] => .ok ⟨.bool (ap _ _ allZ l), [], []⟩
  | _ => .fail 303
def aZero (n : Nat) (l : List Int) (ap : AP) : List (Nat × Ann) := [
  (0, .inv Nat (fun i => ⟨[(5, .sl (parH 0) [] 0 n 1 none), (6, .int .i64 (ap _ _ lenI n)), (7, .int .i64 (ap _ _ lenI i))], [(parH 0, ⟨.bor, .ints .u8 n l⟩)], []⟩)
    (fun i => i ≤ n ∧ ∀ j, j < i → nthI l j = 0) (fun i => n - i))]
theorem vc94 (args : List Arg) (out : Out) (h : (cZero apf args).to out) (hok : okAs args) :
    args.length = ic94.nargs ∧ ic94.nargs ≤ ic94.ntmps ∧ ∃ A, run apf [] A ic94.body (fnQ apf args out ic94.res) (st0 G1 true args) := by
  unfold cZero at h
  split at h
  · rename_i n m l
    cases h
    obtain ⟨⟨hn, ⟨rfl, _⟩, hl⟩, _⟩ := hok
    refine ⟨rfl, by decide, aZero m l apf, ?_⟩
    show run apf _ _ _ _ (st0 [(1, .ints .u32 64 kk)] _ _)
    generalize hK : kk = K
    generalize hap : apf = ap
    cbv
    refine ⟨⟨0, ⟨Nat.zero_le _, fun j hj => by omega⟩, ?_⟩, ?_⟩
    · cbv
      subst hap
      exact ⟨rfl, rfl, rfl, rfl, rfl, rfl, trivial⟩
    · intro (i : Nat) hi _ _
      obtain ⟨hi, hz⟩ : i ≤ m ∧ ∀ j, j < i → nthI l j = 0 := hi
      cbv
      refine ⟨fun h0 => ?_, fun h0 => ?_⟩
      · have b0 : i < m := by
          have : (i : Int) < (m : Int) := by subst hap; exact lt_t.1 h0
          omega
        cbv
        repeat' first
          | exact True.intro
          | (intro _; cbv)
          | (refine And.intro ?_ ?_)
        rotate_right 1
        · have hx : nthI l i = 0 := by
            subst hap
            simp only [apf, cmF, ne_f, natI, addN, lenI, Int.toNat_natCast, Nat.zero_add] at *
            assumption
          refine ⟨i + 1, ⟨by omega, fun j hj => ?_⟩, (show m - (i + 1) < m - i by omega), ?_⟩
          · rcases Nat.lt_or_ge j i with h | h
            · exact hz j h
            · obtain rfl : j = i := by omega
              exact hx
          · cbv
            repeat' first
              | exact True.intro
              | (refine And.intro ?_ ?_)
            all_goals subst hap
            all_goals have inc : wadd .i64 (i : Int) 1 = ((i + 1 : Nat) : Int) := inc_i64 (by omega)
            all_goals first
              | rfl
              | exact inc.symm
        all_goals subst hap
        all_goals simp only [apf, cmF, ne_t, natI, ltN, addN, lenI, eqB', Int.toNat_natCast, Nat.zero_add] at *
        all_goals first
          | omega
          | exact allZ_f (by assumption)
      · have b0 : i = m := by
          have : (m : Int) ≤ (i : Int) := by subst hap; exact lt_f.1 h0
          omega
        subst b0
        cbv
        subst hap
        exact ⟨allZ_t (by rw [hl.1]; exact hz), trivial⟩
  · exact h.elim
theorem s94 : Sound Tryd.prog G1 94 (pu 94) (cZero apf) := fn_sound rfl Tryd.call94 ok94 co94 env_nil vc94
/-- 'Spoil' -/
def cSpoil (ap : AP) : Ctr
  | [.o (.cat 1 1 (.dsl n 1 (.ints .u8 n' l)) (.bool _))] => .chk (ap _ _ (ap _ _ eqN n) n') <| .ok ⟨.tnil, [rdV n l true], []⟩
  | _ => .fail 304
theorem vc127 (args : List Arg) (out : Out) (h : (cSpoil apf args).to out) (hok : okAs args) :
    args.length = ic127.nargs ∧ ic127.nargs ≤ ic127.ntmps ∧ ∃ A, run apf [] A ic127.body (fnQ apf args out ic127.res) (st0 G1 false args) := by
  unfold cSpoil at h
  split at h
  · rename_i n m l s
    obtain ⟨h1, h⟩ := h
    cases h
    have h1 : n = m := h1
    subst h1
    refine ⟨rfl, by decide, [], ?_⟩
    show run apf _ _ _ _ (st0 [(1, .ints .u32 64 kk)] _ _)
    generalize hK : kk = K
    generalize hap : apf = ap
    cbv
    repeat' first
      | exact True.intro
      | (intro _; cbv)
      | (refine And.intro ?_ ?_)
    all_goals subst hap
    all_goals rfl
  · exact h.elim
theorem s127 : Sound Tryd.prog G1 127 (pu 127) (cSpoil apf) := fn_sound rfl Tryd.call127 ok127 co127 env_nil vc127
/-- 'Bytes' -/
theorem vc98 (args : List Arg) (out : Out) (h : (cTake apf args).to out) (hok : okAs args) :
    args.length = ic98.nargs ∧ ic98.nargs ≤ ic98.ntmps ∧ ∃ A, run apf [(143, cTake apf)] A ic98.body (fnQ apf args out ic98.res) (st0 G1 false args) := by
  unfold cTake at h
  split at h
  · rename_i n0 n l s k
    obtain ⟨h1, h⟩ := h
    cases h
    have h1 : n0 = n := h1
    subst h1
    refine ⟨rfl, by decide, [], ?_⟩
    show run apf _ _ _ _ (st0 [(1, .ints .u32 64 kk)] _ _)
    generalize hK : kk = K
    generalize hap : apf = ap
    cbv
    repeat' first
      | exact True.intro
      | (intro _; cbv)
      | (refine And.intro ?_ ?_)
    all_goals subst hap
    all_goals rfl
  · exact h.elim
theorem s98 : Sound Tryd.prog G1 98 (pu 98) (fun args => cTake apf (args.map litA)) := (fn_sound rfl Tryd.call98 ok98 co98 (env_cons s143 env_nil) vc98).lits
/-- 'Zeros' -/
def cZeros (ap : AP) : Ctr
  | [.o (.cat 1 1 (.dsl n 1 (.ints .u8 n' l)) (.bool s)), .v (.int .i64 k)] => .chk (ap _ _ (ap _ _ eqN n) n') <| .ok
    ⟨.tnil, [rdA ap (ap _ _ (ap _ _ (ap _ _ rsL l) s) k) (ap _ _ (ap _ _ (ap _ _ zrS l) s) k)], []⟩
  | _ => .fail 305
theorem vc97 (args : List Arg) (out : Out) (h : (cZeros apf args).to out) (hok : okAs args) :
    args.length = ic97.nargs ∧ ic97.nargs ≤ ic97.ntmps ∧ ∃ A, run apf [(143, cTake apf), (94, cZero apf), (127, cSpoil apf)] A ic97.body (fnQ apf args out ic97.res) (st0 G1 false args) := by
  unfold cZeros at h
  split at h
  · rename_i n0 n l s k
    obtain ⟨h1, h⟩ := h
    cases h
    have h1 : n0 = n := h1
    subst h1
    refine ⟨rfl, by decide, [], ?_⟩
    show run apf _ _ _ _ (st0 [(1, .ints .u32 64 kk)] _ _)
    generalize hK : kk = K
    generalize hap : apf = ap
    cbv
    repeat' first
      | exact True.intro
      | (intro _; cbv)
      | (refine And.intro ?_ ?_)
    all_goals subst hap
    all_goals simp only [apf, notB_t, notB_f, eqN, eqL', eqB', zrS, flS] at *
    · simp [*]
    · simp [*]
  · exact h.elim
theorem s97 : Sound Tryd.prog G1 97 (pu 97) (fun args => cZeros apf (args.map litA)) := (fn_sound rfl Tryd.call97 ok97 co97 (env_cons s143 (env_cons s94 (env_cons s127 env_nil))) vc97).lits
/-- 'End' -/
def cEnd (ap : AP) : Ctr
  | [.o (.cat 1 1 (.dsl n 1 (.ints .u8 n' l)) (.bool s))] => .chk (ap _ _ (ap _ _ eqN n) n') <| .ok ⟨.int .i64 (ap _ _ (ap _ _ endE l) s), [], []⟩
  | _ => .fail 306
theorem vc99 (args : List Arg) (out : Out) (h : (cEnd apf args).to out) (hok : okAs args) :
    args.length = ic99.nargs ∧ ic99.nargs ≤ ic99.ntmps ∧ ∃ A, run apf [] A ic99.body (fnQ apf args out ic99.res) (st0 G1 true args) := by
  unfold cEnd at h
  split at h
  · rename_i n0 n l s
    obtain ⟨h1, h⟩ := h
    cases h
    have h1 : n0 = n := h1
    subst h1
    obtain ⟨⟨hl, _⟩, _⟩ := hok
    refine ⟨rfl, by decide, [], ?_⟩
    show run apf _ _ _ _ (st0 [(1, .ints .u32 64 kk)] _ _)
    generalize hK : kk = K
    generalize hap : apf = ap
    cbv
    repeat' first
      | exact True.intro
      | (intro _; cbv)
      | (refine And.intro ?_ ?_)
    all_goals subst hap
    all_goals have hl' : l.length = n0 := hl.1
    all_goals simp only [apf, cmF, gt_t, gt_f, lenI, eqI', endE, hl'] at *
    all_goals simp [*]
    all_goals omega
  · exact h.elim
theorem s99 : Sound Tryd.prog G1 99 (pu 99) (fun args => cEnd apf (args.map litA)) := (fn_sound rfl Tryd.call99 ok99 co99 env_nil vc99).lits
/-- 'Number' of a reader -/
def in18 (k : Int) : Prop := 1 ≤ k ∧ k ≤ 8
def cNumR (ap : AP) : Ctr
  | [.o (.cat 1 1 (.dsl n 1 (.ints .u8 n' l)) (.bool s)), .v (.int .i64 k)] => .chk (ap _ _ in18 k) <| .chk (ap _ _ (ap _ _ eqN n) n') <| .ok
    ⟨.int .u64 (ap _ _ numL (ap _ _ (ap _ _ (ap _ _ tkL l) s) k)), [rdA ap (ap _ _ (ap _ _ (ap _ _ rsL l) s) k) (ap _ _ (ap _ _ (ap _ _ flS l) s) k)], []⟩
  | _ => .fail 307
def numT (L : List Int) (i : Nat) : Int := numL (L.take i)
theorem numT_next {L : List Int} {i : Nat} (h : i < L.length) : numT L (i + 1) = numT L i * 256 + nthI L i := by
  have e : L.take (i + 1) = L.take i ++ [nthI L i] := by
    rw [List.take_add_one, List.getElem?_eq_getElem h]
    simp [nthI, List.getD_eq_getElem?_getD, h]
  rw [numT, numT, e, numL_app]
theorem numT_all {L : List Int} : numT L L.length = numL L := by rw [numT, List.take_length]
def aNumR (ap : AP) (l : List Int) (s : Bool) (k : Int) (m : Nat) : List (Nat × Ann) := [
  (0, .inv Nat (fun i => ⟨[(18, dslA ap (ap _ _ (ap _ _ (ap _ _ tkL l) s) k)), (19, .int .i64 (ap _ _ lenI (ap _ _ llen (ap _ _ (ap _ _ (ap _ _ tkL l) s) k)))), (20, .int .i64 (ap _ _ lenI i)), (5, .int .u64 (ap _ _ (ap _ _ numT (ap _ _ (ap _ _ (ap _ _ tkL l) s) k)) i))],
      [(parH 0, ⟨.own, rdA ap (ap _ _ (ap _ _ (ap _ _ rsL l) s) k) (ap _ _ (ap _ _ (ap _ _ flS l) s) k)⟩)], []⟩)
    (fun i => i ≤ m) (fun i => m - i))]
set_option maxRecDepth 20000 in
theorem vc96 (args : List Arg) (out : Out) (h : (cNumR apf args).to out) (hok : okAs args) :
    args.length = ic96.nargs ∧ ic96.nargs ≤ ic96.ntmps ∧ ∃ A, run apf [(143, cTake apf), (127, cSpoil apf)] A ic96.body (fnQ apf args out ic96.res) (st0 G1 false args) := by
  unfold cNumR at h
  split at h
  · rename_i n0 n l s k
    obtain ⟨h0, h1, h⟩ := h
    cases h
    have h1 : n0 = n := h1
    have h0 : 1 ≤ k ∧ k ≤ 8 := h0
    subst h1
    obtain ⟨⟨hl, _⟩, _⟩ := hok
    refine ⟨rfl, by decide, aNumR apf l s k (tkL l s k).length, ?_⟩
    show run apf _ _ _ _ (st0 [(1, .ints .u32 64 kk)] _ _)
    generalize hK : kk = K
    have hT : (tkL l s k).length ≤ 8 := by have := tkL_le (l := l) (s := s) (k := k); omega
    have hR : ∀ y ∈ tkL l s k, inR .u8 y := tkL_rng hl.2
    generalize hM : (tkL l s k).length = M at hT ⊢
    generalize hap : apf = ap
    cbv
    refine ⟨fun h9 => ?_, fun h9 => ?_⟩
    · exfalso
      subst hap
      simp only [apf, cmF, lt_t] at h9
      omega
    cbv
    refine ⟨fun h8 => ?_, fun h8 => ?_⟩
    · exfalso
      subst hap
      simp only [apf, cmF, gt_t] at h8
      omega
    cbv
    and_intros
    any_goals (refine ⟨0, Nat.zero_le _, ?_⟩; cbv; and_intros)
    rotate_right 1
    · intro (i : Nat) hi _ _
      have hi : i ≤ M := hi
      cbv
      refine ⟨fun h7 => ?_, fun h7 => ?_⟩
      · have b0 : i < M := by
          have : (i : Int) < ((tkL l s k).length : Int) := by subst hap; exact lt_t.1 h7
          omega
        have c1 : i + 1 ≤ M := b0
        have c2 : M - (i + 1) < M - i := by omega
        cbv
        and_intros
        any_goals (refine ⟨i + 1, c1, c2, ?_⟩; cbv; and_intros)
        all_goals subst hap
        all_goals have inc : wadd .i64 (i : Int) 1 = ((i + 1 : Nat) : Int) := inc_i64 (by omega)
        all_goals try simp only [apf, ltN, natI, eqN, eqI', eqL', eqB', arF, lenI, inc, Int.toNat_natCast]
        all_goals first
          | exact True.intro
          | (simp only [llen]; omega)
          | omega
          | (have e1 := numT_next (L := tkL l s k) (i := i) (by omega)
             have e2 := numL_rng ((tkL l s k).take i) (fun y hy => hR y (List.mem_of_mem_take hy))
             have e3 : 0 ≤ nthI (tkL l s k) i ∧ nthI (tkL l s k) i ≤ 255 := byte_rng hR i
             have e4 : (256 : Int) ^ ((tkL l s k).take i).length ≤ 256 ^ 7 := by
               have := Nat.pow_le_pow_right (n := 256) (by omega) (show ((tkL l s k).take i).length ≤ 7 by rw [List.length_take]; omega)
               exact_mod_cast this
             show numT (tkL l s k) (i + 1) = _
             rw [e1]
             exact (or_shift e2.1 (by omega) e3).symm)
      · have b0 : i = M := by
          have : ((tkL l s k).length : Int) ≤ (i : Int) := by subst hap; exact lt_f.1 h7
          omega
        cbv
        subst hap
        and_intros
        all_goals first
          | exact True.intro
          | (show numL (tkL l s k) = numT (tkL l s k) i
             rw [b0, ← hM, numT_all])
          | rfl
    all_goals subst hap
    all_goals first | exact True.intro | rfl
  · exact h.elim
theorem s96 : Sound Tryd.prog G1 96 (pu 96) (fun args => cNumR apf (args.map litA)) := (fn_sound rfl Tryd.call96 ok96 co96 (env_cons s143 (env_cons s127 env_nil)) vc96).lits
end Go.Cx.Rb
/- CxbSpec8 -/
namespace Go.Cx.Rb
open Go Go.Cx
/-- a number in k bytes -/
def beL (k : Nat) (v : Int) : List Int := (List.range k).map fun i => v / 256 ^ (k - 1 - i) % 256
def beP (k : Nat) (v : Int) (i : Nat) : List Int := (beL k v).take i ++ List.replicate (k - i) 0
theorem beL_len (k : Nat) (v : Int) : (beL k v).length = k := by simp [beL]
theorem beP_zero (k : Nat) (v : Int) : beP k v 0 = zerosI k := by simp [beP, zerosI]
theorem beP_all (k : Nat) (v : Int) : beP k v k = beL k v := by simp [beP, List.take_of_length_le, beL_len]
theorem beL_at {k : Nat} {v : Int} {i : Nat} (h : i < k) : (beL k v)[i]? = some (v / 256 ^ (k - 1 - i) % 256) := by simp [beL, h]
theorem beP_set {k : Nat} {v x : Int} {i : Nat} (h : i < k) (hx : x = v / 256 ^ (k - 1 - i) % 256) : setI (beP k v i) i x = beP k v (i + 1) := by
  subst hx
  have e : (beL k v).take (i + 1) = (beL k v).take i ++ [v / 256 ^ (k - 1 - i) % 256] := by
    rw [List.take_add_one, beL_at h]; rfl
  have e2 : List.replicate (k - i) (0 : Int) = 0 :: List.replicate (k - (i + 1)) 0 := by
    rw [← List.replicate_succ]; congr 1; omega
  have e3 : ((beL k v).take i).length = i := by simp [beL_len]; omega
  unfold setI beP
  rw [e, e2, List.set_append_right _ _ (by omega), e3, Nat.sub_self, List.set_cons_zero, List.append_assoc]
  rfl
theorem beL_rng (k : Nat) (v : Int) : ∀ y ∈ beL k v, inR .u8 y := by
  intro y hy
  simp only [beL, List.mem_map, List.mem_range] at hy
  obtain ⟨i, _, rfl⟩ := hy
  show (0 : Int) ≤ _ ∧ _ ≤ (255 : Int)
  omega
structure SlotP where
  u : Bool
  k : Int
  r : Int
  s : List Int
  w : List Int
  c : List Int
  deriving DecidableEq
def inSlot (p : SlotP) : Prop := 1 ≤ p.k ∧ p.k ≤ 255 ∧ 1 ≤ p.r ∧ p.r ≤ 64
instance (p : SlotP) : Decidable (inSlot p) := by unfold inSlot; infer_instance
end Go.Cx.Rb
/- CxbW3 -/
namespace Go.Cx.Rb
open Go Go.Cx Go.Proofs
def fitsB (v : Int) (k : Int) : Prop := 0 ≤ v ∧ v < 256 ^ k.toNat
def cNum (ap : AP) : Ctr
  | [.v (.int .u64 v), .v (.lit .i64 k)] => rif (k == 4 || k == 8) 310 <| .chk (ap _ _ (ap _ _ fitsB v) k) <| .ok
    ⟨.tcons (.sl 0 [] 0 k.toNat 1 (some k.toNat)) (.tcons (.lit .i64 0) .tnil), [], [.ints .u8 k.toNat (ap _ _ (ap _ _ beL k.toNat) v)]⟩
  | _ => .fail 310
def aNum (ap : AP) (k : Nat) (kI : Int) (v : Int) : List (Nat × Ann) := [
  (0, .inv Nat (fun i => ⟨[(0, .int .u64 v), (1, .lit .i64 kI), (6, .sl 26 [] 0 k 1 (some k)), (28, .int .i64 (ap _ _ lenI k)), (29, .int .i64 (ap _ _ lenI i))],
      [(26, ⟨.own, .ints .u8 k (ap _ _ (ap _ _ (ap _ _ beP k) v) i)⟩)], []⟩)
    (fun i => i ≤ k) (fun i => k - i))]
theorem be_byte {k i : Nat} {v z : Int} (hz : z = (k : Int) - 1) (hi : i < k) (hk : k ≤ 8) (_hv : 0 ≤ v) :
    wcv .u8 (bshr .u64 v (wmul .i64 8 (wsub .i64 z i))) = v / 256 ^ (k - 1 - i) % 256 := by
  obtain ⟨j, hj⟩ : ∃ j : Nat, j = k - 1 - i := ⟨_, rfl⟩
  have e1 : wsub .i64 z i = (j : Int) := by
    rw [wsub_i64 (by omega)]; omega
  have e2 : wmul .i64 8 (j : Int) = ((8 * j : Nat) : Int) := by
    show IntKind.i64.wrap (8 * (j : Int)) = _
    rw [IntWalk.i64_in _ ⟨by omega, by omega⟩]; omega
  rw [e1, e2, ← hj]
  show IntKind.u8.wrap (v.fdiv (2 ^ (min (8 * j : Int).toNat 64))) = _
  have e3 : min ((8 * j : Nat) : Int).toNat 64 = 8 * j := by omega
  have e4 : (2 : Int) ^ (8 * j) = 256 ^ j := by rw [Int.pow_mul]; rfl
  have e5 : min (8 * (j : Int)).toNat 64 = 8 * j := by omega
  rw [e5, e4, u8_emod, Int.fdiv_eq_ediv_of_nonneg _ (Int.pow_nonneg (by omega))]
theorem wm8 {k i : Nat} {z : Int} (hz : z = (k : Int) - 1) (h : i < k) (hk : k ≤ 8) : 0 ≤ wmul .i64 8 (wsub .i64 z i) := by
  subst hz
  rw [wsub_i64 (by omega)]
  show 0 ≤ IntKind.i64.wrap (8 * _)
  rw [IntWalk.i64_in _ ⟨by omega, by omega⟩]
  omega
set_option maxRecDepth 20000 in
theorem vc107 (args : List Arg) (out : Out) (h : (cNum apf args).to out) (hok : okAs args) :
    args.length = ic107.nargs ∧ ic107.nargs ≤ ic107.ntmps ∧ ∃ A, run apf [] A ic107.body (fnQ apf args out ic107.res) (st0 G1 true args) := by
  unfold cNum at h
  split at h
  · rename_i v k
    obtain ⟨hk, h1, h⟩ := rif_to h
    cases h
    simp only [Bool.or_eq_true, beq_iff_eq] at hk
    have h1 : 0 ≤ v ∧ v < 256 ^ k.toNat := h1
    refine ⟨rfl, by decide, aNum apf k.toNat k v, ?_⟩
    show run apf _ _ _ _ (st0 [(1, .ints .u32 64 kk)] _ _)
    generalize hK : kk = K
    rcases hk with rfl | rfl
    · have h2 : v < 4294967296 := h1.2
      generalize hap : apf = ap
      cbv
      refine ⟨fun h9 => ?_, fun h9 => ?_⟩
      · exfalso
        subst hap
        have h9 : v.fdiv 4294967296 ≠ 0 := ne_t.1 h9
        rw [Int.fdiv_eq_ediv_of_nonneg _ (by omega)] at h9
        omega
      cbv
      and_intros
      any_goals (refine ⟨0, Nat.zero_le _, ?_⟩; cbv; and_intros)
      rotate_right 1
      · intro (i : Nat) hi _ _
        have hi : i ≤ 4 := hi
        cbv
        refine ⟨fun h7 => ?_, fun h7 => ?_⟩
        · have b0 : i < 4 := by
            have : (i : Int) < 4 := by subst hap; exact lt_t.1 h7
            omega
          have c1 : i + 1 ≤ 4 := b0
          have c2 : 4 - (i + 1) < 4 - i := by omega
          cbv
          and_intros
          any_goals (refine ⟨i + 1, c1, c2, ?_⟩; cbv; and_intros)
          all_goals subst hap
          all_goals have inc : wadd .i64 (i : Int) 1 = ((i + 1 : Nat) : Int) := inc_i64 (by omega)
          all_goals have e2 := wm8 (k := 4) (i := i) (z := 3) rfl b0 (by omega)
          all_goals have e3 := be_byte (k := 4) (i := i) (v := v) (z := 3) rfl b0 (by omega) h1.1
          all_goals have e4 := beP_set (k := 4) (v := v) b0 e3
          all_goals first
            | exact True.intro
            | exact inc.symm
            | exact e2
            | (simp only [apf, eqL', arF, natI, addN, lenI, Int.toNat_natCast, Nat.zero_add]
               exact e4.symm)
            | rfl
            | (show _ < _
               simp only [apf, natI, addN, lenI, Int.toNat_natCast, Nat.zero_add]
               omega)
            | (show 0 ≤ (i : Int)
               omega)
        · have b0 : i = 4 := by
            have : (4 : Int) ≤ (i : Int) := by subst hap; exact lt_f.1 h7
            omega
          subst b0
          cbv
          subst hap
          and_intros
          all_goals first
            | exact True.intro
            | rfl
            | exact (beP_all 4 v).symm
      all_goals subst hap
      all_goals first
        | exact True.intro
        | rfl
        | (show 1 * 4 ≤ 140737488355328; decide)
        | (show 0 ≤ (4 : Int); decide)
        | exact beP_zero 4 v
    · generalize hap : apf = ap
      cbv
      and_intros
      any_goals (refine ⟨0, Nat.zero_le _, ?_⟩; cbv; and_intros)
      rotate_right 1
      · intro (i : Nat) hi _ _
        have hi : i ≤ 8 := hi
        cbv
        refine ⟨fun h7 => ?_, fun h7 => ?_⟩
        · have b0 : i < 8 := by
            have : (i : Int) < 8 := by subst hap; exact lt_t.1 h7
            omega
          have c1 : i + 1 ≤ 8 := b0
          have c2 : 8 - (i + 1) < 8 - i := by omega
          cbv
          and_intros
          any_goals (refine ⟨i + 1, c1, c2, ?_⟩; cbv; and_intros)
          all_goals subst hap
          all_goals have inc : wadd .i64 (i : Int) 1 = ((i + 1 : Nat) : Int) := inc_i64 (by omega)
          all_goals have e2 := wm8 (k := 8) (i := i) (z := 7) rfl b0 (by omega)
          all_goals have e3 := be_byte (k := 8) (i := i) (v := v) (z := 7) rfl b0 (by omega) h1.1
          all_goals have e4 := beP_set (k := 8) (v := v) b0 e3
          all_goals first
            | exact True.intro
            | exact inc.symm
            | exact e2
            | (simp only [apf, eqL', arF, natI, addN, lenI, Int.toNat_natCast, Nat.zero_add]
               exact e4.symm)
            | rfl
            | (show _ < _
               simp only [apf, natI, addN, lenI, Int.toNat_natCast, Nat.zero_add]
               omega)
            | (show 0 ≤ (i : Int)
               omega)
        · have b0 : i = 8 := by
            have : (8 : Int) ≤ (i : Int) := by subst hap; exact lt_f.1 h7
            omega
          subst b0
          cbv
          subst hap
          and_intros
          all_goals first
            | exact True.intro
            | rfl
            | exact (beP_all 8 v).symm
      all_goals subst hap
      all_goals first
        | exact True.intro
        | rfl
        | (show 1 * 8 ≤ 140737488355328; decide)
        | (show 0 ≤ (8 : Int); decide)
        | exact beP_zero 8 v
  · exact h.elim
theorem s107 : Sound Tryd.prog G1 107 (pu 107) (cNum apf) := fn_sound rfl Tryd.call107 ok107 co107 env_nil vc107
end Go.Cx.Rb
/- CxbW7 -/
namespace Go.Cx.Rb
open Go Go.Cx Go.Proofs
structure WrapA where
  p : List Int
  s : List Int
  r : Int
  m : List Int
  k : Int
end Go.Cx.Rb
/- CxbW8 -/
namespace Go.Cx.Rb
open Go Go.Cx Go.Proofs
/-- a reader goes on -/
def rd (x : List Int × Bool) (k : Int) : List Int × Bool := (rsL x.1 x.2 k, flS x.1 x.2 k)
def rz (x : List Int × Bool) (k : Int) : List Int × Bool := (rsL x.1 x.2 k, zrS x.1 x.2 k)
def d2 (b : List Int) : List Int × Bool := rd (rd (b, false) 1) 1
def d4 (b : List Int) : List Int × Bool := rd (rz (d2 b) 2) 4
end Go.Cx.Rb
/- CxbW9 -/
namespace Go.Cx.Rb
open Go Go.Cx Go.Proofs
def okQ (l : List Int) (a : Int) (s : Bool) (k : Int) : Bool := okR (l.drop a.toNat) s k
def tkQ (l : List Int) (a : Int) (s : Bool) (k : Int) : List Int := tkL (l.drop a.toNat) s k
def atQ (l : List Int) (a : Int) (s : Bool) (k : Int) : Int := if okQ l a s k then a + k else a
def flQ (l : List Int) (a : Int) (s : Bool) (k : Int) : Bool := !okQ l a s k
def zrQ (l : List Int) (a : Int) (s : Bool) (k : Int) : Bool := !(okQ l a s k && allZ (tkQ l a s k))
def endQ (l : List Int) (a : Int) (s : Bool) : Int := if s || decide (a < l.length) then 12 else 0
def rrV (n : Nat) (l : List Int) (a : Int) (s : Bool) : V := .cat 1 2 (.dsl n 1 (.ints .u8 n l)) (.cat 1 1 (.int .i64 a) (.bool s))
def inA (a : Int) (n : Nat) : Prop := 0 ≤ a ∧ a ≤ n ∧ n ≤ 4294967296
def smallK (k : Int) : Prop := k ≤ 4294967296
theorem tkQ_rng {l : List Int} {a : Int} {s : Bool} {k : Int} (h : ∀ y ∈ l, inR .u8 y) : ∀ y ∈ tkQ l a s k, inR .u8 y := tkL_rng fun y hy => h y (List.mem_of_mem_drop hy)
/-- 'Bytes', in new memory -/
def cByt0 (ap : AP) : Ctr
  | [.o (.cat 1 2 (.dsl n 1 (.ints .u8 n' l)) (.cat 1 1 (.int .i64 a) (.bool s))), .v (.int .i64 k)] => .chk (ap _ _ (ap _ _ eqN n) n') <| .chk (ap _ _ (ap _ _ inA a) n) <| .chk (ap _ _ smallK k) <| .br (ap _ _ (ap _ _ (ap _ _ (ap _ _ okQ l) a) s) k)
      (.ok ⟨.sl 0 [] 0 (ap _ _ llen (ap _ _ (ap _ _ (ap _ _ (ap _ _ tkQ l) a) s) k)) 1 none, [rrV n l (ap _ _ (ap _ _ (ap _ _ (ap _ _ atQ l) a) s) k) (ap _ _ (ap _ _ (ap _ _ (ap _ _ flQ l) a) s) k)],
        [.ints .u8 (ap _ _ llen (ap _ _ (ap _ _ (ap _ _ (ap _ _ tkQ l) a) s) k)) (ap _ _ (ap _ _ (ap _ _ (ap _ _ tkQ l) a) s) k)]⟩)
      (.ok ⟨.nsl, [rrV n l (ap _ _ (ap _ _ (ap _ _ (ap _ _ atQ l) a) s) k) (ap _ _ (ap _ _ (ap _ _ (ap _ _ flQ l) a) s) k)], []⟩)
  | _ => .fail 330
set_option maxRecDepth 20000 in
set_option maxHeartbeats 1000000 in
theorem vc103 (args : List Arg) (out : Out) (h : (cByt0 apf args).to out) (hok : okAs args) :
    args.length = ic103.nargs ∧ ic103.nargs ≤ ic103.ntmps ∧ ∃ A, run apf [] A ic103.body (fnQ apf args out ic103.res) (st0 G1 false args) := by
  unfold cByt0 at h
  split at h
  · rename_i n n' l a s k
    obtain ⟨h1, h2, h3, h⟩ := h
    have h1 : n = n' := h1
    subst h1
    have h2 : 0 ≤ a ∧ a ≤ n ∧ n ≤ 4294967296 := h2
    have h3 : k ≤ 4294967296 := h3
    obtain ⟨⟨hl, _⟩, _⟩ := hok
    have hl1 : l.length = n := hl.1
    have hd : (l.drop a.toNat).length = n - a.toNat := by rw [List.length_drop, hl1]
    rcases h with ⟨hb, h⟩ | ⟨hb, h⟩
    all_goals cases h
    all_goals refine ⟨rfl, by decide, [], ?_⟩
    all_goals show run apf _ _ _ _ (st0 [(1, .ints .u32 64 kk)] _ _)
    all_goals generalize hK : kk = K
    all_goals have hb' : okR (l.drop a.toNat) s k = _ := hb
    all_goals clear hb
    all_goals generalize hap : apf = ap
    all_goals cbv
    all_goals repeat' first
      | exact True.intro
      | (intro hh; with_reducible exact False.elim (tf_no (Eq.trans (Eq.symm (show _ = true by assumption)) hh)))
      | (intro hh; with_reducible exact False.elim (tf_no (Eq.trans (Eq.symm hh) (show _ = false by assumption))))
      | (intro _; cbv)
      | (refine And.intro ?_ ?_)
    all_goals subst hap
    all_goals try simp only [cast_fix] at *
    all_goals have w3 : wsub .i64 (n : Int) a = n - a := wsub_i64 (by omega)
    all_goals simp only [apf, cmF, arF, lt_t, lt_f, gt_t, gt_f, lenI, w3] at *
    all_goals have f1 : okR (l.drop a.toNat) s k = false → s = true ∨ k < 0 ∨ (n : Int) - a < k := fun e => by
                cases hs : s with
                | true => exact .inl rfl
                | false =>
                  refine .inr (Decidable.byContradiction fun hn => ?_)
                  have e2 : okR (l.drop a.toNat) s k = true := okR_t.2 ⟨hs, by omega, by rw [hd]; omega⟩
                  rw [e] at e2
                  cases e2
    all_goals have f2 : okR (l.drop a.toNat) s k = true → s = false ∧ 0 ≤ k ∧ k ≤ (n : Int) - a := fun e => by
                obtain ⟨e1, e2, e3⟩ := okR_t.1 e
                rw [hd] at e3
                exact ⟨e1, e2, by omega⟩
    all_goals first
      | (have f3 := f2 hb'
         first
           | (exfalso; simp_all; done)
           | (exfalso; omega)
           | (have w1 : wadd .i64 a k = a + k := wadd_i64 (by omega)
              have w2 : wsub .i64 (a + k) k = a := by rw [wsub_i64 (by omega)]; omega
              have w4 : (a + k).toNat - a.toNat = k.toNat := by omega
              simp only [w1, w2, natI, leN, eqN, appN, subN, llen, tkQ, atQ, flQ, okQ, tkL, hb', eqI', eqL', eqB', if_true, Bool.not_true, w4]
              first
                | done
                | exact f3.1.symm
                | omega
                | (rw [List.length_take, hd]; omega)
                | (simp [subL]; done)))
      | (have f3 := f1 hb'
         first
           | (exfalso; simp_all; done)
           | (exfalso; omega)
           | (simp only [eqN, atQ, flQ, okQ, hb', eqI', eqL', eqB', if_false, Bool.not_false, Bool.false_eq_true]; done)
           | (exfalso; rcases f3 with f3 | f3 | f3
              · cases (f3.symm.trans (show s = false by assumption))
              · omega
              · omega))
      | trace_state
  · exact h.elim
end Go.Cx.Rb
/- CxbW10 -/
namespace Go.Cx.Rb
open Go Go.Cx Go.Proofs
theorem s103 : Sound Tryd.prog G1 103 (pu 103) (fun args => cByt0 apf (args.map litA)) := (fn_sound rfl Tryd.call103 ok103 co103 env_nil vc103).lits
def cByt (ap : AP) : Ctr
  | [.o (.cat 1 2 (.dsl n 1 (.ints .u8 n' l)) (.cat 1 1 (.int .i64 a) (.bool s))), .v (.int .i64 k)] => .chk (ap _ _ (ap _ _ eqN n) n') <| .chk (ap _ _ (ap _ _ inA a) n) <| .chk (ap _ _ smallK k) <|
      (.ok ⟨dslA ap (ap _ _ (ap _ _ (ap _ _ (ap _ _ tkQ l) a) s) k), [rrV n l (ap _ _ (ap _ _ (ap _ _ (ap _ _ atQ l) a) s) k) (ap _ _ (ap _ _ (ap _ _ (ap _ _ flQ l) a) s) k)], []⟩)
  | _ => .fail 330
theorem byt_freeze (args : List Arg) (out' : Out) (h : (cByt apf args).to out') : ∃ out, (cByt0 apf args).to out ∧ Frz out out' := by
  unfold cByt at h
  split at h
  · rename_i n n' l a s k
    obtain ⟨h1, h2, h3, h⟩ := h
    cases h
    cases hb : okQ l a s k with
    | true =>
      refine ⟨_, ⟨h1, h2, h3, .inl ⟨hb, rfl⟩⟩, by show 1 ≤ 1000; decide, rfl, rfl, by simp [V.clo, V.noown], by simp [V.clo, rrV], rfl, rfl, _, rfl, ⟨rfl, rfl⟩, rfl⟩
    | false =>
      refine ⟨_, ⟨h1, h2, h3, .inr ⟨hb, rfl⟩⟩, by show 0 ≤ 1000; decide, rfl, rfl, by simp, by simp [V.clo, rrV], .inr ⟨.u8, ?_⟩⟩
      have e : tkQ l a s k = [] := by
        have hb' : okR (l.drop a.toNat) s k = false := hb
        simp only [tkQ, tkL, hb', if_false, Bool.false_eq_true]
      show V.dsl (tkQ l a s k).length 1 (.ints .u8 (tkQ l a s k).length (tkQ l a s k)) = _
      rw [e]; rfl
  · exact h.elim
theorem s103f : Sound Tryd.prog G1 103 (pu 103) (fun args => cByt apf (args.map litA)) := s103.freeze fun _args out' h => byt_freeze _ out' h
def cNumQ (ap : AP) : Ctr
  | [.o (.cat 1 2 (.dsl n 1 (.ints .u8 n' l)) (.cat 1 1 (.int .i64 a) (.bool s))), .v (.int .i64 k)] => .chk (ap _ _ in18 k) <| .chk (ap _ _ (ap _ _ eqN n) n') <| .chk (ap _ _ (ap _ _ inA a) n) <| .ok
    ⟨.int .u64 (ap _ _ numL (ap _ _ (ap _ _ (ap _ _ (ap _ _ tkQ l) a) s) k)), [rrV n l (ap _ _ (ap _ _ (ap _ _ (ap _ _ atQ l) a) s) k) (ap _ _ (ap _ _ (ap _ _ (ap _ _ flQ l) a) s) k)], []⟩
  | _ => .fail 331
def aNumQ (ap : AP) (n : Nat) (l : List Int) (a : Int) (s : Bool) (k : Int) (m : Nat) : List (Nat × Ann) := [
  (0, .inv Nat (fun i => ⟨[(6, dslA ap (ap _ _ (ap _ _ (ap _ _ (ap _ _ tkQ l) a) s) k)), (7, .int .i64 (ap _ _ lenI i)), (5, .int .u64 (ap _ _ (ap _ _ numT (ap _ _ (ap _ _ (ap _ _ (ap _ _ tkQ l) a) s) k)) i))],
      [(parH 0, ⟨.own, rrV n l (ap _ _ (ap _ _ (ap _ _ (ap _ _ atQ l) a) s) k) (ap _ _ (ap _ _ (ap _ _ (ap _ _ flQ l) a) s) k)⟩)], []⟩)
    (fun i => i ≤ m) (fun i => m - i))]
theorem mul_add {v x : Int} (hv : 0 ≤ v) (hv2 : v < 256 ^ 7) (hx : 0 ≤ x ∧ x ≤ 255) : wadd .u64 (wmul .u64 v 256) (wcv .u64 x) = v * 256 + x := by
  have e1 : wmul .u64 v 256 = v * 256 := IntWalk.u64_in _ ⟨by omega, by omega⟩
  have e2 : wcv .u64 x = x := wcv_u64 (by omega)
  rw [e1, e2]
  exact IntWalk.u64_in _ ⟨by omega, by omega⟩
set_option maxRecDepth 20000 in
theorem vc100 (args : List Arg) (out : Out) (h : (cNumQ apf args).to out) (hok : okAs args) :
    args.length = ic100.nargs ∧ ic100.nargs ≤ ic100.ntmps ∧ ∃ A, run apf [(103, (fun args => cByt apf (args.map litA)))] A ic100.body (fnQ apf args out ic100.res) (st0 G1 false args) := by
  unfold cNumQ at h
  split at h
  · rename_i n n' l a s k
    obtain ⟨h0, h1, h2, h⟩ := h
    cases h
    have h1 : n = n' := h1
    have h0 : 1 ≤ k ∧ k ≤ 8 := h0
    subst h1
    obtain ⟨⟨hl, _⟩, _⟩ := hok
    refine ⟨rfl, by decide, aNumQ apf n l a s k (tkQ l a s k).length, ?_⟩
    show run apf _ _ _ _ (st0 [(1, .ints .u32 64 kk)] _ _)
    generalize hK : kk = K
    have hT : (tkQ l a s k).length ≤ 8 := by have := tkL_le (l := l.drop a.toNat) (s := s) (k := k); show (tkL _ _ _).length ≤ 8; omega
    have hR : ∀ y ∈ tkQ l a s k, inR .u8 y := tkQ_rng hl.2
    generalize hM : (tkQ l a s k).length = M at hT ⊢
    generalize hap : apf = ap
    cbv
    refine ⟨fun h9 => ?_, fun h9 => ?_⟩
    · exfalso
      subst hap
      simp only [apf, cmF, lt_t] at h9
      omega
    cbv
    refine ⟨fun h8 => ?_, fun h8 => ?_⟩
    · exfalso
      subst hap
      simp only [apf, cmF, gt_t] at h8
      omega
    cbv
    and_intros
    any_goals (refine ⟨0, Nat.zero_le _, ?_⟩; cbv; and_intros)
    rotate_right 1
    · intro (i : Nat) hi _ _
      have hi : i ≤ M := hi
      cbv
      refine ⟨fun h7 => ?_, fun h7 => ?_⟩
      · have b0 : i < M := by
          have : (i : Int) < ((tkQ l a s k).length : Int) := by subst hap; exact lt_t.1 h7
          omega
        have c1 : i + 1 ≤ M := b0
        have c2 : M - (i + 1) < M - i := by omega
        cbv
        and_intros
        any_goals (refine ⟨i + 1, c1, c2, ?_⟩; cbv; and_intros)
        all_goals subst hap
        all_goals have inc : wadd .i64 (i : Int) 1 = ((i + 1 : Nat) : Int) := inc_i64 (by omega)
        all_goals try simp only [apf, ltN, natI, eqN, eqI', eqL', eqB', arF, lenI, inc, Int.toNat_natCast]
        all_goals first
          | exact True.intro
          | (simp only [llen]; omega)
          | omega
          | (have e1 := numT_next (L := tkQ l a s k) (i := i) (by omega)
             have e2 := numL_rng ((tkQ l a s k).take i) (fun y hy => hR y (List.mem_of_mem_take hy))
             have e3 : 0 ≤ nthI (tkQ l a s k) i ∧ nthI (tkQ l a s k) i ≤ 255 := byte_rng hR i
             have e4 : (256 : Int) ^ ((tkQ l a s k).take i).length ≤ 256 ^ 7 := by
               have := Nat.pow_le_pow_right (n := 256) (by omega) (show ((tkQ l a s k).take i).length ≤ 7 by rw [List.length_take]; omega)
               exact_mod_cast this
             show numT (tkQ l a s k) (i + 1) = _
             rw [e1]
             exact (mul_add e2.1 (by omega) e3).symm)
      · have b0 : i = M := by
          have : ((tkQ l a s k).length : Int) ≤ (i : Int) := by subst hap; exact lt_f.1 h7
          omega
        cbv
        subst hap
        and_intros
        all_goals first
          | exact True.intro
          | (show numL (tkQ l a s k) = numT (tkQ l a s k) i
             rw [b0, ← hM, numT_all])
          | rfl
    all_goals subst hap
    all_goals first | exact True.intro | rfl | exact h2 | (show k ≤ 4294967296; omega)
  · exact h.elim
theorem s100 : Sound Tryd.prog G1 100 (pu 100) (cNumQ apf) := fn_sound rfl Tryd.call100 ok100 co100 (env_cons s103f env_nil) vc100
theorem s100l : Sound Tryd.prog G1 100 (pu 100) (fun args => cNumQ apf (args.map litA)) := s100.lits
def cIntQ (ap : AP) : Ctr
  | [.o (.cat 1 2 (.dsl n 1 (.ints .u8 n' l)) (.cat 1 1 (.int .i64 a) (.bool s))), .v (.int .i64 k)] => .chk (ap _ _ in18 k) <| .chk (ap _ _ (ap _ _ eqN n) n') <| .chk (ap _ _ (ap _ _ inA a) n) <| .ok
    ⟨.int .i64 (ap _ _ (wcv .i64) (ap _ _ numL (ap _ _ (ap _ _ (ap _ _ (ap _ _ tkQ l) a) s) k))), [rrV n l (ap _ _ (ap _ _ (ap _ _ (ap _ _ atQ l) a) s) k) (ap _ _ (ap _ _ (ap _ _ (ap _ _ flQ l) a) s) k)], []⟩
  | _ => .fail 332
set_option maxRecDepth 20000 in
set_option maxHeartbeats 1000000 in
theorem vc101 (args : List Arg) (out : Out) (h : (cIntQ apf args).to out) (hok : okAs args) :
    args.length = ic101.nargs ∧ ic101.nargs ≤ ic101.ntmps ∧ ∃ A, run apf [(100, cNumQ apf)] A ic101.body (fnQ apf args out ic101.res) (st0 G1 false args) := by
  unfold cIntQ at h
  split at h
  · rename_i n n' l a s k
    obtain ⟨h0, h1, h2, h⟩ := h
    cases h
    have h1 : n = n' := h1
    subst h1
    refine ⟨rfl, by decide, [], ?_⟩
    show run apf _ _ _ _ (st0 [(1, .ints .u32 64 kk)] _ _)
    generalize hK : kk = K
    generalize hap : apf = ap
    cbv
    repeat' first
      | exact True.intro
      | (intro hh; with_reducible exact False.elim (tf_no (Eq.trans (Eq.symm (show _ = true by assumption)) hh)))
      | (intro hh; with_reducible exact False.elim (tf_no (Eq.trans (Eq.symm hh) (show _ = false by assumption))))
      | (intro _; cbv)
      | (refine And.intro ?_ ?_)
    all_goals subst hap
    all_goals first | exact True.intro | rfl | exact h0 | exact h2
  · exact h.elim
theorem s101 : Sound Tryd.prog G1 101 (pu 101) (fun args => cIntQ apf (args.map litA)) := (fn_sound rfl Tryd.call101 ok101 co101 (env_cons s100 env_nil) vc101).lits
def cEndQ (ap : AP) : Ctr
  | [.o (.cat 1 2 (.dsl n 1 (.ints .u8 n' l)) (.cat 1 1 (.int .i64 a) (.bool s)))] => .chk (ap _ _ (ap _ _ eqN n) n') <| .ok ⟨.int .i64 (ap _ _ (ap _ _ (ap _ _ endQ l) a) s), [], []⟩
  | _ => .fail 333
set_option maxRecDepth 20000 in
set_option maxHeartbeats 1000000 in
theorem vc104 (args : List Arg) (out : Out) (h : (cEndQ apf args).to out) (hok : okAs args) :
    args.length = ic104.nargs ∧ ic104.nargs ≤ ic104.ntmps ∧ ∃ A, run apf [] A ic104.body (fnQ apf args out ic104.res) (st0 G1 true args) := by
  unfold cEndQ at h
  split at h
  · rename_i n n' l a s
    obtain ⟨h1, h⟩ := h
    cases h
    have h1 : n = n' := h1
    subst h1
    obtain ⟨⟨hl, _⟩, _⟩ := hok
    refine ⟨rfl, by decide, [], ?_⟩
    show run apf _ _ _ _ (st0 [(1, .ints .u32 64 kk)] _ _)
    generalize hK : kk = K
    generalize hap : apf = ap
    cbv
    repeat' first
      | exact True.intro
      | (intro hh; with_reducible exact False.elim (tf_no (Eq.trans (Eq.symm (show _ = true by assumption)) hh)))
      | (intro hh; with_reducible exact False.elim (tf_no (Eq.trans (Eq.symm hh) (show _ = false by assumption))))
      | (intro _; cbv)
      | (refine And.intro ?_ ?_)
    all_goals subst hap
    all_goals have hl' : l.length = n := hl.1
    all_goals simp only [apf, cmF, lt_t, lt_f, lenI, eqI', endQ, hl'] at *
    all_goals first
      | (have e := decide_eq_true (p := a < (n : Int)) (by assumption)
         simp only [e, Bool.or_true, if_true]; done)
      | (have e := decide_eq_false (p := a < (n : Int)) (by omega)
         have e2 : s = false := by assumption
         simp only [e, e2, Bool.or_self, if_false, Bool.false_eq_true]; done)
      | (have e2 : s = true := by assumption
         simp only [e2, Bool.true_or, if_true]; done)
  · exact h.elim
theorem s104 : Sound Tryd.prog G1 104 (pu 104) (fun args => cEndQ apf (args.map litA)) := (fn_sound rfl Tryd.call104 ok104 co104 env_nil vc104).lits
end Go.Cx.Rb
/- CxbW11 -/
namespace Go.Cx.Rb
open Go Go.Cx Go.Proofs
/-- 'Zeros' of the document's reader -/
def cZerQ (ap : AP) : Ctr
  | [.o (.cat 1 2 (.dsl n 1 (.ints .u8 n' l)) (.cat 1 1 (.int .i64 a) (.bool s))), .v (.int .i64 k)] => .chk (ap _ _ (ap _ _ eqN n) n') <| .chk (ap _ _ (ap _ _ inA a) n) <| .chk (ap _ _ smallK k) <| .ok
    ⟨.tnil, [rrV n l (ap _ _ (ap _ _ (ap _ _ (ap _ _ atQ l) a) s) k) (ap _ _ (ap _ _ (ap _ _ (ap _ _ zrQ l) a) s) k)], []⟩
  | _ => .fail 334
/-- spoilt so far -/
def spS (L : List Int) (f : Bool) (i : Nat) : Bool := f || !allZ (L.take i)
theorem spS_zero (L : List Int) (f : Bool) : spS L f 0 = f := by simp [spS, allZ]
theorem allZ_snoc {L : List Int} {i : Nat} (h : i < L.length) : allZ (L.take (i + 1)) = (allZ (L.take i) && decide (nthI L i = 0)) := by
  have e : L.take (i + 1) = L.take i ++ [nthI L i] := by
    rw [List.take_add_one, List.getElem?_eq_getElem h]
    simp [nthI, List.getD_eq_getElem?_getD, h]
  rw [e, Bool.eq_iff_iff]
  simp only [allZ, decide_eq_true_eq, List.mem_append, List.mem_singleton, Bool.and_eq_true]
  constructor
  · intro hh; exact ⟨fun x hx => hh x (.inl hx), hh _ (.inr rfl)⟩
  · rintro ⟨h1, h2⟩ x (hx | rfl)
    · exact h1 x hx
    · exact h2
theorem spS_ne {L : List Int} {f : Bool} {i : Nat} (h : i < L.length) (hx : nthI L i ≠ 0) : spS L f (i + 1) = true := by
  rw [spS, allZ_snoc h, decide_eq_false hx]; simp
theorem spS_eq {L : List Int} {f : Bool} {i : Nat} (h : i < L.length) (hx : nthI L i = 0) : spS L f (i + 1) = spS L f i := by
  rw [spS, allZ_snoc h, decide_eq_true hx, Bool.and_true]; rfl
theorem spS_all (l : List Int) (a : Int) (s : Bool) (k : Int) : spS (tkQ l a s k) (flQ l a s k) (tkQ l a s k).length = zrQ l a s k := by
  rw [spS, List.take_length, flQ, zrQ]
  cases okQ l a s k <;> simp
def aZerQ (ap : AP) (n : Nat) (l : List Int) (a : Int) (s : Bool) (k : Int) (m : Nat) : List (Nat × Ann) := [
  (0, .inv Nat (fun i => ⟨[(0, .ptr (parH 0) []), (4, dslA ap (ap _ _ (ap _ _ (ap _ _ (ap _ _ tkQ l) a) s) k)), (5, .int .i64 (ap _ _ lenI i))],
      [(parH 0, ⟨.own, rrV n l (ap _ _ (ap _ _ (ap _ _ (ap _ _ atQ l) a) s) k) (ap _ _ (ap _ _ (ap _ _ spS (ap _ _ (ap _ _ (ap _ _ (ap _ _ tkQ l) a) s) k)) (ap _ _ (ap _ _ (ap _ _ (ap _ _ flQ l) a) s) k)) i)⟩)], []⟩)
    (fun i => i ≤ m) (fun i => m - i))]
set_option maxRecDepth 20000 in
theorem vc102 (args : List Arg) (out : Out) (h : (cZerQ apf args).to out) (hok : okAs args) :
    args.length = ic102.nargs ∧ ic102.nargs ≤ ic102.ntmps ∧ ∃ A, run apf [(103, (fun args => cByt apf (args.map litA)))] A ic102.body (fnQ apf args out ic102.res) (st0 G1 false args) := by
  unfold cZerQ at h
  split at h
  · rename_i n n' l a s k
    obtain ⟨h1, h2, h3, h⟩ := h
    cases h
    have h1 : n = n' := h1
    subst h1
    obtain ⟨⟨hl, _⟩, _⟩ := hok
    refine ⟨rfl, by decide, aZerQ apf n l a s k (tkQ l a s k).length, ?_⟩
    show run apf _ _ _ _ (st0 [(1, .ints .u32 64 kk)] _ _)
    generalize hK : kk = K
    have hT : (tkQ l a s k).length ≤ 4294967296 := by have := tkL_le (l := l.drop a.toNat) (s := s) (k := k); have h3 : k ≤ 4294967296 := h3; show (tkL _ _ _).length ≤ 4294967296; omega
    generalize hM : (tkQ l a s k).length = M at hT ⊢
    generalize hap : apf = ap
    cbv
    and_intros
    any_goals (refine ⟨0, Nat.zero_le _, ?_⟩; cbv; and_intros)
    rotate_right 1
    · intro (i : Nat) hi _ _
      have hi : i ≤ M := hi
      cbv
      refine ⟨fun h7 => ?_, fun h7 => ?_⟩
      · have b0 : i < M := by
          have : (i : Int) < ((tkQ l a s k).length : Int) := by subst hap; exact lt_t.1 h7
          omega
        have c1 : i + 1 ≤ M := b0
        have c2 : M - (i + 1) < M - i := by omega
        cbv
        repeat' first
          | exact True.intro
          | (refine And.intro ?_ ?_)
          | (refine ⟨i + 1, c1, c2, ?_⟩; cbv)
          | (intro _; cbv)
        all_goals subst hap
        all_goals have inc : wadd .i64 (i : Int) 1 = ((i + 1 : Nat) : Int) := inc_i64 (by omega)
        all_goals have b9 : i < (tkQ l a s k).length := by omega
        all_goals try simp only [apf, cmF, ne_t, ne_f, ltN, natI, eqN, eqI', eqL', eqB', arF, lenI, inc, Int.toNat_natCast] at *
        all_goals first
          | exact True.intro
          | rfl
          | (simp only [llen]; omega)
          | omega
          | exact spS_ne b9 (by assumption)
          | exact spS_eq b9 (by assumption)
      · have b0 : i = M := by
          have : ((tkQ l a s k).length : Int) ≤ (i : Int) := by subst hap; exact lt_f.1 h7
          omega
        cbv
        subst hap
        and_intros
        all_goals first
          | exact True.intro
          | (show zrQ l a s k = spS (tkQ l a s k) (flQ l a s k) i
             rw [b0, ← hM, spS_all])
          | rfl
    all_goals subst hap
    all_goals first | exact True.intro | rfl | exact h2 | exact h3 | exact spS_zero _ _
  · exact h.elim
theorem s102 : Sound Tryd.prog G1 102 (pu 102) (fun args => cZerQ apf (args.map litA)) := (fn_sound rfl Tryd.call102 ok102 co102 (env_cons s103f env_nil) vc102).lits
/-- the last j bytes of a number -/
def beQ (k : Nat) (v : Int) (j : Nat) : List Int := List.replicate (k - j) 0 ++ (beL k v).drop (k - j)
theorem beQ_zero (k : Nat) (v : Int) : beQ k v 0 = zerosI k := by simp [beQ, zerosI, beL_len, List.drop_of_length_le]
theorem beQ_all (k : Nat) (v : Int) : beQ k v k = beL k v := by simp [beQ]
theorem beQ_set {k : Nat} {v x : Int} {j : Nat} (h : j < k) (hx : x = v / 256 ^ j % 256) : setI (beQ k v j) (k - 1 - j) x = beQ k v (j + 1) := by
  subst hx
  have e1 : List.replicate (k - j) (0 : Int) = List.replicate (k - (j + 1)) 0 ++ [0] := by
    rw [← List.replicate_succ']; congr 1; omega
  have e2 : (beL k v).drop (k - (j + 1)) = v / 256 ^ j % 256 :: (beL k v).drop (k - j) := by
    rw [List.drop_eq_getElem_cons (by rw [beL_len]; omega)]
    congr 1
    · have e := beL_at (k := k) (v := v) (i := k - (j + 1)) (by omega)
      rw [List.getElem?_eq_getElem (by rw [beL_len]; omega), Option.some.injEq] at e
      rw [e]
      congr 3
      omega
    · congr 1; omega
  unfold setI beQ
  rw [e1, e2, List.append_assoc, List.set_append_right _ _ (by rw [List.length_replicate]; omega), List.length_replicate]
  have e3 : k - 1 - j - (k - (j + 1)) = 0 := by omega
  rw [e3]; rfl
def shV (v : Int) (j : Nat) : Int := v / 256 ^ j
def dnI (k : Int) (j : Nat) : Int := k - 1 - j
def cNumQF (ap : AP) : Ctr
  | [.v (.int .u64 v), .v (.lit .i64 k)] => rif (k == 4 || k == 8) 335 <| .chk (ap _ _ (ap _ _ fitsB v) k) <| .ok
    ⟨.tcons (.sl 0 [] 0 k.toNat 1 (some k.toNat)) (.tcons (.lit .i64 0) .tnil), [], [.ints .u8 k.toNat (ap _ _ (ap _ _ beL k.toNat) v)]⟩
  | _ => .fail 335
def aNumQF (ap : AP) (k : Nat) (kI : Int) (v : Int) : List (Nat × Ann) := [
  (0, .inv Nat (fun j => ⟨[(0, .int .u64 (ap _ _ (ap _ _ shV v) j)), (6, .sl 15 [] 0 k 1 (some k)), (7, .int .i64 (ap _ _ (ap _ _ dnI kI) j))],
      [(15, ⟨.own, .ints .u8 k (ap _ _ (ap _ _ (ap _ _ beQ k) v) j)⟩)], []⟩)
    (fun j => j ≤ k) (fun j => k - j))]
theorem shV_next {v : Int} {j : Nat} (hv : 0 ≤ v) (h64 : v ≤ 18446744073709551615) : shV v (j + 1) = wquo .u64 (shV v j) 256 := by
  have h0 : 0 ≤ shV v j := Int.ediv_nonneg hv (Int.pow_nonneg (by omega))
  have hle : shV v j ≤ v := Int.ediv_le_self _ hv
  show v / 256 ^ (j + 1) = IntKind.u64.wrap ((shV v j).tdiv 256)
  rw [Int.tdiv_eq_ediv_of_nonneg h0, IntWalk.u64_in _ ⟨by omega, by omega⟩, Int.pow_succ, ← Int.ediv_ediv_of_nonneg (Int.pow_nonneg (by omega))]
  rfl
theorem shV_byte {v : Int} {j : Nat} (hv : 0 ≤ v) : wcv .u8 (wrem .u64 (shV v j) 256) = v / 256 ^ j % 256 := by
  have h0 : 0 ≤ shV v j := Int.ediv_nonneg hv (Int.pow_nonneg (by omega))
  show IntKind.u8.wrap ((shV v j).tmod 256) = _
  rw [Int.tmod_eq_emod_of_nonneg h0, u8_emod]
  show shV v j % 256 % 256 = shV v j % 256
  omega
theorem dn_next {k : Nat} {z : Int} {j : Nat} (hz : z = k) (hj : j < k) (hk : k ≤ 8) : dnI z (j + 1) = wsub .i64 (dnI z j) 1 := by
  subst hz
  rw [wsub_i64 (by simp only [dnI]; omega)]
  simp only [dnI]; omega
set_option maxRecDepth 20000 in
theorem vc145 (args : List Arg) (out : Out) (h : (cNumQF apf args).to out) (hok : okAs args) :
    args.length = ic145.nargs ∧ ic145.nargs ≤ ic145.ntmps ∧ ∃ A, run apf [] A ic145.body (fnQ apf args out ic145.res) (st0 G1 true args) := by
  unfold cNumQF at h
  split at h
  · rename_i v k
    obtain ⟨hk, h1, h⟩ := rif_to h
    cases h
    simp only [Bool.or_eq_true, beq_iff_eq] at hk
    have h1 : 0 ≤ v ∧ v < 256 ^ k.toNat := h1
    obtain ⟨hv, _⟩ := hok
    have h64 : v ≤ 18446744073709551615 := hv.2
    refine ⟨rfl, by decide, aNumQF apf k.toNat k v, ?_⟩
    show run apf _ _ _ _ (st0 [(1, .ints .u32 64 kk)] _ _)
    generalize hK : kk = K
    rcases hk with rfl | rfl
    · generalize hap : apf = ap
      cbv
      and_intros
      any_goals (refine ⟨0, Nat.zero_le _, ?_⟩; cbv; and_intros)
      rotate_right 1
      · intro (j : Nat) hi _ _
        have hi : j ≤ 4 := hi
        cbv
        refine ⟨fun h7 => ?_, fun h7 => ?_⟩
        · have b0 : j < 4 := by
            have : 0 ≤ dnI 4 j := by subst hap; exact ge_t.1 h7
            simp only [dnI] at this
            omega
          have c1 : j + 1 ≤ 4 := b0
          have c2 : 4 - (j + 1) < 4 - j := by omega
          cbv
          and_intros
          any_goals (refine ⟨j + 1, c1, c2, ?_⟩; cbv; and_intros)
          all_goals subst hap
          all_goals have e3 := beQ_set (k := 4) (v := v) b0 (shV_byte (j := j) h1.1)
          all_goals have e4 : (dnI 4 j).toNat = 4 - 1 - j := by simp only [dnI]; omega
          all_goals first
            | exact True.intro
            | exact shV_next h1.1 h64
            | exact dn_next (k := 4) rfl b0 (by omega)
            | (show 0 ≤ dnI 4 j
               simp only [dnI]; omega)
            | (simp only [apf, eqL', arF, natI, addN, Nat.zero_add, e4]
               exact e3.symm)
            | rfl
            | (simp only [apf, ltN, natI, addN, Nat.zero_add, e4]
               omega)
            | decide
        · have b0 : j = 4 := by
            have : dnI 4 j < 0 := by subst hap; exact ge_f.1 h7
            simp only [dnI] at this
            omega
          cbv
          refine ⟨fun h5 => ?_, fun h5 => ?_⟩
          · exfalso
            subst hap
            have h5 : shV v j ≠ 0 := ne_t.1 h5
            apply h5
            rw [b0]
            exact Int.ediv_eq_zero_of_lt h1.1 h1.2
          · subst b0
            cbv
            subst hap
            and_intros
            all_goals first
              | exact True.intro
              | rfl
              | exact (beQ_all 4 v).symm
      all_goals subst hap
      all_goals first
        | exact True.intro
        | rfl
        | (show 1 * 4 ≤ 140737488355328; decide)
        | (show 0 ≤ (4 : Int); decide)
        | exact beQ_zero 4 v
        | (show v / 256 ^ 0 = v; simp)
    · generalize hap : apf = ap
      cbv
      and_intros
      any_goals (refine ⟨0, Nat.zero_le _, ?_⟩; cbv; and_intros)
      rotate_right 1
      · intro (j : Nat) hi _ _
        have hi : j ≤ 8 := hi
        cbv
        refine ⟨fun h7 => ?_, fun h7 => ?_⟩
        · have b0 : j < 8 := by
            have : 0 ≤ dnI 8 j := by subst hap; exact ge_t.1 h7
            simp only [dnI] at this
            omega
          have c1 : j + 1 ≤ 8 := b0
          have c2 : 8 - (j + 1) < 8 - j := by omega
          cbv
          and_intros
          any_goals (refine ⟨j + 1, c1, c2, ?_⟩; cbv; and_intros)
          all_goals subst hap
          all_goals have e3 := beQ_set (k := 8) (v := v) b0 (shV_byte (j := j) h1.1)
          all_goals have e4 : (dnI 8 j).toNat = 8 - 1 - j := by simp only [dnI]; omega
          all_goals first
            | exact True.intro
            | exact shV_next h1.1 h64
            | exact dn_next (k := 8) rfl b0 (by omega)
            | (show 0 ≤ dnI 8 j
               simp only [dnI]; omega)
            | (simp only [apf, eqL', arF, natI, addN, Nat.zero_add, e4]
               exact e3.symm)
            | rfl
            | (simp only [apf, ltN, natI, addN, Nat.zero_add, e4]
               omega)
            | decide
        · have b0 : j = 8 := by
            have : dnI 8 j < 0 := by subst hap; exact ge_f.1 h7
            simp only [dnI] at this
            omega
          cbv
          refine ⟨fun h5 => ?_, fun h5 => ?_⟩
          · exfalso
            subst hap
            have h5 : shV v j ≠ 0 := ne_t.1 h5
            apply h5
            rw [b0]
            exact Int.ediv_eq_zero_of_lt h1.1 h1.2
          · subst b0
            cbv
            subst hap
            and_intros
            all_goals first
              | exact True.intro
              | rfl
              | exact (beQ_all 8 v).symm
      all_goals subst hap
      all_goals first
        | exact True.intro
        | rfl
        | (show 1 * 8 ≤ 140737488355328; decide)
        | (show 0 ≤ (8 : Int); decide)
        | exact beQ_zero 8 v
        | (show v / 256 ^ 0 = v; simp)
  · exact h.elim
theorem s145 : Sound Tryd.prog G1 145 (pu 145) (cNumQF apf) := fn_sound rfl Tryd.call145 ok145 co145 env_nil vc145
def cPut (ap : AP) : Ctr
  | [.v (.int .u64 v), .v (.lit .i64 k)] => rif (k == 4 || k == 8) 336 <| .chk (ap _ _ (ap _ _ fitsB v) k) <| .ok
    ⟨.sl 0 [] 0 k.toNat 1 (some k.toNat), [], [.ints .u8 k.toNat (ap _ _ (ap _ _ beL k.toNat) v)]⟩
  | _ => .fail 336
set_option maxRecDepth 20000 in
theorem vc113 (args : List Arg) (out : Out) (h : (cPut apf args).to out) (hok : okAs args) :
    args.length = ic113.nargs ∧ ic113.nargs ≤ ic113.ntmps ∧ ∃ A, run apf [(145, cNumQF apf)] A ic113.body (fnQ apf args out ic113.res) (st0 G1 true args) := by
  unfold cPut at h
  split at h
  · rename_i v k
    obtain ⟨hk, h1, h⟩ := rif_to h
    cases h
    simp only [Bool.or_eq_true, beq_iff_eq] at hk
    refine ⟨rfl, by decide, [], ?_⟩
    show run apf _ _ _ _ (st0 [(1, .ints .u32 64 kk)] _ _)
    generalize hK : kk = K
    rcases hk with rfl | rfl
    all_goals generalize hap : apf = ap
    all_goals cbv
    all_goals and_intros
    all_goals subst hap
    all_goals first | exact True.intro | rfl | exact h1
  · exact h.elim
theorem s113 : Sound Tryd.prog G1 113 (pu 113) (cPut apf) := fn_sound rfl Tryd.call113 ok113 co113 (env_cons s145 env_nil) vc113
end Go.Cx.Rb
/- CxbP1 -/
namespace Go.Cx.Rb
open Go Go.Cx
theorem okR_sp {l : List Int} {k : Int} : okR l true k = false := okR_f (.inl rfl)
theorem num_one {b : List Int} {i : Nat} (h : i < b.length) : numL ((b.drop i).take 1) = nthI b i := by
  have e : (b.drop i).take 1 = [nthI b i] := by
    rw [List.drop_eq_getElem_cons h, List.take_succ_cons, List.take_zero]
    simp [nthI, List.getD_eq_getElem?_getD, h]
  rw [e]; simp [numL]
theorem wcv_num {l : List Int} (h : ∀ y ∈ l, inR .u8 y) (hl : l.length ≤ 7) : wcv .i64 (numL l) = numL l := by
  obtain ⟨h1, h2⟩ := numL_rng l h
  have h3 := Nat.pow_le_pow_right (n := 256) (by omega) hl
  have h4 : (256 : Int) ^ l.length ≤ 72057594037927936 := by
    have h5 : ((256 ^ l.length : Nat) : Int) ≤ ((256 ^ 7 : Nat) : Int) := Int.ofNat_le.2 h3
    rw [Int.natCast_pow] at h5
    exact h5
  exact wcv_i64 (by omega)
theorem rng_sub {b : List Int} (h : ∀ y ∈ b, inR .u8 y) {i n : Nat} : ∀ y ∈ (b.drop i).take n, inR .u8 y := fun y hy => h y (List.mem_of_mem_drop (List.mem_of_mem_take hy))
end Go.Cx.Rb
/- CxbP2 -/
namespace Go.Cx.Rb
open Go Go.Cx
theorem beL8 (v : Int) : beL 8 v = [v / 72057594037927936 % 256, v / 281474976710656 % 256, v / 1099511627776 % 256, v / 4294967296 % 256, v / 16777216 % 256, v / 65536 % 256, v / 256 % 256, v / 1 % 256] := rfl
theorem num_be8 {v : Int} (h : 0 ≤ v ∧ v < 18446744073709551616) : numL (beL 8 v) = v := by
  rw [beL8]
  simp only [numL, List.foldl_cons, List.foldl_nil]
  omega
end Go.Cx.Rb
/- CxbP3 -/
namespace Go.Cx.Rb
open Go Go.Cx Go.Proofs
def pa1 (b : List Int) : Int := atQ b 0 false 1
def fa1 (b : List Int) : Bool := flQ b 0 false 1
def pa2 (b : List Int) : Int := atQ b (pa1 b) (fa1 b) 1
def fa2 (b : List Int) : Bool := flQ b (pa1 b) (fa1 b) 1
def pa3 (b : List Int) : Int := atQ b (pa2 b) (fa2 b) 2
def fa3 (b : List Int) : Bool := zrQ b (pa2 b) (fa2 b) 2
def pa4 (b : List Int) : Int := atQ b (pa3 b) (fa3 b) 4
def fa4 (b : List Int) : Bool := flQ b (pa3 b) (fa3 b) 4
def pa5 (b : List Int) : Int := atQ b (pa4 b) (fa4 b) 16
def fa5 (b : List Int) : Bool := flQ b (pa4 b) (fa4 b) 16
def pa6 (b : List Int) : Int := atQ b (pa5 b) (fa5 b) 32
def fa6 (b : List Int) : Bool := flQ b (pa5 b) (fa5 b) 32
def pa7 (b : List Int) : Int := atQ b (pa6 b) (fa6 b) 24
def fa7 (b : List Int) : Bool := flQ b (pa6 b) (fa6 b) 24
def nuK (b : List Int) : Int := wcv .i64 (numL (tkQ b (pa1 b) (fa1 b) 1))
def nuR (b : List Int) : Int := wcv .i64 (numL (tkQ b (pa3 b) (fa3 b) 4))
def xS (b : List Int) : List Int := tkQ b (pa4 b) (fa4 b) 16
def xW (b : List Int) : List Int := tkQ b (pa5 b) (fa5 b) 32
def xC (b : List Int) : List Int := tkQ b (pa6 b) (fa6 b) 24
structure Good (b : List Int) : Prop where
  p3 : pa3 b = 4
  f3 : fa3 b = false
  p4 : pa4 b = 8
  p5 : pa5 b = 24
  p6 : pa6 b = 56
  p7 : pa7 b = 80
  f7 : fa7 b = false
  k : nuK b = nthI b 1
  r : nuR b = numL ((b.drop 4).take 4)
  s : xS b = (b.drop 8).take 16
  w : xW b = (b.drop 24).take 32
  c : xC b = (b.drop 56).take 24
structure Bad (b : List Int) : Prop where
  f7 : fa7 b = true
  s : xS b = []
  w : xW b = []
  c : xC b = []
end Go.Cx.Rb
/- CxbCodeD -/
namespace Go.Cx.Rb
open Go Go.Cx Go.Proofs
def ic18 : IFn := ⟨3,51,[.t 6],
  (.seq (.reg [0,1,2,3,4,7,8,10,9,11,6] [⟨some 3,none,.box (.t 0)⟩,⟨some 4,none,.box (.t 1)⟩,⟨some 6,none,.mv (.c .ff)⟩])
  (.seq (.reg [0,1,2,3,4,7,8,10,9,11,6] [⟨some 12,none,.bsl (.i .u8) 0 []⟩,⟨some 13,none,.mv (.t 2)⟩,⟨some 14,none,.app0 (.i .u8) 1 (.t 12) (.t 13)⟩,⟨some 7,none,.mv (.t 14)⟩])
  (.seq (.dreg [0,1,2,3,4,7,8,10,9,11,6] [⟨⟨some 16,none,.ld 32 true (.t 3)⟩,[18,10018,20018,30018,40018,50018,60018,70018,80018,90018],[],none⟩,⟨⟨some 17,none,.ld 4 true (.t 4)⟩,[],[],none⟩,⟨⟨some 18,none,.call 65 true [((.t 17),.v)]⟩,[],[],none⟩,⟨⟨some 19,none,.mv (.t 7)⟩,[18,10018,20018,30018,40018,50018,60018,70018,80018,90018],[],none⟩,⟨⟨some 20,none,.call 64 true [((.t 16),.v),((.t 18),.v),((.t 19),.b (.i .u8))]⟩,[],[],none⟩,⟨⟨some 15,none,.mv (.t 20)⟩,[],[],none⟩,⟨⟨some 21,none,.ext 0 (.t 15)⟩,[],[],none⟩,⟨⟨some 22,none,.ext 1 (.t 15)⟩,[],[],none⟩,⟨⟨some 8,none,.mv (.t 21)⟩,[],[],none⟩,⟨⟨some 9,none,.mv (.t 22)⟩,[],[],none⟩])
  (.seq (.dreg [0,1,2,3,4,7,8,10,9,11,6] [⟨⟨some 24,none,.ld 32 true (.t 3)⟩,[26,10026,20026,30026,40026,50026,60026,70026,80026,90026],[],none⟩,⟨⟨some 25,none,.ld 4 true (.t 4)⟩,[],[],none⟩,⟨⟨some 26,none,.call 67 true [((.t 25),.v)]⟩,[],[],none⟩,⟨⟨some 27,none,.mv (.t 2)⟩,[26,10026,20026,30026,40026,50026,60026,70026,80026,90026],[],none⟩,⟨⟨some 28,none,.call 66 true [((.t 24),.v),((.t 26),.v),((.t 27),.b (.i .u8))]⟩,[],[],none⟩,⟨⟨some 23,none,.mv (.t 28)⟩,[],[],none⟩,⟨⟨some 29,none,.ext 0 (.t 23)⟩,[],[],none⟩,⟨⟨some 30,none,.ext 1 (.t 23)⟩,[],[],none⟩,⟨⟨some 10,none,.mv (.t 29)⟩,[],[],none⟩,⟨⟨some 11,none,.mv (.t 30)⟩,[],[],none⟩])
  (.seq (.reg [0,1,2,3,4,7,8,10,9,11,6] [⟨some 31,none,.call 68 true []⟩,⟨some 32,none,.mv (.t 31)⟩,⟨some 33,some (32,true),.mv (.t 8)⟩,⟨some 34,some (32,true),.b2s (.t 33)⟩,⟨some 35,some (32,true),.mv (.t 10)⟩,⟨some 36,some (32,true),.b2s (.t 35)⟩,⟨some 37,some (32,true),.eq .s false (.t 34) (.t 36)⟩,⟨some 38,none,.pick (.t 32) (.t 37) (.c .ff)⟩,⟨some 39,none,.mv (.t 38)⟩,⟨some 40,some (39,true),.mv (.t 9)⟩,⟨some 41,some (39,true),.mv (.t 11)⟩,⟨some 42,some (39,true),.cmp .eql (.t 40) (.t 41)⟩,⟨some 43,none,.pick (.t 39) (.t 42) (.c .ff)⟩,⟨some 44,none,.mv (.t 43)⟩,⟨some 45,some (44,true),.mv (.t 7)⟩,⟨some 46,some (44,true),.b2s (.t 45)⟩,⟨some 47,some (44,true),.mv (.t 2)⟩,⟨some 48,some (44,true),.b2s (.t 47)⟩,⟨some 49,some (44,true),.eq .s false (.t 46) (.t 48)⟩,⟨some 50,none,.pick (.t 44) (.t 49) (.c .ff)⟩,⟨some 6,none,.mv (.t 50)⟩])
  .ret)))))⟩
def ic20 : IFn := ⟨5,109,[.t 10],
  (.seq (.reg [0,1,19,11,2,5,6,13,33,12,14,15,68,3,17,16,4,91,10] [⟨some 5,none,.box (.t 0)⟩,⟨some 6,none,.box (.t 1)⟩,⟨some 10,none,.mv (.c .ff)⟩])
  (.seq (.seq (.reg [0,1,19,11,2,5,6,13,33,12,14,15,68,3,17,16,4,91,10] [⟨some 18,none,.call 68 true []⟩,⟨some 19,none,.not (.t 18)⟩])
  (.cond (.t 19)
    (.seq (.reg [0,1,19,11,2,5,6,13,33,12,14,15,68,3,17,16,4,91,10] [⟨some 10,none,.mv (.c .ff)⟩])
    .ret)
    .skip))
  (.seq (.reg [0,1,19,11,2,5,6,13,33,12,14,15,68,3,17,16,4,91,10] [⟨some 20,none,.mks (.i .u8) 1 (.c (.lit .i64 440))⟩,⟨some 11,none,.mv (.t 20)⟩])
  (.seq (.reg [0,1,19,11,2,5,6,13,33,12,14,15,68,3,17,16,4,91,10] [⟨some 21,none,.mv (.t 11)⟩,⟨some 22,none,.mv (.t 2)⟩,⟨some 23,none,.cpy (.i .u8) (.t 21) (.t 22)⟩])
  (.seq (.dreg [0,1,19,11,2,5,6,13,33,12,14,15,68,3,17,16,4,91,10] [⟨⟨some 25,none,.ld 32 true (.t 5)⟩,[27,10027,20027,30027,40027,50027,60027,70027,80027,90027],[],none⟩,⟨⟨some 26,none,.ld 4 true (.t 6)⟩,[],[],none⟩,⟨⟨some 27,none,.call 65 true [((.t 26),.v)]⟩,[],[],none⟩,⟨⟨some 28,none,.mv (.t 11)⟩,[27,10027,20027,30027,40027,50027,60027,70027,80027,90027],[],none⟩,⟨⟨some 29,none,.call 64 true [((.t 25),.v),((.t 27),.v),((.t 28),.b (.i .u8))]⟩,[],[],none⟩,⟨⟨some 24,none,.mv (.t 29)⟩,[],[],none⟩,⟨⟨some 30,none,.ext 0 (.t 24)⟩,[],[],none⟩,⟨⟨some 31,none,.ext 1 (.t 24)⟩,[],[],none⟩,⟨⟨some 12,none,.mv (.t 30)⟩,[],[],none⟩,⟨⟨some 13,none,.mv (.t 31)⟩,[],[],none⟩])
  (.seq (.seq (.reg [0,1,19,11,2,5,6,13,33,12,14,15,68,3,17,16,4,91,10] [⟨some 32,none,.mv (.t 13)⟩,⟨some 33,none,.cmp .neq (.t 32) (.c (.lit .i64 0))⟩])
  (.cond (.t 33)
    (.seq (.reg [0,1,19,11,2,5,6,13,33,12,14,15,68,3,17,16,4,91,10] [⟨some 34,none,.mv (.t 13)⟩,⟨some 35,none,.cmp .eql (.t 34) (.c (.lit .i64 2))⟩,⟨some 36,none,.mv (.t 35)⟩,⟨some 37,some (36,true),.ld 4 true (.t 6)⟩,⟨some 38,some (36,true),.call 67 true [((.t 37),.v)]⟩,⟨some 39,some (36,true),.call 73 true [((.t 38),.v)]⟩,⟨some 40,some (36,true),.not (.t 39)⟩,⟨some 41,none,.pick (.t 36) (.t 40) (.c .ff)⟩,⟨some 10,none,.mv (.t 41)⟩])
    .ret)
    .skip))
  (.seq (.reg [0,1,19,11,2,5,6,13,33,12,14,15,68,3,17,16,4,91,10] [⟨some 43,none,.ld 32 true (.t 5)⟩,⟨some 44,none,.mv (.t 12)⟩,⟨some 45,none,.call 70 true [((.t 43),.v),((.t 44),.b (.i .u8))]⟩,⟨some 42,none,.mv (.t 45)⟩,⟨some 46,none,.ext 0 (.t 42)⟩,⟨some 47,none,.ext 1 (.t 42)⟩,⟨some 48,none,.ext 2 (.t 42)⟩,⟨some 14,none,.alloc (.cat 1 3 (.v (.lit .i64 0)) (.cat 1 2 (.v (.lit .i64 0)) (.cat 1 1 (.v (.lit .u64 0)) (.v (.lit .u64 0)))))⟩,⟨none,none,.st 4 (.t 14) (.t 46)⟩,⟨some 15,none,.mv (.t 47)⟩,⟨some 13,none,.mv (.t 48)⟩])
  (.seq (.seq (.dreg [0,1,19,11,2,5,6,13,33,12,14,15,68,3,17,16,4,91,10] [⟨⟨some 49,none,.mv (.t 13)⟩,[],[],none⟩,⟨⟨some 50,none,.cmp .neq (.t 49) (.c (.lit .i64 0))⟩,[],[],none⟩,⟨⟨some 51,none,.mv (.t 50)⟩,[],[],none⟩,⟨⟨some 52,some (51,false),.ld 4 true (.t 14)⟩,[54,10054,20054,30054,40054,50054,60054,70054,80054,90054],[],none⟩,⟨⟨some 53,some (51,false),.ld 4 true (.t 6)⟩,[],[],none⟩,⟨⟨some 54,some (51,false),.call 65 true [((.t 53),.v)]⟩,[],[],none⟩,⟨⟨some 55,some (51,false),.eq (.z [.i .i64,.i .i64,.i .u64,.i .u64]) true (.t 52) (.t 54)⟩,[],[],none⟩,⟨⟨some 56,none,.pick (.t 51) (.c .tt) (.t 55)⟩,[],[],none⟩,⟨⟨some 57,none,.mv (.t 56)⟩,[],[],none⟩,⟨⟨some 58,some (57,false),.mv (.t 15)⟩,[],[],none⟩,⟨⟨some 59,some (57,false),.b2s (.t 58)⟩,[],[],none⟩,⟨⟨some 60,some (57,false),.mv (.t 11)⟩,[],[],none⟩,⟨⟨some 61,some (57,false),.b2s (.t 60)⟩,[],[],none⟩,⟨⟨some 62,some (57,false),.eq .s true (.t 59) (.t 61)⟩,[],[],none⟩,⟨⟨some 63,none,.pick (.t 57) (.c .tt) (.t 62)⟩,[],[],none⟩,⟨⟨some 64,none,.mv (.t 63)⟩,[],[],none⟩,⟨⟨some 65,some (64,false),.mv (.t 12)⟩,[],[],none⟩,⟨⟨some 66,some (64,false),.lenS (.t 65)⟩,[],[],none⟩,⟨⟨some 67,some (64,false),.cmp .neq (.t 66) (.c (.lit .i64 512))⟩,[],[],none⟩,⟨⟨some 68,none,.pick (.t 64) (.c .tt) (.t 67)⟩,[],[],none⟩])
  (.cond (.t 68)
    (.seq (.reg [0,1,19,11,2,5,6,13,33,12,14,15,68,3,17,16,4,91,10] [⟨some 10,none,.mv (.c .ff)⟩])
    .ret)
    .skip))
  (.seq (.reg [0,1,19,11,2,5,6,13,33,12,14,15,68,3,17,16,4,91,10] [⟨some 69,none,.mv (.t 3)⟩,⟨some 70,none,.cv .u64 (.t 69)⟩,⟨some 71,none,.ar .rem .u64 (.t 70) (.c (.lit .u64 512))⟩,⟨some 72,none,.cv .i64 (.t 71)⟩,⟨some 16,none,.mv (.t 72)⟩])
  (.seq (.reg [0,1,19,11,2,5,6,13,33,12,14,15,68,3,17,16,4,91,10] [⟨some 73,none,.bsl (.i .u8) 0 []⟩,⟨some 74,none,.mv (.t 12)⟩,⟨some 75,none,.app0 (.i .u8) 1 (.t 73) (.t 74)⟩,⟨some 17,none,.mv (.t 75)⟩])
  (.seq (.reg [0,1,19,11,2,5,6,13,33,12,14,15,68,3,17,16,4,91,10] [⟨some 76,none,.mv (.t 17)⟩,⟨some 77,none,.mv (.t 16)⟩,⟨some 78,none,.iaS 1 (.t 76) (.t 77)⟩,⟨some 79,none,.ld 1 false (.t 78)⟩,⟨some 80,none,.mv (.t 4)⟩,⟨some 81,none,.ar .xor .u8 (.t 79) (.t 80)⟩,⟨some 82,none,.iaS 1 (.t 76) (.t 77)⟩,⟨none,none,.st 1 (.t 82) (.t 81)⟩])
  (.seq (.reg [0,1,19,11,2,5,6,13,33,12,14,15,68,3,17,16,4,91,10] [⟨some 84,none,.ld 32 true (.t 5)⟩,⟨some 85,none,.mv (.t 17)⟩,⟨some 86,none,.call 70 true [((.t 84),.v),((.t 85),.b (.i .u8))]⟩,⟨some 83,none,.mv (.t 86)⟩,⟨some 87,none,.ext 0 (.t 83)⟩,⟨some 88,none,.ext 1 (.t 83)⟩,⟨some 89,none,.ext 2 (.t 83)⟩,⟨some 13,none,.mv (.t 89)⟩])
  (.seq (.seq (.reg [0,1,19,11,2,5,6,13,33,12,14,15,68,3,17,16,4,91,10] [⟨some 90,none,.mv (.t 4)⟩,⟨some 91,none,.cmp .eql (.t 90) (.c (.lit .u8 0))⟩])
  (.cond (.t 91)
    (.seq (.reg [0,1,19,11,2,5,6,13,33,12,14,15,68,3,17,16,4,91,10] [⟨some 92,none,.mv (.t 13)⟩,⟨some 93,none,.cmp .eql (.t 92) (.c (.lit .i64 0))⟩,⟨some 10,none,.mv (.t 93)⟩])
    .ret)
    .skip))
  (.seq (.reg [0,1,19,11,2,5,6,13,33,12,14,15,68,3,17,16,4,91,10] [⟨some 94,none,.mv (.t 13)⟩,⟨some 95,none,.cmp .eql (.t 94) (.c (.lit .i64 12))⟩,⟨some 96,none,.mv (.t 95)⟩,⟨some 97,some (96,false),.mv (.t 13)⟩,⟨some 98,some (96,false),.cmp .eql (.t 97) (.c (.lit .i64 13))⟩,⟨some 99,none,.pick (.t 96) (.c .tt) (.t 98)⟩,⟨some 100,none,.mv (.t 99)⟩,⟨some 101,some (100,false),.mv (.t 13)⟩,⟨some 102,some (100,false),.cmp .eql (.t 101) (.c (.lit .i64 0))⟩,⟨some 103,some (100,false),.mv (.t 102)⟩,⟨some 104,some (103,true),.ld 32 true (.t 5)⟩,⟨some 105,some (103,true),.mv (.t 17)⟩,⟨some 106,some (103,true),.call 74 true [((.t 104),.v),((.t 105),.b (.i .u8))]⟩,⟨some 107,some (100,false),.pick (.t 103) (.t 106) (.c .ff)⟩,⟨some 108,none,.pick (.t 100) (.c .tt) (.t 107)⟩,⟨some 10,none,.mv (.t 108)⟩])
  .ret))))))))))))))⟩
def ic64 : IFn := ⟨3,50,[.t 6,.t 7],
  (.seq (.reg [0,1,2,14,4,18,3,8,9,11,38,10,12,13,6,7] [⟨some 3,none,.box (.t 0)⟩,⟨some 4,none,.box (.t 1)⟩,⟨some 6,none,.mv (.c .nsl)⟩,⟨some 7,none,.mv (.c (.lit .i64 0))⟩])
  (.seq (.block 0 (.seq (.reg [0,1,2,14,4,18,3,8,9,11,38,10,12,13,6,7] [⟨some 15,none,.mv (.t 2)⟩,⟨some 16,none,.lenS (.t 15)⟩,⟨some 17,none,.cmp .neq (.t 16) (.c (.lit .i64 440))⟩,⟨some 14,none,.mv (.t 17)⟩])
  (.cond (.t 14)
    (.seq (.reg [0,1,2,14,4,18,3,8,9,11,38,10,12,13,6,7] [⟨some 6,none,.mv (.c .nsl)⟩,⟨some 7,none,.mv (.c (.lit .i64 3))⟩])
    .ret)
    (.seq (.reg [0,1,2,14,4,18,3,8,9,11,38,10,12,13,6,7] [⟨some 19,none,.ld 4 true (.t 4)⟩,⟨some 20,none,.call 129 true [((.t 19),.v)]⟩,⟨some 21,none,.not (.t 20)⟩,⟨some 18,none,.mv (.t 21)⟩])
    (.cond (.t 18)
      (.seq (.reg [0,1,2,14,4,18,3,8,9,11,38,10,12,13,6,7] [⟨some 6,none,.mv (.c .nsl)⟩,⟨some 7,none,.mv (.c (.lit .i64 2))⟩])
      .ret)
      .skip)))))
  (.seq (.reg [0,1,2,14,4,18,3,8,9,11,38,10,12,13,6,7] [⟨some 23,none,.ld 32 true (.t 3)⟩,⟨some 24,none,.call 130 true [((.t 23),.v)]⟩,⟨some 22,none,.mv (.t 24)⟩,⟨some 25,none,.ext 0 (.t 22)⟩,⟨some 26,none,.ext 1 (.t 22)⟩,⟨some 8,none,.alloc (.ints .u8 16)⟩,⟨some 9,none,.alloc (.ints .u8 32)⟩,⟨none,none,.st 16 (.t 8) (.t 25)⟩,⟨none,none,.st 32 (.t 9) (.t 26)⟩])
  (.seq (.reg [0,1,2,14,4,18,3,8,9,11,38,10,12,13,6,7] [⟨some 28,none,.ld 16 true (.t 8)⟩,⟨some 29,none,.fa 2 1 (.t 4)⟩,⟨some 30,none,.ld 1 false (.t 29)⟩,⟨some 31,none,.fa 3 1 (.t 4)⟩,⟨some 32,none,.ld 1 false (.t 31)⟩,⟨some 33,none,.mv (.t 2)⟩,⟨some 34,none,.call 131 true [((.t 28),.v),((.t 30),.v),((.t 32),.v),((.t 33),.b (.i .u8))]⟩,⟨some 27,none,.mv (.t 34)⟩,⟨some 35,none,.ext 0 (.t 27)⟩,⟨some 36,none,.ext 1 (.t 27)⟩,⟨some 10,none,.mv (.t 35)⟩,⟨some 11,none,.mv (.t 36)⟩])
  (.seq (.seq (.reg [0,1,2,14,4,18,3,8,9,11,38,10,12,13,6,7] [⟨some 37,none,.mv (.t 11)⟩,⟨some 38,none,.cmp .neq (.t 37) (.c (.lit .i64 0))⟩])
  (.cond (.t 38)
    (.seq (.reg [0,1,2,14,4,18,3,8,9,11,38,10,12,13,6,7] [⟨some 39,none,.mv (.t 11)⟩,⟨some 6,none,.mv (.c .nsl)⟩,⟨some 7,none,.mv (.t 39)⟩])
    .ret)
    .skip))
  (.seq (.reg [0,1,2,14,4,18,3,8,9,11,38,10,12,13,6,7] [⟨some 40,none,.ld 4 true (.t 4)⟩,⟨some 41,none,.call 132 true [((.t 40),.v)]⟩,⟨some 42,none,.mv (.t 10)⟩,⟨some 43,none,.app (.i .u8) 1 (.t 41) (.t 42)⟩,⟨some 12,none,.mv (.t 43)⟩])
  (.seq (.reg [0,1,2,14,4,18,3,8,9,11,38,10,12,13,6,7] [⟨some 44,none,.slA 32 1 (.t 9) none none⟩,⟨some 45,none,.mv (.t 12)⟩,⟨some 46,none,.call 120 true [((.t 44),.b (.i .u8)),((.t 45),.b (.i .u8))]⟩,⟨some 13,none,.alloc (.ints .u8 32)⟩,⟨none,none,.st 32 (.t 13) (.t 46)⟩])
  (.seq (.reg [0,1,2,14,4,18,3,8,9,11,38,10,12,13,6,7] [⟨some 47,none,.mv (.t 12)⟩,⟨some 48,none,.slA 32 1 (.t 13) none none⟩,⟨some 49,none,.app (.i .u8) 1 (.t 47) (.t 48)⟩,⟨some 6,none,.mv (.t 49)⟩,⟨some 7,none,.mv (.c (.lit .i64 0))⟩])
  .ret))))))))⟩
def ic65 : IFn := ⟨1,4,[.cell 2 4 true],
  (.seq (.reg [0,1,2] [⟨some 1,none,.box (.t 0)⟩,⟨some 2,none,.alloc (.cat 1 3 (.v (.lit .i64 0)) (.cat 1 2 (.v (.lit .i64 0)) (.cat 1 1 (.v (.lit .u64 0)) (.v (.lit .u64 0)))))⟩])
  (.seq (.reg [0,1,2] [⟨some 3,none,.ld 4 true (.t 1)⟩,⟨none,none,.st 4 (.t 2) (.t 3)⟩])
  .ret))⟩
def ic66 : IFn := ⟨3,28,[.t 6,.t 7],
  (.seq (.reg [0,1,2,11,4,14,3,8,6,7] [⟨some 3,none,.box (.t 0)⟩,⟨some 4,none,.box (.t 1)⟩,⟨some 6,none,.mv (.c .nsl)⟩,⟨some 7,none,.mv (.c (.lit .i64 0))⟩])
  (.seq (.seq (.reg [0,1,2,11,4,14,3,8,6,7] [⟨some 9,none,.mv (.t 2)⟩,⟨some 10,none,.lenS (.t 9)⟩,⟨some 11,none,.cmp .neq (.t 10) (.c (.lit .i64 440))⟩])
  (.cond (.t 11)
    (.seq (.reg [0,1,2,11,4,14,3,8,6,7] [⟨some 6,none,.mv (.c .nsl)⟩,⟨some 7,none,.mv (.c (.lit .i64 3))⟩])
    .ret)
    .skip))
  (.seq (.seq (.reg [0,1,2,11,4,14,3,8,6,7] [⟨some 12,none,.ld 4 true (.t 4)⟩,⟨some 13,none,.call 73 true [((.t 12),.v)]⟩,⟨some 14,none,.not (.t 13)⟩])
  (.cond (.t 14)
    (.seq (.reg [0,1,2,11,4,14,3,8,6,7] [⟨some 6,none,.mv (.c .nsl)⟩,⟨some 7,none,.mv (.c (.lit .i64 2))⟩])
    .ret)
    .skip))
  (.seq (.dreg [0,1,2,11,4,14,3,8,6,7] [⟨⟨some 15,none,.ld 4 true (.t 4)⟩,[],[],none⟩,⟨⟨some 16,none,.call 133 true [((.t 15),.v)]⟩,[],[],none⟩,⟨⟨some 17,none,.ld 32 true (.t 3)⟩,[16,10016,20016,30016,40016,50016,60016,70016,80016,90016],[],none⟩,⟨⟨some 18,none,.ld 4 true (.t 4)⟩,[16,10016,20016,30016,40016,50016,60016,70016,80016,90016],[],none⟩,⟨⟨some 19,none,.mv (.t 2)⟩,[16,10016,20016,30016,40016,50016,60016,70016,80016,90016],[],none⟩,⟨⟨some 20,none,.call 134 true [((.t 17),.v),((.t 18),.v),((.t 19),.b (.i .u8))]⟩,[],[],none⟩,⟨⟨some 21,none,.app (.i .u8) 1 (.t 16) (.t 20)⟩,[],[],none⟩,⟨⟨some 8,none,.mv (.t 21)⟩,[],[],none⟩])
  (.seq (.reg [0,1,2,11,4,14,3,8,6,7] [⟨some 22,none,.mv (.t 8)⟩,⟨some 23,none,.ld 32 true (.t 3)⟩,⟨some 24,none,.mv (.t 8)⟩,⟨some 25,none,.call 135 true [((.t 23),.v),((.t 24),.b (.i .u8))]⟩,⟨some 26,none,.s2b (.t 25)⟩,⟨some 27,none,.app (.i .u8) 1 (.t 22) (.t 26)⟩,⟨some 6,none,.mv (.t 27)⟩,⟨some 7,none,.mv (.c (.lit .i64 0))⟩])
  .ret)))))⟩
def ic67 : IFn := ⟨1,4,[.cell 2 4 true],
  (.seq (.reg [0,1,2] [⟨some 1,none,.box (.t 0)⟩,⟨some 2,none,.alloc (.cat 1 3 (.v (.lit .i64 0)) (.cat 1 2 (.v (.lit .i64 0)) (.cat 1 1 (.v (.lit .u64 0)) (.v (.lit .u64 0)))))⟩])
  (.seq (.reg [0,1,2] [⟨some 3,none,.ld 4 true (.t 1)⟩,⟨none,none,.st 4 (.t 2) (.t 3)⟩])
  .ret))⟩
def ic68 : IFn := ⟨0,71,[.t 0],
  (.seq (.reg [1,2,4,3,6,5,9,0] [⟨some 0,none,.mv (.c .ff)⟩])
  (.seq (.reg [1,2,4,3,6,5,9,0] [⟨some 10,none,.bldS (.cat 1 3 (.v (.lit .i64 0)) (.cat 1 2 (.v (.lit .i64 0)) (.cat 1 1 (.v (.lit .u64 0)) (.v (.lit .u64 0))))) [(0,1,(.c (.lit .i64 1))),(1,1,(.c (.lit .i64 3))),(2,1,(.c (.lit .u64 7))),(3,1,(.c (.lit .u64 9)))]⟩,⟨some 1,none,.alloc (.cat 1 3 (.v (.lit .i64 0)) (.cat 1 2 (.v (.lit .i64 0)) (.cat 1 1 (.v (.lit .u64 0)) (.v (.lit .u64 0)))))⟩,⟨none,none,.st 4 (.t 1) (.t 10)⟩])
  (.seq (.dreg [1,2,4,3,6,5,9,0] [⟨⟨some 12,none,.bldA (.i .u8) 32 [(0,(.c (.lit .u8 1)))]⟩,[14],[],none⟩,⟨⟨some 13,none,.ld 4 true (.t 1)⟩,[14],[],none⟩,⟨⟨some 14,none,.mks (.i .u8) 1 (.c (.lit .i64 440))⟩,[],[],none⟩,⟨⟨some 15,none,.call 64 true [((.t 12),.v),((.t 13),.v),((.t 14),.b (.i .u8))]⟩,[],[],none⟩,⟨⟨some 11,none,.mv (.t 15)⟩,[],[],none⟩,⟨⟨some 16,none,.ext 0 (.t 11)⟩,[],[],none⟩,⟨⟨some 17,none,.ext 1 (.t 11)⟩,[],[],none⟩,⟨⟨some 2,none,.mv (.t 16)⟩,[],[],none⟩,⟨⟨some 3,none,.mv (.t 17)⟩,[],[],none⟩])
  (.seq (.reg [1,2,4,3,6,5,9,0] [⟨some 19,none,.bldA (.i .u8) 32 [(0,(.c (.lit .u8 1)))]⟩,⟨some 20,none,.mv (.t 2)⟩,⟨some 21,none,.call 70 true [((.t 19),.v),((.t 20),.b (.i .u8))]⟩,⟨some 18,none,.mv (.t 21)⟩,⟨some 22,none,.ext 0 (.t 18)⟩,⟨some 23,none,.ext 1 (.t 18)⟩,⟨some 24,none,.ext 2 (.t 18)⟩,⟨some 4,none,.alloc (.cat 1 3 (.v (.lit .i64 0)) (.cat 1 2 (.v (.lit .i64 0)) (.cat 1 1 (.v (.lit .u64 0)) (.v (.lit .u64 0)))))⟩,⟨none,none,.st 4 (.t 4) (.t 22)⟩,⟨some 5,none,.mv (.t 23)⟩,⟨some 6,none,.mv (.t 24)⟩])
  (.seq (.reg [1,2,4,3,6,5,9,0] [⟨some 26,none,.bldA (.i .u8) 32 [(0,(.c (.lit .u8 2)))]⟩,⟨some 27,none,.mv (.t 2)⟩,⟨some 28,none,.call 70 true [((.t 26),.v),((.t 27),.b (.i .u8))]⟩,⟨some 25,none,.mv (.t 28)⟩,⟨some 29,none,.ext 0 (.t 25)⟩,⟨some 30,none,.ext 1 (.t 25)⟩,⟨some 31,none,.ext 2 (.t 25)⟩,⟨some 7,none,.alloc (.cat 1 3 (.v (.lit .i64 0)) (.cat 1 2 (.v (.lit .i64 0)) (.cat 1 1 (.v (.lit .u64 0)) (.v (.lit .u64 0)))))⟩,⟨none,none,.st 4 (.t 7) (.t 29)⟩,⟨some 8,none,.mv (.t 30)⟩,⟨some 9,none,.mv (.t 31)⟩])
  (.seq (.reg [1,2,4,3,6,5,9,0] [⟨some 32,none,.mv (.t 3)⟩,⟨some 33,none,.cmp .eql (.t 32) (.c (.lit .i64 0))⟩,⟨some 34,none,.mv (.t 33)⟩,⟨some 35,some (34,true),.mv (.t 6)⟩,⟨some 36,some (34,true),.cmp .eql (.t 35) (.c (.lit .i64 0))⟩,⟨some 37,none,.pick (.t 34) (.t 36) (.c .ff)⟩,⟨some 38,none,.mv (.t 37)⟩,⟨some 39,some (38,true),.ld 4 true (.t 4)⟩,⟨some 40,some (38,true),.ld 4 true (.t 1)⟩,⟨some 41,some (38,true),.eq (.z [.i .i64,.i .i64,.i .u64,.i .u64]) false (.t 39) (.t 40)⟩,⟨some 42,none,.pick (.t 38) (.t 41) (.c .ff)⟩,⟨some 43,none,.mv (.t 42)⟩,⟨some 44,some (43,true),.mv (.t 2)⟩,⟨some 45,some (43,true),.lenS (.t 44)⟩,⟨some 46,some (43,true),.cmp .eql (.t 45) (.c (.lit .i64 512))⟩,⟨some 47,none,.pick (.t 43) (.t 46) (.c .ff)⟩,⟨some 48,none,.mv (.t 47)⟩,⟨some 49,some (48,true),.mv (.t 5)⟩,⟨some 50,some (48,true),.lenS (.t 49)⟩,⟨some 51,some (48,true),.cmp .eql (.t 50) (.c (.lit .i64 440))⟩,⟨some 52,none,.pick (.t 48) (.t 51) (.c .ff)⟩,⟨some 53,none,.mv (.t 52)⟩,⟨some 54,some (53,true),.mv (.t 2)⟩,⟨some 55,some (53,true),.slS 1 (.t 54) none (some (.c (.lit .i64 4))) none⟩,⟨some 56,some (53,true),.b2s (.t 55)⟩,⟨some 57,some (53,true),.eq .s false (.t 56) (.c (.str [67,76,83,49]))⟩,⟨some 58,none,.pick (.t 53) (.t 57) (.c .ff)⟩,⟨some 59,none,.mv (.t 58)⟩,⟨some 60,some (59,true),.mv (.t 9)⟩,⟨some 61,some (59,true),.cmp .eql (.t 60) (.c (.lit .i64 13))⟩,⟨some 62,none,.pick (.t 59) (.t 61) (.c .ff)⟩,⟨some 63,none,.mv (.t 62)⟩,⟨some 64,none,.pick (.t 63) (.c .tt) (.c .ff)⟩,⟨some 65,none,.mv (.t 64)⟩,⟨some 66,none,.pick (.t 65) (.c .tt) (.c .ff)⟩,⟨some 67,none,.mv (.t 66)⟩,⟨some 68,none,.pick (.t 67) (.c .tt) (.c .ff)⟩,⟨some 69,none,.mv (.t 68)⟩,⟨some 70,none,.pick (.t 69) (.c .tt) (.c .ff)⟩,⟨some 0,none,.mv (.t 70)⟩])
  .ret))))))⟩
def ic69 : IFn := ⟨1,54,[.cell 2 4 true,.t 3],
  (.seq (.reg [0,11,2,4,6,7,8,35,5,51,3] [⟨some 2,none,.alloc (.cat 1 3 (.v (.lit .i64 0)) (.cat 1 2 (.v (.lit .i64 0)) (.cat 1 1 (.v (.lit .u64 0)) (.v (.lit .u64 0)))))⟩,⟨some 3,none,.mv (.c (.lit .i64 0))⟩])
  (.seq (.seq (.reg [0,11,2,4,6,7,8,35,5,51,3] [⟨some 9,none,.mv (.t 0)⟩,⟨some 10,none,.lenS (.t 9)⟩,⟨some 11,none,.cmp .neq (.t 10) (.c (.lit .i64 512))⟩])
  (.cond (.t 11)
    (.seq (.reg [0,11,2,4,6,7,8,35,5,51,3] [⟨some 12,none,.bldS (.cat 1 3 (.v (.lit .i64 0)) (.cat 1 2 (.v (.lit .i64 0)) (.cat 1 1 (.v (.lit .u64 0)) (.v (.lit .u64 0))))) []⟩,⟨none,none,.st 4 (.t 2) (.t 12)⟩,⟨some 3,none,.mv (.c (.lit .i64 3))⟩])
    .ret)
    .skip))
  (.seq (.reg [0,11,2,4,6,7,8,35,5,51,3] [⟨some 13,none,.mv (.t 0)⟩,⟨some 14,none,.slS 1 (.t 13) none (some (.c (.lit .i64 40))) none⟩,⟨some 15,none,.call 95 true [((.t 14),.b (.i .u8))]⟩,⟨some 4,none,.mv (.t 15)⟩])
  (.seq (.dreg [0,11,2,4,6,7,8,35,5,51,3] [⟨⟨some 16,none,.mv (.t 4)⟩,[],[],none⟩,⟨⟨some 17,none,.call 98 false [((.t 16),.v),((.c (.lit .i64 4)),.v)]⟩,[],[],none⟩,⟨⟨some 18,none,.b2s (.t 17)⟩,[20,10020,20020,30020,40020,50020,60020,70020,80020,90020,20,10020,20020,30020,40020,50020,60020,70020,80020,90020],[4],none⟩,⟨⟨some 19,none,.mv (.t 4)⟩,[17,10017,20017,30017,40017,50017,60017,70017,80017,90017],[],none⟩,⟨⟨some 20,none,.call 96 false [((.t 19),.v),((.c (.lit .i64 1)),.v)]⟩,[],[],some ([20,10020,20020,30020,40020,50020,60020,70020,80020,90020],[4])⟩,⟨⟨some 21,none,.cv .i64 (.t 20)⟩,[],[],none⟩,⟨⟨some 5,none,.mv (.t 18)⟩,[],[],none⟩,⟨⟨some 6,none,.mv (.t 21)⟩,[],[],none⟩])
  (.seq (.reg [0,11,2,4,6,7,8,35,5,51,3] [⟨some 22,none,.mv (.t 4)⟩,⟨some 23,none,.call 97 false [((.t 22),.v),((.c (.lit .i64 3)),.v)]⟩])
  (.seq (.reg [0,11,2,4,6,7,8,35,5,51,3] [⟨some 24,none,.mv (.t 6)⟩,⟨some 25,none,.mv (.t 4)⟩,⟨some 26,none,.call 96 false [((.t 25),.v),((.c (.lit .i64 8)),.v)]⟩,⟨some 27,none,.mv (.t 4)⟩,⟨some 28,none,.call 96 false [((.t 27),.v),((.c (.lit .i64 8)),.v)]⟩,⟨some 29,none,.bldS (.cat 1 3 (.v (.lit .i64 0)) (.cat 1 2 (.v (.lit .i64 0)) (.cat 1 1 (.v (.lit .u64 0)) (.v (.lit .u64 0))))) [(0,1,(.t 24)),(2,1,(.t 26)),(3,1,(.t 28))]⟩,⟨some 7,none,.alloc (.cat 1 3 (.v (.lit .i64 0)) (.cat 1 2 (.v (.lit .i64 0)) (.cat 1 1 (.v (.lit .u64 0)) (.v (.lit .u64 0)))))⟩,⟨none,none,.st 4 (.t 7) (.t 29)⟩])
  (.seq (.reg [0,11,2,4,6,7,8,35,5,51,3] [⟨some 30,none,.mv (.t 4)⟩,⟨some 31,none,.call 96 false [((.t 30),.v),((.c (.lit .i64 8)),.v)]⟩,⟨some 8,none,.mv (.t 31)⟩])
  (.seq (.reg [0,11,2,4,6,7,8,35,5,51,3] [⟨some 32,none,.mv (.t 4)⟩,⟨some 33,none,.call 97 false [((.t 32),.v),((.c (.lit .i64 8)),.v)]⟩])
  (.seq (.seq (.reg [0,11,2,4,6,7,8,35,5,51,3] [⟨some 34,none,.mv (.t 8)⟩,⟨some 35,none,.cmp .geq (.t 34) (.c (.lit .u64 256))⟩])
  (.cond (.t 35)
    (.seq (.reg [0,11,2,4,6,7,8,35,5,51,3] [⟨some 36,none,.bldS (.cat 1 3 (.v (.lit .i64 0)) (.cat 1 2 (.v (.lit .i64 0)) (.cat 1 1 (.v (.lit .u64 0)) (.v (.lit .u64 0))))) []⟩,⟨none,none,.st 4 (.t 2) (.t 36)⟩,⟨some 3,none,.mv (.c (.lit .i64 12))⟩])
    .ret)
    .skip))
  (.seq (.reg [0,11,2,4,6,7,8,35,5,51,3] [⟨some 37,none,.mv (.t 8)⟩,⟨some 38,none,.cv .i64 (.t 37)⟩,⟨some 39,none,.fa 1 1 (.t 7)⟩,⟨none,none,.st 1 (.t 39) (.t 38)⟩])
  (.seq (.seq (.reg [0,11,2,4,6,7,8,35,5,51,3] [⟨some 40,none,.mv (.t 4)⟩,⟨some 41,none,.call 99 true [((.t 40),.v)]⟩,⟨some 42,none,.cmp .neq (.t 41) (.c (.lit .i64 0))⟩,⟨some 43,none,.mv (.t 42)⟩,⟨some 44,some (43,false),.mv (.t 5)⟩,⟨some 45,some (43,false),.eq .s true (.t 44) (.c (.str [67,76,83,49]))⟩,⟨some 46,none,.pick (.t 43) (.c .tt) (.t 45)⟩,⟨some 47,none,.mv (.t 46)⟩,⟨some 48,some (47,false),.ld 4 true (.t 7)⟩,⟨some 49,some (47,false),.call 129 true [((.t 48),.v)]⟩,⟨some 50,some (47,false),.not (.t 49)⟩,⟨some 51,none,.pick (.t 47) (.c .tt) (.t 50)⟩])
  (.cond (.t 51)
    (.seq (.reg [0,11,2,4,6,7,8,35,5,51,3] [⟨some 52,none,.bldS (.cat 1 3 (.v (.lit .i64 0)) (.cat 1 2 (.v (.lit .i64 0)) (.cat 1 1 (.v (.lit .u64 0)) (.v (.lit .u64 0))))) []⟩,⟨none,none,.st 4 (.t 2) (.t 52)⟩,⟨some 3,none,.mv (.c (.lit .i64 12))⟩])
    .ret)
    .skip))
  (.seq (.reg [0,11,2,4,6,7,8,35,5,51,3] [⟨some 53,none,.ld 4 true (.t 7)⟩,⟨none,none,.st 4 (.t 2) (.t 53)⟩,⟨some 3,none,.mv (.c (.lit .i64 0))⟩])
  .ret))))))))))))⟩
def ic70 : IFn := ⟨2,55,[.cell 4 4 true,.t 5,.t 6],
  (.seq (.reg [0,1,7,8,20,4,2,9,10,11,12,38,13,5,6] [⟨some 2,none,.box (.t 0)⟩,⟨some 4,none,.alloc (.cat 1 3 (.v (.lit .i64 0)) (.cat 1 2 (.v (.lit .i64 0)) (.cat 1 1 (.v (.lit .u64 0)) (.v (.lit .u64 0)))))⟩,⟨some 5,none,.mv (.c .nsl)⟩,⟨some 6,none,.mv (.c (.lit .i64 0))⟩])
  (.seq (.reg [0,1,7,8,20,4,2,9,10,11,12,38,13,5,6] [⟨some 15,none,.mv (.t 1)⟩,⟨some 16,none,.call 69 true [((.t 15),.b (.i .u8))]⟩,⟨some 14,none,.mv (.t 16)⟩,⟨some 17,none,.ext 0 (.t 14)⟩,⟨some 18,none,.ext 1 (.t 14)⟩,⟨some 7,none,.alloc (.cat 1 3 (.v (.lit .i64 0)) (.cat 1 2 (.v (.lit .i64 0)) (.cat 1 1 (.v (.lit .u64 0)) (.v (.lit .u64 0)))))⟩,⟨none,none,.st 4 (.t 7) (.t 17)⟩,⟨some 8,none,.mv (.t 18)⟩])
  (.seq (.seq (.reg [0,1,7,8,20,4,2,9,10,11,12,38,13,5,6] [⟨some 19,none,.mv (.t 8)⟩,⟨some 20,none,.cmp .neq (.t 19) (.c (.lit .i64 0))⟩])
  (.cond (.t 20)
    (.seq (.reg [0,1,7,8,20,4,2,9,10,11,12,38,13,5,6] [⟨some 21,none,.bldS (.cat 1 3 (.v (.lit .i64 0)) (.cat 1 2 (.v (.lit .i64 0)) (.cat 1 1 (.v (.lit .u64 0)) (.v (.lit .u64 0))))) []⟩,⟨some 22,none,.mv (.t 8)⟩,⟨none,none,.st 4 (.t 4) (.t 21)⟩,⟨some 5,none,.mv (.c .nsl)⟩,⟨some 6,none,.mv (.t 22)⟩])
    .ret)
    .skip))
  (.seq (.reg [0,1,7,8,20,4,2,9,10,11,12,38,13,5,6] [⟨some 24,none,.ld 32 true (.t 2)⟩,⟨some 25,none,.call 130 true [((.t 24),.v)]⟩,⟨some 23,none,.mv (.t 25)⟩,⟨some 26,none,.ext 0 (.t 23)⟩,⟨some 27,none,.ext 1 (.t 23)⟩,⟨some 9,none,.alloc (.ints .u8 16)⟩,⟨some 10,none,.alloc (.ints .u8 32)⟩,⟨none,none,.st 16 (.t 9) (.t 26)⟩,⟨none,none,.st 32 (.t 10) (.t 27)⟩])
  (.seq (.reg [0,1,7,8,20,4,2,9,10,11,12,38,13,5,6] [⟨some 11,none,.mv (.c (.lit .i64 480))⟩])
  (.seq (.dreg [0,1,7,8,20,4,2,9,10,11,12,38,13,5,6] [⟨⟨some 28,none,.slA 32 1 (.t 10) none none⟩,[12],[],none⟩,⟨⟨some 29,none,.mv (.t 1)⟩,[12],[],none⟩,⟨⟨some 30,none,.mv (.t 11)⟩,[12],[],none⟩,⟨⟨some 31,none,.slS 1 (.t 29) none (some (.t 30)) none⟩,[12],[],none⟩,⟨⟨some 32,none,.call 120 true [((.t 28),.b (.i .u8)),((.t 31),.b (.i .u8))]⟩,[12],[],none⟩,⟨⟨some 12,none,.alloc (.ints .u8 32)⟩,[32,10032,20032,30032,40032,50032,60032,70032,80032,90032],[],none⟩,⟨⟨none,none,.st 32 (.t 12) (.t 32)⟩,[],[],none⟩])
  (.seq (.seq (.dreg [0,1,7,8,20,4,2,9,10,11,12,38,13,5,6] [⟨⟨some 33,none,.slA 32 1 (.t 12) none none⟩,[],[],none⟩,⟨⟨some 34,none,.mv (.t 1)⟩,[],[],none⟩,⟨⟨some 35,none,.mv (.t 11)⟩,[],[],none⟩,⟨⟨some 36,none,.slS 1 (.t 34) (some (.t 35)) none none⟩,[],[],none⟩,⟨⟨some 37,none,.call 90 true [((.t 33),.b (.i .u8)),((.t 36),.b (.i .u8))]⟩,[],[],none⟩,⟨⟨some 38,none,.not (.t 37)⟩,[],[],none⟩])
  (.cond (.t 38)
    (.seq (.reg [0,1,7,8,20,4,2,9,10,11,12,38,13,5,6] [⟨some 39,none,.bldS (.cat 1 3 (.v (.lit .i64 0)) (.cat 1 2 (.v (.lit .i64 0)) (.cat 1 1 (.v (.lit .u64 0)) (.v (.lit .u64 0))))) []⟩,⟨none,none,.st 4 (.t 4) (.t 39)⟩,⟨some 5,none,.mv (.c .nsl)⟩,⟨some 6,none,.mv (.c (.lit .i64 13))⟩])
    .ret)
    .skip))
  (.seq (.dreg [0,1,7,8,20,4,2,9,10,11,12,38,13,5,6] [⟨⟨some 41,none,.ld 16 true (.t 9)⟩,[],[],none⟩,⟨⟨some 42,none,.fa 2 1 (.t 7)⟩,[],[],none⟩,⟨⟨some 43,none,.ld 1 false (.t 42)⟩,[],[],none⟩,⟨⟨some 44,none,.fa 3 1 (.t 7)⟩,[],[],none⟩,⟨⟨some 45,none,.ld 1 false (.t 44)⟩,[],[],none⟩,⟨⟨some 46,none,.mv (.t 1)⟩,[],[],none⟩,⟨⟨some 47,none,.mv (.t 11)⟩,[],[],none⟩,⟨⟨some 48,none,.slS 1 (.t 46) (some (.c (.lit .i64 40))) (some (.t 47)) none⟩,[],[],none⟩,⟨⟨some 49,none,.call 131 true [((.t 41),.v),((.t 43),.v),((.t 45),.v),((.t 48),.b (.i .u8))]⟩,[],[],none⟩,⟨⟨some 40,none,.mv (.t 49)⟩,[],[],none⟩,⟨⟨some 50,none,.ext 0 (.t 40)⟩,[],[],none⟩,⟨⟨some 51,none,.ext 1 (.t 40)⟩,[],[],none⟩,⟨⟨some 13,none,.mv (.t 50)⟩,[],[],none⟩,⟨⟨some 8,none,.mv (.t 51)⟩,[],[],none⟩])
  (.seq (.reg [0,1,7,8,20,4,2,9,10,11,12,38,13,5,6] [⟨some 52,none,.ld 4 true (.t 7)⟩,⟨some 53,none,.mv (.t 13)⟩,⟨some 54,none,.mv (.t 8)⟩,⟨none,none,.st 4 (.t 4) (.t 52)⟩,⟨some 5,none,.mv (.t 53)⟩,⟨some 6,none,.mv (.t 54)⟩])
  .ret)))))))))⟩
def ic71 : IFn := ⟨1,52,[.cell 2 4 true,.t 3],
  (.seq (.reg [0,10,2,4,5,6,7,31,49,3] [⟨some 2,none,.alloc (.cat 1 3 (.v (.lit .i64 0)) (.cat 1 2 (.v (.lit .i64 0)) (.cat 1 1 (.v (.lit .u64 0)) (.v (.lit .u64 0)))))⟩,⟨some 3,none,.mv (.c (.lit .i64 0))⟩])
  (.seq (.seq (.reg [0,10,2,4,5,6,7,31,49,3] [⟨some 8,none,.mv (.t 0)⟩,⟨some 9,none,.lenS (.t 8)⟩,⟨some 10,none,.cmp .neq (.t 9) (.c (.lit .i64 512))⟩])
  (.cond (.t 10)
    (.seq (.reg [0,10,2,4,5,6,7,31,49,3] [⟨some 11,none,.bldS (.cat 1 3 (.v (.lit .i64 0)) (.cat 1 2 (.v (.lit .i64 0)) (.cat 1 1 (.v (.lit .u64 0)) (.v (.lit .u64 0))))) []⟩,⟨none,none,.st 4 (.t 2) (.t 11)⟩,⟨some 3,none,.mv (.c (.lit .i64 3))⟩])
    .ret)
    .skip))
  (.seq (.reg [0,10,2,4,5,6,7,31,49,3] [⟨some 12,none,.mv (.t 0)⟩,⟨some 13,none,.slS 1 (.t 12) (some (.c (.lit .i64 4))) (some (.c (.lit .i64 40))) none⟩,⟨some 14,none,.bldS (.cat 1 2 (.v .nsl) (.cat 1 1 (.v (.lit .i64 0)) (.v .ff))) [(0,1,(.t 13))]⟩,⟨some 15,none,.box (.t 14)⟩,⟨some 4,none,.mv (.t 15)⟩])
  (.seq (.reg [0,10,2,4,5,6,7,31,49,3] [⟨some 16,none,.mv (.t 4)⟩,⟨some 17,none,.call 101 false [((.t 16),.v),((.c (.lit .i64 1)),.v)]⟩,⟨some 5,none,.mv (.t 17)⟩])
  (.seq (.reg [0,10,2,4,5,6,7,31,49,3] [⟨some 18,none,.mv (.t 4)⟩,⟨some 19,none,.call 102 false [((.t 18),.v),((.c (.lit .i64 3)),.v)]⟩])
  (.seq (.reg [0,10,2,4,5,6,7,31,49,3] [⟨some 20,none,.mv (.t 5)⟩,⟨some 21,none,.mv (.t 4)⟩,⟨some 22,none,.call 100 false [((.t 21),.v),((.c (.lit .i64 8)),.v)]⟩,⟨some 23,none,.mv (.t 4)⟩,⟨some 24,none,.call 100 false [((.t 23),.v),((.c (.lit .i64 8)),.v)]⟩,⟨some 25,none,.bldS (.cat 1 3 (.v (.lit .i64 0)) (.cat 1 2 (.v (.lit .i64 0)) (.cat 1 1 (.v (.lit .u64 0)) (.v (.lit .u64 0))))) [(0,1,(.t 20)),(2,1,(.t 22)),(3,1,(.t 24))]⟩,⟨some 6,none,.alloc (.cat 1 3 (.v (.lit .i64 0)) (.cat 1 2 (.v (.lit .i64 0)) (.cat 1 1 (.v (.lit .u64 0)) (.v (.lit .u64 0)))))⟩,⟨none,none,.st 4 (.t 6) (.t 25)⟩])
  (.seq (.reg [0,10,2,4,5,6,7,31,49,3] [⟨some 26,none,.mv (.t 4)⟩,⟨some 27,none,.call 100 false [((.t 26),.v),((.c (.lit .i64 8)),.v)]⟩,⟨some 7,none,.mv (.t 27)⟩])
  (.seq (.reg [0,10,2,4,5,6,7,31,49,3] [⟨some 28,none,.mv (.t 4)⟩,⟨some 29,none,.call 102 false [((.t 28),.v),((.c (.lit .i64 8)),.v)]⟩])
  (.seq (.seq (.reg [0,10,2,4,5,6,7,31,49,3] [⟨some 30,none,.mv (.t 7)⟩,⟨some 31,none,.cmp .geq (.t 30) (.c (.lit .u64 256))⟩])
  (.cond (.t 31)
    (.seq (.reg [0,10,2,4,5,6,7,31,49,3] [⟨some 32,none,.bldS (.cat 1 3 (.v (.lit .i64 0)) (.cat 1 2 (.v (.lit .i64 0)) (.cat 1 1 (.v (.lit .u64 0)) (.v (.lit .u64 0))))) []⟩,⟨none,none,.st 4 (.t 2) (.t 32)⟩,⟨some 3,none,.mv (.c (.lit .i64 12))⟩])
    .ret)
    .skip))
  (.seq (.reg [0,10,2,4,5,6,7,31,49,3] [⟨some 33,none,.mv (.t 7)⟩,⟨some 34,none,.cv .i64 (.t 33)⟩,⟨some 35,none,.fa 1 1 (.t 6)⟩,⟨none,none,.st 1 (.t 35) (.t 34)⟩])
  (.seq (.seq (.reg [0,10,2,4,5,6,7,31,49,3] [⟨some 36,none,.mv (.t 4)⟩,⟨some 37,none,.call 104 true [((.t 36),.v)]⟩,⟨some 38,none,.cmp .neq (.t 37) (.c (.lit .i64 0))⟩,⟨some 39,none,.mv (.t 38)⟩,⟨some 40,some (39,false),.mv (.t 0)⟩,⟨some 41,some (39,false),.slS 1 (.t 40) none (some (.c (.lit .i64 4))) none⟩,⟨some 42,some (39,false),.b2s (.t 41)⟩,⟨some 43,some (39,false),.eq .s true (.t 42) (.c (.str [67,76,83,49]))⟩,⟨some 44,none,.pick (.t 39) (.c .tt) (.t 43)⟩,⟨some 45,none,.mv (.t 44)⟩,⟨some 46,some (45,false),.ld 4 true (.t 6)⟩,⟨some 47,some (45,false),.call 73 true [((.t 46),.v)]⟩,⟨some 48,some (45,false),.not (.t 47)⟩,⟨some 49,none,.pick (.t 45) (.c .tt) (.t 48)⟩])
  (.cond (.t 49)
    (.seq (.reg [0,10,2,4,5,6,7,31,49,3] [⟨some 50,none,.bldS (.cat 1 3 (.v (.lit .i64 0)) (.cat 1 2 (.v (.lit .i64 0)) (.cat 1 1 (.v (.lit .u64 0)) (.v (.lit .u64 0))))) []⟩,⟨none,none,.st 4 (.t 2) (.t 50)⟩,⟨some 3,none,.mv (.c (.lit .i64 12))⟩])
    .ret)
    .skip))
  (.seq (.reg [0,10,2,4,5,6,7,31,49,3] [⟨some 51,none,.ld 4 true (.t 6)⟩,⟨none,none,.st 4 (.t 2) (.t 51)⟩,⟨some 3,none,.mv (.c (.lit .i64 0))⟩])
  .ret))))))))))))⟩
def ic72 : IFn := ⟨2,29,[.cell 4 4 true,.t 5,.t 6],
  (.seq (.reg [0,1,7,8,15,4,2,21,5,6] [⟨some 2,none,.box (.t 0)⟩,⟨some 4,none,.alloc (.cat 1 3 (.v (.lit .i64 0)) (.cat 1 2 (.v (.lit .i64 0)) (.cat 1 1 (.v (.lit .u64 0)) (.v (.lit .u64 0)))))⟩,⟨some 5,none,.mv (.c .nsl)⟩,⟨some 6,none,.mv (.c (.lit .i64 0))⟩])
  (.seq (.reg [0,1,7,8,15,4,2,21,5,6] [⟨some 10,none,.mv (.t 1)⟩,⟨some 11,none,.call 71 true [((.t 10),.v)]⟩,⟨some 9,none,.mv (.t 11)⟩,⟨some 12,none,.ext 0 (.t 9)⟩,⟨some 13,none,.ext 1 (.t 9)⟩,⟨some 7,none,.alloc (.cat 1 3 (.v (.lit .i64 0)) (.cat 1 2 (.v (.lit .i64 0)) (.cat 1 1 (.v (.lit .u64 0)) (.v (.lit .u64 0)))))⟩,⟨none,none,.st 4 (.t 7) (.t 12)⟩,⟨some 8,none,.mv (.t 13)⟩])
  (.seq (.seq (.reg [0,1,7,8,15,4,2,21,5,6] [⟨some 14,none,.mv (.t 8)⟩,⟨some 15,none,.cmp .neq (.t 14) (.c (.lit .i64 0))⟩])
  (.cond (.t 15)
    (.seq (.reg [0,1,7,8,15,4,2,21,5,6] [⟨some 16,none,.bldS (.cat 1 3 (.v (.lit .i64 0)) (.cat 1 2 (.v (.lit .i64 0)) (.cat 1 1 (.v (.lit .u64 0)) (.v (.lit .u64 0))))) []⟩,⟨some 17,none,.mv (.t 8)⟩,⟨none,none,.st 4 (.t 4) (.t 16)⟩,⟨some 5,none,.mv (.c .nsl)⟩,⟨some 6,none,.mv (.t 17)⟩])
    .ret)
    .skip))
  (.seq (.seq (.reg [0,1,7,8,15,4,2,21,5,6] [⟨some 18,none,.ld 32 true (.t 2)⟩,⟨some 19,none,.mv (.t 1)⟩,⟨some 20,none,.call 74 true [((.t 18),.v),((.t 19),.b (.i .u8))]⟩,⟨some 21,none,.not (.t 20)⟩])
  (.cond (.t 21)
    (.seq (.reg [0,1,7,8,15,4,2,21,5,6] [⟨some 22,none,.bldS (.cat 1 3 (.v (.lit .i64 0)) (.cat 1 2 (.v (.lit .i64 0)) (.cat 1 1 (.v (.lit .u64 0)) (.v (.lit .u64 0))))) []⟩,⟨none,none,.st 4 (.t 4) (.t 22)⟩,⟨some 5,none,.mv (.c .nsl)⟩,⟨some 6,none,.mv (.c (.lit .i64 13))⟩])
    .ret)
    .skip))
  (.seq (.dreg [0,1,7,8,15,4,2,21,5,6] [⟨⟨some 23,none,.ld 4 true (.t 7)⟩,[28,10028,20028,30028,40028,50028,60028,70028,80028,90028],[],none⟩,⟨⟨some 24,none,.ld 32 true (.t 2)⟩,[],[],none⟩,⟨⟨some 25,none,.ld 4 true (.t 7)⟩,[],[],none⟩,⟨⟨some 26,none,.mv (.t 1)⟩,[],[],none⟩,⟨⟨some 27,none,.slS 1 (.t 26) (some (.c (.lit .i64 40))) (some (.c (.lit .i64 480))) none⟩,[],[],none⟩,⟨⟨some 28,none,.call 134 true [((.t 24),.v),((.t 25),.v),((.t 27),.b (.i .u8))]⟩,[],[],none⟩,⟨⟨none,none,.st 4 (.t 4) (.t 23)⟩,[],[],none⟩,⟨⟨some 5,none,.mv (.t 28)⟩,[],[],none⟩,⟨⟨some 6,none,.mv (.c (.lit .i64 0))⟩,[],[],none⟩])
  .ret)))))⟩
def ic73 : IFn := ⟨1,31,[.t 2],
  (.seq (.reg [0,1,2] [⟨some 1,none,.box (.t 0)⟩,⟨some 2,none,.mv (.c .ff)⟩])
  (.seq (.reg [0,1,2] [⟨some 3,none,.fa 0 1 (.t 1)⟩,⟨some 4,none,.ld 1 false (.t 3)⟩,⟨some 5,none,.cmp .geq (.t 4) (.c (.lit .i64 1))⟩,⟨some 6,none,.mv (.t 5)⟩,⟨some 7,some (6,true),.fa 0 1 (.t 1)⟩,⟨some 8,some (6,true),.ld 1 false (.t 7)⟩,⟨some 9,some (6,true),.cmp .leq (.t 8) (.c (.lit .i64 255))⟩,⟨some 10,none,.pick (.t 6) (.t 9) (.c .ff)⟩,⟨some 11,none,.mv (.t 10)⟩,⟨some 12,some (11,true),.fa 1 1 (.t 1)⟩,⟨some 13,some (11,true),.ld 1 false (.t 12)⟩,⟨some 14,some (11,true),.cmp .geq (.t 13) (.c (.lit .i64 0))⟩,⟨some 15,none,.pick (.t 11) (.t 14) (.c .ff)⟩,⟨some 16,none,.mv (.t 15)⟩,⟨some 17,some (16,true),.fa 1 1 (.t 1)⟩,⟨some 18,some (16,true),.ld 1 false (.t 17)⟩,⟨some 19,some (16,true),.cmp .lss (.t 18) (.c (.lit .i64 256))⟩,⟨some 20,none,.pick (.t 16) (.t 19) (.c .ff)⟩,⟨some 21,none,.mv (.t 20)⟩,⟨some 22,some (21,true),.fa 2 1 (.t 1)⟩,⟨some 23,some (21,true),.ld 1 false (.t 22)⟩,⟨some 24,some (21,true),.cmp .leq (.t 23) (.c (.lit .u64 281474976710655))⟩,⟨some 25,none,.pick (.t 21) (.t 24) (.c .ff)⟩,⟨some 26,none,.mv (.t 25)⟩,⟨some 27,some (26,true),.fa 3 1 (.t 1)⟩,⟨some 28,some (26,true),.ld 1 false (.t 27)⟩,⟨some 29,some (26,true),.cmp .leq (.t 28) (.c (.lit .u64 281474976710655))⟩,⟨some 30,none,.pick (.t 26) (.t 29) (.c .ff)⟩,⟨some 2,none,.mv (.t 30)⟩])
  .ret))⟩
def ic74 : IFn := ⟨2,12,[.t 4],
  (.seq (.reg [0,2,1,4] [⟨some 2,none,.box (.t 0)⟩,⟨some 4,none,.mv (.c .ff)⟩])
  (.seq (.dreg [0,2,1,4] [⟨⟨some 5,none,.ld 32 true (.t 2)⟩,[],[],none⟩,⟨⟨some 6,none,.mv (.t 1)⟩,[],[],none⟩,⟨⟨some 7,none,.call 135 true [((.t 5),.v),((.t 6),.b (.i .u8))]⟩,[],[],none⟩,⟨⟨some 8,none,.mv (.t 1)⟩,[7,10007,20007,30007,40007,50007,60007,70007,80007,90007],[],none⟩,⟨⟨some 9,none,.slS 1 (.t 8) (some (.c (.lit .i64 480))) none none⟩,[7,10007,20007,30007,40007,50007,60007,70007,80007,90007],[],none⟩,⟨⟨some 10,none,.b2s (.t 9)⟩,[7,10007,20007,30007,40007,50007,60007,70007,80007,90007],[],none⟩,⟨⟨some 11,none,.eq .s false (.t 7) (.t 10)⟩,[],[],none⟩,⟨⟨some 4,none,.mv (.t 11)⟩,[],[],none⟩])
  .ret))⟩
def ic129 : IFn := ⟨1,31,[.t 2],
  (.seq (.reg [0,1,2] [⟨some 1,none,.box (.t 0)⟩,⟨some 2,none,.mv (.c .ff)⟩])
  (.seq (.reg [0,1,2] [⟨some 3,none,.fa 0 1 (.t 1)⟩,⟨some 4,none,.ld 1 false (.t 3)⟩,⟨some 5,none,.cmp .geq (.t 4) (.c (.lit .i64 1))⟩,⟨some 6,none,.mv (.t 5)⟩,⟨some 7,some (6,true),.fa 0 1 (.t 1)⟩,⟨some 8,some (6,true),.ld 1 false (.t 7)⟩,⟨some 9,some (6,true),.cmp .leq (.t 8) (.c (.lit .i64 255))⟩,⟨some 10,none,.pick (.t 6) (.t 9) (.c .ff)⟩,⟨some 11,none,.mv (.t 10)⟩,⟨some 12,some (11,true),.fa 1 1 (.t 1)⟩,⟨some 13,some (11,true),.ld 1 false (.t 12)⟩,⟨some 14,some (11,true),.cmp .geq (.t 13) (.c (.lit .i64 0))⟩,⟨some 15,none,.pick (.t 11) (.t 14) (.c .ff)⟩,⟨some 16,none,.mv (.t 15)⟩,⟨some 17,some (16,true),.fa 1 1 (.t 1)⟩,⟨some 18,some (16,true),.ld 1 false (.t 17)⟩,⟨some 19,some (16,true),.cmp .lss (.t 18) (.c (.lit .i64 256))⟩,⟨some 20,none,.pick (.t 16) (.t 19) (.c .ff)⟩,⟨some 21,none,.mv (.t 20)⟩,⟨some 22,some (21,true),.fa 2 1 (.t 1)⟩,⟨some 23,some (21,true),.ld 1 false (.t 22)⟩,⟨some 24,some (21,true),.cmp .leq (.t 23) (.c (.lit .u64 281474976710655))⟩,⟨some 25,none,.pick (.t 21) (.t 24) (.c .ff)⟩,⟨some 26,none,.mv (.t 25)⟩,⟨some 27,some (26,true),.fa 3 1 (.t 1)⟩,⟨some 28,some (26,true),.ld 1 false (.t 27)⟩,⟨some 29,some (26,true),.cmp .leq (.t 28) (.c (.lit .u64 281474976710655))⟩,⟨some 30,none,.pick (.t 26) (.t 29) (.c .ff)⟩,⟨some 2,none,.mv (.t 30)⟩])
  .ret))⟩
def ic130 : IFn := ⟨1,12,[.cell 2 16 true,.cell 3 32 true],
  (.seq (.reg [0,1,4,2,3] [⟨some 1,none,.box (.t 0)⟩,⟨some 2,none,.alloc (.ints .u8 16)⟩,⟨some 3,none,.alloc (.ints .u8 32)⟩])
  (.seq (.reg [0,1,4,2,3] [⟨some 5,none,.ld 32 true (.t 1)⟩,⟨some 6,none,.call 119 true [((.t 5),.v),((.c (.str [99,105,112,104,101,114])),.v)]⟩,⟨some 4,none,.alloc (.ints .u8 32)⟩,⟨none,none,.st 32 (.t 4) (.t 6)⟩])
  (.seq (.dreg [0,1,4,2,3] [⟨⟨some 7,none,.slA 32 1 (.t 4) none (some (.c (.lit .i64 16)))⟩,[11,10011,20011,30011,40011,50011,60011,70011,80011,90011],[],none⟩,⟨⟨some 8,none,.s2a 16 1 (.t 7)⟩,[11,10011,20011,30011,40011,50011,60011,70011,80011,90011],[],none⟩,⟨⟨some 9,none,.ld 16 true (.t 8)⟩,[11,10011,20011,30011,40011,50011,60011,70011,80011,90011],[],none⟩,⟨⟨some 10,none,.ld 32 true (.t 1)⟩,[],[],none⟩,⟨⟨some 11,none,.call 119 true [((.t 10),.v),((.c (.str [115,101,97,108])),.v)]⟩,[],[],none⟩,⟨⟨none,none,.st 16 (.t 2) (.t 9)⟩,[],[],none⟩,⟨⟨none,none,.st 32 (.t 3) (.t 11)⟩,[],[],none⟩])
  .ret)))⟩
def ic131 : IFn := ⟨4,91,[.t 8,.t 9],
  (.seq (.reg [0,1,2,22,4,3,28,29,14,12,51,50,52,15,56,16,10,13,11,8,9] [⟨some 4,none,.box (.t 0)⟩,⟨some 8,none,.mv (.c .nsl)⟩,⟨some 9,none,.mv (.c (.lit .i64 0))⟩])
  (.seq (.seq (.reg [0,1,2,22,4,3,28,29,14,12,51,50,52,15,56,16,10,13,11,8,9] [⟨some 17,none,.mv (.t 1)⟩,⟨some 18,none,.cmp .gtr (.t 17) (.c (.lit .u64 281474976710655))⟩,⟨some 19,none,.mv (.t 18)⟩,⟨some 20,some (19,false),.mv (.t 2)⟩,⟨some 21,some (19,false),.cmp .gtr (.t 20) (.c (.lit .u64 281474976710655))⟩,⟨some 22,none,.pick (.t 19) (.c .tt) (.t 21)⟩])
  (.cond (.t 22)
    (.seq (.reg [0,1,2,22,4,3,28,29,14,12,51,50,52,15,56,16,10,13,11,8,9] [⟨some 8,none,.mv (.c .nsl)⟩,⟨some 9,none,.mv (.c (.lit .i64 2))⟩])
    .ret)
    .skip))
  (.seq (.reg [0,1,2,22,4,3,28,29,14,12,51,50,52,15,56,16,10,13,11,8,9] [⟨some 23,none,.ld 16 true (.t 4)⟩,⟨some 24,none,.call 147 true [((.t 23),.v)]⟩,⟨some 10,none,.mv (.t 24)⟩])
  (.seq (.reg [0,1,2,22,4,3,28,29,14,12,51,50,52,15,56,16,10,13,11,8,9] [⟨some 25,none,.mv (.t 3)⟩,⟨some 26,none,.lenS (.t 25)⟩,⟨some 27,none,.mks (.i .u8) 1 (.t 26)⟩,⟨some 11,none,.mv (.t 27)⟩])
  (.seq (.reg [0,1,2,22,4,3,28,29,14,12,51,50,52,15,56,16,10,13,11,8,9] [⟨some 12,none,.alloc (.ints .u8 16)⟩,⟨some 13,none,.alloc (.ints .u8 16)⟩])
  (.seq (.seq (.reg [0,1,2,22,4,3,28,29,14,12,51,50,52,15,56,16,10,13,11,8,9] [⟨some 28,none,.mv (.c (.lit .i64 0))⟩])
  (.block 0 (.loop 0 (.seq (.reg [0,1,2,22,4,3,28,29,14,12,51,50,52,15,56,16,10,13,11,8,9] [⟨some 29,none,.cmp .lss (.t 28) (.c (.lit .i64 6))⟩])
   (.seq (.cond (.t 29)
     .skip
     (.exit 0))
   (.seq (.block 1 (.seq (.reg [0,1,2,22,4,3,28,29,14,12,51,50,52,15,56,16,10,13,11,8,9] [⟨some 30,none,.mv (.t 28)⟩,⟨some 14,none,.mv (.t 30)⟩])
   (.dreg [0,1,2,22,4,3,28,29,14,12,51,50,52,15,56,16,10,13,11,8,9] [⟨⟨some 31,none,.mv (.t 14)⟩,[],[],none⟩,⟨⟨some 32,none,.mv (.t 14)⟩,[],[],none⟩,⟨⟨some 33,none,.ar .add .i64 (.c (.lit .i64 6)) (.t 32)⟩,[],[],none⟩,⟨⟨some 34,none,.mv (.t 1)⟩,[],[],none⟩,⟨⟨some 35,none,.mv (.t 14)⟩,[],[],none⟩,⟨⟨some 36,none,.ar .mul .i64 (.c (.lit .i64 8)) (.t 35)⟩,[],[],none⟩,⟨⟨some 37,none,.ar .sub .i64 (.c (.lit .i64 40)) (.t 36)⟩,[],[],none⟩,⟨⟨some 38,none,.shf .shr .u64 (.t 34) (.t 37)⟩,[],[],none⟩,⟨⟨some 39,none,.cv .u8 (.t 38)⟩,[],[],none⟩,⟨⟨some 40,none,.mv (.t 2)⟩,[],[],none⟩,⟨⟨some 41,none,.mv (.t 14)⟩,[],[],none⟩,⟨⟨some 42,none,.ar .mul .i64 (.c (.lit .i64 8)) (.t 41)⟩,[],[],none⟩,⟨⟨some 43,none,.ar .sub .i64 (.c (.lit .i64 40)) (.t 42)⟩,[],[],none⟩,⟨⟨some 44,none,.shf .shr .u64 (.t 40) (.t 43)⟩,[],[],none⟩,⟨⟨some 45,none,.cv .u8 (.t 44)⟩,[],[],none⟩,⟨⟨some 46,none,.iaA 16 1 (.t 12) (.t 31)⟩,[],[],none⟩,⟨⟨none,none,.st 1 (.t 46) (.t 39)⟩,[],[],none⟩,⟨⟨some 47,none,.iaA 16 1 (.t 12) (.t 33)⟩,[],[],none⟩,⟨⟨none,none,.st 1 (.t 47) (.t 45)⟩,[],[],none⟩])))
   (.reg [0,1,2,22,4,3,28,29,14,12,51,50,52,15,56,16,10,13,11,8,9] [⟨some 48,none,.ar .add .i64 (.t 28) (.c (.lit .i64 1))⟩,⟨some 28,none,.mv (.t 48)⟩])))))))
  (.seq (.seq (.reg [0,1,2,22,4,3,28,29,14,12,51,50,52,15,56,16,10,13,11,8,9] [⟨some 49,none,.mv (.t 3)⟩,⟨some 50,none,.lenS (.t 49)⟩,⟨some 51,none,.mv (.c (.lit .i64 0))⟩])
  (.block 2 (.loop 1 (.seq (.reg [0,1,2,22,4,3,28,29,14,12,51,50,52,15,56,16,10,13,11,8,9] [⟨some 52,none,.cmp .lss (.t 51) (.t 50)⟩])
   (.seq (.cond (.t 52)
     .skip
     (.exit 2))
   (.seq (.block 3 (.seq (.reg [0,1,2,22,4,3,28,29,14,12,51,50,52,15,56,16,10,13,11,8,9] [⟨some 53,none,.mv (.t 51)⟩,⟨some 15,none,.mv (.t 53)⟩])
   (.seq (.seq (.reg [0,1,2,22,4,3,28,29,14,12,51,50,52,15,56,16,10,13,11,8,9] [⟨some 54,none,.mv (.t 15)⟩,⟨some 55,none,.ar .rem .i64 (.t 54) (.c (.lit .i64 16))⟩,⟨some 56,none,.cmp .eql (.t 55) (.c (.lit .i64 0))⟩])
   (.cond (.t 56)
     (.seq (.reg [0,1,2,22,4,3,28,29,14,12,51,50,52,15,56,16,10,13,11,8,9] [⟨some 57,none,.mv (.t 15)⟩,⟨some 58,none,.ar .quo .i64 (.t 57) (.c (.lit .i64 16))⟩,⟨some 16,none,.mv (.t 58)⟩])
     (.seq (.reg [0,1,2,22,4,3,28,29,14,12,51,50,52,15,56,16,10,13,11,8,9] [⟨some 59,none,.mv (.t 16)⟩,⟨some 60,none,.shf .shr .i64 (.t 59) (.c (.lit .u64 24))⟩,⟨some 61,none,.cv .u8 (.t 60)⟩,⟨some 62,none,.mv (.t 16)⟩,⟨some 63,none,.shf .shr .i64 (.t 62) (.c (.lit .u64 16))⟩,⟨some 64,none,.cv .u8 (.t 63)⟩,⟨some 65,none,.mv (.t 16)⟩,⟨some 66,none,.shf .shr .i64 (.t 65) (.c (.lit .u64 8))⟩,⟨some 67,none,.cv .u8 (.t 66)⟩,⟨some 68,none,.mv (.t 16)⟩,⟨some 69,none,.cv .u8 (.t 68)⟩,⟨some 70,none,.iaA 16 1 (.t 12) (.c (.lit .i64 12))⟩,⟨none,none,.st 1 (.t 70) (.t 61)⟩,⟨some 71,none,.iaA 16 1 (.t 12) (.c (.lit .i64 13))⟩,⟨none,none,.st 1 (.t 71) (.t 64)⟩,⟨some 72,none,.iaA 16 1 (.t 12) (.c (.lit .i64 14))⟩,⟨none,none,.st 1 (.t 72) (.t 67)⟩,⟨some 73,none,.iaA 16 1 (.t 12) (.c (.lit .i64 15))⟩,⟨none,none,.st 1 (.t 73) (.t 69)⟩])
     (.reg [0,1,2,22,4,3,28,29,14,12,51,50,52,15,56,16,10,13,11,8,9] [⟨some 74,none,.mv (.t 10)⟩,⟨some 75,none,.ld 16 true (.t 12)⟩,⟨some 76,none,.call 148 false [((.t 74),.v),((.t 75),.v)]⟩,⟨none,none,.st 16 (.t 13) (.t 76)⟩])))
     .skip))
   (.dreg [0,1,2,22,4,3,28,29,14,12,51,50,52,15,56,16,10,13,11,8,9] [⟨⟨some 77,none,.mv (.t 11)⟩,[],[],none⟩,⟨⟨some 78,none,.mv (.t 15)⟩,[],[],none⟩,⟨⟨some 79,none,.mv (.t 3)⟩,[],[],none⟩,⟨⟨some 80,none,.mv (.t 15)⟩,[],[],none⟩,⟨⟨some 81,none,.iaS 1 (.t 79) (.t 80)⟩,[],[],none⟩,⟨⟨some 82,none,.ld 1 false (.t 81)⟩,[],[],none⟩,⟨⟨some 83,none,.mv (.t 15)⟩,[],[],none⟩,⟨⟨some 84,none,.ar .rem .i64 (.t 83) (.c (.lit .i64 16))⟩,[],[],none⟩,⟨⟨some 85,none,.iaA 16 1 (.t 13) (.t 84)⟩,[],[],none⟩,⟨⟨some 86,none,.ld 1 false (.t 85)⟩,[],[],none⟩,⟨⟨some 87,none,.ar .xor .u8 (.t 82) (.t 86)⟩,[],[],none⟩,⟨⟨some 88,none,.iaS 1 (.t 77) (.t 78)⟩,[],[],none⟩,⟨⟨none,none,.st 1 (.t 88) (.t 87)⟩,[],[],none⟩]))))
   (.reg [0,1,2,22,4,3,28,29,14,12,51,50,52,15,56,16,10,13,11,8,9] [⟨some 89,none,.ar .add .i64 (.t 51) (.c (.lit .i64 1))⟩,⟨some 51,none,.mv (.t 89)⟩])))))))
  (.seq (.reg [0,1,2,22,4,3,28,29,14,12,51,50,52,15,56,16,10,13,11,8,9] [⟨some 90,none,.mv (.t 11)⟩,⟨some 8,none,.mv (.t 90)⟩,⟨some 9,none,.mv (.c (.lit .i64 0))⟩])
  .ret))))))))⟩
def ic132 : IFn := ⟨1,38,[.t 2],
  (.seq (.reg [0,1,22,24,23,25,5,3,6,2] [⟨some 1,none,.box (.t 0)⟩,⟨some 2,none,.mv (.c .nsl)⟩])
  (.seq (.reg [0,1,22,24,23,25,5,3,6,2] [⟨some 8,none,.bsl (.i .u8) 4 [(0,(.c (.lit .u8 67))),(1,(.c (.lit .u8 76))),(2,(.c (.lit .u8 83))),(3,(.c (.lit .u8 49)))]⟩,⟨some 9,none,.mst (.t 8)⟩,⟨some 10,none,.fa 0 1 (.t 1)⟩,⟨some 11,none,.ld 1 false (.t 10)⟩,⟨some 12,none,.cv .u8 (.t 11)⟩,⟨some 13,none,.bsl (.i .u8) 4 [(0,(.t 12)),(1,(.c (.lit .u8 0))),(2,(.c (.lit .u8 0))),(3,(.c (.lit .u8 0)))]⟩,⟨some 14,none,.app (.i .u8) 1 (.t 9) (.t 13)⟩,⟨some 3,none,.mv (.t 14)⟩])
  (.seq (.seq (.reg [0,1,22,24,23,25,5,3,6,2] [⟨some 15,none,.fa 2 1 (.t 1)⟩,⟨some 16,none,.ld 1 false (.t 15)⟩,⟨some 17,none,.fa 3 1 (.t 1)⟩,⟨some 18,none,.ld 1 false (.t 17)⟩,⟨some 19,none,.fa 1 1 (.t 1)⟩,⟨some 20,none,.ld 1 false (.t 19)⟩,⟨some 21,none,.cv .u64 (.t 20)⟩,⟨some 22,none,.bsl (.i .u64) 4 [(0,(.t 16)),(1,(.t 18)),(2,(.t 21)),(3,(.c (.lit .u64 0)))]⟩,⟨some 23,none,.lenS (.t 22)⟩,⟨some 24,none,.mv (.c (.lit .i64 0))⟩])
  (.block 0 (.loop 0 (.seq (.reg [0,1,22,24,23,25,5,3,6,2] [⟨some 25,none,.cmp .lss (.t 24) (.t 23)⟩])
   (.seq (.cond (.t 25)
     .skip
     (.exit 0))
   (.seq (.block 1 (.seq (.reg [0,1,22,24,23,25,5,3,6,2] [⟨some 26,none,.iaS 1 (.t 22) (.t 24)⟩,⟨some 27,none,.ld 1 false (.t 26)⟩,⟨some 5,none,.mv (.t 27)⟩])
   (.seq (.reg [0,1,22,24,23,25,5,3,6,2] [⟨some 29,none,.mv (.t 5)⟩,⟨some 30,none,.call 107 true [((.t 29),.v),((.c (.lit .i64 8)),.v)]⟩,⟨some 28,none,.mv (.t 30)⟩,⟨some 31,none,.ext 0 (.t 28)⟩,⟨some 32,none,.ext 1 (.t 28)⟩,⟨some 6,none,.mv (.t 31)⟩,⟨some 7,none,.mv (.t 32)⟩])
   (.reg [0,1,22,24,23,25,5,3,6,2] [⟨some 33,none,.mv (.t 3)⟩,⟨some 34,none,.mv (.t 6)⟩,⟨some 35,none,.app (.i .u8) 1 (.t 33) (.t 34)⟩,⟨some 3,none,.mv (.t 35)⟩]))))
   (.reg [0,1,22,24,23,25,5,3,6,2] [⟨some 36,none,.ar .add .i64 (.t 24) (.c (.lit .i64 1))⟩,⟨some 24,none,.mv (.t 36)⟩])))))))
  (.seq (.reg [0,1,22,24,23,25,5,3,6,2] [⟨some 37,none,.mv (.t 3)⟩,⟨some 2,none,.mv (.t 37)⟩])
  .ret))))⟩
def ic133 : IFn := ⟨1,29,[.t 2],
  (.seq (.reg [0,1,3,2] [⟨some 1,none,.box (.t 0)⟩,⟨some 2,none,.mv (.c .nsl)⟩])
  (.seq (.reg [0,1,3,2] [⟨some 4,none,.bsl (.i .u8) 4 [(0,(.c (.lit .u8 67))),(1,(.c (.lit .u8 76))),(2,(.c (.lit .u8 83))),(3,(.c (.lit .u8 49)))]⟩,⟨some 5,none,.mst (.t 4)⟩,⟨some 6,none,.fa 0 1 (.t 1)⟩,⟨some 7,none,.ld 1 false (.t 6)⟩,⟨some 8,none,.cv .u8 (.t 7)⟩,⟨some 9,none,.bsl (.i .u8) 4 [(0,(.t 8)),(1,(.c (.lit .u8 0))),(2,(.c (.lit .u8 0))),(3,(.c (.lit .u8 0)))]⟩,⟨some 10,none,.app (.i .u8) 1 (.t 5) (.t 9)⟩,⟨some 3,none,.mv (.t 10)⟩])
  (.seq (.reg [0,1,3,2] [⟨some 11,none,.mv (.t 3)⟩,⟨some 12,none,.fa 2 1 (.t 1)⟩,⟨some 13,none,.ld 1 false (.t 12)⟩,⟨some 14,none,.call 113 true [((.t 13),.v),((.c (.lit .i64 8)),.v)]⟩,⟨some 15,none,.app (.i .u8) 1 (.t 11) (.t 14)⟩,⟨some 3,none,.mv (.t 15)⟩])
  (.seq (.reg [0,1,3,2] [⟨some 16,none,.mv (.t 3)⟩,⟨some 17,none,.fa 3 1 (.t 1)⟩,⟨some 18,none,.ld 1 false (.t 17)⟩,⟨some 19,none,.call 113 true [((.t 18),.v),((.c (.lit .i64 8)),.v)]⟩,⟨some 20,none,.app (.i .u8) 1 (.t 16) (.t 19)⟩,⟨some 3,none,.mv (.t 20)⟩])
  (.seq (.reg [0,1,3,2] [⟨some 21,none,.mv (.t 3)⟩,⟨some 22,none,.fa 1 1 (.t 1)⟩,⟨some 23,none,.ld 1 false (.t 22)⟩,⟨some 24,none,.cv .u64 (.t 23)⟩,⟨some 25,none,.call 113 true [((.t 24),.v),((.c (.lit .i64 8)),.v)]⟩,⟨some 26,none,.app (.i .u8) 1 (.t 21) (.t 25)⟩,⟨some 3,none,.mv (.t 26)⟩])
  (.seq (.reg [0,1,3,2] [⟨some 27,none,.mv (.t 3)⟩,⟨some 28,none,.appz (.i .u8) 1 (.t 27) (.c (.lit .i64 8))⟩,⟨some 2,none,.mv (.t 28)⟩])
  .ret))))))⟩
def ic134 : IFn := ⟨3,29,[.t 6],
  (.seq (.reg [0,1,3,7,9,13,8,4,2,6] [⟨some 3,none,.box (.t 0)⟩,⟨some 4,none,.box (.t 1)⟩,⟨some 6,none,.mv (.c .nsl)⟩])
  (.seq (.reg [0,1,3,7,9,13,8,4,2,6] [⟨some 10,none,.ld 32 true (.t 3)⟩,⟨some 11,none,.call 142 true [((.t 10),.v),((.c (.str [99,105,112,104,101,114])),.v)]⟩,⟨some 7,none,.alloc (.ints .u8 32)⟩,⟨none,none,.st 32 (.t 7) (.t 11)⟩])
  (.seq (.reg [0,1,3,7,9,13,8,4,2,6] [⟨some 8,none,.alloc (.ints .u8 16)⟩])
  (.seq (.seq (.reg [0,1,3,7,9,13,8,4,2,6] [⟨some 9,none,.mv (.c (.lit .i64 0))⟩])
  (.block 0 (.loop 0 (.seq (.seq (.reg [0,1,3,7,9,13,8,4,2,6] [⟨some 12,none,.mv (.t 9)⟩,⟨some 13,none,.cmp .lss (.t 12) (.c (.lit .i64 16))⟩])
   (.cond (.t 13)
     .skip
     (.exit 0)))
   (.seq (.block 1 (.reg [0,1,3,7,9,13,8,4,2,6] [⟨some 16,none,.mv (.t 9)⟩,⟨some 17,none,.mv (.t 9)⟩,⟨some 18,none,.iaA 32 1 (.t 7) (.t 17)⟩,⟨some 19,none,.ld 1 false (.t 18)⟩,⟨some 20,none,.iaA 16 1 (.t 8) (.t 16)⟩,⟨none,none,.st 1 (.t 20) (.t 19)⟩]))
   (.reg [0,1,3,7,9,13,8,4,2,6] [⟨some 14,none,.mv (.t 9)⟩,⟨some 15,none,.ar .add .i64 (.t 14) (.c (.lit .i64 1))⟩,⟨some 9,none,.mv (.t 15)⟩]))))))
  (.seq (.dreg [0,1,3,7,9,13,8,4,2,6] [⟨⟨some 21,none,.call 150 true []⟩,[],[],none⟩,⟨⟨some 22,none,.ld 16 true (.t 8)⟩,[21,10021,20021,30021,40021,50021,60021,70021,80021,90021],[],none⟩,⟨⟨some 23,none,.fa 2 1 (.t 4)⟩,[21,10021,20021,30021,40021,50021,60021,70021,80021,90021],[],none⟩,⟨⟨some 24,none,.ld 1 false (.t 23)⟩,[21,10021,20021,30021,40021,50021,60021,70021,80021,90021],[],none⟩,⟨⟨some 25,none,.fa 3 1 (.t 4)⟩,[21,10021,20021,30021,40021,50021,60021,70021,80021,90021],[],none⟩,⟨⟨some 26,none,.ld 1 false (.t 25)⟩,[21,10021,20021,30021,40021,50021,60021,70021,80021,90021],[],none⟩,⟨⟨some 27,none,.mv (.t 2)⟩,[21,10021,20021,30021,40021,50021,60021,70021,80021,90021],[],none⟩,⟨⟨some 28,none,.call 149 true [((.t 21),.b (.i .u8)),((.t 22),.v),((.t 24),.v),((.t 26),.v),((.t 27),.b (.i .u8))]⟩,[],[],none⟩,⟨⟨some 6,none,.mv (.t 28)⟩,[],[],none⟩])
  .ret)))))⟩
def ic135 : IFn := ⟨2,15,[.t 4],
  (.seq (.reg [0,2,5,1,6,4] [⟨some 2,none,.box (.t 0)⟩,⟨some 4,none,.mv (.c (.str []))⟩])
  (.seq (.reg [0,2,5,1,6,4] [⟨some 7,none,.ld 32 true (.t 2)⟩,⟨some 8,none,.call 142 true [((.t 7),.v),((.c (.str [115,101,97,108])),.v)]⟩,⟨some 5,none,.alloc (.ints .u8 32)⟩,⟨none,none,.st 32 (.t 5) (.t 8)⟩])
  (.seq (.dreg [0,2,5,1,6,4] [⟨⟨some 9,none,.slA 32 1 (.t 5) none none⟩,[6],[],none⟩,⟨⟨some 10,none,.mv (.t 1)⟩,[6],[],none⟩,⟨⟨some 11,none,.slS 1 (.t 10) none (some (.c (.lit .i64 480))) none⟩,[6],[],none⟩,⟨⟨some 12,none,.call 141 true [((.t 9),.b (.i .u8)),((.t 11),.b (.i .u8))]⟩,[6],[],none⟩,⟨⟨some 6,none,.alloc (.ints .u8 32)⟩,[12,10012,20012,30012,40012,50012,60012,70012,80012,90012],[],none⟩,⟨⟨none,none,.st 32 (.t 6) (.t 12)⟩,[],[],none⟩])
  (.seq (.reg [0,2,5,1,6,4] [⟨some 13,none,.slA 32 1 (.t 6) none none⟩,⟨some 14,none,.b2s (.t 13)⟩,⟨some 4,none,.mv (.t 14)⟩])
  .ret))))⟩
def ic147 : IFn := ⟨1,100,[.t 2],
  (.seq (.reg [0,12,13,3,4,1,6,29,7,41,5,75,76,8,2] [⟨some 1,none,.box (.t 0)⟩,⟨some 2,none,.mv (.c .nilp)⟩])
  (.seq (.reg [0,12,13,3,4,1,6,29,7,41,5,75,76,8,2] [⟨some 9,none,.call 153 true []⟩,⟨some 10,none,.bldS (.cat 256 176 (.ints .u8 256) (.rows 4 44 (.ints .u8 4))) [(0,256,(.t 9))]⟩,⟨some 11,none,.box (.t 10)⟩,⟨some 3,none,.mv (.t 11)⟩])
  (.seq (.seq (.reg [0,12,13,3,4,1,6,29,7,41,5,75,76,8,2] [⟨some 12,none,.mv (.c (.lit .i64 0))⟩])
  (.block 0 (.loop 0 (.seq (.reg [0,12,13,3,4,1,6,29,7,41,5,75,76,8,2] [⟨some 13,none,.cmp .lss (.t 12) (.c (.lit .i64 16))⟩])
   (.seq (.cond (.t 13)
     .skip
     (.exit 0))
   (.seq (.block 1 (.seq (.reg [0,12,13,3,4,1,6,29,7,41,5,75,76,8,2] [⟨some 14,none,.mv (.t 12)⟩,⟨some 4,none,.mv (.t 14)⟩])
   (.dreg [0,12,13,3,4,1,6,29,7,41,5,75,76,8,2] [⟨⟨some 15,none,.mv (.t 3)⟩,[],[],none⟩,⟨⟨some 16,none,.mv (.t 4)⟩,[],[],none⟩,⟨⟨some 17,none,.ar .quo .i64 (.t 16) (.c (.lit .i64 4))⟩,[],[],none⟩,⟨⟨some 18,none,.mv (.t 4)⟩,[],[],none⟩,⟨⟨some 19,none,.ar .rem .i64 (.t 18) (.c (.lit .i64 4))⟩,[],[],none⟩,⟨⟨some 20,none,.mv (.t 4)⟩,[],[],none⟩,⟨⟨some 21,none,.iaA 16 1 (.t 1) (.t 20)⟩,[],[],none⟩,⟨⟨some 22,none,.ld 1 false (.t 21)⟩,[],[],none⟩,⟨⟨some 23,none,.nck (.t 15)⟩,[],[],none⟩,⟨⟨some 24,none,.fa 256 176 (.t 23)⟩,[],[],none⟩,⟨⟨some 25,none,.iaA 44 4 (.t 24) (.t 17)⟩,[],[],none⟩,⟨⟨some 26,none,.iaA 4 1 (.t 25) (.t 19)⟩,[],[],none⟩,⟨⟨none,none,.st 1 (.t 26) (.t 22)⟩,[],[],none⟩])))
   (.reg [0,12,13,3,4,1,6,29,7,41,5,75,76,8,2] [⟨some 27,none,.ar .add .i64 (.t 12) (.c (.lit .i64 1))⟩,⟨some 12,none,.mv (.t 27)⟩])))))))
  (.seq (.reg [0,12,13,3,4,1,6,29,7,41,5,75,76,8,2] [⟨some 5,none,.mv (.c (.lit .u8 1))⟩])
  (.seq (.seq (.reg [0,12,13,3,4,1,6,29,7,41,5,75,76,8,2] [⟨some 6,none,.mv (.c (.lit .i64 4))⟩])
  (.block 2 (.loop 1 (.seq (.seq (.reg [0,12,13,3,4,1,6,29,7,41,5,75,76,8,2] [⟨some 28,none,.mv (.t 6)⟩,⟨some 29,none,.cmp .lss (.t 28) (.c (.lit .i64 44))⟩])
   (.cond (.t 29)
     .skip
     (.exit 2)))
   (.seq (.block 3 (.seq (.reg [0,12,13,3,4,1,6,29,7,41,5,75,76,8,2] [⟨some 32,none,.mv (.t 3)⟩,⟨some 33,none,.mv (.t 6)⟩,⟨some 34,none,.ar .sub .i64 (.t 33) (.c (.lit .i64 1))⟩,⟨some 35,none,.nck (.t 32)⟩,⟨some 36,none,.fa 256 176 (.t 35)⟩,⟨some 37,none,.iaA 44 4 (.t 36) (.t 34)⟩,⟨some 38,none,.ld 4 true (.t 37)⟩,⟨some 7,none,.alloc (.ints .u8 4)⟩,⟨none,none,.st 4 (.t 7) (.t 38)⟩])
   (.seq (.seq (.reg [0,12,13,3,4,1,6,29,7,41,5,75,76,8,2] [⟨some 39,none,.mv (.t 6)⟩,⟨some 40,none,.ar .rem .i64 (.t 39) (.c (.lit .i64 4))⟩,⟨some 41,none,.cmp .eql (.t 40) (.c (.lit .i64 0))⟩])
   (.cond (.t 41)
     (.seq (.dreg [0,12,13,3,4,1,6,29,7,41,5,75,76,8,2] [⟨⟨some 42,none,.mv (.t 3)⟩,[],[],none⟩,⟨⟨some 43,none,.iaA 4 1 (.t 7) (.c (.lit .i64 1))⟩,[],[],none⟩,⟨⟨some 44,none,.ld 1 false (.t 43)⟩,[],[],none⟩,⟨⟨some 45,none,.nck (.t 42)⟩,[],[],none⟩,⟨⟨some 46,none,.fa 0 256 (.t 45)⟩,[],[],none⟩,⟨⟨some 47,none,.iaA 256 1 (.t 46) (.t 44)⟩,[],[],none⟩,⟨⟨some 48,none,.ld 1 false (.t 47)⟩,[],[],none⟩,⟨⟨some 49,none,.mv (.t 5)⟩,[],[],none⟩,⟨⟨some 50,none,.ar .xor .u8 (.t 48) (.t 49)⟩,[],[],none⟩,⟨⟨some 51,none,.mv (.t 3)⟩,[],[],none⟩,⟨⟨some 52,none,.iaA 4 1 (.t 7) (.c (.lit .i64 2))⟩,[],[],none⟩,⟨⟨some 53,none,.ld 1 false (.t 52)⟩,[],[],none⟩,⟨⟨some 54,none,.nck (.t 51)⟩,[],[],none⟩,⟨⟨some 55,none,.fa 0 256 (.t 54)⟩,[],[],none⟩,⟨⟨some 56,none,.iaA 256 1 (.t 55) (.t 53)⟩,[],[],none⟩,⟨⟨some 57,none,.ld 1 false (.t 56)⟩,[],[],none⟩,⟨⟨some 58,none,.mv (.t 3)⟩,[],[],none⟩,⟨⟨some 59,none,.iaA 4 1 (.t 7) (.c (.lit .i64 3))⟩,[],[],none⟩,⟨⟨some 60,none,.ld 1 false (.t 59)⟩,[],[],none⟩,⟨⟨some 61,none,.nck (.t 58)⟩,[],[],none⟩,⟨⟨some 62,none,.fa 0 256 (.t 61)⟩,[],[],none⟩,⟨⟨some 63,none,.iaA 256 1 (.t 62) (.t 60)⟩,[],[],none⟩,⟨⟨some 64,none,.ld 1 false (.t 63)⟩,[],[],none⟩,⟨⟨some 65,none,.mv (.t 3)⟩,[],[],none⟩,⟨⟨some 66,none,.iaA 4 1 (.t 7) (.c (.lit .i64 0))⟩,[],[],none⟩,⟨⟨some 67,none,.ld 1 false (.t 66)⟩,[],[],none⟩,⟨⟨some 68,none,.nck (.t 65)⟩,[],[],none⟩,⟨⟨some 69,none,.fa 0 256 (.t 68)⟩,[],[],none⟩,⟨⟨some 70,none,.iaA 256 1 (.t 69) (.t 67)⟩,[],[],none⟩,⟨⟨some 71,none,.ld 1 false (.t 70)⟩,[],[],none⟩,⟨⟨some 72,none,.bldA (.i .u8) 4 [(0,(.t 50)),(1,(.t 57)),(2,(.t 64)),(3,(.t 71))]⟩,[],[],none⟩,⟨⟨none,none,.st 4 (.t 7) (.t 72)⟩,[],[],none⟩])
     (.reg [0,12,13,3,4,1,6,29,7,41,5,75,76,8,2] [⟨some 73,none,.mv (.t 5)⟩,⟨some 74,none,.call 154 true [((.t 73),.v)]⟩,⟨some 5,none,.mv (.t 74)⟩]))
     .skip))
   (.seq (.reg [0,12,13,3,4,1,6,29,7,41,5,75,76,8,2] [⟨some 75,none,.mv (.c (.lit .i64 0))⟩])
   (.block 4 (.loop 2 (.seq (.reg [0,12,13,3,4,1,6,29,7,41,5,75,76,8,2] [⟨some 76,none,.cmp .lss (.t 75) (.c (.lit .i64 4))⟩])
    (.seq (.cond (.t 76)
      .skip
      (.exit 4))
    (.seq (.block 5 (.seq (.reg [0,12,13,3,4,1,6,29,7,41,5,75,76,8,2] [⟨some 77,none,.mv (.t 75)⟩,⟨some 8,none,.mv (.t 77)⟩])
    (.dreg [0,12,13,3,4,1,6,29,7,41,5,75,76,8,2] [⟨⟨some 78,none,.mv (.t 3)⟩,[],[],none⟩,⟨⟨some 79,none,.mv (.t 6)⟩,[],[],none⟩,⟨⟨some 80,none,.mv (.t 8)⟩,[],[],none⟩,⟨⟨some 81,none,.mv (.t 3)⟩,[],[],none⟩,⟨⟨some 82,none,.mv (.t 6)⟩,[],[],none⟩,⟨⟨some 83,none,.ar .sub .i64 (.t 82) (.c (.lit .i64 4))⟩,[],[],none⟩,⟨⟨some 84,none,.mv (.t 8)⟩,[],[],none⟩,⟨⟨some 85,none,.nck (.t 81)⟩,[],[],none⟩,⟨⟨some 86,none,.fa 256 176 (.t 85)⟩,[],[],none⟩,⟨⟨some 87,none,.iaA 44 4 (.t 86) (.t 83)⟩,[],[],none⟩,⟨⟨some 88,none,.iaA 4 1 (.t 87) (.t 84)⟩,[],[],none⟩,⟨⟨some 89,none,.ld 1 false (.t 88)⟩,[],[],none⟩,⟨⟨some 90,none,.mv (.t 8)⟩,[],[],none⟩,⟨⟨some 91,none,.iaA 4 1 (.t 7) (.t 90)⟩,[],[],none⟩,⟨⟨some 92,none,.ld 1 false (.t 91)⟩,[],[],none⟩,⟨⟨some 93,none,.ar .xor .u8 (.t 89) (.t 92)⟩,[],[],none⟩,⟨⟨some 94,none,.nck (.t 78)⟩,[],[],none⟩,⟨⟨some 95,none,.fa 256 176 (.t 94)⟩,[],[],none⟩,⟨⟨some 96,none,.iaA 44 4 (.t 95) (.t 79)⟩,[],[],none⟩,⟨⟨some 97,none,.iaA 4 1 (.t 96) (.t 80)⟩,[],[],none⟩,⟨⟨none,none,.st 1 (.t 97) (.t 93)⟩,[],[],none⟩])))
    (.reg [0,12,13,3,4,1,6,29,7,41,5,75,76,8,2] [⟨some 98,none,.ar .add .i64 (.t 75) (.c (.lit .i64 1))⟩,⟨some 75,none,.mv (.t 98)⟩]))))))))))
   (.reg [0,12,13,3,4,1,6,29,7,41,5,75,76,8,2] [⟨some 30,none,.mv (.t 6)⟩,⟨some 31,none,.ar .add .i64 (.t 30) (.c (.lit .i64 1))⟩,⟨some 6,none,.mv (.t 31)⟩]))))))
  (.seq (.reg [0,12,13,3,4,1,6,29,7,41,5,75,76,8,2] [⟨some 99,none,.mv (.t 3)⟩,⟨some 2,none,.mv (.t 99)⟩])
  .ret))))))⟩
def ic148 : IFn := ⟨2,50,[.cell 4 16 true],
  (.seq (.reg [1,0,3,5,12,15,16,7,6,35,8,37,4] [⟨some 3,none,.box (.t 1)⟩,⟨some 4,none,.alloc (.ints .u8 16)⟩])
  (.seq (.reg [1,0,3,5,12,15,16,7,6,35,8,37,4] [⟨some 9,none,.mv (.t 0)⟩,⟨some 10,none,.call 155 false [((.t 9),.v),((.t 3),.v),((.c (.lit .i64 0)),.v)]⟩])
  (.seq (.seq (.reg [1,0,3,5,12,15,16,7,6,35,8,37,4] [⟨some 5,none,.mv (.c (.lit .i64 1))⟩])
  (.block 0 (.loop 0 (.seq (.seq (.reg [1,0,3,5,12,15,16,7,6,35,8,37,4] [⟨some 11,none,.mv (.t 5)⟩,⟨some 12,none,.cmp .leq (.t 11) (.c (.lit .i64 10))⟩])
   (.cond (.t 12)
     .skip
     (.exit 0)))
   (.seq (.block 1 (.seq (.reg [1,0,3,5,12,15,16,7,6,35,8,37,4] [⟨some 6,none,.alloc (.ints .u8 16)⟩])
   (.seq (.seq (.reg [1,0,3,5,12,15,16,7,6,35,8,37,4] [⟨some 15,none,.mv (.c (.lit .i64 0))⟩])
   (.block 2 (.loop 1 (.seq (.reg [1,0,3,5,12,15,16,7,6,35,8,37,4] [⟨some 16,none,.cmp .lss (.t 15) (.c (.lit .i64 16))⟩])
    (.seq (.cond (.t 16)
      .skip
      (.exit 2))
    (.seq (.block 3 (.seq (.reg [1,0,3,5,12,15,16,7,6,35,8,37,4] [⟨some 17,none,.mv (.t 15)⟩,⟨some 7,none,.mv (.t 17)⟩])
    (.dreg [1,0,3,5,12,15,16,7,6,35,8,37,4] [⟨⟨some 18,none,.mv (.t 7)⟩,[],[],none⟩,⟨⟨some 19,none,.mv (.t 0)⟩,[],[],none⟩,⟨⟨some 20,none,.mv (.t 7)⟩,[],[],none⟩,⟨⟨some 21,none,.mv (.t 7)⟩,[],[],none⟩,⟨⟨some 22,none,.ar .rem .i64 (.t 21) (.c (.lit .i64 4))⟩,[],[],none⟩,⟨⟨some 23,none,.ar .mul .i64 (.c (.lit .i64 4)) (.t 22)⟩,[],[],none⟩,⟨⟨some 24,none,.ar .add .i64 (.t 20) (.t 23)⟩,[],[],none⟩,⟨⟨some 25,none,.ar .rem .i64 (.t 24) (.c (.lit .i64 16))⟩,[],[],none⟩,⟨⟨some 26,none,.iaA 16 1 (.t 3) (.t 25)⟩,[],[],none⟩,⟨⟨some 27,none,.ld 1 false (.t 26)⟩,[],[],none⟩,⟨⟨some 28,none,.nck (.t 19)⟩,[],[],none⟩,⟨⟨some 29,none,.fa 0 256 (.t 28)⟩,[],[],none⟩,⟨⟨some 30,none,.iaA 256 1 (.t 29) (.t 27)⟩,[],[],none⟩,⟨⟨some 31,none,.ld 1 false (.t 30)⟩,[],[],none⟩,⟨⟨some 32,none,.iaA 16 1 (.t 6) (.t 18)⟩,[],[],none⟩,⟨⟨none,none,.st 1 (.t 32) (.t 31)⟩,[],[],none⟩])))
    (.reg [1,0,3,5,12,15,16,7,6,35,8,37,4] [⟨some 33,none,.ar .add .i64 (.t 15) (.c (.lit .i64 1))⟩,⟨some 15,none,.mv (.t 33)⟩])))))))
   (.seq (.seq (.reg [1,0,3,5,12,15,16,7,6,35,8,37,4] [⟨some 34,none,.mv (.t 5)⟩,⟨some 35,none,.cmp .lss (.t 34) (.c (.lit .i64 10))⟩])
   (.cond (.t 35)
     (.seq (.reg [1,0,3,5,12,15,16,7,6,35,8,37,4] [⟨some 8,none,.mv (.c (.lit .i64 0))⟩])
     (.block 4 (.loop 2 (.seq (.seq (.reg [1,0,3,5,12,15,16,7,6,35,8,37,4] [⟨some 36,none,.mv (.t 8)⟩,⟨some 37,none,.cmp .lss (.t 36) (.c (.lit .i64 16))⟩])
      (.cond (.t 37)
        .skip
        (.exit 4)))
      (.seq (.block 5 (.reg [1,0,3,5,12,15,16,7,6,35,8,37,4] [⟨some 40,none,.mv (.t 8)⟩,⟨some 41,none,.mv (.t 8)⟩,⟨some 42,none,.ar .add .i64 (.t 41) (.c (.lit .i64 4))⟩,⟨some 43,none,.slA 16 1 (.t 6) (some (.t 40)) (some (.t 42))⟩,⟨some 44,none,.call 156 false [((.t 43),.w (.i .u8))]⟩]))
      (.reg [1,0,3,5,12,15,16,7,6,35,8,37,4] [⟨some 38,none,.mv (.t 8)⟩,⟨some 39,none,.ar .add .i64 (.t 38) (.c (.lit .i64 4))⟩,⟨some 8,none,.mv (.t 39)⟩]))))))
     .skip))
   (.seq (.reg [1,0,3,5,12,15,16,7,6,35,8,37,4] [⟨some 45,none,.ld 16 true (.t 6)⟩,⟨none,none,.st 16 (.t 3) (.t 45)⟩])
   (.reg [1,0,3,5,12,15,16,7,6,35,8,37,4] [⟨some 46,none,.mv (.t 0)⟩,⟨some 47,none,.mv (.t 5)⟩,⟨some 48,none,.call 155 false [((.t 46),.v),((.t 3),.v),((.t 47),.v)]⟩]))))))
   (.reg [1,0,3,5,12,15,16,7,6,35,8,37,4] [⟨some 13,none,.mv (.t 5)⟩,⟨some 14,none,.ar .add .i64 (.t 13) (.c (.lit .i64 1))⟩,⟨some 5,none,.mv (.t 14)⟩]))))))
  (.seq (.reg [1,0,3,5,12,15,16,7,6,35,8,37,4] [⟨some 49,none,.ld 16 true (.t 3)⟩,⟨none,none,.st 16 (.t 4) (.t 49)⟩])
  .ret))))⟩
def ic149 : IFn := ⟨5,99,[.t 10],
  (.seq (.reg [1,6,0,13,4,26,16,33,2,14,3,17,56,15,11,18,19,82,12,10] [⟨some 6,none,.box (.t 1)⟩,⟨some 10,none,.mv (.c .nsl)⟩])
  (.seq (.reg [1,6,0,13,4,26,16,33,2,14,3,17,56,15,11,18,19,82,12,10] [⟨some 20,none,.ld 16 true (.t 6)⟩,⟨some 21,none,.mv (.t 0)⟩,⟨some 22,none,.call 157 true [((.t 20),.v),((.t 21),.b (.i .u8))]⟩,⟨some 11,none,.mv (.t 22)⟩])
  (.seq (.reg [1,6,0,13,4,26,16,33,2,14,3,17,56,15,11,18,19,82,12,10] [⟨some 12,none,.mv (.c .nsl)⟩])
  (.seq (.seq (.reg [1,6,0,13,4,26,16,33,2,14,3,17,56,15,11,18,19,82,12,10] [⟨some 13,none,.mv (.c (.lit .i64 0))⟩])
  (.block 0 (.loop 0 (.seq (.seq (.reg [1,6,0,13,4,26,16,33,2,14,3,17,56,15,11,18,19,82,12,10] [⟨some 23,none,.mv (.t 13)⟩,⟨some 24,none,.mv (.t 4)⟩,⟨some 25,none,.lenS (.t 24)⟩,⟨some 26,none,.cmp .lss (.t 23) (.t 25)⟩])
   (.cond (.t 26)
     .skip
     (.exit 0)))
   (.seq (.block 1 (.seq (.reg [1,6,0,13,4,26,16,33,2,14,3,17,56,15,11,18,19,82,12,10] [⟨some 14,none,.alloc (.ints .u8 16)⟩])
   (.seq (.reg [1,6,0,13,4,26,16,33,2,14,3,17,56,15,11,18,19,82,12,10] [⟨some 29,none,.mv (.t 13)⟩,⟨some 30,none,.ar .quo .i64 (.t 29) (.c (.lit .i64 16))⟩,⟨some 31,none,.cv .u64 (.t 30)⟩,⟨some 15,none,.mv (.t 31)⟩])
   (.seq (.seq (.reg [1,6,0,13,4,26,16,33,2,14,3,17,56,15,11,18,19,82,12,10] [⟨some 16,none,.mv (.c (.lit .i64 0))⟩])
   (.block 2 (.loop 1 (.seq (.seq (.reg [1,6,0,13,4,26,16,33,2,14,3,17,56,15,11,18,19,82,12,10] [⟨some 32,none,.mv (.t 16)⟩,⟨some 33,none,.cmp .lss (.t 32) (.c (.lit .i64 6))⟩])
    (.cond (.t 33)
      .skip
      (.exit 2)))
    (.seq (.block 3 (.seq (.reg [1,6,0,13,4,26,16,33,2,14,3,17,56,15,11,18,19,82,12,10] [⟨some 36,none,.mv (.t 16)⟩,⟨some 37,none,.mv (.t 2)⟩,⟨some 38,none,.mv (.t 16)⟩,⟨some 39,none,.ar .mul .i64 (.c (.lit .i64 8)) (.t 38)⟩,⟨some 40,none,.ar .sub .i64 (.c (.lit .i64 40)) (.t 39)⟩,⟨some 41,none,.cv .u64 (.t 40)⟩,⟨some 42,none,.shf .shr .u64 (.t 37) (.t 41)⟩,⟨some 43,none,.cv .u8 (.t 42)⟩,⟨some 44,none,.iaA 16 1 (.t 14) (.t 36)⟩,⟨none,none,.st 1 (.t 44) (.t 43)⟩])
    (.reg [1,6,0,13,4,26,16,33,2,14,3,17,56,15,11,18,19,82,12,10] [⟨some 45,none,.mv (.t 16)⟩,⟨some 46,none,.ar .add .i64 (.c (.lit .i64 6)) (.t 45)⟩,⟨some 47,none,.mv (.t 3)⟩,⟨some 48,none,.mv (.t 16)⟩,⟨some 49,none,.ar .mul .i64 (.c (.lit .i64 8)) (.t 48)⟩,⟨some 50,none,.ar .sub .i64 (.c (.lit .i64 40)) (.t 49)⟩,⟨some 51,none,.cv .u64 (.t 50)⟩,⟨some 52,none,.shf .shr .u64 (.t 47) (.t 51)⟩,⟨some 53,none,.cv .u8 (.t 52)⟩,⟨some 54,none,.iaA 16 1 (.t 14) (.t 46)⟩,⟨none,none,.st 1 (.t 54) (.t 53)⟩])))
    (.reg [1,6,0,13,4,26,16,33,2,14,3,17,56,15,11,18,19,82,12,10] [⟨some 34,none,.mv (.t 16)⟩,⟨some 35,none,.ar .add .i64 (.t 34) (.c (.lit .i64 1))⟩,⟨some 16,none,.mv (.t 35)⟩]))))))
   (.seq (.seq (.reg [1,6,0,13,4,26,16,33,2,14,3,17,56,15,11,18,19,82,12,10] [⟨some 17,none,.mv (.c (.lit .i64 0))⟩])
   (.block 4 (.loop 2 (.seq (.seq (.reg [1,6,0,13,4,26,16,33,2,14,3,17,56,15,11,18,19,82,12,10] [⟨some 55,none,.mv (.t 17)⟩,⟨some 56,none,.cmp .lss (.t 55) (.c (.lit .i64 4))⟩])
    (.cond (.t 56)
      .skip
      (.exit 4)))
    (.seq (.block 5 (.reg [1,6,0,13,4,26,16,33,2,14,3,17,56,15,11,18,19,82,12,10] [⟨some 59,none,.mv (.t 17)⟩,⟨some 60,none,.ar .add .i64 (.c (.lit .i64 12)) (.t 59)⟩,⟨some 61,none,.mv (.t 15)⟩,⟨some 62,none,.mv (.t 17)⟩,⟨some 63,none,.ar .mul .i64 (.c (.lit .i64 8)) (.t 62)⟩,⟨some 64,none,.ar .sub .i64 (.c (.lit .i64 24)) (.t 63)⟩,⟨some 65,none,.cv .u64 (.t 64)⟩,⟨some 66,none,.shf .shr .u64 (.t 61) (.t 65)⟩,⟨some 67,none,.cv .u8 (.t 66)⟩,⟨some 68,none,.iaA 16 1 (.t 14) (.t 60)⟩,⟨none,none,.st 1 (.t 68) (.t 67)⟩]))
    (.reg [1,6,0,13,4,26,16,33,2,14,3,17,56,15,11,18,19,82,12,10] [⟨some 57,none,.mv (.t 17)⟩,⟨some 58,none,.ar .add .i64 (.t 57) (.c (.lit .i64 1))⟩,⟨some 17,none,.mv (.t 58)⟩]))))))
   (.seq (.reg [1,6,0,13,4,26,16,33,2,14,3,17,56,15,11,18,19,82,12,10] [⟨some 69,none,.mv (.t 11)⟩,⟨some 70,none,.mv (.t 0)⟩,⟨some 71,none,.ld 16 true (.t 14)⟩,⟨some 72,none,.call 158 true [((.t 69),.b (.i .u8)),((.t 70),.b (.i .u8)),((.t 71),.v)]⟩,⟨some 18,none,.alloc (.ints .u8 16)⟩,⟨none,none,.st 16 (.t 18) (.t 72)⟩])
   (.seq (.reg [1,6,0,13,4,26,16,33,2,14,3,17,56,15,11,18,19,82,12,10] [⟨some 19,none,.mv (.c (.lit .i64 0))⟩])
   (.block 6 (.loop 3 (.seq (.seq (.reg [1,6,0,13,4,26,16,33,2,14,3,17,56,15,11,18,19,82,12,10] [⟨some 73,none,.mv (.t 19)⟩,⟨some 74,none,.cmp .lss (.t 73) (.c (.lit .i64 16))⟩,⟨some 75,none,.mv (.t 74)⟩,⟨some 76,some (75,true),.mv (.t 13)⟩,⟨some 77,some (75,true),.mv (.t 19)⟩,⟨some 78,some (75,true),.ar .add .i64 (.t 76) (.t 77)⟩,⟨some 79,some (75,true),.mv (.t 4)⟩,⟨some 80,some (75,true),.lenS (.t 79)⟩,⟨some 81,some (75,true),.cmp .lss (.t 78) (.t 80)⟩,⟨some 82,none,.pick (.t 75) (.t 81) (.c .ff)⟩])
    (.cond (.t 82)
      .skip
      (.exit 6)))
    (.seq (.block 7 (.dreg [1,6,0,13,4,26,16,33,2,14,3,17,56,15,11,18,19,82,12,10] [⟨⟨some 85,none,.mv (.t 12)⟩,[96],[],none⟩,⟨⟨some 86,none,.mv (.t 4)⟩,[],[],none⟩,⟨⟨some 87,none,.mv (.t 13)⟩,[],[],none⟩,⟨⟨some 88,none,.mv (.t 19)⟩,[],[],none⟩,⟨⟨some 89,none,.ar .add .i64 (.t 87) (.t 88)⟩,[],[],none⟩,⟨⟨some 90,none,.iaS 1 (.t 86) (.t 89)⟩,[],[],none⟩,⟨⟨some 91,none,.ld 1 false (.t 90)⟩,[],[],none⟩,⟨⟨some 92,none,.mv (.t 19)⟩,[],[],none⟩,⟨⟨some 93,none,.iaA 16 1 (.t 18) (.t 92)⟩,[],[],none⟩,⟨⟨some 94,none,.ld 1 false (.t 93)⟩,[],[],none⟩,⟨⟨some 95,none,.ar .xor .u8 (.t 91) (.t 94)⟩,[],[],none⟩,⟨⟨some 96,none,.bsl (.i .u8) 1 [(0,(.t 95))]⟩,[],[],none⟩,⟨⟨some 97,none,.app (.i .u8) 1 (.t 85) (.t 96)⟩,[],[],none⟩,⟨⟨some 12,none,.mv (.t 97)⟩,[],[],none⟩]))
    (.reg [1,6,0,13,4,26,16,33,2,14,3,17,56,15,11,18,19,82,12,10] [⟨some 83,none,.mv (.t 19)⟩,⟨some 84,none,.ar .add .i64 (.t 83) (.c (.lit .i64 1))⟩,⟨some 19,none,.mv (.t 84)⟩]))))))))))))
   (.reg [1,6,0,13,4,26,16,33,2,14,3,17,56,15,11,18,19,82,12,10] [⟨some 27,none,.mv (.t 13)⟩,⟨some 28,none,.ar .add .i64 (.t 27) (.c (.lit .i64 16))⟩,⟨some 13,none,.mv (.t 28)⟩]))))))
  (.seq (.reg [1,6,0,13,4,26,16,33,2,14,3,17,56,15,11,18,19,82,12,10] [⟨some 98,none,.mv (.t 12)⟩,⟨some 10,none,.mv (.t 98)⟩])
  .ret)))))⟩
def ic150 : IFn := ⟨0,69,[.t 0],
  (.seq (.reg [2,12,1,4,26,3,6,43,7,9,52,8,5,0] [⟨some 0,none,.mv (.c .nsl)⟩])
  (.seq (.reg [2,12,1,4,26,3,6,43,7,9,52,8,5,0] [⟨some 10,none,.bsl (.i .u8) 1 [(0,(.c (.lit .u8 1)))]⟩,⟨some 1,none,.mv (.t 10)⟩])
  (.seq (.seq (.reg [2,12,1,4,26,3,6,43,7,9,52,8,5,0] [⟨some 2,none,.mv (.c (.lit .i64 1))⟩])
  (.block 0 (.loop 0 (.seq (.seq (.reg [2,12,1,4,26,3,6,43,7,9,52,8,5,0] [⟨some 11,none,.mv (.t 2)⟩,⟨some 12,none,.cmp .lss (.t 11) (.c (.lit .i64 255))⟩])
   (.cond (.t 12)
     .skip
     (.exit 0)))
   (.seq (.block 1 (.reg [2,12,1,4,26,3,6,43,7,9,52,8,5,0] [⟨some 15,none,.mv (.t 1)⟩,⟨some 16,none,.mv (.t 1)⟩,⟨some 17,none,.mv (.t 2)⟩,⟨some 18,none,.ar .sub .i64 (.t 17) (.c (.lit .i64 1))⟩,⟨some 19,none,.iaS 1 (.t 16) (.t 18)⟩,⟨some 20,none,.ld 1 false (.t 19)⟩,⟨some 21,none,.call 159 true [((.t 20),.v),((.c (.lit .u8 3)),.v)]⟩,⟨some 22,none,.bsl (.i .u8) 1 [(0,(.t 21))]⟩,⟨some 23,none,.app (.i .u8) 1 (.t 15) (.t 22)⟩,⟨some 1,none,.mv (.t 23)⟩]))
   (.reg [2,12,1,4,26,3,6,43,7,9,52,8,5,0] [⟨some 13,none,.mv (.t 2)⟩,⟨some 14,none,.ar .add .i64 (.t 13) (.c (.lit .i64 1))⟩,⟨some 2,none,.mv (.t 14)⟩]))))))
  (.seq (.reg [2,12,1,4,26,3,6,43,7,9,52,8,5,0] [⟨some 24,none,.mks (.i .u8) 1 (.c (.lit .i64 256))⟩,⟨some 3,none,.mv (.t 24)⟩])
  (.seq (.seq (.reg [2,12,1,4,26,3,6,43,7,9,52,8,5,0] [⟨some 4,none,.mv (.c (.lit .i64 0))⟩])
  (.block 2 (.loop 1 (.seq (.seq (.reg [2,12,1,4,26,3,6,43,7,9,52,8,5,0] [⟨some 25,none,.mv (.t 4)⟩,⟨some 26,none,.cmp .lss (.t 25) (.c (.lit .i64 255))⟩])
   (.cond (.t 26)
     .skip
     (.exit 2)))
   (.seq (.block 3 (.dreg [2,12,1,4,26,3,6,43,7,9,52,8,5,0] [⟨⟨some 29,none,.mv (.t 3)⟩,[],[],none⟩,⟨⟨some 30,none,.mv (.t 1)⟩,[],[],none⟩,⟨⟨some 31,none,.mv (.t 4)⟩,[],[],none⟩,⟨⟨some 32,none,.iaS 1 (.t 30) (.t 31)⟩,[],[],none⟩,⟨⟨some 33,none,.ld 1 false (.t 32)⟩,[],[],none⟩,⟨⟨some 34,none,.mv (.t 1)⟩,[],[],none⟩,⟨⟨some 35,none,.mv (.t 4)⟩,[],[],none⟩,⟨⟨some 36,none,.ar .sub .i64 (.c (.lit .i64 255)) (.t 35)⟩,[],[],none⟩,⟨⟨some 37,none,.ar .rem .i64 (.t 36) (.c (.lit .i64 255))⟩,[],[],none⟩,⟨⟨some 38,none,.iaS 1 (.t 34) (.t 37)⟩,[],[],none⟩,⟨⟨some 39,none,.ld 1 false (.t 38)⟩,[],[],none⟩,⟨⟨some 40,none,.iaS 1 (.t 29) (.t 33)⟩,[],[],none⟩,⟨⟨none,none,.st 1 (.t 40) (.t 39)⟩,[],[],none⟩]))
   (.reg [2,12,1,4,26,3,6,43,7,9,52,8,5,0] [⟨some 27,none,.mv (.t 4)⟩,⟨some 28,none,.ar .add .i64 (.t 27) (.c (.lit .i64 1))⟩,⟨some 4,none,.mv (.t 28)⟩]))))))
  (.seq (.reg [2,12,1,4,26,3,6,43,7,9,52,8,5,0] [⟨some 41,none,.mks (.i .u8) 1 (.c (.lit .i64 256))⟩,⟨some 5,none,.mv (.t 41)⟩])
  (.seq (.seq (.reg [2,12,1,4,26,3,6,43,7,9,52,8,5,0] [⟨some 6,none,.mv (.c (.lit .i64 0))⟩])
  (.block 4 (.loop 2 (.seq (.seq (.reg [2,12,1,4,26,3,6,43,7,9,52,8,5,0] [⟨some 42,none,.mv (.t 6)⟩,⟨some 43,none,.cmp .lss (.t 42) (.c (.lit .i64 256))⟩])
   (.cond (.t 43)
     .skip
     (.exit 4)))
   (.seq (.block 5 (.seq (.reg [2,12,1,4,26,3,6,43,7,9,52,8,5,0] [⟨some 46,none,.mv (.t 3)⟩,⟨some 47,none,.mv (.t 6)⟩,⟨some 48,none,.iaS 1 (.t 46) (.t 47)⟩,⟨some 49,none,.ld 1 false (.t 48)⟩,⟨some 7,none,.mv (.t 49)⟩])
   (.seq (.reg [2,12,1,4,26,3,6,43,7,9,52,8,5,0] [⟨some 50,none,.mv (.t 7)⟩,⟨some 8,none,.mv (.t 50)⟩])
   (.seq (.seq (.reg [2,12,1,4,26,3,6,43,7,9,52,8,5,0] [⟨some 9,none,.mv (.c (.lit .i64 0))⟩])
   (.block 6 (.loop 3 (.seq (.seq (.reg [2,12,1,4,26,3,6,43,7,9,52,8,5,0] [⟨some 51,none,.mv (.t 9)⟩,⟨some 52,none,.cmp .lss (.t 51) (.c (.lit .i64 4))⟩])
    (.cond (.t 52)
      .skip
      (.exit 6)))
    (.seq (.block 7 (.seq (.reg [2,12,1,4,26,3,6,43,7,9,52,8,5,0] [⟨some 55,none,.mv (.t 7)⟩,⟨some 56,none,.shf .shl .u8 (.t 55) (.c (.lit .u64 1))⟩,⟨some 57,none,.mv (.t 7)⟩,⟨some 58,none,.shf .shr .u8 (.t 57) (.c (.lit .u64 7))⟩,⟨some 59,none,.ar .or .u8 (.t 56) (.t 58)⟩,⟨some 7,none,.mv (.t 59)⟩])
    (.reg [2,12,1,4,26,3,6,43,7,9,52,8,5,0] [⟨some 60,none,.mv (.t 8)⟩,⟨some 61,none,.mv (.t 7)⟩,⟨some 62,none,.ar .xor .u8 (.t 60) (.t 61)⟩,⟨some 8,none,.mv (.t 62)⟩])))
    (.reg [2,12,1,4,26,3,6,43,7,9,52,8,5,0] [⟨some 53,none,.mv (.t 9)⟩,⟨some 54,none,.ar .add .i64 (.t 53) (.c (.lit .i64 1))⟩,⟨some 9,none,.mv (.t 54)⟩]))))))
   (.reg [2,12,1,4,26,3,6,43,7,9,52,8,5,0] [⟨some 63,none,.mv (.t 5)⟩,⟨some 64,none,.mv (.t 6)⟩,⟨some 65,none,.mv (.t 8)⟩,⟨some 66,none,.ar .xor .u8 (.t 65) (.c (.lit .u8 99))⟩,⟨some 67,none,.iaS 1 (.t 63) (.t 64)⟩,⟨none,none,.st 1 (.t 67) (.t 66)⟩])))))
   (.reg [2,12,1,4,26,3,6,43,7,9,52,8,5,0] [⟨some 44,none,.mv (.t 6)⟩,⟨some 45,none,.ar .add .i64 (.t 44) (.c (.lit .i64 1))⟩,⟨some 6,none,.mv (.t 45)⟩]))))))
  (.seq (.reg [2,12,1,4,26,3,6,43,7,9,52,8,5,0] [⟨some 68,none,.mv (.t 5)⟩,⟨some 0,none,.mv (.t 68)⟩])
  .ret))))))))⟩
def ic153 : IFn := ⟨0,44,[.cell 0 256 true],
  (.seq (.reg [2,3,21,1,41,0] [⟨some 0,none,.alloc (.ints .u8 256)⟩])
  (.seq (.reg [2,3,21,1,41,0] [⟨some 1,none,.alloc (.ints .u8 256)⟩])
  (.seq (.reg [2,3,21,1,41,0] [⟨some 2,none,.mv (.c (.lit .u8 1))⟩,⟨some 3,none,.mv (.c (.lit .u8 1))⟩])
  (.seq (.block 0 (.loop 0 (.block 1 (.seq (.reg [2,3,21,1,41,0] [⟨some 4,none,.mv (.t 2)⟩,⟨some 5,none,.mv (.t 2)⟩,⟨some 6,none,.call 154 true [((.t 5),.v)]⟩,⟨some 7,none,.ar .xor .u8 (.t 4) (.t 6)⟩,⟨some 2,none,.mv (.t 7)⟩])
   (.seq (.reg [2,3,21,1,41,0] [⟨some 8,none,.mv (.t 3)⟩,⟨some 9,none,.mv (.t 3)⟩,⟨some 10,none,.shf .shl .u8 (.t 9) (.c (.lit .u64 1))⟩,⟨some 11,none,.ar .xor .u8 (.t 8) (.t 10)⟩,⟨some 3,none,.mv (.t 11)⟩])
   (.seq (.reg [2,3,21,1,41,0] [⟨some 12,none,.mv (.t 3)⟩,⟨some 13,none,.mv (.t 3)⟩,⟨some 14,none,.shf .shl .u8 (.t 13) (.c (.lit .u64 2))⟩,⟨some 15,none,.ar .xor .u8 (.t 12) (.t 14)⟩,⟨some 3,none,.mv (.t 15)⟩])
   (.seq (.reg [2,3,21,1,41,0] [⟨some 16,none,.mv (.t 3)⟩,⟨some 17,none,.mv (.t 3)⟩,⟨some 18,none,.shf .shl .u8 (.t 17) (.c (.lit .u64 4))⟩,⟨some 19,none,.ar .xor .u8 (.t 16) (.t 18)⟩,⟨some 3,none,.mv (.t 19)⟩])
   (.seq (.seq (.reg [2,3,21,1,41,0] [⟨some 20,none,.mv (.t 3)⟩,⟨some 21,none,.cmp .geq (.t 20) (.c (.lit .u8 128))⟩])
   (.cond (.t 21)
     (.reg [2,3,21,1,41,0] [⟨some 22,none,.mv (.t 3)⟩,⟨some 23,none,.ar .xor .u8 (.t 22) (.c (.lit .u8 9))⟩,⟨some 3,none,.mv (.t 23)⟩])
     .skip))
   (.seq (.reg [2,3,21,1,41,0] [⟨some 24,none,.mv (.t 2)⟩,⟨some 25,none,.mv (.t 3)⟩,⟨some 26,none,.mv (.t 3)⟩,⟨some 27,none,.call 162 true [((.t 26),.v),((.c (.lit .i64 1)),.v)]⟩,⟨some 28,none,.ar .xor .u8 (.t 25) (.t 27)⟩,⟨some 29,none,.mv (.t 3)⟩,⟨some 30,none,.call 162 true [((.t 29),.v),((.c (.lit .i64 2)),.v)]⟩,⟨some 31,none,.ar .xor .u8 (.t 28) (.t 30)⟩,⟨some 32,none,.mv (.t 3)⟩,⟨some 33,none,.call 162 true [((.t 32),.v),((.c (.lit .i64 3)),.v)]⟩,⟨some 34,none,.ar .xor .u8 (.t 31) (.t 33)⟩,⟨some 35,none,.mv (.t 3)⟩,⟨some 36,none,.call 162 true [((.t 35),.v),((.c (.lit .i64 4)),.v)]⟩,⟨some 37,none,.ar .xor .u8 (.t 34) (.t 36)⟩,⟨some 38,none,.ar .xor .u8 (.t 37) (.c (.lit .u8 99))⟩,⟨some 39,none,.iaA 256 1 (.t 1) (.t 24)⟩,⟨none,none,.st 1 (.t 39) (.t 38)⟩])
   (.seq (.reg [2,3,21,1,41,0] [⟨some 40,none,.mv (.t 2)⟩,⟨some 41,none,.cmp .eql (.t 40) (.c (.lit .u8 1))⟩])
   (.cond (.t 41)
     (.exit 0)
     .skip)))))))))))
  (.seq (.reg [2,3,21,1,41,0] [⟨some 42,none,.iaA 256 1 (.t 1) (.c (.lit .i64 0))⟩,⟨none,none,.st 1 (.t 42) (.c (.lit .u8 99))⟩])
  (.seq (.reg [2,3,21,1,41,0] [⟨some 43,none,.ld 256 true (.t 1)⟩,⟨none,none,.st 256 (.t 0) (.t 43)⟩])
  .ret))))))⟩
def ic154 : IFn := ⟨1,10,[.t 2],
  (.seq (.reg [0,4,2] [⟨some 2,none,.mv (.c (.lit .u8 0))⟩])
  (.seq (.seq (.reg [0,4,2] [⟨some 3,none,.mv (.t 0)⟩,⟨some 4,none,.cmp .geq (.t 3) (.c (.lit .u8 128))⟩])
  (.cond (.t 4)
    (.seq (.reg [0,4,2] [⟨some 5,none,.mv (.t 0)⟩,⟨some 6,none,.shf .shl .u8 (.t 5) (.c (.lit .u64 1))⟩,⟨some 7,none,.ar .xor .u8 (.t 6) (.c (.lit .u8 27))⟩,⟨some 2,none,.mv (.t 7)⟩])
    .ret)
    .skip))
  (.seq (.reg [0,4,2] [⟨some 8,none,.mv (.t 0)⟩,⟨some 9,none,.shf .shl .u8 (.t 8) (.c (.lit .u64 1))⟩,⟨some 2,none,.mv (.t 9)⟩])
  .ret)))⟩
def ic155 : IFn := ⟨3,32,[],
  (.seq (.reg [7,8,1,6,0,2] [⟨some 7,none,.mv (.c (.lit .i64 0))⟩])
  (.block 0 (.loop 0 (.seq (.reg [7,8,1,6,0,2] [⟨some 8,none,.cmp .lss (.t 7) (.c (.lit .i64 16))⟩])
   (.seq (.cond (.t 8)
     .skip
     (.exit 0))
   (.seq (.block 1 (.seq (.reg [7,8,1,6,0,2] [⟨some 9,none,.mv (.t 7)⟩,⟨some 6,none,.mv (.t 9)⟩])
   (.dreg [7,8,1,6,0,2] [⟨⟨some 10,none,.mv (.t 1)⟩,[],[],none⟩,⟨⟨some 11,none,.mv (.t 6)⟩,[],[],none⟩,⟨⟨some 12,none,.nck (.t 10)⟩,[],[],none⟩,⟨⟨some 13,none,.iaA 16 1 (.t 12) (.t 11)⟩,[],[],none⟩,⟨⟨some 14,none,.ld 1 false (.t 13)⟩,[],[],none⟩,⟨⟨some 15,none,.mv (.t 0)⟩,[],[],none⟩,⟨⟨some 16,none,.mv (.t 2)⟩,[],[],none⟩,⟨⟨some 17,none,.ar .mul .i64 (.c (.lit .i64 4)) (.t 16)⟩,[],[],none⟩,⟨⟨some 18,none,.mv (.t 6)⟩,[],[],none⟩,⟨⟨some 19,none,.ar .quo .i64 (.t 18) (.c (.lit .i64 4))⟩,[],[],none⟩,⟨⟨some 20,none,.ar .add .i64 (.t 17) (.t 19)⟩,[],[],none⟩,⟨⟨some 21,none,.mv (.t 6)⟩,[],[],none⟩,⟨⟨some 22,none,.ar .rem .i64 (.t 21) (.c (.lit .i64 4))⟩,[],[],none⟩,⟨⟨some 23,none,.nck (.t 15)⟩,[],[],none⟩,⟨⟨some 24,none,.fa 256 176 (.t 23)⟩,[],[],none⟩,⟨⟨some 25,none,.iaA 44 4 (.t 24) (.t 20)⟩,[],[],none⟩,⟨⟨some 26,none,.iaA 4 1 (.t 25) (.t 22)⟩,[],[],none⟩,⟨⟨some 27,none,.ld 1 false (.t 26)⟩,[],[],none⟩,⟨⟨some 28,none,.ar .xor .u8 (.t 14) (.t 27)⟩,[],[],none⟩,⟨⟨some 29,none,.nck (.t 10)⟩,[],[],none⟩,⟨⟨some 30,none,.iaA 16 1 (.t 29) (.t 11)⟩,[],[],none⟩,⟨⟨none,none,.st 1 (.t 30) (.t 28)⟩,[],[],none⟩])))
   (.reg [7,8,1,6,0,2] [⟨some 31,none,.ar .add .i64 (.t 7) (.c (.lit .i64 1))⟩,⟨some 7,none,.mv (.t 31)⟩])))))))⟩
def ic156 : IFn := ⟨1,70,[],
  (.seq (.dreg [0,2,3,4,5,6] [⟨⟨some 7,none,.mv (.t 0)⟩,[],[],none⟩,⟨⟨some 8,none,.iaS 1 (.t 7) (.c (.lit .i64 0))⟩,[],[],none⟩,⟨⟨some 9,none,.ld 1 false (.t 8)⟩,[],[],none⟩,⟨⟨some 10,none,.mv (.t 0)⟩,[],[],none⟩,⟨⟨some 11,none,.iaS 1 (.t 10) (.c (.lit .i64 1))⟩,[],[],none⟩,⟨⟨some 12,none,.ld 1 false (.t 11)⟩,[],[],none⟩,⟨⟨some 13,none,.mv (.t 0)⟩,[],[],none⟩,⟨⟨some 14,none,.iaS 1 (.t 13) (.c (.lit .i64 2))⟩,[],[],none⟩,⟨⟨some 15,none,.ld 1 false (.t 14)⟩,[],[],none⟩,⟨⟨some 16,none,.mv (.t 0)⟩,[],[],none⟩,⟨⟨some 17,none,.iaS 1 (.t 16) (.c (.lit .i64 3))⟩,[],[],none⟩,⟨⟨some 18,none,.ld 1 false (.t 17)⟩,[],[],none⟩,⟨⟨some 2,none,.mv (.t 9)⟩,[],[],none⟩,⟨⟨some 3,none,.mv (.t 12)⟩,[],[],none⟩,⟨⟨some 4,none,.mv (.t 15)⟩,[],[],none⟩,⟨⟨some 5,none,.mv (.t 18)⟩,[],[],none⟩])
  (.seq (.reg [0,2,3,4,5,6] [⟨some 19,none,.mv (.t 2)⟩,⟨some 20,none,.mv (.t 3)⟩,⟨some 21,none,.ar .xor .u8 (.t 19) (.t 20)⟩,⟨some 22,none,.mv (.t 4)⟩,⟨some 23,none,.ar .xor .u8 (.t 21) (.t 22)⟩,⟨some 24,none,.mv (.t 5)⟩,⟨some 25,none,.ar .xor .u8 (.t 23) (.t 24)⟩,⟨some 6,none,.mv (.t 25)⟩])
  (.seq (.dreg [0,2,3,4,5,6] [⟨⟨some 26,none,.mv (.t 0)⟩,[33,10033,20033,30033,40033,50033,60033,70033,80033,90033],[],none⟩,⟨⟨some 27,none,.iaS 1 (.t 26) (.c (.lit .i64 0))⟩,[33,10033,20033,30033,40033,50033,60033,70033,80033,90033],[],none⟩,⟨⟨some 28,none,.ld 1 false (.t 27)⟩,[33,10033,20033,30033,40033,50033,60033,70033,80033,90033],[],none⟩,⟨⟨some 29,none,.mv (.t 6)⟩,[33,10033,20033,30033,40033,50033,60033,70033,80033,90033],[],none⟩,⟨⟨some 30,none,.mv (.t 2)⟩,[],[],none⟩,⟨⟨some 31,none,.mv (.t 3)⟩,[],[],none⟩,⟨⟨some 32,none,.ar .xor .u8 (.t 30) (.t 31)⟩,[],[],none⟩,⟨⟨some 33,none,.call 154 true [((.t 32),.v)]⟩,[],[],none⟩,⟨⟨some 34,none,.ar .xor .u8 (.t 29) (.t 33)⟩,[],[],none⟩,⟨⟨some 35,none,.ar .xor .u8 (.t 28) (.t 34)⟩,[],[],none⟩,⟨⟨some 36,none,.iaS 1 (.t 26) (.c (.lit .i64 0))⟩,[],[],none⟩,⟨⟨none,none,.st 1 (.t 36) (.t 35)⟩,[],[],none⟩])
  (.seq (.dreg [0,2,3,4,5,6] [⟨⟨some 37,none,.mv (.t 0)⟩,[44,10044,20044,30044,40044,50044,60044,70044,80044,90044],[],none⟩,⟨⟨some 38,none,.iaS 1 (.t 37) (.c (.lit .i64 1))⟩,[44,10044,20044,30044,40044,50044,60044,70044,80044,90044],[],none⟩,⟨⟨some 39,none,.ld 1 false (.t 38)⟩,[44,10044,20044,30044,40044,50044,60044,70044,80044,90044],[],none⟩,⟨⟨some 40,none,.mv (.t 6)⟩,[44,10044,20044,30044,40044,50044,60044,70044,80044,90044],[],none⟩,⟨⟨some 41,none,.mv (.t 3)⟩,[],[],none⟩,⟨⟨some 42,none,.mv (.t 4)⟩,[],[],none⟩,⟨⟨some 43,none,.ar .xor .u8 (.t 41) (.t 42)⟩,[],[],none⟩,⟨⟨some 44,none,.call 154 true [((.t 43),.v)]⟩,[],[],none⟩,⟨⟨some 45,none,.ar .xor .u8 (.t 40) (.t 44)⟩,[],[],none⟩,⟨⟨some 46,none,.ar .xor .u8 (.t 39) (.t 45)⟩,[],[],none⟩,⟨⟨some 47,none,.iaS 1 (.t 37) (.c (.lit .i64 1))⟩,[],[],none⟩,⟨⟨none,none,.st 1 (.t 47) (.t 46)⟩,[],[],none⟩])
  (.seq (.dreg [0,2,3,4,5,6] [⟨⟨some 48,none,.mv (.t 0)⟩,[55,10055,20055,30055,40055,50055,60055,70055,80055,90055],[],none⟩,⟨⟨some 49,none,.iaS 1 (.t 48) (.c (.lit .i64 2))⟩,[55,10055,20055,30055,40055,50055,60055,70055,80055,90055],[],none⟩,⟨⟨some 50,none,.ld 1 false (.t 49)⟩,[55,10055,20055,30055,40055,50055,60055,70055,80055,90055],[],none⟩,⟨⟨some 51,none,.mv (.t 6)⟩,[55,10055,20055,30055,40055,50055,60055,70055,80055,90055],[],none⟩,⟨⟨some 52,none,.mv (.t 4)⟩,[],[],none⟩,⟨⟨some 53,none,.mv (.t 5)⟩,[],[],none⟩,⟨⟨some 54,none,.ar .xor .u8 (.t 52) (.t 53)⟩,[],[],none⟩,⟨⟨some 55,none,.call 154 true [((.t 54),.v)]⟩,[],[],none⟩,⟨⟨some 56,none,.ar .xor .u8 (.t 51) (.t 55)⟩,[],[],none⟩,⟨⟨some 57,none,.ar .xor .u8 (.t 50) (.t 56)⟩,[],[],none⟩,⟨⟨some 58,none,.iaS 1 (.t 48) (.c (.lit .i64 2))⟩,[],[],none⟩,⟨⟨none,none,.st 1 (.t 58) (.t 57)⟩,[],[],none⟩])
  (.dreg [0,2,3,4,5,6] [⟨⟨some 59,none,.mv (.t 0)⟩,[66,10066,20066,30066,40066,50066,60066,70066,80066,90066],[],none⟩,⟨⟨some 60,none,.iaS 1 (.t 59) (.c (.lit .i64 3))⟩,[66,10066,20066,30066,40066,50066,60066,70066,80066,90066],[],none⟩,⟨⟨some 61,none,.ld 1 false (.t 60)⟩,[66,10066,20066,30066,40066,50066,60066,70066,80066,90066],[],none⟩,⟨⟨some 62,none,.mv (.t 6)⟩,[66,10066,20066,30066,40066,50066,60066,70066,80066,90066],[],none⟩,⟨⟨some 63,none,.mv (.t 5)⟩,[],[],none⟩,⟨⟨some 64,none,.mv (.t 2)⟩,[],[],none⟩,⟨⟨some 65,none,.ar .xor .u8 (.t 63) (.t 64)⟩,[],[],none⟩,⟨⟨some 66,none,.call 154 true [((.t 65),.v)]⟩,[],[],none⟩,⟨⟨some 67,none,.ar .xor .u8 (.t 62) (.t 66)⟩,[],[],none⟩,⟨⟨some 68,none,.ar .xor .u8 (.t 61) (.t 67)⟩,[],[],none⟩,⟨⟨some 69,none,.iaS 1 (.t 59) (.c (.lit .i64 3))⟩,[],[],none⟩,⟨⟨none,none,.st 1 (.t 69) (.t 68)⟩,[],[],none⟩]))))))⟩
def ic157 : IFn := ⟨2,90,[.t 4],
  (.seq (.reg [0,2,7,14,5,40,1,8,6,9,71,4] [⟨some 2,none,.box (.t 0)⟩,⟨some 4,none,.mv (.c .nsl)⟩])
  (.seq (.reg [0,2,7,14,5,40,1,8,6,9,71,4] [⟨some 10,none,.bsl (.i .u8) 0 []⟩,⟨some 11,none,.slA 16 1 (.t 2) none none⟩,⟨some 12,none,.app0 (.i .u8) 1 (.t 10) (.t 11)⟩,⟨some 5,none,.mv (.t 12)⟩])
  (.seq (.reg [0,2,7,14,5,40,1,8,6,9,71,4] [⟨some 6,none,.mv (.c (.lit .u8 1))⟩])
  (.seq (.seq (.reg [0,2,7,14,5,40,1,8,6,9,71,4] [⟨some 7,none,.mv (.c (.lit .i64 16))⟩])
  (.block 0 (.loop 0 (.seq (.seq (.reg [0,2,7,14,5,40,1,8,6,9,71,4] [⟨some 13,none,.mv (.t 7)⟩,⟨some 14,none,.cmp .lss (.t 13) (.c (.lit .i64 176))⟩])
   (.cond (.t 14)
     .skip
     (.exit 0)))
   (.seq (.block 1 (.seq (.dreg [0,2,7,14,5,40,1,8,6,9,71,4] [⟨⟨some 17,none,.mv (.t 5)⟩,[],[],none⟩,⟨⟨some 18,none,.mv (.t 7)⟩,[],[],none⟩,⟨⟨some 19,none,.ar .sub .i64 (.t 18) (.c (.lit .i64 4))⟩,[],[],none⟩,⟨⟨some 20,none,.iaS 1 (.t 17) (.t 19)⟩,[],[],none⟩,⟨⟨some 21,none,.ld 1 false (.t 20)⟩,[],[],none⟩,⟨⟨some 22,none,.mv (.t 5)⟩,[],[],none⟩,⟨⟨some 23,none,.mv (.t 7)⟩,[],[],none⟩,⟨⟨some 24,none,.ar .sub .i64 (.t 23) (.c (.lit .i64 3))⟩,[],[],none⟩,⟨⟨some 25,none,.iaS 1 (.t 22) (.t 24)⟩,[],[],none⟩,⟨⟨some 26,none,.ld 1 false (.t 25)⟩,[],[],none⟩,⟨⟨some 27,none,.mv (.t 5)⟩,[],[],none⟩,⟨⟨some 28,none,.mv (.t 7)⟩,[],[],none⟩,⟨⟨some 29,none,.ar .sub .i64 (.t 28) (.c (.lit .i64 2))⟩,[],[],none⟩,⟨⟨some 30,none,.iaS 1 (.t 27) (.t 29)⟩,[],[],none⟩,⟨⟨some 31,none,.ld 1 false (.t 30)⟩,[],[],none⟩,⟨⟨some 32,none,.mv (.t 5)⟩,[],[],none⟩,⟨⟨some 33,none,.mv (.t 7)⟩,[],[],none⟩,⟨⟨some 34,none,.ar .sub .i64 (.t 33) (.c (.lit .i64 1))⟩,[],[],none⟩,⟨⟨some 35,none,.iaS 1 (.t 32) (.t 34)⟩,[],[],none⟩,⟨⟨some 36,none,.ld 1 false (.t 35)⟩,[],[],none⟩,⟨⟨some 37,none,.bsl (.i .u8) 4 [(0,(.t 21)),(1,(.t 26)),(2,(.t 31)),(3,(.t 36))]⟩,[],[],none⟩,⟨⟨some 8,none,.mv (.t 37)⟩,[],[],none⟩])
   (.seq (.seq (.reg [0,2,7,14,5,40,1,8,6,9,71,4] [⟨some 38,none,.mv (.t 7)⟩,⟨some 39,none,.ar .rem .i64 (.t 38) (.c (.lit .i64 16))⟩,⟨some 40,none,.cmp .eql (.t 39) (.c (.lit .i64 0))⟩])
   (.cond (.t 40)
     (.seq (.dreg [0,2,7,14,5,40,1,8,6,9,71,4] [⟨⟨some 41,none,.mv (.t 1)⟩,[],[],none⟩,⟨⟨some 42,none,.mv (.t 8)⟩,[],[],none⟩,⟨⟨some 43,none,.iaS 1 (.t 42) (.c (.lit .i64 1))⟩,[],[],none⟩,⟨⟨some 44,none,.ld 1 false (.t 43)⟩,[],[],none⟩,⟨⟨some 45,none,.iaS 1 (.t 41) (.t 44)⟩,[],[],none⟩,⟨⟨some 46,none,.ld 1 false (.t 45)⟩,[],[],none⟩,⟨⟨some 47,none,.mv (.t 6)⟩,[],[],none⟩,⟨⟨some 48,none,.ar .xor .u8 (.t 46) (.t 47)⟩,[],[],none⟩,⟨⟨some 49,none,.mv (.t 1)⟩,[],[],none⟩,⟨⟨some 50,none,.mv (.t 8)⟩,[],[],none⟩,⟨⟨some 51,none,.iaS 1 (.t 50) (.c (.lit .i64 2))⟩,[],[],none⟩,⟨⟨some 52,none,.ld 1 false (.t 51)⟩,[],[],none⟩,⟨⟨some 53,none,.iaS 1 (.t 49) (.t 52)⟩,[],[],none⟩,⟨⟨some 54,none,.ld 1 false (.t 53)⟩,[],[],none⟩,⟨⟨some 55,none,.mv (.t 1)⟩,[],[],none⟩,⟨⟨some 56,none,.mv (.t 8)⟩,[],[],none⟩,⟨⟨some 57,none,.iaS 1 (.t 56) (.c (.lit .i64 3))⟩,[],[],none⟩,⟨⟨some 58,none,.ld 1 false (.t 57)⟩,[],[],none⟩,⟨⟨some 59,none,.iaS 1 (.t 55) (.t 58)⟩,[],[],none⟩,⟨⟨some 60,none,.ld 1 false (.t 59)⟩,[],[],none⟩,⟨⟨some 61,none,.mv (.t 1)⟩,[],[],none⟩,⟨⟨some 62,none,.mv (.t 8)⟩,[],[],none⟩,⟨⟨some 63,none,.iaS 1 (.t 62) (.c (.lit .i64 0))⟩,[],[],none⟩,⟨⟨some 64,none,.ld 1 false (.t 63)⟩,[],[],none⟩,⟨⟨some 65,none,.iaS 1 (.t 61) (.t 64)⟩,[],[],none⟩,⟨⟨some 66,none,.ld 1 false (.t 65)⟩,[],[],none⟩,⟨⟨some 67,none,.bsl (.i .u8) 4 [(0,(.t 48)),(1,(.t 54)),(2,(.t 60)),(3,(.t 66))]⟩,[],[],none⟩,⟨⟨some 8,none,.mv (.t 67)⟩,[],[],none⟩])
     (.reg [0,2,7,14,5,40,1,8,6,9,71,4] [⟨some 68,none,.mv (.t 6)⟩,⟨some 69,none,.call 159 true [((.t 68),.v),((.c (.lit .u8 2)),.v)]⟩,⟨some 6,none,.mv (.t 69)⟩]))
     .skip))
   (.seq (.reg [0,2,7,14,5,40,1,8,6,9,71,4] [⟨some 9,none,.mv (.c (.lit .i64 0))⟩])
   (.block 2 (.loop 1 (.seq (.seq (.reg [0,2,7,14,5,40,1,8,6,9,71,4] [⟨some 70,none,.mv (.t 9)⟩,⟨some 71,none,.cmp .lss (.t 70) (.c (.lit .i64 4))⟩])
    (.cond (.t 71)
      .skip
      (.exit 2)))
    (.seq (.block 3 (.dreg [0,2,7,14,5,40,1,8,6,9,71,4] [⟨⟨some 74,none,.mv (.t 5)⟩,[87],[],none⟩,⟨⟨some 75,none,.mv (.t 5)⟩,[],[],none⟩,⟨⟨some 76,none,.mv (.t 7)⟩,[],[],none⟩,⟨⟨some 77,none,.ar .sub .i64 (.t 76) (.c (.lit .i64 16))⟩,[],[],none⟩,⟨⟨some 78,none,.mv (.t 9)⟩,[],[],none⟩,⟨⟨some 79,none,.ar .add .i64 (.t 77) (.t 78)⟩,[],[],none⟩,⟨⟨some 80,none,.iaS 1 (.t 75) (.t 79)⟩,[],[],none⟩,⟨⟨some 81,none,.ld 1 false (.t 80)⟩,[],[],none⟩,⟨⟨some 82,none,.mv (.t 8)⟩,[],[],none⟩,⟨⟨some 83,none,.mv (.t 9)⟩,[],[],none⟩,⟨⟨some 84,none,.iaS 1 (.t 82) (.t 83)⟩,[],[],none⟩,⟨⟨some 85,none,.ld 1 false (.t 84)⟩,[],[],none⟩,⟨⟨some 86,none,.ar .xor .u8 (.t 81) (.t 85)⟩,[],[],none⟩,⟨⟨some 87,none,.bsl (.i .u8) 1 [(0,(.t 86))]⟩,[],[],none⟩,⟨⟨some 88,none,.app (.i .u8) 1 (.t 74) (.t 87)⟩,[],[],none⟩,⟨⟨some 5,none,.mv (.t 88)⟩,[],[],none⟩]))
    (.reg [0,2,7,14,5,40,1,8,6,9,71,4] [⟨some 72,none,.mv (.t 9)⟩,⟨some 73,none,.ar .add .i64 (.t 72) (.c (.lit .i64 1))⟩,⟨some 9,none,.mv (.t 73)⟩])))))))))
   (.reg [0,2,7,14,5,40,1,8,6,9,71,4] [⟨some 15,none,.mv (.t 7)⟩,⟨some 16,none,.ar .add .i64 (.t 15) (.c (.lit .i64 4))⟩,⟨some 7,none,.mv (.t 16)⟩]))))))
  (.seq (.reg [0,2,7,14,5,40,1,8,6,9,71,4] [⟨some 89,none,.mv (.t 5)⟩,⟨some 4,none,.mv (.t 89)⟩])
  .ret)))))⟩
def ic158 : IFn := ⟨3,129,[.cell 6 16 true],
  (.seq (.reg [2,5,7,8,19,0,9,32,11,36,12,40,1,10,61,13,14,64,15,68,16,112,6] [⟨some 5,none,.box (.t 2)⟩,⟨some 6,none,.alloc (.ints .u8 16)⟩])
  (.seq (.reg [2,5,7,8,19,0,9,32,11,36,12,40,1,10,61,13,14,64,15,68,16,112,6] [⟨some 17,none,.ld 16 true (.t 5)⟩,⟨some 7,none,.alloc (.ints .u8 16)⟩,⟨none,none,.st 16 (.t 7) (.t 17)⟩])
  (.seq (.seq (.reg [2,5,7,8,19,0,9,32,11,36,12,40,1,10,61,13,14,64,15,68,16,112,6] [⟨some 8,none,.mv (.c (.lit .i64 0))⟩])
  (.block 0 (.loop 0 (.seq (.seq (.reg [2,5,7,8,19,0,9,32,11,36,12,40,1,10,61,13,14,64,15,68,16,112,6] [⟨some 18,none,.mv (.t 8)⟩,⟨some 19,none,.cmp .lss (.t 18) (.c (.lit .i64 16))⟩])
   (.cond (.t 19)
     .skip
     (.exit 0)))
   (.seq (.block 1 (.dreg [2,5,7,8,19,0,9,32,11,36,12,40,1,10,61,13,14,64,15,68,16,112,6] [⟨⟨some 22,none,.mv (.t 8)⟩,[],[],none⟩,⟨⟨some 23,none,.iaA 16 1 (.t 7) (.t 22)⟩,[],[],none⟩,⟨⟨some 24,none,.ld 1 false (.t 23)⟩,[],[],none⟩,⟨⟨some 25,none,.mv (.t 0)⟩,[],[],none⟩,⟨⟨some 26,none,.mv (.t 8)⟩,[],[],none⟩,⟨⟨some 27,none,.iaS 1 (.t 25) (.t 26)⟩,[],[],none⟩,⟨⟨some 28,none,.ld 1 false (.t 27)⟩,[],[],none⟩,⟨⟨some 29,none,.ar .xor .u8 (.t 24) (.t 28)⟩,[],[],none⟩,⟨⟨some 30,none,.iaA 16 1 (.t 7) (.t 22)⟩,[],[],none⟩,⟨⟨none,none,.st 1 (.t 30) (.t 29)⟩,[],[],none⟩]))
   (.reg [2,5,7,8,19,0,9,32,11,36,12,40,1,10,61,13,14,64,15,68,16,112,6] [⟨some 20,none,.mv (.t 8)⟩,⟨some 21,none,.ar .add .i64 (.t 20) (.c (.lit .i64 1))⟩,⟨some 8,none,.mv (.t 21)⟩]))))))
  (.seq (.seq (.reg [2,5,7,8,19,0,9,32,11,36,12,40,1,10,61,13,14,64,15,68,16,112,6] [⟨some 9,none,.mv (.c (.lit .i64 1))⟩])
  (.block 2 (.loop 1 (.seq (.seq (.reg [2,5,7,8,19,0,9,32,11,36,12,40,1,10,61,13,14,64,15,68,16,112,6] [⟨some 31,none,.mv (.t 9)⟩,⟨some 32,none,.cmp .leq (.t 31) (.c (.lit .i64 10))⟩])
   (.cond (.t 32)
     .skip
     (.exit 2)))
   (.seq (.block 3 (.seq (.reg [2,5,7,8,19,0,9,32,11,36,12,40,1,10,61,13,14,64,15,68,16,112,6] [⟨some 10,none,.alloc (.ints .u8 16)⟩])
   (.seq (.seq (.reg [2,5,7,8,19,0,9,32,11,36,12,40,1,10,61,13,14,64,15,68,16,112,6] [⟨some 11,none,.mv (.c (.lit .i64 0))⟩])
   (.block 4 (.loop 2 (.seq (.seq (.reg [2,5,7,8,19,0,9,32,11,36,12,40,1,10,61,13,14,64,15,68,16,112,6] [⟨some 35,none,.mv (.t 11)⟩,⟨some 36,none,.cmp .lss (.t 35) (.c (.lit .i64 4))⟩])
    (.cond (.t 36)
      .skip
      (.exit 4)))
    (.seq (.block 5 (.seq (.reg [2,5,7,8,19,0,9,32,11,36,12,40,1,10,61,13,14,64,15,68,16,112,6] [⟨some 12,none,.mv (.c (.lit .i64 0))⟩])
    (.block 6 (.loop 3 (.seq (.seq (.reg [2,5,7,8,19,0,9,32,11,36,12,40,1,10,61,13,14,64,15,68,16,112,6] [⟨some 39,none,.mv (.t 12)⟩,⟨some 40,none,.cmp .lss (.t 39) (.c (.lit .i64 4))⟩])
     (.cond (.t 40)
       .skip
       (.exit 6)))
     (.seq (.block 7 (.reg [2,5,7,8,19,0,9,32,11,36,12,40,1,10,61,13,14,64,15,68,16,112,6] [⟨some 43,none,.mv (.t 11)⟩,⟨some 44,none,.ar .mul .i64 (.c (.lit .i64 4)) (.t 43)⟩,⟨some 45,none,.mv (.t 12)⟩,⟨some 46,none,.ar .add .i64 (.t 44) (.t 45)⟩,⟨some 47,none,.mv (.t 1)⟩,⟨some 48,none,.mv (.t 11)⟩,⟨some 49,none,.mv (.t 12)⟩,⟨some 50,none,.ar .add .i64 (.t 48) (.t 49)⟩,⟨some 51,none,.ar .rem .i64 (.t 50) (.c (.lit .i64 4))⟩,⟨some 52,none,.ar .mul .i64 (.c (.lit .i64 4)) (.t 51)⟩,⟨some 53,none,.mv (.t 12)⟩,⟨some 54,none,.ar .add .i64 (.t 52) (.t 53)⟩,⟨some 55,none,.iaA 16 1 (.t 7) (.t 54)⟩,⟨some 56,none,.ld 1 false (.t 55)⟩,⟨some 57,none,.iaS 1 (.t 47) (.t 56)⟩,⟨some 58,none,.ld 1 false (.t 57)⟩,⟨some 59,none,.iaA 16 1 (.t 10) (.t 46)⟩,⟨none,none,.st 1 (.t 59) (.t 58)⟩]))
     (.reg [2,5,7,8,19,0,9,32,11,36,12,40,1,10,61,13,14,64,15,68,16,112,6] [⟨some 41,none,.mv (.t 12)⟩,⟨some 42,none,.ar .add .i64 (.t 41) (.c (.lit .i64 1))⟩,⟨some 12,none,.mv (.t 42)⟩])))))))
    (.reg [2,5,7,8,19,0,9,32,11,36,12,40,1,10,61,13,14,64,15,68,16,112,6] [⟨some 37,none,.mv (.t 11)⟩,⟨some 38,none,.ar .add .i64 (.t 37) (.c (.lit .i64 1))⟩,⟨some 11,none,.mv (.t 38)⟩]))))))
   (.seq (.seq (.reg [2,5,7,8,19,0,9,32,11,36,12,40,1,10,61,13,14,64,15,68,16,112,6] [⟨some 60,none,.mv (.t 9)⟩,⟨some 61,none,.cmp .lss (.t 60) (.c (.lit .i64 10))⟩])
   (.cond (.t 61)
     (.seq (.reg [2,5,7,8,19,0,9,32,11,36,12,40,1,10,61,13,14,64,15,68,16,112,6] [⟨some 62,none,.ld 16 true (.t 10)⟩,⟨some 13,none,.alloc (.ints .u8 16)⟩,⟨none,none,.st 16 (.t 13) (.t 62)⟩])
     (.seq (.reg [2,5,7,8,19,0,9,32,11,36,12,40,1,10,61,13,14,64,15,68,16,112,6] [⟨some 14,none,.mv (.c (.lit .i64 0))⟩])
     (.block 8 (.loop 4 (.seq (.seq (.reg [2,5,7,8,19,0,9,32,11,36,12,40,1,10,61,13,14,64,15,68,16,112,6] [⟨some 63,none,.mv (.t 14)⟩,⟨some 64,none,.cmp .lss (.t 63) (.c (.lit .i64 4))⟩])
      (.cond (.t 64)
        .skip
        (.exit 8)))
      (.seq (.block 9 (.seq (.reg [2,5,7,8,19,0,9,32,11,36,12,40,1,10,61,13,14,64,15,68,16,112,6] [⟨some 15,none,.mv (.c (.lit .i64 0))⟩])
      (.block 10 (.loop 5 (.seq (.seq (.reg [2,5,7,8,19,0,9,32,11,36,12,40,1,10,61,13,14,64,15,68,16,112,6] [⟨some 67,none,.mv (.t 15)⟩,⟨some 68,none,.cmp .lss (.t 67) (.c (.lit .i64 4))⟩])
       (.cond (.t 68)
         .skip
         (.exit 10)))
       (.seq (.block 11 (.dreg [2,5,7,8,19,0,9,32,11,36,12,40,1,10,61,13,14,64,15,68,16,112,6] [⟨⟨some 71,none,.mv (.t 14)⟩,[81,10081,20081,30081,40081,50081,60081,70081,80081,90081,90,10090,20090,30090,40090,50090,60090,70090,80090,90090],[],none⟩,⟨⟨some 72,none,.ar .mul .i64 (.c (.lit .i64 4)) (.t 71)⟩,[81,10081,20081,30081,40081,50081,60081,70081,80081,90081,90,10090,20090,30090,40090,50090,60090,70090,80090,90090],[],none⟩,⟨⟨some 73,none,.mv (.t 15)⟩,[81,10081,20081,30081,40081,50081,60081,70081,80081,90081,90,10090,20090,30090,40090,50090,60090,70090,80090,90090],[],none⟩,⟨⟨some 74,none,.ar .add .i64 (.t 72) (.t 73)⟩,[81,10081,20081,30081,40081,50081,60081,70081,80081,90081,90,10090,20090,30090,40090,50090,60090,70090,80090,90090],[],none⟩,⟨⟨some 75,none,.mv (.t 14)⟩,[],[],none⟩,⟨⟨some 76,none,.ar .mul .i64 (.c (.lit .i64 4)) (.t 75)⟩,[],[],none⟩,⟨⟨some 77,none,.mv (.t 15)⟩,[],[],none⟩,⟨⟨some 78,none,.ar .add .i64 (.t 76) (.t 77)⟩,[],[],none⟩,⟨⟨some 79,none,.iaA 16 1 (.t 13) (.t 78)⟩,[],[],none⟩,⟨⟨some 80,none,.ld 1 false (.t 79)⟩,[],[],none⟩,⟨⟨some 81,none,.call 159 true [((.c (.lit .u8 2)),.v),((.t 80),.v)]⟩,[],[],none⟩,⟨⟨some 82,none,.mv (.t 14)⟩,[81,10081,20081,30081,40081,50081,60081,70081,80081,90081],[],none⟩,⟨⟨some 83,none,.ar .mul .i64 (.c (.lit .i64 4)) (.t 82)⟩,[81,10081,20081,30081,40081,50081,60081,70081,80081,90081],[],none⟩,⟨⟨some 84,none,.mv (.t 15)⟩,[81,10081,20081,30081,40081,50081,60081,70081,80081,90081],[],none⟩,⟨⟨some 85,none,.ar .add .i64 (.t 84) (.c (.lit .i64 1))⟩,[81,10081,20081,30081,40081,50081,60081,70081,80081,90081],[],none⟩,⟨⟨some 86,none,.ar .rem .i64 (.t 85) (.c (.lit .i64 4))⟩,[81,10081,20081,30081,40081,50081,60081,70081,80081,90081],[],none⟩,⟨⟨some 87,none,.ar .add .i64 (.t 83) (.t 86)⟩,[81,10081,20081,30081,40081,50081,60081,70081,80081,90081],[],none⟩,⟨⟨some 88,none,.iaA 16 1 (.t 13) (.t 87)⟩,[81,10081,20081,30081,40081,50081,60081,70081,80081,90081],[],none⟩,⟨⟨some 89,none,.ld 1 false (.t 88)⟩,[81,10081,20081,30081,40081,50081,60081,70081,80081,90081],[],none⟩,⟨⟨some 90,none,.call 159 true [((.c (.lit .u8 3)),.v),((.t 89),.v)]⟩,[],[],none⟩,⟨⟨some 91,none,.ar .xor .u8 (.t 81) (.t 90)⟩,[],[],none⟩,⟨⟨some 92,none,.mv (.t 14)⟩,[81,10081,20081,30081,40081,50081,60081,70081,80081,90081,90,10090,20090,30090,40090,50090,60090,70090,80090,90090],[],none⟩,⟨⟨some 93,none,.ar .mul .i64 (.c (.lit .i64 4)) (.t 92)⟩,[81,10081,20081,30081,40081,50081,60081,70081,80081,90081,90,10090,20090,30090,40090,50090,60090,70090,80090,90090],[],none⟩,⟨⟨some 94,none,.mv (.t 15)⟩,[81,10081,20081,30081,40081,50081,60081,70081,80081,90081,90,10090,20090,30090,40090,50090,60090,70090,80090,90090],[],none⟩,⟨⟨some 95,none,.ar .add .i64 (.t 94) (.c (.lit .i64 2))⟩,[81,10081,20081,30081,40081,50081,60081,70081,80081,90081,90,10090,20090,30090,40090,50090,60090,70090,80090,90090],[],none⟩,⟨⟨some 96,none,.ar .rem .i64 (.t 95) (.c (.lit .i64 4))⟩,[81,10081,20081,30081,40081,50081,60081,70081,80081,90081,90,10090,20090,30090,40090,50090,60090,70090,80090,90090],[],none⟩,⟨⟨some 97,none,.ar .add .i64 (.t 93) (.t 96)⟩,[81,10081,20081,30081,40081,50081,60081,70081,80081,90081,90,10090,20090,30090,40090,50090,60090,70090,80090,90090],[],none⟩,⟨⟨some 98,none,.iaA 16 1 (.t 13) (.t 97)⟩,[81,10081,20081,30081,40081,50081,60081,70081,80081,90081,90,10090,20090,30090,40090,50090,60090,70090,80090,90090],[],none⟩,⟨⟨some 99,none,.ld 1 false (.t 98)⟩,[81,10081,20081,30081,40081,50081,60081,70081,80081,90081,90,10090,20090,30090,40090,50090,60090,70090,80090,90090],[],none⟩,⟨⟨some 100,none,.ar .xor .u8 (.t 91) (.t 99)⟩,[],[],none⟩,⟨⟨some 101,none,.mv (.t 14)⟩,[81,10081,20081,30081,40081,50081,60081,70081,80081,90081,90,10090,20090,30090,40090,50090,60090,70090,80090,90090],[],none⟩,⟨⟨some 102,none,.ar .mul .i64 (.c (.lit .i64 4)) (.t 101)⟩,[81,10081,20081,30081,40081,50081,60081,70081,80081,90081,90,10090,20090,30090,40090,50090,60090,70090,80090,90090],[],none⟩,⟨⟨some 103,none,.mv (.t 15)⟩,[81,10081,20081,30081,40081,50081,60081,70081,80081,90081,90,10090,20090,30090,40090,50090,60090,70090,80090,90090],[],none⟩,⟨⟨some 104,none,.ar .add .i64 (.t 103) (.c (.lit .i64 3))⟩,[81,10081,20081,30081,40081,50081,60081,70081,80081,90081,90,10090,20090,30090,40090,50090,60090,70090,80090,90090],[],none⟩,⟨⟨some 105,none,.ar .rem .i64 (.t 104) (.c (.lit .i64 4))⟩,[81,10081,20081,30081,40081,50081,60081,70081,80081,90081,90,10090,20090,30090,40090,50090,60090,70090,80090,90090],[],none⟩,⟨⟨some 106,none,.ar .add .i64 (.t 102) (.t 105)⟩,[81,10081,20081,30081,40081,50081,60081,70081,80081,90081,90,10090,20090,30090,40090,50090,60090,70090,80090,90090],[],none⟩,⟨⟨some 107,none,.iaA 16 1 (.t 13) (.t 106)⟩,[81,10081,20081,30081,40081,50081,60081,70081,80081,90081,90,10090,20090,30090,40090,50090,60090,70090,80090,90090],[],none⟩,⟨⟨some 108,none,.ld 1 false (.t 107)⟩,[81,10081,20081,30081,40081,50081,60081,70081,80081,90081,90,10090,20090,30090,40090,50090,60090,70090,80090,90090],[],none⟩,⟨⟨some 109,none,.ar .xor .u8 (.t 100) (.t 108)⟩,[],[],none⟩,⟨⟨some 110,none,.iaA 16 1 (.t 10) (.t 74)⟩,[],[],none⟩,⟨⟨none,none,.st 1 (.t 110) (.t 109)⟩,[],[],none⟩]))
       (.reg [2,5,7,8,19,0,9,32,11,36,12,40,1,10,61,13,14,64,15,68,16,112,6] [⟨some 69,none,.mv (.t 15)⟩,⟨some 70,none,.ar .add .i64 (.t 69) (.c (.lit .i64 1))⟩,⟨some 15,none,.mv (.t 70)⟩])))))))
      (.reg [2,5,7,8,19,0,9,32,11,36,12,40,1,10,61,13,14,64,15,68,16,112,6] [⟨some 65,none,.mv (.t 14)⟩,⟨some 66,none,.ar .add .i64 (.t 65) (.c (.lit .i64 1))⟩,⟨some 14,none,.mv (.t 66)⟩])))))))
     .skip))
   (.seq (.reg [2,5,7,8,19,0,9,32,11,36,12,40,1,10,61,13,14,64,15,68,16,112,6] [⟨some 16,none,.mv (.c (.lit .i64 0))⟩])
   (.block 12 (.loop 6 (.seq (.seq (.reg [2,5,7,8,19,0,9,32,11,36,12,40,1,10,61,13,14,64,15,68,16,112,6] [⟨some 111,none,.mv (.t 16)⟩,⟨some 112,none,.cmp .lss (.t 111) (.c (.lit .i64 16))⟩])
    (.cond (.t 112)
      .skip
      (.exit 12)))
    (.seq (.block 13 (.dreg [2,5,7,8,19,0,9,32,11,36,12,40,1,10,61,13,14,64,15,68,16,112,6] [⟨⟨some 115,none,.mv (.t 16)⟩,[],[],none⟩,⟨⟨some 116,none,.mv (.t 16)⟩,[],[],none⟩,⟨⟨some 117,none,.iaA 16 1 (.t 10) (.t 116)⟩,[],[],none⟩,⟨⟨some 118,none,.ld 1 false (.t 117)⟩,[],[],none⟩,⟨⟨some 119,none,.mv (.t 0)⟩,[],[],none⟩,⟨⟨some 120,none,.mv (.t 9)⟩,[],[],none⟩,⟨⟨some 121,none,.ar .mul .i64 (.c (.lit .i64 16)) (.t 120)⟩,[],[],none⟩,⟨⟨some 122,none,.mv (.t 16)⟩,[],[],none⟩,⟨⟨some 123,none,.ar .add .i64 (.t 121) (.t 122)⟩,[],[],none⟩,⟨⟨some 124,none,.iaS 1 (.t 119) (.t 123)⟩,[],[],none⟩,⟨⟨some 125,none,.ld 1 false (.t 124)⟩,[],[],none⟩,⟨⟨some 126,none,.ar .xor .u8 (.t 118) (.t 125)⟩,[],[],none⟩,⟨⟨some 127,none,.iaA 16 1 (.t 7) (.t 115)⟩,[],[],none⟩,⟨⟨none,none,.st 1 (.t 127) (.t 126)⟩,[],[],none⟩]))
    (.reg [2,5,7,8,19,0,9,32,11,36,12,40,1,10,61,13,14,64,15,68,16,112,6] [⟨some 113,none,.mv (.t 16)⟩,⟨some 114,none,.ar .add .i64 (.t 113) (.c (.lit .i64 1))⟩,⟨some 16,none,.mv (.t 114)⟩]))))))))))
   (.reg [2,5,7,8,19,0,9,32,11,36,12,40,1,10,61,13,14,64,15,68,16,112,6] [⟨some 33,none,.mv (.t 9)⟩,⟨some 34,none,.ar .add .i64 (.t 33) (.c (.lit .i64 1))⟩,⟨some 9,none,.mv (.t 34)⟩]))))))
  (.seq (.reg [2,5,7,8,19,0,9,32,11,36,12,40,1,10,61,13,14,64,15,68,16,112,6] [⟨some 128,none,.ld 16 true (.t 7)⟩,⟨none,none,.st 16 (.t 6) (.t 128)⟩])
  .ret)))))⟩
def ic159 : IFn := ⟨2,28,[.t 4],
  (.seq (.reg [6,9,1,14,5,0,7,22,4] [⟨some 4,none,.mv (.c (.lit .u8 0))⟩])
  (.seq (.reg [6,9,1,14,5,0,7,22,4] [⟨some 5,none,.mv (.c (.lit .u8 0))⟩])
  (.seq (.seq (.reg [6,9,1,14,5,0,7,22,4] [⟨some 6,none,.mv (.c (.lit .i64 0))⟩])
  (.block 0 (.loop 0 (.seq (.seq (.reg [6,9,1,14,5,0,7,22,4] [⟨some 8,none,.mv (.t 6)⟩,⟨some 9,none,.cmp .lss (.t 8) (.c (.lit .i64 8))⟩])
   (.cond (.t 9)
     .skip
     (.exit 0)))
   (.seq (.block 1 (.seq (.seq (.reg [6,9,1,14,5,0,7,22,4] [⟨some 12,none,.mv (.t 1)⟩,⟨some 13,none,.ar .rem .u8 (.t 12) (.c (.lit .u8 2))⟩,⟨some 14,none,.cmp .eql (.t 13) (.c (.lit .u8 1))⟩])
   (.cond (.t 14)
     (.reg [6,9,1,14,5,0,7,22,4] [⟨some 15,none,.mv (.t 5)⟩,⟨some 16,none,.mv (.t 0)⟩,⟨some 17,none,.ar .xor .u8 (.t 15) (.t 16)⟩,⟨some 5,none,.mv (.t 17)⟩])
     .skip))
   (.seq (.reg [6,9,1,14,5,0,7,22,4] [⟨some 18,none,.mv (.t 0)⟩,⟨some 19,none,.cmp .geq (.t 18) (.c (.lit .u8 128))⟩,⟨some 7,none,.mv (.t 19)⟩])
   (.seq (.reg [6,9,1,14,5,0,7,22,4] [⟨some 20,none,.mv (.t 0)⟩,⟨some 21,none,.ar .mul .u8 (.t 20) (.c (.lit .u8 2))⟩,⟨some 0,none,.mv (.t 21)⟩])
   (.seq (.seq (.reg [6,9,1,14,5,0,7,22,4] [⟨some 22,none,.mv (.t 7)⟩])
   (.cond (.t 22)
     (.reg [6,9,1,14,5,0,7,22,4] [⟨some 23,none,.mv (.t 0)⟩,⟨some 24,none,.ar .xor .u8 (.t 23) (.c (.lit .u8 27))⟩,⟨some 0,none,.mv (.t 24)⟩])
     .skip))
   (.reg [6,9,1,14,5,0,7,22,4] [⟨some 25,none,.mv (.t 1)⟩,⟨some 26,none,.ar .quo .u8 (.t 25) (.c (.lit .u8 2))⟩,⟨some 1,none,.mv (.t 26)⟩]))))))
   (.reg [6,9,1,14,5,0,7,22,4] [⟨some 10,none,.mv (.t 6)⟩,⟨some 11,none,.ar .add .i64 (.t 10) (.c (.lit .i64 1))⟩,⟨some 6,none,.mv (.t 11)⟩]))))))
  (.seq (.reg [6,9,1,14,5,0,7,22,4] [⟨some 27,none,.mv (.t 5)⟩,⟨some 4,none,.mv (.t 27)⟩])
  .ret))))⟩
def ic162 : IFn := ⟨2,17,[.t 4],
  (.seq (.reg [1,0,5,4] [⟨some 4,none,.mv (.c (.lit .u8 0))⟩])
  (.seq (.reg [1,0,5,4] [⟨some 6,none,.mv (.t 1)⟩,⟨some 7,none,.cv .u64 (.t 6)⟩,⟨some 8,none,.ar .and .u64 (.t 7) (.c (.lit .u64 7))⟩,⟨some 5,none,.mv (.t 8)⟩])
  (.seq (.reg [1,0,5,4] [⟨some 9,none,.mv (.t 0)⟩,⟨some 10,none,.mv (.t 5)⟩,⟨some 11,none,.shf .shl .u8 (.t 9) (.t 10)⟩,⟨some 12,none,.mv (.t 0)⟩,⟨some 13,none,.mv (.t 5)⟩,⟨some 14,none,.ar .sub .u64 (.c (.lit .u64 8)) (.t 13)⟩,⟨some 15,none,.shf .shr .u8 (.t 12) (.t 14)⟩,⟨some 16,none,.ar .or .u8 (.t 11) (.t 15)⟩,⟨some 4,none,.mv (.t 16)⟩])
  .ret)))⟩
theorem ok18 : fnOk Tryd.prog 18 = true := by kernel_rfl
theorem co18 : comp Tryd.prog pu 18 = some ic18 := by kernel_rfl
theorem ok19 : fnOk Tryd.prog 19 = true := by kernel_rfl
theorem ok20 : fnOk Tryd.prog 20 = true := by kernel_rfl
theorem co20 : comp Tryd.prog pu 20 = some ic20 := by kernel_rfl
theorem ok64 : fnOk Tryd.prog 64 = true := by kernel_rfl
theorem co64 : comp Tryd.prog pu 64 = some ic64 := by kernel_rfl
theorem ok65 : fnOk Tryd.prog 65 = true := by kernel_rfl
theorem co65 : comp Tryd.prog pu 65 = some ic65 := by kernel_rfl
theorem ok66 : fnOk Tryd.prog 66 = true := by kernel_rfl
theorem co66 : comp Tryd.prog pu 66 = some ic66 := by kernel_rfl
theorem ok67 : fnOk Tryd.prog 67 = true := by kernel_rfl
theorem co67 : comp Tryd.prog pu 67 = some ic67 := by kernel_rfl
theorem ok68 : fnOk Tryd.prog 68 = true := by kernel_rfl
theorem co68 : comp Tryd.prog pu 68 = some ic68 := by kernel_rfl
theorem ok69 : fnOk Tryd.prog 69 = true := by kernel_rfl
theorem co69 : comp Tryd.prog pu 69 = some ic69 := by kernel_rfl
theorem ok70 : fnOk Tryd.prog 70 = true := by kernel_rfl
theorem co70 : comp Tryd.prog pu 70 = some ic70 := by kernel_rfl
theorem ok71 : fnOk Tryd.prog 71 = true := by kernel_rfl
theorem co71 : comp Tryd.prog pu 71 = some ic71 := by kernel_rfl
theorem ok72 : fnOk Tryd.prog 72 = true := by kernel_rfl
theorem co72 : comp Tryd.prog pu 72 = some ic72 := by kernel_rfl
theorem ok73 : fnOk Tryd.prog 73 = true := by kernel_rfl
theorem co73 : comp Tryd.prog pu 73 = some ic73 := by kernel_rfl
theorem ok74 : fnOk Tryd.prog 74 = true := by kernel_rfl
theorem co74 : comp Tryd.prog pu 74 = some ic74 := by kernel_rfl
theorem ok129 : fnOk Tryd.prog 129 = true := by kernel_rfl
theorem co129 : comp Tryd.prog pu 129 = some ic129 := by kernel_rfl
theorem ok130 : fnOk Tryd.prog 130 = true := by kernel_rfl
theorem co130 : comp Tryd.prog pu 130 = some ic130 := by kernel_rfl
theorem ok131 : fnOk Tryd.prog 131 = true := by kernel_rfl
theorem co131 : comp Tryd.prog pu 131 = some ic131 := by kernel_rfl
theorem ok132 : fnOk Tryd.prog 132 = true := by kernel_rfl
theorem co132 : comp Tryd.prog pu 132 = some ic132 := by kernel_rfl
theorem ok133 : fnOk Tryd.prog 133 = true := by kernel_rfl
theorem co133 : comp Tryd.prog pu 133 = some ic133 := by kernel_rfl
theorem ok134 : fnOk Tryd.prog 134 = true := by kernel_rfl
theorem co134 : comp Tryd.prog pu 134 = some ic134 := by kernel_rfl
theorem ok135 : fnOk Tryd.prog 135 = true := by kernel_rfl
theorem co135 : comp Tryd.prog pu 135 = some ic135 := by kernel_rfl
theorem ok147 : fnOk Tryd.prog 147 = true := by kernel_rfl
theorem co147 : comp Tryd.prog pu 147 = some ic147 := by kernel_rfl
theorem ok148 : fnOk Tryd.prog 148 = true := by kernel_rfl
theorem co148 : comp Tryd.prog pu 148 = some ic148 := by kernel_rfl
theorem ok149 : fnOk Tryd.prog 149 = true := by kernel_rfl
theorem co149 : comp Tryd.prog pu 149 = some ic149 := by kernel_rfl
theorem ok150 : fnOk Tryd.prog 150 = true := by kernel_rfl
theorem co150 : comp Tryd.prog pu 150 = some ic150 := by kernel_rfl
theorem ok153 : fnOk Tryd.prog 153 = true := by kernel_rfl
theorem co153 : comp Tryd.prog pu 153 = some ic153 := by kernel_rfl
theorem ok154 : fnOk Tryd.prog 154 = true := by kernel_rfl
theorem co154 : comp Tryd.prog pu 154 = some ic154 := by kernel_rfl
theorem ok155 : fnOk Tryd.prog 155 = true := by kernel_rfl
theorem co155 : comp Tryd.prog pu 155 = some ic155 := by kernel_rfl
theorem ok156 : fnOk Tryd.prog 156 = true := by kernel_rfl
theorem co156 : comp Tryd.prog pu 156 = some ic156 := by kernel_rfl
theorem ok157 : fnOk Tryd.prog 157 = true := by kernel_rfl
theorem co157 : comp Tryd.prog pu 157 = some ic157 := by kernel_rfl
theorem ok158 : fnOk Tryd.prog 158 = true := by kernel_rfl
theorem co158 : comp Tryd.prog pu 158 = some ic158 := by kernel_rfl
theorem ok159 : fnOk Tryd.prog 159 = true := by kernel_rfl
theorem co159 : comp Tryd.prog pu 159 = some ic159 := by kernel_rfl
theorem ok162 : fnOk Tryd.prog 162 = true := by kernel_rfl
theorem co162 : comp Tryd.prog pu 162 = some ic162 := by kernel_rfl
end Go.Cx.Rb
/- CxbE1 -/
namespace Go.Cx.Rb
open Go Go.Cx Go.Proofs
theorem apf_e {α β : Type} (f : α → β) (x : α) : apf α β f x = f x := congrArg (fun g : α → β => g x) (rfl : apf α β f = f)
theorem cmF_e : cmF .eql = eqI := rfl
theorem cmF_n : cmF .neq = neI := rfl
theorem cmF_g : cmF .geq = geI := rfl
theorem cmF_l : cmF .lss = ltI := rfl
def twI (x : Int) : Int := if x < 128 then bshl .u8 x 1 else bxor .u8 (bshl .u8 x 1) 27
def cTw (ap : AP) : Ctr
  | [.v (.int .u8 x)] => .ok ⟨.int .u8 (ap _ _ twI x), [], []⟩
  | _ => .fail 420
set_option maxRecDepth 20000 in
set_option maxHeartbeats 2000000 in
theorem vc154 (args : List Arg) (out : Out) (h : (cTw apf args).to out) (hok : okAs args) :
    args.length = ic154.nargs ∧ ic154.nargs ≤ ic154.ntmps ∧ ∃ A, run apf [] A ic154.body (fnQ apf args out ic154.res) (st0 G1 true args) := by
  unfold cTw at h
  split at h
  · rename_i x
    cases h
    refine ⟨rfl, by decide, [], ?_⟩
    show run apf _ _ _ _ (st0 [(1, .ints .u32 64 kk)] _ _)
    generalize hK : kk = K
    generalize hap : apf = ap
    cbv
    repeat' first
      | exact True.intro
      | (intro (hh : _ = true); first | with_reducible exact False.elim (tf_no (Eq.trans (Eq.symm (show _ = true by assumption)) hh)) | cbv)
      | (intro (hh : _ = false); first | with_reducible exact False.elim (tf_no (Eq.trans (Eq.symm hh) (show _ = false by assumption))) | cbv)
      | with_reducible refine And.intro ?_ ?_
      | (refine ⟨0, Nat.zero_le _, ?_⟩; cbv)
    all_goals subst hap
    all_goals try simp only [apf_e, cmF_g, ge_t, ge_f, eqI'] at *
    all_goals first
      | exact (if_neg (by omega))
      | exact (if_pos (by omega))
      | skip
  · exact h.elim
set_option maxHeartbeats 2000000 in
theorem s154 : Sound Tryd.prog G1 154 (pu 154) (fun args => cTw apf (args.map litA)) := (fn_sound rfl Tryd.call154 ok154 co154 env_nil vc154).lits
def rot8 (x k : Int) : Int := bor .u8 (bshl .u8 x (band .u64 (wcv .u64 k) 7)) (bshr .u8 x (wsub .u64 8 (band .u64 (wcv .u64 k) 7)))
def cRot8 (ap : AP) : Ctr
  | [.v (.int .u8 x), .v (.int .i64 k)] => .ok ⟨.int .u8 (ap _ _ (ap _ _ rot8 x) k), [], []⟩
  | _ => .fail 421
set_option maxRecDepth 20000 in
set_option maxHeartbeats 2000000 in
theorem vc162 (args : List Arg) (out : Out) (h : (cRot8 apf args).to out) (hok : okAs args) :
    args.length = ic162.nargs ∧ ic162.nargs ≤ ic162.ntmps ∧ ∃ A, run apf [] A ic162.body (fnQ apf args out ic162.res) (st0 G1 true args) := by
  unfold cRot8 at h
  split at h
  · rename_i x k
    cases h
    refine ⟨rfl, by decide, [], ?_⟩
    show run apf _ _ _ _ (st0 [(1, .ints .u32 64 kk)] _ _)
    generalize hK : kk = K
    generalize hap : apf = ap
    cbv
    repeat' first
      | exact True.intro
      | (intro (hh : _ = true); first | with_reducible exact False.elim (tf_no (Eq.trans (Eq.symm (show _ = true by assumption)) hh)) | cbv)
      | (intro (hh : _ = false); first | with_reducible exact False.elim (tf_no (Eq.trans (Eq.symm hh) (show _ = false by assumption))) | cbv)
      | with_reducible refine And.intro ?_ ?_
      | (refine ⟨0, Nat.zero_le _, ?_⟩; cbv)
    all_goals subst hap
    all_goals try simp only [apf_e, eqI'] at *
    all_goals first
      | exact (inR_u64.1 (inR_wrap .u64 _)).1
      | exact rfl
      | skip
  · exact h.elim
set_option maxHeartbeats 2000000 in
theorem s162 : Sound Tryd.prog G1 162 (pu 162) (fun args => cRot8 apf (args.map litA)) := (fn_sound rfl Tryd.call162 ok162 co162 env_nil vc162).lits
def tA (a : Int) : Nat → Int
  | 0 => a
  | i + 1 => if tA a i < 128 then wmul .u8 (tA a i) 2 else bxor .u8 (wmul .u8 (tA a i) 2) 27
def tB (b : Int) : Nat → Int
  | 0 => b
  | i + 1 => wquo .u8 (tB b i) 2
def tO (a b : Int) : Nat → Int
  | 0 => 0
  | i + 1 => if wrem .u8 (tB b i) 2 = 1 then bxor .u8 (tO a b i) (tA a i) else tO a b i
def timesI (a b : Int) : Int := tO a b 8
def cTimes (ap : AP) : Ctr
  | [.v (.int .u8 a), .v (.int .u8 b)] => .ok ⟨.int .u8 (ap _ _ (ap _ _ timesI a) b), [], []⟩
  | _ => .fail 422
def aTimes (ap : AP) (a b : Int) : List (Nat × Ann) := [
  (0, .inv Nat (fun i => ⟨[(0, .int .u8 (ap _ _ (ap _ _ tA a) i)), (1, .int .u8 (ap _ _ (ap _ _ tB b) i)), (5, .int .u8 (ap _ _ (ap _ _ (ap _ _ tO a) b) i)), (6, .int .i64 (ap _ _ lenI i))], [], []⟩)
    (fun i => i ≤ 8) (fun i => 8 - i))]
set_option maxRecDepth 20000 in
set_option maxHeartbeats 2000000 in
theorem vc159 (args : List Arg) (out : Out) (h : (cTimes apf args).to out) (hok : okAs args) :
    args.length = ic159.nargs ∧ ic159.nargs ≤ ic159.ntmps ∧ ∃ A, run apf [] A ic159.body (fnQ apf args out ic159.res) (st0 G1 true args) := by
  unfold cTimes at h
  split at h
  · rename_i a b
    cases h
    refine ⟨rfl, by decide, aTimes apf a b, ?_⟩
    show run apf _ _ _ _ (st0 [(1, .ints .u32 64 kk)] _ _)
    generalize hK : kk = K
    generalize hap : apf = ap
    cbv
    repeat' first
      | exact True.intro
      | (intro (hh : _ = true); first | with_reducible exact False.elim (tf_no (Eq.trans (Eq.symm (show _ = true by assumption)) hh)) | cbv)
      | (intro (hh : _ = false); first | with_reducible exact False.elim (tf_no (Eq.trans (Eq.symm hh) (show _ = false by assumption))) | cbv)
      | with_reducible refine And.intro ?_ ?_
      | (refine ⟨0, Nat.zero_le _, ?_⟩; cbv)
    all_goals first
      | (intro (i : Nat) hi _ _
         have hi : i ≤ 8 := hi
         cbv
         repeat' first
           | exact True.intro
           | (intro (hh : _ = true); first | with_reducible exact False.elim (tf_no (Eq.trans (Eq.symm (show _ = true by assumption)) hh)) | cbv)
           | (intro (hh : _ = false); first | with_reducible exact False.elim (tf_no (Eq.trans (Eq.symm hh) (show _ = false by assumption))) | cbv)
           | with_reducible refine And.intro ?_ ?_
           | (refine ⟨i + 1, ?_, (?_ : _ < _), ?_⟩; rotate_left 2; try cbv)
           | (refine ⟨0, Nat.zero_le _, ?_⟩; cbv))
      | skip
    all_goals subst hap
    all_goals try simp only [apf_e, cmF_e, cmF_g, cmF_l, lt_t, lt_f, ge_t, ge_f, eq_t, eq_f, eqI', lenI] at *
    all_goals first
      | omega
      | exact (inc_i64 (by omega)).symm
      | (show 8 - (i + 1) < 8 - i; omega)
      | exact rfl
      | exact (if_pos (by assumption))
      | exact (if_neg (by assumption))
      | exact (if_neg (by omega))
      | exact (if_pos (by omega))
      | (have e8 : i = 8 := by omega
         subst e8
         exact rfl)
      | skip
  · exact h.elim
set_option maxHeartbeats 2000000 in
theorem s159 : Sound Tryd.prog G1 159 (pu 159) (fun args => cTimes apf (args.map litA)) := (fn_sound rfl Tryd.call159 ok159 co159 env_nil vc159).lits
end Go.Cx.Rb
