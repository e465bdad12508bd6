/-
  Bytes that are read from the front, numbers in bytes: in plain Lean.
-/
import Derived.Test.YtojllgpnhaaagaaDoorCxF
import Derived.Test.YtojllgpnhaaagaaDoorCxbH
import Derived.Test.YtojllgpnhaaagaaDoorCxI
import Derived.Test.YtojllgpnhaaagaaDoorCxbB
namespace Go.Cx.Rb
open Go Go.Cx

/-- may n bytes be read? -/
def okR (l : List Int) (s : Bool) (k : Int) : Bool := !s && decide (0 ≤ k) && decide (k ≤ l.length)
theorem okR_t {l : List Int} {s : Bool} {k : Int} : okR l s k = true ↔ s = false ∧ 0 ≤ k ∧ k ≤ l.length := by simp [okR, and_assoc]
theorem okR_f {l : List Int} {s : Bool} {k : Int} (h : s = true ∨ k < 0 ∨ (l.length : Int) < k) : okR l s k = false := by
  cases e : okR l s k with
  | false => rfl
  | true => obtain ⟨h1, h2, h3⟩ := okR_t.1 e; subst h1; simp at h; omega
def tkL (l : List Int) (s : Bool) (k : Int) : List Int := if okR l s k then l.take k.toNat else []
def rsL (l : List Int) (s : Bool) (k : Int) : List Int := if okR l s k then l.drop k.toNat else l
def flS (l : List Int) (s : Bool) (k : Int) : Bool := !okR l s k
def allZ (l : List Int) : Bool := decide (∀ x ∈ l, x = 0)
def zrS (l : List Int) (s : Bool) (k : Int) : Bool := !(okR l s k && allZ (tkL l s k))
/-- the number that bytes say -/
def numL (l : List Int) : Int := l.foldl (fun v x => v * 256 + x) 0
def endE (l : List Int) (s : Bool) : Int := if s || decide (0 < l.length) then 12 else 0
/-- a reader's content -/
def rdV (n : Nat) (l : List Int) (s : Bool) : V := .cat 1 1 (.dsl n 1 (.ints .u8 n l)) (.bool s)
def rdA (ap : AP) (l : List Int) (s : Bool) : V := rdV (ap _ _ llen l) l s
/-- bytes for good -/
def dslA (ap : AP) (l : List Int) : V := .dsl (ap _ _ llen l) 1 (.ints .u8 (ap _ _ llen l) l)

theorem subL_take {l : List Int} {k : Nat} : subL l 0 k = l.take k := by simp [subL]
theorem subL_drop {l : List Int} {k m : Nat} (h : l.length ≤ k + m) : subL l k m = l.drop k := by
  rw [subL, List.take_of_length_le]; simp; omega

theorem numL_app (l : List Int) (x : Int) : numL (l ++ [x]) = numL l * 256 + x := by simp [numL]
theorem foldN_rng : ∀ (l : List Int) (v : Int), 0 ≤ v → (∀ y ∈ l, inR .u8 y) → 0 ≤ l.foldl (fun v x => v * 256 + x) v ∧ l.foldl (fun v x => v * 256 + x) v < (v + 1) * 256 ^ l.length
  | [], v, hv, _ => by simp; omega
  | x :: l, v, hv, h => by
    have hx : 0 ≤ x ∧ x ≤ 255 := h x (by simp)
    obtain ⟨h1, h2⟩ := foldN_rng l (v * 256 + x) (by omega) fun y hy => h y (by simp [hy])
    refine ⟨h1, Int.lt_of_lt_of_le h2 ?_⟩
    rw [List.length_cons, Int.pow_succ, ← Int.mul_assoc, Int.mul_right_comm]
    refine Int.mul_le_mul_of_nonneg_right (by omega) ?_
    exact Int.pow_nonneg (by omega)
theorem numL_rng (l : List Int) (h : ∀ y ∈ l, inR .u8 y) : 0 ≤ numL l ∧ numL l < 256 ^ l.length := by
  have := foldN_rng l 0 (by omega) h
  simpa [numL] using this
theorem tkL_rng {l : List Int} {s : Bool} {k : Int} (h : ∀ y ∈ l, inR .u8 y) : ∀ y ∈ tkL l s k, inR .u8 y := by
  intro y hy
  unfold tkL at hy
  split at hy
  · exact h y (List.mem_of_mem_take hy)
  · simp at hy
theorem rsL_rng {l : List Int} {s : Bool} {k : Int} (h : ∀ y ∈ l, inR .u8 y) : ∀ y ∈ rsL l s k, inR .u8 y := by
  intro y hy
  unfold rsL at hy
  split at hy
  · exact h y (List.mem_of_mem_drop hy)
  · exact h y hy
theorem tkL_le {l : List Int} {s : Bool} {k : Int} : ((tkL l s k).length : Int) ≤ max k 0 := by
  unfold tkL
  split
  · simp; omega
  · simp; omega

theorem or_shift {v x : Int} (hv : 0 ≤ v) (hv2 : v < 256 ^ 7) (hx : 0 ≤ x ∧ x ≤ 255) : bor .u64 (bshl .u64 v 8) (wcv .u64 x) = v * 256 + x := by
  obtain ⟨a, rfl⟩ := Int.eq_ofNat_of_zero_le hv
  obtain ⟨b, rfl⟩ := Int.eq_ofNat_of_zero_le hx.1
  have ha : a < 256 ^ 7 := by omega
  have hb : b < 256 := by omega
  have e1 : bshl .u64 (a : Int) 8 = ((a * 256 : Nat) : Int) := by
    show IntKind.u64.wrap ((a : Int) * 2 ^ (min 8 64)) = _
    rw [u64_emod]
    have : (2 : Int) ^ (min 8 64) = 256 := by decide
    rw [this]
    omega
  have e2 : wcv .u64 (b : Int) = (b : Int) := by
    show IntKind.u64.wrap (b : Int) = _
    rw [u64_emod]; omega
  rw [e1, e2]
  show IntKind.u64.wrap (((BitVec.ofInt 64 ((a * 256 : Nat) : Int) ||| BitVec.ofInt 64 (b : Int)).toNat : Nat) : Int) = _
  rw [BitVec.ofInt_natCast, BitVec.ofInt_natCast, BitVec.toNat_or, BitVec.toNat_ofNat, BitVec.toNat_ofNat, Nat.mod_eq_of_lt (by omega), Nat.mod_eq_of_lt (by omega), u64_emod]
  have e3 : a * 256 ||| b = a * 256 + b := by
    have := Nat.shiftLeft_add_eq_or_of_lt (b := b) (i := 8) (by simpa using hb) a
    rw [Nat.shiftLeft_eq] at this
    exact this.symm
  rw [e3]
  omega
end Go.Cx.Rb

/- The readers of bytes keep their contracts. -/
namespace Go.Cx.Rb
open Go Go.Cx Go.Proofs

/-- 'slices.Clone' of bytes -/
def cClone (ap : AP) : Ctr
  | [.b n 1 (.ints .u8 _ l)] => .chk (ap _ _ (ap _ _ ltN 0) n) <| .chk (ap _ _ (ap _ _ leN n) 140737488355328) (.ok ⟨.sl 0 [] 0 n 1 none, [], [.ints .u8 n l]⟩)
  | _ => .fail 300
theorem vc110 (args : List Arg) (out : Out) (h : (cClone apf args).to out) (hok : okAs args) :
    args.length = ic110.nargs ∧ ic110.nargs ≤ ic110.ntmps ∧ ∃ A, run apf [] A ic110.body (fnQ apf args out ic110.res) (st0 G1 true args) := by
  unfold cClone at h
  split at h
  · rename_i n m l
    obtain ⟨h1, h2, h⟩ := h
    cases h
    have h1 : 0 < n := h1
    have h2 : n ≤ 140737488355328 := h2
    obtain ⟨⟨hn, ⟨rfl, _⟩, hl⟩, _⟩ := hok
    refine ⟨rfl, by decide, [], ?_⟩
    have sl : subL l 0 m = l := subL_all (Nat.le_of_eq hl.1)
    show run apf _ _ _ _ (st0 [(1, .ints .u32 64 kk)] _ _)
    generalize hK : kk = K
    generalize hap : apf = ap
    cbv
    and_intros
    all_goals subst hap
    all_goals try simp only [apf, ltN, leN, addN, appN, V.cnt, sl, eqL', eqN, Nat.zero_add]
    all_goals first
      | exact True.intro
      | omega
  · exact h.elim
theorem s110 : Sound Tryd.prog G1 110 (pu 110) (cClone apf) := fn_sound rfl Tryd.call110 ok110 co110 env_nil vc110
/-- .. for good -/
def cCloneF (ap : AP) : Ctr
  | [.b n 1 (.ints .u8 _ l)] => .chk (ap _ _ (ap _ _ ltN 0) n) <| .chk (ap _ _ (ap _ _ leN n) 140737488355328) (.ok ⟨.dsl n 1 (.ints .u8 n l), [], []⟩)
  | _ => .fail 300
theorem s110f : Sound Tryd.prog G1 110 (pu 110) (cCloneF apf) := s110.freeze fun args out' h => by
  unfold cCloneF at h
  split at h
  · rename_i n m l
    obtain ⟨h1, h2, h⟩ := h
    cases h
    exact ⟨⟨.sl 0 [] 0 n 1 none, [], [.ints .u8 n l]⟩, ⟨h1, h2, rfl⟩, by show 1 ≤ 1000; decide, rfl, rfl, by simp [V.clo, V.noown], by simp, rfl, rfl, _, rfl, ⟨rfl, rfl⟩, rfl⟩
  · exact h.elim

/-- 'wire.Read' -/
def cRead (ap : AP) : Ctr
  | [.b n 1 (.ints .u8 _ l)] => .chk (ap _ _ (ap _ _ ltN 0) n) <| .chk (ap _ _ (ap _ _ leN n) 140737488355328) (.ok ⟨.ptr 0 [], [], [rdV n l false]⟩)
  | _ => .fail 301
theorem vc95 (args : List Arg) (out : Out) (h : (cRead apf args).to out) (hok : okAs args) :
    args.length = ic95.nargs ∧ ic95.nargs ≤ ic95.ntmps ∧ ∃ A, run apf [(110, cCloneF apf)] A ic95.body (fnQ apf args out ic95.res) (st0 G1 true args) := by
  unfold cRead at h
  split at h
  · rename_i n m l
    obtain ⟨h1, h2, h⟩ := h
    cases h
    have h1 : 0 < n := h1
    have h2 : n ≤ 140737488355328 := h2
    obtain ⟨⟨hn, ⟨rfl, _⟩, hl⟩, _⟩ := hok
    refine ⟨rfl, by decide, [], ?_⟩
    have sl : subL l 0 m = l := subL_all (Nat.le_of_eq hl.1)
    show run apf _ _ _ _ (st0 [(1, .ints .u32 64 kk)] _ _)
    generalize hK : kk = K
    generalize hap : apf = ap
    cbv
    and_intros
    all_goals subst hap
    all_goals try simp only [apf, ltN, leN, addN, V.cnt, sl, eqL', eqN, eqB', Nat.zero_add]
    all_goals first
      | exact True.intro
      | omega
  · exact h.elim
theorem s95 : Sound Tryd.prog G1 95 (pu 95) (cRead apf) := fn_sound rfl Tryd.call95 ok95 co95 (env_cons s110f env_nil) vc95

/-- 'take' -/
def cTake (ap : AP) : Ctr
  | [.o (.cat 1 1 (.dsl n 1 (.ints .u8 n' l)) (.bool s)), .v (.int .i64 k)] => .chk (ap _ _ (ap _ _ eqN n) n') <| .ok ⟨dslA ap (ap _ _ (ap _ _ (ap _ _ tkL l) s) k), [rdA ap (ap _ _ (ap _ _ (ap _ _ rsL l) s) k) (ap _ _ (ap _ _ (ap _ _ flS l) s) k)], []⟩
  | _ => .fail 302
theorem vc143 (args : List Arg) (out : Out) (h : (cTake apf args).to out) (hok : okAs args) :
    args.length = ic143.nargs ∧ ic143.nargs ≤ ic143.ntmps ∧ ∃ A, run apf [] A ic143.body (fnQ apf args out ic143.res) (st0 G1 false args) := by
  unfold cTake at h
  split at h
  · rename_i n0 n l s k
    obtain ⟨h1, h⟩ := h
    cases h
    have h1 : n0 = n := h1
    subst h1
    obtain ⟨⟨hl, _⟩, hk, _⟩ := hok
    refine ⟨rfl, by decide, [], ?_⟩
    show run apf _ _ _ _ (st0 [(1, .ints .u32 64 kk)] _ _)
    generalize hK : kk = K
    generalize hap : apf = ap
    cbv
    repeat' first
      | exact True.intro
      | (intro _; cbv)
      | (refine And.intro ?_ ?_)
    all_goals subst hap
    all_goals simp only [apf, cmF, lt_t, lt_f, gt_t, gt_f, natI, leN, eqN, eqL', eqB', llen, subN, lenI] at *
    all_goals have hl' : l.length = n0 := hl.1
    all_goals first
      | assumption
      | omega
      | (have e : okR l s k = false := okR_f (.inl (by assumption))
         simp [tkL, rsL, flS, e, hl'])
      | (have e : okR l s k = false := okR_f (.inr (.inl (by omega)))
         simp [tkL, rsL, flS, e, hl'])
      | (have e : okR l s k = false := okR_f (.inr (.inr (by omega)))
         simp [tkL, rsL, flS, e, hl'])
      | (have e : okR l s k = true := okR_t.2 ⟨by assumption, by omega, by omega⟩
         have e2 : k.toNat ≤ n0 := by omega
         simp only [tkL, rsL, flS, e, if_true, subL, Bool.not_true]
         first
           | (symm; assumption)
           | (simp [hl', e2]; done)
           | (rw [List.take_of_length_le]; simp [hl']))
  · exact h.elim
end Go.Cx.Rb

/- The readers of bytes keep their contracts: noughts, bytes, the end. -/
namespace Go.Cx.Rb
open Go Go.Cx Go.Proofs

abbrev cTakeL : Ctr := fun args => cTake apf (args.map litA)
theorem s143 : Sound Tryd.prog G1 143 (pu 143) (cTake apf) := fn_sound rfl Tryd.call143 ok143 co143 env_nil vc143

theorem allZ_f {l : List Int} {i : Nat} (h : nthI l i ≠ 0) : allZ l = false := by
  refine decide_eq_false fun hz => h ?_
  unfold nthI
  rw [List.getD_eq_getElem?_getD]
  cases hi : l[i]? with
  | none => rfl
  | some x => exact hz x (List.mem_of_getElem? hi)
theorem allZ_t {l : List Int} (h : ∀ j, j < l.length → nthI l j = 0) : allZ l = true := by
  refine decide_eq_true fun x hx => ?_
  obtain ⟨i, hi, rfl⟩ := List.mem_iff_getElem.1 hx
  have := h i hi
  simpa [nthI, List.getD_eq_getElem?_getD, hi] using this

/-- 'wire.Zero' -/
def cZero (ap : AP) : Ctr
  | [.b _ 1 (.ints .u8 _ l)] => .ok ⟨.bool (ap _ _ allZ l), [], []⟩
  | _ => .fail 303
def aZero (n : Nat) (l : List Int) (ap : AP) : List (Nat × Ann) := [
  (0, .inv Nat (fun i => ⟨[(5, .sl (parH 0) [] 0 n 1 none), (6, .int .i64 (ap _ _ lenI n)), (7, .int .i64 (ap _ _ lenI i))], [(parH 0, ⟨.bor, .ints .u8 n l⟩)], []⟩)
    (fun i => i ≤ n ∧ ∀ j, j < i → nthI l j = 0) (fun i => n - i))]
theorem vc94 (args : List Arg) (out : Out) (h : (cZero apf args).to out) (hok : okAs args) :
    args.length = ic94.nargs ∧ ic94.nargs ≤ ic94.ntmps ∧ ∃ A, run apf [] A ic94.body (fnQ apf args out ic94.res) (st0 G1 true args) := by
  unfold cZero at h
  split at h
  · rename_i n m l
    cases h
    obtain ⟨⟨hn, ⟨rfl, _⟩, hl⟩, _⟩ := hok
    refine ⟨rfl, by decide, aZero m l apf, ?_⟩
    show run apf _ _ _ _ (st0 [(1, .ints .u32 64 kk)] _ _)
    generalize hK : kk = K
    generalize hap : apf = ap
    cbv
    refine ⟨⟨0, ⟨Nat.zero_le _, fun j hj => by omega⟩, ?_⟩, ?_⟩
    · cbv
      subst hap
      exact ⟨rfl, rfl, rfl, rfl, rfl, rfl, trivial⟩
    · intro (i : Nat) hi _ _
      obtain ⟨hi, hz⟩ : i ≤ m ∧ ∀ j, j < i → nthI l j = 0 := hi
      cbv
      refine ⟨fun h0 => ?_, fun h0 => ?_⟩
      · have b0 : i < m := by
          have : (i : Int) < (m : Int) := by subst hap; exact lt_t.1 h0
          omega
        cbv
        repeat' first
          | exact True.intro
          | (intro _; cbv)
          | (refine And.intro ?_ ?_)
        rotate_right 1
        · have hx : nthI l i = 0 := by
            subst hap
            simp only [apf, cmF, ne_f, natI, addN, lenI, Int.toNat_natCast, Nat.zero_add] at *
            assumption
          refine ⟨i + 1, ⟨by omega, fun j hj => ?_⟩, (show m - (i + 1) < m - i by omega), ?_⟩
          · rcases Nat.lt_or_ge j i with h | h
            · exact hz j h
            · obtain rfl : j = i := by omega
              exact hx
          · cbv
            repeat' first
              | exact True.intro
              | (refine And.intro ?_ ?_)
            all_goals subst hap
            all_goals have inc : wadd .i64 (i : Int) 1 = ((i + 1 : Nat) : Int) := inc_i64 (by omega)
            all_goals first
              | rfl
              | exact inc.symm
        all_goals subst hap
        all_goals simp only [apf, cmF, ne_t, natI, ltN, addN, lenI, eqB', Int.toNat_natCast, Nat.zero_add] at *
        all_goals first
          | omega
          | exact allZ_f (by assumption)
      · have b0 : i = m := by
          have : (m : Int) ≤ (i : Int) := by subst hap; exact lt_f.1 h0
          omega
        subst b0
        cbv
        subst hap
        exact ⟨allZ_t (by rw [hl.1]; exact hz), trivial⟩
  · exact h.elim
theorem s94 : Sound Tryd.prog G1 94 (pu 94) (cZero apf) := fn_sound rfl Tryd.call94 ok94 co94 env_nil vc94

/-- 'Spoil' -/
def cSpoil (ap : AP) : Ctr
  | [.o (.cat 1 1 (.dsl n 1 (.ints .u8 n' l)) (.bool _))] => .chk (ap _ _ (ap _ _ eqN n) n') <| .ok ⟨.tnil, [rdV n l true], []⟩
  | _ => .fail 304
theorem vc127 (args : List Arg) (out : Out) (h : (cSpoil apf args).to out) (hok : okAs args) :
    args.length = ic127.nargs ∧ ic127.nargs ≤ ic127.ntmps ∧ ∃ A, run apf [] A ic127.body (fnQ apf args out ic127.res) (st0 G1 false args) := by
  unfold cSpoil at h
  split at h
  · rename_i n m l s
    obtain ⟨h1, h⟩ := h
    cases h
    have h1 : n = m := h1
    subst h1
    refine ⟨rfl, by decide, [], ?_⟩
    show run apf _ _ _ _ (st0 [(1, .ints .u32 64 kk)] _ _)
    generalize hK : kk = K
    generalize hap : apf = ap
    cbv
    repeat' first
      | exact True.intro
      | (intro _; cbv)
      | (refine And.intro ?_ ?_)
    all_goals subst hap
    all_goals rfl
  · exact h.elim
theorem s127 : Sound Tryd.prog G1 127 (pu 127) (cSpoil apf) := fn_sound rfl Tryd.call127 ok127 co127 env_nil vc127

/-- 'Bytes' -/
theorem vc98 (args : List Arg) (out : Out) (h : (cTake apf args).to out) (hok : okAs args) :
    args.length = ic98.nargs ∧ ic98.nargs ≤ ic98.ntmps ∧ ∃ A, run apf [(143, cTake apf)] A ic98.body (fnQ apf args out ic98.res) (st0 G1 false args) := by
  unfold cTake at h
  split at h
  · rename_i n0 n l s k
    obtain ⟨h1, h⟩ := h
    cases h
    have h1 : n0 = n := h1
    subst h1
    refine ⟨rfl, by decide, [], ?_⟩
    show run apf _ _ _ _ (st0 [(1, .ints .u32 64 kk)] _ _)
    generalize hK : kk = K
    generalize hap : apf = ap
    cbv
    repeat' first
      | exact True.intro
      | (intro _; cbv)
      | (refine And.intro ?_ ?_)
    all_goals subst hap
    all_goals rfl
  · exact h.elim
theorem s98 : Sound Tryd.prog G1 98 (pu 98) (fun args => cTake apf (args.map litA)) := (fn_sound rfl Tryd.call98 ok98 co98 (env_cons s143 env_nil) vc98).lits

/-- 'Zeros' -/
def cZeros (ap : AP) : Ctr
  | [.o (.cat 1 1 (.dsl n 1 (.ints .u8 n' l)) (.bool s)), .v (.int .i64 k)] => .chk (ap _ _ (ap _ _ eqN n) n') <| .ok
    ⟨.tnil, [rdA ap (ap _ _ (ap _ _ (ap _ _ rsL l) s) k) (ap _ _ (ap _ _ (ap _ _ zrS l) s) k)], []⟩
  | _ => .fail 305
theorem vc97 (args : List Arg) (out : Out) (h : (cZeros apf args).to out) (hok : okAs args) :
    args.length = ic97.nargs ∧ ic97.nargs ≤ ic97.ntmps ∧ ∃ A, run apf [(143, cTake apf), (94, cZero apf), (127, cSpoil apf)] A ic97.body (fnQ apf args out ic97.res) (st0 G1 false args) := by
  unfold cZeros at h
  split at h
  · rename_i n0 n l s k
    obtain ⟨h1, h⟩ := h
    cases h
    have h1 : n0 = n := h1
    subst h1
    refine ⟨rfl, by decide, [], ?_⟩
    show run apf _ _ _ _ (st0 [(1, .ints .u32 64 kk)] _ _)
    generalize hK : kk = K
    generalize hap : apf = ap
    cbv
    repeat' first
      | exact True.intro
      | (intro _; cbv)
      | (refine And.intro ?_ ?_)
    all_goals subst hap
    all_goals simp only [apf, notB_t, notB_f, eqN, eqL', eqB', zrS, flS] at *
    · simp [*]
    · simp [*]
  · exact h.elim
theorem s97 : Sound Tryd.prog G1 97 (pu 97) (fun args => cZeros apf (args.map litA)) := (fn_sound rfl Tryd.call97 ok97 co97 (env_cons s143 (env_cons s94 (env_cons s127 env_nil))) vc97).lits

/-- 'End' -/
def cEnd (ap : AP) : Ctr
  | [.o (.cat 1 1 (.dsl n 1 (.ints .u8 n' l)) (.bool s))] => .chk (ap _ _ (ap _ _ eqN n) n') <| .ok ⟨.int .i64 (ap _ _ (ap _ _ endE l) s), [], []⟩
  | _ => .fail 306
theorem vc99 (args : List Arg) (out : Out) (h : (cEnd apf args).to out) (hok : okAs args) :
    args.length = ic99.nargs ∧ ic99.nargs ≤ ic99.ntmps ∧ ∃ A, run apf [] A ic99.body (fnQ apf args out ic99.res) (st0 G1 true args) := by
  unfold cEnd at h
  split at h
  · rename_i n0 n l s
    obtain ⟨h1, h⟩ := h
    cases h
    have h1 : n0 = n := h1
    subst h1
    obtain ⟨⟨hl, _⟩, _⟩ := hok
    refine ⟨rfl, by decide, [], ?_⟩
    show run apf _ _ _ _ (st0 [(1, .ints .u32 64 kk)] _ _)
    generalize hK : kk = K
    generalize hap : apf = ap
    cbv
    repeat' first
      | exact True.intro
      | (intro _; cbv)
      | (refine And.intro ?_ ?_)
    all_goals subst hap
    all_goals have hl' : l.length = n0 := hl.1
    all_goals simp only [apf, cmF, gt_t, gt_f, lenI, eqI', endE, hl'] at *
    all_goals simp [*]
    all_goals omega
  · exact h.elim
theorem s99 : Sound Tryd.prog G1 99 (pu 99) (fun args => cEnd apf (args.map litA)) := (fn_sound rfl Tryd.call99 ok99 co99 env_nil vc99).lits

/-- 'Number' of a reader -/
def in18 (k : Int) : Prop := 1 ≤ k ∧ k ≤ 8
def cNumR (ap : AP) : Ctr
  | [.o (.cat 1 1 (.dsl n 1 (.ints .u8 n' l)) (.bool s)), .v (.int .i64 k)] => .chk (ap _ _ in18 k) <| .chk (ap _ _ (ap _ _ eqN n) n') <| .ok
    ⟨.int .u64 (ap _ _ numL (ap _ _ (ap _ _ (ap _ _ tkL l) s) k)), [rdA ap (ap _ _ (ap _ _ (ap _ _ rsL l) s) k) (ap _ _ (ap _ _ (ap _ _ flS l) s) k)], []⟩
  | _ => .fail 307
def numT (L : List Int) (i : Nat) : Int := numL (L.take i)
theorem numT_next {L : List Int} {i : Nat} (h : i < L.length) : numT L (i + 1) = numT L i * 256 + nthI L i := by
  have e : L.take (i + 1) = L.take i ++ [nthI L i] := by
    rw [List.take_add_one, List.getElem?_eq_getElem h]
    simp [nthI, List.getD_eq_getElem?_getD, h]
  rw [numT, numT, e, numL_app]
theorem numT_all {L : List Int} : numT L L.length = numL L := by rw [numT, List.take_length]
def aNumR (ap : AP) (l : List Int) (s : Bool) (k : Int) (m : Nat) : List (Nat × Ann) := [
  (0, .inv Nat (fun i => ⟨[(18, dslA ap (ap _ _ (ap _ _ (ap _ _ tkL l) s) k)), (19, .int .i64 (ap _ _ lenI (ap _ _ llen (ap _ _ (ap _ _ (ap _ _ tkL l) s) k)))), (20, .int .i64 (ap _ _ lenI i)), (5, .int .u64 (ap _ _ (ap _ _ numT (ap _ _ (ap _ _ (ap _ _ tkL l) s) k)) i))],
      [(parH 0, ⟨.own, rdA ap (ap _ _ (ap _ _ (ap _ _ rsL l) s) k) (ap _ _ (ap _ _ (ap _ _ flS l) s) k)⟩)], []⟩)
    (fun i => i ≤ m) (fun i => m - i))]
set_option maxRecDepth 20000 in
theorem vc96 (args : List Arg) (out : Out) (h : (cNumR apf args).to out) (hok : okAs args) :
    args.length = ic96.nargs ∧ ic96.nargs ≤ ic96.ntmps ∧ ∃ A, run apf [(143, cTake apf), (127, cSpoil apf)] A ic96.body (fnQ apf args out ic96.res) (st0 G1 false args) := by
  unfold cNumR at h
  split at h
  · rename_i n0 n l s k
    obtain ⟨h0, h1, h⟩ := h
    cases h
    have h1 : n0 = n := h1
    have h0 : 1 ≤ k ∧ k ≤ 8 := h0
    subst h1
    obtain ⟨⟨hl, _⟩, _⟩ := hok
    refine ⟨rfl, by decide, aNumR apf l s k (tkL l s k).length, ?_⟩
    show run apf _ _ _ _ (st0 [(1, .ints .u32 64 kk)] _ _)
    generalize hK : kk = K
    have hT : (tkL l s k).length ≤ 8 := by have := tkL_le (l := l) (s := s) (k := k); omega
    have hR : ∀ y ∈ tkL l s k, inR .u8 y := tkL_rng hl.2
    generalize hM : (tkL l s k).length = M at hT ⊢
    generalize hap : apf = ap
    cbv
    refine ⟨fun h9 => ?_, fun h9 => ?_⟩
    · exfalso
      subst hap
      simp only [apf, cmF, lt_t] at h9
      omega
    cbv
    refine ⟨fun h8 => ?_, fun h8 => ?_⟩
    · exfalso
      subst hap
      simp only [apf, cmF, gt_t] at h8
      omega
    cbv
    and_intros
    any_goals (refine ⟨0, Nat.zero_le _, ?_⟩; cbv; and_intros)
    rotate_right 1
    · intro (i : Nat) hi _ _
      have hi : i ≤ M := hi
      cbv
      refine ⟨fun h7 => ?_, fun h7 => ?_⟩
      · have b0 : i < M := by
          have : (i : Int) < ((tkL l s k).length : Int) := by subst hap; exact lt_t.1 h7
          omega
        have c1 : i + 1 ≤ M := b0
        have c2 : M - (i + 1) < M - i := by omega
        cbv
        and_intros
        any_goals (refine ⟨i + 1, c1, c2, ?_⟩; cbv; and_intros)
        all_goals subst hap
        all_goals have inc : wadd .i64 (i : Int) 1 = ((i + 1 : Nat) : Int) := inc_i64 (by omega)
        all_goals try simp only [apf, ltN, natI, eqN, eqI', eqL', eqB', arF, lenI, inc, Int.toNat_natCast]
        all_goals first
          | exact True.intro
          | (simp only [llen]; omega)
          | omega
          | (have e1 := numT_next (L := tkL l s k) (i := i) (by omega)
             have e2 := numL_rng ((tkL l s k).take i) (fun y hy => hR y (List.mem_of_mem_take hy))
             have e3 : 0 ≤ nthI (tkL l s k) i ∧ nthI (tkL l s k) i ≤ 255 := byte_rng hR i
             have e4 : (256 : Int) ^ ((tkL l s k).take i).length ≤ 256 ^ 7 := by
               have := Nat.pow_le_pow_right (n := 256) (by omega) (show ((tkL l s k).take i).length ≤ 7 by rw [List.length_take]; omega)
               exact_mod_cast this
             show numT (tkL l s k) (i + 1) = _
             rw [e1]
             exact (or_shift e2.1 (by omega) e3).symm)
      · have b0 : i = M := by
          have : ((tkL l s k).length : Int) ≤ (i : Int) := by subst hap; exact lt_f.1 h7
          omega
        cbv
        subst hap
        and_intros
        all_goals first
          | exact True.intro
          | (show numL (tkL l s k) = numT (tkL l s k) i
             rw [b0, ← hM, numT_all])
          | rfl
    all_goals subst hap
    all_goals first | exact True.intro | rfl
  · exact h.elim
theorem s96 : Sound Tryd.prog G1 96 (pu 96) (fun args => cNumR apf (args.map litA)) := (fn_sound rfl Tryd.call96 ok96 co96 (env_cons s143 (env_cons s127 env_nil)) vc96).lits
end Go.Cx.Rb
