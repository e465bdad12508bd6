/-
  The law 'MacSame' returns true.
-/
import Derived.Test.YtojllgpnhaaagaaDoorCxbF
namespace Go.Cx.Rb
open Go Go.Cx Go.Proofs

/-- what is unlike so far -/
def un (a b : List Int) : Nat → Int
  | 0 => 0
  | i + 1 => bor .u8 (un a b i) (bxor .u8 (nthI a i) (nthI b i))
theorem bor8_zero {x y : Int} (hx : 0 ≤ x ∧ x ≤ 255) (hy : 0 ≤ y ∧ y ≤ 255) : bor .u8 x y = 0 ↔ x = 0 ∧ y = 0 := by
  obtain ⟨a, rfl⟩ := Int.eq_ofNat_of_zero_le hx.1
  obtain ⟨b, rfl⟩ := Int.eq_ofNat_of_zero_le hy.1
  have ha : a < 2 ^ 8 := by omega
  have hb : b < 2 ^ 8 := by omega
  have hlt : a ||| b < 2 ^ 8 := Nat.or_lt_two_pow ha hb
  have e : bor .u8 (a : Int) (b : Int) = ((a ||| b : Nat) : Int) := by
    show IntKind.u8.wrap (((BitVec.ofInt 8 (a : Int) ||| BitVec.ofInt 8 (b : Int)).toNat : Nat) : Int) = _
    rw [BitVec.ofInt_natCast, BitVec.ofInt_natCast, BitVec.toNat_or, BitVec.toNat_ofNat, BitVec.toNat_ofNat, Nat.mod_eq_of_lt ha, Nat.mod_eq_of_lt hb, u8_emod]
    omega
  rw [e]
  constructor
  · intro h
    have h : a ||| b = 0 := by omega
    have := Nat.or_eq_zero_iff.1 h
    omega
  · rintro ⟨h1, h2⟩
    have h1 : a = 0 := by omega
    have h2 : b = 0 := by omega
    subst h1 h2
    rfl
theorem bxor8_zero {x y : Int} (hx : 0 ≤ x ∧ x ≤ 255) (hy : 0 ≤ y ∧ y ≤ 255) : bxor .u8 x y = 0 ↔ x = y := by
  obtain ⟨a, rfl⟩ := Int.eq_ofNat_of_zero_le hx.1
  obtain ⟨b, rfl⟩ := Int.eq_ofNat_of_zero_le hy.1
  have ha : a < 2 ^ 8 := by omega
  have hb : b < 2 ^ 8 := by omega
  have hlt : a ^^^ b < 2 ^ 8 := Nat.xor_lt_two_pow ha hb
  have e : bxor .u8 (a : Int) (b : Int) = ((a ^^^ b : Nat) : Int) := by
    show IntKind.u8.wrap (((BitVec.ofInt 8 (a : Int) ^^^ BitVec.ofInt 8 (b : Int)).toNat : Nat) : Int) = _
    rw [BitVec.ofInt_natCast, BitVec.ofInt_natCast, BitVec.toNat_xor, BitVec.toNat_ofNat, BitVec.toNat_ofNat, Nat.mod_eq_of_lt ha, Nat.mod_eq_of_lt hb, u8_emod]
    omega
  rw [e]
  constructor
  · intro h
    have h : a ^^^ b = 0 := by omega
    have : a = b := by
      apply Nat.eq_of_testBit_eq
      intro k
      have h2 := congrArg (fun n => n.testBit k) h
      simpa using h2
    omega
  · intro h
    have h : a = b := by omega
    subst h
    rw [Nat.xor_self]; rfl
theorem u8_rng (n : Int) : 0 ≤ IntKind.u8.wrap n ∧ IntKind.u8.wrap n ≤ 255 := by rw [u8_emod]; omega
theorem un_rng (a b : List Int) : ∀ i, 0 ≤ un a b i ∧ un a b i ≤ 255
  | 0 => by simp [un]
  | i + 1 => u8_rng _
theorem byte_rng {B : List Int} (hB : ∀ y ∈ B, inR .u8 y) (i : Nat) : 0 ≤ nthI B i ∧ nthI B i ≤ 255 := by
  obtain ⟨n, h1, h2⟩ := byte_at hB i
  omega
theorem un_zero {a b : List Int} (ha : ∀ y ∈ a, inR .u8 y) (hb : ∀ y ∈ b, inR .u8 y) : ∀ i, un a b i = 0 ↔ ∀ j, j < i → nthI a j = nthI b j
  | 0 => by simp [un]
  | i + 1 => by
    rw [un, bor8_zero (un_rng a b i) (show 0 ≤ bxor .u8 (nthI a i) (nthI b i) ∧ bxor .u8 (nthI a i) (nthI b i) ≤ 255 from u8_rng _), un_zero ha hb i, bxor8_zero (byte_rng ha i) (byte_rng hb i)]
    constructor
    · rintro ⟨h1, h2⟩ j hj
      rcases Nat.lt_or_eq_of_le (Nat.le_of_lt_succ hj) with h | rfl
      · exact h1 j h
      · exact h2
    · intro h
      exact ⟨fun j hj => h j (by omega), h i (by omega)⟩
theorem same_list {a b : List Int} {n : Nat} (ha : a.length = n) (hb : b.length = n) (h : ∀ j, j < n → nthI a j = nthI b j) : a = b := by
  apply List.ext_getElem (by omega)
  intro i h1 h2
  have := h i (by omega)
  simpa [nthI, List.getD_eq_getElem?_getD, h1, h2] using this

def cSame (ap : AP) : Ctr
  | [.b _ 1 (.ints .u8 _ a), .b _ 1 (.ints .u8 _ b)] => .ok ⟨.bool (ap _ _ (ap _ _ eqL a) b), [], []⟩
  | _ => .fail 232
def aSame (ap : AP) (n : Nat) (a b : List Int) : List (Nat × Ann) := [
  (0, .inv Nat (fun i => ⟨[(0, .sl (parH 0) [] 0 n 1 none), (1, .sl (parH 1) [] 0 n 1 none), (5, .int .u8 (ap _ _ (ap _ _ (ap _ _ un a) b) i)), (13, .int .i64 (ap _ _ lenI n)), (14, .int .i64 (ap _ _ lenI i))],
    [(parH 0, ⟨.bor, .ints .u8 n a⟩), (parH 1, ⟨.bor, .ints .u8 n b⟩)], []⟩) (fun i => i ≤ n) (fun i => n - i))]

theorem vc90 (args : List Arg) (out : Out) (h : (cSame apf args).to out) (hok : okAs args) :
    args.length = ic90.nargs ∧ ic90.nargs ≤ ic90.ntmps ∧ ∃ A, run apf [] A ic90.body (fnQ apf args out ic90.res) (st0 G1 true args) := by
  unfold cSame at h
  split at h
  · rename_i n n' a m m' b
    cases h
    obtain ⟨⟨hn, ⟨rfl, _⟩, ha⟩, ⟨hm, ⟨rfl, _⟩, hb⟩, _⟩ := hok
    refine ⟨rfl, by decide, ?_⟩
    by_cases hc : n' = m'
    · subst hc
      refine ⟨aSame apf n' a b, ?_⟩
      show run apf _ _ _ _ (st0 [(1, .ints .u32 64 kk)] _ _)
      generalize hK : kk = K
      generalize hap : apf = ap
      cbv
      refine ⟨fun h0 => ?_, fun h0 => ?_⟩
      · exfalso
        have : (n' : Int) ≠ (n' : Int) := by subst hap; exact neq_t h0
        exact this rfl
      · cbv
        refine ⟨⟨0, Nat.zero_le _, ?_⟩, ?_⟩
        · cbv
          subst hap
          simp only [apf, eqN, eqI', eqL', lenI, un, Int.natCast_zero]
          and_intros
          all_goals first | exact True.intro | rfl
        · intro (i : Nat) hi _ _
          have hi : i ≤ n' := hi
          cbv
          refine ⟨fun hlt => ?_, fun hge => ?_⟩
          · have c0 : i < n' := by
              have : (i : Int) < (n' : Int) := by subst hap; exact lss_t hlt
              omega
            have c1 : i + 1 ≤ n' := by omega
            have c2 : n' - (i + 1) < n' - i := by omega
            cbv
            and_intros
            any_goals (refine ⟨i + 1, c1, c2, ?_⟩; cbv; and_intros)
            all_goals subst hap
            all_goals have inc : wadd .i64 (i : Int) 1 = ((i + 1 : Nat) : Int) := inc_i64 (by omega)
            all_goals try simp only [apf, ltN, natI, addN, eqN, eqI', eqL', arF, lenI, inc, Int.toNat_natCast, Nat.zero_add]
            all_goals clear inc
            all_goals try omega
            all_goals rfl
          · have c0 : i = n' := by
              have : (n' : Int) ≤ (i : Int) := by subst hap; exact lss_f hge
              omega
            subst c0
            cbv
            subst hap
            refine ⟨?_, trivial⟩
            show decide (a = b) = decide (un a b i = 0)
            have e := un_zero (a := a) (b := b) ha.2 hb.2 i
            by_cases hab : a = b
            · rw [decide_eq_true hab, decide_eq_true (e.2 fun j _ => by rw [hab])]
            · rw [decide_eq_false hab, decide_eq_false fun h => hab (same_list ha.1 hb.1 (e.1 h))]
    · refine ⟨[], ?_⟩
      generalize hap : apf = ap
      cbv
      refine ⟨fun h0 => ?_, fun h0 => ?_⟩
      · cbv
        subst hap
        refine ⟨?_, trivial⟩
        show decide (a = b) = false
        exact decide_eq_false fun h => hc (by rw [← ha.1, ← hb.1, h])
      · exfalso
        have : (n' : Int) = (m' : Int) := by subst hap; exact neq_f h0
        omega
  · exact h.elim
theorem s90 : Sound Tryd.prog G1 90 (pu 90) (cSame apf) := fn_sound rfl Tryd.call90 ok90 co90 env_nil vc90

def cMacSame (ap : AP) : Ctr
  | [.b n 1 (.ints .u8 _ _), .b m 1 (.ints .u8 _ _)] => .chk (ap _ _ (ap _ _ leN n) 140737488351232) <| .chk (ap _ _ (ap _ _ leN m) 140737488351232) (.ok ⟨.tt, [], []⟩)
  | _ => .fail 233

end Go.Cx.Rb
