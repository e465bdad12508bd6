/-
  The document's noughts, numbers laid into bytes.
-/
import Derived.Test.YtojllgpnhaaagaaDoorCxbL
namespace Go.Cx.Rb
open Go Go.Cx Go.Proofs

/-- 'Zeros' of the document's reader -/
def cZerQ (ap : AP) : Ctr
  | [.o (.cat 1 2 (.dsl n 1 (.ints .u8 n' l)) (.cat 1 1 (.int .i64 a) (.bool s))), .v (.int .i64 k)] => .chk (ap _ _ (ap _ _ eqN n) n') <| .chk (ap _ _ (ap _ _ inA a) n) <| .chk (ap _ _ smallK k) <| .ok
    ⟨.tnil, [rrV n l (ap _ _ (ap _ _ (ap _ _ (ap _ _ atQ l) a) s) k) (ap _ _ (ap _ _ (ap _ _ (ap _ _ zrQ l) a) s) k)], []⟩
  | _ => .fail 334
/-- spoilt so far -/
def spS (L : List Int) (f : Bool) (i : Nat) : Bool := f || !allZ (L.take i)
theorem spS_zero (L : List Int) (f : Bool) : spS L f 0 = f := by simp [spS, allZ]
theorem allZ_snoc {L : List Int} {i : Nat} (h : i < L.length) : allZ (L.take (i + 1)) = (allZ (L.take i) && decide (nthI L i = 0)) := by
  have e : L.take (i + 1) = L.take i ++ [nthI L i] := by
    rw [List.take_add_one, List.getElem?_eq_getElem h]
    simp [nthI, List.getD_eq_getElem?_getD, h]
  rw [e, Bool.eq_iff_iff]
  simp only [allZ, decide_eq_true_eq, List.mem_append, List.mem_singleton, Bool.and_eq_true]
  constructor
  · intro hh; exact ⟨fun x hx => hh x (.inl hx), hh _ (.inr rfl)⟩
  · rintro ⟨h1, h2⟩ x (hx | rfl)
    · exact h1 x hx
    · exact h2
theorem spS_ne {L : List Int} {f : Bool} {i : Nat} (h : i < L.length) (hx : nthI L i ≠ 0) : spS L f (i + 1) = true := by
  rw [spS, allZ_snoc h, decide_eq_false hx]; simp
theorem spS_eq {L : List Int} {f : Bool} {i : Nat} (h : i < L.length) (hx : nthI L i = 0) : spS L f (i + 1) = spS L f i := by
  rw [spS, allZ_snoc h, decide_eq_true hx, Bool.and_true]; rfl
theorem spS_all (l : List Int) (a : Int) (s : Bool) (k : Int) : spS (tkQ l a s k) (flQ l a s k) (tkQ l a s k).length = zrQ l a s k := by
  rw [spS, List.take_length, flQ, zrQ]
  cases okQ l a s k <;> simp
def aZerQ (ap : AP) (n : Nat) (l : List Int) (a : Int) (s : Bool) (k : Int) (m : Nat) : List (Nat × Ann) := [
  (0, .inv Nat (fun i => ⟨[(0, .ptr (parH 0) []), (4, dslA ap (ap _ _ (ap _ _ (ap _ _ (ap _ _ tkQ l) a) s) k)), (5, .int .i64 (ap _ _ lenI i))],
      [(parH 0, ⟨.own, rrV n l (ap _ _ (ap _ _ (ap _ _ (ap _ _ atQ l) a) s) k) (ap _ _ (ap _ _ (ap _ _ spS (ap _ _ (ap _ _ (ap _ _ (ap _ _ tkQ l) a) s) k)) (ap _ _ (ap _ _ (ap _ _ (ap _ _ flQ l) a) s) k)) i)⟩)], []⟩)
    (fun i => i ≤ m) (fun i => m - i))]
set_option maxRecDepth 20000 in
theorem vc102 (args : List Arg) (out : Out) (h : (cZerQ apf args).to out) (hok : okAs args) :
    args.length = ic102.nargs ∧ ic102.nargs ≤ ic102.ntmps ∧ ∃ A, run apf [(103, (fun args => cByt apf (args.map litA)))] A ic102.body (fnQ apf args out ic102.res) (st0 G1 false args) := by
  unfold cZerQ at h
  split at h
  · rename_i n n' l a s k
    obtain ⟨h1, h2, h3, h⟩ := h
    cases h
    have h1 : n = n' := h1
    subst h1
    obtain ⟨⟨hl, _⟩, _⟩ := hok
    refine ⟨rfl, by decide, aZerQ apf n l a s k (tkQ l a s k).length, ?_⟩
    show run apf _ _ _ _ (st0 [(1, .ints .u32 64 kk)] _ _)
    generalize hK : kk = K
    have hT : (tkQ l a s k).length ≤ 4294967296 := by have := tkL_le (l := l.drop a.toNat) (s := s) (k := k); have h3 : k ≤ 4294967296 := h3; show (tkL _ _ _).length ≤ 4294967296; omega
    generalize hM : (tkQ l a s k).length = M at hT ⊢
    generalize hap : apf = ap
    cbv
    and_intros
    any_goals (refine ⟨0, Nat.zero_le _, ?_⟩; cbv; and_intros)
    rotate_right 1
    · intro (i : Nat) hi _ _
      have hi : i ≤ M := hi
      cbv
      refine ⟨fun h7 => ?_, fun h7 => ?_⟩
      · have b0 : i < M := by
          have : (i : Int) < ((tkQ l a s k).length : Int) := by subst hap; exact lt_t.1 h7
          omega
        have c1 : i + 1 ≤ M := b0
        have c2 : M - (i + 1) < M - i := by omega
        cbv
        repeat' first
          | exact True.intro
          | (refine And.intro ?_ ?_)
          | (refine ⟨i + 1, c1, c2, ?_⟩; cbv)
          | (intro _; cbv)
        all_goals subst hap
        all_goals have inc : wadd .i64 (i : Int) 1 = ((i + 1 : Nat) : Int) := inc_i64 (by omega)
        all_goals have b9 : i < (tkQ l a s k).length := by omega
        all_goals try simp only [apf, cmF, ne_t, ne_f, ltN, natI, eqN, eqI', eqL', eqB', arF, lenI, inc, Int.toNat_natCast] at *
        all_goals first
          | exact True.intro
          | rfl
          | (simp only [llen]; omega)
          | omega
          | exact spS_ne b9 (by assumption)
          | exact spS_eq b9 (by assumption)
      · have b0 : i = M := by
          have : ((tkQ l a s k).length : Int) ≤ (i : Int) := by subst hap; exact lt_f.1 h7
          omega
        cbv
        subst hap
        and_intros
        all_goals first
          | exact True.intro
          | (show zrQ l a s k = spS (tkQ l a s k) (flQ l a s k) i
             rw [b0, ← hM, spS_all])
          | rfl
    all_goals subst hap
    all_goals first | exact True.intro | rfl | exact h2 | exact h3 | exact spS_zero _ _
  · exact h.elim
theorem s102 : Sound Tryd.prog G1 102 (pu 102) (fun args => cZerQ apf (args.map litA)) := (fn_sound rfl Tryd.call102 ok102 co102 (env_cons s103f env_nil) vc102).lits

/-- the last j bytes of a number -/
def beQ (k : Nat) (v : Int) (j : Nat) : List Int := List.replicate (k - j) 0 ++ (beL k v).drop (k - j)
theorem beQ_zero (k : Nat) (v : Int) : beQ k v 0 = zerosI k := by simp [beQ, zerosI, beL_len, List.drop_of_length_le]
theorem beQ_all (k : Nat) (v : Int) : beQ k v k = beL k v := by simp [beQ]
theorem beQ_set {k : Nat} {v x : Int} {j : Nat} (h : j < k) (hx : x = v / 256 ^ j % 256) : setI (beQ k v j) (k - 1 - j) x = beQ k v (j + 1) := by
  subst hx
  have e1 : List.replicate (k - j) (0 : Int) = List.replicate (k - (j + 1)) 0 ++ [0] := by
    rw [← List.replicate_succ']; congr 1; omega
  have e2 : (beL k v).drop (k - (j + 1)) = v / 256 ^ j % 256 :: (beL k v).drop (k - j) := by
    rw [List.drop_eq_getElem_cons (by rw [beL_len]; omega)]
    congr 1
    · have e := beL_at (k := k) (v := v) (i := k - (j + 1)) (by omega)
      rw [List.getElem?_eq_getElem (by rw [beL_len]; omega), Option.some.injEq] at e
      rw [e]
      congr 3
      omega
    · congr 1; omega
  unfold setI beQ
  rw [e1, e2, List.append_assoc, List.set_append_right _ _ (by rw [List.length_replicate]; omega), List.length_replicate]
  have e3 : k - 1 - j - (k - (j + 1)) = 0 := by omega
  rw [e3]; rfl
def shV (v : Int) (j : Nat) : Int := v / 256 ^ j
def dnI (k : Int) (j : Nat) : Int := k - 1 - j
def cNumQF (ap : AP) : Ctr
  | [.v (.int .u64 v), .v (.lit .i64 k)] => rif (k == 4 || k == 8) 335 <| .chk (ap _ _ (ap _ _ fitsB v) k) <| .ok
    ⟨.tcons (.sl 0 [] 0 k.toNat 1 (some k.toNat)) (.tcons (.lit .i64 0) .tnil), [], [.ints .u8 k.toNat (ap _ _ (ap _ _ beL k.toNat) v)]⟩
  | _ => .fail 335
def aNumQF (ap : AP) (k : Nat) (kI : Int) (v : Int) : List (Nat × Ann) := [
  (0, .inv Nat (fun j => ⟨[(0, .int .u64 (ap _ _ (ap _ _ shV v) j)), (6, .sl 15 [] 0 k 1 (some k)), (7, .int .i64 (ap _ _ (ap _ _ dnI kI) j))],
      [(15, ⟨.own, .ints .u8 k (ap _ _ (ap _ _ (ap _ _ beQ k) v) j)⟩)], []⟩)
    (fun j => j ≤ k) (fun j => k - j))]
theorem shV_next {v : Int} {j : Nat} (hv : 0 ≤ v) (h64 : v ≤ 18446744073709551615) : shV v (j + 1) = wquo .u64 (shV v j) 256 := by
  have h0 : 0 ≤ shV v j := Int.ediv_nonneg hv (Int.pow_nonneg (by omega))
  have hle : shV v j ≤ v := Int.ediv_le_self _ hv
  show v / 256 ^ (j + 1) = IntKind.u64.wrap ((shV v j).tdiv 256)
  rw [Int.tdiv_eq_ediv_of_nonneg h0, IntWalk.u64_in _ ⟨by omega, by omega⟩, Int.pow_succ, ← Int.ediv_ediv_of_nonneg (Int.pow_nonneg (by omega))]
  rfl
theorem shV_byte {v : Int} {j : Nat} (hv : 0 ≤ v) : wcv .u8 (wrem .u64 (shV v j) 256) = v / 256 ^ j % 256 := by
  have h0 : 0 ≤ shV v j := Int.ediv_nonneg hv (Int.pow_nonneg (by omega))
  show IntKind.u8.wrap ((shV v j).tmod 256) = _
  rw [Int.tmod_eq_emod_of_nonneg h0, u8_emod]
  show shV v j % 256 % 256 = shV v j % 256
  omega
theorem dn_next {k : Nat} {z : Int} {j : Nat} (hz : z = k) (hj : j < k) (hk : k ≤ 8) : dnI z (j + 1) = wsub .i64 (dnI z j) 1 := by
  subst hz
  rw [wsub_i64 (by simp only [dnI]; omega)]
  simp only [dnI]; omega

set_option maxRecDepth 20000 in
theorem vc145 (args : List Arg) (out : Out) (h : (cNumQF apf args).to out) (hok : okAs args) :
    args.length = ic145.nargs ∧ ic145.nargs ≤ ic145.ntmps ∧ ∃ A, run apf [] A ic145.body (fnQ apf args out ic145.res) (st0 G1 true args) := by
  unfold cNumQF at h
  split at h
  · rename_i v k
    obtain ⟨hk, h1, h⟩ := rif_to h
    cases h
    simp only [Bool.or_eq_true, beq_iff_eq] at hk
    have h1 : 0 ≤ v ∧ v < 256 ^ k.toNat := h1
    obtain ⟨hv, _⟩ := hok
    have h64 : v ≤ 18446744073709551615 := hv.2
    refine ⟨rfl, by decide, aNumQF apf k.toNat k v, ?_⟩
    show run apf _ _ _ _ (st0 [(1, .ints .u32 64 kk)] _ _)
    generalize hK : kk = K
    rcases hk with rfl | rfl
    · generalize hap : apf = ap
      cbv
      and_intros
      any_goals (refine ⟨0, Nat.zero_le _, ?_⟩; cbv; and_intros)
      rotate_right 1
      · intro (j : Nat) hi _ _
        have hi : j ≤ 4 := hi
        cbv
        refine ⟨fun h7 => ?_, fun h7 => ?_⟩
        · have b0 : j < 4 := by
            have : 0 ≤ dnI 4 j := by subst hap; exact ge_t.1 h7
            simp only [dnI] at this
            omega
          have c1 : j + 1 ≤ 4 := b0
          have c2 : 4 - (j + 1) < 4 - j := by omega
          cbv
          and_intros
          any_goals (refine ⟨j + 1, c1, c2, ?_⟩; cbv; and_intros)
          all_goals subst hap
          all_goals have e3 := beQ_set (k := 4) (v := v) b0 (shV_byte (j := j) h1.1)
          all_goals have e4 : (dnI 4 j).toNat = 4 - 1 - j := by simp only [dnI]; omega
          all_goals first
            | exact True.intro
            | exact shV_next h1.1 h64
            | exact dn_next (k := 4) rfl b0 (by omega)
            | (show 0 ≤ dnI 4 j
               simp only [dnI]; omega)
            | (simp only [apf, eqL', arF, natI, addN, Nat.zero_add, e4]
               exact e3.symm)
            | rfl
            | (simp only [apf, ltN, natI, addN, Nat.zero_add, e4]
               omega)
            | decide
        · have b0 : j = 4 := by
            have : dnI 4 j < 0 := by subst hap; exact ge_f.1 h7
            simp only [dnI] at this
            omega
          cbv
          refine ⟨fun h5 => ?_, fun h5 => ?_⟩
          · exfalso
            subst hap
            have h5 : shV v j ≠ 0 := ne_t.1 h5
            apply h5
            rw [b0]
            exact Int.ediv_eq_zero_of_lt h1.1 h1.2
          · subst b0
            cbv
            subst hap
            and_intros
            all_goals first
              | exact True.intro
              | rfl
              | exact (beQ_all 4 v).symm
      all_goals subst hap
      all_goals first
        | exact True.intro
        | rfl
        | (show 1 * 4 ≤ 140737488355328; decide)
        | (show 0 ≤ (4 : Int); decide)
        | exact beQ_zero 4 v
        | (show v / 256 ^ 0 = v; simp)
    · generalize hap : apf = ap
      cbv
      and_intros
      any_goals (refine ⟨0, Nat.zero_le _, ?_⟩; cbv; and_intros)
      rotate_right 1
      · intro (j : Nat) hi _ _
        have hi : j ≤ 8 := hi
        cbv
        refine ⟨fun h7 => ?_, fun h7 => ?_⟩
        · have b0 : j < 8 := by
            have : 0 ≤ dnI 8 j := by subst hap; exact ge_t.1 h7
            simp only [dnI] at this
            omega
          have c1 : j + 1 ≤ 8 := b0
          have c2 : 8 - (j + 1) < 8 - j := by omega
          cbv
          and_intros
          any_goals (refine ⟨j + 1, c1, c2, ?_⟩; cbv; and_intros)
          all_goals subst hap
          all_goals have e3 := beQ_set (k := 8) (v := v) b0 (shV_byte (j := j) h1.1)
          all_goals have e4 : (dnI 8 j).toNat = 8 - 1 - j := by simp only [dnI]; omega
          all_goals first
            | exact True.intro
            | exact shV_next h1.1 h64
            | exact dn_next (k := 8) rfl b0 (by omega)
            | (show 0 ≤ dnI 8 j
               simp only [dnI]; omega)
            | (simp only [apf, eqL', arF, natI, addN, Nat.zero_add, e4]
               exact e3.symm)
            | rfl
            | (simp only [apf, ltN, natI, addN, Nat.zero_add, e4]
               omega)
            | decide
        · have b0 : j = 8 := by
            have : dnI 8 j < 0 := by subst hap; exact ge_f.1 h7
            simp only [dnI] at this
            omega
          cbv
          refine ⟨fun h5 => ?_, fun h5 => ?_⟩
          · exfalso
            subst hap
            have h5 : shV v j ≠ 0 := ne_t.1 h5
            apply h5
            rw [b0]
            exact Int.ediv_eq_zero_of_lt h1.1 h1.2
          · subst b0
            cbv
            subst hap
            and_intros
            all_goals first
              | exact True.intro
              | rfl
              | exact (beQ_all 8 v).symm
      all_goals subst hap
      all_goals first
        | exact True.intro
        | rfl
        | (show 1 * 8 ≤ 140737488355328; decide)
        | (show 0 ≤ (8 : Int); decide)
        | exact beQ_zero 8 v
        | (show v / 256 ^ 0 = v; simp)
  · exact h.elim
theorem s145 : Sound Tryd.prog G1 145 (pu 145) (cNumQF apf) := fn_sound rfl Tryd.call145 ok145 co145 env_nil vc145
def cPut (ap : AP) : Ctr
  | [.v (.int .u64 v), .v (.lit .i64 k)] => rif (k == 4 || k == 8) 336 <| .chk (ap _ _ (ap _ _ fitsB v) k) <| .ok
    ⟨.sl 0 [] 0 k.toNat 1 (some k.toNat), [], [.ints .u8 k.toNat (ap _ _ (ap _ _ beL k.toNat) v)]⟩
  | _ => .fail 336
set_option maxRecDepth 20000 in
theorem vc113 (args : List Arg) (out : Out) (h : (cPut apf args).to out) (hok : okAs args) :
    args.length = ic113.nargs ∧ ic113.nargs ≤ ic113.ntmps ∧ ∃ A, run apf [(145, cNumQF apf)] A ic113.body (fnQ apf args out ic113.res) (st0 G1 true args) := by
  unfold cPut at h
  split at h
  · rename_i v k
    obtain ⟨hk, h1, h⟩ := rif_to h
    cases h
    simp only [Bool.or_eq_true, beq_iff_eq] at hk
    refine ⟨rfl, by decide, [], ?_⟩
    show run apf _ _ _ _ (st0 [(1, .ints .u32 64 kk)] _ _)
    generalize hK : kk = K
    rcases hk with rfl | rfl
    all_goals generalize hap : apf = ap
    all_goals cbv
    all_goals and_intros
    all_goals subst hap
    all_goals first | exact True.intro | rfl | exact h1
  · exact h.elim
theorem s113 : Sound Tryd.prog G1 113 (pu 113) (cPut apf) := fn_sound rfl Tryd.call113 ok113 co113 (env_cons s145 env_nil) vc113
end Go.Cx.Rb

/- The document's slots. -/
namespace Go.Cx.Rb
open Go Go.Cx Go.Proofs

theorem s113' : Sound Tryd.prog G2 113 (pu 113) (cPut apf) := s113.more g12
set_option maxRecDepth 20000 in
theorem vc91 (args : List Arg) (out : Out) (h : (cRightS apf args).to out) (hok : okAs args) :
    args.length = ic91.nargs ∧ ic91.nargs ≤ ic91.ntmps ∧ ∃ A, run apf [] A ic91.body (fnQ apf args out ic91.res) (st0 G2 true args) := by
  unfold cRightS at h
  split at h
  · rename_i u k r m1 s m2 w m3 c
    obtain ⟨hm, h⟩ := rif_to h
    cases h
    simp only [Bool.and_eq_true, beq_iff_eq] at hm
    obtain ⟨⟨rfl, rfl⟩, rfl⟩ := hm
    obtain ⟨⟨_, _, _, hs, hw, hc⟩, _⟩ := hok
    refine ⟨rfl, by decide, [], ?_⟩
    show run apf _ _ _ _ (st0 [(0, .ints .u32 64 kk), (1, .ints .u32 64 kk)] _ _)
    generalize hK : kk = K
    generalize hap : apf = ap
    cbv
    repeat' first
      | exact True.intro
      | (intro _; cbv)
      | (refine And.intro ?_ ?_)
    all_goals subst hap
    · exact slot_ok hs.1 hw.1 hc.1
    · exact slot_ok (u := false) (k := 0) (r := 0) (by decide) (by decide) (by decide)
    · have hu : u = false := notB_t.1 (by assumption)
      have e := slot_eqZ (u := u) (u' := false) (k := k) (k' := 0) (r := r) (r' := 0) (s := s) (s' := zerosI 16) (w := w) (w' := zerosI 32) (c := c) (c' := zerosI 24) (by rw [hs.1]; rfl) (by rw [hw.1]; rfl)
      refine Eq.trans ?_ e.symm
      subst hu
      rfl
    all_goals have hu : u = true := notB_f.1 (by assumption)
    all_goals subst hu
    all_goals simp only [apf, cmF, ge_t, ge_f, le_t, le_f, eqB'] at *
    · rw [Bool.eq_iff_iff, right_t rfl, le_t]
      show (1 ≤ k ∧ k ≤ 255 ∧ 1 ≤ r ∧ r ≤ 64) ↔ _
      omega
    all_goals refine right_f rfl ?_
    all_goals show ¬ (1 ≤ k ∧ k ≤ 255 ∧ 1 ≤ r ∧ r ≤ 64)
    all_goals omega
  · exact h.elim
theorem s91 : Sound Tryd.prog G2 91 (pu 91) (fun args => cRightS apf (args.map litA)) := (fn_sound rfl Tryd.call91 ok91 co91 env_nil vc91).lits
set_option maxRecDepth 20000 in
set_option maxHeartbeats 1000000 in
theorem vc93 (args : List Arg) (out : Out) (h : (cHead apf args).to out) (hok : okAs args) :
    args.length = ic93.nargs ∧ ic93.nargs ≤ ic93.ntmps ∧ ∃ A, run apf [(113, cPut apf)] A ic93.body (fnQ apf args out ic93.res) (st0 G2 true args) := by
  unfold cHead at h
  split at h
  · rename_i u k r m1 s m2 w m3 c
    obtain ⟨hm, h1, h⟩ := rif_to h
    cases h
    simp only [Bool.and_eq_true, beq_iff_eq] at hm
    obtain ⟨⟨rfl, rfl⟩, rfl⟩ := hm
    have h1 : 1 ≤ r ∧ r ≤ 64 := h1
    obtain ⟨⟨_, _, _, hs, hw, hc⟩, _⟩ := hok
    refine ⟨rfl, by decide, [], ?_⟩
    show run apf _ _ _ _ (st0 [(0, .ints .u32 64 kk), (1, .ints .u32 64 kk)] _ _)
    generalize hK : kk = K
    generalize hap : apf = ap
    cbv
    repeat' first
      | exact True.intro
      | (intro hh; with_reducible exact False.elim (tf_no (Eq.trans (Eq.symm (show _ = true by assumption)) hh)))
      | (intro hh; with_reducible exact False.elim (tf_no (Eq.trans (Eq.symm hh) (show _ = false by assumption))))
      | (intro _; cbv)
      | (refine And.intro ?_ ?_)
    all_goals subst hap
    all_goals have h64 : wcv .u64 r = r := by
                show IntKind.u64.wrap r = r
                rw [u64_emod]; omega
    all_goals first
      | (simp only [apf, leN, eqN, appN, addN, V.cnt] <;> omega)
      | (show 0 ≤ wcv .u64 r ∧ wcv .u64 r < 4294967296
         omega)
      | (simp [apf, eqL', headS, catL, subL, hs.1, hw.1, beL_len, addN, List.take_of_length_le, h64]; done)
  · exact h.elim
theorem s93 : Sound Tryd.prog G2 93 (pu 93) (fun args => cHead apf (args.map litA)) := (fn_sound rfl Tryd.call93 ok93 co93 (env_cons s113' env_nil) vc93).lits
def aCrQ (ap : AP) (b W : List Int) : List (Nat × Ann) := [
  (0, .inv Nat (fun i => ⟨[(3, .ptr 3 []), (4, .ptr 4 []), (5, .ptr 5 []), (6, .int .i64 (ap _ _ lenI i))],
      [(3, ⟨.own, .ints .u8 32 (ap _ _ (ap _ _ (ap _ _ xorP b) W) i)⟩), (4, ⟨.own, .ints .u8 32 (ap _ _ zerosI 32)⟩), (5, ⟨.own, .ints .u8 32 W⟩)], []⟩)
    (fun i => i ≤ 32) (fun i => 32 - i))]
set_option maxRecDepth 20000 in
set_option maxHeartbeats 1000000 in
theorem vc87 (args : List Arg) (out : Out) (h : (cCr apf args).to out) (hok : okAs args) :
    args.length = ic87.nargs ∧ ic87.nargs ≤ ic87.ntmps ∧ ∃ A, run apf [(142, cDerive apf)] A ic87.body (fnQ apf args out ic87.res) (st0 G2 true args) := by
  unfold cCr at h
  split at h
  · rename_i n key m b
    obtain ⟨hm, h⟩ := rif_to h
    cases h
    simp only [Bool.and_eq_true, beq_iff_eq] at hm
    obtain ⟨rfl, rfl⟩ := hm
    obtain ⟨hk, hb, _⟩ := hok
    refine ⟨rfl, by decide, aCrQ apf b (macS key wrapL), ?_⟩
    show run apf _ _ _ _ (st0 [(0, .ints .u32 64 kk), (1, .ints .u32 64 kk)] _ _)
    generalize hK : kk = K
    generalize hap : apf = ap
    generalize hW : macS key wrapL = W
    cbv
    and_intros
    any_goals (refine ⟨0, Nat.zero_le _, ?_⟩; cbv; and_intros)
    rotate_right 1
    · intro (i : Nat) hi _ _
      have hi : i ≤ 32 := hi
      cbv
      refine ⟨fun h7 => ?_, fun h7 => ?_⟩
      · have b0 : i < 32 := by
          have : (i : Int) < 32 := by subst hap; exact lt_t.1 h7
          omega
        have c1 : i + 1 ≤ 32 := b0
        have c2 : 32 - (i + 1) < 32 - i := by omega
        cbv
        and_intros
        any_goals (refine ⟨i + 1, c1, c2, ?_⟩; cbv; and_intros)
        all_goals subst hap
        all_goals have inc : wadd .i64 (i : Int) 1 = ((i + 1 : Nat) : Int) := inc_i64 (by omega)
        all_goals try simp only [apf, ltN, natI, eqN, eqI', eqL', arF, lenI, inc, Int.toNat_natCast]
        all_goals clear inc
        all_goals try omega
        all_goals exact (xorP_set (by rw [hb.1]; exact b0)).symm
      · have b0 : i = 32 := by
          have : (32 : Int) ≤ (i : Int) := by subst hap; exact lt_f.1 h7
          omega
        subst b0
        cbv
        subst hap
        and_intros
        all_goals first
          | exact True.intro
          | (show crS key b = _
             rw [crS, hW]; rfl)
          | rfl
    all_goals subst hap
    all_goals first
      | (simp [apf, leN, llen]; done)
      | exact hW.symm
      | rfl
  · exact h.elim
theorem s87 : Sound Tryd.prog G2 87 (pu 87) (fun args => cCr apf (args.map litA)) := (fn_sound rfl Tryd.call87 ok87 co87 (env_cons s142 env_nil) vc87).lits
/-- the first bytes copied -/
def cp24 (m : List Int) (i : Nat) : List Int := m.take i ++ List.replicate (24 - i) 0
theorem cp24_set {m : List Int} {i : Nat} (h : i < 24) (hm : m.length = 32) : setI (cp24 m i) i (nthI m i) = cp24 m (i + 1) := by
  have e1 : List.replicate (24 - i) (0 : Int) = 0 :: List.replicate (24 - (i + 1)) 0 := by
    rw [← List.replicate_succ]; congr 1; omega
  have e2 : m.take (i + 1) = m.take i ++ [nthI m i] := by
    rw [List.take_add_one, List.getElem?_eq_getElem (by omega)]
    simp [nthI, List.getD_eq_getElem?_getD, show i < m.length by omega]
  have e3 : (m.take i).length = i := by rw [List.length_take]; omega
  unfold setI cp24
  rw [e1, e2, List.set_append_right _ _ (by omega), e3, Nat.sub_self, List.append_assoc]
  rfl
def aChkQ (ap : AP) (M : List Int) : List (Nat × Ann) := [
  (0, .inv Nat (fun i => ⟨[(4, .ptr 4 []), (6, .ptr 6 []), (7, .ptr 7 []), (8, .int .i64 (ap _ _ lenI i))],
      [(4, ⟨.own, .ints .u8 24 (ap _ _ zerosI 24)⟩), (6, ⟨.own, .ints .u8 32 M⟩), (7, ⟨.own, .ints .u8 24 (ap _ _ (ap _ _ cp24 M) i)⟩)], []⟩)
    (fun i => i ≤ 24) (fun i => 24 - i))]
set_option maxRecDepth 20000 in
set_option maxHeartbeats 1000000 in
theorem vc88 (args : List Arg) (out : Out) (h : (cChk apf args).to out) (hok : okAs args) :
    args.length = ic88.nargs ∧ ic88.nargs ≤ ic88.ntmps ∧ ∃ A, run apf [(142, cDerive apf), (93, (fun args => cHead apf (args.map litA))), (141, cMacR apf)] A ic88.body (fnQ apf args out ic88.res) (st0 G2 true args) := by
  unfold cChk at h
  split at h
  · rename_i n key u k r m1 s m2 w m3 c
    obtain ⟨hm, h1, h⟩ := rif_to h
    cases h
    simp only [Bool.and_eq_true, beq_iff_eq] at hm
    obtain ⟨⟨⟨rfl, rfl⟩, rfl⟩, rfl⟩ := hm
    obtain ⟨hk, ⟨_, _, _, hs, hw, hc⟩, _⟩ := hok
    refine ⟨rfl, by decide, aChkQ apf (macS (macS key checkL) (headS ⟨u, k, r, s, w, c⟩)), ?_⟩
    show run apf _ _ _ _ (st0 [(0, .ints .u32 64 kk), (1, .ints .u32 64 kk)] _ _)
    generalize hK : kk = K
    generalize hap : apf = ap
    generalize hM : macS (macS key checkL) (headS ⟨u, k, r, s, w, c⟩) = M
    cbv
    and_intros
    any_goals (refine ⟨0, Nat.zero_le _, ?_⟩; cbv; and_intros)
    rotate_right 1
    · intro (i : Nat) hi _ _
      have hi : i ≤ 24 := hi
      cbv
      refine ⟨fun h7 => ?_, fun h7 => ?_⟩
      · have b0 : i < 24 := by
          have : (i : Int) < 24 := by subst hap; exact lt_t.1 h7
          omega
        have c1 : i + 1 ≤ 24 := b0
        have c2 : 24 - (i + 1) < 24 - i := by omega
        cbv
        and_intros
        any_goals (refine ⟨i + 1, c1, c2, ?_⟩; cbv; and_intros)
        all_goals subst hap
        all_goals have inc : wadd .i64 (i : Int) 1 = ((i + 1 : Nat) : Int) := inc_i64 (by omega)
        all_goals try simp only [apf, ltN, natI, eqN, eqI', eqL', arF, lenI, inc, Int.toNat_natCast]
        all_goals clear inc
        all_goals try omega
        all_goals first
          | rfl
          | exact (cp24_set b0 (by rw [← hM]; exact macS_len _ _)).symm
      · have b0 : i = 24 := by
          have : (24 : Int) ≤ (i : Int) := by subst hap; exact lt_f.1 h7
          omega
        subst b0
        cbv
        subst hap
        and_intros
        all_goals first
          | exact True.intro
          | (show chkS key ⟨u, k, r, s, w, c⟩ = cp24 M 24
             rw [chkS, hM]
             simp [cp24])
          | rfl
    all_goals subst hap
    all_goals first
      | (simp only [apf, leN, eqN, addN, V.cnt] <;> omega)
      | (simp [apf, leN, llen]; done)
      | exact h1
      | (rw [← hM]
         simp [apf, eqL', checkL, subL, macS_len, headS_len (p := ⟨u, k, r, s, w, c⟩) hs.1 hw.1, List.take_of_length_le]; done)
      | rfl
  · exact h.elim
theorem s88 : Sound Tryd.prog G2 88 (pu 88) (fun args => cChk apf (args.map litA)) := (fn_sound rfl Tryd.call88 ok88 co88 (env_cons s142 (env_cons s93 (env_cons s141 env_nil))) vc88).lits
set_option maxRecDepth 20000 in
set_option maxHeartbeats 1000000 in
theorem vc41 (args : List Arg) (out : Out) (h : (cEnc0 apf args).to out) (hok : okAs args) :
    args.length = ic41.nargs ∧ ic41.nargs ≤ ic41.ntmps ∧ ∃ A, run apf [(91, fun args => cRightS apf (args.map litA)), (93, (fun args => cHead apf (args.map litA)))] A ic41.body (fnQ apf args out ic41.res) (st0 G2 true args) := by
  unfold cEnc0 at h
  split at h
  · rename_i u k r m1 s m2 w m3 c
    obtain ⟨hm, h⟩ := rif_to h
    simp only [Bool.and_eq_true, beq_iff_eq] at hm
    obtain ⟨⟨rfl, rfl⟩, rfl⟩ := hm
    obtain ⟨⟨_, _, _, hs, hw, hc⟩, _⟩ := hok
    rcases h with ⟨hb, h⟩ | ⟨hb, h⟩
    all_goals cases h
    all_goals refine ⟨rfl, by decide, [], ?_⟩
    all_goals show run apf _ _ _ _ (st0 [(0, .ints .u32 64 kk), (1, .ints .u32 64 kk)] _ _)
    all_goals generalize hK : kk = K
    all_goals have hb' : rightS ⟨u, k, r, s, w, c⟩ = _ := hb
    all_goals clear hb
    all_goals generalize hap : apf = ap
    all_goals cbv
    all_goals repeat' first
      | exact True.intro
      | (intro _; cbv)
      | (refine And.intro ?_ ?_)
    all_goals subst hap
    all_goals simp only [apf, notB_t, notB_f] at *
    all_goals first
      | (exfalso; simp_all; done)
      | (simp only [leN, eqN, appN, mksN, addN, V.cnt] <;> omega)
      | skip
    all_goals first
      | (cases u <;> first
          | (exact absurd (by assumption) (by decide))
          | (simp only [eqI', eqL', encE, encB, hb', if_true, if_false, Bool.false_eq_true]
             simp [catL, subL, headS_len (p := ⟨true, k, r, s, w, c⟩) hs.1 hw.1, hc.1, List.take_of_length_le]
             done)
          | (simp only [eqI', eqL', encE, encB, hb', if_true, if_false, Bool.false_eq_true]; done))
      | (have hu : u = true := by assumption
         subst hu
         exact ((right_t rfl).1 hb').2.2)
      | trace_state
  · exact h.elim
theorem s41 : Sound Tryd.prog G2 41 (pu 41) (fun args => cEnc0 apf (args.map litA)) := (fn_sound rfl Tryd.call41 ok41 co41 (env_cons s91 (env_cons s93 env_nil)) vc41).lits
theorem s41f : Sound Tryd.prog G2 41 (pu 41) (fun args => cEnc apf (args.map litA)) := s41.freezeOk fun _args out' hok h => enc_freeze _ out' (okAs_lit hok) h
set_option maxRecDepth 20000 in
set_option maxHeartbeats 1000000 in
theorem vc36 (args : List Arg) (out : Out) (h : (cWrap apf args).to out) (hok : okAs args) :
    args.length = ic36.nargs ∧ ic36.nargs ≤ ic36.ntmps ∧ ∃ A, run apf [(86, cStretch apf), (87, (fun args => cCr apf (args.map litA))), (88, (fun args => cChk apf (args.map litA)))] A ic36.body (fnQ apf args out ic36.res) (st0 G2 true args) := by
  unfold cWrap at h
  split at h
  · rename_i p n s r n' m k
    obtain ⟨hm, h⟩ := rif_to h
    cases h
    simp only [Bool.and_eq_true, beq_iff_eq] at hm
    obtain ⟨rfl, rfl⟩ := hm
    obtain ⟨hp, hs, hr, hm, hk, _⟩ := hok
    refine ⟨rfl, by decide, [], ?_⟩
    show run apf _ _ _ _ (st0 [(0, .ints .u32 64 kk), (1, .ints .u32 64 kk)] _ _)
    generalize hK : kk = K
    generalize hap : apf = ap
    cbv
    repeat' first
      | exact True.intro
      | (intro hh; with_reducible exact False.elim (tf_no (Eq.trans (Eq.symm (show _ = true by assumption)) hh)))
      | (intro hh; with_reducible exact False.elim (tf_no (Eq.trans (Eq.symm hh) (show _ = false by assumption))))
      | (intro _; cbv)
      | (refine And.intro ?_ ?_)
    all_goals subst hap
    all_goals simp only [apf, cmF, ne_t, ne_f, lt_t, lt_f, gt_t, gt_f] at *
    all_goals first
      | (simp only [eqN] <;> omega)
      | (have hb : wrapBad ⟨p, s, r, m, k⟩ = true := by
           simp only [wrapBad, Bool.or_eq_true, decide_eq_true_eq]
           omega
         simp only [wrapP, wrapE, hb, if_true, eqB', eqI', eqL', slot0]
         done)
      | (have hb : wrapBad ⟨p, s, r, m, k⟩ = false := by
           simp only [wrapBad, Bool.or_eq_false_iff, decide_eq_false_iff_not]
           omega
         simp only [wrapP, wrapE, hb, if_false, eqB', eqI', eqL', wrap1, Bool.false_eq_true]
         done)
      | (have h9 := sErr_cases p r
         show 1 ≤ r ∧ r ≤ 64
         omega)
      | trace_state
  · exact h.elim
theorem s36 : Sound Tryd.prog G2 36 (pu 36) (cWrap apf) := fn_sound rfl Tryd.call36 ok36 co36 (env_cons s86 (env_cons s87 (env_cons s88 env_nil))) vc36
set_option maxRecDepth 20000 in
set_option maxHeartbeats 1000000 in
theorem vc39 (args : List Arg) (out : Out) (h : (cUnw apf args).to out) (hok : okAs args) :
    args.length = ic39.nargs ∧ ic39.nargs ≤ ic39.ntmps ∧ ∃ A, run apf [(91, (fun args => cRightS apf (args.map litA))), (86, cStretch apf), (88, (fun args => cChk apf (args.map litA))), (87, (fun args => cCr apf (args.map litA)))] A ic39.body (fnQ apf args out ic39.res) (st0 G2 true args) := by
  unfold cUnw at h
  split at h
  · rename_i p u k r m1 s m2 w m3 c
    obtain ⟨hm, h⟩ := rif_to h
    cases h
    simp only [Bool.and_eq_true, beq_iff_eq] at hm
    obtain ⟨⟨rfl, rfl⟩, rfl⟩ := hm
    obtain ⟨hp, ⟨_, _, _, hs, hw, hc⟩, _⟩ := hok
    refine ⟨rfl, by decide, [], ?_⟩
    show run apf _ _ _ _ (st0 [(0, .ints .u32 64 kk), (1, .ints .u32 64 kk)] _ _)
    generalize hK : kk = K
    generalize hap : apf = ap
    cbv
    repeat' first
      | exact True.intro
      | (intro hh; with_reducible exact False.elim (tf_no (Eq.trans (Eq.symm (show _ = true by assumption)) hh)))
      | (intro hh; with_reducible exact False.elim (tf_no (Eq.trans (Eq.symm hh) (show _ = false by assumption))))
      | (intro _; cbv)
      | (refine And.intro ?_ ?_)
    all_goals subst hap
    all_goals simp only [apf, cmF, ne_t, ne_f, notB_t, notB_f, eqL_t, eqL_f] at *
    all_goals try simp only [subL_zero, List.take_of_length_le (Nat.le_of_eq (chk_len _ _)), List.take_of_length_le (Nat.le_of_eq hc.1)] at *
    all_goals first
      | (have hu : u = true := by assumption
         subst hu)
      | (have hu : u = false := by assumption
         subst hu)
      | skip
    all_goals first
      | (simp only [eqN] <;> omega)
      | exact ((right_t rfl).1 (by assumption)).2.2
      | (have hr : rightS ⟨u, k, r, s, w, c⟩ = false := by assumption
         simp only [unwM, unwE, eqI', eqL', hr, Bool.false_and, if_false, Bool.false_eq_true]
         first | done | rfl)
      | (have hr : rightS ⟨false, k, r, s, w, c⟩ = true := by assumption
         simp only [unwM, unwE, eqI', eqL', hr, Bool.false_and, Bool.and_false, if_false, if_true, Bool.false_eq_true]
         first | done | rfl)
      | (have hr : rightS ⟨true, k, r, s, w, c⟩ = true := by assumption
         have hb : unwBad p ⟨true, k, r, s, w, c⟩ = true := by simp [unwBad, eqL, *]
         simp only [unwM, unwE, eqI', eqL', hr, hb, Bool.true_and, Bool.not_true, Bool.and_false, if_false, if_true, Bool.false_eq_true]
         first | done | rfl)
      | (have hr : rightS ⟨true, k, r, s, w, c⟩ = true := by assumption
         have hb : unwBad p ⟨true, k, r, s, w, c⟩ = false := by simp [unwBad, eqL, *]
         simp only [unwM, unwE, eqI', eqL', hr, hb, Bool.true_and, Bool.not_false, if_false, if_true, Bool.false_eq_true]
         first | done | rfl)
      | trace_state
  · exact h.elim
theorem s39 : Sound Tryd.prog G2 39 (pu 39) (fun args => cUnw apf (args.map litA)) := (fn_sound rfl Tryd.call39 ok39 co39 (env_cons s91 (env_cons s86 (env_cons s88 (env_cons s87 env_nil)))) vc39).lits
end Go.Cx.Rb
