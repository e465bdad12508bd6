/-
  Slots: read from bytes.
-/
import Derived.Test.YtojllgpnhaaagaaDoorCxbK
namespace Go.Cx.Rb
open Go Go.Cx Go.Proofs

/-- a reader goes on -/
def rd (x : List Int × Bool) (k : Int) : List Int × Bool := (rsL x.1 x.2 k, flS x.1 x.2 k)
def rz (x : List Int × Bool) (k : Int) : List Int × Bool := (rsL x.1 x.2 k, zrS x.1 x.2 k)
def tk (x : List Int × Bool) (k : Int) : List Int := tkL x.1 x.2 k
def cpyL (z t : List Int) (n : Nat) : List Int := layL z 0 (takeL t (minN (llen t) n))
def d2 (b : List Int) : List Int × Bool := rd (rd (b, false) 1) 1
def d4 (b : List Int) : List Int × Bool := rd (rz (d2 b) 2) 4
def d7 (b : List Int) : List Int × Bool := rd (rd (rd (d4 b) 16) 32) 24
def decQ (b : List Int) : SlotP := ⟨true, wcv .i64 (numL (tk (rd (b, false) 1) 1)), wcv .i64 (numL (tk (rz (d2 b) 2) 4)), cpyL (zerosI 16) (tk (d4 b) 16) 16, cpyL (zerosI 32) (tk (rd (d4 b) 16) 32) 32, cpyL (zerosI 24) (tk (rd (rd (d4 b) 16) 32) 24) 24⟩
def decBad (b : List Int) : Bool := decide (numL (tkL b false 1) ≠ 1) || decide (endE (d7 b).1 (d7 b).2 ≠ 0) || !rightS (decQ b)
def decNo (b : List Int) : Bool := decide (b.length ≠ 80) || decBad b
def decE (b : List Int) : Int := if decide (b.length = 80) && allZ b then 0 else if decNo b then 12 else 0
def decP (b : List Int) : SlotP := if decNo b || allZ b then slot0 else decQ b
def cDec (ap : AP) : Ctr
  | [.b _ 1 (.ints .u8 _ b)] => .ok ⟨.tcons (slotA ap (ap _ _ decP b)) (.tcons (.int .i64 (ap _ _ decE b)) .tnil), [], []⟩
  | _ => .fail 327
set_option maxRecDepth 20000 in
set_option maxHeartbeats 1000000 in
theorem vc42 (args : List Arg) (out : Out) (h : (cDec apf args).to out) (hok : okAs args) :
    args.length = ic42.nargs ∧ ic42.nargs ≤ ic42.ntmps ∧ ∃ A, run apf [(94, cZero apf), (95, cRead apf), (96, (fun args => cNumR apf (args.map litA))), (97, (fun args => cZeros apf (args.map litA))), (98, (fun args => cTake apf (args.map litA))), (99, (fun args => cEnd apf (args.map litA))), (89, (fun args => cRightS apf (args.map litA)))] A ic42.body (fnQ apf args out ic42.res) (st0 G1 true args) := by
  unfold cDec at h
  split at h
  · rename_i n' n b
    cases h
    obtain ⟨⟨hn, ⟨rfl, _⟩, hb⟩, _⟩ := hok
    refine ⟨rfl, by decide, [], ?_⟩
    show run apf _ _ _ _ (st0 [(1, .ints .u32 64 kk)] _ _)
    generalize hK : kk = K
    generalize hap : apf = ap
    cbv
    repeat' first
      | exact True.intro
      | (intro hh; with_reducible exact False.elim (tf_no (Eq.trans (Eq.symm (show _ = true by assumption)) hh)))
      | (intro hh; with_reducible exact False.elim (tf_no (Eq.trans (Eq.symm hh) (show _ = false by assumption))))
      | (intro _; cbv)
      | (refine And.intro ?_ ?_)
    all_goals subst hap
    all_goals simp only [apf, cmF, eqI', eqL', eqB', eqN, ne_t, ne_f, notB_t, notB_f, subL_all (Nat.le_of_eq hb.1), lenI] at *
    all_goals first
      | (simp only [leN, ltN, addN, minN, V.cnt, llen] <;> omega)
      | (show 1 ≤ _ ∧ _ ≤ 8; decide)
      | (have e0 : b.length ≠ 80 := by rw [hb.1]; omega
         simp only [decP, decE, decNo, decide_eq_true e0, decide_eq_false e0, Bool.true_or, Bool.false_and, if_true, if_false, Bool.false_eq_true]
         first | done | rfl)
      | (have e0 : b.length = 80 := by rw [hb.1]; omega
         have e1 : allZ b = true := by assumption
         simp only [decP, decE, decide_eq_true e0, e1, Bool.or_true, Bool.and_true, if_true]
         first | done | rfl)
      | (have e0 : b.length = 80 := by rw [hb.1]; omega
         have e1 : allZ b = false := by assumption
         have e2 : decBad b = true := by
           simp only [decBad, Bool.or_eq_true, decide_eq_true_eq, Bool.not_eq_true']
           first
             | exact .inl (.inl (by assumption))
             | exact .inl (.inr (by assumption))
             | exact .inr (by assumption)
         simp only [decP, decE, decNo, e1, e2, Bool.or_true, Bool.true_or, Bool.and_false, if_true, if_false, Bool.false_eq_true]
         first | done | rfl)
      | (have e0 : b.length = 80 := by rw [hb.1]; omega
         have e3 : decide (b.length ≠ 80) = false := decide_eq_false (fun h => h e0)
         have e1 : allZ b = false := by assumption
         have e2 : decBad b = false := by
           simp only [decBad, Bool.or_eq_false_iff, decide_eq_false_iff_not, Bool.not_eq_false', Decidable.not_not]
           exact ⟨⟨by assumption, by assumption⟩, by assumption⟩
         simp only [decP, decE, decNo, e1, e2, e3, Bool.or_self, Bool.and_false, if_false, Bool.false_eq_true]
         first | done | rfl)
      | trace_state
  · exact h.elim
theorem s42 : Sound Tryd.prog G1 42 (pu 42) (cDec apf) := fn_sound rfl Tryd.call42 ok42 co42 (env_cons s94 (env_cons s95 (env_cons s96 (env_cons s97 (env_cons s98 (env_cons s99 (env_cons s89 env_nil))))))) vc42
end Go.Cx.Rb

/- The document's readers and numbers in bytes. -/
namespace Go.Cx.Rb
open Go Go.Cx Go.Proofs

def okQ (l : List Int) (a : Int) (s : Bool) (k : Int) : Bool := okR (l.drop a.toNat) s k
def tkQ (l : List Int) (a : Int) (s : Bool) (k : Int) : List Int := tkL (l.drop a.toNat) s k
def atQ (l : List Int) (a : Int) (s : Bool) (k : Int) : Int := if okQ l a s k then a + k else a
def flQ (l : List Int) (a : Int) (s : Bool) (k : Int) : Bool := !okQ l a s k
def zrQ (l : List Int) (a : Int) (s : Bool) (k : Int) : Bool := !(okQ l a s k && allZ (tkQ l a s k))
def endQ (l : List Int) (a : Int) (s : Bool) : Int := if s || decide (a < l.length) then 12 else 0
def rrV (n : Nat) (l : List Int) (a : Int) (s : Bool) : V := .cat 1 2 (.dsl n 1 (.ints .u8 n l)) (.cat 1 1 (.int .i64 a) (.bool s))
def inA (a : Int) (n : Nat) : Prop := 0 ≤ a ∧ a ≤ n ∧ n ≤ 4294967296
def smallK (k : Int) : Prop := k ≤ 4294967296
theorem atQ_in {l : List Int} {a : Int} {s : Bool} {k : Int} {n : Nat} (h : inA a n) (hl : l.length = n) : inA (atQ l a s k) n := by
  obtain ⟨h1, h2, h0⟩ := h
  unfold atQ
  cases e : okQ l a s k with
  | false => exact ⟨h1, h2, h0⟩
  | true =>
    obtain ⟨_, e2, e3⟩ := okR_t.1 e
    rw [List.length_drop] at e3
    refine ⟨?_, ?_, h0⟩ <;> simp only [if_true] <;> omega
theorem tkQ_rng {l : List Int} {a : Int} {s : Bool} {k : Int} (h : ∀ y ∈ l, inR .u8 y) : ∀ y ∈ tkQ l a s k, inR .u8 y := tkL_rng fun y hy => h y (List.mem_of_mem_drop hy)

/-- 'Bytes', in new memory -/
def cByt0 (ap : AP) : Ctr
  | [.o (.cat 1 2 (.dsl n 1 (.ints .u8 n' l)) (.cat 1 1 (.int .i64 a) (.bool s))), .v (.int .i64 k)] => .chk (ap _ _ (ap _ _ eqN n) n') <| .chk (ap _ _ (ap _ _ inA a) n) <| .chk (ap _ _ smallK k) <| .br (ap _ _ (ap _ _ (ap _ _ (ap _ _ okQ l) a) s) k)
      (.ok ⟨.sl 0 [] 0 (ap _ _ llen (ap _ _ (ap _ _ (ap _ _ (ap _ _ tkQ l) a) s) k)) 1 none, [rrV n l (ap _ _ (ap _ _ (ap _ _ (ap _ _ atQ l) a) s) k) (ap _ _ (ap _ _ (ap _ _ (ap _ _ flQ l) a) s) k)],
        [.ints .u8 (ap _ _ llen (ap _ _ (ap _ _ (ap _ _ (ap _ _ tkQ l) a) s) k)) (ap _ _ (ap _ _ (ap _ _ (ap _ _ tkQ l) a) s) k)]⟩)
      (.ok ⟨.nsl, [rrV n l (ap _ _ (ap _ _ (ap _ _ (ap _ _ atQ l) a) s) k) (ap _ _ (ap _ _ (ap _ _ (ap _ _ flQ l) a) s) k)], []⟩)
  | _ => .fail 330
set_option maxRecDepth 20000 in
set_option maxHeartbeats 1000000 in
theorem vc103 (args : List Arg) (out : Out) (h : (cByt0 apf args).to out) (hok : okAs args) :
    args.length = ic103.nargs ∧ ic103.nargs ≤ ic103.ntmps ∧ ∃ A, run apf [] A ic103.body (fnQ apf args out ic103.res) (st0 G1 false args) := by
  unfold cByt0 at h
  split at h
  · rename_i n n' l a s k
    obtain ⟨h1, h2, h3, h⟩ := h
    have h1 : n = n' := h1
    subst h1
    have h2 : 0 ≤ a ∧ a ≤ n ∧ n ≤ 4294967296 := h2
    have h3 : k ≤ 4294967296 := h3
    obtain ⟨⟨hl, _⟩, _⟩ := hok
    have hl1 : l.length = n := hl.1
    have hd : (l.drop a.toNat).length = n - a.toNat := by rw [List.length_drop, hl1]
    rcases h with ⟨hb, h⟩ | ⟨hb, h⟩
    all_goals cases h
    all_goals refine ⟨rfl, by decide, [], ?_⟩
    all_goals show run apf _ _ _ _ (st0 [(1, .ints .u32 64 kk)] _ _)
    all_goals generalize hK : kk = K
    all_goals have hb' : okR (l.drop a.toNat) s k = _ := hb
    all_goals clear hb
    all_goals generalize hap : apf = ap
    all_goals cbv
    all_goals repeat' first
      | exact True.intro
      | (intro hh; with_reducible exact False.elim (tf_no (Eq.trans (Eq.symm (show _ = true by assumption)) hh)))
      | (intro hh; with_reducible exact False.elim (tf_no (Eq.trans (Eq.symm hh) (show _ = false by assumption))))
      | (intro _; cbv)
      | (refine And.intro ?_ ?_)
    all_goals subst hap
    all_goals try simp only [cast_fix] at *
    all_goals have w3 : wsub .i64 (n : Int) a = n - a := wsub_i64 (by omega)
    all_goals simp only [apf, cmF, arF, lt_t, lt_f, gt_t, gt_f, lenI, w3] at *
    all_goals have f1 : okR (l.drop a.toNat) s k = false → s = true ∨ k < 0 ∨ (n : Int) - a < k := fun e => by
                cases hs : s with
                | true => exact .inl rfl
                | false =>
                  refine .inr (Decidable.byContradiction fun hn => ?_)
                  have e2 : okR (l.drop a.toNat) s k = true := okR_t.2 ⟨hs, by omega, by rw [hd]; omega⟩
                  rw [e] at e2
                  cases e2
    all_goals have f2 : okR (l.drop a.toNat) s k = true → s = false ∧ 0 ≤ k ∧ k ≤ (n : Int) - a := fun e => by
                obtain ⟨e1, e2, e3⟩ := okR_t.1 e
                rw [hd] at e3
                exact ⟨e1, e2, by omega⟩
    all_goals first
      | (have f3 := f2 hb'
         first
           | (exfalso; simp_all; done)
           | (exfalso; omega)
           | (have w1 : wadd .i64 a k = a + k := wadd_i64 (by omega)
              have w2 : wsub .i64 (a + k) k = a := by rw [wsub_i64 (by omega)]; omega
              have w4 : (a + k).toNat - a.toNat = k.toNat := by omega
              simp only [w1, w2, natI, leN, eqN, appN, subN, llen, tkQ, atQ, flQ, okQ, tkL, hb', eqI', eqL', eqB', if_true, Bool.not_true, w4]
              first
                | done
                | exact f3.1.symm
                | omega
                | (rw [List.length_take, hd]; omega)
                | (simp [subL]; done)))
      | (have f3 := f1 hb'
         first
           | (exfalso; simp_all; done)
           | (exfalso; omega)
           | (simp only [eqN, atQ, flQ, okQ, hb', eqI', eqL', eqB', if_false, Bool.not_false, Bool.false_eq_true]; done)
           | (exfalso; rcases f3 with f3 | f3 | f3
              · cases (f3.symm.trans (show s = false by assumption))
              · omega
              · omega))
      | trace_state
  · exact h.elim
end Go.Cx.Rb

/- The document's readers: bytes for good, numbers, noughts, the end. -/
namespace Go.Cx.Rb
open Go Go.Cx Go.Proofs

theorem s103 : Sound Tryd.prog G1 103 (pu 103) (fun args => cByt0 apf (args.map litA)) := (fn_sound rfl Tryd.call103 ok103 co103 env_nil vc103).lits
def cByt (ap : AP) : Ctr
  | [.o (.cat 1 2 (.dsl n 1 (.ints .u8 n' l)) (.cat 1 1 (.int .i64 a) (.bool s))), .v (.int .i64 k)] => .chk (ap _ _ (ap _ _ eqN n) n') <| .chk (ap _ _ (ap _ _ inA a) n) <| .chk (ap _ _ smallK k) <|
      (.ok ⟨dslA ap (ap _ _ (ap _ _ (ap _ _ (ap _ _ tkQ l) a) s) k), [rrV n l (ap _ _ (ap _ _ (ap _ _ (ap _ _ atQ l) a) s) k) (ap _ _ (ap _ _ (ap _ _ (ap _ _ flQ l) a) s) k)], []⟩)
  | _ => .fail 330
theorem byt_freeze (args : List Arg) (out' : Out) (h : (cByt apf args).to out') : ∃ out, (cByt0 apf args).to out ∧ Frz out out' := by
  unfold cByt at h
  split at h
  · rename_i n n' l a s k
    obtain ⟨h1, h2, h3, h⟩ := h
    cases h
    cases hb : okQ l a s k with
    | true =>
      refine ⟨_, ⟨h1, h2, h3, .inl ⟨hb, rfl⟩⟩, by show 1 ≤ 1000; decide, rfl, rfl, by simp [V.clo, V.noown], by simp [V.clo, rrV], rfl, rfl, _, rfl, ⟨rfl, rfl⟩, rfl⟩
    | false =>
      refine ⟨_, ⟨h1, h2, h3, .inr ⟨hb, rfl⟩⟩, by show 0 ≤ 1000; decide, rfl, rfl, by simp, by simp [V.clo, rrV], .inr ⟨.u8, ?_⟩⟩
      have e : tkQ l a s k = [] := by
        have hb' : okR (l.drop a.toNat) s k = false := hb
        simp only [tkQ, tkL, hb', if_false, Bool.false_eq_true]
      show V.dsl (tkQ l a s k).length 1 (.ints .u8 (tkQ l a s k).length (tkQ l a s k)) = _
      rw [e]; rfl
  · exact h.elim
theorem s103f : Sound Tryd.prog G1 103 (pu 103) (fun args => cByt apf (args.map litA)) := s103.freeze fun _args out' h => byt_freeze _ out' h

def cNumQ (ap : AP) : Ctr
  | [.o (.cat 1 2 (.dsl n 1 (.ints .u8 n' l)) (.cat 1 1 (.int .i64 a) (.bool s))), .v (.int .i64 k)] => .chk (ap _ _ in18 k) <| .chk (ap _ _ (ap _ _ eqN n) n') <| .chk (ap _ _ (ap _ _ inA a) n) <| .ok
    ⟨.int .u64 (ap _ _ numL (ap _ _ (ap _ _ (ap _ _ (ap _ _ tkQ l) a) s) k)), [rrV n l (ap _ _ (ap _ _ (ap _ _ (ap _ _ atQ l) a) s) k) (ap _ _ (ap _ _ (ap _ _ (ap _ _ flQ l) a) s) k)], []⟩
  | _ => .fail 331
def aNumQ (ap : AP) (n : Nat) (l : List Int) (a : Int) (s : Bool) (k : Int) (m : Nat) : List (Nat × Ann) := [
  (0, .inv Nat (fun i => ⟨[(6, dslA ap (ap _ _ (ap _ _ (ap _ _ (ap _ _ tkQ l) a) s) k)), (7, .int .i64 (ap _ _ lenI i)), (5, .int .u64 (ap _ _ (ap _ _ numT (ap _ _ (ap _ _ (ap _ _ (ap _ _ tkQ l) a) s) k)) i))],
      [(parH 0, ⟨.own, rrV n l (ap _ _ (ap _ _ (ap _ _ (ap _ _ atQ l) a) s) k) (ap _ _ (ap _ _ (ap _ _ (ap _ _ flQ l) a) s) k)⟩)], []⟩)
    (fun i => i ≤ m) (fun i => m - i))]
theorem mul_add {v x : Int} (hv : 0 ≤ v) (hv2 : v < 256 ^ 7) (hx : 0 ≤ x ∧ x ≤ 255) : wadd .u64 (wmul .u64 v 256) (wcv .u64 x) = v * 256 + x := by
  have e1 : wmul .u64 v 256 = v * 256 := IntWalk.u64_in _ ⟨by omega, by omega⟩
  have e2 : wcv .u64 x = x := wcv_u64 (by omega)
  rw [e1, e2]
  exact IntWalk.u64_in _ ⟨by omega, by omega⟩
set_option maxRecDepth 20000 in
theorem vc100 (args : List Arg) (out : Out) (h : (cNumQ apf args).to out) (hok : okAs args) :
    args.length = ic100.nargs ∧ ic100.nargs ≤ ic100.ntmps ∧ ∃ A, run apf [(103, (fun args => cByt apf (args.map litA)))] A ic100.body (fnQ apf args out ic100.res) (st0 G1 false args) := by
  unfold cNumQ at h
  split at h
  · rename_i n n' l a s k
    obtain ⟨h0, h1, h2, h⟩ := h
    cases h
    have h1 : n = n' := h1
    have h0 : 1 ≤ k ∧ k ≤ 8 := h0
    subst h1
    obtain ⟨⟨hl, _⟩, _⟩ := hok
    refine ⟨rfl, by decide, aNumQ apf n l a s k (tkQ l a s k).length, ?_⟩
    show run apf _ _ _ _ (st0 [(1, .ints .u32 64 kk)] _ _)
    generalize hK : kk = K
    have hT : (tkQ l a s k).length ≤ 8 := by have := tkL_le (l := l.drop a.toNat) (s := s) (k := k); show (tkL _ _ _).length ≤ 8; omega
    have hR : ∀ y ∈ tkQ l a s k, inR .u8 y := tkQ_rng hl.2
    generalize hM : (tkQ l a s k).length = M at hT ⊢
    generalize hap : apf = ap
    cbv
    refine ⟨fun h9 => ?_, fun h9 => ?_⟩
    · exfalso
      subst hap
      simp only [apf, cmF, lt_t] at h9
      omega
    cbv
    refine ⟨fun h8 => ?_, fun h8 => ?_⟩
    · exfalso
      subst hap
      simp only [apf, cmF, gt_t] at h8
      omega
    cbv
    and_intros
    any_goals (refine ⟨0, Nat.zero_le _, ?_⟩; cbv; and_intros)
    rotate_right 1
    · intro (i : Nat) hi _ _
      have hi : i ≤ M := hi
      cbv
      refine ⟨fun h7 => ?_, fun h7 => ?_⟩
      · have b0 : i < M := by
          have : (i : Int) < ((tkQ l a s k).length : Int) := by subst hap; exact lt_t.1 h7
          omega
        have c1 : i + 1 ≤ M := b0
        have c2 : M - (i + 1) < M - i := by omega
        cbv
        and_intros
        any_goals (refine ⟨i + 1, c1, c2, ?_⟩; cbv; and_intros)
        all_goals subst hap
        all_goals have inc : wadd .i64 (i : Int) 1 = ((i + 1 : Nat) : Int) := inc_i64 (by omega)
        all_goals try simp only [apf, ltN, natI, eqN, eqI', eqL', eqB', arF, lenI, inc, Int.toNat_natCast]
        all_goals first
          | exact True.intro
          | (simp only [llen]; omega)
          | omega
          | (have e1 := numT_next (L := tkQ l a s k) (i := i) (by omega)
             have e2 := numL_rng ((tkQ l a s k).take i) (fun y hy => hR y (List.mem_of_mem_take hy))
             have e3 : 0 ≤ nthI (tkQ l a s k) i ∧ nthI (tkQ l a s k) i ≤ 255 := byte_rng hR i
             have e4 : (256 : Int) ^ ((tkQ l a s k).take i).length ≤ 256 ^ 7 := by
               have := Nat.pow_le_pow_right (n := 256) (by omega) (show ((tkQ l a s k).take i).length ≤ 7 by rw [List.length_take]; omega)
               exact_mod_cast this
             show numT (tkQ l a s k) (i + 1) = _
             rw [e1]
             exact (mul_add e2.1 (by omega) e3).symm)
      · have b0 : i = M := by
          have : ((tkQ l a s k).length : Int) ≤ (i : Int) := by subst hap; exact lt_f.1 h7
          omega
        cbv
        subst hap
        and_intros
        all_goals first
          | exact True.intro
          | (show numL (tkQ l a s k) = numT (tkQ l a s k) i
             rw [b0, ← hM, numT_all])
          | rfl
    all_goals subst hap
    all_goals first | exact True.intro | rfl | exact h2 | (show k ≤ 4294967296; omega)
  · exact h.elim
theorem s100 : Sound Tryd.prog G1 100 (pu 100) (cNumQ apf) := fn_sound rfl Tryd.call100 ok100 co100 (env_cons s103f env_nil) vc100
theorem s100l : Sound Tryd.prog G1 100 (pu 100) (fun args => cNumQ apf (args.map litA)) := s100.lits
def cIntQ (ap : AP) : Ctr
  | [.o (.cat 1 2 (.dsl n 1 (.ints .u8 n' l)) (.cat 1 1 (.int .i64 a) (.bool s))), .v (.int .i64 k)] => .chk (ap _ _ in18 k) <| .chk (ap _ _ (ap _ _ eqN n) n') <| .chk (ap _ _ (ap _ _ inA a) n) <| .ok
    ⟨.int .i64 (ap _ _ (wcv .i64) (ap _ _ numL (ap _ _ (ap _ _ (ap _ _ (ap _ _ tkQ l) a) s) k))), [rrV n l (ap _ _ (ap _ _ (ap _ _ (ap _ _ atQ l) a) s) k) (ap _ _ (ap _ _ (ap _ _ (ap _ _ flQ l) a) s) k)], []⟩
  | _ => .fail 332
set_option maxRecDepth 20000 in
set_option maxHeartbeats 1000000 in
theorem vc101 (args : List Arg) (out : Out) (h : (cIntQ apf args).to out) (hok : okAs args) :
    args.length = ic101.nargs ∧ ic101.nargs ≤ ic101.ntmps ∧ ∃ A, run apf [(100, cNumQ apf)] A ic101.body (fnQ apf args out ic101.res) (st0 G1 false args) := by
  unfold cIntQ at h
  split at h
  · rename_i n n' l a s k
    obtain ⟨h0, h1, h2, h⟩ := h
    cases h
    have h1 : n = n' := h1
    subst h1
    refine ⟨rfl, by decide, [], ?_⟩
    show run apf _ _ _ _ (st0 [(1, .ints .u32 64 kk)] _ _)
    generalize hK : kk = K
    generalize hap : apf = ap
    cbv
    repeat' first
      | exact True.intro
      | (intro hh; with_reducible exact False.elim (tf_no (Eq.trans (Eq.symm (show _ = true by assumption)) hh)))
      | (intro hh; with_reducible exact False.elim (tf_no (Eq.trans (Eq.symm hh) (show _ = false by assumption))))
      | (intro _; cbv)
      | (refine And.intro ?_ ?_)
    all_goals subst hap
    all_goals first | exact True.intro | rfl | exact h0 | exact h2
  · exact h.elim
theorem s101 : Sound Tryd.prog G1 101 (pu 101) (fun args => cIntQ apf (args.map litA)) := (fn_sound rfl Tryd.call101 ok101 co101 (env_cons s100 env_nil) vc101).lits
def cEndQ (ap : AP) : Ctr
  | [.o (.cat 1 2 (.dsl n 1 (.ints .u8 n' l)) (.cat 1 1 (.int .i64 a) (.bool s)))] => .chk (ap _ _ (ap _ _ eqN n) n') <| .ok ⟨.int .i64 (ap _ _ (ap _ _ (ap _ _ endQ l) a) s), [], []⟩
  | _ => .fail 333
set_option maxRecDepth 20000 in
set_option maxHeartbeats 1000000 in
theorem vc104 (args : List Arg) (out : Out) (h : (cEndQ apf args).to out) (hok : okAs args) :
    args.length = ic104.nargs ∧ ic104.nargs ≤ ic104.ntmps ∧ ∃ A, run apf [] A ic104.body (fnQ apf args out ic104.res) (st0 G1 true args) := by
  unfold cEndQ at h
  split at h
  · rename_i n n' l a s
    obtain ⟨h1, h⟩ := h
    cases h
    have h1 : n = n' := h1
    subst h1
    obtain ⟨⟨hl, _⟩, _⟩ := hok
    refine ⟨rfl, by decide, [], ?_⟩
    show run apf _ _ _ _ (st0 [(1, .ints .u32 64 kk)] _ _)
    generalize hK : kk = K
    generalize hap : apf = ap
    cbv
    repeat' first
      | exact True.intro
      | (intro hh; with_reducible exact False.elim (tf_no (Eq.trans (Eq.symm (show _ = true by assumption)) hh)))
      | (intro hh; with_reducible exact False.elim (tf_no (Eq.trans (Eq.symm hh) (show _ = false by assumption))))
      | (intro _; cbv)
      | (refine And.intro ?_ ?_)
    all_goals subst hap
    all_goals have hl' : l.length = n := hl.1
    all_goals simp only [apf, cmF, lt_t, lt_f, lenI, eqI', endQ, hl'] at *
    all_goals first
      | (have e := decide_eq_true (p := a < (n : Int)) (by assumption)
         simp only [e, Bool.or_true, if_true]; done)
      | (have e := decide_eq_false (p := a < (n : Int)) (by omega)
         have e2 : s = false := by assumption
         simp only [e, e2, Bool.or_self, if_false, Bool.false_eq_true]; done)
      | (have e2 : s = true := by assumption
         simp only [e2, Bool.true_or, if_true]; done)
  · exact h.elim
theorem s104 : Sound Tryd.prog G1 104 (pu 104) (fun args => cEndQ apf (args.map litA)) := (fn_sound rfl Tryd.call104 ok104 co104 env_nil vc104).lits
end Go.Cx.Rb
