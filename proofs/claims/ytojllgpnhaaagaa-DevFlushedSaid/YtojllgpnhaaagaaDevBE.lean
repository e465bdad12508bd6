/-
  What the laws of this claim stand on, part E: proved parts, no statement of its own.
-/
import Derived.Test.YtojllgpnhaaagaaDevBD
import Derived.Test.YtojllgpnhaaagaaRows
/- CxLit -/
namespace Go.Cx
open Go
def litA : Arg → Arg
  | .v v => .v (nV v)
  | .o c w => .o (nV c) w
  | a => a
theorem nV_val {I : Nat → Prop} {w : World} {ρ : Rho} {v : V} {x : Value} (h : VRep I w ρ v x) : VRep I w ρ (nV v) x := by
  have go : VRep0 I w ρ v x → VRep0 I w ρ (nV v) x := fun h => by
    rcases h with rfl | ⟨h1, h2, h3⟩
    · exact .inl rfl
    · exact .inr ⟨h1.trans (nV_size v).symm, h2.trans (nV_agg v).symm, nV_rep v h3⟩
  cases v <;> first | exact h | exact go h
theorem outO_lit : ∀ (args : List Arg) (i : Nat) (cs : List V), outO i (args.map litA) cs = outO i args cs
  | [], i, cs => rfl
  | .b _ _ _ :: r, i, cs => by
    show outO (i + 1) (r.map litA) cs = outO (i + 1) r cs
    exact outO_lit r _ _
  | .o _ _ :: r, i, [] => rfl
  | .o _ _ :: r, i, c :: cs => by
    show (parH i, _) :: outO (i + 1) (r.map litA) cs = (parH i, _) :: outO (i + 1) r cs
    rw [outO_lit r _ _]
  | .v v :: r, i, cs => outO_lit r (i + 1) cs
theorem Sound.lits {P : Program} {G : List (Nat × V)} {f : FuncId} {pure : Bool} {c : Ctr} (h : Sound P G f pure c) : Sound P G f pure (fun args => c (args.map litA)) := by
  refine ⟨h.1, fun args out vals w F I ρ ow h1 h2 h3 h4 h5 hR hV => ?_⟩
  have hget : ∀ (i : Nat), (args.map litA)[i]? = (args[i]?).map litA := fun i => by simp
  have hpar : ∀ k blk, parHs G pure (args.map litA) k = some blk → ∃ c, parHs G pure args k = some ⟨blk.k, c⟩ ∧ (blk.c = c ∨ blk.c = nV c) := fun k blk hk => by
    simp only [parHs] at hk ⊢
    split at hk
    · rename_i e
      rw [if_pos e]
      exact ⟨blk.c, hk, .inl rfl⟩
    · rename_i e
      rw [if_neg e]
      split at hk
      · rename_i e2
        rw [if_pos e2]
        rw [hget] at hk
        cases ha : args[k - 100000]? with
        | none => rw [ha] at hk; cases hk
        | some a =>
          rw [ha] at hk
          rcases a with v | ⟨n, e, c⟩ | ⟨c, w⟩
          · cases hk
          · exact ⟨blk.c, hk, .inl rfl⟩
          · cases hk; exact ⟨c, rfl, .inr rfl⟩
      · cases hk
  have hpar2 : ∀ k blk, parHs G pure args k = some blk → ∃ c, parHs G pure (args.map litA) k = some ⟨blk.k, c⟩ := fun k blk hk => by
    simp only [parHs] at hk ⊢
    split at hk
    · rename_i e
      rw [if_pos e]
      exact ⟨blk.c, hk⟩
    · rename_i e
      rw [if_neg e]
      split at hk
      · rename_i e2
        rw [if_pos e2]
        rw [hget]
        cases ha : args[k - 100000]? with
        | none => rw [ha] at hk; cases hk
        | some a =>
          rw [ha] at hk
          rcases a with v | ⟨n, e, c⟩ | ⟨c, w⟩
          · cases hk
          · exact ⟨blk.c, hk⟩
          · cases hk; exact ⟨nV c, rfl⟩
      · cases hk
  have hout : outHs (args.map litA) out = outHs args out := by
    simp only [outHs, outO_lit]
  have hR2 : Rep ⟨F, I, w, 0, ρ⟩ I ρ ow ⟨fun _ => .any, parHs G pure (args.map litA)⟩ #[] w :=
    { hR with
      owf := fun b q hb => by
        obtain ⟨g1, g2, x, r, v, g3, g4⟩ := hR.owf b q hb
        obtain ⟨c, g5⟩ := hpar2 x _ g4
        exact ⟨g1, g2, x, r, c, g3, g5⟩
      dom := fun k l hk hlt => by
        intro e
        apply hR.dom k l hk hlt
        show parHs G pure args k = none
        cases hq : parHs G pure args k with
        | none => rfl
        | some blk =>
          obtain ⟨c, hc⟩ := hpar2 k blk hq
          have e : parHs G pure (args.map litA) k = none := e
          rw [e] at hc; cases hc
      heap := fun k blk hk => by
        obtain ⟨c, h6, h7⟩ := hpar k blk hk
        obtain ⟨l, h8, h9⟩ := hR.heap k _ h6
        refine ⟨l, h8, ?_⟩
        obtain ⟨bk, bc⟩ := blk
        simp only at h7 h9 ⊢
        rcases h7 with rfl | rfl
        · exact h9
        · cases bk with
          | own =>
            rcases h9 with ⟨e1, e2, e3⟩ | ⟨b, off, sz, cur, e1, e2, e3, e4, e5⟩
            · exact .inl ⟨e1, (nV_size c).trans e2, nV_rep c e3⟩
            · exact .inr ⟨b, off, sz, cur, e1, e2, e3, e4, nV_rep c e5⟩
          | bor =>
            rcases h9 with ⟨e1, e2, e3⟩ | ⟨b, off, sz, e1, e2, e3, e4, e5⟩
            · exact .inl ⟨e1, (nV_size c).trans e2, nV_rep c e3⟩
            · exact .inr ⟨b, off, sz, e1, e2, e3, (show (nV c).size ≤ sz from (nV_size c).symm ▸ e4), nV_rep c e5⟩
          | imm =>
            rcases h9 with ⟨e1, e2, e3⟩ | ⟨b, off, sz, e1, e2, e3, e4⟩
            · exact .inl ⟨e1, (nV_size c).trans e2, nV_rep c e3⟩
            · exact .inr ⟨b, off, sz, e1, e2, (show (nV c).size ≤ sz from (nV_size c).symm ▸ e3), nV_rep c e4⟩
          | dead => trivial }
  have := h.2 (args.map litA) out vals w F I ρ ow h1 (by simpa using h2) (by simpa using h3) (fun i n e c hi => by
    rw [hget] at hi
    cases ha : args[i]? with
    | none => rw [ha] at hi; cases hi
    | some a =>
      rw [ha] at hi
      rcases a with v | ⟨n', e', c'⟩ | ⟨c', w'⟩
      · cases hi
      · cases hi; exact h4 i _ _ _ ha
      · cases hi) h5 hR2 (fun i a hi => by
    rw [hget] at hi
    cases ha : args[i]? with
    | none => rw [ha] at hi; cases hi
    | some b =>
      rw [ha] at hi
      have hb := hV i b ha
      cases hi
      rcases b with v | _ | ⟨c, _ | ⟨j, n, e, cap⟩⟩
      · exact nV_val hb
      · exact hb
      · exact hb
      · exact hb)
  rw [hout] at this
  exact this
end Go.Cx
/- CxdS1 -/
namespace Go.Cx.Rd
open Go Go.Cx Go.Proofs
theorem bk_t {x : Bool} (h : x = false) : ¬ x = true := by rw [h]; decide
theorem bk_f {x : Bool} (h : x = true) : ¬ x = false := by rw [h]; decide
theorem ne_t' {x y : Int} : neI x y = true ↔ x ≠ y := by simp [neI]
theorem ne_f' {x y : Int} : neI x y = false ↔ x = y := by simp [neI]
set_option maxRecDepth 20000 in
theorem vc16 (args : List Arg) (out : Out) (h : (cOn apf args).to out) (hok : okAs args) :
    args.length = ic16.nargs ∧ ic16.nargs ≤ ic16.ntmps ∧ ∃ A, run apf [] A ic16.body (fnQ apf args out ic16.res) (st0 [] false args) := by
  unfold cOn at h
  split at h
  · cases h
    refine ⟨rfl, by decide, [], ?_⟩
    generalize hap : apf = ap
    cbv
    repeat' first
      | exact True.intro
      | (intro (hh : _ = true); first | with_reducible exact absurd hh (bk_t (by assumption)) | cbv)
      | (intro (hh : _ = false); first | with_reducible exact absurd hh (bk_f (by assumption)) | cbv)
      | with_reducible refine And.intro ?_ ?_
      | fail
    all_goals subst hap
    all_goals first
      | (simp only [apf_e, eqI', *]; done)
      | (simp_all [apf_e, onD, rdyE, hasB, failD, cmE, btE, cmF, geI, ltI, gtI, eqRows, eqN, eqI', eqB', leN, addN, V.cnt, neI, lenI, isBk_s, isWr_s, isBl_s, unbks_s, unwrs_s, unbls_s]; done)
      | (simp_all [apf_e, onD, rdyE, hasB, failD, cmE, btE, cmF, geI, ltI, gtI, eqRows, eqN, eqI', eqB', leN, addN, V.cnt, neI, lenI, isBk_s, isWr_s, isBl_s, unbks_s, unwrs_s, unbls_s]; omega)
      | trace_state
  · obtain ⟨d, h1, h⟩ := bind_to h
    cases h
    cases dvR_to h1
    refine ⟨rfl, by decide, [], ?_⟩
    generalize hap : apf = ap
    cbv
    repeat' first
      | exact True.intro
      | (intro (hh : _ = true); first | with_reducible exact absurd hh (bk_t (by assumption)) | cbv)
      | (intro (hh : _ = false); first | with_reducible exact absurd hh (bk_f (by assumption)) | cbv)
      | with_reducible refine And.intro ?_ ?_
      | fail
    all_goals subst hap
    all_goals first
      | (simp only [apf_e, onD, eqRows, eqN, eqI', eqB', leN, addN, V.cnt, Nat.zero_add, Nat.le_refl, implies_true, *]; done)
      | (simp_all [apf_e, onD, rdyE, hasB, failD, cmE, btE, cmF, geI, ltI, gtI, eqRows, eqN, eqI', eqB', leN, addN, V.cnt, neI, lenI, isBk_s, isWr_s, isBl_s, unbks_s, unwrs_s, unbls_s]; done)
      | (simp_all [apf_e, onD, rdyE, hasB, failD, cmE, btE, cmF, geI, ltI, gtI, eqRows, eqN, eqI', eqB', leN, addN, V.cnt, neI, lenI, isBk_s, isWr_s, isBl_s, unbks_s, unwrs_s, unbls_s]; omega)
      | trace_state
  · exact h.elim
theorem s16 : Sound Try.prog [] 16 (pu 16) (fun args => cOn apf (args.map litA)) := (fn_sound rfl Try.call16 ok16 co16 env_nil vc16).lits
set_option maxRecDepth 20000 in
theorem vc30 (args : List Arg) (out : Out) (h : (cRdy apf args).to out) (hok : okAs args) :
    args.length = ic30.nargs ∧ ic30.nargs ≤ ic30.ntmps ∧ ∃ A, run apf [] A ic30.body (fnQ apf args out ic30.res) (st0 [] false args) := by
  unfold cRdy at h
  split at h
  · cases h
    refine ⟨rfl, by decide, [], ?_⟩
    generalize hap : apf = ap
    cbv
    repeat' first
      | exact True.intro
      | (intro (hh : _ = true); first | with_reducible exact absurd hh (bk_t (by assumption)) | cbv)
      | (intro (hh : _ = false); first | with_reducible exact absurd hh (bk_f (by assumption)) | cbv)
      | with_reducible refine And.intro ?_ ?_
      | fail
    all_goals subst hap
    all_goals first
      | (simp only [apf_e, eqI', *]; done)
      | (simp_all [apf_e, onD, rdyE, hasB, failD, cmE, btE, cmF, geI, ltI, gtI, eqRows, eqN, eqI', eqB', leN, addN, V.cnt, neI, lenI, isBk_s, isWr_s, isBl_s, unbks_s, unwrs_s, unbls_s]; done)
      | (simp_all [apf_e, onD, rdyE, hasB, failD, cmE, btE, cmF, geI, ltI, gtI, eqRows, eqN, eqI', eqB', leN, addN, V.cnt, neI, lenI, isBk_s, isWr_s, isBl_s, unbks_s, unwrs_s, unbls_s]; omega)
      | trace_state
  · obtain ⟨d, h1, h⟩ := bind_to h
    cases h
    cases dvR_to h1
    refine ⟨rfl, by decide, [], ?_⟩
    generalize hap : apf = ap
    cbv
    repeat' first
      | exact True.intro
      | (intro (hh : _ = true); first | with_reducible exact absurd hh (bk_t (by assumption)) | cbv)
      | (intro (hh : _ = false); first | with_reducible exact absurd hh (bk_f (by assumption)) | cbv)
      | with_reducible refine And.intro ?_ ?_
      | fail
    all_goals subst hap
    all_goals first
      | (simp only [apf_e, rdyE, eqRows, eqN, eqI', eqB', leN, addN, V.cnt, Nat.zero_add, Nat.le_refl, implies_true, *]; done)
      | (simp_all [apf_e, rdyE, eqI']; done)
      | (simp_all [apf_e, onD, rdyE, hasB, failD, cmE, btE, cmF, geI, ltI, gtI, eqRows, eqN, eqI', eqB', leN, addN, V.cnt, neI, lenI, isBk_s, isWr_s, isBl_s, unbks_s, unwrs_s, unbls_s]; omega)
      | trace_state
  · exact h.elim
theorem s30 : Sound Try.prog [] 30 (pu 30) (fun args => cRdy apf (args.map litA)) := (fn_sound rfl Try.call30 ok30 co30 env_nil vc30).lits
set_option maxRecDepth 20000 in
theorem vc31 (args : List Arg) (out : Out) (h : (cHas apf args).to out) (hok : okAs args) :
    args.length = ic31.nargs ∧ ic31.nargs ≤ ic31.ntmps ∧ ∃ A, run apf [] A ic31.body (fnQ apf args out ic31.res) (st0 [] false args) := by
  unfold cHas at h
  split at h
  · obtain ⟨d, h1, h⟩ := bind_to h
    cases h
    cases dvR_to h1
    refine ⟨rfl, by decide, [], ?_⟩
    generalize hap : apf = ap
    cbv
    repeat' first
      | exact True.intro
      | (intro (hh : _ = true); first | with_reducible exact absurd hh (bk_t (by assumption)) | cbv)
      | (intro (hh : _ = false); first | with_reducible exact absurd hh (bk_f (by assumption)) | cbv)
      | with_reducible refine And.intro ?_ ?_
      | fail
    all_goals subst hap
    all_goals first
      | (simp only [apf_e, hasB, cmF, ltI, eqRows, eqN, eqI', eqB', leN, addN, V.cnt, Nat.zero_add, Nat.le_refl, implies_true, *]; done)
      | (simp_all [apf_e, hasB, cmF, geI, ltI, eqB', lenI]; done)
      | (simp_all [apf_e, hasB, cmF, geI, eqB']; omega)
      | trace_state
  · exact h.elim
theorem s31 : Sound Try.prog [] 31 (pu 31) (fun args => cHas apf (args.map litA)) := (fn_sound rfl Try.call31 ok31 co31 env_nil vc31).lits
set_option maxRecDepth 20000 in
theorem vc19 (args : List Arg) (out : Out) (h : (cNb apf args).to out) (hok : okAs args) :
    args.length = ic19.nargs ∧ ic19.nargs ≤ ic19.ntmps ∧ ∃ A, run apf [] A ic19.body (fnQ apf args out ic19.res) (st0 [] false args) := by
  unfold cNb at h
  split at h
  · cases h
    refine ⟨rfl, by decide, [], ?_⟩
    generalize hap : apf = ap
    cbv
    repeat' first
      | exact True.intro
      | (intro (hh : _ = true); first | with_reducible exact absurd hh (bk_t (by assumption)) | cbv)
      | (intro (hh : _ = false); first | with_reducible exact absurd hh (bk_f (by assumption)) | cbv)
      | with_reducible refine And.intro ?_ ?_
      | fail
    all_goals subst hap
    all_goals first
      | (simp only [apf_e, eqI', *]; done)
      | (simp_all [apf_e, onD, rdyE, hasB, failD, cmE, btE, cmF, geI, ltI, gtI, eqRows, eqN, eqI', eqB', leN, addN, V.cnt, neI, lenI, isBk_s, isWr_s, isBl_s, unbks_s, unwrs_s, unbls_s]; done)
      | (simp_all [apf_e, onD, rdyE, hasB, failD, cmE, btE, cmF, geI, ltI, gtI, eqRows, eqN, eqI', eqB', leN, addN, V.cnt, neI, lenI, isBk_s, isWr_s, isBl_s, unbks_s, unwrs_s, unbls_s]; omega)
      | trace_state
  · obtain ⟨d, h1, h⟩ := bind_to h
    cases h
    cases dvR_to h1
    refine ⟨rfl, by decide, [], ?_⟩
    generalize hap : apf = ap
    cbv
    repeat' first
      | exact True.intro
      | (intro (hh : _ = true); first | with_reducible exact absurd hh (bk_t (by assumption)) | cbv)
      | (intro (hh : _ = false); first | with_reducible exact absurd hh (bk_f (by assumption)) | cbv)
      | with_reducible refine And.intro ?_ ?_
      | fail
    all_goals subst hap
    all_goals first
      | (simp only [apf_e, eqRows, eqN, eqI', eqB', leN, addN, V.cnt, Nat.zero_add, Nat.le_refl, implies_true, *]; done)
      | (simp_all [apf_e, onD, rdyE, hasB, failD, cmE, btE, cmF, geI, ltI, gtI, eqRows, eqN, eqI', eqB', leN, addN, V.cnt, neI, lenI, isBk_s, isWr_s, isBl_s, unbks_s, unwrs_s, unbls_s]; done)
      | (simp_all [apf_e, onD, rdyE, hasB, failD, cmE, btE, cmF, geI, ltI, gtI, eqRows, eqN, eqI', eqB', leN, addN, V.cnt, neI, lenI, isBk_s, isWr_s, isBl_s, unbks_s, unwrs_s, unbls_s]; omega)
      | trace_state
  · exact h.elim
theorem s19 : Sound Try.prog [] 19 (pu 19) (fun args => cNb apf (args.map litA)) := (fn_sound rfl Try.call19 ok19 co19 env_nil vc19).lits
end Go.Cx.Rd
/- CxdS2 -/
namespace Go.Cx.Rd
open Go Go.Cx Go.Proofs
/-- the rows of refusals have a place for each block, and the writes taken are of blocks that there are -/
def wfD (d : DvP) : Prop := d.nr = d.nb ∧ d.nw = d.nb ∧ (∀ j, j < d.nt → 0 ≤ (d.T j).1 ∧ (d.T j).1 < d.nb) ∧ d.nb ≤ 1000000 ∧ d.nt ≤ 1000000 ∧ d.ng ≤ 1000000
def faultD (d : DvP) (b : Int) (r w : Bool) : DvP := if hasB d b then { d with rd := upd d.rd b.toNat r, wr := upd d.wr b.toNat w } else d
def hasE (d : DvP) (b : Int) : Int := if hasB d b then 0 else 2
def cFault (ap : AP) : Ctr
  | [.v .nilp, .v (.int .i64 _), .v (.bool _), .v (.bool _)] => .ok ⟨.int .i64 1, [], []⟩
  | [.o c none, .v (.int .i64 b), .v (.bool r), .v (.bool w)] => (dvR ap c).bind fun d => .chk (ap _ _ wfD d) <| .ok ⟨.int .i64 (ap _ _ (ap _ _ hasE d) b), [dvA ap (ap _ _ (ap _ _ (ap _ _ (ap _ _ faultD d) b) r) w)], []⟩
  | _ => .fail 411
theorem hasB_t {d : DvP} {b : Int} : hasB d b = true ↔ 0 ≤ b ∧ b < d.nb := by simp [hasB]
theorem bl_upd {x : Nat → Bool} {i : Nat} {b : Bool} {n : Nat} : eqRows n (blV apf (upd x i b)) (updR (blV apf x) i (.bool b)) := by
  intro j _
  by_cases hj : j = i
  · simp [blV, updR, upd, hj, apf_e]
  · simp [blV, updR, upd, hj, apf_e]
set_option maxRecDepth 20000 in
theorem vc12 (args : List Arg) (out : Out) (h : (cFault apf args).to out) (hok : okAs args) :
    args.length = ic12.nargs ∧ ic12.nargs ≤ ic12.ntmps ∧ ∃ A, run apf [(31, fun args => cHas apf (args.map litA))] A ic12.body (fnQ apf args out ic12.res) (st0 [] false args) := by
  unfold cFault at h
  split at h
  · cases h
    refine ⟨rfl, by decide, [], ?_⟩
    generalize hap : apf = ap
    cbv
    repeat' first
      | exact True.intro
      | (intro (hh : _ = true); first | with_reducible exact absurd hh (bk_t (by assumption)) | cbv)
      | (intro (hh : _ = false); first | with_reducible exact absurd hh (bk_f (by assumption)) | cbv)
      | with_reducible refine And.intro ?_ ?_
      | fail
    all_goals subst hap
    all_goals first
      | (simp only [apf_e, eqI', *]; done)
      | (simp_all [apf_e, onD, rdyE, hasB, failD, cmE, btE, cmF, geI, ltI, gtI, eqRows, eqN, eqI', eqB', leN, addN, V.cnt, neI, lenI, isBk_s, isWr_s, isBl_s, unbks_s, unwrs_s, unbls_s]; done)
      | (simp_all [apf_e, onD, rdyE, hasB, failD, cmE, btE, cmF, geI, ltI, gtI, eqRows, eqN, eqI', eqB', leN, addN, V.cnt, neI, lenI, isBk_s, isWr_s, isBl_s, unbks_s, unwrs_s, unbls_s]; omega)
  · rename_i c b r w
    obtain ⟨d, h1, hw, h⟩ := bind_to h
    cases h
    cases dvR_to h1
    refine ⟨rfl, by decide, [], ?_⟩
    generalize hap : apf = ap
    cbv
    repeat' first
      | exact True.intro
      | (intro (hh : _ = true); first | with_reducible exact absurd hh (bk_t (by assumption)) | cbv)
      | (intro (hh : _ = false); first | with_reducible exact absurd hh (bk_f (by assumption)) | cbv)
      | with_reducible refine And.intro ?_ ?_
      | fail
    all_goals subst hap
    all_goals simp only [apf_e, unbks_s, unwrs_s, unbls_s, dv_eta, isBk_s, isWr_s, isBl_s, notB] at *
    all_goals obtain ⟨w1, w2, _⟩ := hw
    all_goals first
      | (simp only [eqN, leN, addN, V.cnt, Nat.zero_add, Nat.le_refl]; done)
      | (have hB : hasB d b = false := by simp_all
         simp only [faultD, hasE, hB, if_false, Bool.false_eq_true, eqI', eqN, eqB', eqRows, addN, Nat.zero_add, implies_true]
         done)
      | (have hB : hasB d b = true := by simp_all
         obtain ⟨q1, q2⟩ := hasB_t.1 hB
         try simp only [faultD, hasE, hB, if_true, eqI', eqN, eqB', ltN, addN, natI, Nat.zero_add]
         first
           | done
           | omega
           | exact bl_upd
           | exact fun _ _ => rfl)
      | trace_state
  · exact h.elim
theorem s12 : Sound Try.prog [] 12 (pu 12) (fun args => cFault apf (args.map litA)) := (fn_sound rfl Try.call12 ok12 co12 (env_cons s31 env_nil) vc12).lits
end Go.Cx.Rd
/- CxdS3 -/
namespace Go.Cx.Rd
open Go Go.Cx Go.Proofs
/-- 'slices.Clone' of bytes -/
def cClone (ap : AP) : Ctr
  | [.b n 1 (.ints .u8 _ l)] => .chk (ap _ _ (ap _ _ ltN 0) n) <| .chk (ap _ _ (ap _ _ leN n) 140737488355328) (.ok ⟨.sl 0 [] 0 n 1 none, [], [.ints .u8 n l]⟩)
  | _ => .fail 300
theorem vc33 (args : List Arg) (out : Out) (h : (cClone apf args).to out) (hok : okAs args) :
    args.length = ic33.nargs ∧ ic33.nargs ≤ ic33.ntmps ∧ ∃ A, run apf [] A ic33.body (fnQ apf args out ic33.res) (st0 [] true args) := by
  unfold cClone at h
  split at h
  · rename_i n m l
    obtain ⟨h1, h2, h⟩ := h
    cases h
    have h1 : 0 < n := h1
    have h2 : n ≤ 140737488355328 := h2
    obtain ⟨⟨hn, ⟨rfl, _⟩, hl⟩, _⟩ := hok
    refine ⟨rfl, by decide, [], ?_⟩
    have sl : subL l 0 m = l := subL_all (Nat.le_of_eq hl.1)
    generalize hap : apf = ap
    cbv
    and_intros
    all_goals subst hap
    all_goals try simp only [apf, ltN, leN, addN, appN, V.cnt, sl, eqL', eqN, Nat.zero_add]
    all_goals first
      | exact True.intro
      | omega
  · exact h.elim
theorem s33 : Sound Try.prog [] 33 (pu 33) (cClone apf) := fn_sound rfl Try.call33 ok33 co33 env_nil vc33
/-- .. for good -/
def cCloneF (ap : AP) : Ctr
  | [.b n 1 (.ints .u8 _ l)] => .chk (ap _ _ (ap _ _ ltN 0) n) <| .chk (ap _ _ (ap _ _ leN n) 140737488355328) (.ok ⟨.dsl n 1 (.ints .u8 n l), [], []⟩)
  | _ => .fail 300
theorem s33f : Sound Try.prog [] 33 (pu 33) (cCloneF apf) := s33.freeze fun args out' h => by
  unfold cCloneF at h
  split at h
  · rename_i n m l
    obtain ⟨h1, h2, h⟩ := h
    cases h
    exact ⟨⟨.sl 0 [] 0 n 1 none, [], [.ints .u8 n l]⟩, ⟨h1, h2, rfl⟩, by show 1 ≤ 1000; decide, rfl, rfl, by simp [V.clo, V.noown], by simp, rfl, rfl, _, rfl, ⟨rfl, rfl⟩, rfl⟩
  · exact h.elim
/-- a device's content with its slices as handles -/
def dvO (ap : AP) (k : Nat) (d : DvP) : V :=
  .cat 1 11 (.sl k [] 0 (ap _ _ DvP.nb d) 1 none)
  (.cat 1 10 (.sl (k + 1) [] 0 (ap _ _ DvP.nt d) 2 none)
  (.cat 1 9 (.sl (k + 2) [] 0 (ap _ _ DvP.ng d) 2 none)
  (.cat 1 8 (.int .u64 (ap _ _ DvP.cm d))
  (.cat 1 7 (.int .u64 (ap _ _ DvP.bt d))
  (.cat 1 6 (.bool (ap _ _ DvP.off d))
  (.cat 3 3 (.cat 1 2 (.bool (ap _ _ DvP.ps d)) (.cat 1 1 (.int .i64 (ap _ _ DvP.pa d)) (.int .u64 (ap _ _ DvP.pk d))))
  (.cat 1 2 (.sl (k + 3) [] 0 (ap _ _ DvP.nr d) 1 none)
  (.cat 1 1 (.sl (k + 4) [] 0 (ap _ _ DvP.nw d) 1 none)
  (.int .i64 (ap _ _ DvP.st d))))))))))
def dvHs (ap : AP) (k : Nat) (d : DvP) : List (Nat × Blk) := [
  (100000, ⟨.own, dvO ap k d⟩),
  (k, ⟨.own, .rows 1 (ap _ _ DvP.nb d) (bkV ap (ap _ _ DvP.L d))⟩),
  (k + 1, ⟨.own, .rows 2 (ap _ _ DvP.nt d) (wrV ap (ap _ _ DvP.T d))⟩),
  (k + 2, ⟨.own, .rows 2 (ap _ _ DvP.ng d) (wrV ap (ap _ _ DvP.G d))⟩),
  (k + 3, ⟨.own, .rows 1 (ap _ _ DvP.nr d) (blV ap (ap _ _ DvP.rd d))⟩),
  (k + 4, ⟨.own, .rows 1 (ap _ _ DvP.nw d) (blV ap (ap _ _ DvP.wr d))⟩)]
/-- what the first i of the writes taken say of a block -/
def contI (d : DvP) (b : Int) : Nat → List Int
  | 0 => d.L b.toNat
  | i + 1 => if (d.T i).1 = b then (d.T i).2 else contI d b i
def contD (d : DvP) (b : Int) : List Int := contI d b d.nt
def prN (i : Nat) : Nat := i - 1
def prI (i : Nat) : Int := (i : Int) - 1
def isHas (d : DvP) (b : Int) : Prop := hasB d b = true
theorem has_lt {d : DvP} {b : Int} (h : isHas d b) : ltN (natI b) d.nb := by
  obtain ⟨h1, h2⟩ := hasB_t.1 h
  show b.toNat < d.nb
  omega
def cCont (ap : AP) : Ctr
  | [.o c none, .v (.int .i64 b)] => (dvR ap c).bind fun d => .chk (ap _ _ wfD d) <| .chk (ap _ _ (ap _ _ isHas d) b) <| .ok ⟨.dsl 512 1 (.ints .u8 512 (ap _ _ (ap _ _ contD d) b)), [dvA ap d], []⟩
  | _ => .fail 420
def invC (d : DvP) (b : Int) (i : Nat) : Prop := i ≤ d.nt ∧ contI d b i = contD d b
def aCont (ap : AP) (d : DvP) (b : Int) : List (Nat × Ann) := [
  (0, .inv Nat (fun i => ⟨[(0, .ptr 100000 []), (1, .int .i64 b), (5, .int .i64 (ap _ _ prI i))], dvHs ap 9000 d, []⟩)
    (fun i => ap _ _ (ap _ _ (ap _ _ invC d) b) i) (fun i => i))]
theorem pr_first {n : Nat} (h : n ≤ 1000000) : prI n = arF BinOp.sub IntKind.i64 (lenI n) 1 := by
  show (n : Int) - 1 = wsub .i64 (n : Int) 1
  rw [wsub_i64 (by omega)]
theorem pr_next {d : DvP} {b : Int} {i : Nat} (hi : invC d b i) (h : d.nt ≤ 1000000) (hg : 0 ≤ prI i) : prI (prN i) = arF BinOp.sub IntKind.i64 (prI i) 1 := by
  have := hi.1
  show ((i - 1 : Nat) : Int) - 1 = wsub .i64 ((i : Int) - 1) 1
  have hg : 0 ≤ (i : Int) - 1 := hg
  rw [wsub_i64 (by omega)]
  omega
theorem pr_lt {d : DvP} {b : Int} {i : Nat} (hi : invC d b i) (hg : 0 ≤ prI i) : ltN (natI (prI i)) d.nt := by
  have := hi.1
  have hg : 0 ≤ (i : Int) - 1 := hg
  show ((i : Int) - 1).toNat < d.nt
  omega
theorem pn_lt {i : Nat} (hg : 0 ≤ prI i) : prN i < i := by
  have hg : 0 ≤ (i : Int) - 1 := hg
  show i - 1 < i
  omega
theorem cont_suc {d : DvP} {b : Int} {i : Nat} (hg : 0 ≤ prI i) : contI d b i = if (d.T (natI (prI i))).1 = b then (d.T (natI (prI i))).2 else contI d b (prN i) := by
  have hg : 0 ≤ (i : Int) - 1 := hg
  obtain ⟨k, rfl⟩ : ∃ k, i = k + 1 := ⟨i - 1, by omega⟩
  have e : natI (prI (k + 1)) = k := by show (((k + 1 : Nat) : Int) - 1).toNat = k; omega
  rw [e]
  rfl
theorem cont_hit {d : DvP} {b : Int} {i : Nat} (hi : invC d b i) (hg : 0 ≤ prI i) (he : (d.T (natI (prI i))).1 = b) : contD d b = (d.T (natI (prI i))).2 := by
  rw [← hi.2, cont_suc hg, if_pos he]
theorem inv_next {d : DvP} {b : Int} {i : Nat} (hi : invC d b i) (hg : 0 ≤ prI i) (he : (d.T (natI (prI i))).1 ≠ b) : invC d b (prN i) := by
  refine ⟨Nat.le_trans (Nat.le_of_lt (pn_lt hg)) hi.1, ?_⟩
  rw [← hi.2, cont_suc hg, if_neg he]
theorem cont_end {d : DvP} {b : Int} {i : Nat} (hi : invC d b i) (hg : ¬ 0 ≤ prI i) : contD d b = d.L (natI b) := by
  have hg : ¬ 0 ≤ (i : Int) - 1 := hg
  obtain rfl : i = 0 := by omega
  exact hi.2.symm
set_option maxRecDepth 20000 in
theorem vc34 (args : List Arg) (out : Out) (h : (cCont apf args).to out) (hok : okAs args) :
    args.length = ic34.nargs ∧ ic34.nargs ≤ ic34.ntmps ∧ ∃ A, run apf [] A ic34.body (fnQ apf args out ic34.res) (st0 [] false args) := by
  unfold cCont at h
  split at h
  · rename_i c b
    obtain ⟨d, h1, hw, hb, h⟩ := bind_to h
    cases h
    cases dvR_to h1
    obtain ⟨w1, w2, w3, w4, w5, w6⟩ := hw
    obtain ⟨q1, q2⟩ := hasB_t.1 hb
    refine ⟨rfl, by decide, aCont apf d b, ?_⟩
    have hP : apf _ _ (apf _ _ (apf _ _ invC d) b) (apf _ _ DvP.nt d) := ⟨Nat.le_refl _, rfl⟩
    generalize hap : apf = ap at hP ⊢
    cbv
    repeat' first
      | exact True.intro
      | with_reducible refine And.intro ?_ ?_
      | (refine ⟨ap _ _ DvP.nt d, hP, ?_⟩; cbv)
      | fail
    all_goals first
      | (intro (i : Nat) hi k1 k2
         clear k1 k2
         cbv
         repeat' first
           | exact True.intro
           | (intro (hh : _ = true); first | with_reducible exact absurd hh (bk_t (by assumption)) | cbv)
           | (intro (hh : _ = false); first | with_reducible exact absurd hh (bk_f (by assumption)) | cbv)
           | with_reducible refine And.intro ?_ ?_
           | (refine ⟨ap _ _ prN i, ?_, (?_ : _ < _), ?_⟩; rotate_left 2; try cbv))
      | skip
    all_goals subst hap
    all_goals try simp only [apf_e, eqRows, eqN, eqI', eqB', leN, addN, V.cnt, Nat.zero_add, Nat.le_refl, implies_true]
    all_goals simp only [apf_e, cmF, geI, eqI, addN, Nat.zero_add, decide_eq_true_eq, decide_eq_false_iff_not] at *
    all_goals first
      | exact pr_first w5
      | with_reducible assumption
      | exact pr_next (by assumption) w5 (by assumption)
      | exact pr_lt (by assumption) (by assumption)
      | exact pn_lt (by assumption)
      | exact cont_hit (by assumption) (by assumption) (by assumption)
      | exact inv_next (by assumption) (by assumption) (by assumption)
      | exact cont_end (by assumption) (by assumption)
      | exact has_lt hb
      | trace_state
  · exact h.elim
theorem s34 : Sound Try.prog [] 34 (pu 34) (fun args => cCont apf (args.map litA)) := (fn_sound rfl Try.call34 ok34 co34 env_nil vc34).lits
end Go.Cx.Rd
/- CxdS4 -/
namespace Go.Cx.Rd
open Go Go.Cx Go.Proofs
/-- does a cut keep the write at this place? -/
def bitK (k : Int) (i : Nat) : Bool := eqI (band .u64 (bshr .u64 k (wrem .i64 i 64)) 1) 1
/-- the first i of the writes are laid on the blocks, if they are chosen -/
def layI (T : Nat → Int × List Int) (s : Nat → Bool) (L : Nat → List Int) : Nat → Nat → List Int
  | 0 => L
  | i + 1 => if s i then upd (layI T s L i) (T i).1.toNat (T i).2 else layI T s L i
def layD (d : DvP) (s : Nat → Bool) (i : Nat) : DvP := { d with L := layI d.T s d.L i }
def cutD (d : DvP) (k : Int) : DvP := { d with L := layI d.T (bitK k) d.L d.nt, nt := 0, ps := false, pa := 0, pk := 0, off := true }
theorem bk_upd {x : Nat → List Int} {i : Nat} {b : List Int} {n : Nat} : eqRows n (bkV apf (upd x i b)) (updR (bkV apf x) i (.dsl 512 1 (.ints .u8 512 b))) := by
  intro j _
  by_cases hj : j = i
  · simp [bkV, updR, upd, hj, apf_e]
  · simp [bkV, updR, upd, hj, apf_e]
theorem lay_yes {T : Nat → Int × List Int} {s : Nat → Bool} {L : Nat → List Int} {i : Nat} (h : s i = true) : layI T s L (i + 1) = upd (layI T s L i) (T i).1.toNat (T i).2 := by rw [layI, if_pos h]
theorem lay_no {T : Nat → Int × List Int} {s : Nat → Bool} {L : Nat → List Int} {i : Nat} (h : s i = false) : layI T s L (i + 1) = layI T s L i := by rw [layI, h]; rfl
def sucN (i : Nat) : Nat := i + 1
theorem len_suc {i n : Nat} (h : i < n) (hn : n ≤ 1000000) : lenI (sucN i) = arF BinOp.add IntKind.i64 (lenI i) 1 := (inc_i64 (i := i) (by omega)).symm
theorem lay_rows_yes {T : Nat → Int × List Int} {s : Nat → Bool} {L : Nat → List Int} {i n : Nat} (h : s i = true) : eqRows n (bkV apf (layI T s L (sucN i))) (updR (bkV apf (layI T s L i)) (natI (T (natI (lenI i))).1) (V.dsl 512 1 (V.ints IntKind.u8 512 (T (natI (lenI i))).2))) := by
  rw [show sucN i = i + 1 from rfl, lay_yes h]
  exact bk_upd
theorem lay_rows_no {T : Nat → Int × List Int} {s : Nat → Bool} {L : Nat → List Int} {i n : Nat} (h : s i = false) : eqRows n (bkV apf (layI T s L (sucN i))) (bkV apf (layI T s L i)) := by
  rw [show sucN i = i + 1 from rfl, lay_no h]
  exact fun _ _ => rfl
theorem idx_lt {x : Int} {n : Nat} (h : 0 ≤ x ∧ x < n) : ltN (natI x) n := by
  show x.toNat < n
  omega
theorem sub_lt' {i n : Nat} (h : i < n) : subN n (sucN i) < subN n i := by
  show n - (i + 1) < n - i
  omega
theorem rem_nn {i : Nat} : 0 ≤ arF BinOp.rem IntKind.i64 (lenI i) 64 := by
  show 0 ≤ wrem .i64 (i : Int) ((64 : Nat) : Int)
  rw [rem_i64]
  exact Int.natCast_nonneg _
theorem cut_rows {d : DvP} {k : Int} {i n : Nat} (he : i = d.nt) : eqRows n (bkV apf (cutD d k).L) (bkV apf (layI d.T (bitK k) d.L i)) := by
  rw [he]
  exact fun _ _ => rfl
def cCut (ap : AP) : Ctr
  | [.o c none, .v (.int .u64 k)] => (dvR ap c).bind fun d => .chk (ap _ _ wfD d) <| .ok ⟨.tnil, [dvA ap (ap _ _ (ap _ _ cutD d) k)], []⟩
  | _ => .fail 430
def aCut (ap : AP) (d : DvP) (k : Int) : List (Nat × Ann) := [
  (0, .inv Nat (fun i => ⟨[(0, .ptr 100000 []), (1, .int .u64 k), (9, .sl 9001 [] 0 (ap _ _ DvP.nt d) 2 none), (10, .int .i64 (ap _ _ lenI (ap _ _ DvP.nt d))), (11, .int .i64 (ap _ _ lenI i))],
      dvHs ap 9000 (ap _ _ (ap _ _ (ap _ _ layD d) (ap _ _ bitK k)) i), []⟩)
    (fun i => ap _ _ (ap _ _ leN i) (ap _ _ DvP.nt d)) (fun i => ap _ _ (ap _ _ subN (ap _ _ DvP.nt d)) i))]
set_option maxRecDepth 20000 in
theorem vc35 (args : List Arg) (out : Out) (h : (cCut apf args).to out) (hok : okAs args) :
    args.length = ic35.nargs ∧ ic35.nargs ≤ ic35.ntmps ∧ ∃ A, run apf [] A ic35.body (fnQ apf args out ic35.res) (st0 [] false args) := by
  unfold cCut at h
  split at h
  · rename_i c k
    obtain ⟨d, h1, hw, h⟩ := bind_to h
    cases h
    cases dvR_to h1
    obtain ⟨w1, w2, w3, w4, w5, w6⟩ := hw
    clear hok h
    refine ⟨rfl, by decide, aCut apf d k, ?_⟩
    have hP : apf _ _ (apf _ _ leN 0) (apf _ _ DvP.nt d) := Nat.zero_le _
    generalize hap : apf = ap at hP ⊢
    cbv
    repeat' first
      | exact True.intro
      | with_reducible refine And.intro ?_ ?_
      | (refine ⟨0, hP, ?_⟩; cbv)
      | fail
    all_goals first
      | (intro (i : Nat) hi k1 k2
         clear k1 k2
         cbv
         repeat' first
           | exact True.intro
           | (intro (hh : _ = true); first | with_reducible exact absurd hh (bk_t (by assumption)) | cbv)
           | (intro (hh : _ = false); first | with_reducible exact absurd hh (bk_f (by assumption)) | cbv)
           | with_reducible refine And.intro ?_ ?_
           | (refine ⟨ap _ _ sucN i, ?_, (?_ : _ < _), ?_⟩; rotate_left 2; try cbv))
      | skip
    all_goals subst hap
    all_goals simp only [apf_e, cmF, ltI, eqI, layD, addN, Nat.zero_add, decide_eq_true_eq, decide_eq_false_iff_not] at *
    all_goals try simp only [eqRows, eqN, eqI', eqB', leN, V.cnt, Nat.le_refl, implies_true]
    all_goals first
      | rfl
      | exact fun _ _ => rfl
      | exact Int.natCast_nonneg _
      | (have hlt : i < d.nt := Int.ofNat_lt.1 (by assumption)
         first
           | exact hlt
           | exact rem_nn
           | exact (w3 i hlt).1
           | exact idx_lt (w3 i hlt)
           | exact len_suc hlt w5
           | exact sub_lt' hlt
           | (have hb : bitK k i = true := decide_eq_true (by assumption)
              exact lay_rows_yes hb)
           | (have hb : bitK k i = false := decide_eq_false (by assumption)
              exact lay_rows_no hb))
      | (have he : i = d.nt := Nat.le_antisymm hi (Nat.le_of_not_lt fun h => absurd (Int.ofNat_lt.2 h) (by assumption))
         exact cut_rows he)
      | trace_state
  · exact h.elim
theorem s35 : Sound Try.prog [] 35 (pu 35) (fun args => cCut apf (args.map litA)) := (fn_sound rfl Try.call35 ok35 co35 env_nil vc35).lits
end Go.Cx.Rd
/- CxdSB -/
namespace Go.Cx.Rd
open Go Go.Cx Go.Proofs
def filB (c : Int) (j : Nat) : Int := wadd .u8 c (wcv .u8 (wquo .i64 (lenI j) 100))
def filI (c : Int) (i : Nat) : List Int := (List.range 512).map fun j => if j < i then filB c j else 0
theorem fil_zero {c : Int} : filI c 0 = zerosI (natI 512) := by
  rw [show natI 512 = 512 from rfl]
  simp [filI, zerosI, List.map_const']
theorem fil_next {c : Int} {i : Nat} : filI c (sucN i) = setI (filI c i) i (filB c i) := by
  refine List.ext_getElem (by simp [filI, setI]) fun j h1 h2 => ?_
  simp only [filI, setI, sucN, List.getElem_set, List.getElem_map, List.getElem_range]
  by_cases hj : i = j
  · subst hj
    rw [if_pos (Nat.lt_succ_self _), if_pos rfl]
  · rw [if_neg hj]
    by_cases hl : j < i
    · rw [if_pos hl, if_pos (by omega)]
    · rw [if_neg hl, if_neg (by omega)]
def cFilled (ap : AP) : Ctr
  | [.v (.int .u8 c), .v (.int .i64 n)] => .chk (ap _ _ (ap _ _ eqI' n) 512) <| .ok ⟨.sl 0 [] 0 512 1 none, [], [.ints .u8 512 (ap _ _ (ap _ _ filI c) 512)]⟩
  | _ => .fail 490
def aFilled (ap : AP) (c : Int) : List (Nat × Ann) := [
  (0, .inv Nat (fun i => ⟨[(0, .int .u8 c), (5, .sl 8 [] 0 512 1 none), (10, .int .i64 512), (11, .int .i64 (ap _ _ lenI i))],
      [(8, ⟨.own, .ints .u8 512 (ap _ _ (ap _ _ filI c) i)⟩)], []⟩)
    (fun i => ap _ _ (ap _ _ leN i) 512) (fun i => ap _ _ (ap _ _ subN 512) i))]
set_option maxRecDepth 20000 in
set_option maxHeartbeats 1000000 in
theorem vc11 (args : List Arg) (out : Out) (h : (cFilled apf args).to out) (hok : okAs args) :
    args.length = ic11.nargs ∧ ic11.nargs ≤ ic11.ntmps ∧ ∃ A, run apf [] A ic11.body (fnQ apf args out ic11.res) (st0 [] true args) := by
  unfold cFilled at h
  split at h
  · rename_i c n
    obtain ⟨h1, h⟩ := h
    cases h
    obtain rfl : n = 512 := h1
    refine ⟨rfl, by decide, aFilled apf c, ?_⟩
    have hP : apf _ _ (apf _ _ leN 0) 512 := Nat.zero_le _
    generalize hap : apf = ap at hP ⊢
    cbv
    repeat' first
      | exact True.intro
      | with_reducible refine And.intro ?_ ?_
      | (refine ⟨0, hP, ?_⟩; cbv)
      | fail
    all_goals first
      | (intro (i : Nat) hi k1 k2
         clear k1 k2
         cbv
         repeat' first
           | exact True.intro
           | (intro (hh : _ = true); first | with_reducible exact absurd hh (bk_t (by assumption)) | cbv)
           | (intro (hh : _ = false); first | with_reducible exact absurd hh (bk_f (by assumption)) | cbv)
           | with_reducible refine And.intro ?_ ?_
           | (refine ⟨ap _ _ sucN i, ?_, (?_ : _ < _), ?_⟩; rotate_left 2; try cbv))
      | skip
    all_goals subst hap
    all_goals try simp only [apf_e, cmF, ltI, addN, Nat.zero_add, decide_eq_true_eq, decide_eq_false_iff_not] at *
    all_goals first
      | exact fil_zero
      | exact (by decide : 1 * 512 ≤ 140737488355328)
      | with_reducible rfl
      | (show (_ : Nat) = _
         rfl)
      | (show (_ : Int) = _
         rfl)
      | exact Int.natCast_nonneg _
      | (have hlt : i < 512 := Int.ofNat_lt.1 (by assumption)
         first
           | exact hlt
           | exact len_suc hlt (by decide)
           | exact sub_lt' hlt
           | exact fil_next)
      | (have he : i = 512 := Nat.le_antisymm hi (Nat.le_of_not_lt fun h => absurd (Int.ofNat_lt.2 h) (by assumption))
         rw [he]
         rfl)
      | decide
      | trace_state
  · exact h.elim
end Go.Cx.Rd
/- CxdSC -/
namespace Go.Cx.Rd
open Go Go.Cx Go.Proofs
def newB (n c b : Int) : Bool := ltI n 1 || gtI n 256 || gtI c 281474976710655 || gtI b 281474976710655
def zeroL (_ : Nat) : List Int := zerosI 512
def zeroW (_ : Nat) : Int × List Int := (0, zerosI 512)
def noB (_ : Nat) : Bool := false
def newD (n c b : Int) : DvP := ⟨n.toNat, zeroL, 0, zeroW, 0, zeroW, c, b, false, false, 0, 0, n.toNat, noB, n.toNat, noB, 0⟩
def newOk (n c b : Int) : Prop := newB n c b = false
/-- .. where it is made -/
def cNewY (ap : AP) : Ctr
  | [.v (.int .i64 n), .v (.int .u64 c), .v (.int .u64 b)] => .chk (ap _ _ (ap _ _ (ap _ _ newOk n) c) b) <|
      .ok ⟨.tcons (.ptr 0 []) (.tcons (.int .i64 0) .tnil), [], [dvA ap (ap _ _ (ap _ _ (ap _ _ newD n) c) b)]⟩
  | _ => .fail 491
inductive NSt where
  | z | s (i : Nat)
def nLt (n : Int) (i : Nat) : Prop := (i : Int) < n
def NSt.p (ap : AP) (n : Int) : NSt → Prop
  | .z => True
  | .s i => ap _ _ (ap _ _ nLt n) i
def nMu (n : Int) (i : Nat) : Nat := n.toNat - i
def NSt.mu (ap : AP) (n : Int) : NSt → Nat
  | .z => ap _ _ (ap _ _ nMu n) 0
  | .s i => ap _ _ (ap _ _ nMu n) (ap _ _ sucN i)
def newC (ap : AP) (n c b : Int) (L : V) : V :=
  .cat 1 11 L (.cat 1 10 .nsl (.cat 1 9 .nsl (.cat 1 8 (.int .u64 c) (.cat 1 7 (.int .u64 b) (.cat 1 6 .ff (.cat 3 3 (.cat 1 2 .ff (.cat 1 1 (.lit .i64 0) (.lit .u64 0)))
    (.cat 1 2 (.sl 26 [] 0 (ap _ _ natI n) 1 none) (.cat 1 1 (.sl 28 [] 0 (ap _ _ natI n) 1 none) (.lit .i64 0)))))))))
def newHs (ap : AP) (n : Int) : List (Nat × Blk) := [(26, ⟨.own, .rows 1 (ap _ _ natI n) fun _ => .ff⟩), (28, ⟨.own, .rows 1 (ap _ _ natI n) fun _ => .ff⟩)]
def NSt.fam (ap : AP) (n c b : Int) : NSt → LSt
  | .z => ⟨[(0, .int .i64 n), (31, .int .i64 n), (32, .int .i64 (ap _ _ lenI 0)), (8, .ptr 30 [])], (30, ⟨.own, newC ap n c b .nsl⟩) :: newHs ap n, []⟩
  | .s i => ⟨[(0, .int .i64 n), (31, .int .i64 n), (32, .int .i64 (ap _ _ lenI (ap _ _ sucN i))), (8, .ptr 30 [])],
      (30, ⟨.own, newC ap n c b (.sl 7000 [] 0 (ap _ _ sucN i) 1 none)⟩) :: (7000, ⟨.own, .rows 1 (ap _ _ sucN i) (bkV ap zeroL)⟩) :: newHs ap n, [(7000, 41)]⟩
def aNew (ap : AP) (n c b : Int) : List (Nat × Ann) := [(0, .inv NSt (NSt.fam ap n c b) (NSt.p ap n) (NSt.mu ap n))]
theorem newB_f {n c b : Int} (h : newB n c b = false) : cmF .lss n 1 = false ∧ cmF .gtr n 256 = false ∧ cmF .gtr c 281474976710655 = false ∧ cmF .gtr b 281474976710655 = false := by
  simp only [newB, Bool.or_eq_false_iff] at h
  exact ⟨h.1.1.1, h.1.1.2, h.1.2, h.2⟩
theorem new_row : eqRows (0 + 1) (bkV apf zeroL) fun j => lkV V.nsl [(0, V.dsl 512 1 (V.ints IntKind.u8 512 (zerosI 512)))] j := by
  intro j hj
  obtain rfl : j = 0 := by omega
  simp [bkV, lkV, apf_e, zeroL]
theorem new_row' {i : Nat} : eqRows (i + 1 + 1) (bkV apf zeroL) fun j => catR (fun j => bkV apf zeroL j) (i + 1) (fun j => lkV V.nsl [(0, V.dsl 512 1 (V.ints IntKind.u8 512 (zerosI 512)))] j) j := by
  intro j hj
  by_cases h : j < i + 1
  · simp [bkV, catR, h, apf_e, zeroL]
  · obtain rfl : j = i + 1 := by omega
    simp [bkV, catR, lkV, apf_e, zeroL]
set_option maxRecDepth 20000 in
set_option maxHeartbeats 2000000 in
theorem vc8y (args : List Arg) (out : Out) (h : (cNewY apf args).to out) (hok : okAs args) :
    args.length = ic8.nargs ∧ ic8.nargs ≤ ic8.ntmps ∧ ∃ A, run apf [] A ic8.body (fnQ apf args out ic8.res) (st0 [] true args) := by
  unfold cNewY at h
  split at h
  · rename_i n c b
    obtain ⟨h1, h⟩ := h
    cases h
    clear hok
    have h1 : newB n c b = false := h1
    obtain ⟨g1, g2, g3, g4⟩ := newB_f h1
    have q1 : 1 ≤ n := lss_f g1
    have q2 : n ≤ 256 := gtr_f g2
    refine ⟨rfl, by decide, aNew apf n c b, ?_⟩
    have k1 : apf _ _ (apf _ _ (cmF .lss) n) 1 = false := g1
    have k2 : apf _ _ (apf _ _ (cmF .gtr) n) 256 = false := g2
    have k3 : apf _ _ (apf _ _ (cmF .gtr) c) 281474976710655 = false := g3
    have k4 : apf _ _ (apf _ _ (cmF .gtr) b) 281474976710655 = false := g4
    generalize hap : apf = ap at k1 k2 k3 k4 ⊢
    cbv
    repeat' first
      | exact True.intro
      | (intro (hh : _ = true); first | with_reducible exact absurd hh (bk_t (by assumption)) | cbv)
      | (intro (hh : _ = false); first | with_reducible exact absurd hh (bk_f (by assumption)) | cbv)
      | with_reducible refine And.intro ?_ ?_
      | (refine ⟨NSt.z, True.intro, ?_⟩; cbv)
      | fail
    rotate_right
    intro (x : NSt) hi j1 j2
    clear j1 j2
    rcases x with _ | i
    · cbv
      repeat' first
        | exact True.intro
        | (intro (hh : _ = true); first | with_reducible exact absurd hh (bk_t (by assumption)) | cbv)
        | (intro (hh : _ = false); first | with_reducible exact absurd hh (bk_f (by assumption)) | cbv)
        | with_reducible refine And.intro ?_ ?_
        | (refine ⟨NSt.s 0, ?_, (?_ : _ < _), ?_⟩; rotate_left 2; try cbv)
        | fail
      all_goals subst hap
      all_goals simp only [apf_e, cmF, newD, addN, Nat.zero_add, V.cnt, eqN, eqI', eqB', leN, mksN, appN, natI, NSt.p, NSt.mu, nLt, nMu, sucN, lenI, ltI, decide_eq_true_eq, decide_eq_false_iff_not] at *
      all_goals first
        | exact True.intro
        | rfl
        | omega
        | decide
        | exact new_row
        | exact new_row'
        | exact fun _ _ => rfl
        | exact (inc_i64 (by omega)).symm
        | trace_state
    · cbv
      repeat' first
        | exact True.intro
        | (intro (hh : _ = true); first | with_reducible exact absurd hh (bk_t (by assumption)) | cbv)
        | (intro (hh : _ = false); first | with_reducible exact absurd hh (bk_f (by assumption)) | cbv)
        | with_reducible refine And.intro ?_ ?_
        | (refine ⟨NSt.s (ap _ _ sucN i), ?_, (?_ : _ < _), ?_⟩; rotate_left 2; try cbv)
        | fail
      all_goals subst hap
      all_goals simp only [apf_e, cmF, newD, addN, Nat.zero_add, V.cnt, eqN, eqI', eqB', leN, mksN, appN, natI, NSt.p, NSt.mu, nLt, nMu, sucN, lenI, ltI, decide_eq_true_eq, decide_eq_false_iff_not] at *
      all_goals first
        | exact True.intro
        | rfl
        | omega
        | decide
        | exact new_row
        | exact new_row'
        | exact fun _ _ => rfl
        | exact (inc_i64 (by omega)).symm
        | trace_state
    all_goals subst hap
    all_goals simp only [apf_e, cmF, eqN, eqI', mksN, natI, lenI, ltI, decide_eq_false_iff_not] at *
    all_goals first
      | exact True.intro
      | rfl
      | omega
      | decide
      | exact new_row
      | exact new_row'
      | exact fun _ _ => rfl
      | exact (inc_i64 (by omega)).symm
      | trace_state
  · exact h.elim
theorem s8y : Sound Try.prog [] 8 (pu 8) (fun args => cNewY apf (args.map litA)) := (fn_sound rfl Try.call8 ok8 co8 env_nil vc8y).lits
end Go.Cx.Rd
/- CxdS5 -/
namespace Go.Cx.Rd
open Go Go.Cx Go.Proofs
def offD (d : DvP) (k : Int) : DvP := if d.off then d else cutD d k
def cOff (ap : AP) : Ctr
  | [.v .nilp, .v (.int .u64 _)] => .ok ⟨.int .i64 1, [], []⟩
  | [.o c none, .v (.int .u64 k)] => (dvR ap c).bind fun d => .chk (ap _ _ wfD d) <| .ok ⟨.int .i64 0, [dvA ap (ap _ _ (ap _ _ offD d) k)], []⟩
  | _ => .fail 440
def stD (d : DvP) : DvP := { d with st := wadd .i64 d.st 1 }
def stepD (d : DvP) : DvP := if d.ps then (if gtI d.pa 0 then { stD d with pa := wsub .i64 d.pa 1 } else cutD (stD d) d.pk) else stD d
def stepE (d : DvP) : Int := if d.ps then (if gtI d.pa 0 then 0 else 10) else 0
def cStep (ap : AP) : Ctr
  | [.o c none] => (dvR ap c).bind fun d => .chk (ap _ _ wfD d) <| .ok ⟨.int .i64 (ap _ _ stepE d), [dvA ap (ap _ _ stepD d)], []⟩
  | _ => .fail 441
theorem off_t {d : DvP} {k : Int} (h : d.off = true) : offD d k = d := by rw [offD, if_pos h]
theorem off_f {d : DvP} {k : Int} (h : d.off = false) : offD d k = cutD d k := by rw [offD, h]; rfl
theorem st_no {d : DvP} (h : d.ps = false) : stepD d = stD d ∧ stepE d = 0 := by rw [stepD, stepE, h]; exact ⟨rfl, rfl⟩
theorem st_more {d : DvP} (h : d.ps = true) (h2 : gtI d.pa 0 = true) : stepD d = { stD d with pa := wsub .i64 d.pa 1 } ∧ stepE d = 0 := by rw [stepD, stepE, h, h2]; exact ⟨rfl, rfl⟩
theorem st_cut {d : DvP} (h : d.ps = true) (h2 : gtI d.pa 0 = false) : stepD d = cutD (stD d) d.pk ∧ stepE d = 10 := by rw [stepD, stepE, h, h2]; exact ⟨rfl, rfl⟩
set_option maxRecDepth 20000 in
theorem vc15 (args : List Arg) (out : Out) (h : (cOff apf args).to out) (hok : okAs args) :
    args.length = ic15.nargs ∧ ic15.nargs ≤ ic15.ntmps ∧ ∃ A, run apf [(35, fun args => cCut apf (args.map litA))] A ic15.body (fnQ apf args out ic15.res) (st0 [] false args) := by
  unfold cOff at h
  split at h
  · cases h
    refine ⟨rfl, by decide, [], ?_⟩
    generalize hap : apf = ap
    cbv
    repeat' first
      | exact True.intro
      | (intro (hh : _ = true); first | with_reducible exact absurd hh (bk_t (by assumption)) | cbv)
      | (intro (hh : _ = false); first | with_reducible exact absurd hh (bk_f (by assumption)) | cbv)
      | with_reducible refine And.intro ?_ ?_
      | fail
    all_goals subst hap
    all_goals first
      | (simp only [apf_e, eqI', *]; done)
      | (simp_all [apf_e, onD, rdyE, hasB, failD, cmE, btE, cmF, geI, ltI, gtI, eqRows, eqN, eqI', eqB', leN, addN, V.cnt, neI, lenI, isBk_s, isWr_s, isBl_s, unbks_s, unwrs_s, unbls_s]; done)
      | (simp_all [apf_e, onD, rdyE, hasB, failD, cmE, btE, cmF, geI, ltI, gtI, eqRows, eqN, eqI', eqB', leN, addN, V.cnt, neI, lenI, isBk_s, isWr_s, isBl_s, unbks_s, unwrs_s, unbls_s]; omega)
  · rename_i c k
    obtain ⟨d, h1, hw, h⟩ := bind_to h
    cases h
    cases dvR_to h1
    clear hok h h1
    refine ⟨rfl, by decide, [], ?_⟩
    generalize hap : apf = ap
    cbv
    repeat' first
      | exact True.intro
      | (intro (hh : _ = true); first | with_reducible exact absurd hh (bk_t (by assumption)) | cbv)
      | (intro (hh : _ = false); first | with_reducible exact absurd hh (bk_f (by assumption)) | cbv)
      | with_reducible refine And.intro ?_ ?_
      | fail
    all_goals subst hap
    all_goals simp only [apf_e, unbks_s, unwrs_s, unbls_s, dv_eta, isBk_s, isWr_s, isBl_s, notB, addN, Nat.zero_add, Bool.not_eq_eq_eq_not, Bool.not_true, Bool.not_false] at *
    all_goals first
      | (simp only [eqN, eqI', eqB', leN, V.cnt, Nat.le_refl]; done)
      | exact hw
      | (have e := off_t (d := d) (k := k) (by assumption)
         simp only [e, eqRows, eqN, eqI', eqB', implies_true]
         done)
      | (have e := off_f (d := d) (k := k) (by assumption)
         simp only [e, eqRows, eqN, eqI', eqB', implies_true]
         done)
      | trace_state
  · exact h.elim
set_option maxRecDepth 20000 in
theorem vc32 (args : List Arg) (out : Out) (h : (cStep apf args).to out) (hok : okAs args) :
    args.length = ic32.nargs ∧ ic32.nargs ≤ ic32.ntmps ∧ ∃ A, run apf [(35, fun args => cCut apf (args.map litA))] A ic32.body (fnQ apf args out ic32.res) (st0 [] false args) := by
  unfold cStep at h
  split at h
  · obtain ⟨d, h1, hw, h⟩ := bind_to h
    cases h
    cases dvR_to h1
    clear hok h h1
    refine ⟨rfl, by decide, [], ?_⟩
    generalize hap : apf = ap
    cbv
    repeat' first
      | exact True.intro
      | (intro (hh : _ = true); first | with_reducible exact absurd hh (bk_t (by assumption)) | cbv)
      | (intro (hh : _ = false); first | with_reducible exact absurd hh (bk_f (by assumption)) | cbv)
      | with_reducible refine And.intro ?_ ?_
      | fail
    all_goals subst hap
    all_goals simp only [apf_e, cmF, unbks_s, unwrs_s, unbls_s, isBk_s, isWr_s, isBl_s, notB, addN, Nat.zero_add] at *
    all_goals simp only [Bool.not_eq_eq_eq_not, Bool.not_true, Bool.not_false] at *
    all_goals first
      | (simp only [eqN, eqI', eqB', leN, V.cnt, Nat.le_refl]; done)
      | exact hw
      | (have e := st_no (d := d) (by assumption)
         simp only [e.1, e.2, stD, eqRows, eqN, eqI', eqB', implies_true]
         done)
      | (have e := st_no (d := d) (by assumption)
         simp only [e.1, stD]
         first
           | rfl
           | exact fun _ _ => rfl)
      | (have e := st_more (d := d) (by assumption) (by assumption)
         simp only [e.1, e.2, stD]
         first
           | rfl
           | exact fun _ _ => rfl)
      | (have e := st_cut (d := d) (by assumption) (by assumption)
         simp only [e.1, e.2, stD]
         first
           | rfl
           | exact fun _ _ => rfl)
      | trace_state
  · exact h.elim
theorem s15 : Sound Try.prog [] 15 (pu 15) (fun args => cOff apf (args.map litA)) := (fn_sound rfl Try.call15 ok15 co15 (env_cons s35 env_nil) vc15).lits
theorem s32 : Sound Try.prog [] 32 (pu 32) (fun args => cStep apf (args.map litA)) := (fn_sound rfl Try.call32 ok32 co32 (env_cons s35 env_nil) vc32).lits
end Go.Cx.Rd
/- CxdS6 -/
namespace Go.Cx.Rd
open Go Go.Cx Go.Proofs
def readE (d : DvP) (b : Int) : Int := if d.off then 10 else if hasB d b then (if d.rd b.toNat then 11 else 0) else 2
def readB (d : DvP) (b : Int) : List Int := if readE d b = 0 then contD d b else []
def dslA (ap : AP) (l : List Int) : V := .dsl (ap _ _ llen l) 1 (.ints .u8 (ap _ _ llen l) l)
def cReadD (ap : AP) : Ctr
  | [.v .nilp, .v (.int .i64 _)] => .ok ⟨.tcons .nsl (.tcons (.int .i64 1) .tnil), [], []⟩
  | [.o c none, .v (.int .i64 b)] => (dvR ap c).bind fun d => .chk (ap _ _ wfD d) <| .ok ⟨.tcons (dslA ap (ap _ _ (ap _ _ readB d) b)) (.tcons (.int .i64 (ap _ _ (ap _ _ readE d) b)) .tnil), [dvA ap d], []⟩
  | _ => .fail 450
theorem cont_len {d : DvP} {b : Int} (h : (dvA apf d).okv) (hb : hasB d b = true) : (contD d b).length = 512 := by
  obtain ⟨_, _, _, _, _, hL, hT, _⟩ := dvA_ok h
  have go : ∀ i, i ≤ d.nt → (contI d b i).length = 512 := by
    intro i
    induction i with
    | zero => intro _; exact (hL _ (has_lt hb)).1
    | succ k ih =>
      intro hk
      rw [contI]
      split
      · exact (hT k hk).2.1
      · exact ih (Nat.le_of_lt hk)
  exact go _ (Nat.le_refl _)
theorem rd_off {d : DvP} {b : Int} (h : d.off = true) : readE d b = 10 ∧ readB d b = [] := by
  have e : readE d b = 10 := by rw [readE, if_pos h]
  exact ⟨e, by rw [readB, e]; rfl⟩
theorem rd_no {d : DvP} {b : Int} (h : d.off = false) (h2 : hasB d b = false) : readE d b = 2 ∧ readB d b = [] := by
  have e : readE d b = 2 := by rw [readE, h, h2]; rfl
  exact ⟨e, by rw [readB, e]; rfl⟩
theorem rd_flt {d : DvP} {b : Int} (h : d.off = false) (h2 : hasB d b = true) (h3 : d.rd b.toNat = true) : readE d b = 11 ∧ readB d b = [] := by
  have e : readE d b = 11 := by rw [readE, h, h2, h3]; rfl
  exact ⟨e, by rw [readB, e]; rfl⟩
theorem rd_ok {d : DvP} {b : Int} (h : d.off = false) (h2 : hasB d b = true) (h3 : d.rd b.toNat = false) : readE d b = 0 ∧ readB d b = contD d b := by
  have e : readE d b = 0 := by rw [readE, h, h2, h3]; rfl
  exact ⟨e, by rw [readB, e]; rfl⟩
theorem rdy_t {d : DvP} : neI (rdyE d) 0 = true ↔ d.off = true := by
  unfold rdyE neI
  cases d.off <;> simp
theorem rdy_f {d : DvP} : neI (rdyE d) 0 = false ↔ d.off = false := by
  unfold rdyE neI
  cases d.off <;> simp
theorem rdy_v {d : DvP} (h : d.off = true) : rdyE d = 10 := by rw [rdyE, if_pos h]
set_option maxRecDepth 20000 in
theorem vc13 (args : List Arg) (out : Out) (h : (cReadD apf args).to out) (hok : okAs args) :
    args.length = ic13.nargs ∧ ic13.nargs ≤ ic13.ntmps ∧ ∃ A, run apf [(30, fun args => cRdy apf (args.map litA)), (31, fun args => cHas apf (args.map litA)), (34, fun args => cCont apf (args.map litA)), (33, cCloneF apf)] A ic13.body (fnQ apf args out ic13.res) (st0 [] false args) := by
  unfold cReadD at h
  split at h
  · cases h
    refine ⟨rfl, by decide, [], ?_⟩
    generalize hap : apf = ap
    cbv
    repeat' first
      | exact True.intro
      | (intro (hh : _ = true); first | with_reducible exact absurd hh (bk_t (by assumption)) | cbv)
      | (intro (hh : _ = false); first | with_reducible exact absurd hh (bk_f (by assumption)) | cbv)
      | with_reducible refine And.intro ?_ ?_
      | fail
    all_goals subst hap
    all_goals first
      | (simp only [apf_e, eqI', *]; done)
      | (simp_all [apf_e, cmF, neI]; done)
      | (simp_all [apf_e, onD, rdyE, hasB, failD, cmE, btE, cmF, geI, ltI, gtI, eqRows, eqN, eqI', eqB', leN, addN, V.cnt, neI, lenI, isBk_s, isWr_s, isBl_s, unbks_s, unwrs_s, unbls_s]; omega)
      | trace_state
  · rename_i c b
    obtain ⟨d, h1, hw, h⟩ := bind_to h
    cases h
    cases dvR_to h1
    have hL := fun hb => cont_len (b := b) hok.1 hb
    clear hok h h1
    refine ⟨rfl, by decide, [], ?_⟩
    generalize hap : apf = ap
    cbv
    repeat' first
      | exact True.intro
      | (intro (hh : _ = true); first | with_reducible exact absurd hh (bk_t (by assumption)) | cbv)
      | (intro (hh : _ = false); first | with_reducible exact absurd hh (bk_f (by assumption)) | cbv)
      | with_reducible refine And.intro ?_ ?_
      | fail
    all_goals subst hap
    all_goals simp only [apf_e, cmF, unbks_s, unwrs_s, unbls_s, dv_eta, isBk_s, isWr_s, isBl_s, notB, addN, Nat.zero_add, rdy_t, rdy_f] at *
    all_goals try simp only [Bool.not_eq_eq_eq_not, Bool.not_true, Bool.not_false] at *
    all_goals first
      | (simp only [eqN, eqI', eqB', leN, V.cnt, Nat.le_refl, eqRows, implies_true]; done)
      | exact hw
      | (have e := rd_off (d := d) (b := b) (by assumption)
         simp only [e.1, e.2, rdy_v (d := d) (by assumption), eqN, eqI', eqL', llen, List.length_nil]
         done)
      | (have e := rd_no (d := d) (b := b) (by assumption) (by assumption)
         simp only [e.1, e.2, eqN, eqI', eqL', llen, List.length_nil]
         done)
      | (have e := rd_flt (d := d) (b := b) (by assumption) (by assumption) (by assumption)
         simp only [e.1, e.2, eqN, eqI', eqL', llen, List.length_nil]
         done)
      | (have e := rd_ok (d := d) (b := b) (by assumption) (by assumption) (by assumption)
         simp only [e.1, e.2, eqN, eqI', eqL', llen, hL (by assumption)]
         done)
      | (have hb : hasB d b = true := by assumption
         first
           | exact hb
           | exact (hasB_t.1 hb).1
           | exact hw.1.symm ▸ has_lt hb)
      | (show (_ : Nat) ≤ _
         decide)
      | (show (_ : Nat) < _
         decide)
      | trace_state
  · exact h.elim
theorem s13 : Sound Try.prog [] 13 (pu 13) (fun args => cReadD apf (args.map litA)) := (fn_sound rfl Try.call13 ok13 co13 (env_cons s30 (env_cons s31 (env_cons s34 (env_cons s33f env_nil)))) vc13).lits
end Go.Cx.Rd
/- CxdS7 -/
namespace Go.Cx.Rd
open Go Go.Cx Go.Proofs
def appW (T : Nat → Int × List Int) (n : Nat) (x : Int × List Int) (j : Nat) : Int × List Int := if j < n then T j else x
def addD (d : DvP) (b : Int) (l : List Int) : DvP := { d with nt := d.nt + 1, T := appW d.T d.nt (b, l), ng := d.ng + 1, G := appW d.G d.ng (b, l) }
def wrtE (d : DvP) (b : Int) (n : Nat) : Int := if d.off then 10 else if hasB d b then (if neI (lenI n) 512 then 3 else if neI (stepE d) 0 then stepE d else if (stepD d).wr b.toNat then 11 else 0) else 2
def wrtD (d : DvP) (b : Int) (n : Nat) (l : List Int) : DvP :=
  if d.off then d else if hasB d b then (if neI (lenI n) 512 then d else if neI (stepE d) 0 then stepD d else if (stepD d).wr b.toNat then stepD d else addD (stepD d) b l) else d
def roomD (d : DvP) : Prop := d.nt < 1000000 ∧ d.ng < 1000000
theorem wr_off {d : DvP} {b : Int} {n : Nat} {l : List Int} (h : d.off = true) : wrtE d b n = rdyE d ∧ wrtD d b n l = d := by rw [wrtE, wrtD, rdy_v h, h]; exact ⟨rfl, rfl⟩
theorem wr_no {d : DvP} {b : Int} {n : Nat} {l : List Int} (h : d.off = false) (h2 : hasB d b = false) : wrtE d b n = 2 ∧ wrtD d b n l = d := by rw [wrtE, wrtD, h, h2]; exact ⟨rfl, rfl⟩
theorem wr_len {d : DvP} {b : Int} {n : Nat} {l : List Int} (h : d.off = false) (h2 : hasB d b = true) (h3 : neI (lenI n) 512 = true) : wrtE d b n = 3 ∧ wrtD d b n l = d := by rw [wrtE, wrtD, h, h2, h3]; exact ⟨rfl, rfl⟩
theorem wr_st {d : DvP} {b : Int} {n : Nat} {l : List Int} (h : d.off = false) (h2 : hasB d b = true) (h3 : neI (lenI n) 512 = false) (h4 : neI (stepE d) 0 = true) : wrtE d b n = stepE d ∧ wrtD d b n l = stepD d := by rw [wrtE, wrtD, h, h2, h3, h4]; exact ⟨rfl, rfl⟩
theorem wr_flt {d : DvP} {b : Int} {n : Nat} {l : List Int} (h : d.off = false) (h2 : hasB d b = true) (h3 : neI (lenI n) 512 = false) (h4 : neI (stepE d) 0 = false) (h5 : (stepD d).wr (natI b) = true) : wrtE d b n = 11 ∧ wrtD d b n l = stepD d := by
  have h5 : (stepD d).wr b.toNat = true := h5
  rw [wrtE, wrtD, h, h2, h3, h4, h5]; exact ⟨rfl, rfl⟩
theorem wr_ok {d : DvP} {b : Int} {n : Nat} {l : List Int} (h : d.off = false) (h2 : hasB d b = true) (h3 : neI (lenI n) 512 = false) (h4 : neI (stepE d) 0 = false) (h5 : (stepD d).wr (natI b) = false) : wrtE d b n = 0 ∧ wrtD d b n l = addD (stepD d) b l := by
  have h5 : (stepD d).wr b.toNat = false := h5
  rw [wrtE, wrtD, h, h2, h3, h4, h5]; exact ⟨rfl, rfl⟩
theorem step_nw {d : DvP} : (stepD d).nw = d.nw := by
  unfold stepD
  split
  · split <;> rfl
  · rfl
theorem step_nt {d : DvP} : (stepD d).nt ≤ d.nt := by
  unfold stepD
  split
  · split
    · exact Nat.le_refl _
    · exact Nat.zero_le _
  · exact Nat.le_refl _
theorem step_ng {d : DvP} : (stepD d).ng = d.ng := by
  unfold stepD
  split
  · split <;> rfl
  · rfl
theorem nw_lt {d : DvP} {b : Int} (hw : wfD d) (hb : hasB d b = true) : ltN (natI b) (stepD d).nw := by
  rw [step_nw, hw.2.1]
  exact has_lt hb
theorem len_512 {m : Nat} (h : neI (lenI m) 512 = false) : ltN 0 m ∧ leN m 140737488355328 := by
  have h : (m : Int) = 512 := ne_f'.1 h
  exact ⟨show 0 < m by omega, show m ≤ _ by omega⟩
theorem app_nt {d : DvP} (h : roomD d) : appN 32 ((stepD d).nt + 1) := by
  have h1 := h.1
  have := step_nt (d := d)
  show ((stepD d).nt + 1) * 32 ≤ 140737488355328
  omega
theorem app_ng {d : DvP} (h : roomD d) : appN 32 ((stepD d).ng + 1) := by
  have h1 := h.2
  show ((stepD d).ng + 1) * 32 ≤ 140737488355328
  rw [step_ng]
  omega
theorem rows_add {T : Nat → Int × List Int} {n m : Nat} {b : Int} {l : List Int} (hm : neI (lenI m) 512 = false) (hl : l.length = m) : eqRows (n + 1) (wrV apf (appW T n (b, l))) fun j =>
    catR (fun j => wrV apf T j) n (fun j => lkV (V.cat 1 1 (V.lit IntKind.i64 0) V.nsl) [(0, V.cat 1 1 (V.int IntKind.i64 b) (V.dsl m 1 (V.ints IntKind.u8 m (subL l 0 m))))] j) j := by
  have hm : (m : Int) = 512 := ne_f'.1 hm
  have hm : m = 512 := by omega
  have sl : subL l 0 m = l := subL_all (Nat.le_of_eq hl)
  rw [sl]
  subst hm
  intro j hj
  by_cases h : j < n
  · simp [wrV, appW, catR, h, apf_e]
  · obtain rfl : j = n := by omega
    simp [wrV, appW, catR, lkV, apf_e]
def cWrite (ap : AP) : Ctr
  | [.v .nilp, .v (.int .i64 _), .b _ 1 (.ints .u8 _ _)] => .ok ⟨.int .i64 1, [], []⟩
  | [.o c none, .v (.int .i64 b), .b n 1 (.ints .u8 _ l)] => (dvR ap c).bind fun d => .chk (ap _ _ wfD d) <| .chk (ap _ _ roomD d) <|
      .ok ⟨.int .i64 (ap _ _ (ap _ _ (ap _ _ wrtE d) b) n), [dvA ap (ap _ _ (ap _ _ (ap _ _ (ap _ _ wrtD d) b) n) l)], []⟩
  | _ => .fail 460
set_option maxRecDepth 20000 in
set_option maxHeartbeats 2000000 in
theorem vc10 (args : List Arg) (out : Out) (h : (cWrite apf args).to out) (hok : okAs args) :
    args.length = ic10.nargs ∧ ic10.nargs ≤ ic10.ntmps ∧ ∃ A, run apf [(30, fun args => cRdy apf (args.map litA)), (31, fun args => cHas apf (args.map litA)), (32, fun args => cStep apf (args.map litA)), (33, cCloneF apf)] A ic10.body (fnQ apf args out ic10.res) (st0 [] false args) := by
  unfold cWrite at h
  split at h
  · cases h
    refine ⟨rfl, by decide, [], ?_⟩
    generalize hap : apf = ap
    cbv
    repeat' first
      | exact True.intro
      | (intro (hh : _ = true); first | with_reducible exact absurd hh (bk_t (by assumption)) | cbv)
      | (intro (hh : _ = false); first | with_reducible exact absurd hh (bk_f (by assumption)) | cbv)
      | with_reducible refine And.intro ?_ ?_
      | fail
    all_goals subst hap
    all_goals first
      | (simp only [apf_e, eqI', *]; done)
      | (simp_all [apf_e, cmF, neI]; done)
      | (simp_all [apf_e, onD, rdyE, hasB, failD, cmE, btE, cmF, geI, ltI, gtI, eqRows, eqN, eqI', eqB', leN, addN, V.cnt, neI, lenI, isBk_s, isWr_s, isBl_s, unbks_s, unwrs_s, unbls_s]; omega)
      | trace_state
  · rename_i c b n m l
    obtain ⟨d, h1, hw, hr, h⟩ := bind_to h
    cases h
    cases dvR_to h1
    obtain ⟨_, _, ⟨hn, ⟨rfl, _⟩, hl⟩, _⟩ := hok
    clear h h1
    refine ⟨rfl, by decide, [], ?_⟩
    generalize hap : apf = ap
    cbv
    repeat' first
      | exact True.intro
      | (intro (hh : _ = true); first | with_reducible exact absurd hh (bk_t (by assumption)) | cbv)
      | (intro (hh : _ = false); first | with_reducible exact absurd hh (bk_f (by assumption)) | cbv)
      | with_reducible refine And.intro ?_ ?_
      | fail
    all_goals subst hap
    all_goals simp only [apf_e, cmF, unbks_s, unwrs_s, unbls_s, dv_eta, isBk_s, isWr_s, isBl_s, notB, addN, Nat.zero_add, rdy_t, rdy_f] at *
    all_goals try simp only [Bool.not_eq_eq_eq_not, Bool.not_true, Bool.not_false] at *
    all_goals first
      | (simp only [eqN, eqI', eqB', leN, V.cnt, Nat.le_refl, eqRows]; done)
      | exact hw
      | (have e := wr_off (d := d) (b := b) (n := m) (l := l) (by assumption)
         simp only [e.1, e.2, eqN, eqI', eqB', eqRows, implies_true]
         done)
      | (have e := wr_no (d := d) (b := b) (n := m) (l := l) (by assumption) (by assumption)
         simp only [e.1, e.2, eqN, eqI', eqB', eqRows, implies_true]
         done)
      | (have e := wr_len (d := d) (b := b) (n := m) (l := l) (by assumption) (by assumption) (by assumption)
         simp only [e.1, e.2, eqN, eqI', eqB', eqRows, implies_true]
         done)
      | (have e := wr_st (d := d) (b := b) (n := m) (l := l) (by assumption) (by assumption) (by assumption) (by assumption)
         simp only [e.1, e.2, eqN, eqI', eqB', eqRows, implies_true]
         done)
      | (have e := wr_flt (d := d) (b := b) (n := m) (l := l) (by assumption) (by assumption) (by assumption) (by assumption) (by assumption)
         simp only [e.1, e.2, eqN, eqI', eqB', eqRows, implies_true]
         done)
      | (have hb : hasB d b = true := by assumption
         have hm : neI (lenI m) 512 = false := by assumption
         first
           | with_reducible exact (hasB_t.1 hb).1
           | with_reducible exact nw_lt hw hb
           | with_reducible exact (len_512 hm).1
           | with_reducible exact (len_512 hm).2
           | with_reducible exact app_nt hr
           | with_reducible exact app_ng hr)
      | (have e := wr_ok (d := d) (b := b) (n := m) (l := l) (by assumption) (by assumption) (by assumption) (by assumption) (by assumption)
         simp only [e.1, e.2, addD, eqN, eqI', eqB']
         first
           | done
           | exact fun _ _ => rfl
           | exact rows_add (by assumption) hl.1
           | trace_state)
      | trace_state
  · exact h.elim
theorem s10 : Sound Try.prog [] 10 (pu 10) (fun args => cWrite apf (args.map litA)) := (fn_sound rfl Try.call10 ok10 co10 (env_cons s30 (env_cons s31 (env_cons s32 (env_cons s33f env_nil)))) vc10).lits
end Go.Cx.Rd
/- CxdSA -/
namespace Go.Cx.Rd
open Go Go.Cx Go.Proofs
def allT (_ : Nat) : Bool := true
def flE (d : DvP) : Int := if d.off then 10 else stepE d
def flD (d : DvP) : DvP := if d.off then d else if neI (stepE d) 0 then stepD d else { layD (stepD d) allT (stepD d).nt with nt := 0 }
theorem fl_off {d : DvP} (h : d.off = true) : flE d = rdyE d ∧ flD d = d := by rw [flE, flD, rdy_v h, h]; exact ⟨rfl, rfl⟩
theorem fl_st {d : DvP} (h : d.off = false) (h2 : neI (stepE d) 0 = true) : flE d = stepE d ∧ flD d = stepD d := by rw [flE, flD, h, h2]; exact ⟨rfl, rfl⟩
theorem fl_ok {d : DvP} {i : Nat} (h : d.off = false) (h2 : neI (stepE d) 0 = false) (hi : i = (stepD d).nt) : flE d = 0 ∧ flD d = { layD (stepD d) allT i with nt := 0 } := by
  rw [flE, flD, h, h2, hi]
  exact ⟨ne_f'.1 h2, rfl⟩
theorem step_wf {d : DvP} (h : wfD d) : wfD (stepD d) := by
  obtain ⟨h1, h2, h3, h4, h5, h6⟩ := h
  unfold stepD
  split
  · split
    · exact ⟨h1, h2, h3, h4, h5, h6⟩
    · exact ⟨h1, h2, fun j hj => absurd hj (Nat.not_lt_zero _), h4, Nat.zero_le _, h6⟩
  · exact ⟨h1, h2, h3, h4, h5, h6⟩
def cFlush (ap : AP) : Ctr
  | [.v .nilp] => .ok ⟨.int .i64 1, [], []⟩
  | [.o c none] => (dvR ap c).bind fun d => .chk (ap _ _ wfD d) <| .ok ⟨.int .i64 (ap _ _ flE d), [dvA ap (ap _ _ flD d)], []⟩
  | _ => .fail 480
def aFlush (ap : AP) (d : DvP) : List (Nat × Ann) := [
  (0, .inv Nat (fun i => ⟨[(0, .ptr 100000 []), (20, .sl 2209 [] 0 (ap _ _ DvP.nt (ap _ _ stepD d)) 2 none), (21, .int .i64 (ap _ _ lenI (ap _ _ DvP.nt (ap _ _ stepD d)))), (22, .int .i64 (ap _ _ lenI i))],
      dvHs ap 2208 (ap _ _ (ap _ _ (ap _ _ layD (ap _ _ stepD d)) allT) i), []⟩)
    (fun i => ap _ _ (ap _ _ leN i) (ap _ _ DvP.nt (ap _ _ stepD d))) (fun i => ap _ _ (ap _ _ subN (ap _ _ DvP.nt (ap _ _ stepD d))) i))]
set_option maxRecDepth 20000 in
set_option maxHeartbeats 2000000 in
theorem vc17 (args : List Arg) (out : Out) (h : (cFlush apf args).to out) (hok : okAs args) :
    args.length = ic17.nargs ∧ ic17.nargs ≤ ic17.ntmps ∧ ∃ A, run apf [(30, fun args => cRdy apf (args.map litA)), (32, fun args => cStep apf (args.map litA))] A ic17.body (fnQ apf args out ic17.res) (st0 [] false args) := by
  unfold cFlush at h
  split at h
  · cases h
    refine ⟨rfl, by decide, [], ?_⟩
    generalize hap : apf = ap
    cbv
    repeat' first
      | exact True.intro
      | (intro (hh : _ = true); first | with_reducible exact absurd hh (bk_t (by assumption)) | cbv)
      | (intro (hh : _ = false); first | with_reducible exact absurd hh (bk_f (by assumption)) | cbv)
      | with_reducible refine And.intro ?_ ?_
      | fail
    all_goals subst hap
    all_goals first
      | (simp only [apf_e, eqI', *]; done)
      | (simp_all [apf_e, cmF, neI]; done)
      | (simp_all [apf_e, onD, rdyE, hasB, failD, cmE, btE, cmF, geI, ltI, gtI, eqRows, eqN, eqI', eqB', leN, addN, V.cnt, neI, lenI, isBk_s, isWr_s, isBl_s, unbks_s, unwrs_s, unbls_s]; omega)
      | trace_state
  · rename_i c
    obtain ⟨d, h1, hw, h⟩ := bind_to h
    cases h
    cases dvR_to h1
    clear hok h h1
    obtain ⟨w1, w2, w3, w4, w5, w6⟩ := step_wf hw
    refine ⟨rfl, by decide, aFlush apf d, ?_⟩
    have hP : apf _ _ (apf _ _ leN 0) (apf _ _ DvP.nt (apf _ _ stepD d)) := Nat.zero_le _
    generalize hap : apf = ap at hP ⊢
    cbv
    repeat' first
      | exact True.intro
      | (intro (hh : _ = true); first | with_reducible exact absurd hh (bk_t (by assumption)) | cbv)
      | (intro (hh : _ = false); first | with_reducible exact absurd hh (bk_f (by assumption)) | cbv)
      | with_reducible refine And.intro ?_ ?_
      | (refine ⟨0, hP, ?_⟩; cbv)
      | fail
    all_goals first
      | (intro (i : Nat) hi k1 k2
         clear k1 k2
         cbv
         repeat' first
           | exact True.intro
           | (intro (hh : _ = true); first | with_reducible exact absurd hh (bk_t (by assumption)) | cbv)
           | (intro (hh : _ = false); first | with_reducible exact absurd hh (bk_f (by assumption)) | cbv)
           | with_reducible refine And.intro ?_ ?_
           | (refine ⟨ap _ _ sucN i, ?_, (?_ : _ < _), ?_⟩; rotate_left 2; try cbv))
      | skip
    all_goals subst hap
    all_goals simp only [apf_e, cmF, ltI, layD, unbks_s, unwrs_s, unbls_s, dv_eta, isBk_s, isWr_s, isBl_s, addN, Nat.zero_add, rdy_t, rdy_f, decide_eq_true_eq, decide_eq_false_iff_not] at *
    all_goals first
      | (simp only [eqRows, eqN, eqI', eqB', leN, V.cnt, Nat.le_refl, implies_true]; done)
      | exact hw
      | with_reducible exact fun _ _ => rfl
      | exact (rfl : lenI 0 = 0)
      | (have e := fl_off (d := d) (by assumption)
         simp only [e.1, e.2, eqRows, eqN, eqI', eqB', implies_true]
         done)
      | (have e := fl_st (d := d) (by assumption) (by assumption)
         simp only [e.1, e.2, eqRows, eqN, eqI', eqB', implies_true]
         done)
      | exact Int.natCast_nonneg _
      | (have hlt : i < (stepD d).nt := Int.ofNat_lt.1 (by assumption)
         first
           | exact hlt
           | exact (w3 i hlt).1
           | exact idx_lt (w3 i hlt)
           | exact len_suc hlt w5
           | exact sub_lt' hlt
           | exact lay_rows_yes (s := allT) rfl)
      | (have he : i = (stepD d).nt := Nat.le_antisymm hi (Nat.le_of_not_lt fun h => absurd (Int.ofNat_lt.2 h) (by assumption))
         have e := fl_ok (d := d) (by assumption) (by assumption) he
         simp only [e.1, e.2, layD, eqRows, eqN, eqI', eqB', implies_true]
         done)
      | exact fun _ _ => rfl
      | trace_state
  · exact h.elim
theorem s17 : Sound Try.prog [] 17 (pu 17) (fun args => cFlush apf (args.map litA)) := (fn_sound rfl Try.call17 ok17 co17 (env_cons s30 (env_cons s32 env_nil)) vc17).lits
end Go.Cx.Rd
/- CxdS8 -/
namespace Go.Cx.Rd
open Go Go.Cx Go.Proofs
def advE (d : DvP) (to : Int) : Int := if d.off then 10 else if leI to d.cm then 16 else if gtI to 281474976710655 then 16 else if neI (stepE d) 0 then stepE d else 0
def advD (d : DvP) (to : Int) : DvP := if d.off then d else if leI to d.cm then d else if gtI to 281474976710655 then d else if neI (stepE d) 0 then stepD d else { stepD d with cm := to }
theorem av_off {d : DvP} {t : Int} (h : d.off = true) : (advE d t = rdyE d ∧ rdyE d = 10) ∧ advD d t = d := by rw [advE, advD, rdy_v h, h]; exact ⟨⟨rfl, rfl⟩, rfl⟩
theorem av_le {d : DvP} {t : Int} (h : d.off = false) (h2 : leI t d.cm = true) : advE d t = 16 ∧ advD d t = d := by rw [advE, advD, h, h2]; exact ⟨rfl, rfl⟩
theorem av_gt {d : DvP} {t : Int} (h : d.off = false) (h2 : leI t d.cm = false) (h3 : gtI t 281474976710655 = true) : advE d t = 16 ∧ advD d t = d := by rw [advE, advD, h, h2, h3]; exact ⟨rfl, rfl⟩
theorem av_st {d : DvP} {t : Int} (h : d.off = false) (h2 : leI t d.cm = false) (h3 : gtI t 281474976710655 = false) (h4 : neI (stepE d) 0 = true) : advE d t = stepE d ∧ advD d t = stepD d := by rw [advE, advD, h, h2, h3, h4]; exact ⟨rfl, rfl⟩
theorem av_ok {d : DvP} {t : Int} (h : d.off = false) (h2 : leI t d.cm = false) (h3 : gtI t 281474976710655 = false) (h4 : neI (stepE d) 0 = false) : advE d t = 0 ∧ advD d t = { stepD d with cm := t } := by rw [advE, advD, h, h2, h3, h4]; exact ⟨rfl, rfl⟩
def cAdv (ap : AP) : Ctr
  | [.v .nilp, .v (.int .u64 _)] => .ok ⟨.int .i64 1, [], []⟩
  | [.o c none, .v (.int .u64 t)] => (dvR ap c).bind fun d => .chk (ap _ _ wfD d) <| .ok ⟨.int .i64 (ap _ _ (ap _ _ advE d) t), [dvA ap (ap _ _ (ap _ _ advD d) t)], []⟩
  | _ => .fail 470
set_option maxRecDepth 20000 in
set_option maxHeartbeats 2000000 in
theorem vc27 (args : List Arg) (out : Out) (h : (cAdv apf args).to out) (hok : okAs args) :
    args.length = ic27.nargs ∧ ic27.nargs ≤ ic27.ntmps ∧ ∃ A, run apf [(30, fun args => cRdy apf (args.map litA)), (32, fun args => cStep apf (args.map litA))] A ic27.body (fnQ apf args out ic27.res) (st0 [] false args) := by
  unfold cAdv at h
  split at h
  · cases h
    refine ⟨rfl, by decide, [], ?_⟩
    generalize hap : apf = ap
    cbv
    repeat' first
      | exact True.intro
      | (intro (hh : _ = true); first | with_reducible exact absurd hh (bk_t (by assumption)) | cbv)
      | (intro (hh : _ = false); first | with_reducible exact absurd hh (bk_f (by assumption)) | cbv)
      | with_reducible refine And.intro ?_ ?_
      | fail
    all_goals subst hap
    all_goals first
      | (simp only [apf_e, eqI', *]; done)
      | (simp_all [apf_e, cmF, neI]; done)
      | (simp_all [apf_e, onD, rdyE, hasB, failD, cmE, btE, cmF, geI, ltI, gtI, eqRows, eqN, eqI', eqB', leN, addN, V.cnt, neI, lenI, isBk_s, isWr_s, isBl_s, unbks_s, unwrs_s, unbls_s]; omega)
      | trace_state
  · rename_i c t
    obtain ⟨d, h1, hw, h⟩ := bind_to h
    cases h
    cases dvR_to h1
    clear hok h h1
    refine ⟨rfl, by decide, [], ?_⟩
    generalize hap : apf = ap
    cbv
    repeat' first
      | exact True.intro
      | (intro (hh : _ = true); first | with_reducible exact absurd hh (bk_t (by assumption)) | cbv)
      | (intro (hh : _ = false); first | with_reducible exact absurd hh (bk_f (by assumption)) | cbv)
      | with_reducible refine And.intro ?_ ?_
      | fail
    all_goals subst hap
    all_goals simp only [apf_e, cmF, unbks_s, unwrs_s, unbls_s, dv_eta, isBk_s, isWr_s, isBl_s, addN, Nat.zero_add, rdy_t, rdy_f] at *
    all_goals try simp only [Bool.not_eq_eq_eq_not, Bool.not_true, Bool.not_false] at *
    all_goals first
      | (simp only [eqN, eqI', eqB', leN, V.cnt, Nat.le_refl, eqRows]; done)
      | exact hw
      | (have e := av_off (d := d) (t := t) (by assumption)
         simp only [e.1.1, e.1.2, e.2, eqN, eqI', eqB', eqRows, implies_true]
         done)
      | (have e := av_le (d := d) (t := t) (by assumption) (by assumption)
         simp only [e.1, e.2, eqN, eqI', eqB', eqRows, implies_true]
         done)
      | (have e := av_gt (d := d) (t := t) (by assumption) (by assumption) (by assumption)
         simp only [e.1, e.2, eqN, eqI', eqB', eqRows, implies_true]
         done)
      | (have e := av_st (d := d) (t := t) (by assumption) (by assumption) (by assumption) (by assumption)
         simp only [e.1, e.2, eqN, eqI', eqB', eqRows, implies_true]
         done)
      | (have e := av_ok (d := d) (t := t) (by assumption) (by assumption) (by assumption) (by assumption)
         simp only [e.1, e.2, eqN, eqI', eqB', eqRows, implies_true]
         done)
      | trace_state
  · exact h.elim
theorem s27 : Sound Try.prog [] 27 (pu 27) (fun args => cAdv apf (args.map litA)) := (fn_sound rfl Try.call27 ok27 co27 (env_cons s30 (env_cons s32 env_nil)) vc27).lits
end Go.Cx.Rd
/- CxdSD -/
namespace Go.Cx.Rd
open Go Go.Cx Go.Proofs
def dF : DvP := newD 2 0 0
def dF1 : DvP := addD (stD dF) 0 (zerosI 512)
def dF2 : DvP := { stD dF1 with cm := 5 }
theorem dF_w : wrtE dF 0 512 = 0 ∧ wrtD dF 0 512 (zerosI 512) = dF1 := ⟨rfl, rfl⟩
theorem dF1_w {l : List Int} : wrtE dF1 0 511 = 3 ∧ wrtD dF1 0 511 l = dF1 := ⟨rfl, rfl⟩
theorem dF1_a : advE dF1 5 = 0 ∧ advD dF1 5 = dF2 := ⟨rfl, rfl⟩
theorem dF2_a : advE dF2 5 = 16 ∧ advD dF2 5 = dF2 := ⟨rfl, rfl⟩
theorem dF_wf : wfD dF := ⟨rfl, rfl, fun _ h => absurd h (Nat.not_lt_zero _), by decide, by decide, by decide⟩
theorem dF1_wf : wfD dF1 := ⟨rfl, rfl, fun j h => by
  obtain rfl : j = 0 := Nat.lt_one_iff.1 h
  exact (by decide : (0 : Int) ≤ 0 ∧ (0 : Int) < 2), by decide, by decide, by decide⟩
theorem dF2_wf : wfD dF2 := dF1_wf
def cFixd (_ : AP) : Ctr
  | [] => .ok ⟨.tt, [], []⟩
  | _ => .fail 492
theorem newOk_lit : apf Int Prop (apf Int (Int → Prop) (apf Int (Int → Int → Prop) newOk 2) 0) 0 := (rfl : newB 2 0 0 = false)
set_option maxRecDepth 20000 in
set_option maxHeartbeats 2000000 in
theorem vc9 (args : List Arg) (out : Out) (h : (cFixd apf args).to out) (hok : okAs args) :
    args.length = ic9.nargs ∧ ic9.nargs ≤ ic9.ntmps ∧ ∃ A, run apf [(8, fun args => cNewY apf (args.map litA)), (10, fun args => cWrite apf (args.map litA)), (27, fun args => cAdv apf (args.map litA)), (19, fun args => cNb apf (args.map litA))] A ic9.body (fnQ apf args out ic9.res) (st0 [] true args) := by
  unfold cFixd at h
  split at h
  · cases h
    clear hok
    refine ⟨rfl, by decide, [], ?_⟩
    generalize hap : apf = ap
    cbv
    repeat' first
      | exact True.intro
      | (intro (hh : _ = true); first | with_reducible exact absurd hh (bk_t (by assumption)) | cbv)
      | (intro (hh : _ = false); first | with_reducible exact absurd hh (bk_f (by assumption)) | cbv)
      | with_reducible refine And.intro ?_ ?_
      | fail
    all_goals subst hap
    all_goals simp only [apf_e, cmF, unbks_s, unwrs_s, unbls_s, dv_eta, isBk_s, isWr_s, isBl_s, show newD 2 0 0 = dF from rfl] at *
    all_goals try simp only [show subL (zerosI 512) 0 512 = zerosI 512 from rfl, dF_w.1, dF_w.2, dF1_w.2, dF1_a.1, dF1_a.2, dF2_a.1, dF2_a.2] at *
    all_goals first
      | exact newOk_lit
      | exact dF_wf
      | exact dF1_wf
      | exact dF2_wf
      | exact ⟨by decide, by decide⟩
      | exact (by decide : 1 * 512 ≤ 140737488355328)
      | exact (by decide : 1 * 511 ≤ 140737488355328)
      | with_reducible rfl
      | exact (rfl : dF.nb = _)
      | (simp only [eqN]; done)
      | exact (by decide : 0 + 512 ≤ 512)
      | exact (by decide : 0 + 511 ≤ 511)
      | (exfalso
         have h : neI 3 3 = true := by assumption
         exact absurd h (by decide))
      | (exfalso
         have h : eqI (lenI 2) 2 = false := by assumption
         exact absurd h (by decide))
      | (exfalso
         have h : neI 16 16 = true := by assumption
         exact absurd h (by decide))
      | (exfalso
         simp [neI] at *
         done)
      | trace_state
  · exact h.elim
theorem s9 : Sound Try.prog [] 9 (pu 9) (cFixd apf) := fn_sound rfl Try.call9 ok9 co9 (env_cons s8y (env_cons s10 (env_cons s27 (env_cons s19 env_nil)))) vc9
/-- .. filled for good -/
def cFilledF (ap : AP) : Ctr
  | [.v (.int .u8 c), .v (.int .i64 n)] => .chk (ap _ _ (ap _ _ eqI' n) 512) <| .ok ⟨.dsl 512 1 (.ints .u8 512 (ap _ _ (ap _ _ filI c) 512)), [], []⟩
  | _ => .fail 490
theorem s11a : Sound Try.prog [] 11 (pu 11) (cFilled apf) := fn_sound rfl Try.call11 ok11 co11 env_nil vc11
set_option maxRecDepth 20000 in
theorem s11b : Sound Try.prog [] 11 (pu 11) (cFilledF apf) := s11a.freeze fun args out' h => by
  unfold cFilledF at h
  split at h
  · rename_i c n
    obtain ⟨h1, h⟩ := h
    cases h
    exact ⟨⟨.sl 0 [] 0 512 1 none, [], [.ints .u8 512 (filI c 512)]⟩, ⟨h1, rfl⟩, by show 1 ≤ 1000; decide, rfl, rfl, by simp [V.clo, V.noown], by simp, rfl, rfl, _, rfl, ⟨rfl, rfl⟩, rfl⟩
  · exact h.elim
theorem s11f : Sound Try.prog [] 11 (pu 11) (fun args => cFilledF apf (args.map litA)) := s11b.lits
end Go.Cx.Rd
/- CxdSF -/
namespace Go.Cx.Rd
open Go Go.Cx Go.Proofs
/-- a call of a script -/
structure OpP where
  k : Int
  b : Int
  c : Int
  n : Int
  g : Bool
def opV (ap : AP) (z : Nat → OpP) (j : Nat) : V := .cat 1 4 (.int .i64 (ap _ _ OpP.k (ap _ _ z j))) (.cat 1 3 (.int .i64 (ap _ _ OpP.b (ap _ _ z j))) (.cat 1 2 (.int .u8 (ap _ _ OpP.c (ap _ _ z j)))
  (.cat 1 1 (.int .u64 (ap _ _ OpP.n (ap _ _ z j))) (.bool (ap _ _ OpP.g (ap _ _ z j))))))
def unop : V → OpP
  | .cat _ _ (.int _ k) (.cat _ _ (.int _ b) (.cat _ _ (.int _ c) (.cat _ _ (.int _ n) (.bool g)))) => ⟨k, b, c, n, g⟩
  | _ => ⟨0, 0, 0, 0, false⟩
def unops (f : Nat → V) (j : Nat) : OpP := unop (f j)
def isOps (f : Nat → V) : Prop := f = opV apf (unops f)
theorem isOps_s (z : Nat → OpP) : isOps (opV apf z) := rfl
end Go.Cx.Rd
/- CxdLaw1 -/
namespace Go.Proofs.Ytojllgpnhaaagaa.Law
open Go Go.ChangeShapes Go.WideShapes Go.ChangeAt Go.RowKit Go.Cx Go.Cx.Rd Go.ChangeMaps
theorem own : ownKnob Try.prog.godebug = none := by kernel_rfl
theorem cells5 : Try.prog.cellsOf 5 = 1 := by kernel_rfl
theorem cells3 : Try.prog.cellsOf 3 = 1 := by kernel_rfl
theorem cells4 : Try.prog.cellsOf 4 = 1 := by kernel_rfl
theorem cells27 : Try.prog.cellsOf 27 = 1 := by kernel_rfl
theorem cells36 : Try.prog.cellsOf 36 = 5 := by kernel_rfl
/-- no variables -/
theorem noG {W : World} : ∀ n c, Go.Cx.look ([] : List (Nat × V)) n = some c → GloIs W n c := fun n c h => by cases h
noncomputable def laidWorld (os : Os) : World := World.holding Try.prog os ⟨#[], #[], []⟩
theorem laid_met (os : Os) (args : Array Value) : laidMet Try.prog [] ((laidWorld os).forCall (fun _ _ => 0) ⟨#[], args, []⟩).memory :=
  laidMet_of_run' 8 (by kernel_rfl) (by kernel_rfl)
/-- a call of a script -/
def opC (k b f n : Int) (g : Bool) : V := .cat 1 4 (.int .i64 k) (.cat 1 3 (.int .i64 b) (.cat 1 2 (.int .u8 f) (.cat 1 1 (.int .u64 n) (.bool g))))
def isOp (c : V) : Prop := ∃ k b f n g, c = opC k b f n g
theorem piece_op {H : Type} {enc : TypeId × Value → H} {W : World} {fuel : Nat} {cs : List Value} {x : DataW H × List MemPlace} (h : DataW.trod enc Try.prog W 0 (fun _ => true) true fuel 36 cs = some x) :
    ∃ k b f n g, Piece W cs (opC k b f n g) := by
  obtain ⟨xs, n, _, _, hl, hlen, hf⟩ := DataW.trod_struct Try.underlying36 h
  rw [cells36] at hl
  match xs, hlen with
  | [y0, y1, y2, y3, y4], _ =>
    have h0 : DataW.trod enc Try.prog W 0 (fun _ => true) true n 3 ((cs.drop 0).take (Try.prog.cellsOf 3)) = some y0 := hf 0 _ rfl
    rw [cells3] at h0
    have h1 : DataW.trod enc Try.prog W 0 (fun _ => true) true n 3 ((cs.drop 1).take (Try.prog.cellsOf 3)) = some y1 := hf 1 _ rfl
    rw [cells3] at h1
    have h2 : DataW.trod enc Try.prog W 0 (fun _ => true) true n 5 ((cs.drop 2).take (Try.prog.cellsOf 5)) = some y2 := hf 2 _ rfl
    rw [cells5] at h2
    have h3 : DataW.trod enc Try.prog W 0 (fun _ => true) true n 27 ((cs.drop 3).take (Try.prog.cellsOf 27)) = some y3 := hf 3 _ rfl
    rw [cells27] at h3
    have h4 : DataW.trod enc Try.prog W 0 (fun _ => true) true n 4 ((cs.drop 4).take (Try.prog.cellsOf 4)) = some y4 := hf 4 _ rfl
    rw [cells4] at h4
    obtain ⟨k, p0⟩ := piece_int Try.underlying3 h0
    obtain ⟨b, p1⟩ := piece_int Try.underlying3 h1
    obtain ⟨f, p2⟩ := piece_int Try.underlying5 h2
    obtain ⟨m, p3⟩ := piece_int Try.underlying27 h3
    obtain ⟨g, p4⟩ := piece_bool Try.underlying4 h4
    have e4 : (cs.drop 4).take 1 = cs.drop 4 := List.take_of_length_le (by simp; omega)
    rw [e4] at p4
    have q3 := Piece.cat (n := 1) (cs := cs.drop 3) p3 (by simp; omega) (by rw [List.drop_drop]; exact p4)
    have q2 := Piece.cat (n := 1) (cs := cs.drop 2) p2 (by simp; omega) (by rw [List.drop_drop]; exact q3)
    have q1 := Piece.cat (n := 1) (cs := cs.drop 1) p1 (by simp; omega) (by rw [List.drop_drop]; exact q2)
    have q0 := Piece.cat (n := 1) (cs := cs) p0 (by omega) q1
    simp only [List.length_drop, hl] at q0
    exact ⟨k, b, f, m, g, q0⟩
theorem op_row {f : Nat → V} (h : ∀ j, isOp (f j)) : ∃ z : Nat → OpP, f = opV apf z := by
  have h : ∀ j, ∃ z : OpP, f j = opC z.k z.b z.c z.n z.g := fun j => by
    obtain ⟨k, b, c, n, g, e⟩ := h j
    exact ⟨⟨k, b, c, n, g⟩, e⟩
  obtain ⟨z, hz⟩ := Classical.skolem.1 h
  exact ⟨z, funext hz⟩
set_option maxRecDepth 100000 in
theorem law_ops {H : Type} {enc : TypeId × Value → H} {W : World} {base : Nat} {v : Value} {d : DataW H} {p : List MemPlace} (hval : Value.okWide Try.prog W .any base 22 v) (h : DataW.Trod enc Try.prog W 0 (fun _ => true) true 22 v d p) :
    ∃ m z lo, LArg W (.v (.dsl m 5 (.rows 5 m (opV apf z)))) v lo none ∧ m ≤ 9223372036854775807 := by
  obtain ⟨m, f, lo, h1, h2, h3⟩ := @law_objs H enc Try.prog W 22 36 5 Try.underlying22 cells36 base v d p hval h isOp (opC 0 0 0 0 false) ⟨⟨0, 0, 0, 0, false, rfl⟩, rfl⟩ (fun fuel cs x hx => by
    obtain ⟨k, b, f, n, g, hp⟩ := piece_op hx
    exact ⟨_, ⟨k, b, f, n, g, rfl⟩, rfl, hp⟩)
  obtain ⟨z, rfl⟩ := op_row h1
  exact ⟨m, z, lo, h2, h3⟩
end Go.Proofs.Ytojllgpnhaaagaa.Law
/- CxdSG -/
namespace Go.Cx.Rd
open Go Go.Cx Go.Proofs
def swV (ap : AP) (W : Nat → List Int) (j : Nat) : V := .str (ap _ _ W j)
/-- a number brought into range -/
def blk (n x : Int) : Int := wcv .i64 (arF .rem .u64 (wcv .u64 x) n)
theorem blk_e {n x : Int} : wcv .i64 (arF .rem .u64 (wcv .u64 x) n) = blk n x := rfl
theorem wcv_u64_r (x : Int) : 0 ≤ wcv .u64 x ∧ wcv .u64 x ≤ 18446744073709551615 := inR_u64.1 (inR_wrap .u64 x)
theorem blk_lt {x : Int} {n : Nat} (hn : 0 < n) (hs : n ≤ 1000000) : 0 ≤ blk n x ∧ blk n x < n := by
  have h := wcv_u64_r x
  show 0 ≤ wcv .i64 ((wcv .u64 x).tmod n) ∧ wcv .i64 ((wcv .u64 x).tmod n) < n
  have h1 : 0 ≤ (wcv .u64 x).tmod n := Int.tmod_nonneg _ h.1
  have h2 : (wcv .u64 x).tmod n < n := Int.tmod_lt_of_pos _ (by omega)
  rw [wcv_i64 (by omega)]
  exact ⟨h1, h2⟩
theorem contI_add {d : DvP} {b c : Int} {l : List Int} : ∀ i, i ≤ d.nt → contI (addD d b l) c i = contI d c i := by
  intro i
  induction i with
  | zero => intro _; rfl
  | succ i ih =>
    intro hi
    have e : (addD d b l).T i = d.T i := by show appW d.T d.nt (b, l) i = _; rw [appW, if_pos (by omega)]
    rw [contI, contI, e, ih (by omega)]
theorem cont_add {d : DvP} {b c : Int} {l : List Int} : contD (addD d b l) c = if b = c then l else contD d c := by
  show contI (addD d b l) c (d.nt + 1) = _
  have e : (addD d b l).T d.nt = (b, l) := by show appW d.T d.nt (b, l) d.nt = _; rw [appW, if_neg (Nat.lt_irrefl _)]
  rw [contI, e, contI_add _ (Nat.le_refl _)]
  rfl
theorem contI_st {d : DvP} {c : Int} : ∀ i, contI (stD d) c i = contI d c i := by
  intro i
  induction i with
  | zero => rfl
  | succ i ih => rw [contI, contI, ih]; rfl
theorem cont_st {d : DvP} {c : Int} : contD (stD d) c = contD d c := contI_st _
theorem contI_fault {d : DvP} {b c : Int} {r w : Bool} : ∀ i, contI (faultD d b r w) c i = contI d c i := by
  intro i
  have hL : (faultD d b r w).L = d.L := by unfold faultD; split <;> rfl
  have hT : (faultD d b r w).T = d.T := by unfold faultD; split <;> rfl
  induction i with
  | zero => rw [contI, contI, hL]
  | succ i ih => rw [contI, contI, ih, hT]
theorem cont_fault {d : DvP} {b c : Int} {r w : Bool} : contD (faultD d b r w) c = contD d c := by
  have h : (faultD d b r w).nt = d.nt := by unfold faultD; split <;> rfl
  rw [contD, h, contI_fault]; rfl
theorem wf_add {d : DvP} {b : Int} {l : List Int} (h : wfD d) (hb : hasB d b = true) (hr : roomD d) : wfD (addD d b l) := by
  obtain ⟨h1, h2, h3, h4, h5, h6⟩ := h
  have ⟨q1, q2⟩ := hasB_t.1 hb
  refine ⟨h1, h2, fun j hj => ?_, h4, hr.1, hr.2⟩
  show 0 ≤ (appW d.T d.nt (b, l) j).1 ∧ (appW d.T d.nt (b, l) j).1 < d.nb
  rw [appW]
  split
  · exact h3 j (by omega)
  · exact ⟨q1, q2⟩
theorem wf_fault {d : DvP} {b : Int} {r w : Bool} (h : wfD d) : wfD (faultD d b r w) := by
  unfold faultD
  split
  · exact h
  · exact h
theorem wr_plain {d : DvP} {b : Int} {l : List Int} (h0 : d.off = false) (h1 : d.ps = false) (hb : hasB d b = true) (hw : d.wr b.toNat = false) : wrtE d b 512 = 0 ∧ wrtD d b 512 l = addD (stD d) b l := by
  obtain ⟨e1, e2⟩ := st_no h1
  have h := wr_ok (d := d) (b := b) (n := 512) (l := l) h0 hb rfl (by rw [e2]; rfl) (by rw [e1]; exact hw)
  rw [e1] at h
  exact h
theorem wr_refused {d : DvP} {b : Int} {l : List Int} (h0 : d.off = false) (h1 : d.ps = false) (hb : hasB d b = true) (hw : d.wr b.toNat = true) : wrtE d b 512 = 11 ∧ wrtD d b 512 l = stD d := by
  obtain ⟨e1, e2⟩ := st_no h1
  have h := wr_flt (d := d) (b := b) (n := 512) (l := l) h0 hb rfl (by rw [e2]; rfl) (by rw [e1]; exact hw)
  rw [e1] at h
  exact h
structure FSt where
  i : Nat
  d : DvP
  W : Nat → List Int
def filL (c : Int) : List Int := filI c 512
/-- how the script goes on -/
def fNx (bad : Int) (z : Nat → OpP) (s : FSt) : FSt :=
  ⟨s.i + 1, wrtD s.d (blk 5 (z s.i).b) 512 (filL (z s.i).c), if blk 5 (z s.i).b = bad then s.W else upd s.W (blk 5 (z s.i).b).toNat (filL (z s.i).c)⟩
def InvF (bad : Int) (s : FSt) : Prop := wfD s.d ∧ s.d.off = false ∧ s.d.ps = false ∧ s.d.nb = 5 ∧ s.d.nt ≤ s.i + 1 ∧ s.d.ng ≤ s.i + 1 ∧ s.i ≤ 60 ∧
  (∀ j : Nat, j < 5 → s.d.rd j = decide ((j : Int) = bad) ∧ s.d.wr j = decide ((j : Int) = bad)) ∧ ∀ j : Nat, j < 5 → contD s.d j = s.W j
theorem invF_has {bad : Int} {s : FSt} (h : InvF bad s) {b : Int} (hb : 0 ≤ b ∧ b < 5) : hasB s.d b = true := hasB_t.2 ⟨hb.1, by rw [h.2.2.2.1]; exact hb.2⟩
theorem invF_room {bad : Int} {s : FSt} (h : InvF bad s) : roomD s.d := by
  obtain ⟨_, _, _, _, h1, h2, h3, _⟩ := h
  exact ⟨by omega, by omega⟩
theorem toN {b : Int} (hb : 0 ≤ b ∧ b < 5) : ((b.toNat : Nat) : Int) = b ∧ b.toNat < 5 := by omega
theorem fBad {bad : Int} {s : FSt} (h : InvF bad s) {b : Int} {l : List Int} (hb : 0 ≤ b ∧ b < 5) (e : b = bad) :
    wrtE s.d b 512 = 11 ∧ wrtD s.d b 512 l = stD s.d ∧ readE (stD s.d) b = 11 ∧ readB (stD s.d) b = [] := by
  have hh := invF_has h hb
  obtain ⟨_, h0, h1, _, _, _, _, hr, _⟩ := h
  obtain ⟨t1, t2⟩ := toN hb
  have ⟨k1, k2⟩ := hr _ t2
  rw [t1, e] at k1 k2
  have w := wr_refused (d := s.d) (b := b) (l := l) h0 h1 hh (by rw [e, k2]; simp)
  have r := rd_flt (d := stD s.d) (b := b) h0 hh (by show s.d.rd _ = true; rw [e, k1]; simp)
  exact ⟨w.1, w.2, r.1, r.2⟩
theorem fGood {bad : Int} {s : FSt} (h : InvF bad s) {b : Int} {l : List Int} (hb : 0 ≤ b ∧ b < 5) (e : b ≠ bad) :
    wrtE s.d b 512 = 0 ∧ wrtD s.d b 512 l = addD (stD s.d) b l ∧ readE (addD (stD s.d) b l) b = 0 ∧ readB (addD (stD s.d) b l) b = l := by
  have hh := invF_has h hb
  obtain ⟨_, h0, h1, _, _, _, _, hr, _⟩ := h
  obtain ⟨t1, t2⟩ := toN hb
  have ⟨k1, k2⟩ := hr _ t2
  rw [t1] at k1 k2
  have w := wr_plain (d := s.d) (b := b) (l := l) h0 h1 hh (by rw [k2]; simp [e])
  have r := rd_ok (d := addD (stD s.d) b l) (b := b) h0 hh (by show s.d.rd _ = false; rw [k1]; simp [e])
  refine ⟨w.1, w.2, r.1, r.2.trans ?_⟩
  rw [cont_add, if_pos rfl]
theorem invF_next {bad : Int} {z : Nat → OpP} {s : FSt} (h : InvF bad s) (hi : s.i < 60) : InvF bad (fNx bad z s) := by
  have hb : 0 ≤ blk 5 (z s.i).b ∧ blk 5 (z s.i).b < 5 := blk_lt (n := 5) (by decide) (by decide)
  have hh := invF_has h hb
  have hrm := invF_room h
  by_cases e : blk 5 (z s.i).b = bad
  · obtain ⟨_, w, _⟩ := fBad (l := filL (z s.i).c) h hb e
    unfold fNx
    rw [w, if_pos e]
    obtain ⟨k1, k2, k3, k4, k5, k6, k7, k8, k9⟩ := h
    refine ⟨k1, k2, k3, k4, ?_, ?_, hi, k8, fun j hj => cont_st.trans (k9 j hj)⟩
    · show s.d.nt ≤ s.i + 1 + 1
      omega
    · show s.d.ng ≤ s.i + 1 + 1
      omega
  · obtain ⟨_, w, _⟩ := fGood (l := filL (z s.i).c) h hb e
    unfold fNx
    rw [w, if_neg e]
    obtain ⟨k1, k2, k3, k4, k5, k6, k7, k8, k9⟩ := h
    refine ⟨wf_add k1 hh hrm, k2, k3, k4, Nat.succ_le_succ k5, Nat.succ_le_succ k6, hi, k8, fun j hj => ?_⟩
    rw [cont_add]
    obtain ⟨t1, t2⟩ := toN hb
    show _ = upd s.W (blk 5 (z s.i).b).toNat (filL (z s.i).c) j
    by_cases e2 : blk 5 (z s.i).b = (j : Int)
    · have e3 : j = (blk 5 (z s.i).b).toNat := by omega
      rw [if_pos e2, e3, upd, if_pos rfl]
    · rw [if_neg e2, upd, if_neg (by omega), cont_st]
      exact k9 j hj
/-- the device ahead of the script -/
def dFa (bad : Int) : DvP := faultD (wrtD (newD 5 0 0) bad 512 (filL 7)) bad true true
def w0F (i j : Nat) : List Int := if j < i then zerosI 512 else []
def sF0 (bad : Int) : FSt := ⟨0, dFa bad, upd (w0F 5) bad.toNat (filL 7)⟩
theorem new5 {b : Int} {l : List Int} (hb : 0 ≤ b ∧ b < 5) : wrtE (newD 5 0 0) b 512 = 0 ∧ wrtD (newD 5 0 0) b 512 l = addD (stD (newD 5 0 0)) b l ∧ hasB (wrtD (newD 5 0 0) b 512 l) b = true := by
  have hh : hasB (newD 5 0 0) b = true := hasB_t.2 hb
  have w := wr_plain (d := newD 5 0 0) (b := b) (l := l) rfl rfl hh rfl
  exact ⟨w.1, w.2, by rw [w.2]; exact hh⟩
theorem new5_wf : wfD (newD 5 0 0) := ⟨rfl, rfl, fun _ h => absurd h (Nat.not_lt_zero _), by decide, by decide, by decide⟩
theorem invF_0 {bad : Int} (hb : 0 ≤ bad ∧ bad < 5) : InvF bad (sF0 bad) := by
  obtain ⟨w1, w2, w3⟩ := new5 (l := filL 7) hb
  have hh : hasB (newD 5 0 0) bad = true := hasB_t.2 hb
  obtain ⟨t1, t2⟩ := toN hb
  have e : dFa bad = { addD (stD (newD 5 0 0)) bad (filL 7) with rd := upd noB bad.toNat true, wr := upd noB bad.toNat true } := by
    show faultD (wrtD (newD 5 0 0) bad 512 (filL 7)) bad true true = _
    rw [w2, faultD, if_pos (by exact hh)]
    rfl
  have hc : ∀ c, contD (dFa bad) c = if bad = c then filL 7 else contD (newD 5 0 0) c := fun c => by
    show contD (faultD (wrtD (newD 5 0 0) bad 512 (filL 7)) bad true true) c = _
    rw [cont_fault, w2, cont_add, cont_st]
  have hwf : wfD (dFa bad) := by
    show wfD (faultD (wrtD (newD 5 0 0) bad 512 (filL 7)) bad true true)
    rw [w2]
    exact wf_fault (wf_add new5_wf hh ⟨by decide, by decide⟩)
  refine ⟨hwf, by show (dFa bad).off = false; rw [e]; rfl, by show (dFa bad).ps = false; rw [e]; rfl, by show (dFa bad).nb = 5; rw [e]; rfl, by show (dFa bad).nt ≤ _; rw [e]; exact Nat.le_refl 1, by show (dFa bad).ng ≤ _; rw [e]; exact Nat.le_refl 1, Nat.zero_le _, fun j hj => ?_, fun j hj => ?_⟩
  · show (dFa bad).rd j = _ ∧ (dFa bad).wr j = _
    rw [e]
    show upd noB bad.toNat true j = _ ∧ upd noB bad.toNat true j = _
    by_cases e2 : j = bad.toNat
    · rw [upd, if_pos e2]
      have : (j : Int) = bad := by omega
      simp [this]
    · rw [upd, if_neg e2]
      have : ¬ (j : Int) = bad := by omega
      simp [this, noB]
  · show contD (dFa bad) j = upd (w0F 5) bad.toNat (filL 7) j
    rw [hc]
    by_cases e2 : bad = (j : Int)
    · have e3 : j = bad.toNat := by omega
      rw [if_pos e2, upd, if_pos e3]
    · rw [if_neg e2, upd, if_neg (by omega), w0F, if_pos hj]
      rfl
/-- the device behind the script -/
def dFe (bad : Int) (s : FSt) : DvP := faultD s.d bad false false
theorem fEnd {bad : Int} {s : FSt} (h : InvF bad s) (hb : 0 ≤ bad ∧ bad < 5) {j : Nat} (hj : j < 5) : wfD (dFe bad s) ∧ readE (dFe bad s) j = 0 ∧ readB (dFe bad s) j = s.W j := by
  have hh := invF_has h hb
  have hj' : 0 ≤ (j : Int) ∧ (j : Int) < 5 := by omega
  have hhj := invF_has h hj'
  have e : dFe bad s = { s.d with rd := upd s.d.rd bad.toNat false, wr := upd s.d.wr bad.toNat false } := by
    show faultD s.d bad false false = _
    rw [faultD, if_pos hh]
  have hrd : (dFe bad s).rd j = false := by
    rw [e]
    show upd s.d.rd bad.toNat false j = false
    by_cases e2 : j = bad.toNat
    · rw [upd, if_pos e2]
    · rw [upd, if_neg e2, (h.2.2.2.2.2.2.2.1 j hj).1]
      have : ¬ (j : Int) = bad := by omega
      simp [this]
  have r := rd_ok (d := dFe bad s) (b := (j : Int)) (by rw [e]; exact h.2.1) (by rw [e]; exact hhj) hrd
  refine ⟨wf_fault h.1, r.1, r.2.trans ?_⟩
  show contD (faultD s.d bad false false) j = _
  rw [cont_fault]
  exact h.2.2.2.2.2.2.2.2 j hj
end Go.Cx.Rd
/- CxdN -/
namespace Go.Cx.Rd
open Go Go.Cx Go.Proofs
/-- what is read of a device's content -/
structure DvT where
  n1 : Nat
  m1 : Nat
  f1 : Nat → V
  n2 : Nat
  m2 : Nat
  f2 : Nat → V
  n3 : Nat
  m3 : Nat
  f3 : Nat → V
  n4 : Nat
  m4 : Nat
  f4 : Nat → V
  n5 : Nat
  m5 : Nat
  f5 : Nat → V
  cm : Int
  bt : Int
  off : Bool
  ps : Bool
  pa : Int
  pk : Int
  st : Int
def dvOk (t : DvT) : Prop := t.n1 = t.m1 ∧ t.n2 = t.m2 ∧ t.n3 = t.m3 ∧ t.n4 = t.m4 ∧ t.n5 = t.m5 ∧ isBk t.f1 ∧ isWr t.f2 ∧ isWr t.f3 ∧ isBl t.f4 ∧ isBl t.f5
def dvMk (t : DvT) : DvP := ⟨t.n1, unbks t.f1, t.n2, unwrs t.f2, t.n3, unwrs t.f3, t.cm, t.bt, t.off, t.ps, t.pa, t.pk, t.n4, unbls t.f4, t.n5, unbls t.f5, t.st⟩
theorem dvOk_s (d : DvP) : dvOk ⟨d.nb, d.nb, bkV apf d.L, d.nt, d.nt, wrV apf d.T, d.ng, d.ng, wrV apf d.G, d.nr, d.nr, blV apf d.rd, d.nw, d.nw, blV apf d.wr, d.cm, d.bt, d.off, d.ps, d.pa, d.pk, d.st⟩ := ⟨rfl, rfl, rfl, rfl, rfl, rfl, rfl, rfl, rfl, rfl⟩
theorem dvMk_s (d : DvP) : dvMk ⟨d.nb, d.nb, bkV apf d.L, d.nt, d.nt, wrV apf d.T, d.ng, d.ng, wrV apf d.G, d.nr, d.nr, blV apf d.rd, d.nw, d.nw, blV apf d.wr, d.cm, d.bt, d.off, d.ps, d.pa, d.pk, d.st⟩ = d := rfl
/-- content read as a device's, which gets a name -/
def dvN (ap : AP) : V → R DvP
  | .cat 1 11 (.osl n1 1 (.rows 1 m1 f1)) (.cat 1 10 (.osl n2 2 (.rows 2 m2 f2)) (.cat 1 9 (.osl n3 2 (.rows 2 m3 f3)) (.cat 1 8 (.int .u64 cm) (.cat 1 7 (.int .u64 bt) (.cat 1 6 (.bool off)
      (.cat 3 3 (.cat 1 2 (.bool ps) (.cat 1 1 (.int .i64 pa) (.int .u64 pk))) (.cat 1 2 (.osl n4 1 (.rows 1 m4 f4)) (.cat 1 1 (.osl n5 1 (.rows 1 m5 f5)) (.int .i64 st))))))))) =>
      .chk (ap _ _ dvOk ⟨n1, m1, f1, n2, m2, f2, n3, m3, f3, n4, m4, f4, n5, m5, f5, cm, bt, off, ps, pa, pk, st⟩) <|
      .nam (ap _ _ dvMk ⟨n1, m1, f1, n2, m2, f2, n3, m3, f3, n4, m4, f4, n5, m5, f5, cm, bt, off, ps, pa, pk, st⟩) fun d => .ok d
  | _ => .fail 400
theorem dvN_to {c : V} {d : DvP} (h : (dvN apf c).to d) : (dvR apf c).to d := by
  unfold dvN at h
  split at h
  · obtain ⟨⟨h1, h2, h3, h4, h5, h6, h7, h8, h9, h10⟩, h⟩ := h
    cases h
    exact ⟨h1, h2, h3, h4, h5, h6, h7, h8, h9, h10, rfl⟩
  · exact h.elim
theorem dvN_sub {c : V} {K : DvP → R Out} {out : Out} (h : ((dvN apf c).bind K).to out) : ((dvR apf c).bind K).to out := by
  obtain ⟨d, h1, h2⟩ := bind_to h
  exact to_bind (dvN_to h1) h2
def nOn (ap : AP) : Ctr
  | [.v .nilp] => .ok ⟨.int .i64 1, [], []⟩
  | [.o c none] => (dvN ap c).bind fun d => .ok ⟨.int .i64 0, [dvA ap (ap _ _ onD d)], []⟩
  | _ => .fail 401
theorem n16 : Sound Try.prog [] 16 (pu 16) (fun args => nOn apf (args.map litA)) := s16.sub fun args out h => by
  revert h
  show (nOn apf (args.map litA)).to out → (cOn apf (args.map litA)).to out
  generalize args.map litA = az
  intro h
  unfold nOn at h
  unfold cOn
  split at h
  all_goals first
    | exact h
    | exact dvN_sub h
    | exact h.elim
def nFault (ap : AP) : Ctr
  | [.v .nilp, .v (.int .i64 _), .v (.bool _), .v (.bool _)] => .ok ⟨.int .i64 1, [], []⟩
  | [.o c none, .v (.int .i64 b), .v (.bool r), .v (.bool w)] => (dvN ap c).bind fun d => .chk (ap _ _ wfD d) <| .ok ⟨.int .i64 (ap _ _ (ap _ _ hasE d) b), [dvA ap (ap _ _ (ap _ _ (ap _ _ (ap _ _ faultD d) b) r) w)], []⟩
  | _ => .fail 411
theorem n12 : Sound Try.prog [] 12 (pu 12) (fun args => nFault apf (args.map litA)) := s12.sub fun args out h => by
  revert h
  show (nFault apf (args.map litA)).to out → (cFault apf (args.map litA)).to out
  generalize args.map litA = az
  intro h
  unfold nFault at h
  unfold cFault
  split at h
  all_goals first
    | exact h
    | exact dvN_sub h
    | exact h.elim
def nOff (ap : AP) : Ctr
  | [.v .nilp, .v (.int .u64 _)] => .ok ⟨.int .i64 1, [], []⟩
  | [.o c none, .v (.int .u64 k)] => (dvN ap c).bind fun d => .chk (ap _ _ wfD d) <| .ok ⟨.int .i64 0, [dvA ap (ap _ _ (ap _ _ offD d) k)], []⟩
  | _ => .fail 440
theorem n15 : Sound Try.prog [] 15 (pu 15) (fun args => nOff apf (args.map litA)) := s15.sub fun args out h => by
  revert h
  show (nOff apf (args.map litA)).to out → (cOff apf (args.map litA)).to out
  generalize args.map litA = az
  intro h
  unfold nOff at h
  unfold cOff
  split at h
  all_goals first
    | exact h
    | exact dvN_sub h
    | exact h.elim
def nReadD (ap : AP) : Ctr
  | [.v .nilp, .v (.int .i64 _)] => .ok ⟨.tcons .nsl (.tcons (.int .i64 1) .tnil), [], []⟩
  | [.o c none, .v (.int .i64 b)] => (dvN ap c).bind fun d => .chk (ap _ _ wfD d) <| .ok ⟨.tcons (dslA ap (ap _ _ (ap _ _ readB d) b)) (.tcons (.int .i64 (ap _ _ (ap _ _ readE d) b)) .tnil), [dvA ap d], []⟩
  | _ => .fail 450
theorem n13 : Sound Try.prog [] 13 (pu 13) (fun args => nReadD apf (args.map litA)) := s13.sub fun args out h => by
  revert h
  show (nReadD apf (args.map litA)).to out → (cReadD apf (args.map litA)).to out
  generalize args.map litA = az
  intro h
  unfold nReadD at h
  unfold cReadD
  split at h
  all_goals first
    | exact h
    | exact dvN_sub h
    | exact h.elim
def nWrite (ap : AP) : Ctr
  | [.v .nilp, .v (.int .i64 _), .b _ 1 (.ints .u8 _ _)] => .ok ⟨.int .i64 1, [], []⟩
  | [.o c none, .v (.int .i64 b), .b n 1 (.ints .u8 _ l)] => (dvN ap c).bind fun d => .chk (ap _ _ wfD d) <| .chk (ap _ _ roomD d) <|
      .ok ⟨.int .i64 (ap _ _ (ap _ _ (ap _ _ wrtE d) b) n), [dvA ap (ap _ _ (ap _ _ (ap _ _ (ap _ _ wrtD d) b) n) l)], []⟩
  | _ => .fail 460
theorem n10 : Sound Try.prog [] 10 (pu 10) (fun args => nWrite apf (args.map litA)) := s10.sub fun args out h => by
  revert h
  show (nWrite apf (args.map litA)).to out → (cWrite apf (args.map litA)).to out
  generalize args.map litA = az
  intro h
  unfold nWrite at h
  unfold cWrite
  split at h
  all_goals first
    | exact h
    | exact dvN_sub h
    | exact h.elim
def nFlush (ap : AP) : Ctr
  | [.v .nilp] => .ok ⟨.int .i64 1, [], []⟩
  | [.o c none] => (dvN ap c).bind fun d => .chk (ap _ _ wfD d) <| .ok ⟨.int .i64 (ap _ _ flE d), [dvA ap (ap _ _ flD d)], []⟩
  | _ => .fail 480
theorem n17 : Sound Try.prog [] 17 (pu 17) (fun args => nFlush apf (args.map litA)) := s17.sub fun args out h => by
  revert h
  show (nFlush apf (args.map litA)).to out → (cFlush apf (args.map litA)).to out
  generalize args.map litA = az
  intro h
  unfold nFlush at h
  unfold cFlush
  split at h
  all_goals first
    | exact h
    | exact dvN_sub h
    | exact h.elim
end Go.Cx.Rd
/- CxL2 -/
namespace Go.Cx
open Go
theorem eq_t {x y : Int} : (eqI x y = true) ↔ x = y := by simp [eqI]
theorem eq_f {x y : Int} : (eqI x y = false) ↔ x ≠ y := by simp [eqI]
theorem eqL_f {x y : List Int} : (eqL x y = false) ↔ x ≠ y := by simp [eqL]
theorem notB_t {x : Bool} : (notB x = true) ↔ x = false := by simp [notB]
end Go.Cx
/- CxdSH -/
namespace Go.Cx.Rd
open Go Go.Cx Go.Proofs
def cLaw3 (ap : AP) : Ctr
  | [.v (.dsl n 5 (.rows 5 m f)), .v (.int .i64 _)] => .chk (ap _ _ (ap _ _ eqN m) n) <| .chk (ap _ _ isOps f) <| .chk (ap _ _ (ap _ _ leN n) 9223372036854775807) <| .ok ⟨.tt, [], []⟩
  | _ => .fail 495
def fP (bad : Int) (n : Nat) (s : FSt) : Prop := InvF bad s ∧ s.i ≤ n
def fMu (n : Nat) (s : FSt) : Nat := n - s.i
def eP (bad : Int) (i : Nat) (s : FSt) : Prop := InvF bad s ∧ i ≤ 5
structure ESt where
  i : Nat
  s : FSt
def a3 (ap : AP) (n : Nat) (z : Nat → OpP) (bad : Int) : List (Nat × Ann) := [
  (0, .inv Nat (fun i => ⟨[(0, .dsl n 5 (.rows 5 n (opV ap z))), (1, .int .i64 bad), (5, .ptr 19 []), (7, .ptr 7 []), (47, .int .i64 (ap _ _ lenI i))],
      [(19, ⟨.own, dvA ap (ap _ _ dFa bad)⟩), (7, ⟨.own, .rows 1 5 (swV ap (ap _ _ w0F i))⟩)], []⟩)
    (fun i => ap _ _ (ap _ _ leN i) 5) (fun i => ap _ _ (ap _ _ subN 5) i)),
  (1, .inv FSt (fun s => ⟨[(0, .dsl n 5 (.rows 5 n (opV ap z))), (1, .int .i64 bad), (5, .ptr 19 []), (7, .ptr 7 []), (59, .dsl n 5 (.rows 5 n (opV ap z))), (60, .int .i64 (ap _ _ lenI n)), (61, .int .i64 (ap _ _ lenI (ap _ _ FSt.i s)))],
      [(19, ⟨.own, dvA ap (ap _ _ FSt.d s)⟩), (7, ⟨.own, .rows 1 5 (swV ap (ap _ _ FSt.W s))⟩)], []⟩)
    (fun s => ap _ _ (ap _ _ (ap _ _ fP bad) n) s) (fun s => ap _ _ (ap _ _ fMu n) s)),
  (2, .inv ESt (fun x => ⟨[(1, .int .i64 bad), (5, .ptr 19 []), (7, .ptr 7 []), (124, .int .i64 (ap _ _ lenI (ap _ _ ESt.i x)))],
      [(19, ⟨.own, dvA ap (ap _ _ (ap _ _ dFe bad) (ap _ _ ESt.s x))⟩), (7, ⟨.own, .rows 1 5 (swV ap (ap _ _ FSt.W (ap _ _ ESt.s x)))⟩)], []⟩)
    (fun x => ap _ _ (ap _ _ (ap _ _ eP bad) (ap _ _ ESt.i x)) (ap _ _ ESt.s x)) (fun x => ap _ _ (ap _ _ subN 5) (ap _ _ ESt.i x)))]
theorem natI_lenI {n : Nat} : natI (lenI n) = n := Int.toNat_natCast n
theorem dFa_e {b : Int} : faultD (wrtD (newD 5 0 0) b 512 (filI 7 512)) b true true = dFa b := rfl
theorem dFe_e {b : Int} {s : FSt} : faultD s.d b false false = dFe b s := rfl
theorem fNx_d {b : Int} {z : Nat → OpP} {s : FSt} : (fNx b z s).d = wrtD s.d (blk 5 (z s.i).b) 512 (filI (z s.i).c 512) := rfl
theorem fNx_i {b : Int} {z : Nat → OpP} {s : FSt} : (fNx b z s).i = s.i + 1 := rfl
theorem sF0_d {b : Int} : (sF0 b).d = dFa b := rfl
theorem sF0_i {b : Int} : (sF0 b).i = 0 := rfl
theorem newOk5 : newOk 5 0 0 := (rfl : newB 5 0 0 = false)
theorem new5_room : roomD (newD 5 0 0) := ⟨by decide, by decide⟩
theorem new5_wf' {b : Int} {l : List Int} (hb : 0 ≤ b ∧ b < 5) : wfD (wrtD (newD 5 0 0) b 512 l) := by
  rw [(new5 hb).2.1]
  exact wf_add new5_wf (hasB_t.2 hb) ⟨by decide, by decide⟩
theorem new5_has {b : Int} {l : List Int} (hb : 0 ≤ b ∧ b < 5) : hasE (wrtD (newD 5 0 0) b 512 l) b = 0 := by rw [hasE, (new5 hb).2.2]; rfl
def eNx (x : ESt) : ESt := ⟨x.i + 1, x.s⟩
theorem eNx_s {x : ESt} : (eNx x).s = x.s := rfl
theorem eNx_i {x : ESt} : (eNx x).i = sucN x.i := rfl
theorem fWf {bad : Int} {s : FSt} (h : InvF bad s) {b : Int} {l : List Int} (hb : 0 ≤ b ∧ b < 5) : wfD (wrtD s.d b 512 l) := by
  by_cases e : b = bad
  · rw [(fBad h hb e).2.1]
    exact h.1
  · rw [(fGood h hb e).2.1]
    exact wf_add h.1 (invF_has h hb) (invF_room h)
theorem fRow_bad {bad : Int} {z : Nat → OpP} {s : FSt} (e : blk 5 (z s.i).b = bad) : eqRows 5 (swV apf (fNx bad z s).W) (swV apf s.W) := by
  rw [fNx, if_pos e]
  exact fun _ _ => rfl
theorem fRow_good {bad : Int} {z : Nat → OpP} {s : FSt} (e : blk 5 (z s.i).b ≠ bad) : eqRows 5 (swV apf (fNx bad z s).W) (updR (swV apf s.W) (natI (blk 5 (z s.i).b)) (V.str (filI (z s.i).c 512))) := by
  rw [fNx, if_neg e]
  intro j _
  show nV (swV apf (upd s.W (blk 5 (z s.i).b).toNat (filL (z s.i).c)) j) = _
  by_cases h : j = (blk 5 (z s.i).b).toNat
  · simp [swV, updR, upd, h, apf_e, nV, natI, filL]
  · simp [swV, updR, upd, h, apf_e, nV, natI]
theorem w0F_zero : eqRows 5 (swV apf (w0F 0)) fun _ => ZT.valA apf (ZT.v (V.str [])) := fun _ _ => rfl
set_option maxRecDepth 20000 in
theorem w0F_next {i : Nat} : eqRows 5 (swV apf (w0F (sucN i))) (updR (swV apf (w0F i)) i (V.str (subL (zerosI 512) 0 512))) := by
  intro j _
  rw [show subL (zerosI 512) 0 512 = zerosI 512 from rfl]
  by_cases h : j = i
  · simp [swV, updR, w0F, sucN, h, apf_e, nV]
  · have e : (j < i + 1) = (j < i) := propext (by omega)
    simp [swV, updR, w0F, sucN, h, apf_e, nV, e]
theorem sF0_row {b : Int} : eqRows 5 (swV apf (sF0 b).W) (updR (swV apf (w0F 5)) (natI b) (V.str (filI 7 512))) := by
  intro j _
  show nV (swV apf (upd (w0F 5) b.toNat (filL 7)) j) = _
  by_cases h : j = b.toNat
  · simp [swV, updR, upd, h, apf_e, nV, natI, filL]
  · simp [swV, updR, upd, h, apf_e, nV, natI]
theorem fHas {bad : Int} {s : FSt} (h : InvF bad s) {b : Int} (hb : 0 ≤ b ∧ b < 5) : hasE s.d b = 0 := by rw [hasE, invF_has h hb]; rfl
theorem lt_n {i n : Nat} (h : ltI (lenI i) (lenI n) = true) : ltN i n := Int.ofNat_lt.1 (of_decide_eq_true h)
theorem lt_5 {i : Nat} (h : ltI (lenI i) 5 = true) : ltN i 5 := lt_n (n := 5) h
theorem ge_5 {i : Nat} (h : leN i 5) (h2 : ltI (lenI i) 5 = false) : i = 5 := by
  have h : i ≤ 5 := h
  have h2 : ¬ (i : Int) < 5 := of_decide_eq_false h2
  omega
theorem ge_60 {i : Nat} (h : geI (lenI i) 60 = false) : i < 60 := by
  have h : ¬ (60 : Int) ≤ (i : Int) := of_decide_eq_false h
  omega
set_option maxRecDepth 20000 in
set_option maxHeartbeats 4000000 in
theorem vc3 (args : List Arg) (out : Out) (h : (cLaw3 apf args).to out) (hok : okAs args) :
    args.length = ic3.nargs ∧ ic3.nargs ≤ ic3.ntmps ∧ ∃ A, run apf [(8, fun args => cNewY apf (args.map litA)), (9, cFixd apf), (10, fun args => nWrite apf (args.map litA)), (11, fun args => cFilledF apf (args.map litA)),
      (12, fun args => nFault apf (args.map litA)), (13, fun args => nReadD apf (args.map litA))] A ic3.body (fnQ apf args out ic3.res) (st0 [] true args) := by
  unfold cLaw3 at h
  split at h
  · rename_i n m f bad0
    obtain ⟨hm, hf, hn, h⟩ := h
    cases h
    obtain rfl : m = n := hm
    have hf : isOps f := hf
    obtain ⟨z, rfl⟩ : ∃ z, f = opV apf z := ⟨_, hf⟩
    clear hok hf
    refine ⟨rfl, by decide, a3 apf m z (apf _ _ (apf _ _ blk 5) bad0), ?_⟩
    have hbb : 0 ≤ blk 5 bad0 ∧ blk 5 bad0 < 5 := blk_lt (n := 5) (by decide) (by decide)
    have hP0 : apf _ _ (apf _ _ leN 0) 5 := Nat.zero_le _
    have hP1 : apf _ _ (apf _ _ (apf _ _ fP (apf _ _ (apf _ _ blk 5) bad0)) m) (apf _ _ sF0 (apf _ _ (apf _ _ blk 5) bad0)) := ⟨invF_0 hbb, Nat.zero_le _⟩
    have hU : ∀ (f : Nat → V) (i : Nat) (w : V), apf _ _ (apf _ _ (apf _ _ updR f) i) w i = w := fun f i w => if_pos rfl
    generalize hap : apf = ap at hP0 hP1 hU ⊢
    cbv
    repeat' first
      | exact True.intro
      | (intro (hh : _ = true); first | with_reducible exact absurd hh (bk_t (by assumption)) | cbv)
      | (intro (hh : _ = false); first | with_reducible exact absurd hh (bk_f (by assumption)) | cbv)
      | with_reducible refine And.intro ?_ ?_
      | (intro (y : DvP) (hy : _ = y); cbv)
      | (refine ⟨(0 : Nat), hP0, ?_⟩; cbv)
      | fail
    all_goals first
      | (intro (i : Nat) hi k1 k2
         clear k1 k2
         cbv
         repeat' first
           | exact True.intro
           | (intro (hh : _ = true); first | with_reducible exact absurd hh (bk_t (by assumption)) | cbv)
           | (intro (hh : _ = false); first | with_reducible exact absurd hh (bk_f (by assumption)) | cbv)
           | with_reducible refine And.intro ?_ ?_
           | (intro (y : DvP) (hy : _ = y); cbv)
           | (refine ⟨ap _ _ sucN i, ?_, (?_ : _ < _), ?_⟩; rotate_left 2; try cbv)
           | (refine ⟨ap _ _ sF0 (ap _ _ (ap _ _ blk 5) bad0), hP1, ?_⟩; try cbv)
         all_goals first
           | (intro (s : FSt) hs k1 k2
              clear k1 k2
              cbv
              repeat' first
                | exact True.intro
                | (intro (hh : _ = true); first | with_reducible exact absurd hh (bk_t (by assumption)) | cbv)
                | (intro (hh : _ = false); first | with_reducible exact absurd hh (bk_f (by assumption)) | cbv)
                | with_reducible refine And.intro ?_ ?_
                | (intro (y : DvP) (hy : _ = y); cbv)
                | (simp only [hU]; cbv)
                | (refine ⟨ap _ _ (ap _ _ (ap _ _ fNx (ap _ _ (ap _ _ blk 5) bad0)) z) s, ?_, (?_ : _ < _), ?_⟩; rotate_left 2; try cbv)
                | (refine ⟨ESt.mk 0 s, ?_, ?_⟩; rotate_left 1; try cbv)
              all_goals first
                | (intro (x : ESt) hx k1 k2
                   clear k1 k2
                   cbv
                   repeat' first
                     | exact True.intro
                     | (intro (hh : _ = true); first | with_reducible exact absurd hh (bk_t (by assumption)) | cbv)
                     | (intro (hh : _ = false); first | with_reducible exact absurd hh (bk_f (by assumption)) | cbv)
                     | with_reducible refine And.intro ?_ ?_
                     | (intro (y : DvP) (hy : _ = y); cbv)
                     | (simp only; cbv)
                     | (refine ⟨ap _ _ eNx x, ?_, (?_ : _ < _), ?_⟩; rotate_left 2; try cbv))
                | skip)
           | skip)
      | skip
    all_goals subst hap
    all_goals simp only [apf_e, cmF, dvMk_s, blk_e, natI_lenI] at *
    all_goals subst_vars
    all_goals try simp only [dFa_e, dFe_e, fNx_d, fNx_i, sF0_d, sF0_i, eNx_s, eNx_i, (new5 (l := filI 7 512) hbb).1, new5_has (l := filI 7 512) hbb] at *
    all_goals first
      | exact dvOk_s _
      | (simp only [eqN, eqI', eqB', leN, addN, V.cnt, Nat.zero_add, Nat.le_refl, eqRows, implies_true]; done)
      | exact newOk5
      | exact new5_wf
      | exact new5_room
      | exact new5_wf' hbb
      | (exfalso
         have h0 : neI 0 0 = true := by assumption
         exact absurd h0 (by decide))
      | exact (rfl : lenI 0 = 0)
      | exact w0F_zero
      | exact w0F_next
      | exact (by decide : 1 * 512 ≤ 140737488355328)
      | exact hbb.1
      | exact idx_lt hbb
      | exact Int.natCast_nonneg _
      | exact lt_n (by assumption)
      | exact lt_5 (by assumption)
      | exact (show fP _ _ _ by assumption).1.1
      | exact ⟨(show fP _ _ _ by assumption).1, Nat.zero_le _⟩
      | exact (fEnd (show eP _ _ _ by assumption).1 hbb (j := 0) (by decide)).1
      | (exfalso
         have hs : fP (blk 5 bad0) m s := by assumption
         have h : neI (hasE s.d (blk 5 bad0)) 0 = true := by assumption
         rw [fHas hs.1 hbb] at h
         exact absurd h (by decide))
      | (have hlt : i < 5 := lt_5 (by assumption)
         first
           | exact len_suc hlt (by decide)
           | exact sub_lt' hlt
           | exact hlt)
      | (have h5 : i = 5 := ge_5 (by assumption) (by assumption)
         subst h5
         exact sF0_row)
      | (have hx : eP (blk 5 bad0) x.i x.s := by assumption
         have hlt : x.i < 5 := lt_5 (by assumption)
         obtain ⟨f1, f2, f3⟩ := fEnd hx.1 hbb hlt
         first
           | exact len_suc hlt (by decide)
           | exact sub_lt' hlt
           | exact ⟨hx.1, hlt⟩
           | (exfalso
              have h : neI (readE (dFe (blk 5 bad0) x.s) (lenI x.i)) 0 = true := by assumption
              exact absurd (ne_t'.1 h) (fun k => k f2))
           | (exfalso
              have h : notB (eqL (readB (dFe (blk 5 bad0) x.s) (lenI x.i)) (x.s.W x.i)) = true := by assumption
              exact absurd f3 (eqL_f.1 (notB_t.1 h))))
      | (have hs : fP (blk 5 bad0) m s := by assumption
         have hb2 : 0 ≤ blk 5 (z s.i).b ∧ blk 5 (z s.i).b < 5 := blk_lt (n := 5) (by decide) (by decide)
         have h60 : s.i < 60 := ge_60 (by assumption)
         have hlt : s.i < m := lt_n (by assumption)
         first
           | exact invF_room hs.1
           | exact fWf hs.1 hb2
           | exact hb2.1
           | exact idx_lt hb2
           | exact len_suc h60 (by decide)
           | exact ⟨invF_next hs.1 h60, hlt⟩
           | exact sub_lt' hlt
           | exact fRow_bad (eq_t.1 (by assumption))
           | exact fRow_good (eq_f.1 (by assumption))
           | (exfalso
              have e : eqI (blk 5 (z s.i).b) (blk 5 bad0) = true := by assumption
              have e := eq_t.1 e
              obtain ⟨f1, f2, f3, f4⟩ := fBad (l := filI (z s.i).c 512) hs.1 hb2 e
              first
                | exact absurd f1 (ne_t'.1 (by assumption))
                | exact absurd (f2.symm ▸ f3) (ne_t'.1 (by assumption))
                | (have h : neI (lenI (llen (readB (wrtD s.d (blk 5 (z s.i).b) 512 (filI (z s.i).c 512)) (blk 5 (z s.i).b)))) 0 = true := by assumption
                   rw [f2, f4] at h
                   exact absurd h (by decide)))
           | (exfalso
              have e : eqI (blk 5 (z s.i).b) (blk 5 bad0) = false := by assumption
              have e := eq_f.1 e
              obtain ⟨f1, f2, f3, f4⟩ := fGood (l := filI (z s.i).c 512) hs.1 hb2 e
              first
                | exact absurd f1 (ne_t'.1 (by assumption))
                | exact absurd (f2.symm ▸ f3) (ne_t'.1 (by assumption))
                | exact absurd (f2.symm ▸ f4) (eqL_f.1 (notB_t.1 (by assumption)))))
  · exact h.elim
theorem s3 : Sound Try.prog [] 3 true (cLaw3 apf) := fn_sound rfl Try.call3 ok3 co3 (env_cons s8y (env_cons s9 (env_cons n10 (env_cons s11f (env_cons n12 (env_cons n13 env_nil)))))) vc3
theorem hout3 {n : Nat} {z : Nat → OpP} {b : Int} (hn : n ≤ 9223372036854775807) : (cLaw3 apf [.v (.dsl n 5 (.rows 5 n (opV apf z))), .v (.int .i64 b)]).to ⟨.tt, [], []⟩ := ⟨rfl, isOps_s _, hn, rfl⟩
end Go.Cx.Rd
/- CxdSI -/
namespace Go.Cx.Rd
open Go Go.Cx Go.Proofs
/-- a device of nb blocks without refusals, its power on, no step of it to fail -/
def PlOk (nb : Nat) (d : DvP) : Prop := wfD d ∧ d.off = false ∧ d.ps = false ∧ d.nb = nb ∧ ∀ j, d.rd j = false ∧ d.wr j = false
theorem pl_has {nb : Nat} {d : DvP} (h : PlOk nb d) {b : Int} (hb : 0 ≤ b ∧ b < nb) : hasB d b = true := hasB_t.2 ⟨hb.1, by rw [h.2.2.2.1]; exact hb.2⟩
theorem pl_new {nb : Nat} (h : nb ≤ 256) : PlOk nb (newD nb 0 0) :=
  ⟨⟨rfl, rfl, fun _ h => absurd h (Nat.not_lt_zero _), by show (nb : Int).toNat ≤ 1000000; omega, Nat.zero_le _, Nat.zero_le _⟩, rfl, rfl, Int.toNat_natCast nb, fun _ => ⟨rfl, rfl⟩⟩
theorem pl_write {nb : Nat} {d : DvP} (h : PlOk nb d) (hr : roomD d) {b : Int} {l : List Int} (hb : 0 ≤ b ∧ b < nb) :
    wrtE d b 512 = 0 ∧ wrtD d b 512 l = addD (stD d) b l ∧ PlOk nb (addD (stD d) b l) := by
  have hh := pl_has h hb
  obtain ⟨h1, h2, h3, h4, h5⟩ := h
  have w := wr_plain (d := d) (b := b) (l := l) h2 h3 hh (h5 _).2
  exact ⟨w.1, w.2, wf_add h1 hh hr, h2, h3, h4, h5⟩
theorem pl_read {nb : Nat} {d : DvP} (h : PlOk nb d) {b : Int} (hb : 0 ≤ b ∧ b < nb) : readE d b = 0 ∧ readB d b = contD d b := rd_ok h.2.1 (pl_has h hb) (h.2.2.2.2 _).1
theorem lay_cont {d : DvP} {b : Int} (hb : 0 ≤ b) : ∀ i, i ≤ d.nt → (∀ j, j < d.nt → 0 ≤ (d.T j).1) → layI d.T allT d.L i b.toNat = contI d b i := by
  intro i
  induction i with
  | zero => intro _ _; rfl
  | succ i ih =>
    intro hi h
    have h0 := h i hi
    rw [lay_yes rfl, contI, upd]
    by_cases e : (d.T i).1 = b
    · rw [if_pos (by rw [e]), if_pos e]
    · rw [if_neg (by omega), if_neg e]
      exact ih (by omega) h
theorem pl_flush {nb : Nat} {d : DvP} (h : PlOk nb d) : flE d = 0 ∧ PlOk nb (flD d) ∧ (flD d).nt = 0 ∧ (flD d).ng = d.ng ∧ ∀ b : Int, 0 ≤ b → (flD d).L b.toNat = contD d b := by
  obtain ⟨h1, h2, h3, h4, h5⟩ := h
  obtain ⟨e1, e2⟩ := st_no h3
  obtain ⟨f1, f2⟩ := fl_ok (d := d) h2 (by rw [e2]; rfl) rfl
  rw [e1] at f2
  rw [f2]
  refine ⟨f1, ⟨⟨h1.1, h1.2.1, fun _ h => absurd h (Nat.not_lt_zero _), h1.2.2.2.1, Nat.zero_le _, h1.2.2.2.2.2⟩, h2, h3, h4, h5⟩, rfl, rfl, fun b hb => ?_⟩
  show layI d.T allT d.L d.nt b.toNat = _
  rw [lay_cont hb _ (Nat.le_refl _) (fun j hj => (h1.2.2.1 j hj).1)]
  rfl
/-- the power off, and on -/
def cyD (k : Int) (d : DvP) : DvP := onD (offD d k)
theorem lay_free {T : Nat → Int × List Int} {s : Nat → Bool} {L : Nat → List Int} {j : Nat} : ∀ i, (∀ k, k < i → s k = true → (T k).1.toNat ≠ j) → layI T s L i j = L j := by
  intro i
  induction i with
  | zero => intro _; rfl
  | succ i ih =>
    intro h
    have hi := ih (fun k hk => h k (Nat.lt_succ_of_lt hk))
    cases hs : s i with
    | true =>
      rw [lay_yes hs, upd, if_neg (fun e => h i (Nat.lt_succ_self _) hs e.symm)]
      exact hi
    | false =>
      rw [lay_no hs]
      exact hi
theorem pl_cycle {nb : Nat} {d : DvP} {k : Int} (h : PlOk nb d) : PlOk nb (cyD k d) ∧ (cyD k d).nt = 0 ∧ (cyD k d).ng = d.ng ∧ (cyD k d).L = layI d.T (bitK k) d.L d.nt := by
  obtain ⟨h1, h2, h3, h4, h5⟩ := h
  unfold cyD
  rw [off_f h2]
  exact ⟨⟨⟨h1.1, h1.2.1, fun _ h => absurd h (Nat.not_lt_zero _), h1.2.2.2.1, Nat.zero_le _, h1.2.2.2.2.2⟩, rfl, rfl, h4, h5⟩, rfl, rfl, rfl⟩
theorem bitK_0 {i : Nat} : bitK 0 i = false := by
  have e : ∀ n, bshr .u64 0 n = 0 := fun n => Int.zero_fdiv _
  unfold bitK
  rw [e]
  rfl
def InvA (m : Nat) (s : FSt) : Prop := PlOk 8 s.d ∧ s.d.nt ≤ s.i ∧ s.d.ng ≤ s.i ∧ s.i ≤ 100 ∧ s.i ≤ m ∧ ∀ j : Nat, j < 8 → contD s.d j = s.W j
def fNa (z : Nat → OpP) (s : FSt) : FSt := ⟨s.i + 1, wrtD s.d (blk 8 (z s.i).b) 512 (filL (z s.i).c), upd s.W (blk 8 (z s.i).b).toNat (filL (z s.i).c)⟩
def sA0 (_ : Nat) : FSt := ⟨0, newD 8 0 0, w0F 8⟩
theorem blk8 {x : Int} : 0 ≤ blk 8 x ∧ blk 8 x < 8 := blk_lt (n := 8) (by decide) (by decide)
theorem invA_0 {m : Nat} : InvA m (sA0 m) := ⟨pl_new (nb := 8) (by decide), Nat.zero_le _, Nat.zero_le _, Nat.zero_le _, Nat.zero_le _, fun j hj => by
  show _ = w0F 8 j
  rw [w0F, if_pos hj]
  rfl⟩
theorem invA_room {m : Nat} {s : FSt} (h : InvA m s) : roomD s.d := by
  obtain ⟨_, h1, h2, h3, _⟩ := h
  exact ⟨by omega, by omega⟩
theorem aWr {m : Nat} {s : FSt} (h : InvA m s) {b : Int} (hb : 0 ≤ b ∧ b < 8) {l : List Int} : wrtE s.d b 512 = 0 ∧ wrtD s.d b 512 l = addD (stD s.d) b l ∧ PlOk 8 (addD (stD s.d) b l) := pl_write h.1 (invA_room h) hb
theorem upd_cont {d : DvP} {W : Nat → List Int} {b : Int} {l : List Int} {n : Nat} (hb : 0 ≤ b) (h : ∀ j : Nat, j < n → contD d j = W j) : ∀ j : Nat, j < n → contD (addD (stD d) b l) j = upd W b.toNat l j := by
  intro j hj
  rw [cont_add, upd]
  by_cases e : b = (j : Int)
  · rw [if_pos e, if_pos (by omega)]
  · rw [if_neg e, if_neg (by omega), cont_st]
    exact h j hj
theorem invA_next {m : Nat} {z : Nat → OpP} {s : FSt} (h : InvA m s) (hi : s.i < 100) (hm : s.i < m) : InvA m (fNa z s) := by
  obtain ⟨_, w, p⟩ := aWr h (b := blk 8 (z s.i).b) (l := filL (z s.i).c) blk8
  obtain ⟨h1, h2, h3, h4, h5, h6⟩ := h
  unfold fNa
  rw [w]
  exact ⟨p, Nat.succ_le_succ h2, Nat.succ_le_succ h3, hi, hm, upd_cont blk8.1 h6⟩
/-- the second script: also which blocks are touched -/
structure GSt where
  i : Nat
  d : DvP
  W : Nat → List Int
  U : Nat → Bool
def gS0 (s : FSt) : GSt := ⟨0, flD s.d, s.W, noB⟩
def fNb (z : Nat → OpP) (s : GSt) : GSt := ⟨s.i + 1, wrtD s.d (blk 8 (z s.i).b) 512 (filL (wadd .u8 (z s.i).c 1)), s.W, upd s.U (blk 8 (z s.i).b).toNat true⟩
def InvB (m : Nat) (s : GSt) : Prop := PlOk 8 s.d ∧ s.d.nt ≤ s.i ∧ s.d.ng ≤ 100 + s.i ∧ s.i ≤ 100 ∧ s.i ≤ m ∧ (∀ j : Nat, j < 8 → s.d.L j = s.W j) ∧ ∀ k, k < s.d.nt → s.U (s.d.T k).1.toNat = true
theorem invB_0 {m n : Nat} {s : FSt} (h : InvA m s) : InvB n (gS0 s) := by
  obtain ⟨f1, f2, f3, f4, f5⟩ := pl_flush h.1
  refine ⟨f2, by show (flD s.d).nt ≤ 0; rw [f3]; exact Nat.le_refl _, by show (flD s.d).ng ≤ 100; rw [f4]; exact Nat.le_trans h.2.2.1 h.2.2.2.1, Nat.zero_le _, Nat.zero_le _, fun j hj => ?_, fun k hk => ?_⟩
  · show (flD s.d).L j = s.W j
    rw [← h.2.2.2.2.2 j hj, ← f5 (j : Int) (Int.natCast_nonneg j)]
    rfl
  · have hk : k < (flD s.d).nt := hk
    rw [f3] at hk
    exact absurd hk (Nat.not_lt_zero _)
theorem invB_room {m : Nat} {s : GSt} (h : InvB m s) : roomD s.d := by
  obtain ⟨_, h1, h2, h3, _⟩ := h
  exact ⟨by omega, by omega⟩
theorem bWr {m : Nat} {s : GSt} (h : InvB m s) {b : Int} (hb : 0 ≤ b ∧ b < 8) {l : List Int} : wrtE s.d b 512 = 0 ∧ wrtD s.d b 512 l = addD (stD s.d) b l ∧ PlOk 8 (addD (stD s.d) b l) := pl_write h.1 (invB_room h) hb
theorem invB_next {m : Nat} {z : Nat → OpP} {s : GSt} (h : InvB m s) (hi : s.i < 100) (hm : s.i < m) : InvB m (fNb z s) := by
  obtain ⟨_, w, p⟩ := bWr h (b := blk 8 (z s.i).b) (l := filL (wadd .u8 (z s.i).c 1)) blk8
  obtain ⟨h1, h2, h3, h4, h5, h6, h7⟩ := h
  unfold fNb
  rw [w]
  refine ⟨p, Nat.succ_le_succ h2, Nat.succ_le_succ h3, hi, hm, h6, fun k hk => ?_⟩
  have hk : k < s.d.nt + 1 := hk
  show upd s.U _ true ((appW s.d.T s.d.nt (blk 8 (z s.i).b, filL (wadd .u8 (z s.i).c 1)) k).1.toNat) = true
  rw [appW]
  by_cases e : k < s.d.nt
  · rw [if_pos e, upd]
    split
    · rfl
    · exact h7 k e
  · rw [if_neg e, upd, if_pos rfl]
/-- what is found at the end -/
theorem bEnd {m : Nat} {s : GSt} {k : Int} (h : InvB m s) {j : Nat} (hj : j < 8) :
    wfD (cyD k s.d) ∧ readE (cyD k s.d) j = 0 ∧ (s.U j = false → readB (cyD k s.d) j = s.W j) ∧ (k = 0 → readB (cyD k s.d) j = s.W j) := by
  obtain ⟨c1, c2, c3, c4⟩ := pl_cycle (k := k) h.1
  have hj' : 0 ≤ (j : Int) ∧ (j : Int) < (8 : Nat) := by omega
  obtain ⟨r1, r2⟩ := pl_read c1 hj'
  have e : readB (cyD k s.d) j = layI s.d.T (bitK k) s.d.L s.d.nt j := by
    rw [r2, contD, c2, contI, c4]
    rfl
  refine ⟨c1.1, r1, fun hU => ?_, fun hk => ?_⟩
  · rw [e, lay_free _ (fun k hk _ e => ?_), h.2.2.2.2.2.1 j hj]
    have := h.2.2.2.2.2.2 k hk
    rw [e, hU] at this
    cases this
  · rw [e, lay_free _ (fun i _ hs => ?_), h.2.2.2.2.2.1 j hj]
    rw [hk, bitK_0] at hs
    cases hs
end Go.Cx.Rd
/- CxdSJ -/
namespace Go.Cx.Rd
open Go Go.Cx Go.Proofs
def cLaw5 (ap : AP) : Ctr
  | [.v (.dsl n 5 (.rows 5 m f)), .v (.dsl n' 5 (.rows 5 m' f')), .v (.int .u64 _)] => .chk (ap _ _ (ap _ _ eqN m) n) <| .chk (ap _ _ (ap _ _ eqN m') n') <| .chk (ap _ _ isOps f) <| .chk (ap _ _ isOps f') <| .ok ⟨.tt, [], []⟩
  | _ => .fail 496
def gMu (n : Nat) (s : GSt) : Nat := n - s.i
structure HSt where
  i : Nat
  s : GSt
def hP (m : Nat) (i : Nat) (s : GSt) : Prop := InvB m s ∧ i ≤ 8
def hNx (x : HSt) : HSt := ⟨x.i + 1, x.s⟩
def a5 (ap : AP) (n m : Nat) (z y : Nat → OpP) (k : Int) : List (Nat × Ann) := [
  (0, .inv Nat (fun i => ⟨[(0, .dsl n 5 (.rows 5 n (opV ap z))), (1, .dsl m 5 (.rows 5 m (opV ap y))), (2, .int .u64 k), (7, .ptr 22 []), (9, .ptr 9 []), (35, .int .i64 (ap _ _ lenI i))],
      [(22, ⟨.own, dvA ap (ap _ _ (ap _ _ (ap _ _ newD 8) 0) 0)⟩), (9, ⟨.own, .rows 1 8 (swV ap (ap _ _ w0F i))⟩)], []⟩)
    (fun i => ap _ _ (ap _ _ leN i) 8) (fun i => ap _ _ (ap _ _ subN 8) i)),
  (1, .inv FSt (fun s => ⟨[(1, .dsl m 5 (.rows 5 m (opV ap y))), (2, .int .u64 k), (7, .ptr 22 []), (9, .ptr 9 []), (43, .dsl n 5 (.rows 5 n (opV ap z))), (44, .int .i64 (ap _ _ lenI n)), (45, .int .i64 (ap _ _ lenI (ap _ _ FSt.i s)))],
      [(22, ⟨.own, dvA ap (ap _ _ FSt.d s)⟩), (9, ⟨.own, .rows 1 8 (swV ap (ap _ _ FSt.W s))⟩)], []⟩)
    (fun s => ap _ _ (ap _ _ InvA n) s) (fun s => ap _ _ (ap _ _ fMu n) s)),
  (2, .inv GSt (fun s => ⟨[(2, .int .u64 k), (7, .ptr 22 []), (9, .ptr 9 []), (14, .ptr 14 []), (74, .dsl m 5 (.rows 5 m (opV ap y))), (75, .int .i64 (ap _ _ lenI m)), (76, .int .i64 (ap _ _ lenI (ap _ _ GSt.i s)))],
      [(22, ⟨.own, dvA ap (ap _ _ GSt.d s)⟩), (9, ⟨.own, .rows 1 8 (swV ap (ap _ _ GSt.W s))⟩), (14, ⟨.own, .rows 1 8 (blV ap (ap _ _ GSt.U s))⟩)], []⟩)
    (fun s => ap _ _ (ap _ _ InvB m) s) (fun s => ap _ _ (ap _ _ gMu m) s)),
  (3, .inv HSt (fun x => ⟨[(2, .int .u64 k), (7, .ptr 22 []), (9, .ptr 9 []), (14, .ptr 14 []), (108, .int .i64 (ap _ _ lenI (ap _ _ HSt.i x)))],
      [(22, ⟨.own, dvA ap (ap _ _ (ap _ _ cyD k) (ap _ _ GSt.d (ap _ _ HSt.s x)))⟩), (9, ⟨.own, .rows 1 8 (swV ap (ap _ _ GSt.W (ap _ _ HSt.s x)))⟩), (14, ⟨.own, .rows 1 8 (blV ap (ap _ _ GSt.U (ap _ _ HSt.s x)))⟩)], []⟩)
    (fun x => ap _ _ (ap _ _ (ap _ _ hP m) (ap _ _ HSt.i x)) (ap _ _ HSt.s x)) (fun x => ap _ _ (ap _ _ subN 8) (ap _ _ HSt.i x)))]
theorem fNa_d {z : Nat → OpP} {s : FSt} : (fNa z s).d = wrtD s.d (blk 8 (z s.i).b) 512 (filI (z s.i).c 512) := rfl
theorem fNa_i {z : Nat → OpP} {s : FSt} : (fNa z s).i = s.i + 1 := rfl
theorem fNb_d {z : Nat → OpP} {s : GSt} : (fNb z s).d = wrtD s.d (blk 8 (z s.i).b) 512 (filI (arF .add .u8 (z s.i).c 1) 512) := rfl
theorem fNb_i {z : Nat → OpP} {s : GSt} : (fNb z s).i = s.i + 1 := rfl
theorem fNb_W {z : Nat → OpP} {s : GSt} : (fNb z s).W = s.W := rfl
theorem sA0_d {n : Nat} : (sA0 n).d = newD 8 0 0 := rfl
theorem sA0_i {n : Nat} : (sA0 n).i = 0 := rfl
theorem gS0_d {s : FSt} : (gS0 s).d = flD s.d := rfl
theorem gS0_i {s : FSt} : (gS0 s).i = 0 := rfl
theorem gS0_W {s : FSt} : (gS0 s).W = s.W := rfl
theorem hNx_s {x : HSt} : (hNx x).s = x.s := rfl
theorem hNx_i {x : HSt} : (hNx x).i = sucN x.i := rfl
theorem cy_e {k : Int} {d : DvP} : onD (offD d k) = cyD k d := rfl
theorem newOk8 : newOk 8 0 0 := (rfl : newB 8 0 0 = false)
theorem lt_8 {i : Nat} (h : ltI (lenI i) 8 = true) : ltN i 8 := lt_n (n := 8) h
theorem ge_8 {i : Nat} (h : leN i 8) (h2 : ltI (lenI i) 8 = false) : i = 8 := by
  have h : i ≤ 8 := h
  have h2 : ¬ (i : Int) < 8 := of_decide_eq_false h2
  omega
theorem ge_100 {i : Nat} (h : geI (lenI i) 100 = false) : i < 100 := by
  have h : ¬ (100 : Int) ≤ (i : Int) := of_decide_eq_false h
  omega
theorem w0F_next8 {i : Nat} : eqRows 8 (swV apf (w0F (sucN i))) (updR (swV apf (w0F i)) i (V.str (zerosI 512))) := by
  intro j _
  by_cases h : j = i
  · simp [swV, updR, w0F, sucN, h, apf_e, nV]
  · have e : (j < i + 1) = (j < i) := propext (by omega)
    simp [swV, updR, w0F, sucN, h, apf_e, nV, e]
theorem w0F_zero8 : eqRows 8 (swV apf (w0F 0)) fun _ => ZT.valA apf (ZT.v (V.str [])) := fun _ _ => rfl
theorem noB_zero8 {s : FSt} : eqRows 8 (blV apf (gS0 s).U) fun _ => ZT.valA apf (ZT.v V.ff) := fun _ _ => rfl
theorem sw_upd {W : Nat → List Int} {i n : Nat} {l : List Int} : eqRows n (swV apf (upd W i l)) (updR (swV apf W) i (V.str l)) := by
  intro j _
  by_cases h : j = i
  · simp [swV, updR, upd, h, apf_e, nV]
  · simp [swV, updR, upd, h, apf_e, nV]
theorem bl_updT {U : Nat → Bool} {i n : Nat} : eqRows n (blV apf (upd U i true)) (updR (blV apf U) i V.tt) := by
  intro j _
  by_cases h : j = i
  · simp [blV, updR, upd, h, apf_e, nV]
  · simp [blV, updR, upd, h, apf_e, nV]
theorem eqb_t {x y : Int} : (eqI x y = true) ↔ x = y := by simp [eqI]
set_option maxRecDepth 20000 in
set_option maxHeartbeats 4000000 in
theorem vc5 (args : List Arg) (out : Out) (h : (cLaw5 apf args).to out) (hok : okAs args) :
    args.length = ic5.nargs ∧ ic5.nargs ≤ ic5.ntmps ∧ ∃ A, run apf [(8, fun args => cNewY apf (args.map litA)), (9, cFixd apf), (10, fun args => nWrite apf (args.map litA)), (11, fun args => cFilledF apf (args.map litA)), (17, fun args => nFlush apf (args.map litA)), (15, fun args => nOff apf (args.map litA)), (16, fun args => nOn apf (args.map litA)), (13, fun args => nReadD apf (args.map litA))] A ic5.body (fnQ apf args out ic5.res) (st0 [] true args) := by
  unfold cLaw5 at h
  split at h
  · rename_i n m f n' m' f' k
    obtain ⟨h1, h2, h3, h4, h⟩ := h
    cases h
    obtain rfl : m = n := h1
    obtain rfl : m' = n' := h2
    obtain ⟨z, rfl⟩ : ∃ z, f = opV apf z := ⟨_, h3⟩
    obtain ⟨y, rfl⟩ : ∃ y, f' = opV apf y := ⟨_, h4⟩
    clear hok h3 h4
    refine ⟨rfl, by decide, a5 apf m m' z y k, ?_⟩
    have hP0 : apf _ _ (apf _ _ leN 0) 8 := Nat.zero_le _
    have hP1 : apf _ _ (apf _ _ InvA m) (apf _ _ sA0 m) := invA_0
    have hU : ∀ (f : Nat → V) (i : Nat) (w : V), apf _ _ (apf _ _ (apf _ _ updR f) i) w i = w := fun f i w => if_pos rfl
    generalize hap : apf = ap at hP0 hP1 hU ⊢
    cbv
    repeat' first
      | exact True.intro
      | (intro (hh : _ = true); first | with_reducible exact absurd hh (bk_t (by assumption)) | cbv)
      | (intro (hh : _ = false); first | with_reducible exact absurd hh (bk_f (by assumption)) | cbv)
      | with_reducible refine And.intro ?_ ?_
      | (intro (ny : DvP) (hny : _ = ny); cbv)
      | (simp only; cbv)
      | (refine ⟨(0 : Nat), hP0, ?_⟩; cbv)
      | fail
    all_goals first
      | (intro (i : Nat) hi k1 k2
         clear k1 k2
         cbv
         repeat' first
           | exact True.intro
           | (intro (hh : _ = true); first | with_reducible exact absurd hh (bk_t (by assumption)) | cbv)
           | (intro (hh : _ = false); first | with_reducible exact absurd hh (bk_f (by assumption)) | cbv)
           | with_reducible refine And.intro ?_ ?_
           | (intro (ny : DvP) (hny : _ = ny); cbv)
           | (simp only; cbv)
           | (refine ⟨ap _ _ sucN i, ?_, (?_ : _ < _), ?_⟩; rotate_left 2; try cbv)
           | (refine ⟨ap _ _ sA0 m, hP1, ?_⟩; try cbv)
           | fail
         all_goals first
           | (intro (s : FSt) hs k1 k2
              clear k1 k2
              cbv
              repeat' first
                | exact True.intro
                | (intro (hh : _ = true); first | with_reducible exact absurd hh (bk_t (by assumption)) | cbv)
                | (intro (hh : _ = false); first | with_reducible exact absurd hh (bk_f (by assumption)) | cbv)
                | with_reducible refine And.intro ?_ ?_
                | (intro (ny : DvP) (hny : _ = ny); cbv)
                | (simp only; cbv)
                | (refine ⟨ap _ _ (ap _ _ fNa z) s, ?_, (?_ : _ < _), ?_⟩; rotate_left 2; try cbv)
                | (refine ⟨ap _ _ gS0 s, ?_, ?_⟩; rotate_left 1; try cbv)
                | fail
              all_goals first
                | (intro (x : GSt) hx k1 k2
                   clear k1 k2
                   cbv
                   repeat' first
                     | exact True.intro
                     | (intro (hh : _ = true); first | with_reducible exact absurd hh (bk_t (by assumption)) | cbv)
                     | (intro (hh : _ = false); first | with_reducible exact absurd hh (bk_f (by assumption)) | cbv)
                     | with_reducible refine And.intro ?_ ?_
                     | (intro (ny : DvP) (hny : _ = ny); cbv)
                     | (simp only; cbv)
                     | (refine ⟨ap _ _ (ap _ _ fNb y) x, ?_, (?_ : _ < _), ?_⟩; rotate_left 2; try cbv)
                     | (refine ⟨HSt.mk 0 x, ?_, ?_⟩; rotate_left 1; try cbv)
                     | fail
                   all_goals first
                     | (intro (w : HSt) hw k1 k2
                        clear k1 k2
                        cbv
                        repeat' first
                          | exact True.intro
                          | (intro (hh : _ = true); first | with_reducible exact absurd hh (bk_t (by assumption)) | cbv)
                          | (intro (hh : _ = false); first | with_reducible exact absurd hh (bk_f (by assumption)) | cbv)
                          | with_reducible refine And.intro ?_ ?_
                          | (intro (ny : DvP) (hny : _ = ny); cbv)
                          | (simp only; cbv)
                          | (refine ⟨ap _ _ hNx w, ?_, (?_ : _ < _), ?_⟩; rotate_left 2; try cbv)
                          | fail)
                     | skip)
                | skip)
           | skip)
      | skip
    all_goals subst hap
    all_goals clear hU
    all_goals try simp only [apf_e, cmF, dvMk_s, blk_e, natI_lenI] at *
    all_goals subst_vars
    all_goals try simp only [fNa_d, fNa_i, fNb_d, fNb_i, fNb_W, sA0_d, sA0_i, gS0_d, gS0_i, gS0_W, hNx_s, hNx_i, cy_e] at *
    all_goals first
      | exact dvOk_s _
      | (simp only [eqN, eqI', eqB', leN, eqRows, implies_true]; done)
      | exact newOk8
      | exact (rfl : lenI 0 = 0)
      | (exfalso
         have h0 : neI 0 0 = true := by assumption
         exact absurd h0 (by decide))
      | exact w0F_zero8
      | exact w0F_next8
      | exact noB_zero8
      | exact (by decide : 1 * 512 ≤ 140737488355328)
      | exact Int.natCast_nonneg _
      | exact lt_n (by assumption)
      | exact lt_8 (by assumption)
      | exact sw_upd
      | exact bl_updT
      | (have hlt : i < 8 := lt_8 (by assumption)
         first
           | exact len_suc hlt (by decide)
           | exact sub_lt' hlt)
      | (have h8 : i = 8 := ge_8 (by assumption) (by assumption)
         subst h8
         exact fun _ _ => rfl)
      | (have hs : InvA m s := by assumption
         first
           | exact hs.1.1
           | exact invB_0 hs
           | exact invA_room hs
           | exact blk8.1
           | exact idx_lt blk8
           | (exfalso
              have h : neI (flE s.d) 0 = true := by assumption
              exact absurd (pl_flush hs.1).1 (ne_t'.1 h))
           | (have h100 : s.i < 100 := ge_100 (by assumption)
              have hlt : s.i < m := lt_n (by assumption)
              first
                | exact len_suc h100 (by decide)
                | exact invA_next hs h100 hlt
                | exact sub_lt' hlt
                | (exfalso
                   have h : neI (wrtE s.d (blk 8 (z s.i).b) 512) 0 = true := by assumption
                   exact absurd (aWr (l := []) hs blk8).1 (ne_t'.1 h))))
      | (have hx : InvB m' x := by assumption
         first
           | exact hx.1.1
           | exact ⟨hx, Nat.zero_le _⟩
           | exact invB_room hx
           | (have h100 : x.i < 100 := ge_100 (by assumption)
              have hlt : x.i < m' := lt_n (by assumption)
              first
                | exact len_suc h100 (by decide)
                | exact invB_next hx h100 hlt
                | exact sub_lt' hlt
                | (exfalso
                   have h : neI (wrtE x.d (blk 8 (y x.i).b) 512) 0 = true := by assumption
                   exact absurd (bWr (l := []) hx blk8).1 (ne_t'.1 h))))
      | (have hw : hP m' w.i w.s := by assumption
         have hlt : w.i < 8 := lt_8 (by assumption)
         obtain ⟨f1, f2, f3, f4⟩ := bEnd (k := k) hw.1 hlt
         first
           | exact f1
           | exact len_suc hlt (by decide)
           | exact ⟨hw.1, hlt⟩
           | exact sub_lt' hlt
           | (exfalso
              have h : neI (readE (cyD k w.s.d) (lenI w.i)) 0 = true := by assumption
              exact absurd f2 (ne_t'.1 h))
           | (exfalso
              have h : notB (eqL (readB (cyD k w.s.d) (lenI w.i)) (w.s.W w.i)) = true := by assumption
              have h := eqL_f.1 (notB_t.1 h)
              first
                | exact h (f3 (notB_t.1 (by assumption)))
                | exact h (f4 (eqb_t.1 (by assumption)))))
      | trace_state
  · exact h.elim
theorem s5 : Sound Try.prog [] 5 true (cLaw5 apf) := fn_sound rfl Try.call5 ok5 co5 (env_cons s8y (env_cons s9 (env_cons n10 (env_cons s11f (env_cons n17 (env_cons n15 (env_cons n16 (env_cons n13 env_nil)))))))) vc5
theorem hout5 {n m : Nat} {z y : Nat → OpP} {k : Int} : (cLaw5 apf [.v (.dsl n 5 (.rows 5 n (opV apf z))), .v (.dsl m 5 (.rows 5 m (opV apf y))), .v (.int .u64 k)]).to ⟨.tt, [], []⟩ := ⟨rfl, rfl, isOps_s _, isOps_s _, rfl⟩
end Go.Cx.Rd
