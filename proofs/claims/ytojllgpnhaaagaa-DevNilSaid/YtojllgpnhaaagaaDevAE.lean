/-
  What the laws of this claim stand on, part E: proved parts, no statement of its own.
-/
import Derived.Test.YtojllgpnhaaagaaDevAD
import Derived.Test.YtojllgpnhaaagaaRows
/- CxdS1 -/
namespace Go.Cx.Rd
open Go Go.Cx Go.Proofs
theorem bk_t {x : Bool} (h : x = false) : ¬ x = true := by rw [h]; decide
theorem bk_f {x : Bool} (h : x = true) : ¬ x = false := by rw [h]; decide
theorem ne_f' {x y : Int} : neI x y = false ↔ x = y := by simp [neI]
set_option maxRecDepth 20000 in
theorem vc16 (args : List Arg) (out : Out) (h : (cOn apf args).to out) (hok : okAs args) :
    args.length = ic16.nargs ∧ ic16.nargs ≤ ic16.ntmps ∧ ∃ A, run apf [] A ic16.body (fnQ apf args out ic16.res) (st0 [] false args) := by
  unfold cOn at h
  split at h
  · cases h
    refine ⟨rfl, by decide, [], ?_⟩
    generalize hap : apf = ap
    cbv
    repeat' first
      | exact True.intro
      | (intro (hh : _ = true); first | with_reducible exact absurd hh (bk_t (by assumption)) | cbv)
      | (intro (hh : _ = false); first | with_reducible exact absurd hh (bk_f (by assumption)) | cbv)
      | with_reducible refine And.intro ?_ ?_
      | fail
    all_goals subst hap
    all_goals first
      | (simp only [apf_e, eqI', *]; done)
      | (simp_all [apf_e, onD, rdyE, hasB, failD, cmE, btE, cmF, geI, ltI, gtI, eqRows, eqN, eqI', eqB', leN, addN, V.cnt, neI, lenI, isBk_s, isWr_s, isBl_s, unbks_s, unwrs_s, unbls_s]; done)
      | (simp_all [apf_e, onD, rdyE, hasB, failD, cmE, btE, cmF, geI, ltI, gtI, eqRows, eqN, eqI', eqB', leN, addN, V.cnt, neI, lenI, isBk_s, isWr_s, isBl_s, unbks_s, unwrs_s, unbls_s]; omega)
      | trace_state
  · obtain ⟨d, h1, h⟩ := bind_to h
    cases h
    cases dvR_to h1
    refine ⟨rfl, by decide, [], ?_⟩
    generalize hap : apf = ap
    cbv
    repeat' first
      | exact True.intro
      | (intro (hh : _ = true); first | with_reducible exact absurd hh (bk_t (by assumption)) | cbv)
      | (intro (hh : _ = false); first | with_reducible exact absurd hh (bk_f (by assumption)) | cbv)
      | with_reducible refine And.intro ?_ ?_
      | fail
    all_goals subst hap
    all_goals first
      | (simp only [apf_e, onD, eqRows, eqN, eqI', eqB', leN, addN, V.cnt, Nat.zero_add, Nat.le_refl, implies_true, *]; done)
      | (simp_all [apf_e, onD, rdyE, hasB, failD, cmE, btE, cmF, geI, ltI, gtI, eqRows, eqN, eqI', eqB', leN, addN, V.cnt, neI, lenI, isBk_s, isWr_s, isBl_s, unbks_s, unwrs_s, unbls_s]; done)
      | (simp_all [apf_e, onD, rdyE, hasB, failD, cmE, btE, cmF, geI, ltI, gtI, eqRows, eqN, eqI', eqB', leN, addN, V.cnt, neI, lenI, isBk_s, isWr_s, isBl_s, unbks_s, unwrs_s, unbls_s]; omega)
      | trace_state
  · exact h.elim
theorem s16 : Sound Try.prog [] 16 (pu 16) (fun args => cOn apf (args.map litA)) := (fn_sound rfl Try.call16 ok16 co16 env_nil vc16).lits
set_option maxRecDepth 20000 in
theorem vc30 (args : List Arg) (out : Out) (h : (cRdy apf args).to out) (hok : okAs args) :
    args.length = ic30.nargs ∧ ic30.nargs ≤ ic30.ntmps ∧ ∃ A, run apf [] A ic30.body (fnQ apf args out ic30.res) (st0 [] false args) := by
  unfold cRdy at h
  split at h
  · cases h
    refine ⟨rfl, by decide, [], ?_⟩
    generalize hap : apf = ap
    cbv
    repeat' first
      | exact True.intro
      | (intro (hh : _ = true); first | with_reducible exact absurd hh (bk_t (by assumption)) | cbv)
      | (intro (hh : _ = false); first | with_reducible exact absurd hh (bk_f (by assumption)) | cbv)
      | with_reducible refine And.intro ?_ ?_
      | fail
    all_goals subst hap
    all_goals first
      | (simp only [apf_e, eqI', *]; done)
      | (simp_all [apf_e, onD, rdyE, hasB, failD, cmE, btE, cmF, geI, ltI, gtI, eqRows, eqN, eqI', eqB', leN, addN, V.cnt, neI, lenI, isBk_s, isWr_s, isBl_s, unbks_s, unwrs_s, unbls_s]; done)
      | (simp_all [apf_e, onD, rdyE, hasB, failD, cmE, btE, cmF, geI, ltI, gtI, eqRows, eqN, eqI', eqB', leN, addN, V.cnt, neI, lenI, isBk_s, isWr_s, isBl_s, unbks_s, unwrs_s, unbls_s]; omega)
      | trace_state
  · obtain ⟨d, h1, h⟩ := bind_to h
    cases h
    cases dvR_to h1
    refine ⟨rfl, by decide, [], ?_⟩
    generalize hap : apf = ap
    cbv
    repeat' first
      | exact True.intro
      | (intro (hh : _ = true); first | with_reducible exact absurd hh (bk_t (by assumption)) | cbv)
      | (intro (hh : _ = false); first | with_reducible exact absurd hh (bk_f (by assumption)) | cbv)
      | with_reducible refine And.intro ?_ ?_
      | fail
    all_goals subst hap
    all_goals first
      | (simp only [apf_e, rdyE, eqRows, eqN, eqI', eqB', leN, addN, V.cnt, Nat.zero_add, Nat.le_refl, implies_true, *]; done)
      | (simp_all [apf_e, rdyE, eqI']; done)
      | (simp_all [apf_e, onD, rdyE, hasB, failD, cmE, btE, cmF, geI, ltI, gtI, eqRows, eqN, eqI', eqB', leN, addN, V.cnt, neI, lenI, isBk_s, isWr_s, isBl_s, unbks_s, unwrs_s, unbls_s]; omega)
      | trace_state
  · exact h.elim
theorem s30 : Sound Try.prog [] 30 (pu 30) (fun args => cRdy apf (args.map litA)) := (fn_sound rfl Try.call30 ok30 co30 env_nil vc30).lits
set_option maxRecDepth 20000 in
theorem vc31 (args : List Arg) (out : Out) (h : (cHas apf args).to out) (hok : okAs args) :
    args.length = ic31.nargs ∧ ic31.nargs ≤ ic31.ntmps ∧ ∃ A, run apf [] A ic31.body (fnQ apf args out ic31.res) (st0 [] false args) := by
  unfold cHas at h
  split at h
  · obtain ⟨d, h1, h⟩ := bind_to h
    cases h
    cases dvR_to h1
    refine ⟨rfl, by decide, [], ?_⟩
    generalize hap : apf = ap
    cbv
    repeat' first
      | exact True.intro
      | (intro (hh : _ = true); first | with_reducible exact absurd hh (bk_t (by assumption)) | cbv)
      | (intro (hh : _ = false); first | with_reducible exact absurd hh (bk_f (by assumption)) | cbv)
      | with_reducible refine And.intro ?_ ?_
      | fail
    all_goals subst hap
    all_goals first
      | (simp only [apf_e, hasB, cmF, ltI, eqRows, eqN, eqI', eqB', leN, addN, V.cnt, Nat.zero_add, Nat.le_refl, implies_true, *]; done)
      | (simp_all [apf_e, hasB, cmF, geI, ltI, eqB', lenI]; done)
      | (simp_all [apf_e, hasB, cmF, geI, eqB']; omega)
      | trace_state
  · exact h.elim
theorem s31 : Sound Try.prog [] 31 (pu 31) (fun args => cHas apf (args.map litA)) := (fn_sound rfl Try.call31 ok31 co31 env_nil vc31).lits
set_option maxRecDepth 20000 in
theorem vc14 (args : List Arg) (out : Out) (h : (cFail apf args).to out) (hok : okAs args) :
    args.length = ic14.nargs ∧ ic14.nargs ≤ ic14.ntmps ∧ ∃ A, run apf [] A ic14.body (fnQ apf args out ic14.res) (st0 [] false args) := by
  unfold cFail at h
  split at h
  · cases h
    refine ⟨rfl, by decide, [], ?_⟩
    generalize hap : apf = ap
    cbv
    repeat' first
      | exact True.intro
      | (intro (hh : _ = true); first | with_reducible exact absurd hh (bk_t (by assumption)) | cbv)
      | (intro (hh : _ = false); first | with_reducible exact absurd hh (bk_f (by assumption)) | cbv)
      | with_reducible refine And.intro ?_ ?_
      | fail
    all_goals subst hap
    all_goals first
      | (simp only [apf_e, eqI', *]; done)
      | (simp_all [apf_e, onD, rdyE, hasB, failD, cmE, btE, cmF, geI, ltI, gtI, eqRows, eqN, eqI', eqB', leN, addN, V.cnt, neI, lenI, isBk_s, isWr_s, isBl_s, unbks_s, unwrs_s, unbls_s]; done)
      | (simp_all [apf_e, onD, rdyE, hasB, failD, cmE, btE, cmF, geI, ltI, gtI, eqRows, eqN, eqI', eqB', leN, addN, V.cnt, neI, lenI, isBk_s, isWr_s, isBl_s, unbks_s, unwrs_s, unbls_s]; omega)
      | trace_state
  · obtain ⟨d, h1, h⟩ := bind_to h
    cases h
    cases dvR_to h1
    refine ⟨rfl, by decide, [], ?_⟩
    generalize hap : apf = ap
    cbv
    repeat' first
      | exact True.intro
      | (intro (hh : _ = true); first | with_reducible exact absurd hh (bk_t (by assumption)) | cbv)
      | (intro (hh : _ = false); first | with_reducible exact absurd hh (bk_f (by assumption)) | cbv)
      | with_reducible refine And.intro ?_ ?_
      | fail
    all_goals subst hap
    all_goals first
      | (simp only [apf_e, failD, cmF, geI, eqRows, eqN, eqI', eqB', leN, addN, V.cnt, Nat.zero_add, Nat.le_refl, implies_true, *]; done)
      | (simp_all [apf_e, onD, rdyE, hasB, failD, cmE, btE, cmF, geI, ltI, gtI, eqRows, eqN, eqI', eqB', leN, addN, V.cnt, neI, lenI, isBk_s, isWr_s, isBl_s, unbks_s, unwrs_s, unbls_s]; done)
      | (simp_all [apf_e, onD, rdyE, hasB, failD, cmE, btE, cmF, geI, ltI, gtI, eqRows, eqN, eqI', eqB', leN, addN, V.cnt, neI, lenI, isBk_s, isWr_s, isBl_s, unbks_s, unwrs_s, unbls_s]; omega)
      | trace_state
  · exact h.elim
theorem s14 : Sound Try.prog [] 14 (pu 14) (fun args => cFail apf (args.map litA)) := (fn_sound rfl Try.call14 ok14 co14 env_nil vc14).lits
set_option maxRecDepth 20000 in
theorem vc19 (args : List Arg) (out : Out) (h : (cNb apf args).to out) (hok : okAs args) :
    args.length = ic19.nargs ∧ ic19.nargs ≤ ic19.ntmps ∧ ∃ A, run apf [] A ic19.body (fnQ apf args out ic19.res) (st0 [] false args) := by
  unfold cNb at h
  split at h
  · cases h
    refine ⟨rfl, by decide, [], ?_⟩
    generalize hap : apf = ap
    cbv
    repeat' first
      | exact True.intro
      | (intro (hh : _ = true); first | with_reducible exact absurd hh (bk_t (by assumption)) | cbv)
      | (intro (hh : _ = false); first | with_reducible exact absurd hh (bk_f (by assumption)) | cbv)
      | with_reducible refine And.intro ?_ ?_
      | fail
    all_goals subst hap
    all_goals first
      | (simp only [apf_e, eqI', *]; done)
      | (simp_all [apf_e, onD, rdyE, hasB, failD, cmE, btE, cmF, geI, ltI, gtI, eqRows, eqN, eqI', eqB', leN, addN, V.cnt, neI, lenI, isBk_s, isWr_s, isBl_s, unbks_s, unwrs_s, unbls_s]; done)
      | (simp_all [apf_e, onD, rdyE, hasB, failD, cmE, btE, cmF, geI, ltI, gtI, eqRows, eqN, eqI', eqB', leN, addN, V.cnt, neI, lenI, isBk_s, isWr_s, isBl_s, unbks_s, unwrs_s, unbls_s]; omega)
      | trace_state
  · obtain ⟨d, h1, h⟩ := bind_to h
    cases h
    cases dvR_to h1
    refine ⟨rfl, by decide, [], ?_⟩
    generalize hap : apf = ap
    cbv
    repeat' first
      | exact True.intro
      | (intro (hh : _ = true); first | with_reducible exact absurd hh (bk_t (by assumption)) | cbv)
      | (intro (hh : _ = false); first | with_reducible exact absurd hh (bk_f (by assumption)) | cbv)
      | with_reducible refine And.intro ?_ ?_
      | fail
    all_goals subst hap
    all_goals first
      | (simp only [apf_e, eqRows, eqN, eqI', eqB', leN, addN, V.cnt, Nat.zero_add, Nat.le_refl, implies_true, *]; done)
      | (simp_all [apf_e, onD, rdyE, hasB, failD, cmE, btE, cmF, geI, ltI, gtI, eqRows, eqN, eqI', eqB', leN, addN, V.cnt, neI, lenI, isBk_s, isWr_s, isBl_s, unbks_s, unwrs_s, unbls_s]; done)
      | (simp_all [apf_e, onD, rdyE, hasB, failD, cmE, btE, cmF, geI, ltI, gtI, eqRows, eqN, eqI', eqB', leN, addN, V.cnt, neI, lenI, isBk_s, isWr_s, isBl_s, unbks_s, unwrs_s, unbls_s]; omega)
      | trace_state
  · exact h.elim
theorem s19 : Sound Try.prog [] 19 (pu 19) (fun args => cNb apf (args.map litA)) := (fn_sound rfl Try.call19 ok19 co19 env_nil vc19).lits
set_option maxRecDepth 20000 in
theorem vc21 (args : List Arg) (out : Out) (h : (cStN apf args).to out) (hok : okAs args) :
    args.length = ic21.nargs ∧ ic21.nargs ≤ ic21.ntmps ∧ ∃ A, run apf [] A ic21.body (fnQ apf args out ic21.res) (st0 [] false args) := by
  unfold cStN at h
  split at h
  · cases h
    refine ⟨rfl, by decide, [], ?_⟩
    generalize hap : apf = ap
    cbv
    repeat' first
      | exact True.intro
      | (intro (hh : _ = true); first | with_reducible exact absurd hh (bk_t (by assumption)) | cbv)
      | (intro (hh : _ = false); first | with_reducible exact absurd hh (bk_f (by assumption)) | cbv)
      | with_reducible refine And.intro ?_ ?_
      | fail
    all_goals subst hap
    all_goals first
      | (simp only [apf_e, eqI', *]; done)
      | (simp_all [apf_e, onD, rdyE, hasB, failD, cmE, btE, cmF, geI, ltI, gtI, eqRows, eqN, eqI', eqB', leN, addN, V.cnt, neI, lenI, isBk_s, isWr_s, isBl_s, unbks_s, unwrs_s, unbls_s]; done)
      | (simp_all [apf_e, onD, rdyE, hasB, failD, cmE, btE, cmF, geI, ltI, gtI, eqRows, eqN, eqI', eqB', leN, addN, V.cnt, neI, lenI, isBk_s, isWr_s, isBl_s, unbks_s, unwrs_s, unbls_s]; omega)
      | trace_state
  · obtain ⟨d, h1, h⟩ := bind_to h
    cases h
    cases dvR_to h1
    refine ⟨rfl, by decide, [], ?_⟩
    generalize hap : apf = ap
    cbv
    repeat' first
      | exact True.intro
      | (intro (hh : _ = true); first | with_reducible exact absurd hh (bk_t (by assumption)) | cbv)
      | (intro (hh : _ = false); first | with_reducible exact absurd hh (bk_f (by assumption)) | cbv)
      | with_reducible refine And.intro ?_ ?_
      | fail
    all_goals subst hap
    all_goals first
      | (simp only [apf_e, eqRows, eqN, eqI', eqB', leN, addN, V.cnt, Nat.zero_add, Nat.le_refl, implies_true, *]; done)
      | (simp_all [apf_e, onD, rdyE, hasB, failD, cmE, btE, cmF, geI, ltI, gtI, eqRows, eqN, eqI', eqB', leN, addN, V.cnt, neI, lenI, isBk_s, isWr_s, isBl_s, unbks_s, unwrs_s, unbls_s]; done)
      | (simp_all [apf_e, onD, rdyE, hasB, failD, cmE, btE, cmF, geI, ltI, gtI, eqRows, eqN, eqI', eqB', leN, addN, V.cnt, neI, lenI, isBk_s, isWr_s, isBl_s, unbks_s, unwrs_s, unbls_s]; omega)
      | trace_state
  · exact h.elim
theorem s21 : Sound Try.prog [] 21 (pu 21) (fun args => cStN apf (args.map litA)) := (fn_sound rfl Try.call21 ok21 co21 env_nil vc21).lits
set_option maxRecDepth 20000 in
theorem vc24 (args : List Arg) (out : Out) (h : (cCm apf args).to out) (hok : okAs args) :
    args.length = ic24.nargs ∧ ic24.nargs ≤ ic24.ntmps ∧ ∃ A, run apf [(30, fun args => cRdy apf (args.map litA))] A ic24.body (fnQ apf args out ic24.res) (st0 [] false args) := by
  unfold cCm at h
  split at h
  · cases h
    refine ⟨rfl, by decide, [], ?_⟩
    generalize hap : apf = ap
    cbv
    repeat' first
      | exact True.intro
      | (intro (hh : _ = true); first | with_reducible exact absurd hh (bk_t (by assumption)) | cbv)
      | (intro (hh : _ = false); first | with_reducible exact absurd hh (bk_f (by assumption)) | cbv)
      | with_reducible refine And.intro ?_ ?_
      | fail
    all_goals subst hap
    all_goals first
      | (simp only [apf_e, eqI', *]; done)
      | (simp_all [apf_e, cmF, neI]; done)
      | (simp_all [apf_e, onD, rdyE, hasB, failD, cmE, btE, cmF, geI, ltI, gtI, eqRows, eqN, eqI', eqB', leN, addN, V.cnt, neI, lenI, isBk_s, isWr_s, isBl_s, unbks_s, unwrs_s, unbls_s]; omega)
      | trace_state
  · obtain ⟨d, h1, h⟩ := bind_to h
    cases h
    cases dvR_to h1
    refine ⟨rfl, by decide, [], ?_⟩
    generalize hap : apf = ap
    cbv
    repeat' first
      | exact True.intro
      | (intro (hh : _ = true); first | with_reducible exact absurd hh (bk_t (by assumption)) | cbv)
      | (intro (hh : _ = false); first | with_reducible exact absurd hh (bk_f (by assumption)) | cbv)
      | with_reducible refine And.intro ?_ ?_
      | fail
    all_goals subst hap
    all_goals first
      | (simp only [apf_e, rdyE, cmE, eqRows, eqN, eqI', eqB', leN, addN, V.cnt, isBk_s, isWr_s, isBl_s, unbks_s, unwrs_s, unbls_s, Nat.zero_add, Nat.le_refl, implies_true, *]; done)
      | (simp_all [apf_e, rdyE, cmE, cmF, eqI', neI, unbks_s, unwrs_s, unbls_s]; done)
      | (simp_all [apf_e, onD, rdyE, hasB, failD, cmE, btE, cmF, geI, ltI, gtI, eqRows, eqN, eqI', eqB', leN, addN, V.cnt, neI, lenI, isBk_s, isWr_s, isBl_s, unbks_s, unwrs_s, unbls_s]; omega)
      | trace_state
  · exact h.elim
theorem s24 : Sound Try.prog [] 24 (pu 24) (fun args => cCm apf (args.map litA)) := (fn_sound rfl Try.call24 ok24 co24 (env_cons s30 env_nil) vc24).lits
set_option maxRecDepth 20000 in
theorem vc25 (args : List Arg) (out : Out) (h : (cBt apf args).to out) (hok : okAs args) :
    args.length = ic25.nargs ∧ ic25.nargs ≤ ic25.ntmps ∧ ∃ A, run apf [(30, fun args => cRdy apf (args.map litA))] A ic25.body (fnQ apf args out ic25.res) (st0 [] false args) := by
  unfold cBt at h
  split at h
  · cases h
    refine ⟨rfl, by decide, [], ?_⟩
    generalize hap : apf = ap
    cbv
    repeat' first
      | exact True.intro
      | (intro (hh : _ = true); first | with_reducible exact absurd hh (bk_t (by assumption)) | cbv)
      | (intro (hh : _ = false); first | with_reducible exact absurd hh (bk_f (by assumption)) | cbv)
      | with_reducible refine And.intro ?_ ?_
      | fail
    all_goals subst hap
    all_goals first
      | (simp only [apf_e, eqI', *]; done)
      | (simp_all [apf_e, cmF, neI]; done)
      | (simp_all [apf_e, onD, rdyE, hasB, failD, cmE, btE, cmF, geI, ltI, gtI, eqRows, eqN, eqI', eqB', leN, addN, V.cnt, neI, lenI, isBk_s, isWr_s, isBl_s, unbks_s, unwrs_s, unbls_s]; omega)
      | trace_state
  · obtain ⟨d, h1, h⟩ := bind_to h
    cases h
    cases dvR_to h1
    refine ⟨rfl, by decide, [], ?_⟩
    generalize hap : apf = ap
    cbv
    repeat' first
      | exact True.intro
      | (intro (hh : _ = true); first | with_reducible exact absurd hh (bk_t (by assumption)) | cbv)
      | (intro (hh : _ = false); first | with_reducible exact absurd hh (bk_f (by assumption)) | cbv)
      | with_reducible refine And.intro ?_ ?_
      | fail
    all_goals subst hap
    all_goals first
      | (simp only [apf_e, rdyE, btE, eqRows, eqN, eqI', eqB', leN, addN, V.cnt, isBk_s, isWr_s, isBl_s, unbks_s, unwrs_s, unbls_s, Nat.zero_add, Nat.le_refl, implies_true, *]; done)
      | (simp_all [apf_e, rdyE, btE, cmF, eqI', neI, unbks_s, unwrs_s, unbls_s]; done)
      | (simp_all [apf_e, onD, rdyE, hasB, failD, cmE, btE, cmF, geI, ltI, gtI, eqRows, eqN, eqI', eqB', leN, addN, V.cnt, neI, lenI, isBk_s, isWr_s, isBl_s, unbks_s, unwrs_s, unbls_s]; omega)
      | trace_state
  · exact h.elim
theorem s25 : Sound Try.prog [] 25 (pu 25) (fun args => cBt apf (args.map litA)) := (fn_sound rfl Try.call25 ok25 co25 (env_cons s30 env_nil) vc25).lits
end Go.Cx.Rd
/- CxdS2 -/
namespace Go.Cx.Rd
open Go Go.Cx Go.Proofs
/-- the rows of refusals have a place for each block, and the writes taken are of blocks that there are -/
def wfD (d : DvP) : Prop := d.nr = d.nb ∧ d.nw = d.nb ∧ (∀ j, j < d.nt → 0 ≤ (d.T j).1 ∧ (d.T j).1 < d.nb) ∧ d.nb ≤ 1000000 ∧ d.nt ≤ 1000000 ∧ d.ng ≤ 1000000
def faultD (d : DvP) (b : Int) (r w : Bool) : DvP := if hasB d b then { d with rd := upd d.rd b.toNat r, wr := upd d.wr b.toNat w } else d
def hasE (d : DvP) (b : Int) : Int := if hasB d b then 0 else 2
def cFault (ap : AP) : Ctr
  | [.v .nilp, .v (.int .i64 _), .v (.bool _), .v (.bool _)] => .ok ⟨.int .i64 1, [], []⟩
  | [.o c none, .v (.int .i64 b), .v (.bool r), .v (.bool w)] => (dvR ap c).bind fun d => .chk (ap _ _ wfD d) <| .ok ⟨.int .i64 (ap _ _ (ap _ _ hasE d) b), [dvA ap (ap _ _ (ap _ _ (ap _ _ (ap _ _ faultD d) b) r) w)], []⟩
  | _ => .fail 411
theorem hasB_t {d : DvP} {b : Int} : hasB d b = true ↔ 0 ≤ b ∧ b < d.nb := by simp [hasB]
theorem bl_upd {x : Nat → Bool} {i : Nat} {b : Bool} {n : Nat} : eqRows n (blV apf (upd x i b)) (updR (blV apf x) i (.bool b)) := by
  intro j _
  by_cases hj : j = i
  · simp [blV, updR, upd, hj, apf_e]
  · simp [blV, updR, upd, hj, apf_e]
set_option maxRecDepth 20000 in
theorem vc12 (args : List Arg) (out : Out) (h : (cFault apf args).to out) (hok : okAs args) :
    args.length = ic12.nargs ∧ ic12.nargs ≤ ic12.ntmps ∧ ∃ A, run apf [(31, fun args => cHas apf (args.map litA))] A ic12.body (fnQ apf args out ic12.res) (st0 [] false args) := by
  unfold cFault at h
  split at h
  · cases h
    refine ⟨rfl, by decide, [], ?_⟩
    generalize hap : apf = ap
    cbv
    repeat' first
      | exact True.intro
      | (intro (hh : _ = true); first | with_reducible exact absurd hh (bk_t (by assumption)) | cbv)
      | (intro (hh : _ = false); first | with_reducible exact absurd hh (bk_f (by assumption)) | cbv)
      | with_reducible refine And.intro ?_ ?_
      | fail
    all_goals subst hap
    all_goals first
      | (simp only [apf_e, eqI', *]; done)
      | (simp_all [apf_e, onD, rdyE, hasB, failD, cmE, btE, cmF, geI, ltI, gtI, eqRows, eqN, eqI', eqB', leN, addN, V.cnt, neI, lenI, isBk_s, isWr_s, isBl_s, unbks_s, unwrs_s, unbls_s]; done)
      | (simp_all [apf_e, onD, rdyE, hasB, failD, cmE, btE, cmF, geI, ltI, gtI, eqRows, eqN, eqI', eqB', leN, addN, V.cnt, neI, lenI, isBk_s, isWr_s, isBl_s, unbks_s, unwrs_s, unbls_s]; omega)
  · rename_i c b r w
    obtain ⟨d, h1, hw, h⟩ := bind_to h
    cases h
    cases dvR_to h1
    refine ⟨rfl, by decide, [], ?_⟩
    generalize hap : apf = ap
    cbv
    repeat' first
      | exact True.intro
      | (intro (hh : _ = true); first | with_reducible exact absurd hh (bk_t (by assumption)) | cbv)
      | (intro (hh : _ = false); first | with_reducible exact absurd hh (bk_f (by assumption)) | cbv)
      | with_reducible refine And.intro ?_ ?_
      | fail
    all_goals subst hap
    all_goals simp only [apf_e, unbks_s, unwrs_s, unbls_s, dv_eta, isBk_s, isWr_s, isBl_s, notB] at *
    all_goals obtain ⟨w1, w2, _⟩ := hw
    all_goals first
      | (simp only [eqN, leN, addN, V.cnt, Nat.zero_add, Nat.le_refl]; done)
      | (have hB : hasB d b = false := by simp_all
         simp only [faultD, hasE, hB, if_false, Bool.false_eq_true, eqI', eqN, eqB', eqRows, addN, Nat.zero_add, implies_true]
         done)
      | (have hB : hasB d b = true := by simp_all
         obtain ⟨q1, q2⟩ := hasB_t.1 hB
         try simp only [faultD, hasE, hB, if_true, eqI', eqN, eqB', ltN, addN, natI, Nat.zero_add]
         first
           | done
           | omega
           | exact bl_upd
           | exact fun _ _ => rfl)
      | trace_state
  · exact h.elim
/-- what is taken is handed out -/
def takenD (d : DvP) : DvP := { d with ng := 0 }
def cTaken (ap : AP) : Ctr
  | [.v .nilp] => .ok ⟨.nsl, [], []⟩
  | [.o c none] => (dvR ap c).bind fun d => .ok ⟨.sl 0 [] 0 (ap _ _ DvP.ng d) 2 none, [dvA ap (ap _ _ takenD d)], [.rows 2 (ap _ _ DvP.ng d) (wrV ap (ap _ _ DvP.G d))]⟩
  | _ => .fail 412
set_option maxRecDepth 20000 in
theorem vc29 (args : List Arg) (out : Out) (h : (cTaken apf args).to out) (hok : okAs args) :
    args.length = ic29.nargs ∧ ic29.nargs ≤ ic29.ntmps ∧ ∃ A, run apf [] A ic29.body (fnQ apf args out ic29.res) (st0 [] false args) := by
  unfold cTaken at h
  split at h
  · cases h
    refine ⟨rfl, by decide, [], ?_⟩
    generalize hap : apf = ap
    cbv
    repeat' first
      | exact True.intro
      | (intro (hh : _ = true); first | with_reducible exact absurd hh (bk_t (by assumption)) | cbv)
      | (intro (hh : _ = false); first | with_reducible exact absurd hh (bk_f (by assumption)) | cbv)
      | with_reducible refine And.intro ?_ ?_
      | fail
    all_goals subst hap
    all_goals first
      | (simp only [apf_e, onD, rdyE, hasB, failD, cmE, btE, cmF, geI, ltI, gtI, eqRows, eqN, eqI', eqB', leN, addN, V.cnt, isBk_s, isWr_s, isBl_s, unbks_s, unwrs_s, unbls_s, Nat.zero_add, Nat.le_refl, implies_true, Bool.false_eq_true, if_false, if_true, *]; done)
      | (simp_all [apf_e, onD, rdyE, hasB, failD, cmE, btE, cmF, geI, ltI, gtI, eqRows, eqN, eqI', eqB', leN, addN, V.cnt, neI, lenI, isBk_s, isWr_s, isBl_s, unbks_s, unwrs_s, unbls_s]; done)
      | (simp_all [apf_e, onD, rdyE, hasB, failD, cmE, btE, cmF, geI, ltI, gtI, eqRows, eqN, eqI', eqB', leN, addN, V.cnt, neI, lenI, isBk_s, isWr_s, isBl_s, unbks_s, unwrs_s, unbls_s]; omega)
  · obtain ⟨d, h1, h⟩ := bind_to h
    cases h
    cases dvR_to h1
    refine ⟨rfl, by decide, [], ?_⟩
    generalize hap : apf = ap
    cbv
    repeat' first
      | exact True.intro
      | (intro (hh : _ = true); first | with_reducible exact absurd hh (bk_t (by assumption)) | cbv)
      | (intro (hh : _ = false); first | with_reducible exact absurd hh (bk_f (by assumption)) | cbv)
      | with_reducible refine And.intro ?_ ?_
      | fail
    all_goals subst hap
    all_goals simp only [apf_e, takenD, eqI', eqN, eqB', eqRows, leN, addN, V.cnt, Nat.zero_add, Nat.le_refl, implies_true]
    all_goals trace_state
  · exact h.elim
theorem s12 : Sound Try.prog [] 12 (pu 12) (fun args => cFault apf (args.map litA)) := (fn_sound rfl Try.call12 ok12 co12 (env_cons s31 env_nil) vc12).lits
theorem s29 : Sound Try.prog [] 29 (pu 29) (fun args => cTaken apf (args.map litA)) := (fn_sound rfl Try.call29 ok29 co29 env_nil vc29).lits
end Go.Cx.Rd
/- CxdS3 -/
namespace Go.Cx.Rd
open Go Go.Cx Go.Proofs
/-- 'slices.Clone' of bytes -/
def cClone (ap : AP) : Ctr
  | [.b n 1 (.ints .u8 _ l)] => .chk (ap _ _ (ap _ _ ltN 0) n) <| .chk (ap _ _ (ap _ _ leN n) 140737488355328) (.ok ⟨.sl 0 [] 0 n 1 none, [], [.ints .u8 n l]⟩)
  | _ => .fail 300
theorem vc33 (args : List Arg) (out : Out) (h : (cClone apf args).to out) (hok : okAs args) :
    args.length = ic33.nargs ∧ ic33.nargs ≤ ic33.ntmps ∧ ∃ A, run apf [] A ic33.body (fnQ apf args out ic33.res) (st0 [] true args) := by
  unfold cClone at h
  split at h
  · rename_i n m l
    obtain ⟨h1, h2, h⟩ := h
    cases h
    have h1 : 0 < n := h1
    have h2 : n ≤ 140737488355328 := h2
    obtain ⟨⟨hn, ⟨rfl, _⟩, hl⟩, _⟩ := hok
    refine ⟨rfl, by decide, [], ?_⟩
    have sl : subL l 0 m = l := subL_all (Nat.le_of_eq hl.1)
    generalize hap : apf = ap
    cbv
    and_intros
    all_goals subst hap
    all_goals try simp only [apf, ltN, leN, addN, appN, V.cnt, sl, eqL', eqN, Nat.zero_add]
    all_goals first
      | exact True.intro
      | omega
  · exact h.elim
theorem s33 : Sound Try.prog [] 33 (pu 33) (cClone apf) := fn_sound rfl Try.call33 ok33 co33 env_nil vc33
/-- .. for good -/
def cCloneF (ap : AP) : Ctr
  | [.b n 1 (.ints .u8 _ l)] => .chk (ap _ _ (ap _ _ ltN 0) n) <| .chk (ap _ _ (ap _ _ leN n) 140737488355328) (.ok ⟨.dsl n 1 (.ints .u8 n l), [], []⟩)
  | _ => .fail 300
theorem s33f : Sound Try.prog [] 33 (pu 33) (cCloneF apf) := s33.freeze fun args out' h => by
  unfold cCloneF at h
  split at h
  · rename_i n m l
    obtain ⟨h1, h2, h⟩ := h
    cases h
    exact ⟨⟨.sl 0 [] 0 n 1 none, [], [.ints .u8 n l]⟩, ⟨h1, h2, rfl⟩, by show 1 ≤ 1000; decide, rfl, rfl, by simp [V.clo, V.noown], by simp, rfl, rfl, _, rfl, ⟨rfl, rfl⟩, rfl⟩
  · exact h.elim
/-- a device's content with its slices as handles -/
def dvO (ap : AP) (k : Nat) (d : DvP) : V :=
  .cat 1 11 (.sl k [] 0 (ap _ _ DvP.nb d) 1 none)
  (.cat 1 10 (.sl (k + 1) [] 0 (ap _ _ DvP.nt d) 2 none)
  (.cat 1 9 (.sl (k + 2) [] 0 (ap _ _ DvP.ng d) 2 none)
  (.cat 1 8 (.int .u64 (ap _ _ DvP.cm d))
  (.cat 1 7 (.int .u64 (ap _ _ DvP.bt d))
  (.cat 1 6 (.bool (ap _ _ DvP.off d))
  (.cat 3 3 (.cat 1 2 (.bool (ap _ _ DvP.ps d)) (.cat 1 1 (.int .i64 (ap _ _ DvP.pa d)) (.int .u64 (ap _ _ DvP.pk d))))
  (.cat 1 2 (.sl (k + 3) [] 0 (ap _ _ DvP.nr d) 1 none)
  (.cat 1 1 (.sl (k + 4) [] 0 (ap _ _ DvP.nw d) 1 none)
  (.int .i64 (ap _ _ DvP.st d))))))))))
def dvHs (ap : AP) (k : Nat) (d : DvP) : List (Nat × Blk) := [
  (100000, ⟨.own, dvO ap k d⟩),
  (k, ⟨.own, .rows 1 (ap _ _ DvP.nb d) (bkV ap (ap _ _ DvP.L d))⟩),
  (k + 1, ⟨.own, .rows 2 (ap _ _ DvP.nt d) (wrV ap (ap _ _ DvP.T d))⟩),
  (k + 2, ⟨.own, .rows 2 (ap _ _ DvP.ng d) (wrV ap (ap _ _ DvP.G d))⟩),
  (k + 3, ⟨.own, .rows 1 (ap _ _ DvP.nr d) (blV ap (ap _ _ DvP.rd d))⟩),
  (k + 4, ⟨.own, .rows 1 (ap _ _ DvP.nw d) (blV ap (ap _ _ DvP.wr d))⟩)]
/-- what the first i of the writes taken say of a block -/
def contI (d : DvP) (b : Int) : Nat → List Int
  | 0 => d.L b.toNat
  | i + 1 => if (d.T i).1 = b then (d.T i).2 else contI d b i
def contD (d : DvP) (b : Int) : List Int := contI d b d.nt
def prN (i : Nat) : Nat := i - 1
def prI (i : Nat) : Int := (i : Int) - 1
def isHas (d : DvP) (b : Int) : Prop := hasB d b = true
theorem has_lt {d : DvP} {b : Int} (h : isHas d b) : ltN (natI b) d.nb := by
  obtain ⟨h1, h2⟩ := hasB_t.1 h
  show b.toNat < d.nb
  omega
def cCont (ap : AP) : Ctr
  | [.o c none, .v (.int .i64 b)] => (dvR ap c).bind fun d => .chk (ap _ _ wfD d) <| .chk (ap _ _ (ap _ _ isHas d) b) <| .ok ⟨.dsl 512 1 (.ints .u8 512 (ap _ _ (ap _ _ contD d) b)), [dvA ap d], []⟩
  | _ => .fail 420
def invC (d : DvP) (b : Int) (i : Nat) : Prop := i ≤ d.nt ∧ contI d b i = contD d b
def aCont (ap : AP) (d : DvP) (b : Int) : List (Nat × Ann) := [
  (0, .inv Nat (fun i => ⟨[(0, .ptr 100000 []), (1, .int .i64 b), (5, .int .i64 (ap _ _ prI i))], dvHs ap 9000 d, []⟩)
    (fun i => ap _ _ (ap _ _ (ap _ _ invC d) b) i) (fun i => i))]
theorem pr_first {n : Nat} (h : n ≤ 1000000) : prI n = arF BinOp.sub IntKind.i64 (lenI n) 1 := by
  show (n : Int) - 1 = wsub .i64 (n : Int) 1
  rw [wsub_i64 (by omega)]
theorem pr_next {d : DvP} {b : Int} {i : Nat} (hi : invC d b i) (h : d.nt ≤ 1000000) (hg : 0 ≤ prI i) : prI (prN i) = arF BinOp.sub IntKind.i64 (prI i) 1 := by
  have := hi.1
  show ((i - 1 : Nat) : Int) - 1 = wsub .i64 ((i : Int) - 1) 1
  have hg : 0 ≤ (i : Int) - 1 := hg
  rw [wsub_i64 (by omega)]
  omega
theorem pr_lt {d : DvP} {b : Int} {i : Nat} (hi : invC d b i) (hg : 0 ≤ prI i) : ltN (natI (prI i)) d.nt := by
  have := hi.1
  have hg : 0 ≤ (i : Int) - 1 := hg
  show ((i : Int) - 1).toNat < d.nt
  omega
theorem pn_lt {i : Nat} (hg : 0 ≤ prI i) : prN i < i := by
  have hg : 0 ≤ (i : Int) - 1 := hg
  show i - 1 < i
  omega
theorem cont_suc {d : DvP} {b : Int} {i : Nat} (hg : 0 ≤ prI i) : contI d b i = if (d.T (natI (prI i))).1 = b then (d.T (natI (prI i))).2 else contI d b (prN i) := by
  have hg : 0 ≤ (i : Int) - 1 := hg
  obtain ⟨k, rfl⟩ : ∃ k, i = k + 1 := ⟨i - 1, by omega⟩
  have e : natI (prI (k + 1)) = k := by show (((k + 1 : Nat) : Int) - 1).toNat = k; omega
  rw [e]
  rfl
theorem cont_hit {d : DvP} {b : Int} {i : Nat} (hi : invC d b i) (hg : 0 ≤ prI i) (he : (d.T (natI (prI i))).1 = b) : contD d b = (d.T (natI (prI i))).2 := by
  rw [← hi.2, cont_suc hg, if_pos he]
theorem inv_next {d : DvP} {b : Int} {i : Nat} (hi : invC d b i) (hg : 0 ≤ prI i) (he : (d.T (natI (prI i))).1 ≠ b) : invC d b (prN i) := by
  refine ⟨Nat.le_trans (Nat.le_of_lt (pn_lt hg)) hi.1, ?_⟩
  rw [← hi.2, cont_suc hg, if_neg he]
theorem cont_end {d : DvP} {b : Int} {i : Nat} (hi : invC d b i) (hg : ¬ 0 ≤ prI i) : contD d b = d.L (natI b) := by
  have hg : ¬ 0 ≤ (i : Int) - 1 := hg
  obtain rfl : i = 0 := by omega
  exact hi.2.symm
set_option maxRecDepth 20000 in
theorem vc34 (args : List Arg) (out : Out) (h : (cCont apf args).to out) (hok : okAs args) :
    args.length = ic34.nargs ∧ ic34.nargs ≤ ic34.ntmps ∧ ∃ A, run apf [] A ic34.body (fnQ apf args out ic34.res) (st0 [] false args) := by
  unfold cCont at h
  split at h
  · rename_i c b
    obtain ⟨d, h1, hw, hb, h⟩ := bind_to h
    cases h
    cases dvR_to h1
    obtain ⟨w1, w2, w3, w4, w5, w6⟩ := hw
    obtain ⟨q1, q2⟩ := hasB_t.1 hb
    refine ⟨rfl, by decide, aCont apf d b, ?_⟩
    have hP : apf _ _ (apf _ _ (apf _ _ invC d) b) (apf _ _ DvP.nt d) := ⟨Nat.le_refl _, rfl⟩
    generalize hap : apf = ap at hP ⊢
    cbv
    repeat' first
      | exact True.intro
      | with_reducible refine And.intro ?_ ?_
      | (refine ⟨ap _ _ DvP.nt d, hP, ?_⟩; cbv)
      | fail
    all_goals first
      | (intro (i : Nat) hi k1 k2
         clear k1 k2
         cbv
         repeat' first
           | exact True.intro
           | (intro (hh : _ = true); first | with_reducible exact absurd hh (bk_t (by assumption)) | cbv)
           | (intro (hh : _ = false); first | with_reducible exact absurd hh (bk_f (by assumption)) | cbv)
           | with_reducible refine And.intro ?_ ?_
           | (refine ⟨ap _ _ prN i, ?_, (?_ : _ < _), ?_⟩; rotate_left 2; try cbv))
      | skip
    all_goals subst hap
    all_goals try simp only [apf_e, eqRows, eqN, eqI', eqB', leN, addN, V.cnt, Nat.zero_add, Nat.le_refl, implies_true]
    all_goals simp only [apf_e, cmF, geI, eqI, addN, Nat.zero_add, decide_eq_true_eq, decide_eq_false_iff_not] at *
    all_goals first
      | exact pr_first w5
      | with_reducible assumption
      | exact pr_next (by assumption) w5 (by assumption)
      | exact pr_lt (by assumption) (by assumption)
      | exact pn_lt (by assumption)
      | exact cont_hit (by assumption) (by assumption) (by assumption)
      | exact inv_next (by assumption) (by assumption) (by assumption)
      | exact cont_end (by assumption) (by assumption)
      | exact has_lt hb
      | trace_state
  · exact h.elim
theorem s34 : Sound Try.prog [] 34 (pu 34) (fun args => cCont apf (args.map litA)) := (fn_sound rfl Try.call34 ok34 co34 env_nil vc34).lits
end Go.Cx.Rd
/- CxdS4 -/
namespace Go.Cx.Rd
open Go Go.Cx Go.Proofs
/-- does a cut keep the write at this place? -/
def bitK (k : Int) (i : Nat) : Bool := eqI (band .u64 (bshr .u64 k (wrem .i64 i 64)) 1) 1
/-- the first i of the writes are laid on the blocks, if they are chosen -/
def layI (T : Nat → Int × List Int) (s : Nat → Bool) (L : Nat → List Int) : Nat → Nat → List Int
  | 0 => L
  | i + 1 => if s i then upd (layI T s L i) (T i).1.toNat (T i).2 else layI T s L i
def layD (d : DvP) (s : Nat → Bool) (i : Nat) : DvP := { d with L := layI d.T s d.L i }
def cutD (d : DvP) (k : Int) : DvP := { d with L := layI d.T (bitK k) d.L d.nt, nt := 0, ps := false, pa := 0, pk := 0, off := true }
theorem bk_upd {x : Nat → List Int} {i : Nat} {b : List Int} {n : Nat} : eqRows n (bkV apf (upd x i b)) (updR (bkV apf x) i (.dsl 512 1 (.ints .u8 512 b))) := by
  intro j _
  by_cases hj : j = i
  · simp [bkV, updR, upd, hj, apf_e]
  · simp [bkV, updR, upd, hj, apf_e]
theorem lay_yes {T : Nat → Int × List Int} {s : Nat → Bool} {L : Nat → List Int} {i : Nat} (h : s i = true) : layI T s L (i + 1) = upd (layI T s L i) (T i).1.toNat (T i).2 := by rw [layI, if_pos h]
theorem lay_no {T : Nat → Int × List Int} {s : Nat → Bool} {L : Nat → List Int} {i : Nat} (h : s i = false) : layI T s L (i + 1) = layI T s L i := by rw [layI, h]; rfl
def sucN (i : Nat) : Nat := i + 1
theorem len_suc {i n : Nat} (h : i < n) (hn : n ≤ 1000000) : lenI (sucN i) = arF BinOp.add IntKind.i64 (lenI i) 1 := (inc_i64 (i := i) (by omega)).symm
theorem lay_rows_yes {T : Nat → Int × List Int} {s : Nat → Bool} {L : Nat → List Int} {i n : Nat} (h : s i = true) : eqRows n (bkV apf (layI T s L (sucN i))) (updR (bkV apf (layI T s L i)) (natI (T (natI (lenI i))).1) (V.dsl 512 1 (V.ints IntKind.u8 512 (T (natI (lenI i))).2))) := by
  rw [show sucN i = i + 1 from rfl, lay_yes h]
  exact bk_upd
theorem lay_rows_no {T : Nat → Int × List Int} {s : Nat → Bool} {L : Nat → List Int} {i n : Nat} (h : s i = false) : eqRows n (bkV apf (layI T s L (sucN i))) (bkV apf (layI T s L i)) := by
  rw [show sucN i = i + 1 from rfl, lay_no h]
  exact fun _ _ => rfl
theorem idx_lt {x : Int} {n : Nat} (h : 0 ≤ x ∧ x < n) : ltN (natI x) n := by
  show x.toNat < n
  omega
theorem sub_lt' {i n : Nat} (h : i < n) : subN n (sucN i) < subN n i := by
  show n - (i + 1) < n - i
  omega
theorem rem_nn {i : Nat} : 0 ≤ arF BinOp.rem IntKind.i64 (lenI i) 64 := by
  show 0 ≤ wrem .i64 (i : Int) ((64 : Nat) : Int)
  rw [rem_i64]
  exact Int.natCast_nonneg _
theorem cut_rows {d : DvP} {k : Int} {i n : Nat} (he : i = d.nt) : eqRows n (bkV apf (cutD d k).L) (bkV apf (layI d.T (bitK k) d.L i)) := by
  rw [he]
  exact fun _ _ => rfl
def cCut (ap : AP) : Ctr
  | [.o c none, .v (.int .u64 k)] => (dvR ap c).bind fun d => .chk (ap _ _ wfD d) <| .ok ⟨.tnil, [dvA ap (ap _ _ (ap _ _ cutD d) k)], []⟩
  | _ => .fail 430
def aCut (ap : AP) (d : DvP) (k : Int) : List (Nat × Ann) := [
  (0, .inv Nat (fun i => ⟨[(0, .ptr 100000 []), (1, .int .u64 k), (9, .sl 9001 [] 0 (ap _ _ DvP.nt d) 2 none), (10, .int .i64 (ap _ _ lenI (ap _ _ DvP.nt d))), (11, .int .i64 (ap _ _ lenI i))],
      dvHs ap 9000 (ap _ _ (ap _ _ (ap _ _ layD d) (ap _ _ bitK k)) i), []⟩)
    (fun i => ap _ _ (ap _ _ leN i) (ap _ _ DvP.nt d)) (fun i => ap _ _ (ap _ _ subN (ap _ _ DvP.nt d)) i))]
set_option maxRecDepth 20000 in
theorem vc35 (args : List Arg) (out : Out) (h : (cCut apf args).to out) (hok : okAs args) :
    args.length = ic35.nargs ∧ ic35.nargs ≤ ic35.ntmps ∧ ∃ A, run apf [] A ic35.body (fnQ apf args out ic35.res) (st0 [] false args) := by
  unfold cCut at h
  split at h
  · rename_i c k
    obtain ⟨d, h1, hw, h⟩ := bind_to h
    cases h
    cases dvR_to h1
    obtain ⟨w1, w2, w3, w4, w5, w6⟩ := hw
    clear hok h
    refine ⟨rfl, by decide, aCut apf d k, ?_⟩
    have hP : apf _ _ (apf _ _ leN 0) (apf _ _ DvP.nt d) := Nat.zero_le _
    generalize hap : apf = ap at hP ⊢
    cbv
    repeat' first
      | exact True.intro
      | with_reducible refine And.intro ?_ ?_
      | (refine ⟨0, hP, ?_⟩; cbv)
      | fail
    all_goals first
      | (intro (i : Nat) hi k1 k2
         clear k1 k2
         cbv
         repeat' first
           | exact True.intro
           | (intro (hh : _ = true); first | with_reducible exact absurd hh (bk_t (by assumption)) | cbv)
           | (intro (hh : _ = false); first | with_reducible exact absurd hh (bk_f (by assumption)) | cbv)
           | with_reducible refine And.intro ?_ ?_
           | (refine ⟨ap _ _ sucN i, ?_, (?_ : _ < _), ?_⟩; rotate_left 2; try cbv))
      | skip
    all_goals subst hap
    all_goals simp only [apf_e, cmF, ltI, eqI, layD, addN, Nat.zero_add, decide_eq_true_eq, decide_eq_false_iff_not] at *
    all_goals try simp only [eqRows, eqN, eqI', eqB', leN, V.cnt, Nat.le_refl, implies_true]
    all_goals first
      | rfl
      | exact fun _ _ => rfl
      | exact Int.natCast_nonneg _
      | (have hlt : i < d.nt := Int.ofNat_lt.1 (by assumption)
         first
           | exact hlt
           | exact rem_nn
           | exact (w3 i hlt).1
           | exact idx_lt (w3 i hlt)
           | exact len_suc hlt w5
           | exact sub_lt' hlt
           | (have hb : bitK k i = true := decide_eq_true (by assumption)
              exact lay_rows_yes hb)
           | (have hb : bitK k i = false := decide_eq_false (by assumption)
              exact lay_rows_no hb))
      | (have he : i = d.nt := Nat.le_antisymm hi (Nat.le_of_not_lt fun h => absurd (Int.ofNat_lt.2 h) (by assumption))
         exact cut_rows he)
      | trace_state
  · exact h.elim
theorem s35 : Sound Try.prog [] 35 (pu 35) (fun args => cCut apf (args.map litA)) := (fn_sound rfl Try.call35 ok35 co35 env_nil vc35).lits
end Go.Cx.Rd
/- CxdSC -/
namespace Go.Cx.Rd
open Go Go.Cx Go.Proofs
def newB (n c b : Int) : Bool := ltI n 1 || gtI n 256 || gtI c 281474976710655 || gtI b 281474976710655
def zeroL (_ : Nat) : List Int := zerosI 512
def zeroW (_ : Nat) : Int × List Int := (0, zerosI 512)
def noB (_ : Nat) : Bool := false
def newD (n c b : Int) : DvP := ⟨n.toNat, zeroL, 0, zeroW, 0, zeroW, c, b, false, false, 0, 0, n.toNat, noB, n.toNat, noB, 0⟩
def newOk (n c b : Int) : Prop := newB n c b = false
/-- .. where it is made -/
def cNewY (ap : AP) : Ctr
  | [.v (.int .i64 n), .v (.int .u64 c), .v (.int .u64 b)] => .chk (ap _ _ (ap _ _ (ap _ _ newOk n) c) b) <|
      .ok ⟨.tcons (.ptr 0 []) (.tcons (.int .i64 0) .tnil), [], [dvA ap (ap _ _ (ap _ _ (ap _ _ newD n) c) b)]⟩
  | _ => .fail 491
inductive NSt where
  | z | s (i : Nat)
def nLt (n : Int) (i : Nat) : Prop := (i : Int) < n
def NSt.p (ap : AP) (n : Int) : NSt → Prop
  | .z => True
  | .s i => ap _ _ (ap _ _ nLt n) i
def nMu (n : Int) (i : Nat) : Nat := n.toNat - i
def NSt.mu (ap : AP) (n : Int) : NSt → Nat
  | .z => ap _ _ (ap _ _ nMu n) 0
  | .s i => ap _ _ (ap _ _ nMu n) (ap _ _ sucN i)
def newC (ap : AP) (n c b : Int) (L : V) : V :=
  .cat 1 11 L (.cat 1 10 .nsl (.cat 1 9 .nsl (.cat 1 8 (.int .u64 c) (.cat 1 7 (.int .u64 b) (.cat 1 6 .ff (.cat 3 3 (.cat 1 2 .ff (.cat 1 1 (.lit .i64 0) (.lit .u64 0)))
    (.cat 1 2 (.sl 26 [] 0 (ap _ _ natI n) 1 none) (.cat 1 1 (.sl 28 [] 0 (ap _ _ natI n) 1 none) (.lit .i64 0)))))))))
def newHs (ap : AP) (n : Int) : List (Nat × Blk) := [(26, ⟨.own, .rows 1 (ap _ _ natI n) fun _ => .ff⟩), (28, ⟨.own, .rows 1 (ap _ _ natI n) fun _ => .ff⟩)]
def NSt.fam (ap : AP) (n c b : Int) : NSt → LSt
  | .z => ⟨[(0, .int .i64 n), (31, .int .i64 n), (32, .int .i64 (ap _ _ lenI 0)), (8, .ptr 30 [])], (30, ⟨.own, newC ap n c b .nsl⟩) :: newHs ap n, []⟩
  | .s i => ⟨[(0, .int .i64 n), (31, .int .i64 n), (32, .int .i64 (ap _ _ lenI (ap _ _ sucN i))), (8, .ptr 30 [])],
      (30, ⟨.own, newC ap n c b (.sl 7000 [] 0 (ap _ _ sucN i) 1 none)⟩) :: (7000, ⟨.own, .rows 1 (ap _ _ sucN i) (bkV ap zeroL)⟩) :: newHs ap n, [(7000, 41)]⟩
def aNew (ap : AP) (n c b : Int) : List (Nat × Ann) := [(0, .inv NSt (NSt.fam ap n c b) (NSt.p ap n) (NSt.mu ap n))]
theorem newB_f {n c b : Int} (h : newB n c b = false) : cmF .lss n 1 = false ∧ cmF .gtr n 256 = false ∧ cmF .gtr c 281474976710655 = false ∧ cmF .gtr b 281474976710655 = false := by
  simp only [newB, Bool.or_eq_false_iff] at h
  exact ⟨h.1.1.1, h.1.1.2, h.1.2, h.2⟩
theorem new_row : eqRows (0 + 1) (bkV apf zeroL) fun j => lkV V.nsl [(0, V.dsl 512 1 (V.ints IntKind.u8 512 (zerosI 512)))] j := by
  intro j hj
  obtain rfl : j = 0 := by omega
  simp [bkV, lkV, apf_e, zeroL]
theorem new_row' {i : Nat} : eqRows (i + 1 + 1) (bkV apf zeroL) fun j => catR (fun j => bkV apf zeroL j) (i + 1) (fun j => lkV V.nsl [(0, V.dsl 512 1 (V.ints IntKind.u8 512 (zerosI 512)))] j) j := by
  intro j hj
  by_cases h : j < i + 1
  · simp [bkV, catR, h, apf_e, zeroL]
  · obtain rfl : j = i + 1 := by omega
    simp [bkV, catR, lkV, apf_e, zeroL]
set_option maxRecDepth 20000 in
set_option maxHeartbeats 2000000 in
theorem vc8y (args : List Arg) (out : Out) (h : (cNewY apf args).to out) (hok : okAs args) :
    args.length = ic8.nargs ∧ ic8.nargs ≤ ic8.ntmps ∧ ∃ A, run apf [] A ic8.body (fnQ apf args out ic8.res) (st0 [] true args) := by
  unfold cNewY at h
  split at h
  · rename_i n c b
    obtain ⟨h1, h⟩ := h
    cases h
    clear hok
    have h1 : newB n c b = false := h1
    obtain ⟨g1, g2, g3, g4⟩ := newB_f h1
    have q1 : 1 ≤ n := lss_f g1
    have q2 : n ≤ 256 := gtr_f g2
    refine ⟨rfl, by decide, aNew apf n c b, ?_⟩
    have k1 : apf _ _ (apf _ _ (cmF .lss) n) 1 = false := g1
    have k2 : apf _ _ (apf _ _ (cmF .gtr) n) 256 = false := g2
    have k3 : apf _ _ (apf _ _ (cmF .gtr) c) 281474976710655 = false := g3
    have k4 : apf _ _ (apf _ _ (cmF .gtr) b) 281474976710655 = false := g4
    generalize hap : apf = ap at k1 k2 k3 k4 ⊢
    cbv
    repeat' first
      | exact True.intro
      | (intro (hh : _ = true); first | with_reducible exact absurd hh (bk_t (by assumption)) | cbv)
      | (intro (hh : _ = false); first | with_reducible exact absurd hh (bk_f (by assumption)) | cbv)
      | with_reducible refine And.intro ?_ ?_
      | (refine ⟨NSt.z, True.intro, ?_⟩; cbv)
      | fail
    rotate_right
    intro (x : NSt) hi j1 j2
    clear j1 j2
    rcases x with _ | i
    · cbv
      repeat' first
        | exact True.intro
        | (intro (hh : _ = true); first | with_reducible exact absurd hh (bk_t (by assumption)) | cbv)
        | (intro (hh : _ = false); first | with_reducible exact absurd hh (bk_f (by assumption)) | cbv)
        | with_reducible refine And.intro ?_ ?_
        | (refine ⟨NSt.s 0, ?_, (?_ : _ < _), ?_⟩; rotate_left 2; try cbv)
        | fail
      all_goals subst hap
      all_goals simp only [apf_e, cmF, newD, addN, Nat.zero_add, V.cnt, eqN, eqI', eqB', leN, mksN, appN, natI, NSt.p, NSt.mu, nLt, nMu, sucN, lenI, ltI, decide_eq_true_eq, decide_eq_false_iff_not] at *
      all_goals first
        | exact True.intro
        | rfl
        | omega
        | decide
        | exact new_row
        | exact new_row'
        | exact fun _ _ => rfl
        | exact (inc_i64 (by omega)).symm
        | trace_state
    · cbv
      repeat' first
        | exact True.intro
        | (intro (hh : _ = true); first | with_reducible exact absurd hh (bk_t (by assumption)) | cbv)
        | (intro (hh : _ = false); first | with_reducible exact absurd hh (bk_f (by assumption)) | cbv)
        | with_reducible refine And.intro ?_ ?_
        | (refine ⟨NSt.s (ap _ _ sucN i), ?_, (?_ : _ < _), ?_⟩; rotate_left 2; try cbv)
        | fail
      all_goals subst hap
      all_goals simp only [apf_e, cmF, newD, addN, Nat.zero_add, V.cnt, eqN, eqI', eqB', leN, mksN, appN, natI, NSt.p, NSt.mu, nLt, nMu, sucN, lenI, ltI, decide_eq_true_eq, decide_eq_false_iff_not] at *
      all_goals first
        | exact True.intro
        | rfl
        | omega
        | decide
        | exact new_row
        | exact new_row'
        | exact fun _ _ => rfl
        | exact (inc_i64 (by omega)).symm
        | trace_state
    all_goals subst hap
    all_goals simp only [apf_e, cmF, eqN, eqI', mksN, natI, lenI, ltI, decide_eq_false_iff_not] at *
    all_goals first
      | exact True.intro
      | rfl
      | omega
      | decide
      | exact new_row
      | exact new_row'
      | exact fun _ _ => rfl
      | exact (inc_i64 (by omega)).symm
      | trace_state
  · exact h.elim
theorem s8y : Sound Try.prog [] 8 (pu 8) (fun args => cNewY apf (args.map litA)) := (fn_sound rfl Try.call8 ok8 co8 env_nil vc8y).lits
end Go.Cx.Rd
/- CxdS5 -/
namespace Go.Cx.Rd
open Go Go.Cx Go.Proofs
def offD (d : DvP) (k : Int) : DvP := if d.off then d else cutD d k
def cOff (ap : AP) : Ctr
  | [.v .nilp, .v (.int .u64 _)] => .ok ⟨.int .i64 1, [], []⟩
  | [.o c none, .v (.int .u64 k)] => (dvR ap c).bind fun d => .chk (ap _ _ wfD d) <| .ok ⟨.int .i64 0, [dvA ap (ap _ _ (ap _ _ offD d) k)], []⟩
  | _ => .fail 440
def stD (d : DvP) : DvP := { d with st := wadd .i64 d.st 1 }
def stepD (d : DvP) : DvP := if d.ps then (if gtI d.pa 0 then { stD d with pa := wsub .i64 d.pa 1 } else cutD (stD d) d.pk) else stD d
def stepE (d : DvP) : Int := if d.ps then (if gtI d.pa 0 then 0 else 10) else 0
def cStep (ap : AP) : Ctr
  | [.o c none] => (dvR ap c).bind fun d => .chk (ap _ _ wfD d) <| .ok ⟨.int .i64 (ap _ _ stepE d), [dvA ap (ap _ _ stepD d)], []⟩
  | _ => .fail 441
theorem off_t {d : DvP} {k : Int} (h : d.off = true) : offD d k = d := by rw [offD, if_pos h]
theorem off_f {d : DvP} {k : Int} (h : d.off = false) : offD d k = cutD d k := by rw [offD, h]; rfl
theorem st_no {d : DvP} (h : d.ps = false) : stepD d = stD d ∧ stepE d = 0 := by rw [stepD, stepE, h]; exact ⟨rfl, rfl⟩
theorem st_more {d : DvP} (h : d.ps = true) (h2 : gtI d.pa 0 = true) : stepD d = { stD d with pa := wsub .i64 d.pa 1 } ∧ stepE d = 0 := by rw [stepD, stepE, h, h2]; exact ⟨rfl, rfl⟩
theorem st_cut {d : DvP} (h : d.ps = true) (h2 : gtI d.pa 0 = false) : stepD d = cutD (stD d) d.pk ∧ stepE d = 10 := by rw [stepD, stepE, h, h2]; exact ⟨rfl, rfl⟩
set_option maxRecDepth 20000 in
theorem vc15 (args : List Arg) (out : Out) (h : (cOff apf args).to out) (hok : okAs args) :
    args.length = ic15.nargs ∧ ic15.nargs ≤ ic15.ntmps ∧ ∃ A, run apf [(35, fun args => cCut apf (args.map litA))] A ic15.body (fnQ apf args out ic15.res) (st0 [] false args) := by
  unfold cOff at h
  split at h
  · cases h
    refine ⟨rfl, by decide, [], ?_⟩
    generalize hap : apf = ap
    cbv
    repeat' first
      | exact True.intro
      | (intro (hh : _ = true); first | with_reducible exact absurd hh (bk_t (by assumption)) | cbv)
      | (intro (hh : _ = false); first | with_reducible exact absurd hh (bk_f (by assumption)) | cbv)
      | with_reducible refine And.intro ?_ ?_
      | fail
    all_goals subst hap
    all_goals first
      | (simp only [apf_e, eqI', *]; done)
      | (simp_all [apf_e, onD, rdyE, hasB, failD, cmE, btE, cmF, geI, ltI, gtI, eqRows, eqN, eqI', eqB', leN, addN, V.cnt, neI, lenI, isBk_s, isWr_s, isBl_s, unbks_s, unwrs_s, unbls_s]; done)
      | (simp_all [apf_e, onD, rdyE, hasB, failD, cmE, btE, cmF, geI, ltI, gtI, eqRows, eqN, eqI', eqB', leN, addN, V.cnt, neI, lenI, isBk_s, isWr_s, isBl_s, unbks_s, unwrs_s, unbls_s]; omega)
  · rename_i c k
    obtain ⟨d, h1, hw, h⟩ := bind_to h
    cases h
    cases dvR_to h1
    clear hok h h1
    refine ⟨rfl, by decide, [], ?_⟩
    generalize hap : apf = ap
    cbv
    repeat' first
      | exact True.intro
      | (intro (hh : _ = true); first | with_reducible exact absurd hh (bk_t (by assumption)) | cbv)
      | (intro (hh : _ = false); first | with_reducible exact absurd hh (bk_f (by assumption)) | cbv)
      | with_reducible refine And.intro ?_ ?_
      | fail
    all_goals subst hap
    all_goals simp only [apf_e, unbks_s, unwrs_s, unbls_s, dv_eta, isBk_s, isWr_s, isBl_s, notB, addN, Nat.zero_add, Bool.not_eq_eq_eq_not, Bool.not_true, Bool.not_false] at *
    all_goals first
      | (simp only [eqN, eqI', eqB', leN, V.cnt, Nat.le_refl]; done)
      | exact hw
      | (have e := off_t (d := d) (k := k) (by assumption)
         simp only [e, eqRows, eqN, eqI', eqB', implies_true]
         done)
      | (have e := off_f (d := d) (k := k) (by assumption)
         simp only [e, eqRows, eqN, eqI', eqB', implies_true]
         done)
      | trace_state
  · exact h.elim
set_option maxRecDepth 20000 in
theorem vc32 (args : List Arg) (out : Out) (h : (cStep apf args).to out) (hok : okAs args) :
    args.length = ic32.nargs ∧ ic32.nargs ≤ ic32.ntmps ∧ ∃ A, run apf [(35, fun args => cCut apf (args.map litA))] A ic32.body (fnQ apf args out ic32.res) (st0 [] false args) := by
  unfold cStep at h
  split at h
  · obtain ⟨d, h1, hw, h⟩ := bind_to h
    cases h
    cases dvR_to h1
    clear hok h h1
    refine ⟨rfl, by decide, [], ?_⟩
    generalize hap : apf = ap
    cbv
    repeat' first
      | exact True.intro
      | (intro (hh : _ = true); first | with_reducible exact absurd hh (bk_t (by assumption)) | cbv)
      | (intro (hh : _ = false); first | with_reducible exact absurd hh (bk_f (by assumption)) | cbv)
      | with_reducible refine And.intro ?_ ?_
      | fail
    all_goals subst hap
    all_goals simp only [apf_e, cmF, unbks_s, unwrs_s, unbls_s, isBk_s, isWr_s, isBl_s, notB, addN, Nat.zero_add] at *
    all_goals simp only [Bool.not_eq_eq_eq_not, Bool.not_true, Bool.not_false] at *
    all_goals first
      | (simp only [eqN, eqI', eqB', leN, V.cnt, Nat.le_refl]; done)
      | exact hw
      | (have e := st_no (d := d) (by assumption)
         simp only [e.1, e.2, stD, eqRows, eqN, eqI', eqB', implies_true]
         done)
      | (have e := st_no (d := d) (by assumption)
         simp only [e.1, stD]
         first
           | rfl
           | exact fun _ _ => rfl)
      | (have e := st_more (d := d) (by assumption) (by assumption)
         simp only [e.1, e.2, stD]
         first
           | rfl
           | exact fun _ _ => rfl)
      | (have e := st_cut (d := d) (by assumption) (by assumption)
         simp only [e.1, e.2, stD]
         first
           | rfl
           | exact fun _ _ => rfl)
      | trace_state
  · exact h.elim
theorem s15 : Sound Try.prog [] 15 (pu 15) (fun args => cOff apf (args.map litA)) := (fn_sound rfl Try.call15 ok15 co15 (env_cons s35 env_nil) vc15).lits
theorem s32 : Sound Try.prog [] 32 (pu 32) (fun args => cStep apf (args.map litA)) := (fn_sound rfl Try.call32 ok32 co32 (env_cons s35 env_nil) vc32).lits
end Go.Cx.Rd
/- CxdS6 -/
namespace Go.Cx.Rd
open Go Go.Cx Go.Proofs
def readE (d : DvP) (b : Int) : Int := if d.off then 10 else if hasB d b then (if d.rd b.toNat then 11 else 0) else 2
def readB (d : DvP) (b : Int) : List Int := if readE d b = 0 then contD d b else []
def imgB (d : DvP) (b : Int) : List Int := if hasB d b then contD d b else []
def dslA (ap : AP) (l : List Int) : V := .dsl (ap _ _ llen l) 1 (.ints .u8 (ap _ _ llen l) l)
def cReadD (ap : AP) : Ctr
  | [.v .nilp, .v (.int .i64 _)] => .ok ⟨.tcons .nsl (.tcons (.int .i64 1) .tnil), [], []⟩
  | [.o c none, .v (.int .i64 b)] => (dvR ap c).bind fun d => .chk (ap _ _ wfD d) <| .ok ⟨.tcons (dslA ap (ap _ _ (ap _ _ readB d) b)) (.tcons (.int .i64 (ap _ _ (ap _ _ readE d) b)) .tnil), [dvA ap d], []⟩
  | _ => .fail 450
def cImg (ap : AP) : Ctr
  | [.v .nilp, .v (.int .i64 _)] => .ok ⟨.tcons .nsl (.tcons (.int .i64 1) .tnil), [], []⟩
  | [.o c none, .v (.int .i64 b)] => (dvR ap c).bind fun d => .chk (ap _ _ wfD d) <| .ok ⟨.tcons (dslA ap (ap _ _ (ap _ _ imgB d) b)) (.tcons (.int .i64 (ap _ _ (ap _ _ hasE d) b)) .tnil), [dvA ap d], []⟩
  | _ => .fail 451
theorem cont_len {d : DvP} {b : Int} (h : (dvA apf d).okv) (hb : hasB d b = true) : (contD d b).length = 512 := by
  obtain ⟨_, _, _, _, _, hL, hT, _⟩ := dvA_ok h
  have go : ∀ i, i ≤ d.nt → (contI d b i).length = 512 := by
    intro i
    induction i with
    | zero => intro _; exact (hL _ (has_lt hb)).1
    | succ k ih =>
      intro hk
      rw [contI]
      split
      · exact (hT k hk).2.1
      · exact ih (Nat.le_of_lt hk)
  exact go _ (Nat.le_refl _)
theorem rd_off {d : DvP} {b : Int} (h : d.off = true) : readE d b = 10 ∧ readB d b = [] := by
  have e : readE d b = 10 := by rw [readE, if_pos h]
  exact ⟨e, by rw [readB, e]; rfl⟩
theorem rd_no {d : DvP} {b : Int} (h : d.off = false) (h2 : hasB d b = false) : readE d b = 2 ∧ readB d b = [] := by
  have e : readE d b = 2 := by rw [readE, h, h2]; rfl
  exact ⟨e, by rw [readB, e]; rfl⟩
theorem rd_flt {d : DvP} {b : Int} (h : d.off = false) (h2 : hasB d b = true) (h3 : d.rd b.toNat = true) : readE d b = 11 ∧ readB d b = [] := by
  have e : readE d b = 11 := by rw [readE, h, h2, h3]; rfl
  exact ⟨e, by rw [readB, e]; rfl⟩
theorem rd_ok {d : DvP} {b : Int} (h : d.off = false) (h2 : hasB d b = true) (h3 : d.rd b.toNat = false) : readE d b = 0 ∧ readB d b = contD d b := by
  have e : readE d b = 0 := by rw [readE, h, h2, h3]; rfl
  exact ⟨e, by rw [readB, e]; rfl⟩
theorem rdy_t {d : DvP} : neI (rdyE d) 0 = true ↔ d.off = true := by
  unfold rdyE neI
  cases d.off <;> simp
theorem rdy_f {d : DvP} : neI (rdyE d) 0 = false ↔ d.off = false := by
  unfold rdyE neI
  cases d.off <;> simp
theorem rdy_v {d : DvP} (h : d.off = true) : rdyE d = 10 := by rw [rdyE, if_pos h]
set_option maxRecDepth 20000 in
theorem vc13 (args : List Arg) (out : Out) (h : (cReadD apf args).to out) (hok : okAs args) :
    args.length = ic13.nargs ∧ ic13.nargs ≤ ic13.ntmps ∧ ∃ A, run apf [(30, fun args => cRdy apf (args.map litA)), (31, fun args => cHas apf (args.map litA)), (34, fun args => cCont apf (args.map litA)), (33, cCloneF apf)] A ic13.body (fnQ apf args out ic13.res) (st0 [] false args) := by
  unfold cReadD at h
  split at h
  · cases h
    refine ⟨rfl, by decide, [], ?_⟩
    generalize hap : apf = ap
    cbv
    repeat' first
      | exact True.intro
      | (intro (hh : _ = true); first | with_reducible exact absurd hh (bk_t (by assumption)) | cbv)
      | (intro (hh : _ = false); first | with_reducible exact absurd hh (bk_f (by assumption)) | cbv)
      | with_reducible refine And.intro ?_ ?_
      | fail
    all_goals subst hap
    all_goals first
      | (simp only [apf_e, eqI', *]; done)
      | (simp_all [apf_e, cmF, neI]; done)
      | (simp_all [apf_e, onD, rdyE, hasB, failD, cmE, btE, cmF, geI, ltI, gtI, eqRows, eqN, eqI', eqB', leN, addN, V.cnt, neI, lenI, isBk_s, isWr_s, isBl_s, unbks_s, unwrs_s, unbls_s]; omega)
      | trace_state
  · rename_i c b
    obtain ⟨d, h1, hw, h⟩ := bind_to h
    cases h
    cases dvR_to h1
    have hL := fun hb => cont_len (b := b) hok.1 hb
    clear hok h h1
    refine ⟨rfl, by decide, [], ?_⟩
    generalize hap : apf = ap
    cbv
    repeat' first
      | exact True.intro
      | (intro (hh : _ = true); first | with_reducible exact absurd hh (bk_t (by assumption)) | cbv)
      | (intro (hh : _ = false); first | with_reducible exact absurd hh (bk_f (by assumption)) | cbv)
      | with_reducible refine And.intro ?_ ?_
      | fail
    all_goals subst hap
    all_goals simp only [apf_e, cmF, unbks_s, unwrs_s, unbls_s, dv_eta, isBk_s, isWr_s, isBl_s, notB, addN, Nat.zero_add, rdy_t, rdy_f] at *
    all_goals try simp only [Bool.not_eq_eq_eq_not, Bool.not_true, Bool.not_false] at *
    all_goals first
      | (simp only [eqN, eqI', eqB', leN, V.cnt, Nat.le_refl, eqRows, implies_true]; done)
      | exact hw
      | (have e := rd_off (d := d) (b := b) (by assumption)
         simp only [e.1, e.2, rdy_v (d := d) (by assumption), eqN, eqI', eqL', llen, List.length_nil]
         done)
      | (have e := rd_no (d := d) (b := b) (by assumption) (by assumption)
         simp only [e.1, e.2, eqN, eqI', eqL', llen, List.length_nil]
         done)
      | (have e := rd_flt (d := d) (b := b) (by assumption) (by assumption) (by assumption)
         simp only [e.1, e.2, eqN, eqI', eqL', llen, List.length_nil]
         done)
      | (have e := rd_ok (d := d) (b := b) (by assumption) (by assumption) (by assumption)
         simp only [e.1, e.2, eqN, eqI', eqL', llen, hL (by assumption)]
         done)
      | (have hb : hasB d b = true := by assumption
         first
           | exact hb
           | exact (hasB_t.1 hb).1
           | exact hw.1.symm ▸ has_lt hb)
      | (show (_ : Nat) ≤ _
         decide)
      | (show (_ : Nat) < _
         decide)
      | trace_state
  · exact h.elim
theorem s13 : Sound Try.prog [] 13 (pu 13) (fun args => cReadD apf (args.map litA)) := (fn_sound rfl Try.call13 ok13 co13 (env_cons s30 (env_cons s31 (env_cons s34 (env_cons s33f env_nil)))) vc13).lits
theorem im_no {d : DvP} {b : Int} (h : hasB d b = false) : hasE d b = 2 ∧ imgB d b = [] := by rw [hasE, imgB, h]; exact ⟨rfl, rfl⟩
theorem im_ok {d : DvP} {b : Int} (h : hasB d b = true) : hasE d b = 0 ∧ imgB d b = contD d b := by rw [hasE, imgB, h]; exact ⟨rfl, rfl⟩
set_option maxRecDepth 20000 in
theorem vc22 (args : List Arg) (out : Out) (h : (cImg apf args).to out) (hok : okAs args) :
    args.length = ic22.nargs ∧ ic22.nargs ≤ ic22.ntmps ∧ ∃ A, run apf [(31, fun args => cHas apf (args.map litA)), (34, fun args => cCont apf (args.map litA)), (33, cCloneF apf)] A ic22.body (fnQ apf args out ic22.res) (st0 [] false args) := by
  unfold cImg at h
  split at h
  · cases h
    refine ⟨rfl, by decide, [], ?_⟩
    generalize hap : apf = ap
    cbv
    repeat' first
      | exact True.intro
      | (intro (hh : _ = true); first | with_reducible exact absurd hh (bk_t (by assumption)) | cbv)
      | (intro (hh : _ = false); first | with_reducible exact absurd hh (bk_f (by assumption)) | cbv)
      | with_reducible refine And.intro ?_ ?_
      | fail
    all_goals subst hap
    all_goals first
      | (simp only [apf_e, eqI', *]; done)
      | (simp_all [apf_e, onD, rdyE, hasB, failD, cmE, btE, cmF, geI, ltI, gtI, eqRows, eqN, eqI', eqB', leN, addN, V.cnt, neI, lenI, isBk_s, isWr_s, isBl_s, unbks_s, unwrs_s, unbls_s]; done)
      | (simp_all [apf_e, onD, rdyE, hasB, failD, cmE, btE, cmF, geI, ltI, gtI, eqRows, eqN, eqI', eqB', leN, addN, V.cnt, neI, lenI, isBk_s, isWr_s, isBl_s, unbks_s, unwrs_s, unbls_s]; omega)
      | trace_state
  · rename_i c b
    obtain ⟨d, h1, hw, h⟩ := bind_to h
    cases h
    cases dvR_to h1
    have hL := fun hb => cont_len (b := b) hok.1 hb
    clear hok h h1
    refine ⟨rfl, by decide, [], ?_⟩
    generalize hap : apf = ap
    cbv
    repeat' first
      | exact True.intro
      | (intro (hh : _ = true); first | with_reducible exact absurd hh (bk_t (by assumption)) | cbv)
      | (intro (hh : _ = false); first | with_reducible exact absurd hh (bk_f (by assumption)) | cbv)
      | with_reducible refine And.intro ?_ ?_
      | fail
    all_goals subst hap
    all_goals simp only [apf_e, unbks_s, unwrs_s, unbls_s, dv_eta, isBk_s, isWr_s, isBl_s, notB, addN, Nat.zero_add] at *
    all_goals try simp only [Bool.not_eq_eq_eq_not, Bool.not_true, Bool.not_false] at *
    all_goals first
      | (simp only [eqN, eqI', eqB', leN, V.cnt, Nat.le_refl, eqRows, implies_true]; done)
      | exact hw
      | (have e := im_no (d := d) (b := b) (by assumption)
         simp only [e.1, e.2, eqN, eqI', eqL', llen, List.length_nil]
         done)
      | (have e := im_ok (d := d) (b := b) (by assumption)
         simp only [e.1, e.2, eqN, eqI', eqL', llen, hL (by assumption)]
         done)
      | (have hb : hasB d b = true := by assumption
         first
           | exact hb
           | exact (hasB_t.1 hb).1
           | exact hw.1.symm ▸ has_lt hb)
      | (show (_ : Nat) ≤ _
         decide)
      | (show (_ : Nat) < _
         decide)
      | trace_state
  · exact h.elim
theorem s22 : Sound Try.prog [] 22 (pu 22) (fun args => cImg apf (args.map litA)) := (fn_sound rfl Try.call22 ok22 co22 (env_cons s31 (env_cons s34 (env_cons s33f env_nil))) vc22).lits
end Go.Cx.Rd
/- CxdS7 -/
namespace Go.Cx.Rd
open Go Go.Cx Go.Proofs
def appW (T : Nat → Int × List Int) (n : Nat) (x : Int × List Int) (j : Nat) : Int × List Int := if j < n then T j else x
def addD (d : DvP) (b : Int) (l : List Int) : DvP := { d with nt := d.nt + 1, T := appW d.T d.nt (b, l), ng := d.ng + 1, G := appW d.G d.ng (b, l) }
def wrtE (d : DvP) (b : Int) (n : Nat) : Int := if d.off then 10 else if hasB d b then (if neI (lenI n) 512 then 3 else if neI (stepE d) 0 then stepE d else if (stepD d).wr b.toNat then 11 else 0) else 2
def wrtD (d : DvP) (b : Int) (n : Nat) (l : List Int) : DvP :=
  if d.off then d else if hasB d b then (if neI (lenI n) 512 then d else if neI (stepE d) 0 then stepD d else if (stepD d).wr b.toNat then stepD d else addD (stepD d) b l) else d
def roomD (d : DvP) : Prop := d.nt < 1000000 ∧ d.ng < 1000000
theorem wr_off {d : DvP} {b : Int} {n : Nat} {l : List Int} (h : d.off = true) : wrtE d b n = rdyE d ∧ wrtD d b n l = d := by rw [wrtE, wrtD, rdy_v h, h]; exact ⟨rfl, rfl⟩
theorem wr_no {d : DvP} {b : Int} {n : Nat} {l : List Int} (h : d.off = false) (h2 : hasB d b = false) : wrtE d b n = 2 ∧ wrtD d b n l = d := by rw [wrtE, wrtD, h, h2]; exact ⟨rfl, rfl⟩
theorem wr_len {d : DvP} {b : Int} {n : Nat} {l : List Int} (h : d.off = false) (h2 : hasB d b = true) (h3 : neI (lenI n) 512 = true) : wrtE d b n = 3 ∧ wrtD d b n l = d := by rw [wrtE, wrtD, h, h2, h3]; exact ⟨rfl, rfl⟩
theorem wr_st {d : DvP} {b : Int} {n : Nat} {l : List Int} (h : d.off = false) (h2 : hasB d b = true) (h3 : neI (lenI n) 512 = false) (h4 : neI (stepE d) 0 = true) : wrtE d b n = stepE d ∧ wrtD d b n l = stepD d := by rw [wrtE, wrtD, h, h2, h3, h4]; exact ⟨rfl, rfl⟩
theorem wr_flt {d : DvP} {b : Int} {n : Nat} {l : List Int} (h : d.off = false) (h2 : hasB d b = true) (h3 : neI (lenI n) 512 = false) (h4 : neI (stepE d) 0 = false) (h5 : (stepD d).wr (natI b) = true) : wrtE d b n = 11 ∧ wrtD d b n l = stepD d := by
  have h5 : (stepD d).wr b.toNat = true := h5
  rw [wrtE, wrtD, h, h2, h3, h4, h5]; exact ⟨rfl, rfl⟩
theorem wr_ok {d : DvP} {b : Int} {n : Nat} {l : List Int} (h : d.off = false) (h2 : hasB d b = true) (h3 : neI (lenI n) 512 = false) (h4 : neI (stepE d) 0 = false) (h5 : (stepD d).wr (natI b) = false) : wrtE d b n = 0 ∧ wrtD d b n l = addD (stepD d) b l := by
  have h5 : (stepD d).wr b.toNat = false := h5
  rw [wrtE, wrtD, h, h2, h3, h4, h5]; exact ⟨rfl, rfl⟩
theorem step_nw {d : DvP} : (stepD d).nw = d.nw := by
  unfold stepD
  split
  · split <;> rfl
  · rfl
theorem step_nt {d : DvP} : (stepD d).nt ≤ d.nt := by
  unfold stepD
  split
  · split
    · exact Nat.le_refl _
    · exact Nat.zero_le _
  · exact Nat.le_refl _
theorem step_ng {d : DvP} : (stepD d).ng = d.ng := by
  unfold stepD
  split
  · split <;> rfl
  · rfl
theorem nw_lt {d : DvP} {b : Int} (hw : wfD d) (hb : hasB d b = true) : ltN (natI b) (stepD d).nw := by
  rw [step_nw, hw.2.1]
  exact has_lt hb
theorem len_512 {m : Nat} (h : neI (lenI m) 512 = false) : ltN 0 m ∧ leN m 140737488355328 := by
  have h : (m : Int) = 512 := ne_f'.1 h
  exact ⟨show 0 < m by omega, show m ≤ _ by omega⟩
theorem app_nt {d : DvP} (h : roomD d) : appN 32 ((stepD d).nt + 1) := by
  have h1 := h.1
  have := step_nt (d := d)
  show ((stepD d).nt + 1) * 32 ≤ 140737488355328
  omega
theorem app_ng {d : DvP} (h : roomD d) : appN 32 ((stepD d).ng + 1) := by
  have h1 := h.2
  show ((stepD d).ng + 1) * 32 ≤ 140737488355328
  rw [step_ng]
  omega
theorem rows_add {T : Nat → Int × List Int} {n m : Nat} {b : Int} {l : List Int} (hm : neI (lenI m) 512 = false) (hl : l.length = m) : eqRows (n + 1) (wrV apf (appW T n (b, l))) fun j =>
    catR (fun j => wrV apf T j) n (fun j => lkV (V.cat 1 1 (V.lit IntKind.i64 0) V.nsl) [(0, V.cat 1 1 (V.int IntKind.i64 b) (V.dsl m 1 (V.ints IntKind.u8 m (subL l 0 m))))] j) j := by
  have hm : (m : Int) = 512 := ne_f'.1 hm
  have hm : m = 512 := by omega
  have sl : subL l 0 m = l := subL_all (Nat.le_of_eq hl)
  rw [sl]
  subst hm
  intro j hj
  by_cases h : j < n
  · simp [wrV, appW, catR, h, apf_e]
  · obtain rfl : j = n := by omega
    simp [wrV, appW, catR, lkV, apf_e]
def cWrite (ap : AP) : Ctr
  | [.v .nilp, .v (.int .i64 _), .b _ 1 (.ints .u8 _ _)] => .ok ⟨.int .i64 1, [], []⟩
  | [.o c none, .v (.int .i64 b), .b n 1 (.ints .u8 _ l)] => (dvR ap c).bind fun d => .chk (ap _ _ wfD d) <| .chk (ap _ _ roomD d) <|
      .ok ⟨.int .i64 (ap _ _ (ap _ _ (ap _ _ wrtE d) b) n), [dvA ap (ap _ _ (ap _ _ (ap _ _ (ap _ _ wrtD d) b) n) l)], []⟩
  | _ => .fail 460
set_option maxRecDepth 20000 in
set_option maxHeartbeats 2000000 in
theorem vc10 (args : List Arg) (out : Out) (h : (cWrite apf args).to out) (hok : okAs args) :
    args.length = ic10.nargs ∧ ic10.nargs ≤ ic10.ntmps ∧ ∃ A, run apf [(30, fun args => cRdy apf (args.map litA)), (31, fun args => cHas apf (args.map litA)), (32, fun args => cStep apf (args.map litA)), (33, cCloneF apf)] A ic10.body (fnQ apf args out ic10.res) (st0 [] false args) := by
  unfold cWrite at h
  split at h
  · cases h
    refine ⟨rfl, by decide, [], ?_⟩
    generalize hap : apf = ap
    cbv
    repeat' first
      | exact True.intro
      | (intro (hh : _ = true); first | with_reducible exact absurd hh (bk_t (by assumption)) | cbv)
      | (intro (hh : _ = false); first | with_reducible exact absurd hh (bk_f (by assumption)) | cbv)
      | with_reducible refine And.intro ?_ ?_
      | fail
    all_goals subst hap
    all_goals first
      | (simp only [apf_e, eqI', *]; done)
      | (simp_all [apf_e, cmF, neI]; done)
      | (simp_all [apf_e, onD, rdyE, hasB, failD, cmE, btE, cmF, geI, ltI, gtI, eqRows, eqN, eqI', eqB', leN, addN, V.cnt, neI, lenI, isBk_s, isWr_s, isBl_s, unbks_s, unwrs_s, unbls_s]; omega)
      | trace_state
  · rename_i c b n m l
    obtain ⟨d, h1, hw, hr, h⟩ := bind_to h
    cases h
    cases dvR_to h1
    obtain ⟨_, _, ⟨hn, ⟨rfl, _⟩, hl⟩, _⟩ := hok
    clear h h1
    refine ⟨rfl, by decide, [], ?_⟩
    generalize hap : apf = ap
    cbv
    repeat' first
      | exact True.intro
      | (intro (hh : _ = true); first | with_reducible exact absurd hh (bk_t (by assumption)) | cbv)
      | (intro (hh : _ = false); first | with_reducible exact absurd hh (bk_f (by assumption)) | cbv)
      | with_reducible refine And.intro ?_ ?_
      | fail
    all_goals subst hap
    all_goals simp only [apf_e, cmF, unbks_s, unwrs_s, unbls_s, dv_eta, isBk_s, isWr_s, isBl_s, notB, addN, Nat.zero_add, rdy_t, rdy_f] at *
    all_goals try simp only [Bool.not_eq_eq_eq_not, Bool.not_true, Bool.not_false] at *
    all_goals first
      | (simp only [eqN, eqI', eqB', leN, V.cnt, Nat.le_refl, eqRows]; done)
      | exact hw
      | (have e := wr_off (d := d) (b := b) (n := m) (l := l) (by assumption)
         simp only [e.1, e.2, eqN, eqI', eqB', eqRows, implies_true]
         done)
      | (have e := wr_no (d := d) (b := b) (n := m) (l := l) (by assumption) (by assumption)
         simp only [e.1, e.2, eqN, eqI', eqB', eqRows, implies_true]
         done)
      | (have e := wr_len (d := d) (b := b) (n := m) (l := l) (by assumption) (by assumption) (by assumption)
         simp only [e.1, e.2, eqN, eqI', eqB', eqRows, implies_true]
         done)
      | (have e := wr_st (d := d) (b := b) (n := m) (l := l) (by assumption) (by assumption) (by assumption) (by assumption)
         simp only [e.1, e.2, eqN, eqI', eqB', eqRows, implies_true]
         done)
      | (have e := wr_flt (d := d) (b := b) (n := m) (l := l) (by assumption) (by assumption) (by assumption) (by assumption) (by assumption)
         simp only [e.1, e.2, eqN, eqI', eqB', eqRows, implies_true]
         done)
      | (have hb : hasB d b = true := by assumption
         have hm : neI (lenI m) 512 = false := by assumption
         first
           | with_reducible exact (hasB_t.1 hb).1
           | with_reducible exact nw_lt hw hb
           | with_reducible exact (len_512 hm).1
           | with_reducible exact (len_512 hm).2
           | with_reducible exact app_nt hr
           | with_reducible exact app_ng hr)
      | (have e := wr_ok (d := d) (b := b) (n := m) (l := l) (by assumption) (by assumption) (by assumption) (by assumption) (by assumption)
         simp only [e.1, e.2, addD, eqN, eqI', eqB']
         first
           | done
           | exact fun _ _ => rfl
           | exact rows_add (by assumption) hl.1
           | trace_state)
      | trace_state
  · exact h.elim
theorem s10 : Sound Try.prog [] 10 (pu 10) (fun args => cWrite apf (args.map litA)) := (fn_sound rfl Try.call10 ok10 co10 (env_cons s30 (env_cons s31 (env_cons s32 (env_cons s33f env_nil)))) vc10).lits
end Go.Cx.Rd
/- CxdSA -/
namespace Go.Cx.Rd
open Go Go.Cx Go.Proofs
def allT (_ : Nat) : Bool := true
def flE (d : DvP) : Int := if d.off then 10 else stepE d
def flD (d : DvP) : DvP := if d.off then d else if neI (stepE d) 0 then stepD d else { layD (stepD d) allT (stepD d).nt with nt := 0 }
theorem fl_off {d : DvP} (h : d.off = true) : flE d = rdyE d ∧ flD d = d := by rw [flE, flD, rdy_v h, h]; exact ⟨rfl, rfl⟩
theorem fl_st {d : DvP} (h : d.off = false) (h2 : neI (stepE d) 0 = true) : flE d = stepE d ∧ flD d = stepD d := by rw [flE, flD, h, h2]; exact ⟨rfl, rfl⟩
theorem fl_ok {d : DvP} {i : Nat} (h : d.off = false) (h2 : neI (stepE d) 0 = false) (hi : i = (stepD d).nt) : flE d = 0 ∧ flD d = { layD (stepD d) allT i with nt := 0 } := by
  rw [flE, flD, h, h2, hi]
  exact ⟨ne_f'.1 h2, rfl⟩
theorem step_wf {d : DvP} (h : wfD d) : wfD (stepD d) := by
  obtain ⟨h1, h2, h3, h4, h5, h6⟩ := h
  unfold stepD
  split
  · split
    · exact ⟨h1, h2, h3, h4, h5, h6⟩
    · exact ⟨h1, h2, fun j hj => absurd hj (Nat.not_lt_zero _), h4, Nat.zero_le _, h6⟩
  · exact ⟨h1, h2, h3, h4, h5, h6⟩
def cFlush (ap : AP) : Ctr
  | [.v .nilp] => .ok ⟨.int .i64 1, [], []⟩
  | [.o c none] => (dvR ap c).bind fun d => .chk (ap _ _ wfD d) <| .ok ⟨.int .i64 (ap _ _ flE d), [dvA ap (ap _ _ flD d)], []⟩
  | _ => .fail 480
def aFlush (ap : AP) (d : DvP) : List (Nat × Ann) := [
  (0, .inv Nat (fun i => ⟨[(0, .ptr 100000 []), (20, .sl 2209 [] 0 (ap _ _ DvP.nt (ap _ _ stepD d)) 2 none), (21, .int .i64 (ap _ _ lenI (ap _ _ DvP.nt (ap _ _ stepD d)))), (22, .int .i64 (ap _ _ lenI i))],
      dvHs ap 2208 (ap _ _ (ap _ _ (ap _ _ layD (ap _ _ stepD d)) allT) i), []⟩)
    (fun i => ap _ _ (ap _ _ leN i) (ap _ _ DvP.nt (ap _ _ stepD d))) (fun i => ap _ _ (ap _ _ subN (ap _ _ DvP.nt (ap _ _ stepD d))) i))]
set_option maxRecDepth 20000 in
set_option maxHeartbeats 2000000 in
theorem vc17 (args : List Arg) (out : Out) (h : (cFlush apf args).to out) (hok : okAs args) :
    args.length = ic17.nargs ∧ ic17.nargs ≤ ic17.ntmps ∧ ∃ A, run apf [(30, fun args => cRdy apf (args.map litA)), (32, fun args => cStep apf (args.map litA))] A ic17.body (fnQ apf args out ic17.res) (st0 [] false args) := by
  unfold cFlush at h
  split at h
  · cases h
    refine ⟨rfl, by decide, [], ?_⟩
    generalize hap : apf = ap
    cbv
    repeat' first
      | exact True.intro
      | (intro (hh : _ = true); first | with_reducible exact absurd hh (bk_t (by assumption)) | cbv)
      | (intro (hh : _ = false); first | with_reducible exact absurd hh (bk_f (by assumption)) | cbv)
      | with_reducible refine And.intro ?_ ?_
      | fail
    all_goals subst hap
    all_goals first
      | (simp only [apf_e, eqI', *]; done)
      | (simp_all [apf_e, cmF, neI]; done)
      | (simp_all [apf_e, onD, rdyE, hasB, failD, cmE, btE, cmF, geI, ltI, gtI, eqRows, eqN, eqI', eqB', leN, addN, V.cnt, neI, lenI, isBk_s, isWr_s, isBl_s, unbks_s, unwrs_s, unbls_s]; omega)
      | trace_state
  · rename_i c
    obtain ⟨d, h1, hw, h⟩ := bind_to h
    cases h
    cases dvR_to h1
    clear hok h h1
    obtain ⟨w1, w2, w3, w4, w5, w6⟩ := step_wf hw
    refine ⟨rfl, by decide, aFlush apf d, ?_⟩
    have hP : apf _ _ (apf _ _ leN 0) (apf _ _ DvP.nt (apf _ _ stepD d)) := Nat.zero_le _
    generalize hap : apf = ap at hP ⊢
    cbv
    repeat' first
      | exact True.intro
      | (intro (hh : _ = true); first | with_reducible exact absurd hh (bk_t (by assumption)) | cbv)
      | (intro (hh : _ = false); first | with_reducible exact absurd hh (bk_f (by assumption)) | cbv)
      | with_reducible refine And.intro ?_ ?_
      | (refine ⟨0, hP, ?_⟩; cbv)
      | fail
    all_goals first
      | (intro (i : Nat) hi k1 k2
         clear k1 k2
         cbv
         repeat' first
           | exact True.intro
           | (intro (hh : _ = true); first | with_reducible exact absurd hh (bk_t (by assumption)) | cbv)
           | (intro (hh : _ = false); first | with_reducible exact absurd hh (bk_f (by assumption)) | cbv)
           | with_reducible refine And.intro ?_ ?_
           | (refine ⟨ap _ _ sucN i, ?_, (?_ : _ < _), ?_⟩; rotate_left 2; try cbv))
      | skip
    all_goals subst hap
    all_goals simp only [apf_e, cmF, ltI, layD, unbks_s, unwrs_s, unbls_s, dv_eta, isBk_s, isWr_s, isBl_s, addN, Nat.zero_add, rdy_t, rdy_f, decide_eq_true_eq, decide_eq_false_iff_not] at *
    all_goals first
      | (simp only [eqRows, eqN, eqI', eqB', leN, V.cnt, Nat.le_refl, implies_true]; done)
      | exact hw
      | with_reducible exact fun _ _ => rfl
      | exact (rfl : lenI 0 = 0)
      | (have e := fl_off (d := d) (by assumption)
         simp only [e.1, e.2, eqRows, eqN, eqI', eqB', implies_true]
         done)
      | (have e := fl_st (d := d) (by assumption) (by assumption)
         simp only [e.1, e.2, eqRows, eqN, eqI', eqB', implies_true]
         done)
      | exact Int.natCast_nonneg _
      | (have hlt : i < (stepD d).nt := Int.ofNat_lt.1 (by assumption)
         first
           | exact hlt
           | exact (w3 i hlt).1
           | exact idx_lt (w3 i hlt)
           | exact len_suc hlt w5
           | exact sub_lt' hlt
           | exact lay_rows_yes (s := allT) rfl)
      | (have he : i = (stepD d).nt := Nat.le_antisymm hi (Nat.le_of_not_lt fun h => absurd (Int.ofNat_lt.2 h) (by assumption))
         have e := fl_ok (d := d) (by assumption) (by assumption) he
         simp only [e.1, e.2, layD, eqRows, eqN, eqI', eqB', implies_true]
         done)
      | exact fun _ _ => rfl
      | trace_state
  · exact h.elim
theorem s17 : Sound Try.prog [] 17 (pu 17) (fun args => cFlush apf (args.map litA)) := (fn_sound rfl Try.call17 ok17 co17 (env_cons s30 (env_cons s32 env_nil)) vc17).lits
end Go.Cx.Rd
/- CxdS8 -/
namespace Go.Cx.Rd
open Go Go.Cx Go.Proofs
def advE (d : DvP) (to : Int) : Int := if d.off then 10 else if leI to d.cm then 16 else if gtI to 281474976710655 then 16 else if neI (stepE d) 0 then stepE d else 0
def advD (d : DvP) (to : Int) : DvP := if d.off then d else if leI to d.cm then d else if gtI to 281474976710655 then d else if neI (stepE d) 0 then stepD d else { stepD d with cm := to }
theorem av_off {d : DvP} {t : Int} (h : d.off = true) : (advE d t = rdyE d ∧ rdyE d = 10) ∧ advD d t = d := by rw [advE, advD, rdy_v h, h]; exact ⟨⟨rfl, rfl⟩, rfl⟩
theorem av_le {d : DvP} {t : Int} (h : d.off = false) (h2 : leI t d.cm = true) : advE d t = 16 ∧ advD d t = d := by rw [advE, advD, h, h2]; exact ⟨rfl, rfl⟩
theorem av_gt {d : DvP} {t : Int} (h : d.off = false) (h2 : leI t d.cm = false) (h3 : gtI t 281474976710655 = true) : advE d t = 16 ∧ advD d t = d := by rw [advE, advD, h, h2, h3]; exact ⟨rfl, rfl⟩
theorem av_st {d : DvP} {t : Int} (h : d.off = false) (h2 : leI t d.cm = false) (h3 : gtI t 281474976710655 = false) (h4 : neI (stepE d) 0 = true) : advE d t = stepE d ∧ advD d t = stepD d := by rw [advE, advD, h, h2, h3, h4]; exact ⟨rfl, rfl⟩
theorem av_ok {d : DvP} {t : Int} (h : d.off = false) (h2 : leI t d.cm = false) (h3 : gtI t 281474976710655 = false) (h4 : neI (stepE d) 0 = false) : advE d t = 0 ∧ advD d t = { stepD d with cm := t } := by rw [advE, advD, h, h2, h3, h4]; exact ⟨rfl, rfl⟩
def cAdv (ap : AP) : Ctr
  | [.v .nilp, .v (.int .u64 _)] => .ok ⟨.int .i64 1, [], []⟩
  | [.o c none, .v (.int .u64 t)] => (dvR ap c).bind fun d => .chk (ap _ _ wfD d) <| .ok ⟨.int .i64 (ap _ _ (ap _ _ advE d) t), [dvA ap (ap _ _ (ap _ _ advD d) t)], []⟩
  | _ => .fail 470
set_option maxRecDepth 20000 in
set_option maxHeartbeats 2000000 in
theorem vc27 (args : List Arg) (out : Out) (h : (cAdv apf args).to out) (hok : okAs args) :
    args.length = ic27.nargs ∧ ic27.nargs ≤ ic27.ntmps ∧ ∃ A, run apf [(30, fun args => cRdy apf (args.map litA)), (32, fun args => cStep apf (args.map litA))] A ic27.body (fnQ apf args out ic27.res) (st0 [] false args) := by
  unfold cAdv at h
  split at h
  · cases h
    refine ⟨rfl, by decide, [], ?_⟩
    generalize hap : apf = ap
    cbv
    repeat' first
      | exact True.intro
      | (intro (hh : _ = true); first | with_reducible exact absurd hh (bk_t (by assumption)) | cbv)
      | (intro (hh : _ = false); first | with_reducible exact absurd hh (bk_f (by assumption)) | cbv)
      | with_reducible refine And.intro ?_ ?_
      | fail
    all_goals subst hap
    all_goals first
      | (simp only [apf_e, eqI', *]; done)
      | (simp_all [apf_e, cmF, neI]; done)
      | (simp_all [apf_e, onD, rdyE, hasB, failD, cmE, btE, cmF, geI, ltI, gtI, eqRows, eqN, eqI', eqB', leN, addN, V.cnt, neI, lenI, isBk_s, isWr_s, isBl_s, unbks_s, unwrs_s, unbls_s]; omega)
      | trace_state
  · rename_i c t
    obtain ⟨d, h1, hw, h⟩ := bind_to h
    cases h
    cases dvR_to h1
    clear hok h h1
    refine ⟨rfl, by decide, [], ?_⟩
    generalize hap : apf = ap
    cbv
    repeat' first
      | exact True.intro
      | (intro (hh : _ = true); first | with_reducible exact absurd hh (bk_t (by assumption)) | cbv)
      | (intro (hh : _ = false); first | with_reducible exact absurd hh (bk_f (by assumption)) | cbv)
      | with_reducible refine And.intro ?_ ?_
      | fail
    all_goals subst hap
    all_goals simp only [apf_e, cmF, unbks_s, unwrs_s, unbls_s, dv_eta, isBk_s, isWr_s, isBl_s, addN, Nat.zero_add, rdy_t, rdy_f] at *
    all_goals try simp only [Bool.not_eq_eq_eq_not, Bool.not_true, Bool.not_false] at *
    all_goals first
      | (simp only [eqN, eqI', eqB', leN, V.cnt, Nat.le_refl, eqRows]; done)
      | exact hw
      | (have e := av_off (d := d) (t := t) (by assumption)
         simp only [e.1.1, e.1.2, e.2, eqN, eqI', eqB', eqRows, implies_true]
         done)
      | (have e := av_le (d := d) (t := t) (by assumption) (by assumption)
         simp only [e.1, e.2, eqN, eqI', eqB', eqRows, implies_true]
         done)
      | (have e := av_gt (d := d) (t := t) (by assumption) (by assumption) (by assumption)
         simp only [e.1, e.2, eqN, eqI', eqB', eqRows, implies_true]
         done)
      | (have e := av_st (d := d) (t := t) (by assumption) (by assumption) (by assumption) (by assumption)
         simp only [e.1, e.2, eqN, eqI', eqB', eqRows, implies_true]
         done)
      | (have e := av_ok (d := d) (t := t) (by assumption) (by assumption) (by assumption) (by assumption)
         simp only [e.1, e.2, eqN, eqI', eqB', eqRows, implies_true]
         done)
      | trace_state
  · exact h.elim
theorem s27 : Sound Try.prog [] 27 (pu 27) (fun args => cAdv apf (args.map litA)) := (fn_sound rfl Try.call27 ok27 co27 (env_cons s30 (env_cons s32 env_nil)) vc27).lits
end Go.Cx.Rd
/- CxdS9 -/
namespace Go.Cx.Rd
open Go Go.Cx Go.Proofs
def strE (d : DvP) : Int := if d.off then 10 else if eqI d.bt 281474976710655 then 16 else if neI (stepE d) 0 then stepE d else 0
def strD (d : DvP) : DvP := if d.off then d else if eqI d.bt 281474976710655 then d else if neI (stepE d) 0 then stepD d else { stepD d with bt := wadd .u64 (stepD d).bt 1 }
def strV (d : DvP) : Int := if d.off then 0 else if eqI d.bt 281474976710655 then 0 else if neI (stepE d) 0 then 0 else wadd .u64 (stepD d).bt 1
theorem sr_off {d : DvP} (h : d.off = true) : (strE d = rdyE d ∧ rdyE d = 10) ∧ strD d = d ∧ strV d = 0 := by rw [strE, strD, strV, rdy_v h, h]; exact ⟨⟨rfl, rfl⟩, rfl, rfl⟩
theorem sr_max {d : DvP} (h : d.off = false) (h2 : eqI d.bt 281474976710655 = true) : strE d = 16 ∧ strD d = d ∧ strV d = 0 := by rw [strE, strD, strV, h, h2]; exact ⟨rfl, rfl, rfl⟩
theorem sr_st {d : DvP} (h : d.off = false) (h2 : eqI d.bt 281474976710655 = false) (h4 : neI (stepE d) 0 = true) : strE d = stepE d ∧ strD d = stepD d ∧ strV d = 0 := by rw [strE, strD, strV, h, h2, h4]; exact ⟨rfl, rfl, rfl⟩
theorem sr_ok {d : DvP} (h : d.off = false) (h2 : eqI d.bt 281474976710655 = false) (h4 : neI (stepE d) 0 = false) : strE d = 0 ∧ strD d = { stepD d with bt := wadd .u64 (stepD d).bt 1 } ∧ strV d = wadd .u64 (stepD d).bt 1 := by rw [strE, strD, strV, h, h2, h4]; exact ⟨rfl, rfl, rfl⟩
def cStart (ap : AP) : Ctr
  | [.v .nilp] => .ok ⟨.tcons (.int .u64 0) (.tcons (.int .i64 1) .tnil), [], []⟩
  | [.o c none] => (dvR ap c).bind fun d => .chk (ap _ _ wfD d) <| .ok ⟨.tcons (.int .u64 (ap _ _ strV d)) (.tcons (.int .i64 (ap _ _ strE d)) .tnil), [dvA ap (ap _ _ strD d)], []⟩
  | _ => .fail 471
set_option maxRecDepth 20000 in
set_option maxHeartbeats 2000000 in
theorem vc26 (args : List Arg) (out : Out) (h : (cStart apf args).to out) (hok : okAs args) :
    args.length = ic26.nargs ∧ ic26.nargs ≤ ic26.ntmps ∧ ∃ A, run apf [(30, fun args => cRdy apf (args.map litA)), (32, fun args => cStep apf (args.map litA))] A ic26.body (fnQ apf args out ic26.res) (st0 [] false args) := by
  unfold cStart at h
  split at h
  · cases h
    refine ⟨rfl, by decide, [], ?_⟩
    generalize hap : apf = ap
    cbv
    repeat' first
      | exact True.intro
      | (intro (hh : _ = true); first | with_reducible exact absurd hh (bk_t (by assumption)) | cbv)
      | (intro (hh : _ = false); first | with_reducible exact absurd hh (bk_f (by assumption)) | cbv)
      | with_reducible refine And.intro ?_ ?_
      | fail
    all_goals subst hap
    all_goals first
      | (simp only [apf_e, eqI', *]; done)
      | (simp_all [apf_e, cmF, neI]; done)
      | (simp_all [apf_e, onD, rdyE, hasB, failD, cmE, btE, cmF, geI, ltI, gtI, eqRows, eqN, eqI', eqB', leN, addN, V.cnt, neI, lenI, isBk_s, isWr_s, isBl_s, unbks_s, unwrs_s, unbls_s]; omega)
      | trace_state
  · rename_i c
    obtain ⟨d, h1, hw, h⟩ := bind_to h
    cases h
    cases dvR_to h1
    clear hok h h1
    refine ⟨rfl, by decide, [], ?_⟩
    generalize hap : apf = ap
    cbv
    repeat' first
      | exact True.intro
      | (intro (hh : _ = true); first | with_reducible exact absurd hh (bk_t (by assumption)) | cbv)
      | (intro (hh : _ = false); first | with_reducible exact absurd hh (bk_f (by assumption)) | cbv)
      | with_reducible refine And.intro ?_ ?_
      | fail
    all_goals subst hap
    all_goals simp only [apf_e, cmF, unbks_s, unwrs_s, unbls_s, dv_eta, isBk_s, isWr_s, isBl_s, addN, Nat.zero_add, rdy_t, rdy_f] at *
    all_goals try simp only [Bool.not_eq_eq_eq_not, Bool.not_true, Bool.not_false] at *
    all_goals try simp only [arF] at *
    all_goals first
      | (simp only [eqN, eqI', eqB', leN, V.cnt, Nat.le_refl, eqRows]; done)
      | exact hw
      | (have e := sr_off (d := d) (by assumption)
         simp only [e.1.1, e.1.2, e.2.1, e.2.2, eqN, eqI', eqB', eqRows, implies_true]
         done)
      | (have e := sr_max (d := d) (by assumption) (by assumption)
         simp only [e.1, e.2.1, e.2.2, eqN, eqI', eqB', eqRows, implies_true]
         done)
      | (have e := sr_st (d := d) (by assumption) (by assumption) (by assumption)
         simp only [e.1, e.2.1, e.2.2, eqN, eqI', eqB', eqRows, implies_true]
         done)
      | (have e := sr_ok (d := d) (by assumption) (by assumption) (by assumption)
         simp only [e.1, e.2.1, e.2.2, eqN, eqI', eqB', eqRows, implies_true]
         done)
      | trace_state
  · exact h.elim
theorem s26 : Sound Try.prog [] 26 (pu 26) (fun args => cStart apf (args.map litA)) := (fn_sound rfl Try.call26 ok26 co26 (env_cons s30 (env_cons s32 env_nil)) vc26).lits
end Go.Cx.Rd
/- CxdSD -/
namespace Go.Cx.Rd
open Go Go.Cx Go.Proofs
def dF : DvP := newD 2 0 0
def dF1 : DvP := addD (stD dF) 0 (zerosI 512)
def dF2 : DvP := { stD dF1 with cm := 5 }
theorem dF_w : wrtE dF 0 512 = 0 ∧ wrtD dF 0 512 (zerosI 512) = dF1 := ⟨rfl, rfl⟩
theorem dF1_w {l : List Int} : wrtE dF1 0 511 = 3 ∧ wrtD dF1 0 511 l = dF1 := ⟨rfl, rfl⟩
theorem dF1_a : advE dF1 5 = 0 ∧ advD dF1 5 = dF2 := ⟨rfl, rfl⟩
theorem dF2_a : advE dF2 5 = 16 ∧ advD dF2 5 = dF2 := ⟨rfl, rfl⟩
theorem dF_wf : wfD dF := ⟨rfl, rfl, fun _ h => absurd h (Nat.not_lt_zero _), by decide, by decide, by decide⟩
theorem dF1_wf : wfD dF1 := ⟨rfl, rfl, fun j h => by
  obtain rfl : j = 0 := Nat.lt_one_iff.1 h
  exact (by decide : (0 : Int) ≤ 0 ∧ (0 : Int) < 2), by decide, by decide, by decide⟩
theorem dF2_wf : wfD dF2 := dF1_wf
def cFixd (_ : AP) : Ctr
  | [] => .ok ⟨.tt, [], []⟩
  | _ => .fail 492
theorem newOk_lit : apf Int Prop (apf Int (Int → Prop) (apf Int (Int → Int → Prop) newOk 2) 0) 0 := (rfl : newB 2 0 0 = false)
set_option maxRecDepth 20000 in
set_option maxHeartbeats 2000000 in
theorem vc9 (args : List Arg) (out : Out) (h : (cFixd apf args).to out) (hok : okAs args) :
    args.length = ic9.nargs ∧ ic9.nargs ≤ ic9.ntmps ∧ ∃ A, run apf [(8, fun args => cNewY apf (args.map litA)), (10, fun args => cWrite apf (args.map litA)), (27, fun args => cAdv apf (args.map litA)), (19, fun args => cNb apf (args.map litA))] A ic9.body (fnQ apf args out ic9.res) (st0 [] true args) := by
  unfold cFixd at h
  split at h
  · cases h
    clear hok
    refine ⟨rfl, by decide, [], ?_⟩
    generalize hap : apf = ap
    cbv
    repeat' first
      | exact True.intro
      | (intro (hh : _ = true); first | with_reducible exact absurd hh (bk_t (by assumption)) | cbv)
      | (intro (hh : _ = false); first | with_reducible exact absurd hh (bk_f (by assumption)) | cbv)
      | with_reducible refine And.intro ?_ ?_
      | fail
    all_goals subst hap
    all_goals simp only [apf_e, cmF, unbks_s, unwrs_s, unbls_s, dv_eta, isBk_s, isWr_s, isBl_s, show newD 2 0 0 = dF from rfl] at *
    all_goals try simp only [show subL (zerosI 512) 0 512 = zerosI 512 from rfl, dF_w.1, dF_w.2, dF1_w.2, dF1_a.1, dF1_a.2, dF2_a.1, dF2_a.2] at *
    all_goals first
      | exact newOk_lit
      | exact dF_wf
      | exact dF1_wf
      | exact dF2_wf
      | exact ⟨by decide, by decide⟩
      | exact (by decide : 1 * 512 ≤ 140737488355328)
      | exact (by decide : 1 * 511 ≤ 140737488355328)
      | with_reducible rfl
      | exact (rfl : dF.nb = _)
      | (simp only [eqN]; done)
      | exact (by decide : 0 + 512 ≤ 512)
      | exact (by decide : 0 + 511 ≤ 511)
      | (exfalso
         have h : neI 3 3 = true := by assumption
         exact absurd h (by decide))
      | (exfalso
         have h : eqI (lenI 2) 2 = false := by assumption
         exact absurd h (by decide))
      | (exfalso
         have h : neI 16 16 = true := by assumption
         exact absurd h (by decide))
      | (exfalso
         simp [neI] at *
         done)
      | trace_state
  · exact h.elim
theorem s9 : Sound Try.prog [] 9 (pu 9) (cFixd apf) := fn_sound rfl Try.call9 ok9 co9 (env_cons s8y (env_cons s10 (env_cons s27 (env_cons s19 env_nil)))) vc9
end Go.Cx.Rd
/- CxdSE -/
namespace Go.Cx.Rd
open Go Go.Cx Go.Proofs
def cTamN (_ : AP) : Ctr
  | [.v .nilp, .v (.int .i64 _), .b _ 1 (.ints .u8 _ _)] => .ok ⟨.int .i64 1, [], []⟩
  | _ => .fail 493
set_option maxRecDepth 20000 in
set_option maxHeartbeats 2000000 in
theorem vc28n (args : List Arg) (out : Out) (h : (cTamN apf args).to out) (hok : okAs args) :
    args.length = ic28.nargs ∧ ic28.nargs ≤ ic28.ntmps ∧ ∃ A, run apf [] A ic28.body (fnQ apf args out ic28.res) (st0 [] false args) := by
  unfold cTamN at h
  split at h
  · cases h
    clear hok
    refine ⟨rfl, by decide, [], ?_⟩
    generalize hap : apf = ap
    cbv
    repeat' first
      | exact True.intro
      | (intro (hh : _ = true); first | with_reducible exact absurd hh (bk_t (by assumption)) | cbv)
      | (intro (hh : _ = false); first | with_reducible exact absurd hh (bk_f (by assumption)) | cbv)
      | with_reducible refine And.intro ?_ ?_
      | fail
    all_goals subst hap
    all_goals first
      | (simp only [apf_e, eqI', *]; done)
      | (simp_all [apf_e, onD, rdyE, hasB, failD, cmE, btE, cmF, geI, ltI, gtI, eqRows, eqN, eqI', eqB', leN, addN, V.cnt, neI, lenI, isBk_s, isWr_s, isBl_s, unbks_s, unwrs_s, unbls_s]; done)
      | (simp_all [apf_e, onD, rdyE, hasB, failD, cmE, btE, cmF, geI, ltI, gtI, eqRows, eqN, eqI', eqB', leN, addN, V.cnt, neI, lenI, isBk_s, isWr_s, isBl_s, unbks_s, unwrs_s, unbls_s]; omega)
      | trace_state
  · exact h.elim
theorem s28n : Sound Try.prog [] 28 (pu 28) (fun args => cTamN apf (args.map litA)) := (fn_sound rfl Try.call28 ok28 co28 env_nil vc28n).lits
def cLaw7 (_ : AP) : Ctr
  | [.v (.int .i64 _), .b _ 1 (.ints .u8 _ _), .v (.int .u64 _)] => .ok ⟨.tt, [], []⟩
  | _ => .fail 494
set_option maxRecDepth 20000 in
set_option maxHeartbeats 2000000 in
theorem vc7 (args : List Arg) (out : Out) (h : (cLaw7 apf args).to out) (hok : okAs args) :
    args.length = ic7.nargs ∧ ic7.nargs ≤ ic7.ntmps ∧ ∃ A, run apf [(13, fun args => cReadD apf (args.map litA)), (24, fun args => cCm apf (args.map litA)), (25, fun args => cBt apf (args.map litA)), (26, fun args => cStart apf (args.map litA)),
      (22, fun args => cImg apf (args.map litA)), (10, fun args => cWrite apf (args.map litA)), (17, fun args => cFlush apf (args.map litA)), (27, fun args => cAdv apf (args.map litA)), (14, fun args => cFail apf (args.map litA)),
      (15, fun args => cOff apf (args.map litA)), (16, fun args => cOn apf (args.map litA)), (28, fun args => cTamN apf (args.map litA)), (12, fun args => cFault apf (args.map litA)), (9, cFixd apf), (19, fun args => cNb apf (args.map litA)),
      (29, fun args => cTaken apf (args.map litA)), (21, fun args => cStN apf (args.map litA))] A ic7.body (fnQ apf args out ic7.res) (st0 [] true args) := by
  unfold cLaw7 at h
  split at h
  · rename_i b n m l k
    cases h
    obtain ⟨_, ⟨hn, ⟨rfl, _⟩, hl⟩, _⟩ := hok
    refine ⟨rfl, by decide, [(0, .unroll 14)], ?_⟩
    generalize hap : apf = ap
    cbv
    repeat' first
      | exact True.intro
      | (intro (hh : _ = true); first | with_reducible exact absurd hh (bk_t (by assumption)) | cbv)
      | (intro (hh : _ = false); first | with_reducible exact absurd hh (bk_f (by assumption)) | cbv)
      | with_reducible refine And.intro ?_ ?_
      | fail
    all_goals subst hap
    all_goals simp only [apf_e, cmF, leN, addN, ltN, V.cnt, Nat.zero_add, Nat.le_refl] at *
    all_goals clear hl hn
    all_goals first
      | decide
      | exact (rfl : eqI 0 0 = true)
      | (exfalso
         simp [neI, nthI, eqI, ltI, lenI] at *
         done)
      | (simp only [appN, *]; done)
      | trace_state
  · exact h.elim
theorem s7 : Sound Try.prog [] 7 true (cLaw7 apf) := fn_sound rfl Try.call7 ok7 co7 (env_cons s13 (env_cons s24 (env_cons s25 (env_cons s26 (env_cons s22 (env_cons s10 (env_cons s17 (env_cons s27 (env_cons s14 (env_cons s15 (env_cons s16 (env_cons s28n (env_cons s12 (env_cons s9 (env_cons s19 (env_cons s29 (env_cons s21 env_nil))))))))))))))))) vc7
end Go.Cx.Rd
/- CxdSF -/
namespace Go.Cx.Rd
open Go Go.Cx Go.Proofs
/-- a call of a script -/
structure OpP where
  k : Int
  b : Int
  c : Int
  n : Int
  g : Bool
end Go.Cx.Rd
/- CxdLaw1 -/
namespace Go.Proofs.Ytojllgpnhaaagaa.Law
open Go Go.ChangeShapes Go.WideShapes Go.ChangeAt Go.RowKit Go.Cx Go.Cx.Rd Go.ChangeMaps
theorem own : ownKnob Try.prog.godebug = none := by kernel_rfl
theorem cells5 : Try.prog.cellsOf 5 = 1 := by kernel_rfl
theorem bytes5 : Try.prog.bytesOf 5 = 1 := by kernel_rfl
/-- no variables -/
theorem noG {W : World} : ∀ n c, Go.Cx.look ([] : List (Nat × V)) n = some c → GloIs W n c := fun n c h => by cases h
noncomputable def laidWorld (os : Os) : World := World.holding Try.prog os ⟨#[], #[], []⟩
theorem laid_met (os : Os) (args : Array Value) : laidMet Try.prog [] ((laidWorld os).forCall (fun _ _ => 0) ⟨#[], args, []⟩).memory :=
  laidMet_of_run' 8 (by kernel_rfl) (by kernel_rfl)
end Go.Proofs.Ytojllgpnhaaagaa.Law
