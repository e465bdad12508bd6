/-
  What the laws of this claim stand on, part F: proved parts, no statement of its own.
-/
import Derived.Test.YtojllgpnhaaagaaDevCE
import Derived.KernelRfl
/- CxdSH -/
namespace Go.Cx.Rd
open Go Go.Cx Go.Proofs
def cLaw3 (ap : AP) : Ctr
  | [.v (.dsl n 5 (.rows 5 m f)), .v (.int .i64 _)] => .chk (ap _ _ (ap _ _ eqN m) n) <| .chk (ap _ _ isOps f) <| .chk (ap _ _ (ap _ _ leN n) 9223372036854775807) <| .ok ⟨.tt, [], []⟩
  | _ => .fail 495
def fP (bad : Int) (n : Nat) (s : FSt) : Prop := InvF bad s ∧ s.i ≤ n
def fMu (n : Nat) (s : FSt) : Nat := n - s.i
def eP (bad : Int) (i : Nat) (s : FSt) : Prop := InvF bad s ∧ i ≤ 5
structure ESt where
  i : Nat
  s : FSt
def a3 (ap : AP) (n : Nat) (z : Nat → OpP) (bad : Int) : List (Nat × Ann) := [
  (0, .inv Nat (fun i => ⟨[(0, .dsl n 5 (.rows 5 n (opV ap z))), (1, .int .i64 bad), (5, .ptr 19 []), (7, .ptr 7 []), (47, .int .i64 (ap _ _ lenI i))],
      [(19, ⟨.own, dvA ap (ap _ _ dFa bad)⟩), (7, ⟨.own, .rows 1 5 (swV ap (ap _ _ w0F i))⟩)], []⟩)
    (fun i => ap _ _ (ap _ _ leN i) 5) (fun i => ap _ _ (ap _ _ subN 5) i)),
  (1, .inv FSt (fun s => ⟨[(0, .dsl n 5 (.rows 5 n (opV ap z))), (1, .int .i64 bad), (5, .ptr 19 []), (7, .ptr 7 []), (59, .dsl n 5 (.rows 5 n (opV ap z))), (60, .int .i64 (ap _ _ lenI n)), (61, .int .i64 (ap _ _ lenI (ap _ _ FSt.i s)))],
      [(19, ⟨.own, dvA ap (ap _ _ FSt.d s)⟩), (7, ⟨.own, .rows 1 5 (swV ap (ap _ _ FSt.W s))⟩)], []⟩)
    (fun s => ap _ _ (ap _ _ (ap _ _ fP bad) n) s) (fun s => ap _ _ (ap _ _ fMu n) s)),
  (2, .inv ESt (fun x => ⟨[(1, .int .i64 bad), (5, .ptr 19 []), (7, .ptr 7 []), (124, .int .i64 (ap _ _ lenI (ap _ _ ESt.i x)))],
      [(19, ⟨.own, dvA ap (ap _ _ (ap _ _ dFe bad) (ap _ _ ESt.s x))⟩), (7, ⟨.own, .rows 1 5 (swV ap (ap _ _ FSt.W (ap _ _ ESt.s x)))⟩)], []⟩)
    (fun x => ap _ _ (ap _ _ (ap _ _ eP bad) (ap _ _ ESt.i x)) (ap _ _ ESt.s x)) (fun x => ap _ _ (ap _ _ subN 5) (ap _ _ ESt.i x)))]
theorem natI_lenI {n : Nat} : natI (lenI n) = n := Int.toNat_natCast n
theorem dFa_e {b : Int} : faultD (wrtD (newD 5 0 0) b 512 (filI 7 512)) b true true = dFa b := rfl
theorem dFe_e {b : Int} {s : FSt} : faultD s.d b false false = dFe b s := rfl
theorem fNx_d {b : Int} {z : Nat → OpP} {s : FSt} : (fNx b z s).d = wrtD s.d (blk 5 (z s.i).b) 512 (filI (z s.i).c 512) := rfl
theorem fNx_i {b : Int} {z : Nat → OpP} {s : FSt} : (fNx b z s).i = s.i + 1 := rfl
theorem sF0_d {b : Int} : (sF0 b).d = dFa b := rfl
theorem sF0_i {b : Int} : (sF0 b).i = 0 := rfl
theorem newOk5 : newOk 5 0 0 := (rfl : newB 5 0 0 = false)
theorem new5_room : roomD (newD 5 0 0) := ⟨by decide, by decide⟩
theorem new5_wf' {b : Int} {l : List Int} (hb : 0 ≤ b ∧ b < 5) : wfD (wrtD (newD 5 0 0) b 512 l) := by
  rw [(new5 hb).2.1]
  exact wf_add new5_wf (hasB_t.2 hb) ⟨by decide, by decide⟩
theorem new5_has {b : Int} {l : List Int} (hb : 0 ≤ b ∧ b < 5) : hasE (wrtD (newD 5 0 0) b 512 l) b = 0 := by rw [hasE, (new5 hb).2.2]; rfl
def eNx (x : ESt) : ESt := ⟨x.i + 1, x.s⟩
theorem eNx_s {x : ESt} : (eNx x).s = x.s := rfl
theorem eNx_i {x : ESt} : (eNx x).i = sucN x.i := rfl
theorem fWf {bad : Int} {s : FSt} (h : InvF bad s) {b : Int} {l : List Int} (hb : 0 ≤ b ∧ b < 5) : wfD (wrtD s.d b 512 l) := by
  by_cases e : b = bad
  · rw [(fBad h hb e).2.1]
    exact h.1
  · rw [(fGood h hb e).2.1]
    exact wf_add h.1 (invF_has h hb) (invF_room h)
theorem fRow_bad {bad : Int} {z : Nat → OpP} {s : FSt} (e : blk 5 (z s.i).b = bad) : eqRows 5 (swV apf (fNx bad z s).W) (swV apf s.W) := by
  rw [fNx, if_pos e]
  exact fun _ _ => rfl
theorem fRow_good {bad : Int} {z : Nat → OpP} {s : FSt} (e : blk 5 (z s.i).b ≠ bad) : eqRows 5 (swV apf (fNx bad z s).W) (updR (swV apf s.W) (natI (blk 5 (z s.i).b)) (V.str (filI (z s.i).c 512))) := by
  rw [fNx, if_neg e]
  intro j _
  show nV (swV apf (upd s.W (blk 5 (z s.i).b).toNat (filL (z s.i).c)) j) = _
  by_cases h : j = (blk 5 (z s.i).b).toNat
  · simp [swV, updR, upd, h, apf_e, nV, natI, filL]
  · simp [swV, updR, upd, h, apf_e, nV, natI]
theorem w0F_zero : eqRows 5 (swV apf (w0F 0)) fun _ => ZT.valA apf (ZT.v (V.str [])) := fun _ _ => rfl
set_option maxRecDepth 20000 in
theorem w0F_next {i : Nat} : eqRows 5 (swV apf (w0F (sucN i))) (updR (swV apf (w0F i)) i (V.str (subL (zerosI 512) 0 512))) := by
  intro j _
  rw [show subL (zerosI 512) 0 512 = zerosI 512 from rfl]
  by_cases h : j = i
  · simp [swV, updR, w0F, sucN, h, apf_e, nV]
  · have e : (j < i + 1) = (j < i) := propext (by omega)
    simp [swV, updR, w0F, sucN, h, apf_e, nV, e]
theorem sF0_row {b : Int} : eqRows 5 (swV apf (sF0 b).W) (updR (swV apf (w0F 5)) (natI b) (V.str (filI 7 512))) := by
  intro j _
  show nV (swV apf (upd (w0F 5) b.toNat (filL 7)) j) = _
  by_cases h : j = b.toNat
  · simp [swV, updR, upd, h, apf_e, nV, natI, filL]
  · simp [swV, updR, upd, h, apf_e, nV, natI]
theorem fHas {bad : Int} {s : FSt} (h : InvF bad s) {b : Int} (hb : 0 ≤ b ∧ b < 5) : hasE s.d b = 0 := by rw [hasE, invF_has h hb]; rfl
theorem lt_n {i n : Nat} (h : ltI (lenI i) (lenI n) = true) : ltN i n := Int.ofNat_lt.1 (of_decide_eq_true h)
theorem lt_5 {i : Nat} (h : ltI (lenI i) 5 = true) : ltN i 5 := lt_n (n := 5) h
theorem ge_5 {i : Nat} (h : leN i 5) (h2 : ltI (lenI i) 5 = false) : i = 5 := by
  have h : i ≤ 5 := h
  have h2 : ¬ (i : Int) < 5 := of_decide_eq_false h2
  omega
theorem ge_60 {i : Nat} (h : geI (lenI i) 60 = false) : i < 60 := by
  have h : ¬ (60 : Int) ≤ (i : Int) := of_decide_eq_false h
  omega
set_option maxRecDepth 20000 in
set_option maxHeartbeats 4000000 in
theorem vc3 (args : List Arg) (out : Out) (h : (cLaw3 apf args).to out) (hok : okAs args) :
    args.length = ic3.nargs ∧ ic3.nargs ≤ ic3.ntmps ∧ ∃ A, run apf [(8, fun args => cNewY apf (args.map litA)), (9, cFixd apf), (10, fun args => nWrite apf (args.map litA)), (11, fun args => cFilledF apf (args.map litA)),
      (12, fun args => nFault apf (args.map litA)), (13, fun args => nReadD apf (args.map litA))] A ic3.body (fnQ apf args out ic3.res) (st0 [] true args) := by
  unfold cLaw3 at h
  split at h
  · rename_i n m f bad0
    obtain ⟨hm, hf, hn, h⟩ := h
    cases h
    obtain rfl : m = n := hm
    have hf : isOps f := hf
    obtain ⟨z, rfl⟩ : ∃ z, f = opV apf z := ⟨_, hf⟩
    clear hok hf
    refine ⟨rfl, by decide, a3 apf m z (apf _ _ (apf _ _ blk 5) bad0), ?_⟩
    have hbb : 0 ≤ blk 5 bad0 ∧ blk 5 bad0 < 5 := blk_lt (n := 5) (by decide) (by decide)
    have hP0 : apf _ _ (apf _ _ leN 0) 5 := Nat.zero_le _
    have hP1 : apf _ _ (apf _ _ (apf _ _ fP (apf _ _ (apf _ _ blk 5) bad0)) m) (apf _ _ sF0 (apf _ _ (apf _ _ blk 5) bad0)) := ⟨invF_0 hbb, Nat.zero_le _⟩
    have hU : ∀ (f : Nat → V) (i : Nat) (w : V), apf _ _ (apf _ _ (apf _ _ updR f) i) w i = w := fun f i w => if_pos rfl
    generalize hap : apf = ap at hP0 hP1 hU ⊢
    cbv
    repeat' first
      | exact True.intro
      | (intro (hh : _ = true); first | with_reducible exact absurd hh (bk_t (by assumption)) | cbv)
      | (intro (hh : _ = false); first | with_reducible exact absurd hh (bk_f (by assumption)) | cbv)
      | with_reducible refine And.intro ?_ ?_
      | (intro (y : DvP) (hy : _ = y); cbv)
      | (refine ⟨(0 : Nat), hP0, ?_⟩; cbv)
      | fail
    all_goals first
      | (intro (i : Nat) hi k1 k2
         clear k1 k2
         cbv
         repeat' first
           | exact True.intro
           | (intro (hh : _ = true); first | with_reducible exact absurd hh (bk_t (by assumption)) | cbv)
           | (intro (hh : _ = false); first | with_reducible exact absurd hh (bk_f (by assumption)) | cbv)
           | with_reducible refine And.intro ?_ ?_
           | (intro (y : DvP) (hy : _ = y); cbv)
           | (refine ⟨ap _ _ sucN i, ?_, (?_ : _ < _), ?_⟩; rotate_left 2; try cbv)
           | (refine ⟨ap _ _ sF0 (ap _ _ (ap _ _ blk 5) bad0), hP1, ?_⟩; try cbv)
         all_goals first
           | (intro (s : FSt) hs k1 k2
              clear k1 k2
              cbv
              repeat' first
                | exact True.intro
                | (intro (hh : _ = true); first | with_reducible exact absurd hh (bk_t (by assumption)) | cbv)
                | (intro (hh : _ = false); first | with_reducible exact absurd hh (bk_f (by assumption)) | cbv)
                | with_reducible refine And.intro ?_ ?_
                | (intro (y : DvP) (hy : _ = y); cbv)
                | (simp only [hU]; cbv)
                | (refine ⟨ap _ _ (ap _ _ (ap _ _ fNx (ap _ _ (ap _ _ blk 5) bad0)) z) s, ?_, (?_ : _ < _), ?_⟩; rotate_left 2; try cbv)
                | (refine ⟨ESt.mk 0 s, ?_, ?_⟩; rotate_left 1; try cbv)
              all_goals first
                | (intro (x : ESt) hx k1 k2
                   clear k1 k2
                   cbv
                   repeat' first
                     | exact True.intro
                     | (intro (hh : _ = true); first | with_reducible exact absurd hh (bk_t (by assumption)) | cbv)
                     | (intro (hh : _ = false); first | with_reducible exact absurd hh (bk_f (by assumption)) | cbv)
                     | with_reducible refine And.intro ?_ ?_
                     | (intro (y : DvP) (hy : _ = y); cbv)
                     | (simp only; cbv)
                     | (refine ⟨ap _ _ eNx x, ?_, (?_ : _ < _), ?_⟩; rotate_left 2; try cbv))
                | skip)
           | skip)
      | skip
    all_goals subst hap
    all_goals simp only [apf_e, cmF, dvMk_s, blk_e, natI_lenI] at *
    all_goals subst_vars
    all_goals try simp only [dFa_e, dFe_e, fNx_d, fNx_i, sF0_d, sF0_i, eNx_s, eNx_i, (new5 (l := filI 7 512) hbb).1, new5_has (l := filI 7 512) hbb] at *
    all_goals first
      | exact dvOk_s _
      | (simp only [eqN, eqI', eqB', leN, addN, V.cnt, Nat.zero_add, Nat.le_refl, eqRows, implies_true]; done)
      | exact newOk5
      | exact new5_wf
      | exact new5_room
      | exact new5_wf' hbb
      | (exfalso
         have h0 : neI 0 0 = true := by assumption
         exact absurd h0 (by decide))
      | exact (rfl : lenI 0 = 0)
      | exact w0F_zero
      | exact w0F_next
      | exact (by decide : 1 * 512 ≤ 140737488355328)
      | exact hbb.1
      | exact idx_lt hbb
      | exact Int.natCast_nonneg _
      | exact lt_n (by assumption)
      | exact lt_5 (by assumption)
      | exact (show fP _ _ _ by assumption).1.1
      | exact ⟨(show fP _ _ _ by assumption).1, Nat.zero_le _⟩
      | exact (fEnd (show eP _ _ _ by assumption).1 hbb (j := 0) (by decide)).1
      | (exfalso
         have hs : fP (blk 5 bad0) m s := by assumption
         have h : neI (hasE s.d (blk 5 bad0)) 0 = true := by assumption
         rw [fHas hs.1 hbb] at h
         exact absurd h (by decide))
      | (have hlt : i < 5 := lt_5 (by assumption)
         first
           | exact len_suc hlt (by decide)
           | exact sub_lt' hlt
           | exact hlt)
      | (have h5 : i = 5 := ge_5 (by assumption) (by assumption)
         subst h5
         exact sF0_row)
      | (have hx : eP (blk 5 bad0) x.i x.s := by assumption
         have hlt : x.i < 5 := lt_5 (by assumption)
         obtain ⟨f1, f2, f3⟩ := fEnd hx.1 hbb hlt
         first
           | exact len_suc hlt (by decide)
           | exact sub_lt' hlt
           | exact ⟨hx.1, hlt⟩
           | (exfalso
              have h : neI (readE (dFe (blk 5 bad0) x.s) (lenI x.i)) 0 = true := by assumption
              exact absurd (ne_t'.1 h) (fun k => k f2))
           | (exfalso
              have h : notB (eqL (readB (dFe (blk 5 bad0) x.s) (lenI x.i)) (x.s.W x.i)) = true := by assumption
              exact absurd f3 (eqL_f.1 (notB_t.1 h))))
      | (have hs : fP (blk 5 bad0) m s := by assumption
         have hb2 : 0 ≤ blk 5 (z s.i).b ∧ blk 5 (z s.i).b < 5 := blk_lt (n := 5) (by decide) (by decide)
         have h60 : s.i < 60 := ge_60 (by assumption)
         have hlt : s.i < m := lt_n (by assumption)
         first
           | exact invF_room hs.1
           | exact fWf hs.1 hb2
           | exact hb2.1
           | exact idx_lt hb2
           | exact len_suc h60 (by decide)
           | exact ⟨invF_next hs.1 h60, hlt⟩
           | exact sub_lt' hlt
           | exact fRow_bad (eq_t.1 (by assumption))
           | exact fRow_good (eq_f.1 (by assumption))
           | (exfalso
              have e : eqI (blk 5 (z s.i).b) (blk 5 bad0) = true := by assumption
              have e := eq_t.1 e
              obtain ⟨f1, f2, f3, f4⟩ := fBad (l := filI (z s.i).c 512) hs.1 hb2 e
              first
                | exact absurd f1 (ne_t'.1 (by assumption))
                | exact absurd (f2.symm ▸ f3) (ne_t'.1 (by assumption))
                | (have h : neI (lenI (llen (readB (wrtD s.d (blk 5 (z s.i).b) 512 (filI (z s.i).c 512)) (blk 5 (z s.i).b)))) 0 = true := by assumption
                   rw [f2, f4] at h
                   exact absurd h (by decide)))
           | (exfalso
              have e : eqI (blk 5 (z s.i).b) (blk 5 bad0) = false := by assumption
              have e := eq_f.1 e
              obtain ⟨f1, f2, f3, f4⟩ := fGood (l := filI (z s.i).c 512) hs.1 hb2 e
              first
                | exact absurd f1 (ne_t'.1 (by assumption))
                | exact absurd (f2.symm ▸ f3) (ne_t'.1 (by assumption))
                | exact absurd (f2.symm ▸ f4) (eqL_f.1 (notB_t.1 (by assumption)))))
  · exact h.elim
theorem s3 : Sound Try.prog [] 3 true (cLaw3 apf) := fn_sound rfl Try.call3 ok3 co3 (env_cons s8y (env_cons s9 (env_cons n10 (env_cons s11f (env_cons n12 (env_cons n13 env_nil)))))) vc3
end Go.Cx.Rd
/- CxdSI -/
namespace Go.Cx.Rd
open Go Go.Cx Go.Proofs
/-- a device of nb blocks without refusals, its power on, no step of it to fail -/
def PlOk (nb : Nat) (d : DvP) : Prop := wfD d ∧ d.off = false ∧ d.ps = false ∧ d.nb = nb ∧ ∀ j, d.rd j = false ∧ d.wr j = false
theorem pl_has {nb : Nat} {d : DvP} (h : PlOk nb d) {b : Int} (hb : 0 ≤ b ∧ b < nb) : hasB d b = true := hasB_t.2 ⟨hb.1, by rw [h.2.2.2.1]; exact hb.2⟩
theorem pl_new {nb : Nat} (h : nb ≤ 256) : PlOk nb (newD nb 0 0) :=
  ⟨⟨rfl, rfl, fun _ h => absurd h (Nat.not_lt_zero _), by show (nb : Int).toNat ≤ 1000000; omega, Nat.zero_le _, Nat.zero_le _⟩, rfl, rfl, Int.toNat_natCast nb, fun _ => ⟨rfl, rfl⟩⟩
theorem pl_write {nb : Nat} {d : DvP} (h : PlOk nb d) (hr : roomD d) {b : Int} {l : List Int} (hb : 0 ≤ b ∧ b < nb) :
    wrtE d b 512 = 0 ∧ wrtD d b 512 l = addD (stD d) b l ∧ PlOk nb (addD (stD d) b l) := by
  have hh := pl_has h hb
  obtain ⟨h1, h2, h3, h4, h5⟩ := h
  have w := wr_plain (d := d) (b := b) (l := l) h2 h3 hh (h5 _).2
  exact ⟨w.1, w.2, wf_add h1 hh hr, h2, h3, h4, h5⟩
theorem pl_read {nb : Nat} {d : DvP} (h : PlOk nb d) {b : Int} (hb : 0 ≤ b ∧ b < nb) : readE d b = 0 ∧ readB d b = contD d b := rd_ok h.2.1 (pl_has h hb) (h.2.2.2.2 _).1
theorem lay_cont {d : DvP} {b : Int} (hb : 0 ≤ b) : ∀ i, i ≤ d.nt → (∀ j, j < d.nt → 0 ≤ (d.T j).1) → layI d.T allT d.L i b.toNat = contI d b i := by
  intro i
  induction i with
  | zero => intro _ _; rfl
  | succ i ih =>
    intro hi h
    have h0 := h i hi
    rw [lay_yes rfl, contI, upd]
    by_cases e : (d.T i).1 = b
    · rw [if_pos (by rw [e]), if_pos e]
    · rw [if_neg (by omega), if_neg e]
      exact ih (by omega) h
theorem pl_flush {nb : Nat} {d : DvP} (h : PlOk nb d) : flE d = 0 ∧ PlOk nb (flD d) ∧ (flD d).nt = 0 ∧ (flD d).ng = d.ng ∧ ∀ b : Int, 0 ≤ b → (flD d).L b.toNat = contD d b := by
  obtain ⟨h1, h2, h3, h4, h5⟩ := h
  obtain ⟨e1, e2⟩ := st_no h3
  obtain ⟨f1, f2⟩ := fl_ok (d := d) h2 (by rw [e2]; rfl) rfl
  rw [e1] at f2
  rw [f2]
  refine ⟨f1, ⟨⟨h1.1, h1.2.1, fun _ h => absurd h (Nat.not_lt_zero _), h1.2.2.2.1, Nat.zero_le _, h1.2.2.2.2.2⟩, h2, h3, h4, h5⟩, rfl, rfl, fun b hb => ?_⟩
  show layI d.T allT d.L d.nt b.toNat = _
  rw [lay_cont hb _ (Nat.le_refl _) (fun j hj => (h1.2.2.1 j hj).1)]
  rfl
/-- the power off, and on -/
def cyD (k : Int) (d : DvP) : DvP := onD (offD d k)
theorem lay_free {T : Nat → Int × List Int} {s : Nat → Bool} {L : Nat → List Int} {j : Nat} : ∀ i, (∀ k, k < i → s k = true → (T k).1.toNat ≠ j) → layI T s L i j = L j := by
  intro i
  induction i with
  | zero => intro _; rfl
  | succ i ih =>
    intro h
    have hi := ih (fun k hk => h k (Nat.lt_succ_of_lt hk))
    cases hs : s i with
    | true =>
      rw [lay_yes hs, upd, if_neg (fun e => h i (Nat.lt_succ_self _) hs e.symm)]
      exact hi
    | false =>
      rw [lay_no hs]
      exact hi
theorem pl_cycle {nb : Nat} {d : DvP} {k : Int} (h : PlOk nb d) : PlOk nb (cyD k d) ∧ (cyD k d).nt = 0 ∧ (cyD k d).ng = d.ng ∧ (cyD k d).L = layI d.T (bitK k) d.L d.nt := by
  obtain ⟨h1, h2, h3, h4, h5⟩ := h
  unfold cyD
  rw [off_f h2]
  exact ⟨⟨⟨h1.1, h1.2.1, fun _ h => absurd h (Nat.not_lt_zero _), h1.2.2.2.1, Nat.zero_le _, h1.2.2.2.2.2⟩, rfl, rfl, h4, h5⟩, rfl, rfl, rfl⟩
theorem bitK_0 {i : Nat} : bitK 0 i = false := by
  have e : ∀ n, bshr .u64 0 n = 0 := fun n => Int.zero_fdiv _
  unfold bitK
  rw [e]
  rfl
def InvA (m : Nat) (s : FSt) : Prop := PlOk 8 s.d ∧ s.d.nt ≤ s.i ∧ s.d.ng ≤ s.i ∧ s.i ≤ 100 ∧ s.i ≤ m ∧ ∀ j : Nat, j < 8 → contD s.d j = s.W j
def fNa (z : Nat → OpP) (s : FSt) : FSt := ⟨s.i + 1, wrtD s.d (blk 8 (z s.i).b) 512 (filL (z s.i).c), upd s.W (blk 8 (z s.i).b).toNat (filL (z s.i).c)⟩
def sA0 (_ : Nat) : FSt := ⟨0, newD 8 0 0, w0F 8⟩
theorem blk8 {x : Int} : 0 ≤ blk 8 x ∧ blk 8 x < 8 := blk_lt (n := 8) (by decide) (by decide)
theorem invA_0 {m : Nat} : InvA m (sA0 m) := ⟨pl_new (nb := 8) (by decide), Nat.zero_le _, Nat.zero_le _, Nat.zero_le _, Nat.zero_le _, fun j hj => by
  show _ = w0F 8 j
  rw [w0F, if_pos hj]
  rfl⟩
theorem invA_room {m : Nat} {s : FSt} (h : InvA m s) : roomD s.d := by
  obtain ⟨_, h1, h2, h3, _⟩ := h
  exact ⟨by omega, by omega⟩
theorem aWr {m : Nat} {s : FSt} (h : InvA m s) {b : Int} (hb : 0 ≤ b ∧ b < 8) {l : List Int} : wrtE s.d b 512 = 0 ∧ wrtD s.d b 512 l = addD (stD s.d) b l ∧ PlOk 8 (addD (stD s.d) b l) := pl_write h.1 (invA_room h) hb
theorem upd_cont {d : DvP} {W : Nat → List Int} {b : Int} {l : List Int} {n : Nat} (hb : 0 ≤ b) (h : ∀ j : Nat, j < n → contD d j = W j) : ∀ j : Nat, j < n → contD (addD (stD d) b l) j = upd W b.toNat l j := by
  intro j hj
  rw [cont_add, upd]
  by_cases e : b = (j : Int)
  · rw [if_pos e, if_pos (by omega)]
  · rw [if_neg e, if_neg (by omega), cont_st]
    exact h j hj
theorem invA_next {m : Nat} {z : Nat → OpP} {s : FSt} (h : InvA m s) (hi : s.i < 100) (hm : s.i < m) : InvA m (fNa z s) := by
  obtain ⟨_, w, p⟩ := aWr h (b := blk 8 (z s.i).b) (l := filL (z s.i).c) blk8
  obtain ⟨h1, h2, h3, h4, h5, h6⟩ := h
  unfold fNa
  rw [w]
  exact ⟨p, Nat.succ_le_succ h2, Nat.succ_le_succ h3, hi, hm, upd_cont blk8.1 h6⟩
/-- the second script: also which blocks are touched -/
structure GSt where
  i : Nat
  d : DvP
  W : Nat → List Int
  U : Nat → Bool
def gS0 (s : FSt) : GSt := ⟨0, flD s.d, s.W, noB⟩
def fNb (z : Nat → OpP) (s : GSt) : GSt := ⟨s.i + 1, wrtD s.d (blk 8 (z s.i).b) 512 (filL (wadd .u8 (z s.i).c 1)), s.W, upd s.U (blk 8 (z s.i).b).toNat true⟩
def InvB (m : Nat) (s : GSt) : Prop := PlOk 8 s.d ∧ s.d.nt ≤ s.i ∧ s.d.ng ≤ 100 + s.i ∧ s.i ≤ 100 ∧ s.i ≤ m ∧ (∀ j : Nat, j < 8 → s.d.L j = s.W j) ∧ ∀ k, k < s.d.nt → s.U (s.d.T k).1.toNat = true
theorem invB_0 {m n : Nat} {s : FSt} (h : InvA m s) : InvB n (gS0 s) := by
  obtain ⟨f1, f2, f3, f4, f5⟩ := pl_flush h.1
  refine ⟨f2, by show (flD s.d).nt ≤ 0; rw [f3]; exact Nat.le_refl _, by show (flD s.d).ng ≤ 100; rw [f4]; exact Nat.le_trans h.2.2.1 h.2.2.2.1, Nat.zero_le _, Nat.zero_le _, fun j hj => ?_, fun k hk => ?_⟩
  · show (flD s.d).L j = s.W j
    rw [← h.2.2.2.2.2 j hj, ← f5 (j : Int) (Int.natCast_nonneg j)]
    rfl
  · have hk : k < (flD s.d).nt := hk
    rw [f3] at hk
    exact absurd hk (Nat.not_lt_zero _)
theorem invB_room {m : Nat} {s : GSt} (h : InvB m s) : roomD s.d := by
  obtain ⟨_, h1, h2, h3, _⟩ := h
  exact ⟨by omega, by omega⟩
theorem bWr {m : Nat} {s : GSt} (h : InvB m s) {b : Int} (hb : 0 ≤ b ∧ b < 8) {l : List Int} : wrtE s.d b 512 = 0 ∧ wrtD s.d b 512 l = addD (stD s.d) b l ∧ PlOk 8 (addD (stD s.d) b l) := pl_write h.1 (invB_room h) hb
theorem invB_next {m : Nat} {z : Nat → OpP} {s : GSt} (h : InvB m s) (hi : s.i < 100) (hm : s.i < m) : InvB m (fNb z s) := by
  obtain ⟨_, w, p⟩ := bWr h (b := blk 8 (z s.i).b) (l := filL (wadd .u8 (z s.i).c 1)) blk8
  obtain ⟨h1, h2, h3, h4, h5, h6, h7⟩ := h
  unfold fNb
  rw [w]
  refine ⟨p, Nat.succ_le_succ h2, Nat.succ_le_succ h3, hi, hm, h6, fun k hk => ?_⟩
  have hk : k < s.d.nt + 1 := hk
  show upd s.U _ true ((appW s.d.T s.d.nt (blk 8 (z s.i).b, filL (wadd .u8 (z s.i).c 1)) k).1.toNat) = true
  rw [appW]
  by_cases e : k < s.d.nt
  · rw [if_pos e, upd]
    split
    · rfl
    · exact h7 k e
  · rw [if_neg e, upd, if_pos rfl]
/-- what is found at the end -/
theorem bEnd {m : Nat} {s : GSt} {k : Int} (h : InvB m s) {j : Nat} (hj : j < 8) :
    wfD (cyD k s.d) ∧ readE (cyD k s.d) j = 0 ∧ (s.U j = false → readB (cyD k s.d) j = s.W j) ∧ (k = 0 → readB (cyD k s.d) j = s.W j) := by
  obtain ⟨c1, c2, c3, c4⟩ := pl_cycle (k := k) h.1
  have hj' : 0 ≤ (j : Int) ∧ (j : Int) < (8 : Nat) := by omega
  obtain ⟨r1, r2⟩ := pl_read c1 hj'
  have e : readB (cyD k s.d) j = layI s.d.T (bitK k) s.d.L s.d.nt j := by
    rw [r2, contD, c2, contI, c4]
    rfl
  refine ⟨c1.1, r1, fun hU => ?_, fun hk => ?_⟩
  · rw [e, lay_free _ (fun k hk _ e => ?_), h.2.2.2.2.2.1 j hj]
    have := h.2.2.2.2.2.2 k hk
    rw [e, hU] at this
    cases this
  · rw [e, lay_free _ (fun i _ hs => ?_), h.2.2.2.2.2.1 j hj]
    rw [hk, bitK_0] at hs
    cases hs
end Go.Cx.Rd
/- CxdSJ -/
namespace Go.Cx.Rd
open Go Go.Cx Go.Proofs
def cLaw5 (ap : AP) : Ctr
  | [.v (.dsl n 5 (.rows 5 m f)), .v (.dsl n' 5 (.rows 5 m' f')), .v (.int .u64 _)] => .chk (ap _ _ (ap _ _ eqN m) n) <| .chk (ap _ _ (ap _ _ eqN m') n') <| .chk (ap _ _ isOps f) <| .chk (ap _ _ isOps f') <| .ok ⟨.tt, [], []⟩
  | _ => .fail 496
def gMu (n : Nat) (s : GSt) : Nat := n - s.i
structure HSt where
  i : Nat
  s : GSt
def hP (m : Nat) (i : Nat) (s : GSt) : Prop := InvB m s ∧ i ≤ 8
def hNx (x : HSt) : HSt := ⟨x.i + 1, x.s⟩
def a5 (ap : AP) (n m : Nat) (z y : Nat → OpP) (k : Int) : List (Nat × Ann) := [
  (0, .inv Nat (fun i => ⟨[(0, .dsl n 5 (.rows 5 n (opV ap z))), (1, .dsl m 5 (.rows 5 m (opV ap y))), (2, .int .u64 k), (7, .ptr 22 []), (9, .ptr 9 []), (35, .int .i64 (ap _ _ lenI i))],
      [(22, ⟨.own, dvA ap (ap _ _ (ap _ _ (ap _ _ newD 8) 0) 0)⟩), (9, ⟨.own, .rows 1 8 (swV ap (ap _ _ w0F i))⟩)], []⟩)
    (fun i => ap _ _ (ap _ _ leN i) 8) (fun i => ap _ _ (ap _ _ subN 8) i)),
  (1, .inv FSt (fun s => ⟨[(1, .dsl m 5 (.rows 5 m (opV ap y))), (2, .int .u64 k), (7, .ptr 22 []), (9, .ptr 9 []), (43, .dsl n 5 (.rows 5 n (opV ap z))), (44, .int .i64 (ap _ _ lenI n)), (45, .int .i64 (ap _ _ lenI (ap _ _ FSt.i s)))],
      [(22, ⟨.own, dvA ap (ap _ _ FSt.d s)⟩), (9, ⟨.own, .rows 1 8 (swV ap (ap _ _ FSt.W s))⟩)], []⟩)
    (fun s => ap _ _ (ap _ _ InvA n) s) (fun s => ap _ _ (ap _ _ fMu n) s)),
  (2, .inv GSt (fun s => ⟨[(2, .int .u64 k), (7, .ptr 22 []), (9, .ptr 9 []), (14, .ptr 14 []), (74, .dsl m 5 (.rows 5 m (opV ap y))), (75, .int .i64 (ap _ _ lenI m)), (76, .int .i64 (ap _ _ lenI (ap _ _ GSt.i s)))],
      [(22, ⟨.own, dvA ap (ap _ _ GSt.d s)⟩), (9, ⟨.own, .rows 1 8 (swV ap (ap _ _ GSt.W s))⟩), (14, ⟨.own, .rows 1 8 (blV ap (ap _ _ GSt.U s))⟩)], []⟩)
    (fun s => ap _ _ (ap _ _ InvB m) s) (fun s => ap _ _ (ap _ _ gMu m) s)),
  (3, .inv HSt (fun x => ⟨[(2, .int .u64 k), (7, .ptr 22 []), (9, .ptr 9 []), (14, .ptr 14 []), (108, .int .i64 (ap _ _ lenI (ap _ _ HSt.i x)))],
      [(22, ⟨.own, dvA ap (ap _ _ (ap _ _ cyD k) (ap _ _ GSt.d (ap _ _ HSt.s x)))⟩), (9, ⟨.own, .rows 1 8 (swV ap (ap _ _ GSt.W (ap _ _ HSt.s x)))⟩), (14, ⟨.own, .rows 1 8 (blV ap (ap _ _ GSt.U (ap _ _ HSt.s x)))⟩)], []⟩)
    (fun x => ap _ _ (ap _ _ (ap _ _ hP m) (ap _ _ HSt.i x)) (ap _ _ HSt.s x)) (fun x => ap _ _ (ap _ _ subN 8) (ap _ _ HSt.i x)))]
theorem fNa_d {z : Nat → OpP} {s : FSt} : (fNa z s).d = wrtD s.d (blk 8 (z s.i).b) 512 (filI (z s.i).c 512) := rfl
theorem fNa_i {z : Nat → OpP} {s : FSt} : (fNa z s).i = s.i + 1 := rfl
theorem fNb_d {z : Nat → OpP} {s : GSt} : (fNb z s).d = wrtD s.d (blk 8 (z s.i).b) 512 (filI (arF .add .u8 (z s.i).c 1) 512) := rfl
theorem fNb_i {z : Nat → OpP} {s : GSt} : (fNb z s).i = s.i + 1 := rfl
theorem fNb_W {z : Nat → OpP} {s : GSt} : (fNb z s).W = s.W := rfl
theorem sA0_d {n : Nat} : (sA0 n).d = newD 8 0 0 := rfl
theorem sA0_i {n : Nat} : (sA0 n).i = 0 := rfl
theorem gS0_d {s : FSt} : (gS0 s).d = flD s.d := rfl
theorem gS0_i {s : FSt} : (gS0 s).i = 0 := rfl
theorem gS0_W {s : FSt} : (gS0 s).W = s.W := rfl
theorem hNx_s {x : HSt} : (hNx x).s = x.s := rfl
theorem hNx_i {x : HSt} : (hNx x).i = sucN x.i := rfl
theorem cy_e {k : Int} {d : DvP} : onD (offD d k) = cyD k d := rfl
theorem newOk8 : newOk 8 0 0 := (rfl : newB 8 0 0 = false)
theorem lt_8 {i : Nat} (h : ltI (lenI i) 8 = true) : ltN i 8 := lt_n (n := 8) h
theorem ge_8 {i : Nat} (h : leN i 8) (h2 : ltI (lenI i) 8 = false) : i = 8 := by
  have h : i ≤ 8 := h
  have h2 : ¬ (i : Int) < 8 := of_decide_eq_false h2
  omega
theorem ge_100 {i : Nat} (h : geI (lenI i) 100 = false) : i < 100 := by
  have h : ¬ (100 : Int) ≤ (i : Int) := of_decide_eq_false h
  omega
theorem w0F_next8 {i : Nat} : eqRows 8 (swV apf (w0F (sucN i))) (updR (swV apf (w0F i)) i (V.str (zerosI 512))) := by
  intro j _
  by_cases h : j = i
  · simp [swV, updR, w0F, sucN, h, apf_e, nV]
  · have e : (j < i + 1) = (j < i) := propext (by omega)
    simp [swV, updR, w0F, sucN, h, apf_e, nV, e]
theorem w0F_zero8 : eqRows 8 (swV apf (w0F 0)) fun _ => ZT.valA apf (ZT.v (V.str [])) := fun _ _ => rfl
theorem noB_zero8 {s : FSt} : eqRows 8 (blV apf (gS0 s).U) fun _ => ZT.valA apf (ZT.v V.ff) := fun _ _ => rfl
theorem sw_upd {W : Nat → List Int} {i n : Nat} {l : List Int} : eqRows n (swV apf (upd W i l)) (updR (swV apf W) i (V.str l)) := by
  intro j _
  by_cases h : j = i
  · simp [swV, updR, upd, h, apf_e, nV]
  · simp [swV, updR, upd, h, apf_e, nV]
theorem bl_updT {U : Nat → Bool} {i n : Nat} : eqRows n (blV apf (upd U i true)) (updR (blV apf U) i V.tt) := by
  intro j _
  by_cases h : j = i
  · simp [blV, updR, upd, h, apf_e, nV]
  · simp [blV, updR, upd, h, apf_e, nV]
theorem eqb_t {x y : Int} : (eqI x y = true) ↔ x = y := by simp [eqI]
set_option maxRecDepth 20000 in
set_option maxHeartbeats 4000000 in
theorem vc5 (args : List Arg) (out : Out) (h : (cLaw5 apf args).to out) (hok : okAs args) :
    args.length = ic5.nargs ∧ ic5.nargs ≤ ic5.ntmps ∧ ∃ A, run apf [(8, fun args => cNewY apf (args.map litA)), (9, cFixd apf), (10, fun args => nWrite apf (args.map litA)), (11, fun args => cFilledF apf (args.map litA)), (17, fun args => nFlush apf (args.map litA)), (15, fun args => nOff apf (args.map litA)), (16, fun args => nOn apf (args.map litA)), (13, fun args => nReadD apf (args.map litA))] A ic5.body (fnQ apf args out ic5.res) (st0 [] true args) := by
  unfold cLaw5 at h
  split at h
  · rename_i n m f n' m' f' k
    obtain ⟨h1, h2, h3, h4, h⟩ := h
    cases h
    obtain rfl : m = n := h1
    obtain rfl : m' = n' := h2
    obtain ⟨z, rfl⟩ : ∃ z, f = opV apf z := ⟨_, h3⟩
    obtain ⟨y, rfl⟩ : ∃ y, f' = opV apf y := ⟨_, h4⟩
    clear hok h3 h4
    refine ⟨rfl, by decide, a5 apf m m' z y k, ?_⟩
    have hP0 : apf _ _ (apf _ _ leN 0) 8 := Nat.zero_le _
    have hP1 : apf _ _ (apf _ _ InvA m) (apf _ _ sA0 m) := invA_0
    have hU : ∀ (f : Nat → V) (i : Nat) (w : V), apf _ _ (apf _ _ (apf _ _ updR f) i) w i = w := fun f i w => if_pos rfl
    generalize hap : apf = ap at hP0 hP1 hU ⊢
    cbv
    repeat' first
      | exact True.intro
      | (intro (hh : _ = true); first | with_reducible exact absurd hh (bk_t (by assumption)) | cbv)
      | (intro (hh : _ = false); first | with_reducible exact absurd hh (bk_f (by assumption)) | cbv)
      | with_reducible refine And.intro ?_ ?_
      | (intro (ny : DvP) (hny : _ = ny); cbv)
      | (simp only; cbv)
      | (refine ⟨(0 : Nat), hP0, ?_⟩; cbv)
      | fail
    all_goals first
      | (intro (i : Nat) hi k1 k2
         clear k1 k2
         cbv
         repeat' first
           | exact True.intro
           | (intro (hh : _ = true); first | with_reducible exact absurd hh (bk_t (by assumption)) | cbv)
           | (intro (hh : _ = false); first | with_reducible exact absurd hh (bk_f (by assumption)) | cbv)
           | with_reducible refine And.intro ?_ ?_
           | (intro (ny : DvP) (hny : _ = ny); cbv)
           | (simp only; cbv)
           | (refine ⟨ap _ _ sucN i, ?_, (?_ : _ < _), ?_⟩; rotate_left 2; try cbv)
           | (refine ⟨ap _ _ sA0 m, hP1, ?_⟩; try cbv)
           | fail
         all_goals first
           | (intro (s : FSt) hs k1 k2
              clear k1 k2
              cbv
              repeat' first
                | exact True.intro
                | (intro (hh : _ = true); first | with_reducible exact absurd hh (bk_t (by assumption)) | cbv)
                | (intro (hh : _ = false); first | with_reducible exact absurd hh (bk_f (by assumption)) | cbv)
                | with_reducible refine And.intro ?_ ?_
                | (intro (ny : DvP) (hny : _ = ny); cbv)
                | (simp only; cbv)
                | (refine ⟨ap _ _ (ap _ _ fNa z) s, ?_, (?_ : _ < _), ?_⟩; rotate_left 2; try cbv)
                | (refine ⟨ap _ _ gS0 s, ?_, ?_⟩; rotate_left 1; try cbv)
                | fail
              all_goals first
                | (intro (x : GSt) hx k1 k2
                   clear k1 k2
                   cbv
                   repeat' first
                     | exact True.intro
                     | (intro (hh : _ = true); first | with_reducible exact absurd hh (bk_t (by assumption)) | cbv)
                     | (intro (hh : _ = false); first | with_reducible exact absurd hh (bk_f (by assumption)) | cbv)
                     | with_reducible refine And.intro ?_ ?_
                     | (intro (ny : DvP) (hny : _ = ny); cbv)
                     | (simp only; cbv)
                     | (refine ⟨ap _ _ (ap _ _ fNb y) x, ?_, (?_ : _ < _), ?_⟩; rotate_left 2; try cbv)
                     | (refine ⟨HSt.mk 0 x, ?_, ?_⟩; rotate_left 1; try cbv)
                     | fail
                   all_goals first
                     | (intro (w : HSt) hw k1 k2
                        clear k1 k2
                        cbv
                        repeat' first
                          | exact True.intro
                          | (intro (hh : _ = true); first | with_reducible exact absurd hh (bk_t (by assumption)) | cbv)
                          | (intro (hh : _ = false); first | with_reducible exact absurd hh (bk_f (by assumption)) | cbv)
                          | with_reducible refine And.intro ?_ ?_
                          | (intro (ny : DvP) (hny : _ = ny); cbv)
                          | (simp only; cbv)
                          | (refine ⟨ap _ _ hNx w, ?_, (?_ : _ < _), ?_⟩; rotate_left 2; try cbv)
                          | fail)
                     | skip)
                | skip)
           | skip)
      | skip
    all_goals subst hap
    all_goals clear hU
    all_goals try simp only [apf_e, cmF, dvMk_s, blk_e, natI_lenI] at *
    all_goals subst_vars
    all_goals try simp only [fNa_d, fNa_i, fNb_d, fNb_i, fNb_W, sA0_d, sA0_i, gS0_d, gS0_i, gS0_W, hNx_s, hNx_i, cy_e] at *
    all_goals first
      | exact dvOk_s _
      | (simp only [eqN, eqI', eqB', leN, eqRows, implies_true]; done)
      | exact newOk8
      | exact (rfl : lenI 0 = 0)
      | (exfalso
         have h0 : neI 0 0 = true := by assumption
         exact absurd h0 (by decide))
      | exact w0F_zero8
      | exact w0F_next8
      | exact noB_zero8
      | exact (by decide : 1 * 512 ≤ 140737488355328)
      | exact Int.natCast_nonneg _
      | exact lt_n (by assumption)
      | exact lt_8 (by assumption)
      | exact sw_upd
      | exact bl_updT
      | (have hlt : i < 8 := lt_8 (by assumption)
         first
           | exact len_suc hlt (by decide)
           | exact sub_lt' hlt)
      | (have h8 : i = 8 := ge_8 (by assumption) (by assumption)
         subst h8
         exact fun _ _ => rfl)
      | (have hs : InvA m s := by assumption
         first
           | exact hs.1.1
           | exact invB_0 hs
           | exact invA_room hs
           | exact blk8.1
           | exact idx_lt blk8
           | (exfalso
              have h : neI (flE s.d) 0 = true := by assumption
              exact absurd (pl_flush hs.1).1 (ne_t'.1 h))
           | (have h100 : s.i < 100 := ge_100 (by assumption)
              have hlt : s.i < m := lt_n (by assumption)
              first
                | exact len_suc h100 (by decide)
                | exact invA_next hs h100 hlt
                | exact sub_lt' hlt
                | (exfalso
                   have h : neI (wrtE s.d (blk 8 (z s.i).b) 512) 0 = true := by assumption
                   exact absurd (aWr (l := []) hs blk8).1 (ne_t'.1 h))))
      | (have hx : InvB m' x := by assumption
         first
           | exact hx.1.1
           | exact ⟨hx, Nat.zero_le _⟩
           | exact invB_room hx
           | (have h100 : x.i < 100 := ge_100 (by assumption)
              have hlt : x.i < m' := lt_n (by assumption)
              first
                | exact len_suc h100 (by decide)
                | exact invB_next hx h100 hlt
                | exact sub_lt' hlt
                | (exfalso
                   have h : neI (wrtE x.d (blk 8 (y x.i).b) 512) 0 = true := by assumption
                   exact absurd (bWr (l := []) hx blk8).1 (ne_t'.1 h))))
      | (have hw : hP m' w.i w.s := by assumption
         have hlt : w.i < 8 := lt_8 (by assumption)
         obtain ⟨f1, f2, f3, f4⟩ := bEnd (k := k) hw.1 hlt
         first
           | exact f1
           | exact len_suc hlt (by decide)
           | exact ⟨hw.1, hlt⟩
           | exact sub_lt' hlt
           | (exfalso
              have h : neI (readE (cyD k w.s.d) (lenI w.i)) 0 = true := by assumption
              exact absurd f2 (ne_t'.1 h))
           | (exfalso
              have h : notB (eqL (readB (cyD k w.s.d) (lenI w.i)) (w.s.W w.i)) = true := by assumption
              have h := eqL_f.1 (notB_t.1 h)
              first
                | exact h (f3 (notB_t.1 (by assumption)))
                | exact h (f4 (eqb_t.1 (by assumption)))))
      | trace_state
  · exact h.elim
theorem s5 : Sound Try.prog [] 5 true (cLaw5 apf) := fn_sound rfl Try.call5 ok5 co5 (env_cons s8y (env_cons s9 (env_cons n10 (env_cons s11f (env_cons n17 (env_cons n15 (env_cons n16 (env_cons n13 env_nil)))))))) vc5
end Go.Cx.Rd
/- CxdCode4 -/
namespace Go.Cx.Rd
open Go Go.Cx Go.Proofs
/-- the marks of DevLast: slots of rows that own what their elements are -/
def pu4 (f : Nat) : Bool := pu f && f != 55000009 && f != 55000042 && f != 55000079 && f != 55000086 && f != 55000108 && f != 56000136 && f != 56000139
def ic4e : IFn := ⟨3,148,[.t 6],
  (.seq (.reg [7,8,34,35,36,10,9,1,2,51,0,52,54,53,55,12,11,60,13,14,73,75,96,97,98,15,108,110,109,111,18,20,16,17,146,6] [⟨some 6,none,.mv (.c .ff)⟩])
  (.seq (.reg [7,8,34,35,36,10,9,1,2,51,0,52,54,53,55,12,11,60,13,14,73,75,96,97,98,15,108,110,109,111,18,20,16,17,146,6] [⟨some 22,none,.call 8 true [((.c (.lit .i64 4)),.v),((.c (.lit .u64 0)),.v),((.c (.lit .u64 0)),.v)]⟩,⟨some 21,none,.mv (.t 22)⟩,⟨some 23,none,.ext 0 (.t 21)⟩,⟨some 24,none,.ext 1 (.t 21)⟩,⟨some 7,none,.mv (.t 23)⟩,⟨some 8,none,.mv (.t 24)⟩])
  (.seq (.seq (.reg [7,8,34,35,36,10,9,1,2,51,0,52,54,53,55,12,11,60,13,14,73,75,96,97,98,15,108,110,109,111,18,20,16,17,146,6] [⟨some 25,none,.mv (.t 7)⟩,⟨some 26,none,.eq .p false (.t 25) (.c .nilp)⟩,⟨some 27,none,.mv (.t 26)⟩,⟨some 28,some (27,false),.mv (.t 8)⟩,⟨some 29,some (27,false),.cmp .neq (.t 28) (.c (.lit .i64 0))⟩,⟨some 30,none,.pick (.t 27) (.c .tt) (.t 29)⟩,⟨some 31,none,.mv (.t 30)⟩,⟨some 32,some (31,false),.call 9 true []⟩,⟨some 33,some (31,false),.not (.t 32)⟩,⟨some 34,none,.pick (.t 31) (.c .tt) (.t 33)⟩])
  (.cond (.t 34)
    (.seq (.reg [7,8,34,35,36,10,9,1,2,51,0,52,54,53,55,12,11,60,13,14,73,75,96,97,98,15,108,110,109,111,18,20,16,17,146,6] [⟨some 6,none,.mv (.c .ff)⟩])
    .ret)
    .skip))
  (.seq (.reg [7,8,34,35,36,10,9,1,2,51,0,52,54,53,55,12,11,60,13,14,73,75,96,97,98,15,108,110,109,111,18,20,16,17,146,6] [⟨some 9,none,.allocE 4⟩])
  (.seq (.seq (.reg [7,8,34,35,36,10,9,1,2,51,0,52,54,53,55,12,11,60,13,14,73,75,96,97,98,15,108,110,109,111,18,20,16,17,146,6] [⟨some 35,none,.mv (.c (.lit .i64 0))⟩])
  (.block 0 (.loop 0 (.seq (.reg [7,8,34,35,36,10,9,1,2,51,0,52,54,53,55,12,11,60,13,14,73,75,96,97,98,15,108,110,109,111,18,20,16,17,146,6] [⟨some 36,none,.cmp .lss (.t 35) (.c (.lit .i64 4))⟩])
   (.seq (.cond (.t 36)
     .skip
     (.exit 0))
   (.seq (.block 1 (.seq (.reg [7,8,34,35,36,10,9,1,2,51,0,52,54,53,55,12,11,60,13,14,73,75,96,97,98,15,108,110,109,111,18,20,16,17,146,6] [⟨some 37,none,.mv (.t 35)⟩,⟨some 10,none,.mv (.t 37)⟩])
   (.reg [7,8,34,35,36,10,9,1,2,51,0,52,54,53,55,12,11,60,13,14,73,75,96,97,98,15,108,110,109,111,18,20,16,17,146,6] [⟨some 38,none,.mv (.t 10)⟩,⟨some 39,none,.mksF (.i .u8) 1 (.c (.lit .i64 512))⟩,⟨some 40,none,.b2s (.t 39)⟩,⟨some 41,none,.bsl (.o 1 (.v (.str []))) 1 [(0,(.t 40))]⟩,⟨some 42,none,.iaA 4 1 (.t 9) (.t 38)⟩,⟨none,none,.stE (.t 42) (.t 41)⟩])))
   (.reg [7,8,34,35,36,10,9,1,2,51,0,52,54,53,55,12,11,60,13,14,73,75,96,97,98,15,108,110,109,111,18,20,16,17,146,6] [⟨some 43,none,.ar .add .i64 (.t 35) (.c (.lit .i64 1))⟩,⟨some 35,none,.mv (.t 43)⟩])))))))
  (.seq (.seq (.reg [7,8,34,35,36,10,9,1,2,51,0,52,54,53,55,12,11,60,13,14,73,75,96,97,98,15,108,110,109,111,18,20,16,17,146,6] [⟨some 44,none,.mv (.t 7)⟩,⟨some 45,none,.mv (.t 1)⟩,⟨some 46,none,.cv .u64 (.t 45)⟩,⟨some 47,none,.ar .rem .u64 (.t 46) (.c (.lit .u64 60))⟩,⟨some 48,none,.cv .i64 (.t 47)⟩,⟨some 49,none,.mv (.t 2)⟩,⟨some 50,none,.call 14 false [((.t 44),.v),((.t 48),.v),((.t 49),.v)]⟩,⟨some 51,none,.cmp .neq (.t 50) (.c (.lit .i64 0))⟩])
  (.cond (.t 51)
    (.seq (.reg [7,8,34,35,36,10,9,1,2,51,0,52,54,53,55,12,11,60,13,14,73,75,96,97,98,15,108,110,109,111,18,20,16,17,146,6] [⟨some 6,none,.mv (.c .ff)⟩])
    .ret)
    .skip))
  (.seq (.seq (.reg [7,8,34,35,36,10,9,1,2,51,0,52,54,53,55,12,11,60,13,14,73,75,96,97,98,15,108,110,109,111,18,20,16,17,146,6] [⟨some 52,none,.mv (.t 0)⟩,⟨some 53,none,.lenS (.t 52)⟩,⟨some 54,none,.mv (.c (.lit .i64 0))⟩])
  (.block 2 (.loop 1 (.seq (.reg [7,8,34,35,36,10,9,1,2,51,0,52,54,53,55,12,11,60,13,14,73,75,96,97,98,15,108,110,109,111,18,20,16,17,146,6] [⟨some 55,none,.cmp .lss (.t 54) (.t 53)⟩])
   (.seq (.cond (.t 55)
     .skip
     (.exit 2))
   (.seq (.block 3 (.seq (.reg [7,8,34,35,36,10,9,1,2,51,0,52,54,53,55,12,11,60,13,14,73,75,96,97,98,15,108,110,109,111,18,20,16,17,146,6] [⟨some 56,none,.mv (.t 54)⟩,⟨some 57,none,.iaS 5 (.t 52) (.t 54)⟩,⟨some 58,none,.ld 5 true (.t 57)⟩,⟨some 12,none,.alloc (.cat 1 4 (.v (.lit .i64 0)) (.cat 1 3 (.v (.lit .i64 0)) (.cat 1 2 (.v (.lit .u8 0)) (.cat 1 1 (.v (.lit .u64 0)) (.v .ff)))))⟩,⟨some 11,none,.mv (.t 56)⟩,⟨none,none,.st 5 (.t 12) (.t 58)⟩])
   (.seq (.seq (.reg [7,8,34,35,36,10,9,1,2,51,0,52,54,53,55,12,11,60,13,14,73,75,96,97,98,15,108,110,109,111,18,20,16,17,146,6] [⟨some 59,none,.mv (.t 11)⟩,⟨some 60,none,.cmp .geq (.t 59) (.c (.lit .i64 50))⟩])
   (.cond (.t 60)
     (.exit 2)
     .skip))
   (.seq (.reg [7,8,34,35,36,10,9,1,2,51,0,52,54,53,55,12,11,60,13,14,73,75,96,97,98,15,108,110,109,111,18,20,16,17,146,6] [⟨some 61,none,.fa 1 1 (.t 12)⟩,⟨some 62,none,.ld 1 false (.t 61)⟩,⟨some 63,none,.cv .u64 (.t 62)⟩,⟨some 64,none,.ar .rem .u64 (.t 63) (.c (.lit .u64 4))⟩,⟨some 65,none,.cv .i64 (.t 64)⟩,⟨some 13,none,.mv (.t 65)⟩])
   (.seq (.reg [7,8,34,35,36,10,9,1,2,51,0,52,54,53,55,12,11,60,13,14,73,75,96,97,98,15,108,110,109,111,18,20,16,17,146,6] [⟨some 66,none,.mv (.t 7)⟩,⟨some 67,none,.mv (.t 13)⟩,⟨some 68,none,.fa 2 1 (.t 12)⟩,⟨some 69,none,.ld 1 false (.t 68)⟩,⟨some 70,none,.call 11 true [((.t 69),.v),((.c (.lit .i64 512)),.v)]⟩,⟨some 71,none,.call 10 false [((.t 66),.v),((.t 67),.v),((.t 70),.b (.i .u8))]⟩,⟨some 14,none,.mv (.t 71)⟩])
   (.seq (.seq (.reg [7,8,34,35,36,10,9,1,2,51,0,52,54,53,55,12,11,60,13,14,73,75,96,97,98,15,108,110,109,111,18,20,16,17,146,6] [⟨some 72,none,.mv (.t 14)⟩,⟨some 73,none,.cmp .eql (.t 72) (.c (.lit .i64 10))⟩])
   (.cond (.t 73)
     (.exit 2)
     .skip))
   (.seq (.seq (.reg [7,8,34,35,36,10,9,1,2,51,0,52,54,53,55,12,11,60,13,14,73,75,96,97,98,15,108,110,109,111,18,20,16,17,146,6] [⟨some 74,none,.mv (.t 14)⟩,⟨some 75,none,.cmp .neq (.t 74) (.c (.lit .i64 0))⟩])
   (.cond (.t 75)
     (.seq (.reg [7,8,34,35,36,10,9,1,2,51,0,52,54,53,55,12,11,60,13,14,73,75,96,97,98,15,108,110,109,111,18,20,16,17,146,6] [⟨some 6,none,.mv (.c .ff)⟩])
     .ret)
     .skip))
   (.dreg [7,8,34,35,36,10,9,1,2,51,0,52,54,53,55,12,11,60,13,14,73,75,96,97,98,15,108,110,109,111,18,20,16,17,146,6] [⟨⟨some 76,none,.mv (.t 13)⟩,[40079,82,10082,20082,30082,40082,50082,60082,70082,80082,90082,84,85],[],none⟩,⟨⟨some 77,none,.mv (.t 13)⟩,[82,10082,20082,30082,40082,50082,60082,70082,80082,90082,84],[],none⟩,⟨⟨some 78,none,.iaA 4 1 (.t 9) (.t 77)⟩,[82,10082,20082,30082,40082,50082,60082,70082,80082,90082,84],[],none⟩,⟨⟨some 79,none,.ldE false (.t 78)⟩,[82,10082,20082,30082,40082,50082,60082,70082,80082,90082,84],[],some ([40079],[9])⟩,⟨⟨some 80,none,.fa 2 1 (.t 12)⟩,[40079],[],none⟩,⟨⟨some 81,none,.ld 1 false (.t 80)⟩,[40079,40079],[9],none⟩,⟨⟨some 82,none,.call 11 true [((.t 81),.v),((.c (.lit .i64 512)),.v)]⟩,[40079,40079],[9],none⟩,⟨⟨some 83,none,.b2s (.t 82)⟩,[40079,40079],[9],none⟩,⟨⟨some 84,none,.bsl (.o 1 (.v (.str []))) 1 [(0,(.t 83))]⟩,[40079,40079],[9],none⟩,⟨⟨some 85,none,.app (.o 1 (.v (.str []))) 16 (.t 79) (.t 84)⟩,[],[],none⟩,⟨⟨some 86,none,.iaA 4 1 (.t 9) (.t 76)⟩,[],[],none⟩,⟨⟨none,none,.stE (.t 86) (.t 85)⟩,[],[],none⟩]))))))))
   (.reg [7,8,34,35,36,10,9,1,2,51,0,52,54,53,55,12,11,60,13,14,73,75,96,97,98,15,108,110,109,111,18,20,16,17,146,6] [⟨some 87,none,.ar .add .i64 (.t 54) (.c (.lit .i64 1))⟩,⟨some 54,none,.mv (.t 87)⟩])))))))
  (.seq (.seq (.reg [7,8,34,35,36,10,9,1,2,51,0,52,54,53,55,12,11,60,13,14,73,75,96,97,98,15,108,110,109,111,18,20,16,17,146,6] [⟨some 88,none,.mv (.t 7)⟩,⟨some 89,none,.mv (.t 2)⟩,⟨some 90,none,.call 15 false [((.t 88),.v),((.t 89),.v)]⟩,⟨some 91,none,.cmp .neq (.t 90) (.c (.lit .i64 0))⟩,⟨some 92,none,.mv (.t 91)⟩,⟨some 93,some (92,false),.mv (.t 7)⟩,⟨some 94,some (92,false),.call 16 false [((.t 93),.v)]⟩,⟨some 95,some (92,false),.cmp .neq (.t 94) (.c (.lit .i64 0))⟩,⟨some 96,none,.pick (.t 92) (.c .tt) (.t 95)⟩])
  (.cond (.t 96)
    (.seq (.reg [7,8,34,35,36,10,9,1,2,51,0,52,54,53,55,12,11,60,13,14,73,75,96,97,98,15,108,110,109,111,18,20,16,17,146,6] [⟨some 6,none,.mv (.c .ff)⟩])
    .ret)
    .skip))
  (.seq (.seq (.reg [7,8,34,35,36,10,9,1,2,51,0,52,54,53,55,12,11,60,13,14,73,75,96,97,98,15,108,110,109,111,18,20,16,17,146,6] [⟨some 97,none,.mv (.c (.lit .i64 0))⟩])
  (.block 4 (.loop 2 (.seq (.reg [7,8,34,35,36,10,9,1,2,51,0,52,54,53,55,12,11,60,13,14,73,75,96,97,98,15,108,110,109,111,18,20,16,17,146,6] [⟨some 98,none,.cmp .lss (.t 97) (.c (.lit .i64 4))⟩])
   (.seq (.cond (.t 98)
     .skip
     (.exit 4))
   (.seq (.block 5 (.seq (.reg [7,8,34,35,36,10,9,1,2,51,0,52,54,53,55,12,11,60,13,14,73,75,96,97,98,15,108,110,109,111,18,20,16,17,146,6] [⟨some 99,none,.mv (.t 97)⟩,⟨some 15,none,.mv (.t 99)⟩])
   (.seq (.reg [7,8,34,35,36,10,9,1,2,51,0,52,54,53,55,12,11,60,13,14,73,75,96,97,98,15,108,110,109,111,18,20,16,17,146,6] [⟨some 101,none,.mv (.t 7)⟩,⟨some 102,none,.mv (.t 15)⟩,⟨some 103,none,.call 13 false [((.t 101),.v),((.t 102),.v)]⟩,⟨some 100,none,.mv (.t 103)⟩,⟨some 104,none,.ext 0 (.t 100)⟩,⟨some 105,none,.ext 1 (.t 100)⟩,⟨some 16,none,.mv (.t 104)⟩,⟨some 17,none,.mv (.t 105)⟩])
   (.seq (.reg [7,8,34,35,36,10,9,1,2,51,0,52,54,53,55,12,11,60,13,14,73,75,96,97,98,15,108,110,109,111,18,20,16,17,146,6] [⟨some 18,none,.mv (.c .ff)⟩])
   (.seq (.seq (.reg [7,8,34,35,36,10,9,1,2,51,0,52,54,53,55,12,11,60,13,14,73,75,96,97,98,15,108,110,109,111,18,20,16,17,146,6] [⟨some 106,none,.mv (.t 15)⟩,⟨some 107,none,.iaA 4 1 (.t 9) (.t 106)⟩,⟨some 108,none,.ldE false (.t 107)⟩,⟨some 109,none,.lenS (.t 108)⟩,⟨some 110,none,.mv (.c (.lit .i64 0))⟩])
   (.block 6 (.loop 3 (.seq (.reg [7,8,34,35,36,10,9,1,2,51,0,52,54,53,55,12,11,60,13,14,73,75,96,97,98,15,108,110,109,111,18,20,16,17,146,6] [⟨some 111,none,.cmp .lss (.t 110) (.t 109)⟩])
    (.seq (.cond (.t 111)
      .skip
      (.exit 6))
    (.seq (.block 7 (.seq (.reg [7,8,34,35,36,10,9,1,2,51,0,52,54,53,55,12,11,60,13,14,73,75,96,97,98,15,108,110,109,111,18,20,16,17,146,6] [⟨some 112,none,.iaS 1 (.t 108) (.t 110)⟩,⟨some 113,none,.ld 1 false (.t 112)⟩,⟨some 20,none,.mv (.t 113)⟩])
    (.reg [7,8,34,35,36,10,9,1,2,51,0,52,54,53,55,12,11,60,13,14,73,75,96,97,98,15,108,110,109,111,18,20,16,17,146,6] [⟨some 114,none,.mv (.t 18)⟩,⟨some 115,none,.mv (.t 114)⟩,⟨some 116,some (115,false),.mv (.t 20)⟩,⟨some 117,some (115,false),.mv (.t 16)⟩,⟨some 118,some (115,false),.b2s (.t 117)⟩,⟨some 119,some (115,false),.eq .s false (.t 116) (.t 118)⟩,⟨some 120,none,.pick (.t 115) (.c .tt) (.t 119)⟩,⟨some 18,none,.mv (.t 120)⟩])))
    (.reg [7,8,34,35,36,10,9,1,2,51,0,52,54,53,55,12,11,60,13,14,73,75,96,97,98,15,108,110,109,111,18,20,16,17,146,6] [⟨some 121,none,.ar .add .i64 (.t 110) (.c (.lit .i64 1))⟩,⟨some 110,none,.mv (.t 121)⟩])))))))
   (.seq (.dreg [7,8,34,35,36,10,9,1,2,51,0,52,54,53,55,12,11,60,13,14,73,75,96,97,98,15,108,110,109,111,18,20,16,17,146,6] [⟨⟨some 122,none,.mv (.t 17)⟩,[],[],none⟩,⟨⟨some 123,none,.cmp .neq (.t 122) (.c (.lit .i64 0))⟩,[],[],none⟩,⟨⟨some 124,none,.mv (.t 123)⟩,[],[],none⟩,⟨⟨some 125,some (124,false),.mv (.t 18)⟩,[],[],none⟩,⟨⟨some 126,some (124,false),.not (.t 125)⟩,[],[],none⟩,⟨⟨some 127,none,.pick (.t 124) (.c .tt) (.t 126)⟩,[],[],none⟩,⟨⟨some 128,none,.mv (.t 127)⟩,[],[],none⟩,⟨⟨some 129,some (128,false),.mv (.t 2)⟩,[],[],none⟩,⟨⟨some 130,some (128,false),.cmp .eql (.t 129) (.c (.lit .u64 18446744073709551615))⟩,[],[],none⟩,⟨⟨some 131,some (128,false),.mv (.t 130)⟩,[],[],none⟩,⟨⟨some 132,some (131,true),.mv (.t 16)⟩,[40136,40139],[],none⟩,⟨⟨some 133,some (131,true),.b2s (.t 132)⟩,[40136,40139],[],none⟩,⟨⟨some 134,some (131,true),.mv (.t 15)⟩,[40139],[],none⟩,⟨⟨some 135,some (131,true),.iaA 4 1 (.t 9) (.t 134)⟩,[40139],[],none⟩,⟨⟨some 136,some (131,true),.ldE true (.t 135)⟩,[40139],[],none⟩,⟨⟨some 137,some (131,true),.mv (.t 15)⟩,[40136],[],none⟩,⟨⟨some 138,some (131,true),.iaA 4 1 (.t 9) (.t 137)⟩,[40136],[],none⟩,⟨⟨some 139,some (131,true),.ldE true (.t 138)⟩,[40136],[],none⟩,⟨⟨some 140,some (131,true),.lenS (.t 139)⟩,[40136],[],none⟩,⟨⟨some 141,some (131,true),.ar .sub .i64 (.t 140) (.c (.lit .i64 1))⟩,[40136],[],none⟩,⟨⟨some 142,some (131,true),.iaS 1 (.t 136) (.t 141)⟩,[],[],none⟩,⟨⟨some 143,some (131,true),.ld 1 false (.t 142)⟩,[],[],none⟩,⟨⟨some 144,some (131,true),.eq .s true (.t 133) (.t 143)⟩,[],[],none⟩,⟨⟨some 145,some (128,false),.pick (.t 131) (.t 144) (.c .ff)⟩,[],[],none⟩,⟨⟨some 146,none,.pick (.t 128) (.c .tt) (.t 145)⟩,[],[],none⟩])
   (.cond (.t 146)
     (.seq (.reg [7,8,34,35,36,10,9,1,2,51,0,52,54,53,55,12,11,60,13,14,73,75,96,97,98,15,108,110,109,111,18,20,16,17,146,6] [⟨some 6,none,.mv (.c .ff)⟩])
     .ret)
     .skip)))))))
   (.reg [7,8,34,35,36,10,9,1,2,51,0,52,54,53,55,12,11,60,13,14,73,75,96,97,98,15,108,110,109,111,18,20,16,17,146,6] [⟨some 147,none,.ar .add .i64 (.t 97) (.c (.lit .i64 1))⟩,⟨some 97,none,.mv (.t 147)⟩])))))))
  (.seq (.reg [7,8,34,35,36,10,9,1,2,51,0,52,54,53,55,12,11,60,13,14,73,75,96,97,98,15,108,110,109,111,18,20,16,17,146,6] [⟨some 6,none,.mv (.c .tt)⟩])
  .ret))))))))))⟩
theorem ok4e : fnOk Try.prog 4 = true := by kernel_rfl
theorem co4e : comp Try.prog pu4 4 = some ic4e := by kernel_rfl
end Go.Cx.Rd
/- CxdSK -/
namespace Go.Cx.Rd
open Go Go.Cx Go.Proofs
/-- what a block may have: zeros, and what was written to it -/
def mayL (T : Nat → Int × List Int) (j : Nat) : Nat → List (List Int)
  | 0 => [zerosI 512]
  | k + 1 => if (T k).1.toNat = j then mayL T j k ++ [(T k).2] else mayL T j k
theorem may_in {T : Nat → Int × List Int} {s : Nat → Bool} {L : Nat → List Int} {j : Nat} (h : L j = zerosI 512) : ∀ n, layI T s L n j ∈ mayL T j n := by
  intro n
  induction n with
  | zero => simp [layI, mayL, h]
  | succ n ih =>
    cases hs : s n with
    | true =>
      rw [lay_yes hs, upd, mayL]
      by_cases e : j = (T n).1.toNat
      · rw [if_pos e, if_pos e.symm]; simp
      · rw [if_neg e, if_neg (fun k => e k.symm)]; exact ih
    | false =>
      rw [lay_no hs, mayL]
      split
      · exact List.mem_append_left _ ih
      · exact ih
theorem may_len {T : Nat → Int × List Int} {j : Nat} : ∀ n, 0 < (mayL T j n).length := by
  intro n
  induction n with
  | zero => simp [mayL]
  | succ n ih =>
    rw [mayL]
    split
    · simp
    · exact ih
theorem may_le {T : Nat → Int × List Int} {j : Nat} : ∀ n, (mayL T j n).length ≤ n + 1 := by
  intro n
  induction n with
  | zero => simp [mayL]
  | succ n ih =>
    rw [mayL]
    split
    · simp only [List.length_append, List.length_cons, List.length_nil]; omega
    · omega
theorem may_last {T : Nat → Int × List Int} {s : Nat → Bool} {L : Nat → List Int} {j : Nat} (h : L j = zerosI 512) (hs : ∀ i, s i = true) : ∀ n, layI T s L n j = (mayL T j n).getD ((mayL T j n).length - 1) [] := by
  intro n
  induction n with
  | zero => simp [layI, mayL, h]
  | succ n ih =>
    rw [lay_yes (hs n), upd, mayL]
    by_cases e : j = (T n).1.toNat
    · rw [if_pos e, if_pos e.symm]; simp
    · rw [if_neg e, if_neg (fun k => e k.symm)]; exact ih
theorem bitK_all : ∀ i, bitK 18446744073709551615 i = true := by
  intro i
  have h : ∀ r : Fin 64, eqI (band .u64 (bshr .u64 18446744073709551615 (r.val : Int)) 1) 1 = true := by decide +kernel
  have e : wrem .i64 (i : Int) 64 = ((i % 64 : Nat) : Int) := rem_i64 (i := i) (k := 64)
  unfold bitK
  rw [e]
  exact h ⟨i % 64, Nat.mod_lt _ (by decide)⟩
theorem may_app {T : Nat → Int × List Int} {n : Nat} {x : Int × List Int} {j : Nat} : ∀ k, k ≤ n → mayL (appW T n x) j k = mayL T j k := by
  intro k
  induction k with
  | zero => intro _; rfl
  | succ k ih =>
    intro h
    have e : appW T n x k = T k := by rw [appW, if_pos (by omega)]
    rw [mayL, mayL, e, ih (by omega)]
theorem may_add {T : Nat → Int × List Int} {n : Nat} {x : Int × List Int} {j : Nat} : mayL (appW T n x) j (n + 1) = if x.1.toNat = j then mayL T j n ++ [x.2] else mayL T j n := by
  have e : appW T n x n = x := by rw [appW, if_neg (Nat.lt_irrefl _)]
  rw [mayL, e, may_app n (Nat.le_refl _)]
theorem kAll : ∀ i, bitK 18446744073709551615 i = true := bitK_all
structure KSt where
  i : Nat
  d : DvP
def mayM (s : KSt) (j : Nat) : List (List Int) := mayL s.d.T j s.d.nt
def fNk (z : Nat → OpP) (s : KSt) : KSt := ⟨s.i + 1, wrtD s.d (blk 4 (z s.i).b) 512 (filL (z s.i).c)⟩
def InvK (k : Int) (m : Nat) (s : KSt) : Prop := wfD s.d ∧ s.d.off = false ∧ s.d.ps = true ∧ s.d.pk = k ∧ s.d.nb = 4 ∧ s.d.nt ≤ s.i ∧ s.d.ng ≤ s.i ∧ s.i ≤ 50 ∧ s.i ≤ m ∧ (∀ j, s.d.rd j = false ∧ s.d.wr j = false) ∧ (∀ j, s.d.L j = zerosI 512) ∧
  inR .i64 s.d.pa
def dK0 (a k : Int) : DvP := failD (newD 4 0 0) a k
def sK0 (a k : Int) : KSt := ⟨0, dK0 a k⟩
theorem blk4 {x : Int} : 0 ≤ blk 4 x ∧ blk 4 x < 4 := blk_lt (n := 4) (by decide) (by decide)
theorem blk60 {x : Int} : 0 ≤ blk 60 x ∧ blk 60 x < 60 := blk_lt (n := 60) (by decide) (by decide)
theorem invK_0 {k : Int} {m : Nat} {x : Int} : InvK k m (sK0 (blk 60 x) k) := by
  have hb := blk60 (x := x)
  refine ⟨⟨rfl, rfl, fun _ h => absurd h (Nat.not_lt_zero _), (by decide : (4 : Nat) ≤ 1000000), Nat.zero_le _, Nat.zero_le _⟩, rfl, ?_, rfl, rfl, Nat.zero_le _, Nat.zero_le _, Nat.zero_le _, Nat.zero_le _, fun _ => ⟨rfl, rfl⟩, fun _ => rfl, ?_⟩
  · show decide (0 ≤ blk 60 x) = true
    simp [hb.1]
  · show inR .i64 (blk 60 x)
    rw [inR_i64]
    omega
theorem invK_room {k : Int} {m : Nat} {s : KSt} (h : InvK k m s) : roomD s.d := by
  obtain ⟨_, _, _, _, _, h1, h2, h3, _⟩ := h
  exact ⟨by omega, by omega⟩
theorem invK_has {k : Int} {m : Nat} {s : KSt} (h : InvK k m s) {b : Int} (hb : 0 ≤ b ∧ b < 4) : hasB s.d b = true := hasB_t.2 ⟨hb.1, by rw [h.2.2.2.2.1]; exact hb.2⟩
/-- a write: it is taken, or the power goes -/
theorem kWr {k : Int} {m : Nat} {s : KSt} (h : InvK k m s) {b : Int} (hb : 0 ≤ b ∧ b < 4) {l : List Int} :
    (wrtE s.d b 512 = 0 ∧ wrtD s.d b 512 l = addD { stD s.d with pa := wsub .i64 s.d.pa 1 } b l ∧ 0 < s.d.pa) ∨ (wrtE s.d b 512 = 10 ∧ wrtD s.d b 512 l = cutD (stD s.d) k) := by
  have hh := invK_has h hb
  obtain ⟨_, h0, h1, h2, _, _, _, _, _, h3, _⟩ := h
  cases hg : gtI s.d.pa 0 with
  | true =>
    obtain ⟨e1, e2⟩ := st_more h1 hg
    have w := wr_ok (d := s.d) (b := b) (n := 512) (l := l) h0 hh rfl (by rw [e2]; rfl) (by rw [e1]; exact (h3 _).2)
    rw [e1] at w
    exact .inl ⟨w.1, w.2, by simpa [gtI] using hg⟩
  | false =>
    obtain ⟨e1, e2⟩ := st_cut h1 hg
    have w := wr_st (d := s.d) (b := b) (n := 512) (l := l) h0 hh rfl (by rw [e2]; rfl)
    rw [e2, e1, h2] at w
    exact .inr w
theorem invK_next {k : Int} {m : Nat} {z : Nat → OpP} {s : KSt} (h : InvK k m s) (hi : s.i < 50) (hm : s.i < m) (he : wrtE s.d (blk 4 (z s.i).b) 512 = 0) :
    InvK k m (fNk z s) ∧ ∀ j, mayM (fNk z s) j = if (blk 4 (z s.i).b).toNat = j then mayM s j ++ [filL (z s.i).c] else mayM s j := by
  have hh := invK_has h (blk4 (x := (z s.i).b))
  have hr := invK_room h
  rcases kWr h (b := blk 4 (z s.i).b) (l := filL (z s.i).c) blk4 with ⟨_, w, hp⟩ | ⟨w, _⟩
  · obtain ⟨h1, h2, h3, h4, h5, h6, h7, h8, h9, h10, h11, h12⟩ := h
    unfold fNk mayM
    rw [w]
    have h12 := inR_i64.1 h12
    refine ⟨⟨wf_add (d := { stD s.d with pa := wsub .i64 s.d.pa 1 }) h1 hh hr, h2, h3, h4, h5, Nat.succ_le_succ h6, Nat.succ_le_succ h7, hi, hm, h10, h11, ?_⟩, fun j => ?_⟩
    · show inR .i64 (wsub .i64 s.d.pa 1)
      exact inR_wrap _ _
    · show mayL (appW s.d.T s.d.nt (blk 4 (z s.i).b, filL (z s.i).c)) j (s.d.nt + 1) = _
      rw [may_add]
  · rw [he] at w
    cases w
/-- the device behind the loss of power -/
def EndK (k : Int) (s : KSt) (D : DvP) : Prop := wfD D ∧ D.off = false ∧ D.nt = 0 ∧ D.nb = 4 ∧ (∀ j, D.rd j = false) ∧ D.L = layI s.d.T (bitK k) s.d.L s.d.nt
theorem endK_a {k : Int} {m : Nat} {s : KSt} (h : InvK k m s) : wfD s.d ∧ wfD (offD s.d k) ∧ EndK k s (cyD k s.d) := by
  obtain ⟨h1, h2, h3, h4, h5, h6, h7, h8, h9, h10, h11, h12⟩ := h
  unfold cyD
  rw [off_f h2]
  have hw : wfD (cutD s.d k) := ⟨h1.1, h1.2.1, fun _ h => absurd h (Nat.not_lt_zero _), h1.2.2.2.1, Nat.zero_le _, h1.2.2.2.2.2⟩
  exact ⟨h1, hw, hw, rfl, rfl, h5, fun j => (h10 j).1, rfl⟩
theorem endK_b {k : Int} {m : Nat} {s : KSt} (h : InvK k m s) {b : Int} (hb : 0 ≤ b ∧ b < 4) {l : List Int} (he : wrtE s.d b 512 = 10) :
    wfD (wrtD s.d b 512 l) ∧ wfD (offD (wrtD s.d b 512 l) k) ∧ EndK k s (cyD k (wrtD s.d b 512 l)) := by
  rcases kWr h (b := b) (l := l) hb with ⟨w, _⟩ | ⟨_, w⟩
  · rw [he] at w; cases w
  · obtain ⟨h1, h2, h3, h4, h5, h6, h7, h8, h9, h10, h11, h12⟩ := h
    unfold cyD
    rw [w, off_t (d := cutD (stD s.d) k) rfl]
    have hw : wfD (cutD (stD s.d) k) := ⟨h1.1, h1.2.1, fun _ h => absurd h (Nat.not_lt_zero _), h1.2.2.2.1, Nat.zero_le _, h1.2.2.2.2.2⟩
    refine ⟨hw, hw, hw, rfl, rfl, h5, fun j => (h10 j).1, ?_⟩
    show layI s.d.T (bitK k) s.d.L s.d.nt = _
    rfl
def hasM (M : List (List Int)) (x : List Int) (n : Nat) : Bool := (M.take n).contains x
theorem kEnd {k : Int} {m : Nat} {s : KSt} {D : DvP} (h : InvK k m s) (hD : EndK k s D) {j : Nat} (hj : j < 4) :
    wfD D ∧ readE D j = 0 ∧ hasM (mayM s j) (readB D j) (mayM s j).length = true ∧ (k = 18446744073709551615 → readB D j = (mayM s j).getD ((mayM s j).length - 1) []) := by
  obtain ⟨d1, d2, d3, d4, d5, d6⟩ := hD
  have hh : hasB D (j : Int) = true := hasB_t.2 ⟨Int.natCast_nonneg j, by rw [d4]; omega⟩
  obtain ⟨r1, r2⟩ := rd_ok (d := D) (b := (j : Int)) d2 hh (d5 _)
  have e : readB D j = layI s.d.T (bitK k) s.d.L s.d.nt j := by
    rw [r2, contD, d3, contI, d6]
    rfl
  have hL := h.2.2.2.2.2.2.2.2.2.2.1 j
  refine ⟨d1, r1, ?_, fun hk => ?_⟩
  · rw [e, hasM, List.take_length]
    show (mayL s.d.T j s.d.nt).contains _ = true
    rw [List.contains_iff_mem]
    exact may_in hL s.d.nt
  · rw [e, hk]
    have h9 := may_last (T := s.d.T) (s := bitK 18446744073709551615) hL kAll s.d.nt
    rw [h9]; rfl
theorem has_next {M : List (List Int)} {x : List Int} {i : Nat} (hi : i < M.length) : hasM M x (i + 1) = (hasM M x i || eqL (M.getD i []) x) := by
  unfold hasM eqL
  rw [List.take_add_one, List.getElem?_eq_getElem hi, List.getD_eq_getElem?_getD, List.getElem?_eq_getElem hi, Bool.eq_iff_iff]
  show List.contains (M.take i ++ [M[i]]) x = true ↔ (List.contains (M.take i) x || decide (M[i] = x)) = true
  rw [List.contains_iff_mem, List.mem_append, List.mem_singleton, Bool.or_eq_true, List.contains_iff_mem, decide_eq_true_iff]
  exact ⟨fun h => h.imp id Eq.symm, fun h => h.imp id Eq.symm⟩
end Go.Cx.Rd
/- CxdSL -/
namespace Go.Cx.Rd
open Go Go.Cx Go.Proofs
def cLaw4 (ap : AP) : Ctr
  | [.v (.dsl n 5 (.rows 5 m f)), .v (.int .i64 _), .v (.int .u64 _)] => .chk (ap _ _ (ap _ _ eqN m) n) <| .chk (ap _ _ isOps f) <| .ok ⟨.tt, [], []⟩
  | _ => .fail 497
def lenL (l : List (List Int)) : Nat := l.length
def getL (l : List (List Int)) (t : Nat) : List Int := l.getD t []
def mayV (ap : AP) (M : Nat → List (List Int)) (j : Nat) : V := .rows 1 (ap _ _ lenL (ap _ _ M j)) fun t => .str (ap _ _ (ap _ _ getL (ap _ _ M j)) t)
def may0 (i j : Nat) : V := if j < i then .rows 1 1 (fun t => .str (getL [zerosI 512] t)) else .rows 1 0 (fun _ => .tt)
def kMu (n : Nat) (s : KSt) : Nat := n - s.i
structure ZSt where
  i : Nat
  s : KSt
def zD (k : Int) (m : Nat) (z : Nat → OpP) (x : ZSt) : DvP := if x.s.i < m ∧ x.s.i < 50 then cyD k (wrtD x.s.d (blk 4 (z x.s.i).b) 512 (filI (z x.s.i).c 512)) else cyD k x.s.d
def zM (x : ZSt) : Nat → List (List Int) := mayM x.s
def zP (k : Int) (m : Nat) (z : Nat → OpP) (x : ZSt) : Prop := InvK k m x.s ∧ x.i ≤ 4 ∧ EndK k x.s (zD k m z x)
def zMu (x : ZSt) : Nat := 4 - x.i
def zNx (x : ZSt) : ZSt := ⟨x.i + 1, x.s⟩
def yL (x : ZSt) : List (List Int) := zM x x.i
def yF (k : Int) (m : Nat) (z : Nat → OpP) (x : ZSt) (t : Nat) : Bool := hasM (yL x) (readB (zD k m z x) (lenI x.i)) t
def a4 (ap : AP) (n : Nat) (z : Nat → OpP) (a k : Int) : List (Nat × Ann) := [
  (0, .inv Nat (fun i => ⟨[(0, .dsl n 5 (.rows 5 n (opV ap z))), (1, .int .i64 a), (2, .int .u64 k), (7, .ptr 22 []), (9, .ptr 9 []), (35, .int .i64 (ap _ _ lenI i))],
      [(22, ⟨.own, dvA ap (ap _ _ (ap _ _ (ap _ _ newD 4) 0) 0)⟩), (9, ⟨.own, .orow 4 1 (ap _ _ may0 i) []⟩)], []⟩)
    (fun i => ap _ _ (ap _ _ leN i) 4) (fun i => ap _ _ (ap _ _ subN 4) i)),
  (1, .inv KSt (fun s => ⟨[(2, .int .u64 k), (7, .ptr 22 []), (9, .ptr 9 []), (52, .dsl n 5 (.rows 5 n (opV ap z))), (53, .int .i64 (ap _ _ lenI n)), (54, .int .i64 (ap _ _ lenI (ap _ _ KSt.i s)))],
      [(22, ⟨.own, dvA ap (ap _ _ KSt.d s)⟩), (9, ⟨.own, .orow 4 1 (mayV ap (ap _ _ mayM s)) []⟩)], []⟩)
    (fun s => ap _ _ (ap _ _ (ap _ _ InvK k) n) s) (fun s => ap _ _ (ap _ _ kMu n) s)),
  (2, .nest ZSt (fun x => ⟨[(2, .int .u64 k), (7, .ptr 22 []), (9, .ptr 9 []), (97, .int .i64 (ap _ _ lenI (ap _ _ ZSt.i x)))],
      [(22, ⟨.own, dvA ap (ap _ _ (ap _ _ (ap _ _ (ap _ _ zD k) n) z) x)⟩), (9, ⟨.own, .orow 4 1 (mayV ap (ap _ _ zM x)) []⟩)], []⟩)
    (fun x => ap _ _ (ap _ _ (ap _ _ (ap _ _ zP k) n) z) x) (fun x => ap _ _ zMu x) (fun x => [
  (3, .inv Nat (fun t => ⟨[(2, .int .u64 k), (7, .ptr 22 []), (9, .ptr 9 []), (15, .int .i64 (ap _ _ lenI (ap _ _ ZSt.i x))), (16, dslA ap (ap _ _ (ap _ _ readB (ap _ _ (ap _ _ (ap _ _ (ap _ _ zD k) n) z) x)) (ap _ _ lenI (ap _ _ ZSt.i x)))),
      (17, .int .i64 (ap _ _ (ap _ _ readE (ap _ _ (ap _ _ (ap _ _ (ap _ _ zD k) n) z) x)) (ap _ _ lenI (ap _ _ ZSt.i x)))),
      (18, .bool (ap _ _ (ap _ _ (ap _ _ (ap _ _ (ap _ _ yF k) n) z) x) t)), (97, .int .i64 (ap _ _ lenI (ap _ _ ZSt.i x))),
      (108, .sl 40108 [] 0 (ap _ _ lenL (ap _ _ yL x)) 1 none), (109, .int .i64 (ap _ _ lenI (ap _ _ lenL (ap _ _ yL x)))), (110, .int .i64 (ap _ _ lenI t))],
      [(22, ⟨.own, dvA ap (ap _ _ (ap _ _ (ap _ _ (ap _ _ zD k) n) z) x)⟩), (9, ⟨.own, .orow 4 1 (mayV ap (ap _ _ zM x)) [(ap _ _ ZSt.i x, 40108, ap _ _ lenL (ap _ _ yL x))]⟩),
        (40108, ⟨.own, .rows 1 (ap _ _ lenL (ap _ _ yL x)) fun t => .str (ap _ _ (ap _ _ getL (ap _ _ yL x)) t)⟩)], []⟩)
    (fun t => ap _ _ (ap _ _ leN t) (ap _ _ lenL (ap _ _ yL x))) (fun t => ap _ _ (ap _ _ subN (ap _ _ lenL (ap _ _ yL x))) t))]))]
theorem newOk4 : newOk 4 0 0 := (rfl : newB 4 0 0 = false)
theorem sK0_d {a k : Int} : (sK0 a k).d = failD (newD 4 0 0) a k := rfl
theorem sK0_i {a k : Int} : (sK0 a k).i = 0 := rfl
theorem fNk_d {z : Nat → OpP} {s : KSt} : (fNk z s).d = wrtD s.d (blk 4 (z s.i).b) 512 (filI (z s.i).c 512) := rfl
theorem fNk_i {z : Nat → OpP} {s : KSt} : (fNk z s).i = sucN s.i := rfl
theorem zNx_i {x : ZSt} : (zNx x).i = sucN x.i := rfl
theorem zNx_D {k : Int} {m : Nat} {z : Nat → OpP} {x : ZSt} : zD k m z (zNx x) = zD k m z x := rfl
theorem zNx_M {x : ZSt} : zM (zNx x) = zM x := rfl
theorem zM0 {s : KSt} : zM ⟨0, s⟩ = mayM s := rfl
theorem yL_e {x : ZSt} : zM x x.i = yL x := rfl
theorem rowsO_rfl {n : Nat} {o : List Nat} {f : Nat → V} : eqRowsO n o f f := fun _ _ _ => rfl
theorem lt_4 {i : Nat} (h : ltI (lenI i) 4 = true) : ltN i 4 := lt_n (n := 4) h
theorem ge_4 {i : Nat} (h : leN i 4) (h2 : ltI (lenI i) 4 = false) : i = 4 := by
  have h : i ≤ 4 := h
  have h2 : ¬ (i : Int) < 4 := of_decide_eq_false h2
  omega
theorem ge_n {i n : Nat} (h : leN i n) (h2 : ltI (lenI i) (lenI n) = false) : i = n := by
  have h : i ≤ n := h
  have h2 : ¬ (i : Int) < n := of_decide_eq_false h2
  omega
theorem ge_50 {i : Nat} (h : geI (lenI i) 50 = false) : i < 50 := by
  have h : ¬ (50 : Int) ≤ (i : Int) := of_decide_eq_false h
  omega
theorem le_50 {i : Nat} (h : geI (lenI i) 50 = true) : 50 ≤ i := by
  have h : (50 : Int) ≤ (i : Int) := of_decide_eq_true h
  omega
theorem notIn_nil {j : Nat} : notIn (List.map Prod.fst ([] : List (Nat × Nat × Nat))) j := fun h => nomatch h
theorem len0 : eqI' (lenI 0) 0 := rfl
theorem len_nn {i : Nat} : 0 ≤ lenI i := Int.natCast_nonneg _
theorem mk512 : mksN 1 512 := (by decide : 1 * 512 ≤ 140737488355328)
theorem may0_0 : eqRowsO 4 (List.map Prod.fst ([] : List (Nat × Nat × Nat))) (may0 0) fun _ => V.rows 1 0 fun _ => V.tt := fun j _ _ => by rw [may0, if_neg (Nat.not_lt_zero j)]
theorem may0_s {i : Nat} : eqRowsO 4 (List.map Prod.fst ([] : List (Nat × Nat × Nat))) (may0 (sucN i)) (updR (may0 i) i (V.rows 1 1 (lkV (V.str []) [(0, V.str (zerosI 512))]))) := by
  intro j _ _
  by_cases h : j = i
  · subst h
    have e : j < sucN j := Nat.lt_succ_self j
    have e2 : updR (may0 j) j (V.rows 1 1 (lkV (V.str []) [(0, V.str (zerosI 512))])) j = V.rows 1 1 (lkV (V.str []) [(0, V.str (zerosI 512))]) := if_pos rfl
    have e3 : (fun t => V.str (getL [zerosI 512] t)) = lkV (V.str []) [(0, V.str (zerosI 512))] := by
      funext t
      cases t with
      | zero => rfl
      | succ t => rfl
    have e4 : may0 (sucN j) j = V.rows 1 1 (fun t => V.str (getL [zerosI 512] t)) := if_pos e
    rw [e2, e4, e3]
  · have e2 : updR (may0 i) i (V.rows 1 1 (lkV (V.str []) [(0, V.str (zerosI 512))])) j = may0 i j := if_neg h
    rw [e2]
    by_cases h2 : j < i
    · have e4 : may0 (sucN i) j = may0 i j := by
        rw [show may0 i j = V.rows 1 1 (fun t => V.str (getL [zerosI 512] t)) from if_pos h2]
        exact if_pos (Nat.lt_succ_of_lt h2)
      rw [e4]
    · have e4 : may0 (sucN i) j = may0 i j := by
        rw [show may0 i j = V.rows 1 0 (fun _ => V.tt) from if_neg h2]
        exact if_neg (show ¬ j < i + 1 by omega)
      rw [e4]
theorem may0_4 {a k : Int} : eqRowsO 4 (List.map Prod.fst ([] : List (Nat × Nat × Nat))) (mayV apf (mayM (sK0 a k))) (may0 4) := fun j hj _ => by rw [may0, if_pos hj]; rfl
theorem zD_n1 {k : Int} {m : Nat} {z : Nat → OpP} {s : KSt} (h : geI (lenI s.i) 50 = true) : zD k m z ⟨0, s⟩ = onD (offD s.d k) := if_neg (fun h2 => absurd (le_50 h) (Nat.not_le.2 h2.2))
theorem zD_n2 {k : Int} {m : Nat} {z : Nat → OpP} {s : KSt} (h : ltI (lenI s.i) (lenI m) = false) : zD k m z ⟨0, s⟩ = onD (offD s.d k) := if_neg (fun h2 => by
  have h : ¬ (s.i : Int) < m := of_decide_eq_false h
  have h2 : s.i < m := h2.1
  omega)
theorem zD_y {k : Int} {m : Nat} {z : Nat → OpP} {s : KSt} (h : ltI (lenI s.i) (lenI m) = true) (h2 : geI (lenI s.i) 50 = false) : zD k m z ⟨0, s⟩ = onD (offD (wrtD s.d (blk 4 (z s.i).b) 512 (filI (z s.i).c 512)) k) := if_pos ⟨lt_n h, ge_50 h2⟩
theorem zP_n {k : Int} {m : Nat} {z : Nat → OpP} {s : KSt} (hs : InvK k m s) (h : zD k m z ⟨0, s⟩ = onD (offD s.d k)) : zP k m z ⟨0, s⟩ := ⟨hs, Nat.zero_le _, by rw [h]; exact (endK_a hs).2.2⟩
theorem zP_y {k : Int} {m : Nat} {z : Nat → OpP} {s : KSt} (hs : InvK k m s) (h : zD k m z ⟨0, s⟩ = onD (offD (wrtD s.d (blk 4 (z s.i).b) 512 (filI (z s.i).c 512)) k)) (he : eqI (wrtE s.d (blk 4 (z s.i).b) 512) 10 = true) : zP k m z ⟨0, s⟩ :=
  ⟨hs, Nat.zero_le _, by rw [h]; exact (endK_b hs blk4 (eq_t.1 he)).2.2⟩
theorem yLen {k : Int} {m : Nat} {z : Nat → OpP} {x : ZSt} (hx : zP k m z x) : 0 < lenL (yL x) ∧ lenL (yL x) ≤ 51 := by
  have h : x.s.d.nt ≤ x.s.i := hx.1.2.2.2.2.2.1
  have h2 : x.s.i ≤ 50 := hx.1.2.2.2.2.2.2.2.1
  have h3 : lenL (yL x) ≤ x.s.d.nt + 1 := may_le _
  exact ⟨may_len _, by omega⟩
theorem yEnd {k : Int} {m : Nat} {z : Nat → OpP} {x : ZSt} (hx : zP k m z x) (h4 : ltI (lenI x.i) 4 = true) : wfD (zD k m z x) ∧ readE (zD k m z x) (lenI x.i) = 0 ∧ yF k m z x (lenL (yL x)) = true ∧
    (k = 18446744073709551615 → readB (zD k m z x) (lenI x.i) = getL (yL x) (lenL (yL x) - 1)) := kEnd hx.1 hx.2.2 (lt_4 h4)
theorem yF_t {k : Int} {m : Nat} {z : Nat → OpP} {x : ZSt} {t : Nat} (h : ltN t (lenL (yL x))) (hf : yF k m z x t = true) : eqB' (yF k m z x (sucN t)) true := by
  show hasM _ _ (t + 1) = true
  rw [has_next h]
  have hf : hasM (yL x) (readB (zD k m z x) (lenI x.i)) t = true := hf
  rw [hf]; rfl
theorem yF_f {k : Int} {m : Nat} {z : Nat → OpP} {x : ZSt} {t : Nat} (h : ltN t (lenL (yL x))) (hf : yF k m z x t = false) : eqB' (yF k m z x (sucN t)) (eqL (getL (yL x) (addN 0 t)) (readB (zD k m z x) (lenI x.i))) := by
  show hasM _ _ (t + 1) = _
  rw [has_next h]
  have hf : hasM (yL x) (readB (zD k m z x) (lenI x.i)) t = false := hf
  rw [hf, Bool.false_or, addN, Nat.zero_add]
  rfl
theorem rowsO_self {x : ZSt} : eqRowsO 4 (List.map Prod.fst ([] : List (Nat × Nat × Nat))) (mayV apf (zM x)) (updR (mayV apf (zM x)) x.i (V.rows 1 (lenL (yL x)) fun t => V.str (getL (yL x) t))) := by
  intro j _ _
  by_cases h : j = x.i
  · subst h
    have e : updR (mayV apf (zM x)) x.i (V.rows 1 (lenL (yL x)) fun t => V.str (getL (yL x) t)) x.i = V.rows 1 (lenL (yL x)) fun t => V.str (getL (yL x) t) := if_pos rfl
    rw [e]; rfl
  · have e : updR (mayV apf (zM x)) x.i (V.rows 1 (lenL (yL x)) fun t => V.str (getL (yL x) t)) j = mayV apf (zM x) j := if_neg h
    rw [e]
theorem sub1 {n : Nat} (h : 0 < n) (h2 : n ≤ 51) : arF .sub .i64 (lenI n) 1 = ((n - 1 : Nat) : Int) := by
  show wsub .i64 (n : Int) 1 = _
  rw [wsub_i64 (by omega)]
  omega
theorem le0 {n : Nat} : leN 0 n := Nat.zero_le n
theorem mayApp {k : Int} {m : Nat} {s : KSt} (hs : InvK k m s) {j : Nat} : appN 16 (addN (lenL (mayM s j)) 1) := by
  have h : s.d.nt ≤ s.i := hs.2.2.2.2.2.1
  have h2 : s.i ≤ 50 := hs.2.2.2.2.2.2.2.1
  have h3 : lenL (mayM s j) ≤ s.d.nt + 1 := may_le _
  show (lenL (mayM s j) + 1) * 16 ≤ 140737488355328
  omega
theorem getApp {L : List (List Int)} {x : List Int} : (fun t => V.str (getL (L ++ [x]) t)) = catR (fun j => V.str (getL L (addN 0 j))) (lenL L) fun j => lkV (V.str []) [(0, V.str x)] (addN 0 j) := by
  funext t
  simp only [catR, addN, Nat.zero_add, lenL, getL, lkV]
  by_cases h : t < L.length
  · rw [if_pos h]
    simp [List.getD_eq_getElem?_getD, List.getElem?_append_left h]
  · rw [if_neg h]
    by_cases e : t = L.length
    · subst e; simp
    · have e2 : ¬ t - L.length = 0 := by omega
      rw [if_neg e2]
      have h9 : (L ++ [x])[t]? = none := List.getElem?_eq_none (by simp only [List.length_append, List.length_cons, List.length_nil]; omega)
      rw [List.getD_eq_getElem?_getD, h9]
      rfl
theorem mayNx {z : Nat → OpP} {s : KSt} {b c : Int} (h : ∀ j, mayM (fNk z s) j = if b.toNat = j then mayM s j ++ [filL c] else mayM s j) (_ : 0 ≤ b ∧ b < 4) :
    eqRowsO 4 (List.map Prod.fst ([] : List (Nat × Nat × Nat))) (mayV apf (mayM (fNk z s))) (updR (mayV apf (mayM s)) (natI b) (V.rows 1 (addN (lenL (mayM s (natI b))) 1)
      (catR (fun j => V.str (getL (mayM s (natI b)) (addN 0 j))) (lenL (mayM s (natI b))) fun j => lkV (V.str []) [(0, V.str (filI c 512))] (addN 0 j)))) := by
  intro j _ _
  by_cases e : j = natI b
  · subst e
    have h1 : mayM (fNk z s) (natI b) = mayM s (natI b) ++ [filL c] := by
      rw [h]
      exact if_pos rfl
    have e1 : mayV apf (mayM (fNk z s)) (natI b) = V.rows 1 (lenL (mayM (fNk z s) (natI b))) fun t => V.str (getL (mayM (fNk z s) (natI b)) t) := rfl
    rw [e1, h1, getApp]
    rw [show lenL (mayM s (natI b) ++ [filL c]) = addN (lenL (mayM s (natI b))) 1 by simp [lenL, addN]]
    exact congrArg nV (if_pos rfl : updR (mayV apf (mayM s)) (natI b) (V.rows 1 (addN (lenL (mayM s (natI b))) 1) (catR (fun j => V.str (getL (mayM s (natI b)) (addN 0 j))) (lenL (mayM s (natI b))) fun j => lkV (V.str []) [(0, V.str (filI c 512))] (addN 0 j))) (natI b) = _).symm
  · have h1 : mayM (fNk z s) j = mayM s j := by rw [h, if_neg (fun k => e k.symm)]
    have e1 : mayV apf (mayM (fNk z s)) j = mayV apf (mayM s) j := by
      show V.rows 1 (lenL (mayM (fNk z s) j)) (fun t => V.str (getL (mayM (fNk z s) j) t)) = V.rows 1 (lenL (mayM s j)) (fun t => V.str (getL (mayM s j) t))
      rw [h1]
    rw [e1]
    exact congrArg nV (if_neg e : updR (mayV apf (mayM s)) (natI b) _ j = _).symm
set_option maxRecDepth 20000 in
set_option maxHeartbeats 4000000 in
theorem vc4e (args : List Arg) (out : Out) (h : (cLaw4 apf args).to out) (hok : okAs args) :
    args.length = ic4e.nargs ∧ ic4e.nargs ≤ ic4e.ntmps ∧ ∃ A, run apf [(8, fun args => cNewY apf (args.map litA)), (9, cFixd apf), (14, fun args => nFail apf (args.map litA)), (11, fun args => cFilledF apf (args.map litA)), (10, fun args => nWrite apf (args.map litA)), (15, fun args => nOff apf (args.map litA)), (16, fun args => nOn apf (args.map litA)), (13, fun args => nReadD apf (args.map litA))] A ic4e.body (fnQ apf args out ic4e.res) (st0 [] true args) := by
  unfold cLaw4 at h
  split at h
  · rename_i n m f a k
    obtain ⟨h1, h2, h⟩ := h
    cases h
    obtain rfl : m = n := h1
    obtain ⟨z, rfl⟩ : ∃ z, f = opV apf z := ⟨_, h2⟩
    clear h2
    refine ⟨rfl, by decide, a4 apf m z a k, ?_⟩
    have hP0 : apf _ _ (apf _ _ leN 0) 4 := Nat.zero_le _
    have hP1 : apf _ _ (apf _ _ (apf _ _ InvK k) m) (apf _ _ (apf _ _ sK0 (apf _ _ (apf _ _ blk 60) a)) k) := invK_0
    have hU : ∀ (f : Nat → V) (i : Nat) (w : V), apf _ _ (apf _ _ (apf _ _ updR f) i) w i = w := fun f i w => if_pos rfl
    generalize hap : apf = ap at hP0 hP1 hU ⊢
    cbv
    repeat' first
      | exact True.intro
      | (intro (hh : _ = true); first | with_reducible exact absurd hh (bk_t (by assumption)) | cbv)
      | (intro (hh : _ = false); first | with_reducible exact absurd hh (bk_f (by assumption)) | cbv)
      | with_reducible refine And.intro ?_ ?_
      | (intro (ny : DvP) (hny : _ = ny); cbv)
      | (simp only; cbv)
      | (refine ⟨(0 : Nat), hP0, ?_⟩; cbv)
      | fail
    all_goals first
      | (intro (i : Nat) hi k1 k2
         clear k1 k2
         cbv
         repeat' first
           | exact True.intro
           | (intro (hh : _ = true); first | with_reducible exact absurd hh (bk_t (by assumption)) | cbv)
           | (intro (hh : _ = false); first | with_reducible exact absurd hh (bk_f (by assumption)) | cbv)
           | with_reducible refine And.intro ?_ ?_
           | (intro (ny : DvP) (hny : _ = ny); cbv)
           | (simp only; cbv)
           | (refine ⟨ap _ _ sucN i, ?_, (?_ : _ < _), ?_⟩; rotate_left 2; try cbv)
           | (refine ⟨ap _ _ (ap _ _ sK0 (ap _ _ (ap _ _ blk 60) a)) k, hP1, ?_⟩; try cbv)
           | fail
         all_goals first
           | (intro (s : KSt) hs k1 k2
              clear k1 k2
              cbv
              repeat' first
                | exact True.intro
                | (intro (hh : _ = true); first | with_reducible exact absurd hh (bk_t (by assumption)) | cbv)
                | (intro (hh : _ = false); first | with_reducible exact absurd hh (bk_f (by assumption)) | cbv)
                | with_reducible refine And.intro ?_ ?_
                | (intro (ny : DvP) (hny : _ = ny); cbv)
                | (simp only; cbv)
                | (refine ⟨ap _ _ (ap _ _ fNk z) s, ?_, (?_ : _ < _), ?_⟩; rotate_left 2; try cbv)
                | (refine ⟨ZSt.mk 0 s, ?_, ?_⟩; rotate_left 1; try cbv)
                | fail
              all_goals first
                | (intro (x : ZSt) hx k1 k2
                   clear k1 k2
                   cbv
                   repeat' first
                     | exact True.intro
                     | (intro (hh : _ = true); first | with_reducible exact absurd hh (bk_t (by assumption)) | cbv)
                     | (intro (hh : _ = false); first | with_reducible exact absurd hh (bk_f (by assumption)) | cbv)
                     | with_reducible refine And.intro ?_ ?_
                     | (intro (ny : DvP) (hny : _ = ny); cbv)
                     | (simp only; cbv)
                     | (refine ⟨ap _ _ zNx x, ?_, (?_ : _ < _), ?_⟩; rotate_left 2; try cbv)
                     | (refine ⟨(0 : Nat), ?_, ?_⟩; rotate_left 1; try cbv)
                     | fail
                   all_goals first
                     | (intro (t : Nat) ht k1 k2
                        clear k1 k2
                        cbv
                        repeat' first
                          | exact True.intro
                          | (intro (hh : _ = true); first | with_reducible exact absurd hh (bk_t (by assumption)) | cbv)
                          | (intro (hh : _ = false); first | with_reducible exact absurd hh (bk_f (by assumption)) | cbv)
                          | with_reducible refine And.intro ?_ ?_
                          | (intro (ny : DvP) (hny : _ = ny); cbv)
                          | (simp only; cbv)
                          | (refine ⟨ap _ _ sucN t, ?_, (?_ : _ < _), ?_⟩; rotate_left 2; try cbv)
                          | (refine ⟨ap _ _ zNx x, ?_, (?_ : _ < _), ?_⟩; rotate_left 2; try cbv)
                          | fail)
                     | skip)
                | skip)
           | skip)
      | skip
    all_goals subst hap
    all_goals try clear hU
    all_goals try simp only [apf_e, cmF, dvMk_s, blk_e, natI_lenI] at *
    all_goals subst_vars
    all_goals try simp only [sK0_d, sK0_i, fNk_d, fNk_i, zNx_i, zNx_D, zNx_M, zM0, yL_e] at *
    all_goals first
      | with_reducible exact dvOk_s _
      | (simp only [eqN, eqI', eqB', eqL', leN, addN, V.cnt, Nat.zero_add, Nat.le_refl, eqRows, implies_true]; done)
      | exact newOk4
      | with_reducible exact rowsO_rfl
      | with_reducible exact len0
      | with_reducible exact len_nn
      | with_reducible exact mk512
      | with_reducible exact may0_0
      | with_reducible exact may0_s
      | with_reducible exact rowsO_self
      | (exfalso
         have h0 : neI 0 0 = true := by with_reducible assumption
         exact absurd h0 (by decide))
      | with_reducible exact lt_n (by with_reducible assumption)
      | with_reducible exact lt_4 (by with_reducible assumption)
      | with_reducible exact notIn_nil
      | (have hlt : i < 4 := lt_4 (by with_reducible assumption)
         first
           | exact len_suc hlt (by decide)
           | exact sub_lt' hlt
           | exact hlt)
      | (have h5 : i = 4 := ge_4 (by with_reducible assumption) (by with_reducible assumption)
         subst h5
         exact may0_4)
      | (have hs : InvK k m s := by with_reducible assumption
         have hz := zD_n1 (k := k) (m := m) (z := z) (s := s) (by with_reducible assumption)
         first
           | (simp only [hz, eqN, eqI', eqB', eqRows, implies_true]; done)
           | exact zP_n hs hz
           | exact (endK_a hs).1
           | exact (endK_a hs).2.1)
      | (have hs : InvK k m s := by with_reducible assumption
         have hz := zD_n2 (k := k) (m := m) (z := z) (s := s) (by with_reducible assumption)
         first
           | (simp only [hz, eqN, eqI', eqB', eqRows, implies_true]; done)
           | exact zP_n hs hz
           | exact (endK_a hs).1
           | exact (endK_a hs).2.1)
      | (have hx : zP k m z x := by with_reducible assumption
         have h4 : ltI (lenI x.i) 4 = true := by with_reducible assumption
         have hy := yEnd hx h4
         have hl := yLen hx
         first
           | exact hy.1
           | exact ⟨hx.1, lt_4 h4, hx.2.2⟩
           | exact sub_lt' (lt_4 h4)
           | exact len_suc (lt_4 h4) (by decide)
           | exact absurd hy.2.1 (ne_t'.1 (by with_reducible assumption))
           | exact le0
           | (have ht : ltN t (lenL (yL x)) := lt_n (by with_reducible assumption)
              first
                | with_reducible exact yF_t ht (by with_reducible assumption)
                | with_reducible exact yF_f ht (by with_reducible assumption)
                | exact len_suc ht (by have := hl.2; omega)
                | exact sub_lt' ht
                | exact ht
                | (rw [addN, Nat.zero_add]; exact ht))
           | (have ht : t = lenL (yL x) := ge_n (by with_reducible assumption) (by with_reducible assumption)
              subst ht
              have h := notB_t.1 (by with_reducible assumption)
              rw [hy.2.2.1] at h
              cases h)
           | (have hk := eq_t.1 (show eqI k 18446744073709551615 = true by with_reducible assumption)
              have e9 := hy.2.2.2 hk
              have e := sub1 hl.1 hl.2
              have h := eqL_f.1 (notB_t.1 (by with_reducible assumption))
              rw [e, natI, Int.toNat_natCast, addN, Nat.zero_add] at h
              exact absurd e9 h)
           | (have e := sub1 hl.1 hl.2
              rw [e]
              first
                | exact Int.natCast_nonneg _
                | (show _ + _ < _; rw [natI, Int.toNat_natCast]; have := hl.1; omega)
                | (show _ < _; rw [natI, Int.toNat_natCast]; have := hl.1; omega))
           | skip)
      | (have hs : InvK k m s := by with_reducible assumption
         have h1 : ltI (lenI s.i) (lenI m) = true := by with_reducible assumption
         have h2 : geI (lenI s.i) 50 = false := by with_reducible assumption
         have hlt : s.i < m := lt_n h1
         have h50 : s.i < 50 := ge_50 h2
         first
           | exact hs.1
           | exact invK_room hs
           | exact blk4.1
           | exact idx_lt (n := 4) blk4
           | (have he : eqI (wrtE s.d (blk 4 (z s.i).b) 512) 10 = true := by with_reducible assumption
              have hz := zD_y (k := k) (m := m) (z := z) (s := s) h1 h2
              have hb := endK_b (l := filI (z s.i).c 512) hs blk4 (eq_t.1 he)
              first
                | (simp only [hz, eqN, eqI', eqB', eqRows, implies_true]; done)
                | exact zP_y hs hz he
                | exact hb.1
                | exact hb.2.1)
           | (exfalso
              rcases kWr (l := []) hs (blk4 (x := (z s.i).b)) with ⟨w, _⟩ | ⟨w, _⟩
              · exact absurd w (ne_t'.1 (by with_reducible assumption))
              · exact absurd w (eq_f.1 (by with_reducible assumption)))
           | (have he : neI (wrtE s.d (blk 4 (z s.i).b) 512) 0 = false := by with_reducible assumption
              have hn := invK_next (z := z) hs h50 hlt (ne_f'.1 he)
              first
                | exact hn.1
                | exact sub_lt' hlt
                | exact len_suc h50 (by decide)
                | exact mayApp hs
                | exact mayNx hn.2 blk4
                | skip)
           | skip)
      | skip
  · exact h.elim
theorem s4 : Sound Try.prog [] 4 true (cLaw4 apf) := fn_sound rfl Try.call4 ok4e co4e (env_cons s8y (env_cons s9 (env_cons n14 (env_cons s11f (env_cons n10 (env_cons n15 (env_cons n16 (env_cons n13 env_nil)))))))) vc4e
theorem hout4 {n : Nat} {z : Nat → OpP} {a k : Int} : (cLaw4 apf [.v (.dsl n 5 (.rows 5 n (opV apf z))), .v (.int .i64 a), .v (.int .u64 k)]).to ⟨.tt, [], []⟩ := ⟨rfl, isOps_s _, rfl⟩
end Go.Cx.Rd
