/-
  The laws of superblocks return true.
-/
import Derived.Test.YtojllgpnhaaagaaDoorCxbZa
import Derived.Test.YtojllgpnhaaagaaDoorCxbS
namespace Go.Cx.Rb
open Go Go.Cx Go.Proofs

theorem s53' : Sound Tryd.prog G2 53 (pu 53) (cEnc9 apf) := s53.more g12
theorem s55' : Sound Tryd.prog G2 55 (pu 55) (cFix9 apf) := s55.more g12
theorem s56' : Sound Tryd.prog G2 56 (pu 56) (fun args => cRgt apf (args.map litA)) := s56.more g12
theorem s58' : Sound Tryd.prog G2 58 (pu 58) (fun args => cHom apf (args.map litA)) := s58.more g12
theorem s59' : Sound Tryd.prog G2 59 (pu 59) (fun args => cHom apf (args.map litA)) := s59.more g12
theorem s60' : Sound Tryd.prog G2 60 (pu 60) (cDec9 apf) := s60.more g12
theorem s61' : Sound Tryd.prog G2 61 (pu 61) (cDec9R apf) := s61.more g12
theorem s62' : Sound Tryd.prog G2 62 (pu 62) (cChk9 apf) := s62.more g12
theorem cmF_n : cmF .neq = neI := rfl
theorem arF_rem : arF .rem = wrem := rfl
theorem rgtE_t {p : SupP} (h : rgtB p = true) : rgtE p = 0 := by rw [rgtE, if_pos h]
theorem rgtE_f {p : SupP} (h : rgtB p = false) : rgtE p = 3 := by rw [rgtE, if_neg (by rw [h]; decide)]
theorem rgt_agree (p : SupP) : eqB (eqI (rgtE p) 0) (rgtB p) = true := by
  cases h : rgtB p with
  | true => rw [rgtE_t h]; decide
  | false => rw [rgtE_f h]; decide
theorem rgt_mod (p : SupP) : wrem .i64 (rgtE p) 3 = 0 := by
  cases h : rgtB p with
  | true => rw [rgtE_t h]; decide
  | false => rw [rgtE_f h]; decide
theorem eqI_self (a : Int) : eqI a a = true := decide_eq_true rfl
theorem eqL_self (a : List Int) : eqL a a = true := decide_eq_true rfl
theorem neI_self (a : Int) : neI a a = false := by simp [neI]
theorem lenP_dec (b : List Int) : lenP (dec9P b) := by
  by_cases h : okF b = true
  · have hb : b.length = 512 := by
      simp only [okF, Bool.and_eq_true, decide_eq_true_eq] at h
      exact h.1.1.1.1.1
    rw [dec9P, if_pos h]
    refine ⟨by simp [supF, hb], by simp [supF, hb], fun j hj => ?_⟩
    show ((if j < 4 then decP (sB b j) else slot0).s.length = 16 ∧ (if j < 4 then decP (sB b j) else slot0).w.length = 32 ∧ (if j < 4 then decP (sB b j) else slot0).c.length = 24)
    rw [if_pos hj]
    exact decP_len _
  · rw [dec9P, if_neg h]
    exact ⟨by decide, by decide, fun j _ => show slot0.s.length = 16 ∧ slot0.w.length = 32 ∧ slot0.c.length = 24 by decide⟩
theorem idx_rng (a : Int) : 0 ≤ wcv .i64 (wrem .u64 (wcv .u64 a) 512) ∧ wcv .i64 (wrem .u64 (wcv .u64 a) 512) < 512 := by
  have h := wcv_u64_rng a
  have h1 : 0 ≤ wrem .u64 (wcv .u64 a) 512 ∧ wrem .u64 (wcv .u64 a) 512 < 512 := by
    show 0 ≤ (wcv .u64 a).tmod 512 ∧ (wcv .u64 a).tmod 512 < 512
    rw [Int.tmod_eq_emod_of_nonneg h.1]
    omega
  rw [wcv_i64 (by omega)]
  exact h1
def cLaw15 (ap : AP) : Ctr
  | [.v (.cat 1 353 (.int .i64 _) (.cat 1 352 (.int .i64 _) (.cat 1 351 (.int .i64 _) (.cat 1 350 (.int .u64 _) (.cat 1 349 (.int .i64 _) (.cat 1 348 (.int .i64 _) (.cat 32 316 (.ints .u8 32 _) (.cat 16 300 (.ints .u8 16 _) (.rows 75 4 f))))))))), .v (.ints .u8 32 _), .v (.int .i64 _)] => .chk (ap _ _ isSl f) <| .ok ⟨.tt, [], []⟩
  | _ => .fail 410
def cLaw16 (ap : AP) : Ctr
  | [.v (.dsl n 1 (.ints .u8 n' _)), .v (.ints .u8 32 _)] => .chk (ap _ _ (ap _ _ eqN n) n') <| .chk (ap _ _ fitM n) <| .ok ⟨.tt, [], []⟩
  | _ => .fail 411
def cLaw17 (ap : AP) : Ctr
  | [.v (.cat 1 353 (.int .i64 _) (.cat 1 352 (.int .i64 _) (.cat 1 351 (.int .i64 _) (.cat 1 350 (.int .u64 _) (.cat 1 349 (.int .i64 _) (.cat 1 348 (.int .i64 _) (.cat 32 316 (.ints .u8 32 _) (.cat 16 300 (.ints .u8 16 _) (.rows 75 4 f))))))))), .v (.ints .u8 32 _), .v (.ints .u8 32 _), .v (.int .i64 _), .v (.int .u8 _)] => .chk (ap _ _ isSl f) <| .ok ⟨.tt, [], []⟩
  | _ => .fail 412
set_option maxRecDepth 20000 in
set_option maxHeartbeats 4000000 in
theorem vc15 (args : List Arg) (out : Out) (h : (cLaw15 apf args).to out) (hok : okAs args) :
    args.length = ic15.nargs ∧ ic15.nargs ≤ ic15.ntmps ∧ ∃ A, run apf [(53, cEnc9 apf), (54, cEnc9 apf), (55, cFix9 apf), (56, (fun args => cRgt apf (args.map litA))), (57, (fun args => cRgtR apf (args.map litA))), (58, (fun args => cHom apf (args.map litA))), (59, (fun args => cHom apf (args.map litA)))] A ic15.body (fnQ apf args out ic15.res) (st0 G2 true args) := by
  unfold cLaw15 at h
  split at h
  · rename_i ph k o q b c root salt f m bl
    obtain ⟨⟨x, rfl⟩, h⟩ := h
    cases h
    obtain ⟨⟨_, _, _, hq, _, _, hroot, hsalt, hrows⟩, ⟨hm, _⟩, _⟩ := hok
    refine ⟨rfl, by decide, [], ?_⟩
    show run apf _ _ _ _ (st0 [(0, .ints .u32 64 kk), (1, .ints .u32 64 kk)] _ _)
    generalize hK : kk = K
    generalize hap : apf = ap
    cbv
    repeat' first
      | exact True.intro
      | (intro (hh : _ = true); first | with_reducible exact absurd hh (bk_t (by assumption)) | cbv)
      | (intro (hh : _ = false); first | with_reducible exact absurd hh (bk_f (by assumption)) | cbv)
      | with_reducible refine And.intro ?_ ?_
      | fail
    all_goals subst hap
    all_goals first
      | exact ⟨x, rfl⟩
      | (simp only [apf_e, leN, addN, V.cnt]; omega)
      | (simp only [apf_e, cmF_e, eqI_self, eqB']; done)
      | (simp only [apf_e, cmF_e, arF_rem, unslots_a, unslots_n, rgt_agree, rgt_mod, eqI_self, eqL_self, Bool.true_eq_false] at hh; done)
      | skip
  · exact h.elim
theorem s15 : Sound Tryd.prog G2 15 (pu 15) (cLaw15 apf) := fn_sound rfl Tryd.call15 ok15 co15 (env_cons s53' (env_cons s54 (env_cons s55' (env_cons s56' (env_cons s57' (env_cons s58' (env_cons s59' env_nil))))))) vc15
end Go.Cx.Rb

/- A law of superblocks returns true. -/
namespace Go.Cx.Rb
open Go Go.Cx Go.Proofs

set_option maxRecDepth 20000 in
set_option maxHeartbeats 4000000 in
theorem vc16 (args : List Arg) (out : Out) (h : (cLaw16 apf args).to out) (hok : okAs args) :
    args.length = ic16.nargs ∧ ic16.nargs ≤ ic16.ntmps ∧ ∃ A, run apf [(60, cDec9 apf), (61, cDec9R apf), (55, cFix9 apf), (62, cChk9 apf), (63, cChk9 apf)] A ic16.body (fnQ apf args out ic16.res) (st0 G2 true args) := by
  unfold cLaw16 at h
  split at h
  · rename_i n n' b m
    obtain ⟨h1, h2, h⟩ := h
    have h1 : n = n' := h1
    subst h1
    have h2 : n ≤ 140737488351232 := h2
    cases h
    obtain ⟨hb, ⟨hm, _⟩, _⟩ := hok
    refine ⟨rfl, by decide, [], ?_⟩
    show run apf _ _ _ _ (st0 [(0, .ints .u32 64 kk), (1, .ints .u32 64 kk)] _ _)
    generalize hK : kk = K
    generalize hap : apf = ap
    cbv
    repeat' first
      | exact True.intro
      | (intro (hh : _ = true); first | with_reducible exact absurd hh (bk_t (by assumption)) | cbv)
      | (intro (hh : _ = false); first | with_reducible exact absurd hh (bk_f (by assumption)) | cbv)
      | with_reducible refine And.intro ?_ ?_
      | fail
    all_goals subst hap
    all_goals have hs : subL b 0 n = b := subL_id hb.1
    all_goals first
      | (simp only [apf_e, leN, addN, V.cnt, appN, eqN]; omega)
      | (simp only [apf_e, eqL_self, eqB', hs]; done)
      | (simp only [apf_e, cmF_e, eqI_self, eqZ_refl, Bool.true_eq_false, hs] at hh; done)
      | (simp only [apf_e]; exact sup_ok2 (lenP_dec _))
      | exact rfl
      | skip
  · exact h.elim
theorem s16 : Sound Tryd.prog G2 16 (pu 16) (cLaw16 apf) := fn_sound rfl Tryd.call16 ok16 co16 (env_cons s60' (env_cons s61' (env_cons s55' (env_cons s62' (env_cons s63 env_nil))))) vc16
end Go.Cx.Rb

/- A law of superblocks returns true. -/
namespace Go.Cx.Rb
open Go Go.Cx Go.Proofs

set_option maxRecDepth 20000 in
set_option maxHeartbeats 4000000 in
theorem vc17 (args : List Arg) (out : Out) (h : (cLaw17 apf args).to out) (hok : okAs args) :
    args.length = ic17.nargs ∧ ic17.nargs ≤ ic17.ntmps ∧ ∃ A, run apf [(55, cFix9 apf), (53, cEnc9 apf), (60, cDec9 apf), (62, cChk9 apf), (63, cChk9 apf)] A ic17.body (fnQ apf args out ic17.res) (st0 G2 true args) := by
  unfold cLaw17 at h
  split at h
  · rename_i ph k o q b c root salt f m m2 at_ tn
    obtain ⟨⟨x, rfl⟩, h⟩ := h
    cases h
    obtain ⟨⟨_, _, _, hq, _, _, hroot, hsalt, hrows⟩, ⟨hm, _⟩, _⟩ := hok
    have hx : ∀ j, j < 4 → okLen (x j) := fun j hj => by
      obtain ⟨_, _, _, h1, h2, h3⟩ := hrows j hj
      exact ⟨h1, h2, h3⟩
    have hl0 : rgtB (⟨ph, k, o, q, b, c, root, salt, x⟩ : SupP) = true → (hdP (⟨ph, k, o, q, b, c, root, salt, x⟩ : SupP)).length = 480 := fun hg => hdP_len hroot.1 hsalt.1 fun j hj => encB_len (rgt_slR hg j hj) (hx j hj).1.1 (hx j hj).2.1.1 (hx j hj).2.2.1
    have hl : rgtB (⟨ph, k, o, q, b, c, root, salt, x⟩ : SupP) = true → (enc9 m (⟨ph, k, o, q, b, c, root, salt, x⟩ : SupP)).length = 512 := fun hg => by rw [enc9, List.length_append, hl0 hg, tag9_len]
    have hd : rgtB (⟨ph, k, o, q, b, c, root, salt, x⟩ : SupP) = true → okF (enc9 m (⟨ph, k, o, q, b, c, root, salt, x⟩ : SupP)) = true ∧ dec9P (enc9 m (⟨ph, k, o, q, b, c, root, salt, x⟩ : SupP)) = cut4 (⟨ph, k, o, q, b, c, root, salt, x⟩ : SupP) ∧ dec9E (enc9 m (⟨ph, k, o, q, b, c, root, salt, x⟩ : SupP)) = 0 := fun hg => dec_of_enc hg hroot hsalt hx (tag9_len _ _) (tag9_rng _ _)
    have hnP : lenP (⟨ph, k, o, q, b, c, root, salt, x⟩ : SupP) := ⟨hroot.1, hsalt.1, fun j hj => ⟨(hx j hj).1.1, (hx j hj).2.1.1, (hx j hj).2.2.1⟩⟩
    clear hrows
    refine ⟨rfl, by decide, [], ?_⟩
    show run apf _ _ _ _ (st0 [(0, .ints .u32 64 kk), (1, .ints .u32 64 kk)] _ _)
    generalize hK : kk = K
    generalize hap : apf = ap
    cbv
    repeat' first
      | exact True.intro
      | (intro (hh : _ = true); first | with_reducible exact absurd hh (bk_t (by assumption)) | cbv)
      | (intro (hh : _ = false); first | with_reducible exact absurd hh (bk_f (by assumption)) | cbv)
      | with_reducible refine And.intro ?_ ?_
      | fail
    all_goals subst hap
    all_goals first
      | exact ⟨x, rfl⟩
      | (simp only [apf_e, leN, addN, V.cnt]; omega)
      | (have hz := idx_rng at_
         simp only [apf_e, arF_rem, natI, ltN, addN] at *
         omega)
      | (with_reducible rename (apf SupP Bool rgtB _ = _) => hg
         with_reducible rename (apf Int Bool (apf Int (Int → Bool) (cmF BinOp.neq) (apf SupP Int rgtE _)) (0 : Int) = _) => he
         simp only [apf_e, cmF_n, unslots_a, ne_t, ne_f] at hg he
         first
           | exact absurd (rgtE_t hg) he
           | exact absurd (he.symm.trans (rgtE_f hg)) (by decide)
           | (have h3 := rgtE_f hg
              simp only [apf_e, cmF_e, unslots_a, eqI_self, Bool.true_eq_false, h3] at hh
              done))
      | (with_reducible rename (apf SupP Bool rgtB _ = true) => hg
         simp only [apf_e, unslots_a] at hg
         have e1 : subL (enc9 m (⟨ph, k, o, q, b, c, root, salt, x⟩ : SupP)) 0 512 = enc9 m (⟨ph, k, o, q, b, c, root, salt, x⟩ : SupP) := subL_id (hl hg)
         have d1 : dec9P (enc9 m (⟨ph, k, o, q, b, c, root, salt, x⟩ : SupP)) = cut4 (⟨ph, k, o, q, b, c, root, salt, x⟩ : SupP) := (hd hg).2.1
         have d2 : dec9E (enc9 m (⟨ph, k, o, q, b, c, root, salt, x⟩ : SupP)) = 0 := (hd hg).2.2
         have hc : chkE m (enc9 m (⟨ph, k, o, q, b, c, root, salt, x⟩ : SupP)) = 0 := chk_own (hl0 hg)
         have hz := eqZ_cut (⟨ph, k, o, q, b, c, root, salt, x⟩ : SupP)
         simp only [supA, apf_e] at hz
         first
           | (simp only [apf_e, cmF_n, ne_t, notB_t, unslots_a, neI_self, lenI, ne_eq, Bool.true_eq_false, Bool.false_eq_true, e1, d1, d2, hc, hz] at hh; done)
           | (simp only [apf_e, cmF_e, arF_rem, unslots_a, eqI_self, eqB', e1, d1]; done)
           | (simp only [apf_e, unslots_a, e1, d1]
              with_reducible exact sup_ok2 (lenP_cut (p := (⟨ph, k, o, q, b, c, root, salt, x⟩ : SupP)) hnP))
           | (simp only [apf_e]
              with_reducible exact sup_ok2 (p := (⟨ph, k, o, q, b, c, root, salt, x⟩ : SupP)) hnP))
      | (simp only [apf_e, cmF_e, cmF_n, arF_rem, eq_f, eq_t, ne_t, ne_f, notB_t, notB_f, eqL_f, unslots_a, unslots_n, unslots_s, rgt_agree, rgt_mod, eqI_self, eqL_self, neI_self, eqZ_refl, eqB', eqL', lenI, ne_eq, not_true_eq_false, reduceCtorEq, Bool.true_eq_false, Bool.false_eq_true]; done)
      | (simp only [apf_e, cmF_n, ne_t, lenI] at hh; omega)
      | skip
  · exact h.elim
theorem s17 : Sound Tryd.prog G2 17 (pu 17) (cLaw17 apf) := fn_sound rfl Tryd.call17 ok17 co17 (env_cons s55' (env_cons s53' (env_cons s60' (env_cons s62' (env_cons s63 env_nil))))) vc17
end Go.Cx.Rb
