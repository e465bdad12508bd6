/-
  The laws of slots return true: wrapped, unwrapped, there and back.
-/
import Derived.Test.YtojllgpnhaaagaaDoorCxbP
namespace Go.Cx.Rb
open Go Go.Cx Go.Proofs

theorem s37' : Sound Tryd.prog G2 37 (pu 37) (cFixS apf) := s37.more g12
theorem s35' : Sound Tryd.prog G2 35 (pu 35) (fun args => cWrap apf (args.map litA)) := s35.lits.more g12
theorem s36' : Sound Tryd.prog G2 36 (pu 36) (fun args => cWrap apf (args.map litA)) := s36.lits
theorem s38' : Sound Tryd.prog G2 38 (pu 38) (fun args => cUnw apf (args.map litA)) := s38.more g12
theorem s40' : Sound Tryd.prog G2 40 (pu 40) (fun args => cEnc apf (args.map litA)) := s40f.more g12
theorem s42' : Sound Tryd.prog G2 42 (pu 42) (cDec apf) := s42.more g12
theorem eqZ_refl (v : V) : eqZ v v = true := decide_eq_true rfl
def cLaw8 (_ : AP) : Ctr
  | [.v (.str _), .v (.ints .u8 16 _), .v (.int .i64 _), .v (.ints .u8 32 _), .v (.int .i64 _)] => .ok ⟨.tt, [], []⟩
  | _ => .fail 350
set_option maxRecDepth 20000 in
set_option maxHeartbeats 1000000 in
theorem vc8 (args : List Arg) (out : Out) (h : (cLaw8 apf args).to out) (hok : okAs args) :
    args.length = ic8.nargs ∧ ic8.nargs ≤ ic8.ntmps ∧ ∃ A, run apf [(35, (fun args => cWrap apf (args.map litA))), (36, (fun args => cWrap apf (args.map litA))), (37, cFixS apf)] A ic8.body (fnQ apf args out ic8.res) (st0 G2 true args) := by
  unfold cLaw8 at h
  split at h
  · rename_i p s r m k
    cases h
    obtain ⟨hp, hs, hr, hm, hk, _⟩ := hok
    refine ⟨rfl, by decide, [], ?_⟩
    show run apf _ _ _ _ (st0 [(0, .ints .u32 64 kk), (1, .ints .u32 64 kk)] _ _)
    generalize hK : kk = K
    generalize hap : apf = ap
    cbv
    repeat' first
      | exact True.intro
      | (intro hh; with_reducible exact False.elim (tf_no (Eq.trans (Eq.symm (show _ = true by assumption)) hh)))
      | (intro hh; with_reducible exact False.elim (tf_no (Eq.trans (Eq.symm hh) (show _ = false by assumption))))
      | (intro _; cbv)
      | (refine And.intro ?_ ?_)
    all_goals subst hap
    all_goals have hl := wrapP_len (x := ⟨p, s, r, m, k⟩) hs.1 hm.1
    all_goals first
      | exact slot_ok hl.1 hl.2.1 hl.2.2
      | (rename_i hq; exact tf_no ((eqZ_refl _).symm.trans hq))
      | exact eq_t.2 rfl
      | (rename_i hq; exact eq_f.1 hq rfl)
      | trace_state
  · exact h.elim
theorem s8 : Sound Tryd.prog G2 8 (pu 8) (cLaw8 apf) := fn_sound rfl Tryd.call8 ok8 co8 (env_cons s35' (env_cons s36' (env_cons s37' env_nil))) vc8
def cLaw9 (_ : AP) : Ctr
  | [.v (.str _), .v (.cat 1 74 (.bool _u) (.cat 1 73 (.int .i64 _k) (.cat 1 72 (.int .i64 _r) (.cat 16 56 (.ints .u8 m1 _s) (.cat 32 24 (.ints .u8 m2 _w) (.ints .u8 m3 _c))))))] => rif (m1 == 16 && m2 == 32 && m3 == 24) 351 (.ok ⟨.tt, [], []⟩)
  | _ => .fail 351
set_option maxRecDepth 20000 in
set_option maxHeartbeats 1000000 in
theorem vc9 (args : List Arg) (out : Out) (h : (cLaw9 apf args).to out) (hok : okAs args) :
    args.length = ic9.nargs ∧ ic9.nargs ≤ ic9.ntmps ∧ ∃ A, run apf [(38, (fun args => cUnw apf (args.map litA))), (39, (fun args => cUnw apf (args.map litA))), (40, (fun args => cEnc apf (args.map litA))), (41, (fun args => cEnc apf (args.map litA))), (37, cFixS apf)] A ic9.body (fnQ apf args out ic9.res) (st0 G2 true args) := by
  unfold cLaw9 at h
  split at h
  · rename_i p u k r m1 s m2 w m3 c
    obtain ⟨hm, h⟩ := rif_to h
    cases h
    simp only [Bool.and_eq_true, beq_iff_eq] at hm
    obtain ⟨⟨rfl, rfl⟩, rfl⟩ := hm
    obtain ⟨hp, ⟨_, _, _, hs, hw, hc⟩, _⟩ := hok
    refine ⟨rfl, by decide, [], ?_⟩
    show run apf _ _ _ _ (st0 [(0, .ints .u32 64 kk), (1, .ints .u32 64 kk)] _ _)
    generalize hK : kk = K
    generalize hap : apf = ap
    cbv
    repeat' first
      | exact True.intro
      | (intro hh; with_reducible exact False.elim (tf_no (Eq.trans (Eq.symm (show _ = true by assumption)) hh)))
      | (intro hh; with_reducible exact False.elim (tf_no (Eq.trans (Eq.symm hh) (show _ = false by assumption))))
      | (intro _; cbv)
      | (refine And.intro ?_ ?_)
    all_goals subst hap
    all_goals first
      | exact eq_t.2 rfl
      | (rename_i hq; exact eq_f.1 hq rfl)
      | (rename_i hq; exact eqL_f.1 hq rfl)
      | trace_state
  · exact h.elim
theorem s9 : Sound Tryd.prog G2 9 (pu 9) (fun args => cLaw9 apf (args.map litA)) := (fn_sound rfl Tryd.call9 ok9 co9 (env_cons s38' (env_cons s39 (env_cons s40' (env_cons s41f (env_cons s37' env_nil))))) vc9).lits
theorem xorP_rng {a b : List Int} (ha : a.length = 32) : ∀ y ∈ xorP a b 32, inR .u8 y := by
  intro y hy
  simp only [xorP, List.mem_append, List.mem_map] at hy
  rcases hy with ⟨j, _, rfl⟩ | hy
  · exact u8_rng _
  · rw [List.drop_of_length_le (by omega)] at hy; cases hy
theorem macS_rng (a b : List Int) : ∀ y ∈ macS a b, inR .u8 y := by
  intro y hy
  obtain ⟨j, hj, rfl⟩ := List.mem_iff_getElem.1 hy
  have := digest_rng (padX a 92 ++ digest (padX a 54 ++ b)) j
  have e : (macS a b)[j] = nthI (macS a b) j := by simp [nthI, List.getD_eq_getElem?_getD, hj]
  rw [e]; exact this
theorem encB_rng {q : SlotP} (h1 : ∀ y ∈ q.s, inR .u8 y) (h2 : ∀ y ∈ q.w, inR .u8 y) (h3 : ∀ y ∈ q.c, inR .u8 y) : ∀ y ∈ encB q, inR .u8 y := by
  intro y hy
  unfold encB at hy
  split at hy
  · split at hy
    · simp only [headS, List.mem_append, List.mem_cons, List.not_mem_nil, or_false] at hy
      rcases hy with ((((rfl | rfl | rfl | rfl) | hy) | hy) | hy) | hy
      · exact ⟨by decide, by decide⟩
      · exact u8_rng _
      · exact ⟨by decide, by decide⟩
      · exact ⟨by decide, by decide⟩
      · exact beL_rng _ _ y hy
      · exact h1 y hy
      · exact h2 y hy
      · exact h3 y hy
    · simp only [zerosI, List.mem_replicate] at hy
      rw [hy.2]; exact ⟨by decide, by decide⟩
  · cases hy
structure Back (p : List Int) (m : List Int) (E : Int) (Q : SlotP) : Prop where
  len : Q.s.length = 16 ∧ Q.w.length = 32 ∧ Q.c.length = 24
  bad : E ≠ 0 → E = 2 ∧ Q = slot0
  unw : E = 0 → unwE p Q = 0 ∧ unwM p Q = m
  enc : E = 0 → encE Q = 0
  dec : E = 0 → decE (encB Q) = 0 ∧ decP (encB Q) = Q
  dlen : ∀ b : List Int, (decP b).s.length = 16 ∧ (decP b).w.length = 32 ∧ (decP b).c.length = 24
theorem cpy_len {z t : List Int} {n : Nat} (hz : z.length = n) : (cpyL z t n).length = n := by
  simp [cpyL, layL, takeL, minN, llen, hz]; omega
theorem decP_len (b : List Int) : (decP b).s.length = 16 ∧ (decP b).w.length = 32 ∧ (decP b).c.length = 24 := by
  unfold decP
  split
  · exact ⟨by decide, by decide, by decide⟩
  · exact ⟨cpy_len (by decide), cpy_len (by decide), cpy_len (by decide)⟩
theorem back {p s m : List Int} {r k : Int} (hs : s.length = 16 ∧ ∀ y ∈ s, inR .u8 y) (hm : m.length = 32 ∧ ∀ y ∈ m, inR .u8 y) : Back p m (wrapE ⟨p, s, r, m, k⟩) (wrapP ⟨p, s, r, m, k⟩) := by
  have len := wrapP_len (x := ⟨p, s, r, m, k⟩) hs.1 hm.1
  refine ⟨len, fun h => ?_, fun h => unw_wrap h hm.1 hm.2, fun h => ?_, fun h => ?_, decP_len⟩
  · cases hb : wrapBad ⟨p, s, r, m, k⟩ with
    | true => exact ⟨by simp [wrapE, hb], by simp [wrapP, hb]⟩
    | false => simp [wrapE, hb] at h
  · simp only [encE, (wrap_right h).2.1, if_true]
  · obtain ⟨hb, hr, hu⟩ := wrap_right h
    obtain ⟨h1, h2⟩ := dec_enc hr hu len.1 len.2.1 len.2.2
    have hw := wrapP_ok hb
    have hrng : ∀ y ∈ encB (wrapP ⟨p, s, r, m, k⟩), inR .u8 y := encB_rng (by rw [hw]; exact hs.2) (by rw [hw]; exact xorP_rng hm.1) (by rw [hw]; exact fun y hy => macS_rng _ _ y (List.mem_of_mem_take hy))
    obtain ⟨h3, h4⟩ := dec_spec hrng
    rw [h3, h4, h1, h2]
    simp
def cLaw11 (_ : AP) : Ctr
  | [.v (.str _), .v (.str _), .v (.ints .u8 16 _), .v (.int .i64 _), .v (.ints .u8 32 _), .v (.int .i64 _)] => .ok ⟨.tt, [], []⟩
  | _ => .fail 352
set_option maxRecDepth 20000 in
set_option maxHeartbeats 1000000 in
theorem vc11 (args : List Arg) (out : Out) (h : (cLaw11 apf args).to out) (hok : okAs args) :
    args.length = ic11.nargs ∧ ic11.nargs ≤ ic11.ntmps ∧ ∃ A, run apf [(37, cFixS apf), (35, (fun args => cWrap apf (args.map litA))), (38, (fun args => cUnw apf (args.map litA))), (40, (fun args => cEnc apf (args.map litA))), (42, cDec apf), (39, (fun args => cUnw apf (args.map litA)))] A ic11.body (fnQ apf args out ic11.res) (st0 G2 true args) := by
  unfold cLaw11 at h
  split at h
  · rename_i p o s r m k
    cases h
    obtain ⟨hp, ho, hs, hr, hm, hk, _⟩ := hok
    refine ⟨rfl, by decide, [], ?_⟩
    show run apf _ _ _ _ (st0 [(0, .ints .u32 64 kk), (1, .ints .u32 64 kk)] _ _)
    generalize hK : kk = K
    generalize hap : apf = ap
    cbv
    repeat' first
      | exact True.intro
      | (intro hh; with_reducible exact False.elim (tf_no (Eq.trans (Eq.symm (show _ = true by assumption)) hh)))
      | (intro hh; with_reducible exact False.elim (tf_no (Eq.trans (Eq.symm hh) (show _ = false by assumption))))
      | (intro _; cbv)
      | (refine And.intro ?_ ?_)
    all_goals subst hap
    all_goals have hl := back (p := p) (r := r) (k := k) hs hm
    all_goals simp only [apf, cmF, ne_t, ne_f, eq_t, eq_f, eqL_t, eqL_f] at *
    all_goals generalize wrapE ⟨p, s, r, m, k⟩ = E at *
    all_goals generalize wrapP ⟨p, s, r, m, k⟩ = Q at *
    all_goals obtain ⟨u1, k1, r1, s1, w1, c1⟩ := Q
    all_goals try simp only at *
    all_goals first
      | exact slot_ok hl.len.1 hl.len.2.1 hl.len.2.2
      | exact slot_ok (u := false) (k := 0) (r := 0) (by decide) (by decide) (by decide)
      | exact slot_ok (hl.dlen _).1 (hl.dlen _).2.1 (hl.dlen _).2.2
      | exact eq_t.2 rfl
      | (have h0 : E ≠ 0 := by assumption
         have h1 := (hl.bad h0).2
         cases h1
         exact decide_eq_true rfl)
      | (have h0 : E ≠ 0 := by assumption
         exact absurd (hl.bad h0).1 (by assumption))
      | (have h0 : E = 0 := by assumption
         first
           | exact absurd (hl.unw h0).1 (by assumption)
           | exact absurd (hl.unw h0).2 (by assumption)
           | exact absurd (hl.enc h0) (by assumption)
           | exact absurd (hl.dec h0).1 (by assumption)
           | (have h2 := (hl.dec h0).2
              simp only [h2] at *
              exact tf_no ((eqZ_refl _).symm.trans (by assumption))))
      | trace_state
  · exact h.elim
theorem s11 : Sound Tryd.prog G2 11 (pu 11) (cLaw11 apf) := fn_sound rfl Tryd.call11 ok11 co11 (env_cons s37' (env_cons s35' (env_cons s38' (env_cons s40' (env_cons s42' (env_cons s39 env_nil)))))) vc11
end Go.Cx.Rb
