/-
  Slots: a slot's first bytes, its check, a key crossed, its bytes.
-/
import Derived.Test.YtojllgpnhaaagaaDoorCxbJ
namespace Go.Cx.Rb
open Go Go.Cx Go.Proofs

def cHead (ap : AP) : Ctr
  | [.v (.cat 1 74 (.bool u) (.cat 1 73 (.int .i64 k) (.cat 1 72 (.int .i64 r) (.cat 16 56 (.ints .u8 m1 s) (.cat 32 24 (.ints .u8 m2 w) (.ints .u8 m3 c))))))] =>
    rif (m1 == 16 && m2 == 32 && m3 == 24) 321 <| .chk (ap _ _ inRnd ⟨u, k, r, s, w, c⟩) <| .ok ⟨.sl 0 [] 0 56 1 none, [], [.ints .u8 56 (ap _ _ headS ⟨u, k, r, s, w, c⟩)]⟩
  | _ => .fail 321
set_option maxRecDepth 20000 in
theorem vc92 (args : List Arg) (out : Out) (h : (cHead apf args).to out) (hok : okAs args) :
    args.length = ic92.nargs ∧ ic92.nargs ≤ ic92.ntmps ∧ ∃ A, run apf [(107, cNum apf)] A ic92.body (fnQ apf args out ic92.res) (st0 G1 true args) := by
  unfold cHead at h
  split at h
  · rename_i u k r m1 s m2 w m3 c
    obtain ⟨hm, h1, h⟩ := rif_to h
    cases h
    simp only [Bool.and_eq_true, beq_iff_eq] at hm
    obtain ⟨⟨rfl, rfl⟩, rfl⟩ := hm
    have h1 : 1 ≤ r ∧ r ≤ 64 := h1
    obtain ⟨⟨_, _, _, hs, hw, hc⟩, _⟩ := hok
    refine ⟨rfl, by decide, [], ?_⟩
    show run apf _ _ _ _ (st0 [(1, .ints .u32 64 kk)] _ _)
    generalize hK : kk = K
    generalize hap : apf = ap
    cbv
    repeat' first
      | exact True.intro
      | (intro _; cbv)
      | (refine And.intro ?_ ?_)
    all_goals subst hap
    all_goals have h64 : wcv .u64 r = r := by
                show IntKind.u64.wrap r = r
                rw [u64_emod]; omega
    all_goals first
      | (simp only [apf, leN, eqN, appN, addN, V.cnt] <;> omega)
      | (show 0 ≤ wcv .u64 r ∧ wcv .u64 r < 4294967296
         omega)
      | (simp [apf, eqL', headS, catL, subL, hs.1, hw.1, beL_len, addN, List.take_of_length_le, h64]; trace_state; done)
  · exact h.elim
theorem s92 : Sound Tryd.prog G1 92 (pu 92) (fun args => cHead apf (args.map litA)) := (fn_sound rfl Tryd.call92 ok92 co92 (env_cons s107 env_nil) vc92).lits
-- more
theorem headS_len {p : SlotP} (h1 : p.s.length = 16) (h2 : p.w.length = 32) : (headS p).length = 56 := by simp [headS, beL_len, h1, h2]
def cChk (ap : AP) : Ctr
  | [.v (.ints .u8 n key), .v (.cat 1 74 (.bool u) (.cat 1 73 (.int .i64 k) (.cat 1 72 (.int .i64 r) (.cat 16 56 (.ints .u8 m1 s) (.cat 32 24 (.ints .u8 m2 w) (.ints .u8 m3 c))))))] =>
    rif (n == 32 && m1 == 16 && m2 == 32 && m3 == 24) 322 <| .chk (ap _ _ inRnd ⟨u, k, r, s, w, c⟩) <| .ok ⟨.ints .u8 24 (ap _ _ (ap _ _ chkS key) ⟨u, k, r, s, w, c⟩), [], []⟩
  | _ => .fail 322
set_option maxRecDepth 20000 in
set_option maxHeartbeats 1000000 in
theorem vc85 (args : List Arg) (out : Out) (h : (cChk apf args).to out) (hok : okAs args) :
    args.length = ic85.nargs ∧ ic85.nargs ≤ ic85.ntmps ∧ ∃ A, run apf [(119, cDerive apf), (92, (fun args => cHead apf (args.map litA))), (120, cMac apf)] A ic85.body (fnQ apf args out ic85.res) (st0 G1 true args) := by
  unfold cChk at h
  split at h
  · rename_i n key u k r m1 s m2 w m3 c
    obtain ⟨hm, h1, h⟩ := rif_to h
    cases h
    simp only [Bool.and_eq_true, beq_iff_eq] at hm
    obtain ⟨⟨⟨rfl, rfl⟩, rfl⟩, rfl⟩ := hm
    obtain ⟨hk, ⟨_, _, _, hs, hw, hc⟩, _⟩ := hok
    refine ⟨rfl, by decide, [], ?_⟩
    show run apf _ _ _ _ (st0 [(1, .ints .u32 64 kk)] _ _)
    generalize hK : kk = K
    generalize hap : apf = ap
    cbv
    repeat' first
      | exact True.intro
      | (intro _; cbv)
      | (refine And.intro ?_ ?_)
    all_goals subst hap
    all_goals first
      | (simp only [apf, leN, eqN, addN, V.cnt, llen] <;> omega)
      | exact h1
      | rfl
      | (simp [apf, leN, llen]; done)
      | (simp [apf, eqL', chkS, checkL, subL, macS_len, headS_len (p := ⟨u, k, r, s, w, c⟩) hs.1 hw.1, List.take_of_length_le]; done)
      | (simp [apf, eqL', chkS, checkL, subL, hk.1, macS_len, headS_len (p := ⟨u, k, r, s, w, c⟩) hs.1 hw.1, List.take_of_length_le]; trace_state; done)
  · exact h.elim
theorem s85 : Sound Tryd.prog G1 85 (pu 85) (fun args => cChk apf (args.map litA)) := (fn_sound rfl Tryd.call85 ok85 co85 (env_cons s119 (env_cons s92 (env_cons s120 env_nil))) vc85).lits
def cCr (ap : AP) : Ctr
  | [.v (.ints .u8 n key), .v (.ints .u8 m b)] => rif (n == 32 && m == 32) 323 <| .ok ⟨.ints .u8 32 (ap _ _ (ap _ _ crS key) b), [], []⟩
  | _ => .fail 323
def aCr (ap : AP) (b W : List Int) : List (Nat × Ann) := [
  (0, .inv Nat (fun i => ⟨[(3, .ptr 3 []), (4, .ptr 4 []), (5, .ptr 5 []), (9, .int .i64 (ap _ _ lenI i))],
      [(3, ⟨.own, .ints .u8 32 (ap _ _ (ap _ _ (ap _ _ xorP b) W) i)⟩), (4, ⟨.own, .ints .u8 32 (ap _ _ zerosI 32)⟩), (5, ⟨.own, .ints .u8 32 W⟩)], []⟩)
    (fun i => i ≤ 32) (fun i => 32 - i))]
set_option maxRecDepth 20000 in
set_option maxHeartbeats 1000000 in
theorem vc84 (args : List Arg) (out : Out) (h : (cCr apf args).to out) (hok : okAs args) :
    args.length = ic84.nargs ∧ ic84.nargs ≤ ic84.ntmps ∧ ∃ A, run apf [(119, cDerive apf)] A ic84.body (fnQ apf args out ic84.res) (st0 G1 true args) := by
  unfold cCr at h
  split at h
  · rename_i n key m b
    obtain ⟨hm, h⟩ := rif_to h
    cases h
    simp only [Bool.and_eq_true, beq_iff_eq] at hm
    obtain ⟨rfl, rfl⟩ := hm
    obtain ⟨hk, hb, _⟩ := hok
    refine ⟨rfl, by decide, aCr apf b (macS key wrapL), ?_⟩
    show run apf _ _ _ _ (st0 [(1, .ints .u32 64 kk)] _ _)
    generalize hK : kk = K
    generalize hap : apf = ap
    generalize hW : macS key wrapL = W
    cbv
    and_intros
    any_goals (refine ⟨0, Nat.zero_le _, ?_⟩; cbv; and_intros)
    rotate_right 1
    · intro (i : Nat) hi _ _
      have hi : i ≤ 32 := hi
      cbv
      refine ⟨fun h7 => ?_, fun h7 => ?_⟩
      · have b0 : i < 32 := by
          have : (i : Int) < 32 := by subst hap; exact lt_t.1 h7
          omega
        have c1 : i + 1 ≤ 32 := b0
        have c2 : 32 - (i + 1) < 32 - i := by omega
        cbv
        and_intros
        any_goals (refine ⟨i + 1, c1, c2, ?_⟩; cbv; and_intros)
        all_goals subst hap
        all_goals have inc : wadd .i64 (i : Int) 1 = ((i + 1 : Nat) : Int) := inc_i64 (by omega)
        all_goals try simp only [apf, ltN, natI, eqN, eqI', eqL', arF, lenI, inc, Int.toNat_natCast]
        all_goals clear inc
        all_goals try omega
        all_goals exact (xorP_set (by rw [hb.1]; exact b0)).symm
      · have b0 : i = 32 := by
          have : (32 : Int) ≤ (i : Int) := by subst hap; exact lt_f.1 h7
          omega
        subst b0
        cbv
        subst hap
        and_intros
        all_goals first
          | exact True.intro
          | (show crS key b = _
             rw [crS, hW]; rfl)
          | rfl
    all_goals subst hap
    all_goals first
      | (simp [apf, leN, llen]; done)
      | exact hW.symm
      | rfl
  · exact h.elim
theorem s84 : Sound Tryd.prog G1 84 (pu 84) (fun args => cCr apf (args.map litA)) := (fn_sound rfl Tryd.call84 ok84 co84 (env_cons s119 env_nil) vc84).lits
def encB (p : SlotP) : List Int := if rightS p then (if p.u then headS p ++ p.c else zerosI 80) else []
def encE (p : SlotP) : Int := if rightS p then 0 else 3
/-- a slot's bytes, in new memory -/
def cEnc0 (ap : AP) : Ctr
  | [.v (.cat 1 74 (.bool u) (.cat 1 73 (.int .i64 k) (.cat 1 72 (.int .i64 r) (.cat 16 56 (.ints .u8 m1 s) (.cat 32 24 (.ints .u8 m2 w) (.ints .u8 m3 c))))))] =>
    rif (m1 == 16 && m2 == 32 && m3 == 24) 324 <| .br (ap _ _ rightS ⟨u, k, r, s, w, c⟩)
      (.ok ⟨.tcons (.sl 0 [] 0 80 1 none) (.tcons (.int .i64 (ap _ _ encE ⟨u, k, r, s, w, c⟩)) .tnil), [], [.ints .u8 80 (ap _ _ encB ⟨u, k, r, s, w, c⟩)]⟩)
      (.ok ⟨.tcons .nsl (.tcons (.int .i64 (ap _ _ encE ⟨u, k, r, s, w, c⟩)) .tnil), [], []⟩)
  | _ => .fail 324
set_option maxRecDepth 20000 in
set_option maxHeartbeats 1000000 in
theorem vc40 (args : List Arg) (out : Out) (h : (cEnc0 apf args).to out) (hok : okAs args) :
    args.length = ic40.nargs ∧ ic40.nargs ≤ ic40.ntmps ∧ ∃ A, run apf [(89, fun args => cRightS apf (args.map litA)), (92, (fun args => cHead apf (args.map litA)))] A ic40.body (fnQ apf args out ic40.res) (st0 G1 true args) := by
  unfold cEnc0 at h
  split at h
  · rename_i u k r m1 s m2 w m3 c
    obtain ⟨hm, h⟩ := rif_to h
    simp only [Bool.and_eq_true, beq_iff_eq] at hm
    obtain ⟨⟨rfl, rfl⟩, rfl⟩ := hm
    obtain ⟨⟨_, _, _, hs, hw, hc⟩, _⟩ := hok
    rcases h with ⟨hb, h⟩ | ⟨hb, h⟩
    all_goals cases h
    all_goals refine ⟨rfl, by decide, [], ?_⟩
    all_goals show run apf _ _ _ _ (st0 [(1, .ints .u32 64 kk)] _ _)
    all_goals generalize hK : kk = K
    all_goals have hb' : rightS ⟨u, k, r, s, w, c⟩ = _ := hb
    all_goals clear hb
    all_goals generalize hap : apf = ap
    all_goals cbv
    all_goals repeat' first
      | exact True.intro
      | (intro _; cbv)
      | (refine And.intro ?_ ?_)
    all_goals subst hap
    all_goals simp only [apf, notB_t, notB_f] at *
    all_goals first
      | (exfalso; simp_all; done)
      | (simp only [leN, eqN, appN, mksN, addN, V.cnt] <;> omega)
      | skip
    all_goals first
      | (cases u <;> first
          | (exact absurd (by assumption) (by decide))
          | (simp only [eqI', eqL', encE, encB, hb', if_true, if_false, Bool.false_eq_true]
             simp [catL, subL, headS_len (p := ⟨true, k, r, s, w, c⟩) hs.1 hw.1, hc.1, List.take_of_length_le]
             done)
          | (simp only [eqI', eqL', encE, encB, hb', if_true, if_false, Bool.false_eq_true]; done))
      | (have hu : u = true := by assumption
         subst hu
         exact ((right_t rfl).1 hb').2.2)
      | trace_state
  · exact h.elim
theorem s40 : Sound Tryd.prog G1 40 (pu 40) (fun args => cEnc0 apf (args.map litA)) := (fn_sound rfl Tryd.call40 ok40 co40 (env_cons s89 (env_cons s92 env_nil)) vc40).lits
end Go.Cx.Rb

/- Slots: wrapped, unwrapped, read. -/
namespace Go.Cx.Rb
open Go Go.Cx Go.Proofs

/-- a slot's bytes, for good -/
def cEnc (ap : AP) : Ctr
  | [.v (.cat 1 74 (.bool u) (.cat 1 73 (.int .i64 k) (.cat 1 72 (.int .i64 r) (.cat 16 56 (.ints .u8 m1 s) (.cat 32 24 (.ints .u8 m2 w) (.ints .u8 m3 c))))))] => rif (m1 == 16 && m2 == 32 && m3 == 24) 324 <|
      (.ok ⟨.tcons (dslA ap (ap _ _ encB ⟨u, k, r, s, w, c⟩)) (.tcons (.int .i64 (ap _ _ encE ⟨u, k, r, s, w, c⟩)) .tnil), [], []⟩)
  | _ => .fail 324
theorem encB_len {p : SlotP} (h : rightS p = true) (h1 : p.s.length = 16) (h2 : p.w.length = 32) (h3 : p.c.length = 24) : (encB p).length = 80 := by
  simp only [encB, h, if_true]
  split
  · simp [headS_len h1 h2, h3]
  · simp [zerosI]
theorem enc_freeze (args : List Arg) (out' : Out) (hok : okAs args) (h : (cEnc apf args).to out') : ∃ out, (cEnc0 apf args).to out ∧ Frz out out' := by
  unfold cEnc at h
  split at h
  · rename_i u k r m1 s m2 w m3 c
    obtain ⟨hm, h⟩ := rif_to h
    cases h
    simp only [Bool.and_eq_true, beq_iff_eq] at hm
    obtain ⟨⟨rfl, rfl⟩, rfl⟩ := hm
    obtain ⟨⟨_, _, _, hs, hw, hc⟩, _⟩ := hok
    cases hb : rightS ⟨u, k, r, s, w, c⟩ with
    | true =>
      have hl := encB_len hb hs.1 hw.1 hc.1
      refine ⟨⟨.tcons (.sl 0 [] 0 80 1 none) (.tcons (.int .i64 (encE ⟨u, k, r, s, w, c⟩)) .tnil), [], [.ints .u8 80 (encB ⟨u, k, r, s, w, c⟩)]⟩, .inl ⟨hb, rfl⟩, by show 1 ≤ 1000; decide, rfl, rfl, by simp [V.clo, V.noown], by simp, ?_⟩
      refine ⟨_, _, rfl, ⟨rfl, rfl, _, rfl, ⟨rfl, rfl⟩, ?_⟩, _, _, rfl, ⟨rfl, rfl⟩, rfl, rfl⟩
      show V.dsl (encB _).length 1 (.ints .u8 (encB _).length (encB _)) = _
      rw [hl]
    | false =>
      refine ⟨⟨.tcons .nsl (.tcons (.int .i64 (encE ⟨u, k, r, s, w, c⟩)) .tnil), [], []⟩, .inr ⟨hb, rfl⟩, by show 0 ≤ 1000; decide, rfl, rfl, by simp, by simp, ?_⟩
      refine ⟨_, _, rfl, .inr ⟨.u8, ?_⟩, _, _, rfl, ⟨rfl, rfl⟩, rfl, rfl⟩
      show V.dsl (encB _).length 1 (.ints .u8 (encB _).length (encB _)) = _
      have e : encB ⟨u, k, r, s, w, c⟩ = [] := by simp only [encB, hb]; rfl
      rw [e]; rfl
  · exact h.elim
theorem s40f : Sound Tryd.prog G1 40 (pu 40) (fun args => cEnc apf (args.map litA)) := s40.freezeOk fun _args out' hok h => enc_freeze _ out' (okAs_lit hok) h
end Go.Cx.Rb

/- Slots: wrapped and unwrapped. -/
namespace Go.Cx.Rb
open Go Go.Cx Go.Proofs

structure WrapA where
  p : List Int
  s : List Int
  r : Int
  m : List Int
  k : Int
def wrapBad (x : WrapA) : Bool := decide (sErr x.p x.r ≠ 0) || decide (x.k < 1) || decide (255 < x.k)
def wrapE (x : WrapA) : Int := if wrapBad x then 2 else 0
def wrap1 (x : WrapA) : SlotP := ⟨true, x.k, x.r, x.s, crS (sOut x.p x.s x.r) x.m, zerosI 24⟩
def wrapP (x : WrapA) : SlotP := if wrapBad x then slot0 else { wrap1 x with c := chkS (sOut x.p x.s x.r) (wrap1 x) }
theorem sErr_cases (p : List Int) (r : Int) : sErr p r = 2 ∨ (sErr p r = 0 ∧ 1 ≤ r ∧ r ≤ 64 ∧ p.length ≤ 64) := by
  unfold sErr
  cases h : sBad p r with
  | true => exact .inl rfl
  | false =>
    refine .inr ⟨rfl, ?_⟩
    simp only [sBad, Bool.or_eq_false_iff, decide_eq_false_iff_not] at h
    omega
def cWrap (ap : AP) : Ctr
  | [.v (.str p), .v (.ints .u8 n s), .v (.int .i64 r), .v (.ints .u8 n' m), .v (.int .i64 k)] => rif (n == 16 && n' == 32) 325 <| .ok
      ⟨.tcons (slotA ap (ap _ _ wrapP ⟨p, s, r, m, k⟩)) (.tcons (.int .i64 (ap _ _ wrapE ⟨p, s, r, m, k⟩)) .tnil), [], []⟩
  | _ => .fail 325
set_option maxRecDepth 20000 in
set_option maxHeartbeats 1000000 in
theorem vc35 (args : List Arg) (out : Out) (h : (cWrap apf args).to out) (hok : okAs args) :
    args.length = ic35.nargs ∧ ic35.nargs ≤ ic35.ntmps ∧ ∃ A, run apf [(83, cStretch apf), (84, (fun args => cCr apf (args.map litA))), (85, (fun args => cChk apf (args.map litA)))] A ic35.body (fnQ apf args out ic35.res) (st0 G1 true args) := by
  unfold cWrap at h
  split at h
  · rename_i p n s r n' m k
    obtain ⟨hm, h⟩ := rif_to h
    cases h
    simp only [Bool.and_eq_true, beq_iff_eq] at hm
    obtain ⟨rfl, rfl⟩ := hm
    obtain ⟨hp, hs, hr, hm, hk, _⟩ := hok
    refine ⟨rfl, by decide, [], ?_⟩
    show run apf _ _ _ _ (st0 [(1, .ints .u32 64 kk)] _ _)
    generalize hK : kk = K
    generalize hap : apf = ap
    cbv
    repeat' first
      | exact True.intro
      | (intro hh; with_reducible exact False.elim (tf_no (Eq.trans (Eq.symm (show _ = true by assumption)) hh)))
      | (intro hh; with_reducible exact False.elim (tf_no (Eq.trans (Eq.symm hh) (show _ = false by assumption))))
      | (intro _; cbv)
      | (refine And.intro ?_ ?_)
    all_goals subst hap
    all_goals simp only [apf, cmF, ne_t, ne_f, lt_t, lt_f, gt_t, gt_f] at *
    all_goals first
      | (simp only [eqN] <;> omega)
      | (have hb : wrapBad ⟨p, s, r, m, k⟩ = true := by
           simp only [wrapBad, Bool.or_eq_true, decide_eq_true_eq]
           omega
         simp only [wrapP, wrapE, hb, if_true, eqB', eqI', eqL', slot0]
         done)
      | (have hb : wrapBad ⟨p, s, r, m, k⟩ = false := by
           simp only [wrapBad, Bool.or_eq_false_iff, decide_eq_false_iff_not]
           omega
         simp only [wrapP, wrapE, hb, if_false, eqB', eqI', eqL', wrap1, Bool.false_eq_true]
         done)
      | (have h9 := sErr_cases p r
         show 1 ≤ r ∧ r ≤ 64
         omega)
      | trace_state
  · exact h.elim
theorem s35 : Sound Tryd.prog G1 35 (pu 35) (cWrap apf) := fn_sound rfl Tryd.call35 ok35 co35 (env_cons s83 (env_cons s84 (env_cons s85 env_nil))) vc35

theorem chk_len (key : List Int) (p : SlotP) : (chkS key p).length = 24 := by simp [chkS, macS_len]
def unwBad (p : List Int) (q : SlotP) : Bool := decide (sErr p q.r ≠ 0) || !eqL (chkS (sOut p q.s q.r) q) q.c
def unwE (p : List Int) (q : SlotP) : Int := if rightS q then (if q.u then (if unwBad p q then 14 else 0) else 4) else 3
def unwM (p : List Int) (q : SlotP) : List Int := if rightS q && q.u && !unwBad p q then crS (sOut p q.s q.r) q.w else zerosI 32
def cUnw (ap : AP) : Ctr
  | [.v (.str p), .v (.cat 1 74 (.bool u) (.cat 1 73 (.int .i64 k) (.cat 1 72 (.int .i64 r) (.cat 16 56 (.ints .u8 m1 s) (.cat 32 24 (.ints .u8 m2 w) (.ints .u8 m3 c))))))] => rif (m1 == 16 && m2 == 32 && m3 == 24) 326 <| .ok
      ⟨.tcons (.ints .u8 32 (ap _ _ (ap _ _ unwM p) ⟨u, k, r, s, w, c⟩)) (.tcons (.int .i64 (ap _ _ (ap _ _ unwE p) ⟨u, k, r, s, w, c⟩)) .tnil), [], []⟩
  | _ => .fail 326
set_option maxRecDepth 20000 in
set_option maxHeartbeats 1000000 in
theorem vc38 (args : List Arg) (out : Out) (h : (cUnw apf args).to out) (hok : okAs args) :
    args.length = ic38.nargs ∧ ic38.nargs ≤ ic38.ntmps ∧ ∃ A, run apf [(89, (fun args => cRightS apf (args.map litA))), (83, cStretch apf), (85, (fun args => cChk apf (args.map litA))), (90, cSame apf), (84, (fun args => cCr apf (args.map litA)))] A ic38.body (fnQ apf args out ic38.res) (st0 G1 true args) := by
  unfold cUnw at h
  split at h
  · rename_i p u k r m1 s m2 w m3 c
    obtain ⟨hm, h⟩ := rif_to h
    cases h
    simp only [Bool.and_eq_true, beq_iff_eq] at hm
    obtain ⟨⟨rfl, rfl⟩, rfl⟩ := hm
    obtain ⟨hp, ⟨_, _, _, hs, hw, hc⟩, _⟩ := hok
    refine ⟨rfl, by decide, [], ?_⟩
    show run apf _ _ _ _ (st0 [(1, .ints .u32 64 kk)] _ _)
    generalize hK : kk = K
    generalize hap : apf = ap
    cbv
    repeat' first
      | exact True.intro
      | (intro hh; with_reducible exact False.elim (tf_no (Eq.trans (Eq.symm (show _ = true by assumption)) hh)))
      | (intro hh; with_reducible exact False.elim (tf_no (Eq.trans (Eq.symm hh) (show _ = false by assumption))))
      | (intro _; cbv)
      | (refine And.intro ?_ ?_)
    all_goals subst hap
    all_goals simp only [apf, cmF, ne_t, ne_f, notB_t, notB_f, eqL_t, eqL_f] at *
    all_goals try simp only [subL_zero, List.take_of_length_le (Nat.le_of_eq (chk_len _ _)), List.take_of_length_le (Nat.le_of_eq hc.1)] at *
    all_goals first
      | (have hu : u = true := by assumption
         subst hu)
      | (have hu : u = false := by assumption
         subst hu)
      | skip
    all_goals first
      | (simp only [leN, eqN, addN, V.cnt] <;> omega)
      | exact ((right_t rfl).1 (by assumption)).2.2
      | (have hr : rightS ⟨u, k, r, s, w, c⟩ = false := by assumption
         simp only [unwM, unwE, eqI', eqL', hr, Bool.false_and, if_false, Bool.false_eq_true]
         first | done | rfl)
      | (have hr : rightS ⟨false, k, r, s, w, c⟩ = true := by assumption
         simp only [unwM, unwE, eqI', eqL', hr, Bool.false_and, Bool.and_false, if_false, if_true, Bool.false_eq_true]
         first | done | rfl)
      | (have hr : rightS ⟨true, k, r, s, w, c⟩ = true := by assumption
         have hb : unwBad p ⟨true, k, r, s, w, c⟩ = true := by simp [unwBad, eqL, *]
         simp only [unwM, unwE, eqI', eqL', hr, hb, Bool.true_and, Bool.not_true, Bool.and_false, if_false, if_true, Bool.false_eq_true]
         first | done | rfl)
      | (have hr : rightS ⟨true, k, r, s, w, c⟩ = true := by assumption
         have hb : unwBad p ⟨true, k, r, s, w, c⟩ = false := by simp [unwBad, eqL, *]
         simp only [unwM, unwE, eqI', eqL', hr, hb, Bool.true_and, Bool.not_false, if_false, if_true, Bool.false_eq_true]
         first | done | rfl)
      | trace_state
  · exact h.elim
theorem s38 : Sound Tryd.prog G1 38 (pu 38) (fun args => cUnw apf (args.map litA)) := (fn_sound rfl Tryd.call38 ok38 co38 (env_cons s89 (env_cons s83 (env_cons s85 (env_cons s90 (env_cons s84 env_nil))))) vc38).lits
end Go.Cx.Rb
