/-
  The program's 'Decode' of a superblock.
-/
import Derived.Test.YtojllgpnhaaagaaDoorCxbX
namespace Go.Cx.Rb
open Go Go.Cx Go.Proofs

def supA (ap : AP) (p : SupP) : V :=
  .cat 1 353 (.int .i64 (ap _ _ SupP.ph p)) (.cat 1 352 (.int .i64 (ap _ _ SupP.k p)) (.cat 1 351 (.int .i64 (ap _ _ SupP.o p)) (.cat 1 350 (.int .u64 (ap _ _ SupP.q p)) (.cat 1 349 (.int .i64 (ap _ _ SupP.b p)) (.cat 1 348 (.int .i64 (ap _ _ SupP.c p))
    (.cat 32 316 (.ints .u8 32 (ap _ _ SupP.root p)) (.cat 16 300 (.ints .u8 16 (ap _ _ SupP.salt p)) (.rows 75 4 fun j => slotA ap (ap _ _ (ap _ _ SupP.x p) j)))))))))
def cDec9 (ap : AP) : Ctr
  | [.b _ 1 (.ints .u8 _ b)] => .ok ⟨.tcons (supA ap (ap _ _ dec9P b)) (.tcons (.int .i64 (ap _ _ dec9E b)) .tnil), [], []⟩
  | _ => .fail 380
def wordX (b : List Int) : List Int := tk (e0 b) 8
def verX (b : List Int) : Int := numL (tk (e1 b) 1)
def eXl (b : List Int) (i : Nat) : List Int := (eX b i).1
def eXs (b : List Int) (i : Nat) : Bool := (eX b i).2
def supY (b : List Int) : SupP := { supX b with x := fun _ => slot0 }
theorem eXl_next {b : List Int} {i : Nat} : eXl b (i + 1) = rsL (eXl b i) (eXs b i) 80 := by
  show (if decE (tk (eX b i) 80) = 0 then rd (eX b i) 80 else sp (rd (eX b i) 80)).1 = _
  split <;> rfl
theorem eXs_bad {b : List Int} {i : Nat} (h : decE (tkL (eXl b i) (eXs b i) 80) ≠ 0) : eXs b (i + 1) = true := by
  show (if decE (tk (eX b i) 80) = 0 then rd (eX b i) 80 else sp (rd (eX b i) 80)).2 = _
  exact (congrArg Prod.snd (if_neg h)).trans rfl
theorem eXs_good {b : List Int} {i : Nat} (h : decE (tkL (eXl b i) (eXs b i) 80) = 0) : eXs b (i + 1) = flS (eXl b i) (eXs b i) 80 := by
  show (if decE (tk (eX b i) 80) = 0 then rd (eX b i) 80 else sp (rd (eX b i) 80)).2 = _
  exact (congrArg Prod.snd (if_pos h)).trans rfl
theorem sl_next {b : List Int} {i : Nat} : eqRows 4 (fun j => slotA apf (slI b (i + 1) j)) (updR (fun j => slotA apf (slI b i j)) i (slotA apf (decP (tkL (eXl b i) (eXs b i) 80)))) := by
  intro j _
  have e : updR (fun j => slotA apf (slI b i j)) i (slotA apf (decP (tkL (eXl b i) (eXs b i) 80))) j = slotA apf (slI b (i + 1) j) := by
    by_cases hj : j = i
    · subst hj
      rw [updR, if_pos rfl, slI, if_pos (by omega)]
      rfl
    · rw [updR, if_neg hj]
      have : slI b i j = slI b (i + 1) j := by
        unfold slI
        by_cases h2 : j < i
        · rw [if_pos h2, if_pos (by omega)]
        · rw [if_neg h2, if_neg (by omega)]
      rw [this]
  rw [e]
theorem dec9_no {b : List Int} (h : okF b = false) : dec9P b = sup0 ∧ dec9E b = 12 := by
  have hF : ¬ okF b = true := by rw [h]; decide
  rw [dec9P, dec9E, if_neg hF, if_neg hF]
  exact ⟨Eq.refl _, Eq.refl _⟩
theorem dec9_yes {b : List Int} (h : okF b = true ∧ supX b = supF 1099511627776 b) : dec9P b = supX b ∧ dec9E b = 0 := by
  rw [dec9P, dec9E, if_pos h.1, if_pos h.1]
  exact ⟨h.2.symm, Eq.refl _⟩
theorem supX_no {b : List Int} (h : rgtE { ph := (supY b).ph, k := (supY b).k, o := (supY b).o, q := (supY b).q, b := (supY b).b, c := (supY b).c, root := (supY b).root, salt := (supY b).salt, x := slI b 4 } ≠ 0) : rgtE (supX b) ≠ 0 := h
theorem supX_yes {b : List Int} (h : rgtE { ph := (supY b).ph, k := (supY b).k, o := (supY b).o, q := (supY b).q, b := (supY b).b, c := (supY b).c, root := (supY b).root, salt := (supY b).salt, x := slI b 4 } = 0) : rgtE (supX b) = 0 := h
theorem eE_1 {b : List Int} : (eE b).1 = rsL (eXl b 4) (eXs b 4) 32 := by simp only [eE, rz, eXl, eXs]
theorem eE_2 {b : List Int} : (eE b).2 = zrS (eXl b 4) (eXs b 4) 32 := by simp only [eE, rz, eXl, eXs]
theorem no1 {b : List Int} (h : endE (rsL (eXl b 4) (eXs b 4) 32) (zrS (eXl b 4) (eXs b 4) 32) ≠ 0) : dec9No b := by
  rw [← eE_1, ← eE_2] at h
  unfold dec9No
  right; left
  exact h
theorem no2 {b : List Int} (h : wordX b ≠ [67, 76, 79, 73, 83, 84, 69, 82]) : dec9No b := by
  have h : tk (e0 b) 8 ≠ supL := h
  unfold dec9No
  right; right; left
  exact h
theorem no3 {b : List Int} (h : verX b ≠ 1) : dec9No b := by
  have h : numL (tk (e1 b) 1) ≠ 1 := h
  unfold dec9No
  right; right; right; left
  exact h
theorem no4 {b : List Int} (h : rgtE { ph := (supY b).ph, k := (supY b).k, o := (supY b).o, q := (supY b).q, b := (supY b).b, c := (supY b).c, root := (supY b).root, salt := (supY b).salt, x := slI b 4 } ≠ 0) : dec9No b := by
  have h := supX_no h
  unfold dec9No
  right; right; right; right
  exact h
theorem yes9 {b : List Int} (e0' : b.length = 512) (h1 : endE (rsL (eXl b 4) (eXs b 4) 32) (zrS (eXl b 4) (eXs b 4) 32) = 0) (h2 : wordX b = [67, 76, 79, 73, 83, 84, 69, 82]) (h3 : verX b = 1)
    (h4 : rgtE { ph := (supY b).ph, k := (supY b).k, o := (supY b).o, q := (supY b).q, b := (supY b).b, c := (supY b).c, root := (supY b).root, salt := (supY b).salt, x := slI b 4 } = 0) : ¬ dec9No b := by
  rw [← eE_1, ← eE_2] at h1
  have h2 : tk (e0 b) 8 = supL := h2
  have h3 : numL (tk (e1 b) 1) = 1 := h3
  have h4 := supX_yes h4
  unfold dec9No
  simp only [not_or, Decidable.not_not]
  exact ⟨e0', h1, h2, h3, h4⟩
def aDec9 (ap : AP) (b : List Int) : List (Nat × Ann) := [
  (0, .inv Nat (fun i => ⟨[(2, .ptr 2 []), (4, .ptr 17 []), (5, .str (ap _ _ wordX b)), (6, .int .u64 (ap _ _ verX b)), (7, .ptr 7 []), (60, .int .i64 (ap _ _ lenI i))],
    [(2, ⟨.own, .cat 1 353 (.lit .i64 0) (.cat 1 352 (.lit .i64 0) (.cat 1 351 (.lit .i64 0) (.cat 1 350 (.lit .u64 0) (.cat 1 349 (.lit .i64 0) (.cat 1 348 (.lit .i64 0) (.cat 32 316 (.ints .u8 32 (ap _ _ zerosI 32)) (.cat 16 300 (.ints .u8 16 (ap _ _ zerosI 16)) (.rows 75 4 fun _ => (.cat 1 74 .ff (.cat 1 73 (.lit .i64 0) (.cat 1 72 (.lit .i64 0) (.cat 16 56 (.ints .u8 16 (ap _ _ zerosI 16)) (.cat 32 24 (.ints .u8 32 (ap _ _ zerosI 32)) (.ints .u8 24 (ap _ _ zerosI 24)))))))))))))))⟩), (17, ⟨.own, rdA ap (ap _ _ (ap _ _ eXl b) i) (ap _ _ (ap _ _ eXs b) i)⟩),
     (7, ⟨.own, supV (ap _ _ SupP.ph (ap _ _ supY b)) (ap _ _ SupP.k (ap _ _ supY b)) (ap _ _ SupP.o (ap _ _ supY b)) (ap _ _ SupP.q (ap _ _ supY b)) (ap _ _ SupP.b (ap _ _ supY b)) (ap _ _ SupP.c (ap _ _ supY b)) (ap _ _ SupP.root (ap _ _ supY b)) (ap _ _ SupP.salt (ap _ _ supY b)) fun j => slotA ap (ap _ _ (ap _ _ (ap _ _ slI b) i) j)⟩)], []⟩)
    (fun i => i ≤ 4) (fun i => 4 - i))]
set_option maxRecDepth 20000 in
set_option maxHeartbeats 2000000 in
theorem vc60 (args : List Arg) (out : Out) (h : (cDec9 apf args).to out) (hok : okAs args) :
    args.length = ic60.nargs ∧ ic60.nargs ≤ ic60.ntmps ∧ ∃ A, run apf [(95, cRead apf), (98, (fun args => cTake apf (args.map litA))), (96, (fun args => cNumR apf (args.map litA))), (97, (fun args => cZeros apf (args.map litA))), (126, (fun args => cSml apf (args.map litA))), (42, cDec apf), (127, cSpoil apf), (99, (fun args => cEnd apf (args.map litA))), (56, (fun args => cRgt apf (args.map litA)))] A ic60.body (fnQ apf args out ic60.res) (st0 G1 true args) := by
  unfold cDec9 at h
  split at h
  · rename_i n' n b
    cases h
    obtain ⟨⟨hn, ⟨rfl, _⟩, hb⟩, _⟩ := hok
    refine ⟨rfl, by decide, aDec9 apf b, ?_⟩
    show run apf _ _ _ _ (st0 [(1, .ints .u32 64 kk)] _ _)
    generalize hK : kk = K
    generalize hD : apf _ _ dec9P b = D
    generalize hE : apf _ _ dec9E b = E
    generalize hap : apf = ap
    cbv
    repeat' first
      | exact True.intro
      | (intro (hh : _ = true); first | with_reducible exact False.elim (tf_no (Eq.trans (Eq.symm (show _ = true by assumption)) hh)) | cbv)
      | (intro (hh : _ = false); first | with_reducible exact False.elim (tf_no (Eq.trans (Eq.symm hh) (show _ = false by assumption))) | cbv)
      | with_reducible refine And.intro ?_ ?_
      | (refine ⟨0, Nat.zero_le _, ?_⟩; cbv)
    all_goals first
      | (intro (i : Nat) hi _ _
         have hi : i ≤ 4 := hi
         cbv
         repeat' first
           | exact True.intro
           | (intro (hh : _ = true); first | with_reducible exact False.elim (tf_no (Eq.trans (Eq.symm (show _ = true by assumption)) hh)) | cbv)
           | (intro (hh : _ = false); first | with_reducible exact False.elim (tf_no (Eq.trans (Eq.symm hh) (show _ = false by assumption))) | cbv)
           | with_reducible refine And.intro ?_ ?_
           | (refine ⟨i + 1, ?_, (?_ : _ < _), ?_⟩; rotate_left 2; try cbv)
           | (refine ⟨0, Nat.zero_le _, ?_⟩; cbv))
      | skip
    all_goals subst hap
    all_goals try simp only [apf, cmF, lt_t, lt_f, ne_t, ne_f, notB_t, notB_f, eqL_t, eqL_f, eqN, eqI', eqL', eqB', ltN, natI, lenI, unslots_n] at *
    all_goals first
      | omega
      | (simp only [leN, addN, V.cnt]; omega)
      | (have e0 : b.length ≠ 512 := by rw [hb.1]; omega
         obtain ⟨q1, q2⟩ := dec9_len e0
         have q1 : D = sup0 := hD.symm.trans q1
         have q2 : E = 12 := hE.symm.trans q2
         clear hD hE
         subst q1 q2
         first
           | exact rfl
           | exact fun _ _ => rfl)
      | (have e4 : i = 4 := by omega
         subst e4
         have hN : dec9No b := by
           first
             | exact no1 (by with_reducible assumption)
             | exact no2 (by with_reducible assumption)
             | exact no3 (by with_reducible assumption)
             | exact no4 (by with_reducible assumption)
         obtain ⟨q1, q2⟩ := dec9_no (dec9_bad hb.2 hN)
         have q1 : D = sup0 := hD.symm.trans q1
         have q2 : E = 12 := hE.symm.trans q2
         clear hD hE
         subst q1 q2
         first
           | exact rfl
           | exact fun _ _ => rfl)
      | (have e4 : i = 4 := by omega
         subst e4
         have e0 : b.length = 512 := by rw [hb.1]; omega
         have h1 : endE (rsL (eXl b 4) (eXs b 4) 32) (zrS (eXl b 4) (eXs b 4) 32) = 0 := by with_reducible assumption
         have h2 : wordX b = [67, 76, 79, 73, 83, 84, 69, 82] := by with_reducible assumption
         have h3 : verX b = 1 := by with_reducible assumption
         have hN : ¬ dec9No b := yes9 e0 h1 h2 h3 (by with_reducible assumption)
         obtain ⟨q1, q2⟩ := dec9_yes (dec9_good hb.2 hN)
         have q1 : D = supX b := hD.symm.trans q1
         have q2 : E = 0 := hE.symm.trans q2
         clear hD hE
         subst q1 q2
         first
           | exact rfl
           | exact fun _ _ => rfl)
      | (show 1 ≤ _ ∧ _ ≤ 8; decide)
      | with_reducible exact eXl_next
      | with_reducible exact congrArg llen eXl_next
      | with_reducible exact eXs_bad (by with_reducible assumption)
      | with_reducible exact eXs_good (by with_reducible assumption)
      | (show 4 - (i + 1) < 4 - i; omega)
      | exact (inc_i64 (i := i) (by omega)).symm
      | (show isSl (fun j => nV (slotA apf (slI b i j)))
         exact ⟨slI b i, rfl⟩)
      | (have hi' : i < 4 := by omega
         show eqRows 4 (fun j => slotA apf (slI b (i + 1) j)) (updR (fun j => slotA apf (slI b i j)) i (slotA apf (decP (tkL (eXl b i) (eXs b i) 80))))
         exact sl_next)
      | exact rfl
      | exact fun _ _ => rfl
      | skip
  · exact h.elim
set_option maxHeartbeats 2000000 in
theorem s60 : Sound Tryd.prog G1 60 (pu 60) (cDec9 apf) := fn_sound rfl Tryd.call60 ok60 co60 (env_cons s95 (env_cons s98 (env_cons s96 (env_cons s97 (env_cons s126 (env_cons s42 (env_cons s127 (env_cons s99 (env_cons s56 env_nil))))))))) vc60
end Go.Cx.Rb

/- A superblock's mac; Encode and Check, the program's and the document's. -/
namespace Go.Cx.Rb
open Go Go.Cx Go.Proofs

def superL : List Int := [115, 117, 112, 101, 114]
def tag9 (m b : List Int) : List Int := macS (macS m superL) b
def tagB (m b : List Int) : List Int := tag9 m (b.take 480)
theorem tag9_len (m b : List Int) : (tag9 m b).length = 32 := digest_len _
def enc9 (m : List Int) (p : SupP) : List Int := hdP p ++ tag9 m (hdP p)
def chkE (m b : List Int) : Int := if b.length = 512 then (if tagB m b = b.drop 480 then 0 else 13) else 3
theorem subL_mac (a b : List Int) : subL (macS a b) 0 32 = macS a b := subL_id (digest_len _)
theorem subL_self {l : List Int} : subL l 0 (llen l) = l := subL_id rfl
theorem chk_k1 {b m : List Int} {n : Nat} (h : b.length = n) : subL (tagB m (subL b 0 n)) 0 32 = tagB m b := by rw [subL_id h]; exact subL_id (tag9_len _ _)
theorem chk_k2 {b : List Int} {n : Nat} (h : b.length = n) (h2 : b.length = 512) : subL b (addN 0 480) (subN n 480) = b.drop 480 := by
  subst h
  rw [show addN 0 480 = 480 from rfl, show subN b.length 480 = b.length - 480 from rfl]
  exact subL_drop (by omega)
theorem chk_k3 {b m : List Int} : tag9 m (subL b 0 480) = tagB m b := by rw [subL_zero]; rfl
theorem chkE_3 {m b : List Int} (h : b.length ≠ 512) : chkE m b = 3 := if_neg h
theorem chkE_13 {m b : List Int} (h : b.length = 512) (h2 : tagB m b ≠ b.drop 480) : chkE m b = 13 := (if_pos h).trans (if_neg h2)
theorem chkE_0 {m b : List Int} (h : b.length = 512) (h2 : tagB m b = b.drop 480) : chkE m b = 0 := (if_pos h).trans (if_pos h2)
def cTag (ap : AP) : Ctr
  | [.b n 1 (.ints .u8 _ b), .v (.ints .u8 32 m)] => .chk (ap _ _ (ap _ _ leN 480) n) <| .ok ⟨.ints .u8 32 (ap _ _ (ap _ _ tagB m) b), [], []⟩
  | _ => .fail 390
def cTagR (ap : AP) : Ctr
  | [.b n 1 (.ints .u8 _ b), .v (.ints .u8 32 m)] => .chk (ap _ _ (ap _ _ leN n) 480) <| .ok ⟨.str (ap _ _ (ap _ _ tag9 m) b), [], []⟩
  | _ => .fail 391
set_option maxRecDepth 20000 in
set_option maxHeartbeats 2000000 in
theorem vc128 (args : List Arg) (out : Out) (h : (cTag apf args).to out) (hok : okAs args) :
    args.length = ic128.nargs ∧ ic128.nargs ≤ ic128.ntmps ∧ ∃ A, run apf [(119, cDerive apf), (120, cMac apf)] A ic128.body (fnQ apf args out ic128.res) (st0 G1 true args) := by
  unfold cTag at h
  split at h
  · rename_i n n' b m
    obtain ⟨h1, h⟩ := h
    cases h
    have h1 : 480 ≤ n := h1
    obtain ⟨⟨hn, ⟨rfl, _⟩, hb⟩, ⟨hm, _⟩, _⟩ := hok
    refine ⟨rfl, by decide, [], ?_⟩
    show run apf _ _ _ _ (st0 [(1, .ints .u32 64 kk)] _ _)
    generalize hK : kk = K
    generalize hap : apf = ap
    cbv
    repeat' first
      | exact True.intro
      | (intro (hh : _ = true); first | with_reducible exact False.elim (tf_no (Eq.trans (Eq.symm (show _ = true by assumption)) hh)) | cbv)
      | (intro (hh : _ = false); first | with_reducible exact False.elim (tf_no (Eq.trans (Eq.symm hh) (show _ = false by assumption))) | cbv)
      | with_reducible refine And.intro ?_ ?_
      | (refine ⟨0, Nat.zero_le _, ?_⟩; cbv)
    all_goals subst hap
    all_goals try simp only [apf, eqN, eqL'] at *
    all_goals first
      | omega
      | (simp only [leN, addN, V.cnt, llen, List.length_cons, List.length_nil] <;> omega)
      | (rw [subL_mac, subL_zero]; exact rfl)
      | skip
  · exact h.elim
set_option maxHeartbeats 2000000 in
theorem s128 : Sound Tryd.prog G1 128 (pu 128) (cTag apf) := fn_sound rfl Tryd.call128 ok128 co128 (env_cons s119 (env_cons s120 env_nil)) vc128
set_option maxRecDepth 20000 in
set_option maxHeartbeats 2000000 in
theorem vc122 (args : List Arg) (out : Out) (h : (cTagR apf args).to out) (hok : okAs args) :
    args.length = ic122.nargs ∧ ic122.nargs ≤ ic122.ntmps ∧ ∃ A, run apf [(142, cDerive apf), (141, cMacR apf)] A ic122.body (fnQ apf args out ic122.res) (st0 G2 true args) := by
  unfold cTagR at h
  split at h
  · rename_i n n' b m
    obtain ⟨h1, h⟩ := h
    cases h
    have h1 : n ≤ 480 := h1
    obtain ⟨⟨hn, ⟨rfl, _⟩, hb⟩, ⟨hm, _⟩, _⟩ := hok
    refine ⟨rfl, by decide, [], ?_⟩
    show run apf _ _ _ _ (st0 [(0, .ints .u32 64 kk), (1, .ints .u32 64 kk)] _ _)
    generalize hK : kk = K
    generalize hap : apf = ap
    cbv
    repeat' first
      | exact True.intro
      | (intro (hh : _ = true); first | with_reducible exact False.elim (tf_no (Eq.trans (Eq.symm (show _ = true by assumption)) hh)) | cbv)
      | (intro (hh : _ = false); first | with_reducible exact False.elim (tf_no (Eq.trans (Eq.symm hh) (show _ = false by assumption))) | cbv)
      | with_reducible refine And.intro ?_ ?_
      | (refine ⟨0, Nat.zero_le _, ?_⟩; cbv)
    all_goals subst hap
    all_goals try simp only [apf, eqL'] at *
    all_goals first
      | omega
      | (simp only [leN, addN, V.cnt, llen, List.length_cons, List.length_nil] <;> omega)
      | (rw [subL_mac, subL_mac, subL_id hb.1]
         exact rfl)
      | skip
  · exact h.elim
set_option maxHeartbeats 2000000 in
theorem s122 : Sound Tryd.prog G2 122 (pu 122) (cTagR apf) := fn_sound rfl Tryd.call122 ok122 co122 (env_cons s142 (env_cons s141 env_nil)) vc122
def cChk9 (ap : AP) : Ctr
  | [.b _ 1 (.ints .u8 _ b), .v (.ints .u8 32 m)] => .ok ⟨.int .i64 (ap _ _ (ap _ _ chkE m) b), [], []⟩
  | _ => .fail 392
set_option maxRecDepth 20000 in
set_option maxHeartbeats 2000000 in
theorem vc62 (args : List Arg) (out : Out) (h : (cChk9 apf args).to out) (hok : okAs args) :
    args.length = ic62.nargs ∧ ic62.nargs ≤ ic62.ntmps ∧ ∃ A, run apf [(128, cTag apf), (90, cSame apf)] A ic62.body (fnQ apf args out ic62.res) (st0 G1 true args) := by
  unfold cChk9 at h
  split at h
  · rename_i n n' b m
    cases h
    obtain ⟨⟨hn, ⟨rfl, _⟩, hb⟩, ⟨hm, _⟩, _⟩ := hok
    refine ⟨rfl, by decide, [], ?_⟩
    show run apf _ _ _ _ (st0 [(1, .ints .u32 64 kk)] _ _)
    generalize hK : kk = K
    generalize hap : apf = ap
    cbv
    repeat' first
      | exact True.intro
      | (intro (hh : _ = true); first | with_reducible exact False.elim (tf_no (Eq.trans (Eq.symm (show _ = true by assumption)) hh)) | cbv)
      | (intro (hh : _ = false); first | with_reducible exact False.elim (tf_no (Eq.trans (Eq.symm hh) (show _ = false by assumption))) | cbv)
      | with_reducible refine And.intro ?_ ?_
      | (refine ⟨0, Nat.zero_le _, ?_⟩; cbv)
    all_goals subst hap
    all_goals try simp only [apf, cmF, ne_t, ne_f, notB_t, notB_f, eqL_t, eqL_f, eqI', lenI] at *
    all_goals first
      | omega
      | (simp only [leN, addN, V.cnt, subN] <;> omega)
      | (have e0 : b.length ≠ 512 := by rw [hb.1]; omega
         exact chkE_3 e0)
      | (have e0 : b.length = 512 := by rw [hb.1]; omega
         simp only [chk_k1 hb.1, chk_k2 hb.1 e0] at hh
         exact chkE_13 e0 hh)
      | (have e0 : b.length = 512 := by rw [hb.1]; omega
         simp only [chk_k1 hb.1, chk_k2 hb.1 e0] at hh
         exact chkE_0 e0 hh)
      | skip
  · exact h.elim
set_option maxHeartbeats 2000000 in
theorem s62 : Sound Tryd.prog G1 62 (pu 62) (cChk9 apf) := fn_sound rfl Tryd.call62 ok62 co62 (env_cons s128 (env_cons s90 env_nil)) vc62
set_option maxRecDepth 20000 in
set_option maxHeartbeats 2000000 in
theorem vc63 (args : List Arg) (out : Out) (h : (cChk9 apf args).to out) (hok : okAs args) :
    args.length = ic63.nargs ∧ ic63.nargs ≤ ic63.ntmps ∧ ∃ A, run apf [(122, cTagR apf)] A ic63.body (fnQ apf args out ic63.res) (st0 G2 true args) := by
  unfold cChk9 at h
  split at h
  · rename_i n n' b m
    cases h
    obtain ⟨⟨hn, ⟨rfl, _⟩, hb⟩, ⟨hm, _⟩, _⟩ := hok
    refine ⟨rfl, by decide, [], ?_⟩
    show run apf _ _ _ _ (st0 [(0, .ints .u32 64 kk), (1, .ints .u32 64 kk)] _ _)
    generalize hK : kk = K
    generalize hap : apf = ap
    cbv
    repeat' first
      | exact True.intro
      | (intro (hh : _ = true); first | with_reducible exact False.elim (tf_no (Eq.trans (Eq.symm (show _ = true by assumption)) hh)) | cbv)
      | (intro (hh : _ = false); first | with_reducible exact False.elim (tf_no (Eq.trans (Eq.symm hh) (show _ = false by assumption))) | cbv)
      | with_reducible refine And.intro ?_ ?_
      | (refine ⟨0, Nat.zero_le _, ?_⟩; cbv)
    all_goals subst hap
    all_goals try simp only [apf, cmF, ne_t, ne_f, notB_t, notB_f, eqL_t, eqL_f, eqI', lenI] at *
    all_goals first
      | omega
      | (simp only [leN, addN, V.cnt, subN] <;> omega)
      | (have e0 : b.length ≠ 512 := by rw [hb.1]; omega
         exact chkE_3 e0)
      | (have e0 : b.length = 512 := by rw [hb.1]; omega
         simp only [chk_k2 hb.1 e0, chk_k3] at hh
         exact chkE_13 e0 hh)
      | (have e0 : b.length = 512 := by rw [hb.1]; omega
         simp only [chk_k2 hb.1 e0, chk_k3] at hh
         exact chkE_0 e0 hh)
      | skip
  · exact h.elim
set_option maxHeartbeats 2000000 in
theorem s63 : Sound Tryd.prog G2 63 (pu 63) (cChk9 apf) := fn_sound rfl Tryd.call63 ok63 co63 (env_cons s122 env_nil) vc63
def cEnc9 (ap : AP) : Ctr
  | [.v (.cat 1 353 (.int .i64 ph) (.cat 1 352 (.int .i64 k) (.cat 1 351 (.int .i64 o) (.cat 1 350 (.int .u64 q) (.cat 1 349 (.int .i64 b) (.cat 1 348 (.int .i64 c) (.cat 32 316 (.ints .u8 32 root) (.cat 16 300 (.ints .u8 16 salt) (.rows 75 4 f))))))))), .v (.ints .u8 32 m)] => .chk (ap _ _ isSl f) <| .br (ap _ _ rgtB ⟨ph, k, o, q, b, c, root, salt, ap _ _ unslots f⟩)
      (.ok ⟨.tcons (.sl 0 [] 0 512 1 none) (.tcons (.int .i64 (ap _ _ rgtE ⟨ph, k, o, q, b, c, root, salt, ap _ _ unslots f⟩)) .tnil), [], [.ints .u8 512 (ap _ _ (ap _ _ enc9 m) ⟨ph, k, o, q, b, c, root, salt, ap _ _ unslots f⟩)]⟩)
      (.ok ⟨.tcons .nsl (.tcons (.int .i64 (ap _ _ rgtE ⟨ph, k, o, q, b, c, root, salt, ap _ _ unslots f⟩)) .tnil), [], []⟩)
  | _ => .fail 393
set_option maxRecDepth 20000 in
set_option maxHeartbeats 2000000 in
theorem vc53 (args : List Arg) (out : Out) (h : (cEnc9 apf args).to out) (hok : okAs args) :
    args.length = ic53.nargs ∧ ic53.nargs ≤ ic53.ntmps ∧ ∃ A, run apf [(56, (fun args => cRgt apf (args.map litA))), (118, cHd apf), (119, cDerive apf), (120, cMac apf)] A ic53.body (fnQ apf args out ic53.res) (st0 G1 true args) := by
  unfold cEnc9 at h
  split at h
  · rename_i ph k o q b c root salt f m
    obtain ⟨⟨x, rfl⟩, h⟩ := h
    rcases h with ⟨hb, h⟩ | ⟨hb, h⟩
    all_goals
      cases h
      rw [unslots_eq] at *
      have hb : rgtB (⟨ph, k, o, q, b, c, root, salt, x⟩ : SupP) = _ := hb
      obtain ⟨⟨_, _, _, hq, _, _, hroot, hsalt, hrows⟩, ⟨hm, _⟩, _⟩ := hok
      have hlen : rgtB (⟨ph, k, o, q, b, c, root, salt, x⟩ : SupP) = true → (hdP (⟨ph, k, o, q, b, c, root, salt, x⟩ : SupP)).length = 480 := fun hb => hdP_len hroot.1 hsalt.1 fun j hj => by
        obtain ⟨_, _, _, h1, h2, h3⟩ := hrows j hj
        exact encB_len (rgt_slR hb j hj) h1.1 h2.1 h3.1
      clear hrows
    all_goals
      refine ⟨rfl, by decide, [], ?_⟩
      show run apf _ _ _ _ (st0 [(1, .ints .u32 64 kk)] _ _)
      generalize hK : kk = K
      generalize hap : apf = ap
      cbv
      repeat' first
        | exact True.intro
        | (intro (hh : _ = true); first | with_reducible exact False.elim (tf_no (Eq.trans (Eq.symm (show _ = true by assumption)) hh)) | cbv)
        | (intro (hh : _ = false); first | with_reducible exact False.elim (tf_no (Eq.trans (Eq.symm hh) (show _ = false by assumption))) | cbv)
        | with_reducible refine And.intro ?_ ?_
        | (refine ⟨0, Nat.zero_le _, ?_⟩; cbv)
      all_goals subst hap
      all_goals try simp only [apf, cmF, ne_t, ne_f, eqN, eqI', eqL', unslots_n, unslots_a] at *
      all_goals first
        | omega
        | (simp only [leN, addN, V.cnt, llen, List.length_cons, List.length_nil, appN] <;> omega)
        | exact ⟨x, rfl⟩
        | (exfalso; simp_all [rgtE]; done)
        | (simp only [rgtE, hb]; exact rfl)
        | exact rgt_slR hb
        | exact rfl
        | (have hl := hlen hb
           show enc9 m (⟨ph, k, o, q, b, c, root, salt, x⟩ : SupP) = _
           simp only [subL_mac, subL_id hl]
           exact rfl)
        | skip
  · exact h.elim
set_option maxHeartbeats 2000000 in
theorem s53 : Sound Tryd.prog G1 53 (pu 53) (cEnc9 apf) := fn_sound rfl Tryd.call53 ok53 co53 (env_cons s56 (env_cons s118 (env_cons s119 (env_cons s120 env_nil)))) vc53
theorem s57' : Sound Tryd.prog G2 57 (pu 57) (fun args => cRgtR apf (args.map litA)) := s57.more g12
theorem s121' : Sound Tryd.prog G2 121 (pu 121) (cHd apf) := s121.more g12
set_option maxRecDepth 20000 in
set_option maxHeartbeats 2000000 in
theorem vc54 (args : List Arg) (out : Out) (h : (cEnc9 apf args).to out) (hok : okAs args) :
    args.length = ic54.nargs ∧ ic54.nargs ≤ ic54.ntmps ∧ ∃ A, run apf [(57, (fun args => cRgtR apf (args.map litA))), (121, cHd apf), (122, cTagR apf)] A ic54.body (fnQ apf args out ic54.res) (st0 G2 true args) := by
  unfold cEnc9 at h
  split at h
  · rename_i ph k o q b c root salt f m
    obtain ⟨⟨x, rfl⟩, h⟩ := h
    rcases h with ⟨hb, h⟩ | ⟨hb, h⟩
    all_goals
      cases h
      rw [unslots_eq] at *
      have hb : rgtB (⟨ph, k, o, q, b, c, root, salt, x⟩ : SupP) = _ := hb
      obtain ⟨⟨_, _, _, hq, _, _, hroot, hsalt, hrows⟩, ⟨hm, _⟩, _⟩ := hok
      have hlen : rgtB (⟨ph, k, o, q, b, c, root, salt, x⟩ : SupP) = true → (hdP (⟨ph, k, o, q, b, c, root, salt, x⟩ : SupP)).length = 480 := fun hb => hdP_len hroot.1 hsalt.1 fun j hj => by
        obtain ⟨_, _, _, h1, h2, h3⟩ := hrows j hj
        exact encB_len (rgt_slR hb j hj) h1.1 h2.1 h3.1
      clear hrows
    all_goals
      refine ⟨rfl, by decide, [], ?_⟩
      show run apf _ _ _ _ (st0 [(0, .ints .u32 64 kk), (1, .ints .u32 64 kk)] _ _)
      generalize hK : kk = K
      generalize hap : apf = ap
      cbv
      repeat' first
        | exact True.intro
        | (intro (hh : _ = true); first | with_reducible exact False.elim (tf_no (Eq.trans (Eq.symm (show _ = true by assumption)) hh)) | cbv)
        | (intro (hh : _ = false); first | with_reducible exact False.elim (tf_no (Eq.trans (Eq.symm hh) (show _ = false by assumption))) | cbv)
        | with_reducible refine And.intro ?_ ?_
        | (refine ⟨0, Nat.zero_le _, ?_⟩; cbv)
      all_goals subst hap
      all_goals try simp only [apf, notB_t, notB_f, eqN, eqI', eqL', unslots_n, unslots_a] at *
      all_goals first
        | omega
        | (simp only [leN, addN, V.cnt, llen, appN, tag9_len] <;> omega)
        | exact ⟨x, rfl⟩
        | (exfalso; simp_all; done)
        | (simp only [rgtE, hb]; exact rfl)
        | exact rgt_slR hb
        | exact rfl
        | (have hl := hlen hb
           show enc9 m (⟨ph, k, o, q, b, c, root, salt, x⟩ : SupP) = _
           simp only [subL_id hl, subL_self]
           exact rfl)
        | skip
  · exact h.elim
set_option maxHeartbeats 2000000 in
theorem s54 : Sound Tryd.prog G2 54 (pu 54) (cEnc9 apf) := fn_sound rfl Tryd.call54 ok54 co54 (env_cons s57' (env_cons s121' (env_cons s122 env_nil))) vc54
end Go.Cx.Rb
