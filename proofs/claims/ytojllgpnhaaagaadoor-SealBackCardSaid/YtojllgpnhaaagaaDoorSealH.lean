/-
  What the laws of this claim stand on, part H: proved parts, no statement of its own.
-/
import Derived.Test.YtojllgpnhaaagaaDoorSealG
import Derived.Test.YtojllgpnhaaagaaDoorCards
import Derived.Test.YtojllgpnhaaagaaDoorTie
import Derived.ChangeMaps5
/- CxbEI -/
namespace Go.Cx.Rb
open Go Go.Cx Go.Proofs
/-- what stands at an image's head -/
def lkF (b : List Int) : HdP := ⟨nthI b 4, wcv .i64 (numL ((b.drop 24).take 8)), numL ((b.drop 8).take 8), numL ((b.drop 16).take 8)⟩
def lkOk (b : List Int) : Bool := decide (b.length = 512) && decide (b.take 4 = [67, 76, 83, 49]) && (allZ ((b.drop 5).take 3) && allZ ((b.drop 32).take 8)) && decide (numL ((b.drop 24).take 8) < 256) && hdR (lkF b)
def hd0 : HdP := ⟨0, 0, 0, 0⟩
def lkP (b : List Int) : HdP := if lkOk b = true then lkF b else hd0
def lkE (b : List Int) : Int := if b.length = 512 then (if lkOk b = true then 0 else 12) else 3
theorem lk_3 {b : List Int} (h : b.length ≠ 512) : lkP b = hd0 ∧ lkE b = 3 := by
  have e : lkOk b = false := by simp [lkOk, h]
  rw [lkP, lkE, if_neg h, e]
  exact ⟨rfl, rfl⟩
theorem lk_12 {b : List Int} (hb : b.length = 512) (h : lkOk b = false) : lkP b = hd0 ∧ lkE b = 12 := by
  rw [lkP, lkE, if_pos hb, h]
  exact ⟨rfl, rfl⟩
theorem lk_0 {b : List Int} (hb : b.length = 512) (h : lkOk b = true) : lkP b = lkF b ∧ lkE b = 0 := by
  rw [lkP, lkE, if_pos hb, h]
  exact ⟨rfl, rfl⟩
def cutD (b : List Int) (a : Nat) : List Int := (b.take 40).drop a
theorem cutD_len {b : List Int} {a : Nat} (hb : b.length = 512) : (cutD b a).length = 40 - a := by simp [cutD, hb]
theorem cut_ok {b : List Int} {a k : Nat} (hb : b.length = 512) (h : a + k ≤ 40) : okR (cutD b a) false (k : Int) = true := okR_t.2 ⟨rfl, by omega, by rw [cutD_len hb]; omega⟩
theorem cut_tk {b : List Int} {a k : Nat} (hb : b.length = 512) (h : a + k ≤ 40) : tkL (cutD b a) false (k : Int) = (b.drop a).take k := by
  rw [tkL, if_pos (cut_ok hb h), Int.toNat_natCast, cutD, List.drop_take, List.take_take, Nat.min_eq_left (by omega)]
theorem cut_rs {b : List Int} {a k : Nat} (hb : b.length = 512) (h : a + k ≤ 40) : rsL (cutD b a) false (k : Int) = cutD b (a + k) := by
  rw [rsL, if_pos (cut_ok hb h), Int.toNat_natCast, cutD, cutD, List.drop_drop]
theorem cut_fl {b : List Int} {a k : Nat} (hb : b.length = 512) (h : a + k ≤ 40) : flS (cutD b a) false (k : Int) = false := by
  rw [flS, cut_ok hb h]; rfl
theorem cut_zr {b : List Int} {a k : Nat} (hb : b.length = 512) (h : a + k ≤ 40) : zrS (cutD b a) false (k : Int) = !allZ ((b.drop a).take k) := by
  rw [zrS, cut_ok hb h, cut_tk hb h]; rfl
theorem sub_cut {b : List Int} : subL b 0 40 = cutD b 0 := subL_take
theorem sp_rs {l : List Int} {k : Int} : rsL l true k = l := by rw [rsL, okR_sp]; rfl
theorem sp_tk {l : List Int} {k : Int} : tkL l true k = [] := by rw [tkL, okR_sp]; rfl
theorem sp_fl {l : List Int} {k : Int} : flS l true k = true := by rw [flS, okR_sp]; rfl
theorem sp_zr {l : List Int} {k : Int} : zrS l true k = true := by rw [zrS, okR_sp]; rfl
theorem sp_end {l : List Int} : endE l true = 12 := rfl
theorem cut_end {b : List Int} (hb : b.length = 512) (s : Bool) : endE (cutD b 40) s = if s = true then 12 else 0 := by
  unfold endE
  rw [cutD_len hb]
  cases s <;> rfl
theorem one_at {b : List Int} (hb : b.length = 512) (hr : ∀ y ∈ b, inR .u8 y) : wcv .i64 (numL ((b.drop 4).take 1)) = nthI b 4 := by
  rw [wcv_num (rng_sub hr) (by simp; omega), num_one (by omega)]
theorem ctk0 {b : List Int} (hb : b.length = 512) : tkL (cutD b 0) false 4 = (b.drop 0).take 4 := cut_tk (k := 4) hb (by omega)
theorem crs0 {b : List Int} (hb : b.length = 512) : rsL (cutD b 0) false 4 = cutD b 4 := cut_rs (k := 4) hb (by omega)
theorem cfl0 {b : List Int} (hb : b.length = 512) : flS (cutD b 0) false 4 = false := cut_fl (k := 4) hb (by omega)
theorem ctk4 {b : List Int} (hb : b.length = 512) : tkL (cutD b 4) false 1 = (b.drop 4).take 1 := cut_tk (k := 1) hb (by omega)
theorem crs4 {b : List Int} (hb : b.length = 512) : rsL (cutD b 4) false 1 = cutD b 5 := cut_rs (k := 1) hb (by omega)
theorem cfl4 {b : List Int} (hb : b.length = 512) : flS (cutD b 4) false 1 = false := cut_fl (k := 1) hb (by omega)
theorem crs5 {b : List Int} (hb : b.length = 512) : rsL (cutD b 5) false 3 = cutD b 8 := cut_rs (k := 3) hb (by omega)
theorem czr5 {b : List Int} (hb : b.length = 512) : zrS (cutD b 5) false 3 = (!allZ ((b.drop 5).take 3)) := cut_zr (k := 3) hb (by omega)
theorem ctk8 {b : List Int} (hb : b.length = 512) : tkL (cutD b 8) false 8 = (b.drop 8).take 8 := cut_tk (k := 8) hb (by omega)
theorem crs8 {b : List Int} (hb : b.length = 512) : rsL (cutD b 8) false 8 = cutD b 16 := cut_rs (k := 8) hb (by omega)
theorem cfl8 {b : List Int} (hb : b.length = 512) : flS (cutD b 8) false 8 = false := cut_fl (k := 8) hb (by omega)
theorem ctk16 {b : List Int} (hb : b.length = 512) : tkL (cutD b 16) false 8 = (b.drop 16).take 8 := cut_tk (k := 8) hb (by omega)
theorem crs16 {b : List Int} (hb : b.length = 512) : rsL (cutD b 16) false 8 = cutD b 24 := cut_rs (k := 8) hb (by omega)
theorem cfl16 {b : List Int} (hb : b.length = 512) : flS (cutD b 16) false 8 = false := cut_fl (k := 8) hb (by omega)
theorem ctk24 {b : List Int} (hb : b.length = 512) : tkL (cutD b 24) false 8 = (b.drop 24).take 8 := cut_tk (k := 8) hb (by omega)
theorem crs24 {b : List Int} (hb : b.length = 512) : rsL (cutD b 24) false 8 = cutD b 32 := cut_rs (k := 8) hb (by omega)
theorem cfl24 {b : List Int} (hb : b.length = 512) : flS (cutD b 24) false 8 = false := cut_fl (k := 8) hb (by omega)
theorem crs32 {b : List Int} (hb : b.length = 512) : rsL (cutD b 32) false 8 = cutD b 40 := cut_rs (k := 8) hb (by omega)
theorem czr32 {b : List Int} (hb : b.length = 512) : zrS (cutD b 32) false 8 = (!allZ ((b.drop 32).take 8)) := cut_zr (k := 8) hb (by omega)
theorem numL_nil : numL [] = 0 := rfl
theorem lkOk_no {b : List Int} (h : (allZ ((b.drop 5).take 3) && allZ ((b.drop 32).take 8)) = false ∨ 256 ≤ numL ((b.drop 24).take 8) ∨ b.take 4 ≠ [67, 76, 83, 49] ∨ hdR (lkF b) = false) : lkOk b = false := by
  unfold lkOk
  rcases h with h | h | h | h
  · rw [h, Bool.and_false, Bool.false_and, Bool.false_and]
  · rw [decide_eq_false (show ¬ numL ((b.drop 24).take 8) < 256 by omega), Bool.and_false, Bool.false_and]
  · rw [decide_eq_false h, Bool.and_false, Bool.false_and, Bool.false_and, Bool.false_and]
  · rw [h, Bool.and_false]
theorem lkOk_yes {b : List Int} (e : b.length = 512) (h0 : allZ ((b.drop 5).take 3) = true) (h1 : allZ ((b.drop 32).take 8) = true) (h2 : numL ((b.drop 24).take 8) < 256) (h3 : b.take 4 = [67, 76, 83, 49]) (h4 : hdR (lkF b) = true) : lkOk b = true := by
  unfold lkOk
  rw [h0, h1, h4, decide_eq_true e, decide_eq_true h2, decide_eq_true h3]
  rfl
/-- the document's reader stands on the bytes from 4 on -/
theorem q_ok {b : List Int} {a k : Nat} (hb : b.length = 512) (h : a + k ≤ 36) : okQ (subL b 4 36) (a : Int) false (k : Int) = true :=
  okR_t.2 ⟨rfl, by omega, by rw [List.length_drop, subL_len (by omega), Int.toNat_natCast]; omega⟩
theorem q_tk {b : List Int} {a k : Nat} (hb : b.length = 512) (h : a + k ≤ 36) : tkQ (subL b 4 36) (a : Int) false (k : Int) = (b.drop (4 + a)).take k := by
  have e : okR ((subL b 4 36).drop (a : Int).toNat) false (k : Int) = true := q_ok hb h
  rw [tkQ, tkL, if_pos e, Int.toNat_natCast, Int.toNat_natCast, subL, List.drop_take, List.take_take, List.drop_drop, Nat.min_eq_left (by omega)]
theorem q_at {b : List Int} {a k : Nat} (hb : b.length = 512) (h : a + k ≤ 36) : atQ (subL b 4 36) (a : Int) false (k : Int) = ((a + k : Nat) : Int) := by
  rw [atQ, if_pos (q_ok hb h)]; omega
theorem q_fl {b : List Int} {a k : Nat} (hb : b.length = 512) (h : a + k ≤ 36) : flQ (subL b 4 36) (a : Int) false (k : Int) = false := by
  rw [flQ, q_ok hb h]; rfl
theorem q_zr {b : List Int} {a k : Nat} (hb : b.length = 512) (h : a + k ≤ 36) : zrQ (subL b 4 36) (a : Int) false (k : Int) = !allZ ((b.drop (4 + a)).take k) := by
  rw [zrQ, q_ok hb h, q_tk hb h]; rfl
theorem sub36 {b : List Int} : subL b 4 (subN 40 4) = subL b 4 36 := rfl
theorem okQ_t {l : List Int} {a k : Int} : okQ l a true k = false := okR_sp
theorem sq_at {l : List Int} {a k : Int} : atQ l a true k = a := by rw [atQ, okQ_t]; rfl
theorem sq_fl {l : List Int} {a k : Int} : flQ l a true k = true := by rw [flQ, okQ_t]; rfl
theorem sq_zr {l : List Int} {a k : Int} : zrQ l a true k = true := by rw [zrQ, okQ_t]; rfl
theorem sq_tk {l : List Int} {a k : Int} : tkQ l a true k = [] := by rw [tkQ, tkL, okR_sp]; rfl
theorem sq_end {l : List Int} {a : Int} : endQ l a true = 12 := rfl
theorem q_end {b : List Int} (hb : b.length = 512) (s : Bool) : endQ (subL b 4 36) 36 s = if s = true then 12 else 0 := by
  unfold endQ
  rw [subL_len (by omega)]
  cases s <;> rfl
theorem dtk0 {b : List Int} (hb : b.length = 512) : tkQ (subL b 4 36) 0 false 1 = (b.drop 4).take 1 := q_tk (a := 0) (k := 1) hb (by omega)
theorem dat0 {b : List Int} (hb : b.length = 512) : atQ (subL b 4 36) 0 false 1 = 1 := q_at (a := 0) (k := 1) hb (by omega)
theorem dfl0 {b : List Int} (hb : b.length = 512) : flQ (subL b 4 36) 0 false 1 = false := q_fl (a := 0) (k := 1) hb (by omega)
theorem dat1 {b : List Int} (hb : b.length = 512) : atQ (subL b 4 36) 1 false 3 = 4 := q_at (a := 1) (k := 3) hb (by omega)
theorem dzr1 {b : List Int} (hb : b.length = 512) : zrQ (subL b 4 36) 1 false 3 = (!allZ ((b.drop 5).take 3)) := q_zr (a := 1) (k := 3) hb (by omega)
theorem dtk4 {b : List Int} (hb : b.length = 512) : tkQ (subL b 4 36) 4 false 8 = (b.drop 8).take 8 := q_tk (a := 4) (k := 8) hb (by omega)
theorem dat4 {b : List Int} (hb : b.length = 512) : atQ (subL b 4 36) 4 false 8 = 12 := q_at (a := 4) (k := 8) hb (by omega)
theorem dfl4 {b : List Int} (hb : b.length = 512) : flQ (subL b 4 36) 4 false 8 = false := q_fl (a := 4) (k := 8) hb (by omega)
theorem dtk12 {b : List Int} (hb : b.length = 512) : tkQ (subL b 4 36) 12 false 8 = (b.drop 16).take 8 := q_tk (a := 12) (k := 8) hb (by omega)
theorem dat12 {b : List Int} (hb : b.length = 512) : atQ (subL b 4 36) 12 false 8 = 20 := q_at (a := 12) (k := 8) hb (by omega)
theorem dfl12 {b : List Int} (hb : b.length = 512) : flQ (subL b 4 36) 12 false 8 = false := q_fl (a := 12) (k := 8) hb (by omega)
theorem dtk20 {b : List Int} (hb : b.length = 512) : tkQ (subL b 4 36) 20 false 8 = (b.drop 24).take 8 := q_tk (a := 20) (k := 8) hb (by omega)
theorem dat20 {b : List Int} (hb : b.length = 512) : atQ (subL b 4 36) 20 false 8 = 28 := q_at (a := 20) (k := 8) hb (by omega)
theorem dfl20 {b : List Int} (hb : b.length = 512) : flQ (subL b 4 36) 20 false 8 = false := q_fl (a := 20) (k := 8) hb (by omega)
theorem dat28 {b : List Int} (hb : b.length = 512) : atQ (subL b 4 36) 28 false 8 = 36 := q_at (a := 28) (k := 8) hb (by omega)
theorem dzr28 {b : List Int} (hb : b.length = 512) : zrQ (subL b 4 36) 28 false 8 = (!allZ ((b.drop 32).take 8)) := q_zr (a := 28) (k := 8) hb (by omega)
def cLk (ap : AP) : Ctr
  | [.b _ 1 (.ints .u8 _ b)] => .ok ⟨.tcons (hdA ap (ap _ _ lkP b)) (.tcons (.int .i64 (ap _ _ lkE b)) .tnil), [], []⟩
  | _ => .fail 458
def cLkF (ap : AP) : Ctr
  | [.v (.dsl n 1 (.ints .u8 n' b))] => .chk (ap _ _ (ap _ _ eqN n) n') <| .ok ⟨.tcons (hdA ap (ap _ _ lkP b)) (.tcons (.int .i64 (ap _ _ lkE b)) .tnil), [], []⟩
  | _ => .fail 459
set_option maxRecDepth 20000 in
set_option maxHeartbeats 2000000 in
theorem vc69 (args : List Arg) (out : Out) (h : (cLk apf args).to out) (hok : okAs args) :
    args.length = ic69.nargs ∧ ic69.nargs ≤ ic69.ntmps ∧ ∃ A, run apf [(95, cRead apf), (98, (fun args => cTake apf (args.map litA))), (96, (fun args => cNumR apf (args.map litA))), (97, (fun args => cZeros apf (args.map litA))), (99, (fun args => cEnd apf (args.map litA))), (129, (fun args => cHdR apf (args.map litA)))] A ic69.body (fnQ apf args out ic69.res) (st0 G1 true args) := by
  unfold cLk at h
  split at h
  · rename_i n n' b
    cases h
    obtain ⟨⟨hn, ⟨rfl, _⟩, hb⟩, _⟩ := hok
    have hbl : b.length = _ := hb.1
    refine ⟨rfl, by decide, [], ?_⟩
    show run apf _ _ _ _ (st0 [(1, .ints .u32 64 kk)] _ _)
    generalize hK : kk = K
    generalize hap : apf = ap
    cbv
    repeat' first
      | exact True.intro
      | (intro (hh : _ = true); first | with_reducible exact False.elim (tf_no (Eq.trans (Eq.symm (show _ = true by assumption)) hh)) | cbv)
      | (intro (hh : _ = false); first | with_reducible exact False.elim (tf_no (Eq.trans (Eq.symm hh) (show _ = false by assumption))) | cbv)
      | with_reducible refine And.intro ?_ ?_
      | (refine ⟨0, Nat.zero_le _, ?_⟩; cbv)
    all_goals subst hap
    all_goals try simp only [apf_e, cmF_n, cmF_g, ge_t, ge_f, ne_t, ne_f, notB_t, notB_f, eqL_t, eqL_f, eqN, eqI', ltN, lenI] at *
    all_goals try simp only [addN0]
    all_goals first
      | omega
      | (simp only [leN, V.cnt]; omega)
      | (with_reducible show in18 _
         exact ⟨by decide, by decide⟩)
      | (with_reducible show smallK _
         unfold smallK; decide)
      | (have e5 : b.length ≠ 512 := by omega
         have e6 := lk_3 e5
         rw [e6.1]
         rfl)
      | (have e5 : b.length ≠ 512 := by omega
         have e6 := lk_3 e5
         exact e6.2)
      | skip
    all_goals have e5 : b.length = 512 := by omega
    all_goals have hone := one_at e5 hb.2
    all_goals try simp only [sub_cut, ctk0 e5, crs0 e5, cfl0 e5, ctk4 e5, crs4 e5, cfl4 e5, crs5 e5, czr5 e5] at *
    all_goals cases z1 : allZ ((b.drop 5).take 3)
    all_goals try have f1 : lkOk b = false := lkOk_no (.inl (by rw [z1]; rfl))
    all_goals try have f2 : allZ ((b.drop 32).take 8) = true → numL ((b.drop 24).take 8) < 256 → b.take 4 = [67, 76, 83, 49] → hdR (lkF b) = true → lkOk b = true := fun h1 h2 h3 h4 => lkOk_yes e5 z1 h1 h2 h3 h4
    all_goals try simp only [z1, Bool.not_false, Bool.not_true, sp_rs, sp_tk, sp_fl, sp_zr, sp_end, ctk8 e5, crs8 e5, cfl8 e5, ctk16 e5, crs16 e5, cfl16 e5, ctk24 e5, crs24 e5, cfl24 e5, crs32 e5, czr32 e5, cut_end e5] at *
    all_goals cases z2 : allZ ((b.drop 32).take 8)
    all_goals try have f1 : lkOk b = false := lkOk_no (.inl (by rw [z2, Bool.and_false]))
    all_goals try have f3 : numL ((b.drop 24).take 8) < 256 → b.take 4 = [67, 76, 83, 49] → hdR (lkF b) = true → lkOk b = true := f2 z2
    all_goals try simp only [z2, Bool.not_false, Bool.not_true, if_true, if_false, Bool.false_eq_true, List.drop_zero, hone, numL_nil] at *
    all_goals first
      | omega
      | (with_reducible show inA _ _
         unfold inA subN; omega)
      | (have e6 := lk_12 e5 f1
         first | exact e6.2 | (rw [e6.1]; rfl))
      | (have h7 : 256 ≤ numL ((b.drop 24).take 8) := by assumption
         have e6 := lk_12 e5 (lkOk_no (.inr (.inl h7)))
         first | exact e6.2 | (rw [e6.1]; rfl))
      | (have h7 : b.take 4 ≠ [67, 76, 83, 49] := by assumption
         have e6 := lk_12 e5 (lkOk_no (.inr (.inr (.inl h7))))
         first | exact e6.2 | (rw [e6.1]; rfl))
      | (have h7 : hdR (lkF b) = false := by assumption
         have e6 := lk_12 e5 (lkOk_no (.inr (.inr (.inr h7))))
         first | exact e6.2 | (rw [e6.1]; rfl))
      | (have h7 : hdR (lkF b) = true := by assumption
         have e6 := lk_0 e5 (f3 (by omega) (by assumption) h7)
         first | exact e6.2 | (rw [e6.1]; rfl))
      | skip
  · exact h.elim
set_option maxHeartbeats 2000000 in
theorem s69 : Sound Tryd.prog G1 69 (pu 69) (cLk apf) := fn_sound rfl Tryd.call69 ok69 co69 (env_cons s95 (env_cons s98 (env_cons s96 (env_cons s97 (env_cons s99 (env_cons s129 env_nil)))))) vc69
set_option maxRecDepth 20000 in
set_option maxHeartbeats 2000000 in
theorem vc71 (args : List Arg) (out : Out) (h : (cLkF apf args).to out) (hok : okAs args) :
    args.length = ic71.nargs ∧ ic71.nargs ≤ ic71.ntmps ∧ ∃ A, run apf [(101, (fun args => cIntQ apf (args.map litA))), (102, (fun args => cZerQ apf (args.map litA))), (100, (fun args => cNumQ apf (args.map litA))), (104, (fun args => cEndQ apf (args.map litA))), (73, (fun args => cHdR apf (args.map litA)))] A ic71.body (fnQ apf args out ic71.res) (st0 G1 true args) := by
  unfold cLkF at h
  split at h
  · rename_i n n' b
    obtain ⟨hn, h⟩ := h
    cases h
    cases (show n = n' from hn)
    clear hn
    obtain ⟨hb, _⟩ := hok
    have hbl : b.length = _ := hb.1
    refine ⟨rfl, by decide, [], ?_⟩
    show run apf _ _ _ _ (st0 [(1, .ints .u32 64 kk)] _ _)
    generalize hK : kk = K
    generalize hap : apf = ap
    cbv
    repeat' first
      | exact True.intro
      | (intro (hh : _ = true); first | with_reducible exact False.elim (tf_no (Eq.trans (Eq.symm (show _ = true by assumption)) hh)) | cbv)
      | (intro (hh : _ = false); first | with_reducible exact False.elim (tf_no (Eq.trans (Eq.symm hh) (show _ = false by assumption))) | cbv)
      | with_reducible refine And.intro ?_ ?_
      | (refine ⟨0, Nat.zero_le _, ?_⟩; cbv)
    all_goals subst hap
    all_goals try simp only [apf_e, cmF_n, cmF_g, ge_t, ge_f, ne_t, ne_f, notB_t, notB_f, eqL_t, eqL_f, eqN, eqI', lenI] at *
    all_goals try simp only [addN0, Int.toNat_natCast]
    all_goals first
      | omega
      | (simp only [leN]; omega)
      | (with_reducible show in18 _
         exact ⟨by decide, by decide⟩)
      | (with_reducible show smallK _
         unfold smallK; decide)
      | (have e5 : b.length ≠ 512 := by omega
         have e6 := lk_3 e5
         rw [e6.1]
         rfl)
      | (have e5 : b.length ≠ 512 := by omega
         have e6 := lk_3 e5
         exact e6.2)
      | skip
    all_goals have e5 : b.length = 512 := by omega
    all_goals have hone := one_at e5 hb.2
    all_goals try simp only [sub36] at *
    all_goals try simp only [dtk0 e5, dat0 e5, dfl0 e5, dat1 e5, dzr1 e5] at *
    all_goals cases z1 : allZ ((b.drop 5).take 3)
    all_goals try have f1 : lkOk b = false := lkOk_no (.inl (by rw [z1]; rfl))
    all_goals try have f2 : allZ ((b.drop 32).take 8) = true → numL ((b.drop 24).take 8) < 256 → b.take 4 = [67, 76, 83, 49] → hdR (lkF b) = true → lkOk b = true := fun h1 h2 h3 h4 => lkOk_yes e5 z1 h1 h2 h3 h4
    all_goals try simp only [z1, Bool.not_false, Bool.not_true, sq_at, sq_tk, sq_fl, sq_zr, sq_end, dtk4 e5, dat4 e5, dfl4 e5, dtk12 e5, dat12 e5, dfl12 e5, dtk20 e5, dat20 e5, dfl20 e5, dat28 e5, dzr28 e5, q_end e5] at *
    all_goals cases z2 : allZ ((b.drop 32).take 8)
    all_goals try have f1 : lkOk b = false := lkOk_no (.inl (by rw [z2, Bool.and_false]))
    all_goals try have f3 : numL ((b.drop 24).take 8) < 256 → b.take 4 = [67, 76, 83, 49] → hdR (lkF b) = true → lkOk b = true := f2 z2
    all_goals try simp only [z2, Bool.not_false, Bool.not_true, if_true, if_false, Bool.false_eq_true, hone, numL_nil, subL_take] at *
    all_goals first
      | omega
      | (with_reducible show inA _ _
         unfold inA subN; omega)
      | (have e6 := lk_12 e5 f1
         first | exact e6.2 | (rw [e6.1]; rfl))
      | (have h7 : 256 ≤ numL ((b.drop 24).take 8) := by assumption
         have e6 := lk_12 e5 (lkOk_no (.inr (.inl h7)))
         first | exact e6.2 | (rw [e6.1]; rfl))
      | (have h7 : b.take 4 ≠ [67, 76, 83, 49] := by assumption
         have e6 := lk_12 e5 (lkOk_no (.inr (.inr (.inl h7))))
         first | exact e6.2 | (rw [e6.1]; rfl))
      | (have h7 : hdR (lkF b) = false := by assumption
         have e6 := lk_12 e5 (lkOk_no (.inr (.inr (.inr h7))))
         first | exact e6.2 | (rw [e6.1]; rfl))
      | (have h7 : hdR (lkF b) = true := by assumption
         have e6 := lk_0 e5 (f3 (by omega) (by assumption) h7)
         first | exact e6.2 | (rw [e6.1]; rfl))
      | skip
  · exact h.elim
set_option maxHeartbeats 2000000 in
theorem s71 : Sound Tryd.prog G1 71 (pu 71) (cLkF apf) := fn_sound rfl Tryd.call71 ok71 co71 (env_cons s101 (env_cons s102 (env_cons s100l (env_cons s104 (env_cons s73 env_nil))))) vc71
end Go.Cx.Rb
/- CxbEJ -/
namespace Go.Cx.Rb
open Go Go.Cx Go.Proofs
def opOk (m b : List Int) : Bool := decide (lkE b = 0) && holdsL m b
def opE (m b : List Int) : Int := if lkE b = 0 then (if holdsL m b = true then 0 else 13) else lkE b
def opP (m b : List Int) : HdP := if opOk m b = true then lkP b else hd0
def opL (m b : List Int) : List Int := crs7 m (lkP b) (subL b 40 440)
theorem op_bad {m b : List Int} (h : lkE b ≠ 0) : opOk m b = false ∧ opE m b = lkE b ∧ opP m b = hd0 := by
  have e : opOk m b = false := by rw [opOk, decide_eq_false h]; rfl
  refine ⟨e, ?_, ?_⟩
  · rw [opE, if_neg h]
  · rw [opP, e]; rfl
theorem op_tag {m b : List Int} (h : lkE b = 0) (h2 : holdsL m b = false) : opOk m b = false ∧ opE m b = 13 ∧ opP m b = hd0 := by
  have e : opOk m b = false := by rw [opOk, h2, Bool.and_false]
  refine ⟨e, ?_, ?_⟩
  · rw [opE, if_pos h, h2]; rfl
  · rw [opP, e]; rfl
theorem op_yes {m b : List Int} (h : lkE b = 0) (h2 : holdsL m b = true) : opOk m b = true ∧ opE m b = 0 ∧ opP m b = lkP b := by
  have e : opOk m b = true := by rw [opOk, h2, decide_eq_true h]; rfl
  refine ⟨e, ?_, ?_⟩
  · rw [opE, if_pos h, h2]; rfl
  · rw [opP, e]; rfl
theorem lkE_len {b : List Int} (h : lkE b = 0) : b.length = 512 := by
  unfold lkE at h
  split at h
  · assumption
  · cases h
theorem lkE_ok {b : List Int} (h : lkE b = 0) : lkOk b = true := by
  have hl := lkE_len h
  rw [lkE, if_pos hl] at h
  split at h
  · assumption
  · cases h
theorem lkP_in {b : List Int} (hr : ∀ y ∈ b, inR .u8 y) (h : lkE b = 0) : inEp (lkP b).e ∧ inEp (lkP b).s := by
  have hl := lkE_len h
  have ho := lkE_ok h
  rw [(lk_0 hl ho).1]
  have hd : hdR (lkF b) = true := by
    unfold lkOk at ho
    simp only [Bool.and_eq_true] at ho
    exact ho.2
  have hd : hdOk (lkF b) := of_decide_eq_true hd
  have h1 := numL_rng ((b.drop 8).take 8) (rng_sub hr)
  have h2 := numL_rng ((b.drop 16).take 8) (rng_sub hr)
  exact ⟨⟨h1.1, hd.2.2.1⟩, ⟨h2.1, hd.2.2.2⟩⟩
def cOpn (ap : AP) : Ctr
  | [.v (.ints .u8 32 m), .b _ 1 (.ints .u8 _ b)] => .br (ap _ _ (ap _ _ opOk m) b)
      (.ok ⟨.tcons (hdA ap (ap _ _ (ap _ _ opP m) b)) (.tcons (.sl 0 [] 0 440 1 none) (.tcons (.int .i64 (ap _ _ (ap _ _ opE m) b)) .tnil)), [], [.ints .u8 440 (ap _ _ (ap _ _ opL m) b)]⟩)
      (.ok ⟨.tcons (hdA ap (ap _ _ (ap _ _ opP m) b)) (.tcons .nsl (.tcons (.int .i64 (ap _ _ (ap _ _ opE m) b)) .tnil)), [], []⟩)
  | _ => .fail 460
def cOpnF (ap : AP) : Ctr
  | [.v (.ints .u8 32 m), .v (.dsl n 1 (.ints .u8 n' b))] => .chk (ap _ _ (ap _ _ eqN n) n') <| .br (ap _ _ (ap _ _ opOk m) b)
      (.ok ⟨.tcons (hdA ap (ap _ _ (ap _ _ opP m) b)) (.tcons (.sl 0 [] 0 440 1 none) (.tcons (.int .i64 (ap _ _ (ap _ _ opE m) b)) .tnil)), [], [.ints .u8 440 (ap _ _ (ap _ _ opL m) b)]⟩)
      (.ok ⟨.tcons (hdA ap (ap _ _ (ap _ _ opP m) b)) (.tcons .nsl (.tcons (.int .i64 (ap _ _ (ap _ _ opE m) b)) .tnil)), [], []⟩)
  | _ => .fail 461
theorem s71g : Sound Tryd.prog G2 71 (pu 71) (cLkF apf) := s71.more g12
theorem holds_t {m b : List Int} : eqL (macS (sealK m) (subL b 0 480)) (subL b 480 (subN 512 480)) = holdsL m b := rfl
set_option maxRecDepth 20000 in
set_option maxHeartbeats 2000000 in
theorem vc70 (args : List Arg) (out : Out) (h : (cOpn apf args).to out) (hok : okAs args) :
    args.length = ic70.nargs ∧ ic70.nargs ≤ ic70.ntmps ∧ ∃ A, run apf [(69, cLk apf), (130, cKys apf), (120, cMac apf), (90, cSame apf), (131, (fun args => cCross apf (args.map litA)))] A ic70.body (fnQ apf args out ic70.res) (st0 G1 true args) := by
  unfold cOpn at h
  split at h
  · rename_i m n n' b
    obtain ⟨_, ⟨hn, ⟨rfl, _⟩, hb⟩, _⟩ := hok
    have hbl : b.length = _ := hb.1
    rcases h with ⟨ho, h⟩ | ⟨ho, h⟩
    all_goals cases h
    all_goals
      refine ⟨rfl, by decide, [], ?_⟩
      show run apf _ _ _ _ (st0 [(1, .ints .u32 64 kk)] _ _)
      generalize hK : kk = K
      generalize hap : apf = ap
      cbv
      repeat' first
        | exact True.intro
        | (intro (hh : _ = true); first | with_reducible exact False.elim (tf_no (Eq.trans (Eq.symm (show _ = true by assumption)) hh)) | cbv)
        | (intro (hh : _ = false); first | with_reducible exact False.elim (tf_no (Eq.trans (Eq.symm hh) (show _ = false by assumption))) | cbv)
        | with_reducible refine And.intro ?_ ?_
        | (refine ⟨0, Nat.zero_le _, ?_⟩; cbv)
      all_goals subst hap
      all_goals try simp only [apf_e, cmF_n, ne_t, ne_f, notB_t, notB_f, eqN, eqI', eqL'] at *
      all_goals try simp only [addN0, subL_id hbl] at *
      all_goals try have h0 : lkE b = 0 := by omega
      all_goals try have h5 : b.length = 512 := lkE_len h0
      all_goals try have hnn : n' = 512 := by omega
      all_goals try subst hnn
      all_goals try simp only [addN0, Int.toNat_natCast, subL_id hbl] at *
      all_goals try simp only [subK, mac32, holds_t] at *
      all_goals try have hin := lkP_in hb.2 h0
      all_goals first
        | omega
        | (simp only [leN, V.cnt, addN, subN]; omega)
        | (simp only [subN]; omega)
        | (have q := op_bad (m := m) (show lkE b ≠ 0 by assumption)
           first | with_reducible exact q.2.1 | (rw [q.2.2]; rfl) | exact Bool.noConfusion (q.1.symm.trans ho))
        | (have q := op_tag h0 (show holdsL m b = false by assumption)
           first | with_reducible exact q.2.1 | (rw [q.2.2]; rfl) | exact Bool.noConfusion (q.1.symm.trans ho))
        | (have q := op_yes h0 (show holdsL m b = true by assumption)
           first | with_reducible exact q.2.1 | rw [q.2.2] | exact Bool.noConfusion (q.1.symm.trans ho))
        | with_reducible exact hin.1
        | with_reducible exact hin.2
        | exact rfl
        | skip
  · exact h.elim
set_option maxHeartbeats 2000000 in
theorem s70 : Sound Tryd.prog G1 70 (pu 70) (cOpn apf) := fn_sound rfl Tryd.call70 ok70 co70 (env_cons s69 (env_cons s130 (env_cons s120 (env_cons s90 (env_cons s131l env_nil))))) vc70
set_option maxRecDepth 20000 in
set_option maxHeartbeats 2000000 in
theorem vc72 (args : List Arg) (out : Out) (h : (cOpnF apf args).to out) (hok : okAs args) :
    args.length = ic72.nargs ∧ ic72.nargs ≤ ic72.ntmps ∧ ∃ A, run apf [(71, cLkF apf), (74, cHld apf), (134, (fun args => cCrs apf (args.map litA)))] A ic72.body (fnQ apf args out ic72.res) (st0 G2 true args) := by
  unfold cOpnF at h
  split at h
  · rename_i m n n' b
    obtain ⟨hn, h⟩ := h
    cases (show n = n' from hn)
    clear hn
    obtain ⟨_, hb, _⟩ := hok
    have hbl : b.length = _ := hb.1
    rcases h with ⟨ho, h⟩ | ⟨ho, h⟩
    all_goals cases h
    all_goals
      refine ⟨rfl, by decide, [], ?_⟩
      show run apf _ _ _ _ (st0 [(0, .ints .u32 64 kk), (1, .ints .u32 64 kk)] _ _)
      generalize hK : kk = K
      generalize hap : apf = ap
      cbv
      repeat' first
        | exact True.intro
        | (intro (hh : _ = true); first | with_reducible exact False.elim (tf_no (Eq.trans (Eq.symm (show _ = true by assumption)) hh)) | cbv)
        | (intro (hh : _ = false); first | with_reducible exact False.elim (tf_no (Eq.trans (Eq.symm hh) (show _ = false by assumption))) | cbv)
        | with_reducible refine And.intro ?_ ?_
        | (refine ⟨0, Nat.zero_le _, ?_⟩; cbv)
      all_goals subst hap
      all_goals try simp only [apf_e, cmF_n, ne_t, ne_f, notB_t, notB_f, eqN, eqI', eqL'] at *
      all_goals try simp only [addN0, Int.toNat_natCast, subL_id hbl] at *
      all_goals try have h0 : lkE b = 0 := by omega
      all_goals try have h5 : b.length = 512 := lkE_len h0
      all_goals try have hnn : n = 512 := by omega
      all_goals try subst hnn
      all_goals try simp only at *
      all_goals try simp only [subK, mac32, holds_t] at *
      all_goals try have hin := lkP_in hb.2 h0
      all_goals first
        | omega
        | (simp only [leN, subN]; omega)
        | (simp only [subN]; omega)
        | (have q := op_bad (m := m) (show lkE b ≠ 0 by assumption)
           first | with_reducible exact q.2.1 | (rw [q.2.2]; rfl) | exact Bool.noConfusion (q.1.symm.trans ho))
        | (have q := op_tag h0 (show holdsL m b = false by assumption)
           first | with_reducible exact q.2.1 | (rw [q.2.2]; rfl) | exact Bool.noConfusion (q.1.symm.trans ho))
        | (have q := op_yes h0 (show holdsL m b = true by assumption)
           first | with_reducible exact q.2.1 | rw [q.2.2] | exact Bool.noConfusion (q.1.symm.trans ho))
        | with_reducible exact hin.1
        | with_reducible exact hin.2
        | exact rfl
        | skip
  · exact h.elim
set_option maxHeartbeats 2000000 in
theorem s72 : Sound Tryd.prog G2 72 (pu 72) (cOpnF apf) := fn_sound rfl Tryd.call72 ok72 co72 (env_cons s71g (env_cons s74 (env_cons s134l env_nil))) vc72
end Go.Cx.Rb
/- CxbEK -/
namespace Go.Cx.Rb
open Go Go.Cx
def okHd (p : HdP) : Prop := hdR p = true ∧ inR .u64 p.e ∧ inR .u64 p.s
theorem app_drop {a b : List Int} {n : Nat} (h : a.length = n) : (a ++ b).drop n = b := List.drop_left' h
theorem app_take {a b : List Int} {n : Nat} (h : a.length = n) : (a ++ b).take n = a := List.take_left' h
theorem seal_look {m l : List Int} {p : HdP} (h : okHd p) : lkOk (sealL m p l) = true ∧ lkF (sealL m p l) = p := by
  obtain ⟨hr, he, hs⟩ := h
  have hd : hdOk p := of_decide_eq_true hr
  have he := inR_u64.1 he
  have hs := inR_u64.1 hs
  have hl : (sealL m p l).length = 512 := sealL_len
  obtain ⟨R, hR⟩ : ∃ R, R = crs7 m p l ++ macS (sealK m) (img0 m p l) := ⟨_, rfl⟩
  have hb : sealL m p l = [67, 76, 83, 49, wcv .u8 p.k, 0, 0, 0] ++ (beL 8 p.e ++ (beL 8 p.s ++ (beL 8 (wcv .u64 p.h) ++ (beL 8 0 ++ R)))) := by
    rw [sealL, hR]
    show (hdB p ++ crs7 m p l) ++ macS (sealK m) (img0 m p l) = _
    rw [hdB_eq]
    simp only [List.append_assoc]
  have hk : wcv .u8 p.k = p.k := wcv_u8 (by have := hd.1; omega)
  have hh : wcv .u64 p.h = p.h := wcv_u64 (by have := hd.2.1; omega)
  rw [hk, hh] at hb
  generalize sealL m p l = b at hb hl ⊢
  have d8 : b.drop 8 = beL 8 p.e ++ (beL 8 p.s ++ (beL 8 p.h ++ (beL 8 0 ++ R))) := by rw [hb]; exact app_drop rfl
  have d16 : b.drop 16 = beL 8 p.s ++ (beL 8 p.h ++ (beL 8 0 ++ R)) := by
    have : b.drop 16 = (b.drop 8).drop 8 := by rw [List.drop_drop]
    rw [this, d8]; exact app_drop (beL_len 8 _)
  have d24 : b.drop 24 = beL 8 p.h ++ (beL 8 0 ++ R) := by
    have : b.drop 24 = (b.drop 16).drop 8 := by rw [List.drop_drop]
    rw [this, d16]; exact app_drop (beL_len 8 _)
  have d32 : b.drop 32 = beL 8 0 ++ R := by
    have : b.drop 32 = (b.drop 24).drop 8 := by rw [List.drop_drop]
    rw [this, d24]; exact app_drop (beL_len 8 _)
  have f : lkF b = p := by
    unfold lkF
    rw [d8, d16, d24, app_take (beL_len 8 _), app_take (beL_len 8 _), app_take (beL_len 8 _), num_be8 (v := p.e) (by omega), num_be8 (v := p.s) (by omega), num_be8 (v := p.h) (by have := hd.2.1; omega), wcv_i64 (by have := hd.2.1; omega), show nthI b 4 = p.k by rw [hb]; rfl]
  refine ⟨lkOk_yes hl ?_ ?_ ?_ ?_ (by rw [f]; exact hr), f⟩
  · rw [hb]; rfl
  · rw [d32, app_take (beL_len 8 _)]; rfl
  · rw [d24, app_take (beL_len 8 _), num_be8 (by have := hd.2.1; omega)]
    exact hd.2.1.2
  · rw [hb]; rfl
theorem seal_at {m l : List Int} {p : HdP} : subL (sealL m p l) 0 480 = img0 m p l ∧ subL (sealL m p l) 480 32 = macS (sealK m) (img0 m p l) := by
  constructor
  · rw [subL_take, sealL, app_take img0_len]
  · rw [subL_drop (by rw [sealL_len]; omega), sealL, app_drop img0_len]
theorem seal_pay {m l : List Int} {p : HdP} : subL (sealL m p l) 40 440 = crs7 m p l := by
  rw [subL, sealL, img0, List.append_assoc, app_drop (show (hdB p).length = 40 from hbS_len 4), app_take (show (crs7 m p l).length = 440 from cross_len)]
theorem eqL_refl (l : List Int) : eqL l l = true := decide_eq_true rfl
theorem seal_holds {m l : List Int} {p : HdP} : holdsL m (sealL m p l) = true := by
  rw [holdsL, tagL, seal_at.1, seal_at.2]
  exact eqL_refl _
/-- what is sealed is opened again by the same key -/
theorem seal_open {m l : List Int} {p : HdP} (h : okHd p) (hl : l.length = 440) (hb : bytesL l) :
    lkE (sealL m p l) = 0 ∧ lkP (sealL m p l) = p ∧ opOk m (sealL m p l) = true ∧ opE m (sealL m p l) = 0 ∧ opP m (sealL m p l) = p ∧ opL m (sealL m p l) = l := by
  obtain ⟨h1, h2⟩ := seal_look (m := m) (l := l) h
  obtain ⟨h3, h4⟩ := lk_0 sealL_len h1
  rw [h2] at h3
  obtain ⟨h5, h6, h7⟩ := op_yes h4 (seal_holds (m := m) (l := l) (p := p))
  refine ⟨h4, h3, h5, h6, h7.trans h3, ?_⟩
  rw [opL, h3, seal_pay]
  exact cross_twice hl hb
theorem bytes_of {l : List Int} (h : ∀ y ∈ l, inR .u8 y) : bytesL l := fun i => by
  have := nthI_rng (i := i) h
  exact ⟨this.1, by omega⟩
end Go.Cx.Rb
/- CxbEL -/
namespace Go.Cx.Rb
open Go Go.Cx
def z_m1 : List Int := [1, 0, 0, 0, 0, 0, 0, 0, 0, 0, 0, 0, 0, 0, 0, 0, 0, 0, 0, 0, 0, 0, 0, 0, 0, 0, 0, 0, 0, 0, 0, 0]
def z_m2 : List Int := [2, 0, 0, 0, 0, 0, 0, 0, 0, 0, 0, 0, 0, 0, 0, 0, 0, 0, 0, 0, 0, 0, 0, 0, 0, 0, 0, 0, 0, 0, 0, 0]
def z_c : List Int := [5, 5, 121, 83, 241, 6, 3, 142, 103, 176, 89, 135, 100, 142, 198, 159]
def z_k1 : List Int := [95, 44, 51, 254, 119, 141, 240, 111, 211, 249, 65, 45, 163, 108, 2, 45, 125, 18, 187, 87, 153, 73, 155, 180, 90, 161, 242, 109, 249, 229, 227, 240]
def z_k2 : List Int := [131, 92, 167, 139, 57, 120, 224, 12, 122, 49, 210, 74, 13, 43, 235, 23, 94, 218, 50, 94, 208, 197, 74, 189, 147, 194, 120, 91, 113, 23, 69, 166]
def z_W : List Int := [5, 5, 121, 83, 241, 6, 3, 142, 103, 176, 89, 135, 100, 142, 198, 159, 29, 177, 162, 16, 236, 183, 161, 158, 139, 7, 248, 25, 239, 137, 62, 134, 184, 3, 230, 207, 84, 180, 71, 81, 223, 179, 191, 72, 48, 58, 129, 206, 60, 15, 109, 203, 104, 187, 42, 154, 183, 8, 149, 210, 135, 50, 20, 28, 23, 245, 241, 220, 127, 78, 219, 70, 200, 70, 78, 148, 79, 116, 90, 136, 149, 75, 53, 88, 234, 5, 238, 30, 34, 67, 160, 138, 109, 55, 250, 2, 47, 102, 66, 100, 197, 99, 172, 122, 231, 32, 12, 240, 138, 23, 246, 242, 159, 36, 203, 26, 90, 71, 103, 96, 189, 103, 107, 144, 55, 112, 157, 98, 78, 122, 97, 128, 20, 61, 6, 224, 169, 90, 109, 112, 158, 42, 240, 18, 176, 246, 168, 139, 164, 203, 174, 107, 13, 145, 195, 27, 147, 187, 51, 9, 108, 53, 169, 87, 200, 254, 7, 60, 197, 111, 196, 39, 86, 212, 247, 46]
def z_img : List Int := [67, 76, 83, 49, 1, 0, 0, 0, 0, 0, 0, 0, 0, 0, 0, 7, 0, 0, 0, 0, 0, 0, 0, 9, 0, 0, 0, 0, 0, 0, 0, 3, 0, 0, 0, 0, 0, 0, 0, 0, 52, 211, 23, 88, 19, 159, 11, 200, 108, 155, 162, 111, 128, 98, 32, 38, 127, 239, 165, 146, 60, 46, 33, 231, 127, 111, 110, 95, 56, 41, 139, 251, 81, 208, 192, 29, 235, 241, 110, 83, 196, 57, 121, 160, 196, 174, 130, 65, 43, 147, 0, 18, 48, 217, 221, 214, 102, 146, 237, 239, 240, 46, 53, 122, 219, 0, 144, 99, 235, 32, 163, 153, 147, 220, 173, 22, 100, 63, 17, 247, 124, 85, 114, 241, 242, 217, 202, 194, 33, 69, 151, 19, 23, 175, 195, 76, 59, 104, 191, 34, 67, 107, 73, 198, 5, 27, 133, 80, 0, 187, 34, 113, 150, 211, 176, 193, 41, 182, 58, 157, 101, 27, 123, 77, 35, 19, 47, 26, 10, 227, 41, 46, 28, 24, 27, 91, 244, 179, 231, 185, 147, 168, 58, 89, 233, 188, 8, 137, 43, 220, 168, 91, 238, 74, 148, 31, 90, 120, 103, 46, 240, 72, 144, 109, 156, 171, 91, 54, 216, 48, 108, 153, 155, 45, 116, 14, 228, 83, 176, 160, 4, 135, 119, 57, 207, 201, 146, 7, 136, 148, 238, 234, 130, 97, 248, 64, 142, 123, 196, 27, 245, 214, 56, 134, 231, 99, 70, 155, 146, 192, 184, 207, 117, 245, 142, 89, 18, 149, 109, 67, 195, 241, 227, 56, 167, 62, 14, 6, 133, 115, 65, 244, 213, 18, 78, 234, 67, 213, 39, 132, 38, 173, 2, 199, 114, 139, 9, 7, 154, 195, 202, 90, 27, 91, 65, 239, 218, 221, 43, 178, 90, 133, 88, 134, 93, 24, 167, 66, 15, 136, 57, 198, 221, 252, 176, 158, 160, 136, 193, 116, 163, 3, 49, 156, 208, 248, 88, 173, 210, 97, 110, 37, 157, 185, 76, 9, 138, 20, 206, 114, 13, 59, 35, 253, 146, 143, 116, 59, 211, 82, 190, 103, 87, 113, 118, 117, 51, 155, 79, 118, 94, 106, 208, 26, 215, 15, 117, 129, 150, 229, 213, 175, 166, 46, 241, 245, 201, 34, 42, 19, 2, 220, 6, 248, 237, 135, 197, 118, 20, 106, 46, 27, 222, 82, 226, 132, 131, 21, 56, 124, 57, 113, 161, 251, 127, 42, 186, 46, 63, 174, 97, 126, 254, 130, 188, 234, 90, 92, 185, 8, 8, 112, 48, 33, 74, 237, 6, 237, 84, 221, 193, 35, 105, 91, 247, 74, 184, 159, 13, 210, 234, 91, 224, 119, 26, 90, 123, 121, 125, 208, 30, 196, 201, 133, 85, 38, 89, 205, 31, 189, 181, 207, 186, 21, 44, 162, 210, 15, 98, 48, 122, 151, 139, 168, 132, 85, 25, 55, 254, 49]
def z_t1 : List Int := [19, 205, 100, 94, 211, 225, 114, 144, 60, 7, 235, 31, 75, 181, 216, 210, 49, 36, 209, 93, 177, 103, 196, 40, 253, 205, 134, 104, 74, 47, 189, 189]
def z_t2 : List Int := [197, 17, 46, 91, 178, 103, 6, 16, 198, 51, 79, 108, 42, 168, 161, 91, 188, 167, 205, 49, 244, 51, 218, 218, 225, 129, 136, 167, 39, 164, 104, 25]
def z_p : HdP := ⟨1, 3, 7, 9⟩
theorem zc : cipK z_m1 = z_c := by kernel_rfl
theorem zk1 : sealK z_m1 = z_k1 := by kernel_rfl
theorem zk2 : sealK z_m2 = z_k2 := by kernel_rfl
theorem zW : wN z_c boxL 40 = z_W := by kernel_rfl
theorem zt1 : macS z_k1 z_img = z_t1 := by kernel_rfl
theorem zt2 : macS z_k2 z_img = z_t2 := by kernel_rfl
def z_b0 : List Int := [52, 211, 23, 88, 19, 159, 11, 200, 108, 155, 162, 111, 128, 98, 32, 38]
theorem zb0 : cryL z_W boxL (jq 7 9 0 4) = z_b0 := by kernel_rfl
def z_b1 : List Int := [127, 239, 165, 146, 60, 46, 33, 231, 127, 111, 110, 95, 56, 41, 139, 251]
theorem zb1 : cryL z_W boxL (jq 7 9 1 4) = z_b1 := by kernel_rfl
def z_b2 : List Int := [81, 208, 192, 29, 235, 241, 110, 83, 196, 57, 121, 160, 196, 174, 130, 65]
theorem zb2 : cryL z_W boxL (jq 7 9 2 4) = z_b2 := by kernel_rfl
def z_b3 : List Int := [43, 147, 0, 18, 48, 217, 221, 214, 102, 146, 237, 239, 240, 46, 53, 122]
theorem zb3 : cryL z_W boxL (jq 7 9 3 4) = z_b3 := by kernel_rfl
def z_b4 : List Int := [219, 0, 144, 99, 235, 32, 163, 153, 147, 220, 173, 22, 100, 63, 17, 247]
theorem zb4 : cryL z_W boxL (jq 7 9 4 4) = z_b4 := by kernel_rfl
def z_b5 : List Int := [124, 85, 114, 241, 242, 217, 202, 194, 33, 69, 151, 19, 23, 175, 195, 76]
theorem zb5 : cryL z_W boxL (jq 7 9 5 4) = z_b5 := by kernel_rfl
def z_b6 : List Int := [59, 104, 191, 34, 67, 107, 73, 198, 5, 27, 133, 80, 0, 187, 34, 113]
theorem zb6 : cryL z_W boxL (jq 7 9 6 4) = z_b6 := by kernel_rfl
def z_b7 : List Int := [150, 211, 176, 193, 41, 182, 58, 157, 101, 27, 123, 77, 35, 19, 47, 26]
theorem zb7 : cryL z_W boxL (jq 7 9 7 4) = z_b7 := by kernel_rfl
def z_b8 : List Int := [10, 227, 41, 46, 28, 24, 27, 91, 244, 179, 231, 185, 147, 168, 58, 89]
theorem zb8 : cryL z_W boxL (jq 7 9 8 4) = z_b8 := by kernel_rfl
def z_b9 : List Int := [233, 188, 8, 137, 43, 220, 168, 91, 238, 74, 148, 31, 90, 120, 103, 46]
theorem zb9 : cryL z_W boxL (jq 7 9 9 4) = z_b9 := by kernel_rfl
def z_b10 : List Int := [240, 72, 144, 109, 156, 171, 91, 54, 216, 48, 108, 153, 155, 45, 116, 14]
theorem zb10 : cryL z_W boxL (jq 7 9 10 4) = z_b10 := by kernel_rfl
def z_b11 : List Int := [228, 83, 176, 160, 4, 135, 119, 57, 207, 201, 146, 7, 136, 148, 238, 234]
theorem zb11 : cryL z_W boxL (jq 7 9 11 4) = z_b11 := by kernel_rfl
def z_b12 : List Int := [130, 97, 248, 64, 142, 123, 196, 27, 245, 214, 56, 134, 231, 99, 70, 155]
theorem zb12 : cryL z_W boxL (jq 7 9 12 4) = z_b12 := by kernel_rfl
def z_b13 : List Int := [146, 192, 184, 207, 117, 245, 142, 89, 18, 149, 109, 67, 195, 241, 227, 56]
theorem zb13 : cryL z_W boxL (jq 7 9 13 4) = z_b13 := by kernel_rfl
def z_b14 : List Int := [167, 62, 14, 6, 133, 115, 65, 244, 213, 18, 78, 234, 67, 213, 39, 132]
theorem zb14 : cryL z_W boxL (jq 7 9 14 4) = z_b14 := by kernel_rfl
def z_b15 : List Int := [38, 173, 2, 199, 114, 139, 9, 7, 154, 195, 202, 90, 27, 91, 65, 239]
theorem zb15 : cryL z_W boxL (jq 7 9 15 4) = z_b15 := by kernel_rfl
def z_b16 : List Int := [218, 221, 43, 178, 90, 133, 88, 134, 93, 24, 167, 66, 15, 136, 57, 198]
theorem zb16 : cryL z_W boxL (jq 7 9 16 4) = z_b16 := by kernel_rfl
def z_b17 : List Int := [221, 252, 176, 158, 160, 136, 193, 116, 163, 3, 49, 156, 208, 248, 88, 173]
theorem zb17 : cryL z_W boxL (jq 7 9 17 4) = z_b17 := by kernel_rfl
def z_b18 : List Int := [210, 97, 110, 37, 157, 185, 76, 9, 138, 20, 206, 114, 13, 59, 35, 253]
theorem zb18 : cryL z_W boxL (jq 7 9 18 4) = z_b18 := by kernel_rfl
def z_b19 : List Int := [146, 143, 116, 59, 211, 82, 190, 103, 87, 113, 118, 117, 51, 155, 79, 118]
theorem zb19 : cryL z_W boxL (jq 7 9 19 4) = z_b19 := by kernel_rfl
def z_b20 : List Int := [94, 106, 208, 26, 215, 15, 117, 129, 150, 229, 213, 175, 166, 46, 241, 245]
theorem zb20 : cryL z_W boxL (jq 7 9 20 4) = z_b20 := by kernel_rfl
def z_b21 : List Int := [201, 34, 42, 19, 2, 220, 6, 248, 237, 135, 197, 118, 20, 106, 46, 27]
theorem zb21 : cryL z_W boxL (jq 7 9 21 4) = z_b21 := by kernel_rfl
def z_b22 : List Int := [222, 82, 226, 132, 131, 21, 56, 124, 57, 113, 161, 251, 127, 42, 186, 46]
theorem zb22 : cryL z_W boxL (jq 7 9 22 4) = z_b22 := by kernel_rfl
def z_b23 : List Int := [63, 174, 97, 126, 254, 130, 188, 234, 90, 92, 185, 8, 8, 112, 48, 33]
theorem zb23 : cryL z_W boxL (jq 7 9 23 4) = z_b23 := by kernel_rfl
def z_b24 : List Int := [74, 237, 6, 237, 84, 221, 193, 35, 105, 91, 247, 74, 184, 159, 13, 210]
theorem zb24 : cryL z_W boxL (jq 7 9 24 4) = z_b24 := by kernel_rfl
def z_b25 : List Int := [234, 91, 224, 119, 26, 90, 123, 121, 125, 208, 30, 196, 201, 133, 85, 38]
theorem zb25 : cryL z_W boxL (jq 7 9 25 4) = z_b25 := by kernel_rfl
def z_b26 : List Int := [89, 205, 31, 189, 181, 207, 186, 21, 44, 162, 210, 15, 98, 48, 122, 151]
theorem zb26 : cryL z_W boxL (jq 7 9 26 4) = z_b26 := by kernel_rfl
def z_b27 : List Int := [139, 168, 132, 85, 25, 55, 254, 49, 241, 130, 94, 141, 10, 188, 224, 72]
theorem zb27 : cryL z_W boxL (jq 7 9 27 4) = z_b27 := by kernel_rfl
def z_bl : List (List Int) := [z_b0, z_b1, z_b2, z_b3, z_b4, z_b5, z_b6, z_b7, z_b8, z_b9, z_b10, z_b11, z_b12, z_b13, z_b14, z_b15, z_b16, z_b17, z_b18, z_b19, z_b20, z_b21, z_b22, z_b23, z_b24, z_b25, z_b26, z_b27]
theorem zbl (n : Nat) (h : n < 28) : cryC z_c boxL 7 9 n = z_bl.getD n [] := by
  rw [cryC_d, zW]
  match n, h with
  | 0, _ => exact zb0
  | 1, _ => exact zb1
  | 2, _ => exact zb2
  | 3, _ => exact zb3
  | 4, _ => exact zb4
  | 5, _ => exact zb5
  | 6, _ => exact zb6
  | 7, _ => exact zb7
  | 8, _ => exact zb8
  | 9, _ => exact zb9
  | 10, _ => exact zb10
  | 11, _ => exact zb11
  | 12, _ => exact zb12
  | 13, _ => exact zb13
  | 14, _ => exact zb14
  | 15, _ => exact zb15
  | 16, _ => exact zb16
  | 17, _ => exact zb17
  | 18, _ => exact zb18
  | 19, _ => exact zb19
  | 20, _ => exact zb20
  | 21, _ => exact zb21
  | 22, _ => exact zb22
  | 23, _ => exact zb23
  | 24, _ => exact zb24
  | 25, _ => exact zb25
  | 26, _ => exact zb26
  | 27, _ => exact zb27
  | n + 28, h => exact absurd h (by omega)
theorem z_cross : crossL z_c 7 9 (zerosI 440) = z_img.drop 40 := by
  rw [← cross_over (show z_c.length = 16 by kernel_rfl)]
  have e : ovP z_c boxL 7 9 (zerosI 440) 440 = (List.range 440).map fun j => bxor .u8 0 (nthI (z_bl.getD (j / 16) []) (j % 16)) := by
    unfold ovP
    refine List.map_congr_left fun j hj => ?_
    have hj := List.mem_range.1 hj
    unfold ovF
    rw [nthI_zeros, zbl _ (by omega)]
  rw [e]
  exact (show (List.range 440).map (fun j => bxor .u8 0 (nthI (z_bl.getD (j / 16) []) (j % 16))) = z_img.drop 40 by kernel_rfl)
end Go.Cx.Rb
/- CxbEL2 -/
namespace Go.Cx.Rb
open Go Go.Cx
theorem z_seal : sealL z_m1 z_p (zerosI 440) = z_img ++ z_t1 := by
  have e : img0 z_m1 z_p (zerosI 440) = z_img := by
    rw [img0, crs7, zc]
    show hdB z_p ++ crossL z_c 7 9 (zerosI 440) = z_img
    rw [z_cross]
    kernel_rfl
  rw [sealL, e, zk1, zt1]
theorem z_ok : okHd z_p := ⟨by decide, inR_u64.2 ⟨by decide, by decide⟩, inR_u64.2 ⟨by decide, by decide⟩⟩
theorem zeros_bytes : bytesL (zerosI 440) := fun i => by rw [nthI_zeros]; exact ⟨by decide, by decide⟩
/-- another master key does not open it -/
theorem z_other : opOk z_m2 (sealL z_m1 z_p (zerosI 440)) = false ∧ opE z_m2 (sealL z_m1 z_p (zerosI 440)) = 13 := by
  have h := (seal_open (m := z_m1) z_ok zeros_len zeros_bytes).1
  have h2 : holdsL z_m2 (sealL z_m1 z_p (zerosI 440)) = false := by
    rw [holdsL, tagL, z_seal, zk2, subL_take, app_take (show z_img.length = 480 by kernel_rfl), zt2, subL_drop (Nat.le_of_eq (by rw [List.length_append, show z_img.length = 480 by kernel_rfl, show z_t1.length = 32 by kernel_rfl])), app_drop (show z_img.length = 480 by kernel_rfl)]
    kernel_rfl
  have q := op_tag h h2
  exact ⟨q.1, q.2.1⟩
theorem z_first : subL (sealL z_m1 z_p (zerosI 440)) 0 4 = [67, 76, 83, 49] := by
  rw [z_seal]
  kernel_rfl
end Go.Cx.Rb
/- CxbEM -/
namespace Go.Cx.Rb
open Go Go.Cx Go.Proofs
theorem sub_seal {m l : List Int} {p : HdP} : subL (sealL m p l) 0 512 = sealL m p l := subL_id sealL_len
theorem sub_zeros {n : Nat} : subL (zerosI n) 0 n = zerosI n := subL_id zeros_len
theorem f_c : clOk 440 ⟨1, 3, 7, 9⟩ = true := by decide
theorem f_e : clE 440 ⟨1, 3, 7, 9⟩ = 0 := by decide
theorem hd_kinds (k h e s : Int) : kindsP [.i .i64, .i .i64, .i .u64, .i .u64] (.cat 1 3 (.int .i64 k) (.cat 1 2 (.int .i64 h) (.cat 1 1 (.int .u64 e) (.int .u64 s)))) := ⟨⟨trivial, trivial, trivial, trivial⟩, rfl⟩
theorem hd_kindl (k h e s : Int) : kindsP [.i .i64, .i .i64, .i .u64, .i .u64] (.cat 1 3 (.lit .i64 k) (.cat 1 2 (.lit .i64 h) (.cat 1 1 (.lit .u64 e) (.lit .u64 s)))) := ⟨⟨trivial, trivial, trivial, trivial⟩, rfl⟩
theorem hd_eq_lit (k h e s : Int) : eqZ (.cat 1 3 (.int .i64 k) (.cat 1 2 (.int .i64 h) (.cat 1 1 (.int .u64 e) (.int .u64 s)))) (.cat 1 3 (.lit .i64 k) (.cat 1 2 (.lit .i64 h) (.cat 1 1 (.lit .u64 e) (.lit .u64 s)))) = true := decide_eq_true rfl
def eqLL (a b : List Int) : Bool := decide (a = b)
def zB (_ : Nat) : List Int := sealL z_m1 z_p (zerosI 440)
def isC68 (m : List Int) (p : HdP) (n : Nat) (l : List Int) : Prop := m = z_m1 ∧ p = z_p ∧ n = 440 ∧ l = zerosI 440
def cC68 (ap : AP) : Ctr
  | [.v (.ints .u8 32 m), .v (.cat 1 3 (.int .i64 k) (.cat 1 2 (.int .i64 g) (.cat 1 1 (.int .u64 e) (.int .u64 s)))), .b n 1 (.ints .u8 _ l)] => .chk (ap _ _ (ap _ _ (ap _ _ (ap _ _ isC68 m) ⟨k, g, e, s⟩) n) l) <|
      .ok ⟨.tcons (.sl 0 [] 0 512 1 none) (.tcons (.int .i64 0) .tnil), [], [.ints .u8 512 (ap _ _ zB 0)]⟩
  | _ => .fail 463
def isO68 (b : List Int) : Prop := b = zB 0
def cO68 (ap : AP) : Ctr
  | [.v (.ints .u8 32 m), .b _ 1 (.ints .u8 _ b)] => .chk (ap _ _ isO68 b) <| match eqLL m z_m1 with
    | true => .ok ⟨.tcons (.cat 1 3 (.int .i64 1) (.cat 1 2 (.int .i64 3) (.cat 1 1 (.int .u64 7) (.int .u64 9)))) (.tcons (.sl 0 [] 0 440 1 none) (.tcons (.int .i64 0) .tnil)), [], [.ints .u8 440 (ap _ _ zerosI 440)]⟩
    | false => rif (eqLL m z_m2) 464 <| .ok ⟨.tcons (.cat 1 3 (.int .i64 0) (.cat 1 2 (.int .i64 0) (.cat 1 1 (.int .u64 0) (.int .u64 0)))) (.tcons .nsl (.tcons (.int .i64 13) .tnil)), [], []⟩
  | _ => .fail 464
theorem sub64 (args : List Arg) (out : Out) (h : (cC68 apf args).to out) : (cCls apf args).to out := by
  unfold cC68 at h
  split at h
  · rename_i m k g e s n n' l
    obtain ⟨⟨rfl, hp, rfl, rfl⟩, h⟩ := h
    cases hp
    cases h
    left
    refine ⟨by simp only [apf_e]; exact f_c, ?_⟩
    show (_ : Out) = _
    simp only [apf_e, f_e, zB, z_p]
  · exact h.elim
theorem y1 : opOk z_m1 (zB 0) = true := by rw [zB]; exact (seal_open (m := z_m1) z_ok zeros_len zeros_bytes).2.2.1
theorem y2 : opE z_m1 (zB 0) = 0 := by rw [zB]; exact (seal_open (m := z_m1) z_ok zeros_len zeros_bytes).2.2.2.1
theorem y3 : opP z_m1 (zB 0) = z_p := by rw [zB]; exact (seal_open (m := z_m1) z_ok zeros_len zeros_bytes).2.2.2.2.1
theorem y4 : opL z_m1 (zB 0) = zerosI 440 := by rw [zB]; exact (seal_open (m := z_m1) z_ok zeros_len zeros_bytes).2.2.2.2.2
theorem y5 : opOk z_m2 (zB 0) = false := by rw [zB]; exact z_other.1
theorem y6 : opE z_m2 (zB 0) = 13 := by rw [zB]; exact z_other.2
theorem y7 : opP z_m2 (zB 0) = hd0 := by rw [opP, y5]; rfl
theorem sub70 (args : List Arg) (out : Out) (h : (cO68 apf args).to out) : (cOpn apf args).to out := by
  unfold cO68 at h
  split at h
  · rename_i m n n' b
    obtain ⟨rfl, h⟩ := h
    split at h
    · rename_i hm
      obtain rfl : m = z_m1 := of_decide_eq_true hm
      cases h
      left
      refine ⟨by simp only [apf_e]; exact y1, ?_⟩
      show (_ : Out) = _
      simp only [apf_e, y2, y3, y4, hdA, z_p]
    · obtain ⟨hm, h⟩ := rif_to h
      obtain rfl : m = z_m2 := of_decide_eq_true hm
      cases h
      right
      refine ⟨by simp only [apf_e]; exact y5, ?_⟩
      show (_ : Out) = _
      simp only [apf_e, y6, y7, hdA, hd0]
  · exact h.elim
theorem s64f : Sound Tryd.prog G1 64 (pu 64) (fun args => cC68 apf (args.map litA)) := (s64.sub sub64).lits
theorem s70f : Sound Tryd.prog G1 70 (pu 70) (fun args => cO68 apf (args.map litA)) := (s70.sub sub70).lits
theorem zB_len : (zB 0).length = 512 := sealL_len
theorem zB_s : subL (zB 0) 0 512 = zB 0 := subL_id zB_len
theorem zB_4 : subL (zB 0) 0 4 = [67, 76, 83, 49] := z_first
def cFix7 (_ : AP) : Ctr
  | [] => .ok ⟨.tt, [], []⟩
  | _ => .fail 462
set_option maxRecDepth 20000 in
set_option maxHeartbeats 2000000 in
theorem vc68 (args : List Arg) (out : Out) (h : (cFix7 apf args).to out) (hok : okAs args) :
    args.length = ic68.nargs ∧ ic68.nargs ≤ ic68.ntmps ∧ ∃ A, run apf [(64, (fun args => cC68 apf (args.map litA))), (70, (fun args => cO68 apf (args.map litA)))] A ic68.body (fnQ apf args out ic68.res) (st0 G1 true args) := by
  unfold cFix7 at h
  split at h
  · skip
    cases h
    refine ⟨rfl, by decide, [], ?_⟩
    show run apf _ _ _ _ (st0 [(1, .ints .u32 64 kk)] _ _)
    generalize hK : kk = K
    generalize hap : apf = ap
    cbv
    repeat' first
      | exact True.intro
      | (intro (hh : _ = true); first | with_reducible exact False.elim (tf_no (Eq.trans (Eq.symm (show _ = true by assumption)) hh)) | cbv)
      | (intro (hh : _ = false); first | with_reducible exact False.elim (tf_no (Eq.trans (Eq.symm hh) (show _ = false by assumption))) | cbv)
      | with_reducible refine And.intro ?_ ?_
      | (refine ⟨0, Nat.zero_le _, ?_⟩; cbv)
    all_goals subst hap
    all_goals try simp only [apf_e, cmF_e, eq_t, eq_f, lenI] at *
    all_goals try simp only [addN0, zB_s, zB_4, sub_zeros] at *
    all_goals first
      | omega
      | (simp only [leN, V.cnt]; omega)
      | (with_reducible show mksN _ _
         unfold mksN; omega)
      | with_reducible exact hd_kinds _ _ _ _
      | with_reducible exact hd_kindl _ _ _ _
      | exact ⟨rfl, rfl, rfl, rfl⟩
      | (with_reducible show isO68 _
         unfold isO68
         with_reducible rfl)
      | with_reducible exact tf_no ((hd_eq_lit 1 3 7 9).symm.trans (by assumption))
      | with_reducible exact tf_no ((eqL_refl [67, 76, 83, 49]).symm.trans (by assumption))
      | skip
  · exact h.elim
set_option maxHeartbeats 2000000 in
theorem s68 : Sound Tryd.prog G1 68 (pu 68) (cFix7 apf) := fn_sound rfl Tryd.call68 ok68 co68 (env_cons s64f (env_cons s70f env_nil)) vc68
end Go.Cx.Rb
/- CxbEN -/
namespace Go.Cx.Rb
open Go Go.Cx Go.Proofs
theorem s64g : Sound Tryd.prog G2 64 (pu 64) (fun args => cCls apf (args.map litA)) := s64.lits.more g12
theorem s65g : Sound Tryd.prog G2 65 (pu 65) (fun args => cHdI apf (args.map litA)) := s65.more g12
theorem s67g : Sound Tryd.prog G2 67 (pu 67) (fun args => cHdI apf (args.map litA)) := s67.more g12
theorem s68g : Sound Tryd.prog G2 68 (pu 68) (cFix7 apf) := s68.more g12
theorem s69g : Sound Tryd.prog G2 69 (pu 69) (cLk apf) := s69.more g12
theorem s70g : Sound Tryd.prog G2 70 (pu 70) (fun args => cOpn apf (args.map litA)) := s70.lits.more g12
theorem s66l : Sound Tryd.prog G2 66 (pu 66) (fun args => cCls apf (args.map litA)) := s66.lits
def cLaw18 (ap : AP) : Ctr
  | [.v (.ints .u8 32 _), .v (.cat 1 3 (.int .i64 _k) (.cat 1 2 (.int .i64 _g) (.cat 1 1 (.int .u64 _e) (.int .u64 _s)))), .b n 1 (.ints .u8 _ _)] => .chk (ap _ _ (ap _ _ leN n) 140737488351232) <| .ok ⟨.tt, [], []⟩
  | _ => .fail 470
def cLaw20 (ap : AP) : Ctr
  | [.v (.ints .u8 32 _), .v (.cat 1 3 (.int .i64 _k) (.cat 1 2 (.int .i64 _g) (.cat 1 1 (.int .u64 _e) (.int .u64 _s)))), .b n 1 (.ints .u8 _ _), .v (.int .i64 _), .v (.int .u8 _)] => .chk (ap _ _ (ap _ _ leN n) 140737488351232) <| .ok ⟨.tt, [], []⟩
  | _ => .fail 471
theorem pay_len {l : List Int} {n : Nat} (h : l.length = n) : (layL (zerosI 440) 0 (takeL l (minN n 440))).length = 440 := by
  simp only [layL, takeL, minN, List.take_zero, List.nil_append, List.length_append, List.length_take, List.length_drop, zeros_len]
  omega
theorem pay_rng {l : List Int} {n : Nat} (h : ∀ y ∈ l, inR .u8 y) : bytesL (layL (zerosI 440) 0 (takeL l (minN n 440))) := by
  refine bytes_of fun y hy => ?_
  simp only [layL, takeL, List.take_zero, List.nil_append, List.mem_append] at hy
  rcases hy with hy | hy
  · exact h y (List.mem_of_mem_take hy)
  · have : y = 0 := List.eq_of_mem_replicate (List.mem_of_mem_drop hy)
    rw [this]
    exact inR_u8.2 ⟨by decide, by decide⟩
theorem sub_set {b : List Int} {i : Nat} {x : Int} (h : b.length = 512) : subL (setI b i x) 0 512 = setI b i x := subL_id (setI_len.trans h)
theorem op_zero {m b : List Int} (h : opE m b = 0) : holdsL m b = true := by
  unfold opE at h
  split at h
  · split at h
    · assumption
    · cases h
  · exact absurd h (by assumption)
theorem op_three {m b : List Int} (h : b.length = 512) (h1 : opE m b ≠ 12) (h2 : opE m b ≠ 13) : opE m b = 0 := by
  unfold opE at h1 h2 ⊢
  split
  · rename_i e
    rw [if_pos e] at h2
    split
    · rfl
    · rename_i e2
      rw [if_neg e2] at h2
      exact absurd rfl h2
  · rename_i e
    rw [if_neg e] at h1
    unfold lkE at h1 e ⊢
    rw [if_pos h] at h1 e ⊢
    split
    · rfl
    · rename_i e2
      rw [if_neg e2] at h1
      exact absurd rfl h1
theorem set_same {b : List Int} {i : Nat} (h : i < b.length) (hb : bytesL b) : setI b i (bxor .u8 (nthI b i) 0) = b := by
  have e : bxor .u8 (nthI b i) 0 = nthI b i := by
    rw [bxor_u8, show B8 0 = 0#8 from rfl, BitVec.xor_zero, nat_B8 (hb i)]
  rw [e]
  refine list_ext setI_len rfl fun j _ => ?_
  rw [nthI_setJ h]
  split
  · rename_i e; rw [e]
  · rfl
theorem idx_rng (x : Int) : 0 ≤ wcv .i64 (wrem .u64 (wcv .u64 x) 512) ∧ wcv .i64 (wrem .u64 (wcv .u64 x) 512) < 512 := by
  have h := wcv_u64_rng x
  generalize wcv .u64 x = y at h ⊢
  have h1 : wrem .u64 y 512 = y % 512 := by
    show y.tmod 512 = _
    exact Int.tmod_eq_emod_of_nonneg h.1
  rw [h1, wcv_i64 (by omega)]
  omega
theorem mac_rng (a b : List Int) : ∀ y ∈ macS a b, inR .u8 y := by
  intro y hy
  obtain ⟨j, hj, rfl⟩ := List.mem_iff_getElem.1 hy
  have := digest_rng (padX a 92 ++ digest (padX a 54 ++ b)) j
  have e : (macS a b)[j] = nthI (macS a b) j := by simp [nthI, List.getD_eq_getElem?_getD, hj]
  rw [e]; exact this
theorem sealL_bytes {m l : List Int} {p : HdP} : bytesL (sealL m p l) := by
  intro i
  unfold sealL
  unfold img0
  rw [nthI_cat]
  split
  · rw [nthI_cat]
    split
    · have h : ∀ y ∈ hdB p, inR .u8 y := by
        intro y hy
        rw [hdB_eq] at hy
        simp only [List.mem_append, List.mem_cons, List.not_mem_nil, or_false] at hy
        rcases hy with (((hy | hy) | hy) | hy) | hy
        · rcases hy with rfl | rfl | rfl | rfl | rfl | rfl | rfl | rfl
          all_goals first
            | exact inR_u8.2 ⟨by decide, by decide⟩
            | exact inR_wrap .u8 _
        all_goals exact beL_rng _ _ y hy
      have := nthI_rng (i := i) h
      exact ⟨this.1, by omega⟩
    · unfold crs7 crossL
      generalize i - (hdB p).length = j
      by_cases hj : j < 440
      · rw [nthI_map hj]; exact isB_bxor _ _
      · have : nthI ((List.range 440).map (xoF (cipK m) p.e p.s l)) j = 0 := by
          unfold nthI
          rw [List.getD_eq_getElem?_getD, List.getElem?_eq_none (by simp; omega)]
          rfl
        rw [this]; exact ⟨by decide, by decide⟩
  · exact bytes_of (mac_rng _ _) _
theorem eqZ_rfl (a : V) : eqZ a a = true := decide_eq_true rfl
set_option maxRecDepth 20000 in
set_option maxHeartbeats 2000000 in
theorem vc18 (args : List Arg) (out : Out) (h : (cLaw18 apf args).to out) (hok : okAs args) :
    args.length = ic18.nargs ∧ ic18.nargs ≤ ic18.ntmps ∧ ∃ A, run apf [(64, (fun args => cCls apf (args.map litA))), (65, (fun args => cHdI apf (args.map litA))), (66, (fun args => cCls apf (args.map litA))), (67, (fun args => cHdI apf (args.map litA))), (68, cFix7 apf)] A ic18.body (fnQ apf args out ic18.res) (st0 G2 true args) := by
  unfold cLaw18 at h
  split at h
  · rename_i m k g e s n n' l
    obtain ⟨hn, h⟩ := h
    cases h
    have hn : n ≤ 140737488351232 := hn
    obtain ⟨_, ⟨_, _, he, hs⟩, ⟨hn1, ⟨rfl, _⟩, hl⟩, _⟩ := hok
    have hll : l.length = _ := hl.1
    refine ⟨rfl, by decide, [], ?_⟩
    show run apf _ _ _ _ (st0 [(0, .ints .u32 64 kk), (1, .ints .u32 64 kk)] _ _)
    generalize hK : kk = K
    generalize hap : apf = ap
    cbv
    repeat' first
      | exact True.intro
      | (intro (hh : _ = true); first | with_reducible exact False.elim (tf_no (Eq.trans (Eq.symm (show _ = true by assumption)) hh)) | cbv)
      | (intro (hh : _ = false); first | with_reducible exact False.elim (tf_no (Eq.trans (Eq.symm hh) (show _ = false by assumption))) | cbv)
      | with_reducible refine And.intro ?_ ?_
      | (refine ⟨0, Nat.zero_le _, ?_⟩; cbv)
    all_goals subst hap
    all_goals try simp only [apf_e, cmF_e, eq_t, eq_f, eqL_t, eqL_f, eqB'] at *
    all_goals try simp only [addN0, subL_id hll, sub_seal] at *
    all_goals first
      | omega
      | (simp only [leN, appN, V.cnt]; omega)
      | (have hc : clOk n' ⟨k, g, e, s⟩ = false := by with_reducible assumption
         have hc' : clOk n' ⟨k, g, e, s⟩ = true := by with_reducible assumption
         exact tf_no (hc'.symm.trans hc))
      | (have hq : ∀ x : List Int, ¬ (x ≠ x) := fun x h => h rfl
         with_reducible exact absurd (by with_reducible assumption) (hq _))
      | skip
  · exact h.elim
set_option maxHeartbeats 2000000 in
theorem s18 : Sound Tryd.prog G2 18 (pu 18) (cLaw18 apf) := fn_sound rfl Tryd.call18 ok18 co18 (env_cons s64g (env_cons s65g (env_cons s66l (env_cons s67g (env_cons s68g env_nil))))) vc18
set_option maxRecDepth 20000 in
set_option maxHeartbeats 2000000 in
theorem vc20 (args : List Arg) (out : Out) (h : (cLaw20 apf args).to out) (hok : okAs args) :
    args.length = ic20.nargs ∧ ic20.nargs ≤ ic20.ntmps ∧ ∃ A, run apf [(64, (fun args => cCls apf (args.map litA))), (65, (fun args => cHdI apf (args.map litA))), (67, (fun args => cHdI apf (args.map litA))), (68, cFix7 apf), (70, (fun args => cOpn apf (args.map litA))), (73, (fun args => cHdR apf (args.map litA))), (74, cHld apf)] A ic20.body (fnQ apf args out ic20.res) (st0 G2 true args) := by
  unfold cLaw20 at h
  split at h
  · rename_i m k g e s n n' l at_ tn
    obtain ⟨hn, h⟩ := h
    cases h
    have hn : n ≤ 140737488351232 := hn
    obtain ⟨_, ⟨_, _, he, hs⟩, ⟨hn1, ⟨rfl, _⟩, hl⟩, _⟩ := hok
    have hll : l.length = _ := hl.1
    have hQ0 := pay_len hll
    have hQ1 := pay_rng (n := n') hl.2
    refine ⟨rfl, by decide, [], ?_⟩
    show run apf _ _ _ _ (st0 [(0, .ints .u32 64 kk), (1, .ints .u32 64 kk)] _ _)
    generalize hK : kk = K
    generalize hap : apf = ap
    cbv
    repeat' first
      | exact True.intro
      | (intro (hh : _ = true); first | with_reducible exact False.elim (tf_no (Eq.trans (Eq.symm (show _ = true by assumption)) hh)) | cbv)
      | (intro (hh : _ = false); first | with_reducible exact False.elim (tf_no (Eq.trans (Eq.symm hh) (show _ = false by assumption))) | cbv)
      | with_reducible refine And.intro ?_ ?_
      | (refine ⟨0, Nat.zero_le _, ?_⟩; cbv)
    all_goals subst hap
    all_goals try simp only [apf_e, arF_rem8, arF_xor, cmF_e, cmF_n, eq_t, eq_f, ne_t, ne_f, notB_t, notB_f, eqL_t, eqL_f, eqN, eqB', ltN, natI, lenI] at *
    all_goals try simp only [addN0, subL_id hll, sub_seal, subL_id (pay_len hll), sub_set sealL_len] at *
    all_goals try generalize hQ : layL (zerosI 440) 0 (takeL l (minN n' 440)) = Q at *
    all_goals have hz := idx_rng at_
    all_goals first
      | omega
      | (simp only [leN, appN, V.cnt]; omega)
      | (have hc : clOk 440 ⟨k, g, e, s⟩ = false := by with_reducible assumption
         have hc' := clOk_n hc
         have r1 : hdR ⟨k, g, e, s⟩ = false := by
           cases hr : hdR ⟨k, g, e, s⟩ with
           | false => rfl
           | true => exact absurd ⟨rfl, hr⟩ hc'
         have e1 : clE 440 ⟨k, g, e, s⟩ = 2 := clE_2 rfl r1
         first
           | exact r1
           | (simp only [e1] at *; omega))
      | (have hc : clOk 440 ⟨k, g, e, s⟩ = true := by with_reducible assumption
         have r1 : hdR ⟨k, g, e, s⟩ = true := (clOk_t hc).2
         have e1 : clE 440 ⟨k, g, e, s⟩ = 0 := clE_0 rfl r1
         obtain ⟨o5, o6, o1, o2, o3, o4⟩ := seal_open (m := m) (p := ⟨k, g, e, s⟩) ⟨r1, he, hs⟩ hQ0 hQ1
         clear o5 o6
         first
           | with_reducible exact hd_kinds _ _ _ _
           | (have h1 : opOk m (sealL m ⟨k, g, e, s⟩ Q) = false := by with_reducible assumption
              exact tf_no (o1.symm.trans h1))
           | (simp only [e1, o2, o3, o4, subL_id hQ0, ne_eq, not_true_eq_false, eqZ_rfl, Bool.true_eq_false] at *; done)
           | (simp only [e1, o2, o3, o4, subL_id hQ0, ne_eq, eqZ_rfl] at *; omega)
           | (exact op_zero (by with_reducible assumption))
           | (exact op_three (setI_len.trans sealL_len) (by with_reducible assumption) (by with_reducible assumption))
           | (have t0 : tn = 0 := by with_reducible assumption
              subst t0
              rw [set_same (by rw [sealL_len]; omega) sealL_bytes]
              exact o2)
           | (rename_i u1 u2
              have u3 := op_three (setI_len.trans sealL_len) u1 u2
              with_reducible exact absurd u3 hh)
           | skip)
      | (with_reducible show mksN _ _
         unfold mksN; omega)
      | skip
  · exact h.elim
set_option maxHeartbeats 2000000 in
theorem s20 : Sound Tryd.prog G2 20 (pu 20) (cLaw20 apf) := fn_sound rfl Tryd.call20 ok20 co20 (env_cons s64g (env_cons s65g (env_cons s67g (env_cons s68g (env_cons s70g (env_cons s73g (env_cons s74 env_nil))))))) vc20
end Go.Cx.Rb
/- CxbEO -/
namespace Go.Cx.Rb
open Go Go.Cx Go.Proofs
/-- as 'pu', and the document's 'Open' is handed its image as a value -/
def puO (f : Nat) : Bool := pu f && f != 2007201
def ic19o : IFn := ⟨2, 90, [.t 4],
  (.seq (.reg [0, 1, 5, 6, 2, 8, 11, 13, 7, 12, 9, 14, 10, 15, 72, 75, 74, 76, 16, 4] [⟨some 2, none, .box (.t 0)⟩, ⟨some 4, none, .mv (.c .ff)⟩])
  (.seq (.reg [0, 1, 5, 6, 2, 8, 11, 13, 7, 12, 9, 14, 10, 15, 72, 75, 74, 76, 16, 4] [⟨some 17, none, .bsl (.i .u8) 0 []⟩, ⟨some 18, none, .mv (.t 1)⟩, ⟨some 19, none, .app0 (.i .u8) 1 (.t 17) (.t 18)⟩, ⟨some 5, none, .mv (.t 19)⟩])
  (.seq (.reg [0, 1, 5, 6, 2, 8, 11, 13, 7, 12, 9, 14, 10, 15, 72, 75, 74, 76, 16, 4] [⟨some 21, none, .mv (.t 5)⟩, ⟨some 22, none, .call 69 true [((.t 21), .b (.i .u8))]⟩, ⟨some 20, none, .mv (.t 22)⟩, ⟨some 23, none, .ext 0 (.t 20)⟩, ⟨some 24, none, .ext 1 (.t 20)⟩, ⟨some 6, none, .alloc (.cat 1 3 (.v (.lit .i64 0)) (.cat 1 2 (.v (.lit .i64 0)) (.cat 1 1 (.v (.lit .u64 0)) (.v (.lit .u64 0)))))⟩, ⟨none, none, .st 4 (.t 6) (.t 23)⟩, ⟨some 7, none, .mv (.t 24)⟩])
  (.seq (.reg [0, 1, 5, 6, 2, 8, 11, 13, 7, 12, 9, 14, 10, 15, 72, 75, 74, 76, 16, 4] [⟨some 26, none, .ld 32 true (.t 2)⟩, ⟨some 27, none, .mv (.t 5)⟩, ⟨some 28, none, .call 70 true [((.t 26), .v), ((.t 27), .b (.i .u8))]⟩, ⟨some 25, none, .mv (.t 28)⟩, ⟨some 29, none, .ext 0 (.t 25)⟩, ⟨some 30, none, .ext 1 (.t 25)⟩, ⟨some 31, none, .ext 2 (.t 25)⟩, ⟨some 8, none, .alloc (.cat 1 3 (.v (.lit .i64 0)) (.cat 1 2 (.v (.lit .i64 0)) (.cat 1 1 (.v (.lit .u64 0)) (.v (.lit .u64 0)))))⟩, ⟨none, none, .st 4 (.t 8) (.t 29)⟩, ⟨some 9, none, .mv (.t 30)⟩, ⟨some 10, none, .mv (.t 31)⟩])
  (.seq (.reg [0, 1, 5, 6, 2, 8, 11, 13, 7, 12, 9, 14, 10, 15, 72, 75, 74, 76, 16, 4] [⟨some 33, none, .mv (.t 1)⟩, ⟨some 34, none, .call 71 true [((.t 33), .v)]⟩, ⟨some 32, none, .mv (.t 34)⟩, ⟨some 35, none, .ext 0 (.t 32)⟩, ⟨some 36, none, .ext 1 (.t 32)⟩, ⟨some 11, none, .alloc (.cat 1 3 (.v (.lit .i64 0)) (.cat 1 2 (.v (.lit .i64 0)) (.cat 1 1 (.v (.lit .u64 0)) (.v (.lit .u64 0)))))⟩, ⟨none, none, .st 4 (.t 11) (.t 35)⟩, ⟨some 12, none, .mv (.t 36)⟩])
  (.seq (.reg [0, 1, 5, 6, 2, 8, 11, 13, 7, 12, 9, 14, 10, 15, 72, 75, 74, 76, 16, 4] [⟨some 38, none, .ld 32 true (.t 2)⟩, ⟨some 39, none, .mv (.t 1)⟩, ⟨some 40, none, .call 72 true [((.t 38), .v), ((.t 39), .v)]⟩, ⟨some 37, none, .mv (.t 40)⟩, ⟨some 41, none, .ext 0 (.t 37)⟩, ⟨some 42, none, .ext 1 (.t 37)⟩, ⟨some 43, none, .ext 2 (.t 37)⟩, ⟨some 13, none, .alloc (.cat 1 3 (.v (.lit .i64 0)) (.cat 1 2 (.v (.lit .i64 0)) (.cat 1 1 (.v (.lit .u64 0)) (.v (.lit .u64 0)))))⟩, ⟨none, none, .st 4 (.t 13) (.t 41)⟩, ⟨some 14, none, .mv (.t 42)⟩, ⟨some 15, none, .mv (.t 43)⟩])
  (.seq (.seq (.reg [0, 1, 5, 6, 2, 8, 11, 13, 7, 12, 9, 14, 10, 15, 72, 75, 74, 76, 16, 4] [⟨some 44, none, .call 68 true []⟩, ⟨some 45, none, .not (.t 44)⟩, ⟨some 46, none, .mv (.t 45)⟩, ⟨some 47, some (46, false), .ld 4 true (.t 6)⟩, ⟨some 48, some (46, false), .ld 4 true (.t 11)⟩, ⟨some 49, some (46, false), .eq (.z [.i .i64, .i .i64, .i .u64, .i .u64]) true (.t 47) (.t 48)⟩, ⟨some 50, none, .pick (.t 46) (.c .tt) (.t 49)⟩, ⟨some 51, none, .mv (.t 50)⟩, ⟨some 52, some (51, false), .mv (.t 7)⟩, ⟨some 53, some (51, false), .mv (.t 12)⟩, ⟨some 54, some (51, false), .cmp .neq (.t 52) (.t 53)⟩, ⟨some 55, none, .pick (.t 51) (.c .tt) (.t 54)⟩, ⟨some 56, none, .mv (.t 55)⟩, ⟨some 57, some (56, false), .ld 4 true (.t 8)⟩, ⟨some 58, some (56, false), .ld 4 true (.t 13)⟩, ⟨some 59, some (56, false), .eq (.z [.i .i64, .i .i64, .i .u64, .i .u64]) true (.t 57) (.t 58)⟩, ⟨some 60, none, .pick (.t 56) (.c .tt) (.t 59)⟩, ⟨some 61, none, .mv (.t 60)⟩, ⟨some 62, some (61, false), .mv (.t 9)⟩, ⟨some 63, some (61, false), .b2s (.t 62)⟩, ⟨some 64, some (61, false), .mv (.t 14)⟩, ⟨some 65, some (61, false), .b2s (.t 64)⟩, ⟨some 66, some (61, false), .eq .s true (.t 63) (.t 65)⟩, ⟨some 67, none, .pick (.t 61) (.c .tt) (.t 66)⟩, ⟨some 68, none, .mv (.t 67)⟩, ⟨some 69, some (68, false), .mv (.t 10)⟩, ⟨some 70, some (68, false), .mv (.t 15)⟩, ⟨some 71, some (68, false), .cmp .neq (.t 69) (.t 70)⟩, ⟨some 72, none, .pick (.t 68) (.c .tt) (.t 71)⟩])
  (.cond (.t 72)
    (.seq (.reg [0, 1, 5, 6, 2, 8, 11, 13, 7, 12, 9, 14, 10, 15, 72, 75, 74, 76, 16, 4] [⟨some 4, none, .mv (.c .ff)⟩])
    .ret)
    .skip))
  (.seq (.seq (.reg [0, 1, 5, 6, 2, 8, 11, 13, 7, 12, 9, 14, 10, 15, 72, 75, 74, 76, 16, 4] [⟨some 73, none, .mv (.t 9)⟩, ⟨some 74, none, .lenS (.t 73)⟩, ⟨some 75, none, .mv (.c (.lit .i64 0))⟩])
  (.block 0 (.loop 0 (.seq (.reg [0, 1, 5, 6, 2, 8, 11, 13, 7, 12, 9, 14, 10, 15, 72, 75, 74, 76, 16, 4] [⟨some 76, none, .cmp .lss (.t 75) (.t 74)⟩])
   (.seq (.cond (.t 76)
     .skip
     (.exit 0))
   (.seq (.block 1 (.seq (.reg [0, 1, 5, 6, 2, 8, 11, 13, 7, 12, 9, 14, 10, 15, 72, 75, 74, 76, 16, 4] [⟨some 77, none, .mv (.t 75)⟩, ⟨some 16, none, .mv (.t 77)⟩])
   (.reg [0, 1, 5, 6, 2, 8, 11, 13, 7, 12, 9, 14, 10, 15, 72, 75, 74, 76, 16, 4] [⟨some 78, none, .mv (.t 9)⟩, ⟨some 79, none, .mv (.t 16)⟩, ⟨some 80, none, .iaS 1 (.t 78) (.t 79)⟩, ⟨some 81, none, .ld 1 false (.t 80)⟩, ⟨some 82, none, .ar .add .u8 (.t 81) (.c (.lit .u8 1))⟩, ⟨some 83, none, .iaS 1 (.t 78) (.t 79)⟩, ⟨none, none, .st 1 (.t 83) (.t 82)⟩])))
   (.reg [0, 1, 5, 6, 2, 8, 11, 13, 7, 12, 9, 14, 10, 15, 72, 75, 74, 76, 16, 4] [⟨some 84, none, .ar .add .i64 (.t 75) (.c (.lit .i64 1))⟩, ⟨some 75, none, .mv (.t 84)⟩])))))))
  (.seq (.reg [0, 1, 5, 6, 2, 8, 11, 13, 7, 12, 9, 14, 10, 15, 72, 75, 74, 76, 16, 4] [⟨some 85, none, .mv (.t 5)⟩, ⟨some 86, none, .b2s (.t 85)⟩, ⟨some 87, none, .mv (.t 1)⟩, ⟨some 88, none, .b2s (.t 87)⟩, ⟨some 89, none, .eq .s false (.t 86) (.t 88)⟩, ⟨some 4, none, .mv (.t 89)⟩])
  .ret)))))))))⟩
theorem co19o : comp Tryd.prog puO 19 = some ic19o := by kernel_rfl
def incS (l : List Int) : Nat → List Int
  | 0 => l
  | i + 1 => setI (incS l i) i (wadd .u8 (nthI (incS l i) i) 1)
theorem incS_s {l : List Int} {i : Nat} : incS l i.succ = setI (incS l i) i (wadd .u8 (nthI (incS l i) i) 1) := rfl
theorem incS_0 {l : List Int} : incS l 0 = l := rfl
def cLaw19 (ap : AP) : Ctr
  | [.v (.ints .u8 32 _), .v (.dsl n 1 (.ints .u8 n' _))] => .chk (ap _ _ (ap _ _ eqN n) n') <| .chk (ap _ _ (ap _ _ leN n) 140737488351232) <| .ok ⟨.tt, [], []⟩
  | _ => .fail 472
def aLaw19 (ap : AP) (n : Nat) (m b : List Int) : List (Nat × Ann) := [
  (0, .inv Nat (fun j => (match j with
    | 0 => ⟨[(1, .dsl n 1 (.ints .u8 n b)), (5, .sl 19 [] 0 n 1 none), (9, .nsl), (74, .lit .i64 0), (75, .int .i64 0)], [(19, ⟨.own, .ints .u8 n (ap _ _ (ap _ _ (ap _ _ subL b) 0) n)⟩)], []⟩
    | i + 1 => (fun i => ⟨[(1, .dsl n 1 (.ints .u8 n b)), (5, .sl 19 [] 0 n 1 none), (9, .sl 28 [] 0 440 1 none), (74, .int .i64 (ap _ _ lenI 440)), (75, .int .i64 (ap _ _ lenI i))], [(19, ⟨.own, .ints .u8 n (ap _ _ (ap _ _ (ap _ _ subL b) 0) n)⟩), (28, ⟨.own, .ints .u8 440 (ap _ _ (ap _ _ incS (ap _ _ (ap _ _ opL m) (ap _ _ (ap _ _ (ap _ _ subL (ap _ _ (ap _ _ (ap _ _ subL b) 0) n)) 0) n))) i)⟩)], []⟩) i)) (fun j => j ≤ 441) (fun j => 441 - j))]
set_option maxRecDepth 20000 in
set_option maxHeartbeats 2000000 in
theorem vc19 (args : List Arg) (out : Out) (h : (cLaw19 apf args).to out) (hok : okAs args) :
    args.length = ic19o.nargs ∧ ic19o.nargs ≤ ic19o.ntmps ∧ ∃ A, run apf [(68, cFix7 apf), (69, cLk apf), (70, (fun args => cOpn apf (args.map litA))), (71, cLkF apf), (72, cOpnF apf)] A ic19o.body (fnQ apf args out ic19o.res) (st0 G2 true args) := by
  unfold cLaw19 at h
  split at h
  · rename_i m n n' b
    obtain ⟨hn', hn, h⟩ := h
    cases h
    cases (show n = n' from hn')
    clear hn'
    have hn : n ≤ 140737488351232 := hn
    obtain ⟨_, hl, _⟩ := hok
    have hll : b.length = _ := hl.1
    refine ⟨rfl, by decide, aLaw19 apf n m b, ?_⟩
    show run apf _ _ _ _ (st0 [(0, .ints .u32 64 kk), (1, .ints .u32 64 kk)] _ _)
    generalize hK : kk = K
    generalize hap : apf = ap
    cbv
    repeat' first
      | exact True.intro
      | (intro (hh : _ = true); first | with_reducible exact False.elim (tf_no (Eq.trans (Eq.symm (show _ = true by assumption)) hh)) | cbv)
      | (intro (hh : _ = false); first | with_reducible exact False.elim (tf_no (Eq.trans (Eq.symm hh) (show _ = false by assumption))) | cbv)
      | with_reducible refine And.intro ?_ ?_
      | (refine ⟨0, (by decide : (_ : Nat) ≤ 441), ?_⟩; cbv; and_intros; all_goals (fail_if_success (with_reducible show False)))
      | (refine ⟨1, (by decide : (_ : Nat) ≤ 441), ?_⟩; cbv; and_intros; all_goals (fail_if_success (with_reducible show False)))
    all_goals first
      | (intro (j : Nat) hi _ _
         rcases j with _ | j
         all_goals try cbv
         repeat' first
           | exact True.intro
           | (intro (hh : _ = true); first | with_reducible exact False.elim (tf_no (Eq.trans (Eq.symm (show _ = true by assumption)) hh)) | cbv)
           | (intro (hh : _ = false); first | with_reducible exact False.elim (tf_no (Eq.trans (Eq.symm hh) (show _ = false by assumption))) | cbv)
           | with_reducible refine And.intro ?_ ?_
           | (refine ⟨j + 2, ?_, (?_ : Nat.sub 441 (j + 2) < Nat.sub 441 (j + 1)), ?_⟩; rotate_left 2; try cbv)
           | (refine ⟨0, (by decide : (_ : Nat) ≤ 441), ?_⟩; cbv; and_intros; all_goals (fail_if_success (with_reducible show False)))
           | (refine ⟨1, (by decide : (_ : Nat) ≤ 441), ?_⟩; cbv; and_intros; all_goals (fail_if_success (with_reducible show False))))
      | skip
    all_goals subst hap
    all_goals try simp only [apf_e, arF_add, cmF_n, cmF_l, lt_t, lt_f, ne_t, ne_f, notB_t, notB_f, eqL_t, eqL_f, eqN, eqI', eqL', eqB', ltN, natI, lenI] at *
    all_goals try simp only [addN0, Int.toNat_natCast, subL_id hll] at *
    all_goals first
      | omega
      | (simp only [leN, appN, V.cnt]; omega)
      | (show 441 - (j + 2) < 441 - (j + 1); omega)
      | (with_reducible first | exact hd_kinds _ _ _ _ | exact incS_0 | exact incS_s | exact (inc_i64 (i := j) (by omega)).symm)
      | with_reducible exact tf_no ((eqZ_rfl _).symm.trans hh)
      | (have hc : opOk m b = false := by with_reducible assumption
         have hc' : opOk m b = true := by with_reducible assumption
         exact tf_no (hc'.symm.trans hc))
      | (have hq : ∀ x : List Int, ¬ (x ≠ x) := fun x h => h rfl
         with_reducible exact absurd (by with_reducible assumption) (hq _))
      | skip
  · exact h.elim
set_option maxHeartbeats 2000000 in
theorem s19 : Sound Tryd.prog G2 19 (puO 19) (cLaw19 apf) := fn_sound rfl Tryd.call19 ok19 co19o (env_cons s68g (env_cons s69g (env_cons s70g (env_cons s71g (env_cons s72 env_nil))))) vc19
end Go.Cx.Rb
/- CxbLaw1s -/
namespace Go.Proofs.YtojllgpnhaaagaaDoor.Law
open Go Go.ChangeShapes Go.WideShapes Go.ChangeAt Go.RowKit Go.Cx Go.Cx.Rb
theorem own : ownKnob Tryd.prog.godebug = none := by kernel_rfl
theorem gK : Tryd.prog.globalNamed "cloister/cloisterref01.k" = some 0 := by kernel_rfl
theorem gKeys : Tryd.prog.globalNamed "cloister/sha.keys" = some 1 := by kernel_rfl
theorem gKT : (Tryd.prog.globals[0]?).map (·.type) = some 188 := by kernel_rfl
theorem gKeysT : (Tryd.prog.globals[1]?).map (·.type) = some 188 := by kernel_rfl
theorem cells188 : Tryd.prog.cellsOf 188 = 64 := by kernel_rfl
theorem cells184 : Tryd.prog.cellsOf 184 = 1 := by kernel_rfl
theorem cells5 : Tryd.prog.cellsOf 5 = 1 := by kernel_rfl
theorem bytes5 : Tryd.prog.bytesOf 5 = 1 := by kernel_rfl
theorem kkIn : ∀ y ∈ kk, inR .u32 y := by
  have h : ∀ y ∈ kk, 0 ≤ y ∧ y ≤ 4294967295 := by decide
  exact fun y hy => inR_u32.2 (h y hy)
theorem laid_tail {P : Program} {W : World} {x : String × DataW Unit} {rest : List (String × DataW Unit)} (h : laidMet P (x :: rest) W) : laidMet P rest W := by
  obtain ⟨ps, ⟨g', t', cs, fuel, p, q, _, _, _, _, hq, rfl⟩, hn, hc⟩ := h
  exact ⟨q, hq, (List.nodup_append.1 hn).2.1, fun b off hb => hc b off (List.mem_append.2 (.inr hb))⟩
theorem tab_glo {W : World} {name : String} {g : Nat} (hg : Tryd.prog.globalNamed name = some g) (h : Lib.TabIs Tryd.prog W name .u32 kk) : GloIs W g (.ints .u32 64 kk) := by
  have hcell := fun i hi => h.cell hg i hi
  have h0 := hcell 63 (by decide)
  simp only [World.cell?] at h0
  split at h0
  · rename_i c ty fr hh
    have hsz : 63 < c.size := by
      rcases Nat.lt_or_ge 63 c.size with h | h
      · exact h
      · simp only [Option.isSome_none, Bool.false_eq_true, if_false] at h0
        rw [Array.getElem?_eq_none h] at h0
        cases h0
    refine ⟨heap_lt hh, ?_, by decide, kkIn, fun j hj => ?_⟩
    · simp only [bsize, hh, V.size]; omega
    · show W.cell? ⟨g, 0 + j, none⟩ = _
      rw [Nat.zero_add]
      exact hcell j hj
  · cases h0
/-- both tables, as the row's list gives them -/
theorem both {W : World} (h : laidMetH Tryd.prog Rows.slotsWrapRow.laid W) : ∀ n c, Go.Cx.look G2 n = some c → GloIs W n c := by
  have h : laidMet Tryd.prog Rows.slotsWrapRow.laid W := h
  have t0 : Lib.TabIs Tryd.prog W "cloister/cloisterref01.k" .u32 kk := Lib.tabIs_of_head gK gKT Tryd.underlying188 Tryd.underlying184 cells184 cells188 h
  have t1 : Lib.TabIs Tryd.prog W "cloister/sha.keys" .u32 kk := Lib.tabIs_of_head (rest := []) gKeys gKeysT Tryd.underlying188 Tryd.underlying184 cells184 cells188 (laid_tail h)
  intro n c hn
  simp only [Go.Cx.look] at hn
  split at hn
  · rename_i e; subst e; cases hn; exact tab_glo gK t0
  · split at hn
    · rename_i e; subst e; cases hn; exact tab_glo gKeys t1
    · cases hn
/-- a world for the witness: the tables hold what their initialisers lay -/
noncomputable def layKK : Obj → Obj
  | .cells _ t frozen => .cells (kk.map (Value.int .u32)).toArray t frozen
  | o => o
noncomputable def laidWorld (os : Os) : World :=
  { World.holding Tryd.prog os ⟨#[], #[], []⟩ with heap := ((World.holding Tryd.prog os ⟨#[], #[], []⟩).heap.modify 0 layKK).modify 1 layKK }
theorem laid_met (os : Os) (args : Array Value) : laidMet Tryd.prog Rows.slotsWrapRow.laid ((laidWorld os).forCall (fun _ _ => 0) ⟨#[], args, []⟩).memory :=
  laidMet_of_run' 8 (by kernel_rfl) (by kernel_rfl)
end Go.Proofs.YtojllgpnhaaagaaDoor.Law
/- CxbLawIs -/
namespace Go.Proofs.YtojllgpnhaaagaaDoor.Law
open Go Go.ChangeShapes Go.WideShapes Go.ChangeAt Go.RowKit
set_option maxRecDepth 100000
theorem init_l : Tryd.prog.initOrder.toList = ([104, 97, 114, 110, 101, 115, 115, 32, 48, 98, 51, 57, 55, 55, 49, 54, 98, 101, 51, 100, 54, 99, 98, 56, 49, 49, 56, 98, 55, 50, 101, 97, 102, 51, 100, 97, 98, 50, 52, 99, 52, 102, 53, 53, 48, 52, 56, 57, 99, 54, 56, 98, 57, 102, 100, 49, 49, 100, 97, 98, 57, 53, 50, 48, 57, 100, 48, 51, 52, 97, 49, 97, 32, 99, 117, 116, 32, 97, 116, 32, 99, 108, 111, 105, 115, 116, 101, 114, 47, 99, 108, 111, 105, 115, 116, 101, 114, 108, 97, 119, 49, 48, 46, 77, 101, 114, 107, 108, 101, 85, 110, 108, 105, 107, 101, 32, 99, 108, 111, 105, 115, 116, 101, 114, 47, 99, 108, 111, 105, 115, 116, 101, 114, 108, 97, 119, 49, 48, 46, 77, 101, 114, 107, 108, 101, 79, 114, 100, 101, 114, 32, 99, 108, 111, 105, 115, 116, 101, 114, 47, 99, 108, 111, 105, 115, 116, 101, 114, 108, 97, 119, 49, 48, 46, 77, 101, 114, 107, 108, 101, 80, 108, 97, 121, 115, 32, 99, 108, 111, 105, 115, 116, 101, 114, 47, 99, 108, 111, 105, 115, 116, 101, 114, 108, 97, 119, 49, 48, 46, 77, 101, 114, 107, 108, 101, 78, 105, 108, 32, 99, 108, 111, 105, 115, 116, 101, 114, 47, 99, 108, 111, 105, 115, 116, 101, 114, 108, 97, 119, 49, 48, 46, 77, 101, 114, 107, 108, 101, 70, 111, 108, 100, 115, 32, 99, 108, 111, 105, 115, 116, 101, 114, 47, 99, 108, 111, 105, 115, 116, 101, 114, 108, 97, 119, 48, 56, 46, 83, 108, 111, 116, 115, 87, 114, 97, 112, 32, 99, 108, 111, 105, 115, 116, 101, 114, 47, 99, 108, 111, 105, 115, 116, 101, 114, 108, 97, 119, 48, 56, 46, 83, 108, 111, 116, 115, 85, 110, 119, 114, 97, 112, 32, 99, 108, 111, 105, 115, 116, 101, 114, 47, 99, 108, 111, 105, 115, 116, 101, 114, 108, 97, 119, 48, 56, 46, 83, 108, 111, 116, 115, 68, 101, 99, 111, 100, 101, 32, 99, 108, 111, 105, 115, 116, 101, 114, 47, 99, 108, 111, 105, 115, 116, 101, 114, 108, 97, 119, 48, 56, 46, 83, 108, 111, 116, 115, 66, 97, 99, 107, 32, 99, 108, 111, 105, 115, 116, 101, 114, 47, 99, 108, 111, 105, 115, 116, 101, 114, 108, 97, 119, 49, 49, 46, 74, 111, 117, 114, 110, 97, 108, 80, 97, 99, 107, 115, 32, 99, 108, 111, 105, 115, 116, 101, 114, 47, 99, 108, 111, 105, 115, 116, 101, 114, 108, 97, 119, 49, 49, 46, 74, 111, 117, 114, 110, 97, 108, 85, 110, 112, 97, 99, 107, 115, 32, 99, 108, 111, 105, 115, 116, 101, 114, 47, 99, 108, 111, 105, 115, 116, 101, 114, 108, 97, 119, 49, 49, 46, 74, 111, 117, 114, 110, 97, 108, 66, 97, 99, 107, 32, 99, 108, 111, 105, 115, 116, 101, 114, 47, 99, 108, 111, 105, 115, 116, 101, 114, 108, 97, 119, 48, 57, 46, 83, 117, 112, 101, 114, 69, 110, 99, 111, 100, 101, 115, 32, 99, 108, 111, 105, 115, 116, 101, 114, 47, 99, 108, 111, 105, 115, 116, 101, 114, 108, 97, 119, 48, 57, 46, 83, 117, 112, 101, 114, 68, 101, 99, 111, 100, 101, 115, 32, 99, 108, 111, 105, 115, 116, 101, 114, 47, 99, 108, 111, 105, 115, 116, 101, 114, 108, 97, 119, 48, 57, 46, 83, 117, 112, 101, 114, 66, 97, 99, 107, 32, 99, 108, 111, 105, 115, 116, 101, 114, 47, 99, 108, 111, 105, 115, 116, 101, 114, 108, 97, 119, 48, 55, 46, 83, 101, 97, 108, 67, 108, 111, 115, 101, 115, 32, 99, 108, 111, 105, 115, 116, 101, 114, 47, 99, 108, 111, 105, 115, 116, 101, 114, 108, 97, 119, 48, 55, 46, 83, 101, 97, 108, 79, 112, 101, 110, 115, 32, 99, 108, 111, 105, 115, 116, 101, 114, 47, 99, 108, 111, 105, 115, 116, 101, 114, 108, 97, 119, 48, 55, 46, 83, 101, 97, 108, 66, 97, 99, 107].map Char.ofNat) := by
  rw [show Tryd.prog.initOrder = String.ofList ([104, 97, 114, 110, 101, 115, 115, 32, 48, 98, 51, 57, 55, 55, 49, 54, 98, 101, 51, 100, 54, 99, 98, 56, 49, 49, 56, 98, 55, 50, 101, 97, 102, 51, 100, 97, 98, 50, 52, 99, 52, 102, 53, 53, 48, 52, 56, 57, 99, 54, 56, 98, 57, 102, 100, 49, 49, 100, 97, 98, 57, 53, 50, 48, 57, 100, 48, 51, 52, 97, 49, 97, 32, 99, 117, 116, 32, 97, 116, 32, 99, 108, 111, 105, 115, 116, 101, 114, 47, 99, 108, 111, 105, 115, 116, 101, 114, 108, 97, 119, 49, 48, 46, 77, 101, 114, 107, 108, 101, 85, 110, 108, 105, 107, 101, 32, 99, 108, 111, 105, 115, 116, 101, 114, 47, 99, 108, 111, 105, 115, 116, 101, 114, 108, 97, 119, 49, 48, 46, 77, 101, 114, 107, 108, 101, 79, 114, 100, 101, 114, 32, 99, 108, 111, 105, 115, 116, 101, 114, 47, 99, 108, 111, 105, 115, 116, 101, 114, 108, 97, 119, 49, 48, 46, 77, 101, 114, 107, 108, 101, 80, 108, 97, 121, 115, 32, 99, 108, 111, 105, 115, 116, 101, 114, 47, 99, 108, 111, 105, 115, 116, 101, 114, 108, 97, 119, 49, 48, 46, 77, 101, 114, 107, 108, 101, 78, 105, 108, 32, 99, 108, 111, 105, 115, 116, 101, 114, 47, 99, 108, 111, 105, 115, 116, 101, 114, 108, 97, 119, 49, 48, 46, 77, 101, 114, 107, 108, 101, 70, 111, 108, 100, 115, 32, 99, 108, 111, 105, 115, 116, 101, 114, 47, 99, 108, 111, 105, 115, 116, 101, 114, 108, 97, 119, 48, 56, 46, 83, 108, 111, 116, 115, 87, 114, 97, 112, 32, 99, 108, 111, 105, 115, 116, 101, 114, 47, 99, 108, 111, 105, 115, 116, 101, 114, 108, 97, 119, 48, 56, 46, 83, 108, 111, 116, 115, 85, 110, 119, 114, 97, 112, 32, 99, 108, 111, 105, 115, 116, 101, 114, 47, 99, 108, 111, 105, 115, 116, 101, 114, 108, 97, 119, 48, 56, 46, 83, 108, 111, 116, 115, 68, 101, 99, 111, 100, 101, 32, 99, 108, 111, 105, 115, 116, 101, 114, 47, 99, 108, 111, 105, 115, 116, 101, 114, 108, 97, 119, 48, 56, 46, 83, 108, 111, 116, 115, 66, 97, 99, 107, 32, 99, 108, 111, 105, 115, 116, 101, 114, 47, 99, 108, 111, 105, 115, 116, 101, 114, 108, 97, 119, 49, 49, 46, 74, 111, 117, 114, 110, 97, 108, 80, 97, 99, 107, 115, 32, 99, 108, 111, 105, 115, 116, 101, 114, 47, 99, 108, 111, 105, 115, 116, 101, 114, 108, 97, 119, 49, 49, 46, 74, 111, 117, 114, 110, 97, 108, 85, 110, 112, 97, 99, 107, 115, 32, 99, 108, 111, 105, 115, 116, 101, 114, 47, 99, 108, 111, 105, 115, 116, 101, 114, 108, 97, 119, 49, 49, 46, 74, 111, 117, 114, 110, 97, 108, 66, 97, 99, 107, 32, 99, 108, 111, 105, 115, 116, 101, 114, 47, 99, 108, 111, 105, 115, 116, 101, 114, 108, 97, 119, 48, 57, 46, 83, 117, 112, 101, 114, 69, 110, 99, 111, 100, 101, 115, 32, 99, 108, 111, 105, 115, 116, 101, 114, 47, 99, 108, 111, 105, 115, 116, 101, 114, 108, 97, 119, 48, 57, 46, 83, 117, 112, 101, 114, 68, 101, 99, 111, 100, 101, 115, 32, 99, 108, 111, 105, 115, 116, 101, 114, 47, 99, 108, 111, 105, 115, 116, 101, 114, 108, 97, 119, 48, 57, 46, 83, 117, 112, 101, 114, 66, 97, 99, 107, 32, 99, 108, 111, 105, 115, 116, 101, 114, 47, 99, 108, 111, 105, 115, 116, 101, 114, 108, 97, 119, 48, 55, 46, 83, 101, 97, 108, 67, 108, 111, 115, 101, 115, 32, 99, 108, 111, 105, 115, 116, 101, 114, 47, 99, 108, 111, 105, 115, 116, 101, 114, 108, 97, 119, 48, 55, 46, 83, 101, 97, 108, 79, 112, 101, 110, 115, 32, 99, 108, 111, 105, 115, 116, 101, 114, 47, 99, 108, 111, 105, 115, 116, 101, 114, 108, 97, 119, 48, 55, 46, 83, 101, 97, 108, 66, 97, 99, 107].map Char.ofNat) by kernel_rfl, String.toList_ofList]
theorem init_w : wordsSigns Tryd.prog.initOrder.toList = [([104, 97, 114, 110, 101, 115, 115].map Char.ofNat), ([48, 98, 51, 57, 55, 55, 49, 54, 98, 101, 51, 100, 54, 99, 98, 56, 49, 49, 56, 98, 55, 50, 101, 97, 102, 51, 100, 97, 98, 50, 52, 99, 52, 102, 53, 53, 48, 52, 56, 57, 99, 54, 56, 98, 57, 102, 100, 49, 49, 100, 97, 98, 57, 53, 50, 48, 57, 100, 48, 51, 52, 97, 49, 97].map Char.ofNat), ([99, 117, 116].map Char.ofNat), ([97, 116].map Char.ofNat), ([99, 108, 111, 105, 115, 116, 101, 114, 47, 99, 108, 111, 105, 115, 116, 101, 114, 108, 97, 119, 49, 48, 46, 77, 101, 114, 107, 108, 101, 85, 110, 108, 105, 107, 101].map Char.ofNat), ([99, 108, 111, 105, 115, 116, 101, 114, 47, 99, 108, 111, 105, 115, 116, 101, 114, 108, 97, 119, 49, 48, 46, 77, 101, 114, 107, 108, 101, 79, 114, 100, 101, 114].map Char.ofNat), ([99, 108, 111, 105, 115, 116, 101, 114, 47, 99, 108, 111, 105, 115, 116, 101, 114, 108, 97, 119, 49, 48, 46, 77, 101, 114, 107, 108, 101, 80, 108, 97, 121, 115].map Char.ofNat), ([99, 108, 111, 105, 115, 116, 101, 114, 47, 99, 108, 111, 105, 115, 116, 101, 114, 108, 97, 119, 49, 48, 46, 77, 101, 114, 107, 108, 101, 78, 105, 108].map Char.ofNat), ([99, 108, 111, 105, 115, 116, 101, 114, 47, 99, 108, 111, 105, 115, 116, 101, 114, 108, 97, 119, 49, 48, 46, 77, 101, 114, 107, 108, 101, 70, 111, 108, 100, 115].map Char.ofNat), ([99, 108, 111, 105, 115, 116, 101, 114, 47, 99, 108, 111, 105, 115, 116, 101, 114, 108, 97, 119, 48, 56, 46, 83, 108, 111, 116, 115, 87, 114, 97, 112].map Char.ofNat), ([99, 108, 111, 105, 115, 116, 101, 114, 47, 99, 108, 111, 105, 115, 116, 101, 114, 108, 97, 119, 48, 56, 46, 83, 108, 111, 116, 115, 85, 110, 119, 114, 97, 112].map Char.ofNat), ([99, 108, 111, 105, 115, 116, 101, 114, 47, 99, 108, 111, 105, 115, 116, 101, 114, 108, 97, 119, 48, 56, 46, 83, 108, 111, 116, 115, 68, 101, 99, 111, 100, 101].map Char.ofNat), ([99, 108, 111, 105, 115, 116, 101, 114, 47, 99, 108, 111, 105, 115, 116, 101, 114, 108, 97, 119, 48, 56, 46, 83, 108, 111, 116, 115, 66, 97, 99, 107].map Char.ofNat), ([99, 108, 111, 105, 115, 116, 101, 114, 47, 99, 108, 111, 105, 115, 116, 101, 114, 108, 97, 119, 49, 49, 46, 74, 111, 117, 114, 110, 97, 108, 80, 97, 99, 107, 115].map Char.ofNat), ([99, 108, 111, 105, 115, 116, 101, 114, 47, 99, 108, 111, 105, 115, 116, 101, 114, 108, 97, 119, 49, 49, 46, 74, 111, 117, 114, 110, 97, 108, 85, 110, 112, 97, 99, 107, 115].map Char.ofNat), ([99, 108, 111, 105, 115, 116, 101, 114, 47, 99, 108, 111, 105, 115, 116, 101, 114, 108, 97, 119, 49, 49, 46, 74, 111, 117, 114, 110, 97, 108, 66, 97, 99, 107].map Char.ofNat), ([99, 108, 111, 105, 115, 116, 101, 114, 47, 99, 108, 111, 105, 115, 116, 101, 114, 108, 97, 119, 48, 57, 46, 83, 117, 112, 101, 114, 69, 110, 99, 111, 100, 101, 115].map Char.ofNat), ([99, 108, 111, 105, 115, 116, 101, 114, 47, 99, 108, 111, 105, 115, 116, 101, 114, 108, 97, 119, 48, 57, 46, 83, 117, 112, 101, 114, 68, 101, 99, 111, 100, 101, 115].map Char.ofNat), ([99, 108, 111, 105, 115, 116, 101, 114, 47, 99, 108, 111, 105, 115, 116, 101, 114, 108, 97, 119, 48, 57, 46, 83, 117, 112, 101, 114, 66, 97, 99, 107].map Char.ofNat), ([99, 108, 111, 105, 115, 116, 101, 114, 47, 99, 108, 111, 105, 115, 116, 101, 114, 108, 97, 119, 48, 55, 46, 83, 101, 97, 108, 67, 108, 111, 115, 101, 115].map Char.ofNat), ([99, 108, 111, 105, 115, 116, 101, 114, 47, 99, 108, 111, 105, 115, 116, 101, 114, 108, 97, 119, 48, 55, 46, 83, 101, 97, 108, 79, 112, 101, 110, 115].map Char.ofNat), ([99, 108, 111, 105, 115, 116, 101, 114, 47, 99, 108, 111, 105, 115, 116, 101, 114, 108, 97, 119, 48, 55, 46, 83, 101, 97, 108, 66, 97, 99, 107].map Char.ofNat)] := by
  rw [init_l]
  kernel_rfl
theorem behind_w : behindMainWord (wordsSigns Tryd.prog.initOrder.toList) = [([99, 117, 116].map Char.ofNat), ([97, 116].map Char.ofNat), ([99, 108, 111, 105, 115, 116, 101, 114, 47, 99, 108, 111, 105, 115, 116, 101, 114, 108, 97, 119, 49, 48, 46, 77, 101, 114, 107, 108, 101, 85, 110, 108, 105, 107, 101].map Char.ofNat), ([99, 108, 111, 105, 115, 116, 101, 114, 47, 99, 108, 111, 105, 115, 116, 101, 114, 108, 97, 119, 49, 48, 46, 77, 101, 114, 107, 108, 101, 79, 114, 100, 101, 114].map Char.ofNat), ([99, 108, 111, 105, 115, 116, 101, 114, 47, 99, 108, 111, 105, 115, 116, 101, 114, 108, 97, 119, 49, 48, 46, 77, 101, 114, 107, 108, 101, 80, 108, 97, 121, 115].map Char.ofNat), ([99, 108, 111, 105, 115, 116, 101, 114, 47, 99, 108, 111, 105, 115, 116, 101, 114, 108, 97, 119, 49, 48, 46, 77, 101, 114, 107, 108, 101, 78, 105, 108].map Char.ofNat), ([99, 108, 111, 105, 115, 116, 101, 114, 47, 99, 108, 111, 105, 115, 116, 101, 114, 108, 97, 119, 49, 48, 46, 77, 101, 114, 107, 108, 101, 70, 111, 108, 100, 115].map Char.ofNat), ([99, 108, 111, 105, 115, 116, 101, 114, 47, 99, 108, 111, 105, 115, 116, 101, 114, 108, 97, 119, 48, 56, 46, 83, 108, 111, 116, 115, 87, 114, 97, 112].map Char.ofNat), ([99, 108, 111, 105, 115, 116, 101, 114, 47, 99, 108, 111, 105, 115, 116, 101, 114, 108, 97, 119, 48, 56, 46, 83, 108, 111, 116, 115, 85, 110, 119, 114, 97, 112].map Char.ofNat), ([99, 108, 111, 105, 115, 116, 101, 114, 47, 99, 108, 111, 105, 115, 116, 101, 114, 108, 97, 119, 48, 56, 46, 83, 108, 111, 116, 115, 68, 101, 99, 111, 100, 101].map Char.ofNat), ([99, 108, 111, 105, 115, 116, 101, 114, 47, 99, 108, 111, 105, 115, 116, 101, 114, 108, 97, 119, 48, 56, 46, 83, 108, 111, 116, 115, 66, 97, 99, 107].map Char.ofNat), ([99, 108, 111, 105, 115, 116, 101, 114, 47, 99, 108, 111, 105, 115, 116, 101, 114, 108, 97, 119, 49, 49, 46, 74, 111, 117, 114, 110, 97, 108, 80, 97, 99, 107, 115].map Char.ofNat), ([99, 108, 111, 105, 115, 116, 101, 114, 47, 99, 108, 111, 105, 115, 116, 101, 114, 108, 97, 119, 49, 49, 46, 74, 111, 117, 114, 110, 97, 108, 85, 110, 112, 97, 99, 107, 115].map Char.ofNat), ([99, 108, 111, 105, 115, 116, 101, 114, 47, 99, 108, 111, 105, 115, 116, 101, 114, 108, 97, 119, 49, 49, 46, 74, 111, 117, 114, 110, 97, 108, 66, 97, 99, 107].map Char.ofNat), ([99, 108, 111, 105, 115, 116, 101, 114, 47, 99, 108, 111, 105, 115, 116, 101, 114, 108, 97, 119, 48, 57, 46, 83, 117, 112, 101, 114, 69, 110, 99, 111, 100, 101, 115].map Char.ofNat), ([99, 108, 111, 105, 115, 116, 101, 114, 47, 99, 108, 111, 105, 115, 116, 101, 114, 108, 97, 119, 48, 57, 46, 83, 117, 112, 101, 114, 68, 101, 99, 111, 100, 101, 115].map Char.ofNat), ([99, 108, 111, 105, 115, 116, 101, 114, 47, 99, 108, 111, 105, 115, 116, 101, 114, 108, 97, 119, 48, 57, 46, 83, 117, 112, 101, 114, 66, 97, 99, 107].map Char.ofNat), ([99, 108, 111, 105, 115, 116, 101, 114, 47, 99, 108, 111, 105, 115, 116, 101, 114, 108, 97, 119, 48, 55, 46, 83, 101, 97, 108, 67, 108, 111, 115, 101, 115].map Char.ofNat), ([99, 108, 111, 105, 115, 116, 101, 114, 47, 99, 108, 111, 105, 115, 116, 101, 114, 108, 97, 119, 48, 55, 46, 83, 101, 97, 108, 79, 112, 101, 110, 115].map Char.ofNat), ([99, 108, 111, 105, 115, 116, 101, 114, 47, 99, 108, 111, 105, 115, 116, 101, 114, 108, 97, 119, 48, 55, 46, 83, 101, 97, 108, 66, 97, 99, 107].map Char.ofNat)] := by
  rw [init_w]
  kernel_rfl
theorem strip_cut {rest : List (List Char)} : stripLifts liftWords (([99, 117, 116].map Char.ofNat) :: rest) = ([], ([99, 117, 116].map Char.ofNat) :: rest) := by
  have go : ∀ os : List String, (∀ o ∈ os, (([99, 117, 116].map Char.ofNat) == o.toList) = false) → stripLifts os (([99, 117, 116].map Char.ofNat) :: rest) = ([], ([99, 117, 116].map Char.ofNat) :: rest) := by
    intro os
    induction os with
    | nil => intro _; rfl
    | cons o os ih =>
      intro h
      simp only [stripLifts, h o (by simp), Bool.false_eq_true, if_false]
      exact ih fun o ho => h o (by simp [ho])
  exact go liftWords (by decide +kernel)
theorem cut_l : "cut".toList = ([99, 117, 116].map Char.ofNat) := by decide +kernel
theorem heads {P : Program} {rest : List (List Char)} (h : behindMainWord (wordsSigns P.initOrder.toList) = ([99, 117, 116].map Char.ofNat) :: rest) : P.headLifts = [] := by
  unfold Program.headLifts
  rw [h, strip_cut]
  simp only [List.head?_cons]
  exact ite_self _
theorem make_cut {P : Program} {rest : List (List Char)} (h : behindMainWord (wordsSigns P.initOrder.toList) = ([99, 117, 116].map Char.ofNat) :: rest) : P.make = some .cut := by
  unfold Program.make
  rw [h]
  simp only [cut_l, show (([99, 117, 116].map Char.ofNat) == "gc".toList) = false by decide +kernel, show (([99, 117, 116].map Char.ofNat) == "spec".toList) = false by decide +kernel, Bool.or_false, Bool.false_eq_true, if_false, BEq.rfl, Bool.true_or, if_true]
theorem lifts_cut {P : Program} {rest : List (List Char)} (h : behindMainWord (wordsSigns P.initOrder.toList) = ([99, 117, 116].map Char.ofNat) :: rest) : P.liftsFinal = false := by
  unfold Program.liftsFinal
  rw [h, heads h]
  simp only [List.head?_cons, show (some ([99, 117, 116].map Char.ofNat) == some "carried".toList) = false by decide +kernel, Bool.false_and, Bool.false_or]
  rfl
theorem enter_cut {P : Program} {rest : List (List Char)} (h : behindMainWord (wordsSigns P.initOrder.toList) = ([99, 117, 116].map Char.ofNat) :: rest) (hl : P.laysLater = false) (hb : P.bearsReflect = false) (hd : P.doorFits [] = true) : P.mayEnter = true := by
  unfold Program.mayEnter
  rw [h]
  simp only [strip_cut, hl, hb, hd, List.head?_cons, cut_l, BEq.rfl, Bool.not_false, Bool.or_true, Bool.and_true, Bool.true_and]
  have e : (([] : List String).contains "reflectrows" || !([] : List String).contains "leanrows") = true := rfl
  rw [e, Bool.or_true]
theorem lays_later : Tryd.prog.laysLater = false := by kernel_rfl
theorem bears : Tryd.prog.bearsReflect = false := by kernel_rfl
theorem door : Tryd.prog.doorFits [] = true := by kernel_rfl
theorem may_enter : Tryd.prog.mayEnter = true := enter_cut behind_w lays_later bears door
theorem lifts_final : Tryd.prog.liftsFinal = false := lifts_cut behind_w
theorem make_is : Tryd.prog.make = some .cut := make_cut behind_w
theorem main_of {P : Program} {s : List Char} {rest : List (List Char)} (h : wordsSigns P.initOrder.toList = ([104, 97, 114, 110, 101, 115, 115].map Char.ofNat) :: s :: rest) (hs : isSumSigns s = true) : P.mainIs = some (true, s) := by
  unfold Program.mainIs
  rw [h]
  have e : "harness".toList = ([104, 97, 114, 110, 101, 115, 115].map Char.ofNat) := by decide +kernel
  simp only [hs, e, Bool.not_true, Bool.false_eq_true, if_false, BEq.rfl, if_true]
theorem sum_l : "0b397716be3d6cb8118b72eaf3dab24c4f550489c68b9fd11dab95209d034a1a".toList = ([48, 98, 51, 57, 55, 55, 49, 54, 98, 101, 51, 100, 54, 99, 98, 56, 49, 49, 56, 98, 55, 50, 101, 97, 102, 51, 100, 97, 98, 50, 52, 99, 52, 102, 53, 53, 48, 52, 56, 57, 99, 54, 56, 98, 57, 102, 100, 49, 49, 100, 97, 98, 57, 53, 50, 48, 57, 100, 48, 51, 52, 97, 49, 97].map Char.ofNat) := by
  rw [show "0b397716be3d6cb8118b72eaf3dab24c4f550489c68b9fd11dab95209d034a1a" = String.ofList ([48, 98, 51, 57, 55, 55, 49, 54, 98, 101, 51, 100, 54, 99, 98, 56, 49, 49, 56, 98, 55, 50, 101, 97, 102, 51, 100, 97, 98, 50, 52, 99, 52, 102, 53, 53, 48, 52, 56, 57, 99, 54, 56, 98, 57, 102, 100, 49, 49, 100, 97, 98, 57, 53, 50, 48, 57, 100, 48, 51, 52, 97, 49, 97].map Char.ofNat) by kernel_rfl, String.toList_ofList]
theorem main_is : Tryd.prog.mainIs = some (true, "0b397716be3d6cb8118b72eaf3dab24c4f550489c68b9fd11dab95209d034a1a".toList) := by
  rw [sum_l]
  exact main_of init_w (by decide +kernel)
end Go.Proofs.YtojllgpnhaaagaaDoor.Law
/- CxLaw2 -/
namespace Go.Cx
open Go Go.ChangeShapes Go.WideShapes Go.ChangeAt Go.RowKit Go.ChangeMaps
section
variable {H : Type} {enc : TypeId × Value → H} {P : Program} {W : World}
theorem law_int {k : IntKind} {t : TypeId} (ht : P.underlying t = some (.int k)) {base : Nat} {v : Value} {d : DataW H} {p : List MemPlace}
    (hval : Value.okWide P W .any base t v) (h : DataW.Trod enc P W 0 (fun _ => true) true t v d p) : ∃ n lo, LArg W (.v (.int k n)) v lo none := by
  obtain ⟨n, rfl, _, _, hw⟩ := open_int ht hval h
  exact ⟨n, .ph, int_vr (lit_wf hw), rfl⟩
def intOf : Value → Int
  | .int _ n => n
  | _ => 0
theorem law_arr {k : IntKind} {t e : TypeId} {n : Nat} (ht : P.underlying t = some (.array n e)) (he : P.underlying e = some (.int k)) (hc : P.cellsOf e = 1) (hct : P.cellsOf t = n) {base : Nat} {v : Value} {d : DataW H} {p : List MemPlace}
    (hval : Value.okWide P W .any base t v) (h : DataW.Trod enc P W 0 (fun _ => true) true t v d p) : ∃ l lo, LArg W (.v (.ints k n l)) v lo none := by
  obtain ⟨fuel, h⟩ := h
  obtain ⟨cs, rfl, hcs, _⟩ : ∃ cs, v = .agg cs ∧ cs.size = P.cellsOf t ∧ Row.okWide P W .any base t cs := by
    simpa only [Value.okWide, ht] using hval
  obtain ⟨xs, m, rfl, _, hl, hlen, hel⟩ := DataW.trod_array ht h
  rw [hct] at hcs
  have cell : ∀ i, i < n → ∃ z, cs[i]? = some (.int k z) ∧ inR k z := fun i hi => by
    have h1 := hel i hi
    rw [List.getElem?_eq_getElem (by omega)] at h1
    obtain ⟨z, h2, _, h3⟩ := DataW.trod_int he h1
    refine ⟨z, ?_, lit_wf h3⟩
    have h4 : ((Value.agg cs).cells.toList.drop (i * P.cellsOf e)).take (P.cellsOf e) = [cs[i]'(by omega)] := by
      rw [hc, Nat.mul_one]
      show (cs.toList.drop i).take 1 = _
      rw [List.drop_eq_getElem_cons (by simp; omega)]
      simp
    rw [h4] at h2
    rw [Array.getElem?_eq_getElem (by omega)]
    simpa using h2
  refine ⟨cs.toList.map intOf, .ph, agg_vr rfl (by simp [V.size, hcs]) ⟨by simp [hcs], fun y hy => ?_, fun j hj => ?_⟩, rfl⟩
  · obtain ⟨x, hx, rfl⟩ := List.mem_map.1 hy
    obtain ⟨i, hi⟩ := List.mem_iff_getElem?.1 hx
    have hin : i < n := by have := (List.getElem?_eq_some_iff.1 hi).1; simp at this; omega
    obtain ⟨z, h1, h2⟩ := cell i hin
    have : cs[i]? = some x := by simpa using hi
    rw [h1] at this
    cases this
    exact h2
  · obtain ⟨z, h1, h2⟩ := cell j hj
    show cs[j]? = _
    rw [h1]
    simp [nthI, List.getD_eq_getElem?_getD, h1, intOf]
end
end Go.Cx
/- CxLaw4 -/
namespace Go.Cx
open Go Go.ChangeShapes Go.WideShapes Go.ChangeAt Go.RowKit Go.ChangeMaps
/-- what numbers, arrays and structs of them hold -/
def Flat : V → Prop
  | .bool _ | .int _ _ | .ints _ _ _ => True
  | .cat _ _ a b => Flat a ∧ Flat b
  | .rows _ _ f => ∀ j, Flat (f j)
  | _ => False
theorem flat_rep {I : Nat → Prop} {w : World} {ow : Own} (c : V) : Flat c → ∀ {ρ ρ' : Rho} {q q' : List Nat} {pos pos' : Nat} {g g' : Nat → Option Value}, (∀ j, j < c.size → g' j = g j) → CRep I w ow c ρ q pos g → CRep I w ow c ρ' q' pos' g' := by
  induction c with
  | bool b => intro _ ρ ρ' q q' pos pos' g g' e h; exact (e 0 (by simp [V.size])).trans h
  | int k n => intro _ ρ ρ' q q' pos pos' g g' e h; exact ⟨(e 0 (by simp [V.size])).trans h.1, h.2⟩
  | ints k n l => intro _ ρ ρ' q q' pos pos' g g' e h; exact ⟨h.1, h.2.1, fun j hj => (e j hj).trans (h.2.2 j hj)⟩
  | cat n m a b iha ihb =>
    intro hf ρ ρ' q q' pos pos' g g' e h
    obtain ⟨ha, hb, h1, h2⟩ := h
    refine ⟨ha, hb, iha hf.1 (fun j hj => e j (by simp only [V.size]; omega)) h1, ihb hf.2 (fun j hj => e (n + j) (by simp only [V.size]; omega)) h2⟩
  | rows s n f ih =>
    intro hf ρ ρ' q q' pos pos' g g' e h j hj
    obtain ⟨h1, h2⟩ := h j hj
    refine ⟨h1, ih j (hf j) (fun r hr => e (j * s + r) ?_) h2⟩
    simp only [V.size]
    have : (j + 1) * s ≤ n * s := Nat.mul_le_mul_right _ hj
    rw [Nat.add_mul] at this
    omega
  | _ => intro hf; exact hf.elim
/-- cells that hold c -/
def Piece (W : World) (cs : List Value) (c : V) : Prop := cs.length = c.size ∧ Flat c ∧ CRep (fun b => b < W.heap.size) W (fun _ => none) c noR [] 0 (fun j => cs[j]?)
theorem Piece.cat {W : World} {cs : List Value} {n : Nat} {a b : V} (h1 : Piece W (cs.take n) a) (hn : n ≤ cs.length) (h2 : Piece W (cs.drop n) b) : Piece W cs (.cat n (cs.length - n) a b) := by
  obtain ⟨a1, a2, a3⟩ := h1
  obtain ⟨b1, b2, b3⟩ := h2
  simp only [List.length_take, List.length_drop] at a1 b1
  refine ⟨by simp only [V.size]; omega, ⟨a2, b2⟩, by omega, by omega, flat_rep a a2 (fun j hj => ?_) a3, flat_rep b b2 (fun j hj => ?_) b3⟩
  · rw [List.getElem?_take, if_pos (by omega)]
  · rw [List.getElem?_drop]
section
variable {H : Type} {enc : TypeId × Value → H} {P : Program} {W : World}
theorem piece_int {k : IntKind} {t : TypeId} (ht : P.underlying t = some (.int k)) {fuel : Nat} {cs : List Value} {x : DataW H × List MemPlace} (h : DataW.trod enc P W 0 (fun _ => true) true fuel t cs = some x) : ∃ n, Piece W cs (.int k n) := by
  obtain ⟨b, rfl, _, hw⟩ := DataW.trod_int ht h
  exact ⟨b, rfl, trivial, rfl, lit_wf hw⟩
theorem struct_agg {t : TypeId} {fs : Array Field} (ht : P.underlying t = some (.struct fs)) {base : Nat} (v : Value) (hval : Value.okWide P W .any base t v) : ∃ cs, v = .agg cs := by
  obtain ⟨cs, rfl, _⟩ : ∃ cs, v = .agg cs ∧ cs.size = P.cellsOf t ∧ Row.okWide P W .any base t cs := by simpa only [Value.okWide, ht] using hval
  exact ⟨cs, rfl⟩
/-- an argument that is an array or a struct -/
theorem law_piece {t : TypeId} {base : Nat} {v : Value} {d : DataW H} {p : List MemPlace} (hag : ∀ v, Value.okWide P W .any base t v → ∃ cs, v = .agg cs)
    (hval : Value.okWide P W .any base t v) (h : DataW.Trod enc P W 0 (fun _ => true) true t v d p) {Q : V → Prop}
    (hp : ∀ fuel cs x, DataW.trod enc P W 0 (fun _ => true) true fuel t cs = some x → ∃ c, Q c ∧ c.isAgg = true ∧ Piece W cs c) : ∃ c lo, Q c ∧ LArg W (.v c) v lo none := by
  obtain ⟨fuel, h⟩ := h
  obtain ⟨cs, rfl⟩ := hag v hval
  obtain ⟨c, hq, ha, h1, _, h2⟩ := hp _ _ _ h
  refine ⟨c, .ph, hq, agg_vr ha (by simpa [Value.cells] using h1) ?_, rfl⟩
  have e : (fun j => (Value.agg cs).cells.toList[j]?) = fun j : Nat => cs[j]? := by funext j; simp [Value.cells]
  rw [e] at h2
  exact CRep.out h2
/-- bytes that no one writes, as a statement reads them -/
theorem law_frozen {t e : TypeId} (ht : P.underlying t = some (.slice e)) (he : P.underlying e = some (.int .u8)) (hc : P.cellsOf e = 1) (hb : P.bytesOf e = 1) {base : Nat} {v : Value} {d : DataW H} {p : List MemPlace}
    (hval : Value.okWide P W .any base t v) (h : DataW.Trod enc P W 0 (fun _ => true) true t v d p) : ∃ n l lo, LArg W (.v (.dsl n 1 (.ints .u8 n l))) v lo none ∧ ((d.weights P t).all (· ≤ reachBytes) = true → n ≤ 140737488351232) := by
  obtain ⟨fuel, h⟩ := h
  obtain ⟨ad, n, c, rfl⟩ := slice_is ht hval
  rcases open_ints ht he hc h with ⟨h1, h2⟩ | ⟨a, len, cap, zs, h1, h2, h3, h4, h5, h6, h7, h8⟩
  · simp only [Value.cells, List.cons.injEq, Value.slice.injEq, and_true] at h1
    obtain ⟨rfl, rfl, rfl⟩ := h1
    exact ⟨0, [], .ph, ⟨leaf_vr rfl rfl rfl ⟨none, 0, rfl, Nat.le_refl _, by simp, ⟨rfl, rfl⟩, ⟨rfl, by simp, fun j hj => by omega⟩, .inl rfl⟩, rfl⟩, fun _ => by omega⟩
  · simp only [Value.cells, List.cons.injEq, Value.slice.injEq, and_true] at h1
    obtain ⟨rfl, rfl, rfl⟩ := h1
    cases h6
    simp only [if_true] at h5
    obtain ⟨ha, hblk⟩ := slice_has ht hval
    obtain ⟨b, off, sp⟩ := a
    simp only at ha hblk
    subst ha
    refine ⟨n, zs.take n, .ph, ⟨leaf_vr rfl rfl rfl ⟨_, c, rfl, h3, h4, ⟨rfl, rfl⟩, ⟨by simp; omega, fun y hy => lit_wf (h8 y (List.mem_of_mem_take hy)), fun j hj => ?_⟩, .inr ⟨b, off, rfl, hblk⟩⟩, rfl⟩, fun hw => ?_⟩
    · have := h7 j (by omega)
      have e1 : (⟨b, off, none⟩ : Addr).add j = ⟨b, off + j, none⟩ := by
        simp only [Addr.add]
        split
        · rename_i e; subst e; rfl
        · rfl
      rw [e1] at this
      show W.cell? ⟨b, off + j, none⟩ = _
      rw [this]
      simp [nthI, List.getD_eq_getElem?_getD, hj]
    · simp only [DataW.weights, ht, List.all_cons, Bool.and_eq_true, hb, reachBytes] at hw
      have := of_decide_eq_true hw.1
      simp only [lits, List.length_map, List.length_take, List.length_drop, Nat.mul_one] at this
      omega
end
end Go.Cx
/- CxbLawH -/
namespace Go.Proofs.YtojllgpnhaaagaaDoor.Law
open Go Go.ChangeShapes Go.WideShapes Go.ChangeAt Go.RowKit Go.Cx Go.Cx.Rb Go.ChangeMaps
theorem cells3 : Tryd.prog.cellsOf 3 = 1 := by kernel_rfl
theorem cells73 : Tryd.prog.cellsOf 73 = 1 := by kernel_rfl
theorem cells114 : Tryd.prog.cellsOf 114 = 4 := by kernel_rfl
def headC (k h e s : Int) : V := .cat 1 3 (.int .i64 k) (.cat 1 2 (.int .i64 h) (.cat 1 1 (.int .u64 e) (.int .u64 s)))
theorem piece_head {H : Type} {enc : TypeId × Value → H} {W : World} {fuel : Nat} {cs : List Value} {x : DataW H × List MemPlace} (h : DataW.trod enc Tryd.prog W 0 (fun _ => true) true fuel 114 cs = some x) :
    ∃ k h e s, Piece W cs (headC k h e s) := by
  obtain ⟨xs, n, _, _, hl, hlen, hf⟩ := DataW.trod_struct Tryd.underlying114 h
  rw [cells114] at hl
  match xs, hlen with
  | [y0, y1, y2, y3], _ =>
    have h0 : DataW.trod enc Tryd.prog W 0 (fun _ => true) true n 3 ((cs.drop 0).take (Tryd.prog.cellsOf 3)) = some y0 := hf 0 _ rfl
    rw [cells3] at h0
    have h1 : DataW.trod enc Tryd.prog W 0 (fun _ => true) true n 3 ((cs.drop 1).take (Tryd.prog.cellsOf 3)) = some y1 := hf 1 _ rfl
    rw [cells3] at h1
    have h2 : DataW.trod enc Tryd.prog W 0 (fun _ => true) true n 73 ((cs.drop 2).take (Tryd.prog.cellsOf 73)) = some y2 := hf 2 _ rfl
    rw [cells73] at h2
    have h3 : DataW.trod enc Tryd.prog W 0 (fun _ => true) true n 73 ((cs.drop 3).take (Tryd.prog.cellsOf 73)) = some y3 := hf 3 _ rfl
    rw [cells73] at h3
    obtain ⟨k, p0⟩ := piece_int Tryd.underlying3 h0
    obtain ⟨h, p1⟩ := piece_int Tryd.underlying3 h1
    obtain ⟨e, p2⟩ := piece_int Tryd.underlying73 h2
    obtain ⟨s, p3⟩ := piece_int Tryd.underlying73 h3
    have e3 : (cs.drop 3).take 1 = cs.drop 3 := List.take_of_length_le (by simp; omega)
    rw [e3] at p3
    have q2 := Piece.cat (n := 1) (cs := cs.drop 2) p2 (by simp; omega) (by rw [List.drop_drop]; exact p3)
    have q1 := Piece.cat (n := 1) (cs := cs.drop 1) p1 (by simp; omega) (by rw [List.drop_drop]; exact q2)
    have q0 := Piece.cat (n := 1) (cs := cs) p0 (by omega) q1
    simp only [List.length_drop, hl] at q0
    exact ⟨k, h, e, s, q0⟩
set_option maxRecDepth 100000 in
theorem law_head {H : Type} {enc : TypeId × Value → H} {W : World} {base : Nat} {v : Value} {d : DataW H} {p : List MemPlace} (hval : Value.okWide Tryd.prog W .any base 114 v) (h : DataW.Trod enc Tryd.prog W 0 (fun _ => true) true 114 v d p) :
    ∃ k h e s lo, LArg W (.v (headC k h e s)) v lo none := by
  have hp : ∀ fuel cs x, DataW.trod enc Tryd.prog W 0 (fun _ => true) true fuel 114 cs = some x → ∃ c, (∃ k h e s, c = headC k h e s) ∧ c.isAgg = true ∧ Piece W cs c := fun fuel cs x hx => by
    obtain ⟨k, h, e, s, hp⟩ := piece_head hx
    exact ⟨headC k h e s, ⟨k, h, e, s, rfl⟩, rfl, hp⟩
  have hg : ∀ v, Value.okWide Tryd.prog W .any base 114 v → ∃ cs, v = .agg cs := @struct_agg Tryd.prog W 114 _ Tryd.underlying114 base
  obtain ⟨c, lo, ⟨k, h, e, s, eq⟩, hl⟩ := @law_piece H enc Tryd.prog W 114 base v d p hg hval h (fun c => ∃ k h e s, c = headC k h e s) hp
  subst eq
  exact ⟨k, h, e, s, lo, hl⟩
theorem hout18 {m : List Int} {k h e s : Int} {n : Nat} {l : List Int} (hn : n ≤ 140737488351232) : (cLaw18 apf [.v (.ints .u8 32 m), .v (headC k h e s), .b n 1 (.ints .u8 n l)]).to ⟨.tt, [], []⟩ := ⟨hn, rfl⟩
theorem hout19 {m : List Int} {n : Nat} {b : List Int} (hn : n ≤ 140737488351232) : (cLaw19 apf [.v (.ints .u8 32 m), .v (.dsl n 1 (.ints .u8 n b))]).to ⟨.tt, [], []⟩ := ⟨rfl, hn, rfl⟩
theorem hout20 {m : List Int} {k h e s : Int} {n : Nat} {l : List Int} {a t : Int} (hn : n ≤ 140737488351232) : (cLaw20 apf [.v (.ints .u8 32 m), .v (headC k h e s), .b n 1 (.ints .u8 n l), .v (.int .i64 a), .v (.int .u8 t)]).to ⟨.tt, [], []⟩ := ⟨hn, rfl⟩
end Go.Proofs.YtojllgpnhaaagaaDoor.Law
