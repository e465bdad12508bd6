/-
  The superblock's small functions.
-/
import Derived.Test.YtojllgpnhaaagaaDoorCxbS
import Derived.Test.YtojllgpnhaaagaaDoorCxbU
namespace Go.Cx.Rb
open Go Go.Cx Go.Proofs

def homI (n : Int) : Int := maxI 0 (wsub .i64 n 36)
theorem wsub2 (n : Int) : wsub .i64 (wsub .i64 n 2) 34 = wsub .i64 n 36 := by
  show IntKind.i64.wrap (IntKind.i64.wrap (n - 2) - 34) = IntKind.i64.wrap (n - 36)
  simp [IntKind.wrap, IntKind.bits, IntKind.signed]
  split <;> split <;> split <;> omega
def cHom (ap : AP) : Ctr
  | [.v (.int .i64 n)] => .ok ⟨.int .i64 (ap _ _ homI n), [], []⟩
  | _ => .fail 370
set_option maxRecDepth 20000 in
set_option maxHeartbeats 1000000 in
theorem vc58 (args : List Arg) (out : Out) (h : (cHom apf args).to out) (hok : okAs args) :
    args.length = ic58.nargs ∧ ic58.nargs ≤ ic58.ntmps ∧ ∃ A, run apf [] A ic58.body (fnQ apf args out ic58.res) (st0 G1 true args) := by
  unfold cHom at h
  split at h
  · rename_i n
    cases h
    refine ⟨rfl, by decide, [], ?_⟩
    show run apf _ _ _ _ (st0 [(1, .ints .u32 64 kk)] _ _)
    generalize hK : kk = K
    generalize hap : apf = ap
    cbv
    repeat' first
      | exact True.intro
      | (intro hh; with_reducible exact False.elim (tf_no (Eq.trans (Eq.symm (show _ = true by assumption)) hh)))
      | (intro hh; with_reducible exact False.elim (tf_no (Eq.trans (Eq.symm hh) (show _ = false by assumption))))
      | (intro _; cbv)
      | (refine And.intro ?_ ?_)
    all_goals subst hap
    all_goals simp only [apf, arF] at *
    all_goals first
      | rfl
      | (rw [eqI', homI, wsub2])
  · exact h.elim
theorem s58 : Sound Tryd.prog G1 58 (pu 58) (fun args => cHom apf (args.map litA)) := (fn_sound rfl Tryd.call58 ok58 co58 env_nil vc58).lits
set_option maxRecDepth 20000 in
set_option maxHeartbeats 1000000 in
theorem vc59 (args : List Arg) (out : Out) (h : (cHom apf args).to out) (hok : okAs args) :
    args.length = ic59.nargs ∧ ic59.nargs ≤ ic59.ntmps ∧ ∃ A, run apf [] A ic59.body (fnQ apf args out ic59.res) (st0 G1 true args) := by
  unfold cHom at h
  split at h
  · rename_i n
    cases h
    refine ⟨rfl, by decide, [], ?_⟩
    show run apf _ _ _ _ (st0 [(1, .ints .u32 64 kk)] _ _)
    generalize hK : kk = K
    generalize hap : apf = ap
    cbv
    repeat' first
      | exact True.intro
      | (intro hh; with_reducible exact False.elim (tf_no (Eq.trans (Eq.symm (show _ = true by assumption)) hh)))
      | (intro hh; with_reducible exact False.elim (tf_no (Eq.trans (Eq.symm hh) (show _ = false by assumption))))
      | (intro _; cbv)
      | (refine And.intro ?_ ?_)
    all_goals subst hap
    all_goals simp only [apf, arF] at *
    all_goals first
      | rfl
      | (rw [eqI', homI, wsub2])
  · exact h.elim
theorem s59 : Sound Tryd.prog G1 59 (pu 59) (fun args => cHom apf (args.map litA)) := (fn_sound rfl Tryd.call59 ok59 co59 env_nil vc59).lits
def smlI (v : Int) : Int := wcv .i64 (minI v 1099511627776)
def cSml (ap : AP) : Ctr
  | [.v (.int .u64 v)] => .ok ⟨.int .i64 (ap _ _ smlI v), [], []⟩
  | _ => .fail 371
set_option maxRecDepth 20000 in
set_option maxHeartbeats 1000000 in
theorem vc126 (args : List Arg) (out : Out) (h : (cSml apf args).to out) (hok : okAs args) :
    args.length = ic126.nargs ∧ ic126.nargs ≤ ic126.ntmps ∧ ∃ A, run apf [] A ic126.body (fnQ apf args out ic126.res) (st0 G1 true args) := by
  unfold cSml at h
  split at h
  · rename_i v
    cases h
    refine ⟨rfl, by decide, [], ?_⟩
    show run apf _ _ _ _ (st0 [(1, .ints .u32 64 kk)] _ _)
    generalize hK : kk = K
    generalize hap : apf = ap
    cbv
    repeat' first
      | exact True.intro
      | (intro hh; with_reducible exact False.elim (tf_no (Eq.trans (Eq.symm (show _ = true by assumption)) hh)))
      | (intro hh; with_reducible exact False.elim (tf_no (Eq.trans (Eq.symm hh) (show _ = false by assumption))))
      | (intro _; cbv)
      | (refine And.intro ?_ ?_)
    all_goals subst hap
    all_goals simp only [apf] at *
    all_goals first
      | rfl
      | trace_state
  · exact h.elim
theorem s126 : Sound Tryd.prog G1 126 (pu 126) (fun args => cSml apf (args.map litA)) := (fn_sound rfl Tryd.call126 ok126 co126 env_nil vc126).lits
def keyB (k : Int) : Bool := decide (1 ≤ k ∧ k ≤ 255)
def cKey (ap : AP) : Ctr
  | [.v (.int .i64 k)] => .ok ⟨.bool (ap _ _ keyB k), [], []⟩
  | _ => .fail 372
set_option maxRecDepth 20000 in
set_option maxHeartbeats 1000000 in
theorem vc124 (args : List Arg) (out : Out) (h : (cKey apf args).to out) (hok : okAs args) :
    args.length = ic124.nargs ∧ ic124.nargs ≤ ic124.ntmps ∧ ∃ A, run apf [] A ic124.body (fnQ apf args out ic124.res) (st0 G1 true args) := by
  unfold cKey at h
  split at h
  · rename_i k
    cases h
    refine ⟨rfl, by decide, [], ?_⟩
    show run apf _ _ _ _ (st0 [(1, .ints .u32 64 kk)] _ _)
    generalize hK : kk = K
    generalize hap : apf = ap
    cbv
    repeat' first
      | exact True.intro
      | (intro hh; with_reducible exact False.elim (tf_no (Eq.trans (Eq.symm (show _ = true by assumption)) hh)))
      | (intro hh; with_reducible exact False.elim (tf_no (Eq.trans (Eq.symm hh) (show _ = false by assumption))))
      | (intro _; cbv)
      | (refine And.intro ?_ ?_)
    all_goals subst hap
    all_goals simp only [apf, cmF, ge_t, ge_f, keyB, eqB'] at *
    all_goals first
      | (rw [Bool.eq_iff_iff, decide_eq_true_iff, le_t]; omega)
      | (rw [decide_eq_false_iff_not]; omega)
      | trace_state
  · exact h.elim
theorem s124 : Sound Tryd.prog G1 124 (pu 124) (fun args => cKey apf (args.map litA)) := (fn_sound rfl Tryd.call124 ok124 co124 env_nil vc124).lits
end Go.Cx.Rb

/- The superblock's slots. -/
namespace Go.Cx.Rb
open Go Go.Cx Go.Proofs

def unslot : V → SlotP
  | .cat _ _ (.bool u) (.cat _ _ (.int _ k) (.cat _ _ (.int _ r) (.cat _ _ (.ints _ _ s) (.cat _ _ (.ints _ _ w) (.ints _ _ c))))) => ⟨u, k, r, s, w, c⟩
  | _ => slot0
def unslots (f : Nat → V) (j : Nat) : SlotP := unslot (f j)
def isSl (f : Nat → V) : Prop := ∃ x : Nat → SlotP, f = fun j => slotA apf (x j)
theorem unslot_slot (p : SlotP) : unslot (slotA apf p) = p := by cases p; rfl
theorem unslots_eq (x : Nat → SlotP) : apf _ _ unslots (fun j => slotA apf (x j)) = x := funext fun j => unslot_slot (x j)
theorem unslots_s (x : Nat → SlotP) : unslots (fun j => V.cat 1 74 (.bool (x j).u) (.cat 1 73 (.int .i64 (x j).k) (.cat 1 72 (.int .i64 (x j).r) (.cat 16 56 (.ints .u8 16 (x j).s) (.cat 32 24 (.ints .u8 32 (x j).w) (.ints .u8 24 (x j).c)))))) = x := rfl
theorem isSl_s (x : Nat → SlotP) : isSl (fun j => V.cat 1 74 (.bool (x j).u) (.cat 1 73 (.int .i64 (x j).k) (.cat 1 72 (.int .i64 (x j).r) (.cat 16 56 (.ints .u8 16 (x j).s) (.cat 32 24 (.ints .u8 32 (x j).w) (.ints .u8 24 (x j).c)))))) := ⟨x, rfl⟩
theorem unslots_n (x : Nat → SlotP) : unslots (fun j => nV (slotA apf (x j))) = x := rfl
theorem unslots_a (x : Nat → SlotP) : unslots (fun j => slotA apf (x j)) = x := rfl
def okSl (k o : Int) (p : SlotP) : Bool := decide (encE p = 0) && (!p.u || decide (p.k = k) || (decide (o ≠ 0) && decide (p.k = o)))
def ownSl (k : Int) (p : SlotP) : Bool := p.u && decide (p.k = k)
def ownU (x : Nat → SlotP) (k : Int) (i : Nat) : Bool := (List.range i).any fun j => ownSl k (x j)
def sltB (x : Nat → SlotP) (k o : Int) : Bool := ((List.range 4).all fun j => okSl k o (x j)) && ownU x k 4
def cSlt (ap : AP) : Ctr
  | [.v (.cat 1 353 (.int .i64 _) (.cat 1 352 (.int .i64 k) (.cat 1 351 (.int .i64 o) (.cat 1 350 (.int .u64 _) (.cat 1 349 (.int .i64 _) (.cat 1 348 (.int .i64 _) (.cat 32 316 (.ints .u8 32 _) (.cat 16 300 (.ints .u8 16 _) (.rows 75 4 f)))))))))] =>
      .chk (ap _ _ isSl f) <| .ok ⟨.bool (ap _ _ (ap _ _ (ap _ _ sltB (ap _ _ unslots f)) k) o), [], []⟩
  | _ => .fail 373
def supV (ph k o q b c : Int) (root salt : List Int) (f : Nat → V) : V :=
  .cat 1 353 (.int .i64 ph) (.cat 1 352 (.int .i64 k) (.cat 1 351 (.int .i64 o) (.cat 1 350 (.int .u64 q) (.cat 1 349 (.int .i64 b) (.cat 1 348 (.int .i64 c) (.cat 32 316 (.ints .u8 32 root) (.cat 16 300 (.ints .u8 16 salt) (.rows 75 4 f))))))))
def invS (x : Nat → SlotP) (k o : Int) (i : Nat) : Prop := i ≤ 4 ∧ ∀ j, j < i → okSl k o (x j) = true
theorem invS_zero {x : Nat → SlotP} {k o : Int} : invS x k o 0 := ⟨Nat.zero_le _, fun _j hj => absurd hj (Nat.not_lt_zero _)⟩
theorem invS_next {x : Nat → SlotP} {k o : Int} {i : Nat} (h : invS x k o i) (hi : i < 4) (ho : okSl k o (x i) = true) : invS x k o (i + 1) :=
  ⟨hi, fun j hj => by
    rcases Nat.lt_succ_iff_lt_or_eq.1 hj with h1 | rfl
    · exact h.2 j h1
    · exact ho⟩
theorem ownU_next {x : Nat → SlotP} {k : Int} {i : Nat} : ownU x k (i + 1) = (ownU x k i || ownSl k (x i)) := by simp [ownU, List.range_succ]
theorem slt_no {x : Nat → SlotP} {k o : Int} {i : Nat} (hi : i < 4) (h : okSl k o (x i) = false) : sltB x k o = false := by
  have : ((List.range 4).all fun j => okSl k o (x j)) = false := List.all_eq_false.2 ⟨i, List.mem_range.2 hi, by simp [h]⟩
  rw [sltB, this, Bool.false_and]
theorem slt_yes {x : Nat → SlotP} {k o : Int} (h : invS x k o 4) : sltB x k o = ownU x k 4 := by
  have : ((List.range 4).all fun j => okSl k o (x j)) = true := List.all_eq_true.2 fun j hj => h.2 j (List.mem_range.1 hj)
  rw [sltB, this, Bool.true_and]
theorem okSl_mk {k o : Int} {p : SlotP} (h : encE p = 0) (h2 : p.u = false ∨ p.k = k ∨ (o ≠ 0 ∧ p.k = o)) : okSl k o p = true := by
  rcases h2 with h2 | h2 | ⟨h2, h3⟩
  · simp [okSl, h, h2]
  · simp [okSl, h, h2]
  · simp [okSl, h, h2, h3]
def aSlt (ap : AP) (x : Nat → SlotP) (k o : Int) (S : V) : List (Nat × Ann) := [
  (0, .inv Nat (fun i => ⟨[(1, .ptr 1 []), (3, .bool (ap _ _ (ap _ _ (ap _ _ ownU x) k) i)), (9, .rows 75 4 fun j => slotA ap (x j)), (10, .int .i64 (ap _ _ lenI i))], [(1, ⟨.own, S⟩)], []⟩)
    (fun i => invS x k o i) (fun i => 4 - i))]
set_option maxRecDepth 20000 in
set_option maxHeartbeats 2000000 in
theorem vc125 (args : List Arg) (out : Out) (h : (cSlt apf args).to out) (hok : okAs args) :
    args.length = ic125.nargs ∧ ic125.nargs ≤ ic125.ntmps ∧ ∃ A, run apf [(40, (fun args => cEnc apf (args.map litA)))] A ic125.body (fnQ apf args out ic125.res) (st0 G1 true args) := by
  unfold cSlt at h
  split at h
  · rename_i ph k o q b c root salt f
    obtain ⟨⟨x, rfl⟩, h⟩ := h
    cases h
    rw [unslots_eq]
    clear hok
    refine ⟨rfl, by decide, aSlt apf x k o (supV ph k o q b c root salt fun j => slotA apf (x j)), ?_⟩
    show run apf _ _ _ _ (st0 [(1, .ints .u32 64 kk)] _ _)
    generalize hK : kk = K
    generalize hap : apf = ap
    cbv
    repeat' first
      | exact True.intro
      | (intro (hh : _ = true); first | with_reducible exact False.elim (tf_no (Eq.trans (Eq.symm (show _ = true by assumption)) hh)) | cbv)
      | (intro (hh : _ = false); first | with_reducible exact False.elim (tf_no (Eq.trans (Eq.symm hh) (show _ = false by assumption))) | cbv)
      | with_reducible refine And.intro ?_ ?_
      | (refine ⟨0, invS_zero, ?_⟩; cbv)
    all_goals first
      | (intro (i : Nat) hi _ _
         have hi : invS x k o i := hi
         have hi4 : i ≤ 4 := hi.1
         cbv
         repeat' first
           | exact True.intro
           | (intro (hh : _ = true); first | with_reducible exact False.elim (tf_no (Eq.trans (Eq.symm (show _ = true by assumption)) hh)) | cbv)
           | (intro (hh : _ = false); first | with_reducible exact False.elim (tf_no (Eq.trans (Eq.symm hh) (show _ = false by assumption))) | cbv)
           | with_reducible refine And.intro ?_ ?_
           | (refine ⟨i + 1, ?_, (?_ : _ < _), ?_⟩; rotate_left 2; try cbv)
           | (refine ⟨0, invS_zero, ?_⟩; cbv))
      | skip
    all_goals subst hap
    all_goals try simp only [apf, cmF, lt_t, lt_f, eq_t, eq_f, ne_t, ne_f, eqN, eqI', eqL', eqB', ltN, natI, lenI] at *
    all_goals first
      | exact rfl
      | exact fun _ _ => rfl
      | omega
      | exact (inc_i64 (by omega)).symm
      | (show 4 - (i + 1) < 4 - i; omega)
      | skip
    all_goals try simp only [Int.toNat_natCast] at *
    all_goals first
      | (refine slt_no (i := i) (by omega) ?_; simp_all [okSl]; done)
      | exact invS_next hi (by omega) (okSl_mk (by assumption) (.inl (by assumption)))
      | exact invS_next hi (by omega) (okSl_mk (by assumption) (.inr (.inl (by assumption))))
      | exact invS_next hi (by omega) (okSl_mk (by assumption) (.inr (.inr ⟨by assumption, by assumption⟩)))
      | (rw [ownU_next]; simp_all [ownSl, eqI]; done)
      | (have e4 : i = 4 := by omega
         subst e4
         exact slt_yes hi)
      | skip
  · exact h.elim
set_option maxHeartbeats 2000000 in
theorem s125 : Sound Tryd.prog G1 125 (pu 125) (fun args => cSlt apf (args.map litA)) := (fn_sound rfl Tryd.call125 ok125 co125 (env_cons s40f env_nil) vc125).lits
end Go.Cx.Rb

/- A superblock is right or not: the program's answer and the document's are one. -/
namespace Go.Cx.Rb
open Go Go.Cx Go.Proofs

structure SupP where
  ph : Int
  k : Int
  o : Int
  q : Int
  b : Int
  c : Int
  root : List Int
  salt : List Int
  x : Nat → SlotP
def rgtP (p : SupP) : Prop := 0 ≤ p.ph ∧ p.ph ≤ 3 ∧ 1 ≤ p.k ∧ p.k ≤ 255 ∧ 1 ≤ p.q ∧ p.q ≤ 281474976710655 ∧ 72 ≤ p.b ∧ p.b ≤ 256 ∧ 0 ≤ p.c ∧ p.c ≤ homI p.b ∧
  (p.ph = 1 → 1 ≤ p.o ∧ p.o ≤ 255 ∧ p.o ≠ p.k) ∧ (p.ph ≠ 1 → p.o = 0 ∧ p.c = 0)
instance (p : SupP) : Decidable (rgtP p) := by unfold rgtP; infer_instance
def rgtB (p : SupP) : Bool := decide (rgtP p) && sltB p.x p.k p.o
def rgtE (p : SupP) : Int := if rgtB p then 0 else 3
theorem homI_0 (b : Int) : 0 ≤ homI b := by
  show 0 ≤ maxI 0 _
  unfold maxI
  split <;> omega
theorem rgtB_no {p : SupP} (h : ¬ rgtP p) : rgtB p = false := by simp [rgtB, h]
theorem rgtE_no {p : SupP} (h : ¬ rgtP p) : rgtE p = 3 := by simp [rgtE, rgtB_no h]
theorem rgtE_slt {p : SupP} (h : sltB p.x p.k p.o = false) : rgtE p = 3 := by simp [rgtE, rgtB, h]
theorem rgtE_yes {p : SupP} (h : rgtP p) (h2 : sltB p.x p.k p.o = true) : rgtE p = 0 := by simp [rgtE, rgtB, h, h2]
def cRgt (ap : AP) : Ctr
  | [.v (.cat 1 353 (.int .i64 ph) (.cat 1 352 (.int .i64 k) (.cat 1 351 (.int .i64 o) (.cat 1 350 (.int .u64 q) (.cat 1 349 (.int .i64 b) (.cat 1 348 (.int .i64 c) (.cat 32 316 (.ints .u8 32 root) (.cat 16 300 (.ints .u8 16 salt) (.rows 75 4 f)))))))))] => .chk (ap _ _ isSl f) <| .ok ⟨.int .i64 (ap _ _ rgtE ⟨ph, k, o, q, b, c, root, salt, ap _ _ unslots f⟩), [], []⟩
  | _ => .fail 374
set_option maxRecDepth 20000 in
set_option maxHeartbeats 2000000 in
theorem vc56 (args : List Arg) (out : Out) (h : (cRgt apf args).to out) (hok : okAs args) :
    args.length = ic56.nargs ∧ ic56.nargs ≤ ic56.ntmps ∧ ∃ A, run apf [(124, (fun args => cKey apf (args.map litA))), (58, (fun args => cHom apf (args.map litA))), (125, (fun args => cSlt apf (args.map litA)))] A ic56.body (fnQ apf args out ic56.res) (st0 G1 true args) := by
  unfold cRgt at h
  split at h
  · rename_i ph k o q b c root salt f
    obtain ⟨⟨x, rfl⟩, h⟩ := h
    cases h
    rw [unslots_eq]
    clear hok
    refine ⟨rfl, by decide, [], ?_⟩
    show run apf _ _ _ _ (st0 [(1, .ints .u32 64 kk)] _ _)
    generalize hK : kk = K
    generalize hap : apf = ap
    cbv
    repeat' first
      | exact True.intro
      | (intro (hh : _ = true); first | with_reducible exact False.elim (tf_no (Eq.trans (Eq.symm (show _ = true by assumption)) hh)) | cbv)
      | (intro (hh : _ = false); first | with_reducible exact False.elim (tf_no (Eq.trans (Eq.symm hh) (show _ = false by assumption))) | cbv)
      | with_reducible refine And.intro ?_ ?_
      | (refine ⟨0, Nat.zero_le _, ?_⟩; cbv)
    all_goals subst hap
    all_goals try simp only [apf, cmF, le_t, le_f, ge_t, ge_f, eq_t, eq_f, ne_t, ne_f, notB_t, notB_f, eqI', unslots_n] at *
    all_goals try simp only [keyB, decide_eq_true_eq, decide_eq_false_iff_not] at *
    all_goals have hb0 := homI_0 b
    all_goals first
      | exact isSl_s x
      | omega
      | exact fun _ _ => rfl
      | (refine rgtE_no (fun hr => ?_)
         simp only [rgtP] at hr
         omega)
      | exact rgtE_slt (by assumption)
      | (refine rgtE_yes ?_ (by assumption)
         simp only [rgtP]
         omega)
      | skip
  · exact h.elim
set_option maxHeartbeats 2000000 in
theorem s56 : Sound Tryd.prog G1 56 (pu 56) (fun args => cRgt apf (args.map litA)) := (fn_sound rfl Tryd.call56 ok56 co56 (env_cons s124 (env_cons s58 (env_cons s125 env_nil))) vc56).lits
def cRgtR (ap : AP) : Ctr
  | [.v (.cat 1 353 (.int .i64 ph) (.cat 1 352 (.int .i64 k) (.cat 1 351 (.int .i64 o) (.cat 1 350 (.int .u64 q) (.cat 1 349 (.int .i64 b) (.cat 1 348 (.int .i64 c) (.cat 32 316 (.ints .u8 32 root) (.cat 16 300 (.ints .u8 16 salt) (.rows 75 4 f)))))))))] => .chk (ap _ _ isSl f) <| .ok ⟨.bool (ap _ _ rgtB ⟨ph, k, o, q, b, c, root, salt, ap _ _ unslots f⟩), [], []⟩
  | _ => .fail 375
def cntU (x : Nat → SlotP) (k : Int) : Nat → Int
  | 0 => 0
  | i + 1 => cntU x k i + (if ownSl k (x i) then 1 else 0)
theorem cntU_rng {x : Nat → SlotP} {k : Int} : ∀ i : Nat, 0 ≤ cntU x k i ∧ cntU x k i ≤ i
  | 0 => ⟨Int.le_refl _, Int.le_refl _⟩
  | i + 1 => by
    have h := cntU_rng (x := x) (k := k) i
    rw [cntU]
    split <;> omega
theorem cntU_own {x : Nat → SlotP} {k : Int} : ∀ i : Nat, decide (0 < cntU x k i) = ownU x k i
  | 0 => rfl
  | i + 1 => by
    have h := cntU_rng (x := x) (k := k) i
    rw [ownU_next, ← cntU_own i, cntU]
    cases e : ownSl k (x i) with
    | true =>
      rw [Bool.or_true, decide_eq_true_eq, if_pos rfl]
      omega
    | false =>
      rw [Bool.or_false, if_neg (by decide), Int.add_zero]
theorem cntU_inc {x : Nat → SlotP} {k : Int} {i : Nat} (hi : i ≤ 4) (h : ownSl k (x i) = true) : wadd .i64 (cntU x k i) 1 = cntU x k (i + 1) := by
  have h2 := cntU_rng (x := x) (k := k) i
  rw [wadd_i64 (by omega), cntU, h, if_pos rfl]
theorem cntU_stay {x : Nat → SlotP} {k : Int} {i : Nat} (h : ownSl k (x i) = false) : cntU x k i = cntU x k (i + 1) := by
  rw [cntU, h, if_neg (by decide), Int.add_zero]
theorem okSl_r {k o : Int} {p : SlotP} (h : rightS p = false) : okSl k o p = false := by simp [okSl, encE, h]
theorem okSl_n {k o : Int} {p : SlotP} (hu : p.u = true) (h1 : p.k ≠ k) (h2 : p.k ≠ o) : okSl k o p = false := by simp [okSl, hu, h1, h2]
theorem okSl_y {k o : Int} {p : SlotP} (h : rightS p = true) (h2 : p.u = true → p.k = k ∨ p.k = o) : okSl k o p = true := by
  cases hu : p.u with
  | false => simp [okSl, encE, h, hu]
  | true =>
    have h3 := ((right_t hu).1 h).1
    have h4 : o = 0 → p.k ≠ o := fun e => by omega
    rcases h2 hu with e | e
    · simp [okSl, encE, h, e]
    · have h5 : o ≠ 0 := fun e2 => h4 e2 e
      simp [okSl, encE, h, e, h5]
theorem rgtB_slt {p : SupP} (h : sltB p.x p.k p.o = false) : rgtB p = false := by simp [rgtB, h]
theorem rgtB_yes {p : SupP} (h : rgtP p) (h2 : invS p.x p.k p.o 4) : rgtB p = gtI (cntU p.x p.k 4) 0 := by
  rw [rgtB, slt_yes h2, decide_eq_true h, Bool.true_and, ← cntU_own]
  rfl
def aRgtR (ap : AP) (x : Nat → SlotP) (_ph k o : Int) (S : V) : List (Nat × Ann) := [
  (0, .inv Nat (fun i => ⟨[(1, .ptr 1 []), (4, .int .i64 (ap _ _ (ap _ _ (ap _ _ cntU x) k) i)), (5, .int .i64 (ap _ _ lenI i))], [(1, ⟨.own, S⟩)], []⟩)
    (fun i => invS x k o i) (fun i => 4 - i))]
set_option maxRecDepth 20000 in
set_option maxHeartbeats 2000000 in
theorem vc57 (args : List Arg) (out : Out) (h : (cRgtR apf args).to out) (hok : okAs args) :
    args.length = ic57.nargs ∧ ic57.nargs ≤ ic57.ntmps ∧ ∃ A, run apf [(59, (fun args => cHom apf (args.map litA))), (91, (fun args => cRightS apf (args.map litA)))] A ic57.body (fnQ apf args out ic57.res) (st0 G1 true args) := by
  unfold cRgtR at h
  split at h
  · rename_i ph k o q b c root salt f
    obtain ⟨⟨x, rfl⟩, h⟩ := h
    cases h
    rw [unslots_eq]
    clear hok
    refine ⟨rfl, by decide, aRgtR apf x ph k o (supV ph k o q b c root salt fun j => slotA apf (x j)), ?_⟩
    show run apf _ _ _ _ (st0 [(1, .ints .u32 64 kk)] _ _)
    generalize hK : kk = K
    generalize hap : apf = ap
    cbv
    repeat' first
      | exact True.intro
      | (intro (hh : _ = true); first | with_reducible exact False.elim (tf_no (Eq.trans (Eq.symm (show _ = true by assumption)) hh)) | cbv)
      | (intro (hh : _ = false); first | with_reducible exact False.elim (tf_no (Eq.trans (Eq.symm hh) (show _ = false by assumption))) | cbv)
      | with_reducible refine And.intro ?_ ?_
      | (refine ⟨0, invS_zero, ?_⟩; cbv)
    all_goals first
      | (intro (i : Nat) hi _ _
         have hi : invS x k o i := hi
         have hi4 : i ≤ 4 := hi.1
         cbv
         repeat' first
           | exact True.intro
           | (intro (hh : _ = true); first | with_reducible exact False.elim (tf_no (Eq.trans (Eq.symm (show _ = true by assumption)) hh)) | cbv)
           | (intro (hh : _ = false); first | with_reducible exact False.elim (tf_no (Eq.trans (Eq.symm hh) (show _ = false by assumption))) | cbv)
           | with_reducible refine And.intro ?_ ?_
           | (refine ⟨i + 1, ?_, (?_ : _ < _), ?_⟩; rotate_left 2; try cbv)
           | (refine ⟨0, invS_zero, ?_⟩; cbv))
      | skip
    all_goals subst hap
    all_goals try simp only [apf, cmF, lt_t, lt_f, gt_t, gt_f, eq_t, eq_f, ne_t, ne_f, notB_t, notB_f, eqN, eqI', eqL', eqB', ltN, natI, lenI] at *
    all_goals have hb0 := homI_0 b
    all_goals first
      | exact rfl
      | exact fun _ _ => rfl
      | omega
      | exact (inc_i64 (by omega)).symm
      | (show 4 - (i + 1) < 4 - i; omega)
      | (refine rgtB_no (fun hr => ?_)
         simp only [rgtP] at hr
         omega)
      | skip
    all_goals try simp only [Int.toNat_natCast] at *
    all_goals first
      | (refine rgtB_slt (slt_no (i := i) (by omega) (okSl_r (by assumption))); done)
      | (refine rgtB_slt (slt_no (i := i) (by omega) (okSl_n (by assumption) ?_ ?_)) <;> first | assumption | simp_all; done)
      | (refine invS_next hi (by omega) (okSl_y (by assumption) ?_); simp_all; done)
      | (refine (cntU_inc (by omega) ?_).symm; simp_all [ownSl]; done)
      | (refine (cntU_stay ?_).symm; simp_all [ownSl]; done)
      | (refine cntU_inc (by omega) ?_; simp_all [ownSl]; done)
      | (refine cntU_stay ?_; simp_all [ownSl]; done)
      | (have e4 : i = 4 := by omega
         subst e4
         refine rgtB_yes ?_ hi
         simp only [rgtP]
         omega)
      | skip
  · exact h.elim
set_option maxHeartbeats 2000000 in
theorem s57 : Sound Tryd.prog G1 57 (pu 57) (fun args => cRgtR apf (args.map litA)) := (fn_sound rfl Tryd.call57 ok57 co57 (env_cons s59 (env_cons s91k env_nil)) vc57).lits
end Go.Cx.Rb
