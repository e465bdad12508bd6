/-
  A right superblock's first 480 bytes: the program's and the document's are one list.
-/
import Derived.Test.YtojllgpnhaaagaaDoorCxbV
namespace Go.Cx.Rb
open Go Go.Cx Go.Proofs

def supL : List Int := [67, 76, 79, 73, 83, 84, 69, 82]
def numsP (p : SupP) : List Int := [p.q, wcv .u64 p.b, wcv .u64 p.c, 0, 0]
def hdA (p : SupP) (i : Nat) : List Int := supL ++ [1, wcv .u8 p.ph, wcv .u8 p.k, wcv .u8 p.o, 0, 0, 0, 0] ++ ((numsP p).take i).flatMap (beL 8)
def hdB (p : SupP) (i : Nat) : List Int := hdA p 5 ++ p.root ++ p.salt ++ zerosI 24 ++ (List.range i).flatMap fun j => encB (p.x j)
def hdP (p : SupP) : List Int := hdB p 4 ++ zerosI 32
def nA (i : Nat) : Nat := 16 + 8 * i
def nB (i : Nat) : Nat := 128 + 80 * i
def slR (x : Nat → SlotP) : Prop := ∀ j, j < 4 → rightS (x j) = true
def renI (i a b c : Nat) : List (Nat × Nat) := match i with | 0 => [(a, b)] | _ + 1 => [(a, c)]
theorem numsP_len (p : SupP) : (numsP p).length = 5 := rfl
theorem hdA_next {p : SupP} {i : Nat} (h : i < 5) : hdA p (i + 1) = hdA p i ++ beL 8 (nthI (numsP p) i) := by
  have e : (numsP p).take (i + 1) = (numsP p).take i ++ [nthI (numsP p) i] := by
    rw [List.take_add_one, List.getElem?_eq_getElem (show i < (numsP p).length from h)]
    simp [nthI, List.getD_eq_getElem?_getD, show i < (numsP p).length from h]
  simp [hdA, e, List.append_assoc]
theorem hdA_len {p : SupP} : ∀ {i : Nat}, i ≤ 5 → (hdA p i).length = nA i
  | 0, _ => rfl
  | i + 1, h => by
    rw [hdA_next (by omega), List.length_append, hdA_len (by omega), beL_len]
    simp only [nA]
    omega
theorem hdB_next {p : SupP} {i : Nat} : hdB p (i + 1) = hdB p i ++ encB (p.x i) := by
  simp [hdB, List.range_succ, List.append_assoc]
theorem hdB_len {p : SupP} (h1 : p.root.length = 32) (h2 : p.salt.length = 16) (h3 : ∀ j, j < 4 → (encB (p.x j)).length = 80) : ∀ {i : Nat}, i ≤ 4 → (hdB p i).length = nB i
  | 0, _ => by simp [hdB, hdA_len (p := p) (i := 5) (by omega), h1, h2, nA, nB, zerosI]
  | i + 1, h => by
    rw [hdB_next, List.length_append, hdB_len h1 h2 h3 (by omega), h3 i (by omega)]
    simp only [nB]
    omega
theorem hdP_len {p : SupP} (h1 : p.root.length = 32) (h2 : p.salt.length = 16) (h3 : ∀ j, j < 4 → (encB (p.x j)).length = 80) : (hdP p).length = 480 := by
  rw [hdP, List.length_append, hdB_len h1 h2 h3 (by omega)]
  simp [zerosI, nB]
theorem subL_id {l : List Int} {n : Nat} (h : l.length = n) : subL l 0 n = l := subL_all (Nat.le_of_eq h)
theorem wcv_u64_rng (x : Int) : 0 ≤ wcv .u64 x ∧ wcv .u64 x < 18446744073709551616 := by
  have h := inR_u64.1 (inR_wrap .u64 x)
  show 0 ≤ IntKind.u64.wrap x ∧ IntKind.u64.wrap x < _
  omega
theorem nums_fit {p : SupP} (hq : inR .u64 p.q) {i : Nat} (h : i < 5) : fitsB (nthI (numsP p) i) 8 := by
  have hq := inR_u64.1 hq
  have h1 := wcv_u64_rng p.b
  have h2 := wcv_u64_rng p.c
  show 0 ≤ _ ∧ _ < (18446744073709551616 : Int)
  rcases i with _ | _ | _ | _ | _ | i
  · show 0 ≤ p.q ∧ p.q < _
    omega
  · exact h1
  · exact h2
  · exact show (0 : Int) ≤ 0 ∧ (0 : Int) < 18446744073709551616 by decide
  · exact show (0 : Int) ≤ 0 ∧ (0 : Int) < 18446744073709551616 by decide
  · omega
def cHd (ap : AP) : Ctr
  | [.v (.cat 1 353 (.int .i64 ph) (.cat 1 352 (.int .i64 k) (.cat 1 351 (.int .i64 o) (.cat 1 350 (.int .u64 q) (.cat 1 349 (.int .i64 b) (.cat 1 348 (.int .i64 c) (.cat 32 316 (.ints .u8 32 root) (.cat 16 300 (.ints .u8 16 salt) (.rows 75 4 f)))))))))] => .chk (ap _ _ isSl f) <| .chk (ap _ _ slR (ap _ _ unslots f)) <|
      .ok ⟨.sl 0 [] 0 480 1 none, [], [.ints .u8 480 (ap _ _ hdP ⟨ph, k, o, q, b, c, root, salt, ap _ _ unslots f⟩)]⟩
  | _ => .fail 376
def aHd (ap : AP) (ph k o q b c : Int) (root salt : List Int) (x : Nat → SlotP) : List (Nat × Ann) := [
  (0, .inv Nat (fun i => ⟨[(1, .ptr 1 []), (3, .sl 7000 [] 0 (ap _ _ nA i) 1 none), (33, .sl 33 [] 0 5 1 none), (34, .int .i64 (ap _ _ lenI 5)), (35, .int .i64 (ap _ _ lenI i))],
    [(1, ⟨.own, supV ph k o q b c root salt fun j => slotA ap (x j)⟩), (7000, ⟨.own, .ints .u8 (ap _ _ nA i) (ap _ _ (ap _ _ hdA ⟨ph, k, o, q, b, c, root, salt, x⟩) i)⟩), (33, ⟨.own, .ints .u64 5 (ap _ _ numsP ⟨ph, k, o, q, b, c, root, salt, x⟩)⟩)], renI i 7000 24 46⟩)
    (fun i => i ≤ 5) (fun i => 5 - i)),
  (1, .inv Nat (fun i => ⟨[(3, .sl 7001 [] 0 (ap _ _ nB i) 1 none), (58, .rows 75 4 fun j => slotA ap (x j)), (59, .int .i64 (ap _ _ lenI i))],
    [(7001, ⟨.own, .ints .u8 (ap _ _ nB i) (ap _ _ (ap _ _ hdB ⟨ph, k, o, q, b, c, root, salt, x⟩) i)⟩)], renI i 7001 56 69⟩)
    (fun i => i ≤ 4) (fun i => 4 - i))]
set_option maxRecDepth 20000 in
set_option maxHeartbeats 2000000 in
theorem vc118 (args : List Arg) (out : Out) (h : (cHd apf args).to out) (hok : okAs args) :
    args.length = ic118.nargs ∧ ic118.nargs ≤ ic118.ntmps ∧ ∃ A, run apf [(107, cNum apf), (40, (fun args => cEnc apf (args.map litA)))] A ic118.body (fnQ apf args out ic118.res) (st0 G1 true args) := by
  unfold cHd at h
  split at h
  · rename_i ph k o q b c root salt f
    obtain ⟨⟨x, rfl⟩, hr, h⟩ := h
    cases h
    rw [unslots_eq] at *
    have hr : slR x := hr
    obtain ⟨⟨_, _, _, hq, _, _, hroot, hsalt, hrows⟩, _⟩ := hok
    have h80 : ∀ j, j < 4 → (encB (x j)).length = 80 := fun j hj => by
      obtain ⟨_, _, _, h1, h2, h3⟩ := hrows j hj
      exact encB_len (hr j hj) h1.1 h2.1 h3.1
    have hroot : root.length = 32 := hroot.1
    have hsalt : salt.length = 16 := hsalt.1
    clear hrows
    refine ⟨rfl, by decide, aHd apf ph k o q b c root salt x, ?_⟩
    show run apf _ _ _ _ (st0 [(1, .ints .u32 64 kk)] _ _)
    generalize hK : kk = K
    generalize hap : apf = ap
    cbv
    repeat' first
      | exact True.intro
      | (intro (hh : _ = true); first | with_reducible exact False.elim (tf_no (Eq.trans (Eq.symm (show _ = true by assumption)) hh)) | cbv)
      | (intro (hh : _ = false); first | with_reducible exact False.elim (tf_no (Eq.trans (Eq.symm hh) (show _ = false by assumption))) | cbv)
      | with_reducible refine And.intro ?_ ?_
      | (refine ⟨0, Nat.zero_le _, ?_⟩; cbv)
    all_goals first
      | (intro (i : Nat) hi _ _
         first | have hi : i ≤ 5 := hi | have hi : i ≤ 4 := hi
         cbv
         repeat' first
           | exact True.intro
           | (intro (hh : _ = true); first | with_reducible exact False.elim (tf_no (Eq.trans (Eq.symm (show _ = true by assumption)) hh)) | cbv)
           | (intro (hh : _ = false); first | with_reducible exact False.elim (tf_no (Eq.trans (Eq.symm hh) (show _ = false by assumption))) | cbv)
           | with_reducible refine And.intro ?_ ?_
           | (refine ⟨i + 1, ?_, (?_ : _ < _), ?_⟩; rotate_left 2; try cbv)
           | (refine ⟨0, Nat.zero_le _, ?_⟩; cbv))
      | skip
    all_goals first
      | (intro (j : Nat) hi _ _
         have hj : j ≤ 4 := hi
         cbv
         repeat' first
           | exact True.intro
           | (intro (hh : _ = true); first | with_reducible exact False.elim (tf_no (Eq.trans (Eq.symm (show _ = true by assumption)) hh)) | cbv)
           | (intro (hh : _ = false); first | with_reducible exact False.elim (tf_no (Eq.trans (Eq.symm hh) (show _ = false by assumption))) | cbv)
           | with_reducible refine And.intro ?_ ?_
           | (refine ⟨j + 1, ?_, (?_ : _ < _), ?_⟩; rotate_left 2; try cbv)
           | (refine ⟨0, Nat.zero_le _, ?_⟩; cbv))
      | skip
    all_goals subst hap
    all_goals try simp only [apf, cmF, lt_t, lt_f, eqN, eqI', eqL', ltN, natI, lenI] at *
    all_goals first
      | exact rfl
      | exact fun _ _ => rfl
      | omega
      | (simp only [leN, addN, V.cnt, llen, nA, nB, appN]; omega)
      | exact (inc_i64 (by omega)).symm
      | (show 5 - (i + 1) < 5 - i; omega)
      | (show 4 - (j + 1) < 4 - j; omega)
      | (show 4 - (i + 1) < 4 - i; omega)
      | exact isSl_s x
      | exact hr
      | skip
    all_goals have hlA : ∀ i, i ≤ 5 → (hdA (⟨ph, k, o, q, b, c, root, salt, x⟩ : SupP) i).length = nA i := fun i h => hdA_len h
    all_goals have hlB : ∀ i, i ≤ 4 → (hdB (⟨ph, k, o, q, b, c, root, salt, x⟩ : SupP) i).length = nB i := fun i h => hdB_len hroot hsalt h80 h
    all_goals first
      | (show fitsB (nthI (numsP (⟨ph, k, o, q, b, c, root, salt, x⟩ : SupP)) (addN 0 ((i : Nat) : Int).toNat)) 8
         rw [show addN 0 ((i : Nat) : Int).toNat = i from by simp [addN]]
         exact nums_fit (p := (⟨ph, k, o, q, b, c, root, salt, x⟩ : SupP)) hq (by omega))
      | (show hdA (⟨ph, k, o, q, b, c, root, salt, x⟩ : SupP) (i + 1) = catL (subL (hdA (⟨ph, k, o, q, b, c, root, salt, x⟩ : SupP) i) 0 (nA i)) (subL (beL 8 (nthI (numsP (⟨ph, k, o, q, b, c, root, salt, x⟩ : SupP)) (addN 0 ((i : Nat) : Int).toNat))) 0 8)
         rw [show addN 0 ((i : Nat) : Int).toNat = i from by simp [addN], hdA_next (by omega), subL_id (hlA i (by omega)), subL_id (beL_len 8 _)]
         rfl)
      | (have e5 : i = 5 := by omega
         subst e5
         show hdB (⟨ph, k, o, q, b, c, root, salt, x⟩ : SupP) 0 = catL (subL (catL (subL (catL (subL (hdA (⟨ph, k, o, q, b, c, root, salt, x⟩ : SupP) 5) 0 (nA 5)) (subL root 0 32)) 0 (addN (nA 5) 32)) (subL salt 0 16)) 0 (addN (addN (nA 5) 32) 16)) (zerosI 24)
         have k1 := hlA 5 (by omega)
         rw [subL_id k1, subL_id hroot, subL_id (n := addN (nA 5) 32) (by simp [catL, k1, hroot, addN]), subL_id hsalt, subL_id (n := addN (addN (nA 5) 32) 16) (by simp [catL, k1, hroot, hsalt, addN])]
         simp [hdB, catL, List.append_assoc])
      | (have h8 : llen (encB (x j)) = 80 := h80 j (by omega)
         show appN 1 (addN (nB j) (llen (encB (x j))))
         rw [h8]
         simp only [appN, addN, nB]
         omega)
      | (have h8 : llen (encB (x j)) = 80 := h80 j (by omega)
         show nB (j + 1) = addN (nB j) (llen (encB (x j)))
         rw [h8]
         simp only [addN, nB]
         omega)
      | (show hdB (⟨ph, k, o, q, b, c, root, salt, x⟩ : SupP) (j + 1) = catL (subL (hdB (⟨ph, k, o, q, b, c, root, salt, x⟩ : SupP) j) 0 (nB j)) (encB (x j))
         rw [hdB_next, subL_id (hlB j (by omega))]
         rfl)
      | (have e4 : j = 4 := by omega
         subst e4
         show hdP (⟨ph, k, o, q, b, c, root, salt, x⟩ : SupP) = catL (subL (hdB (⟨ph, k, o, q, b, c, root, salt, x⟩ : SupP) 4) 0 (nB 4)) (zerosI 32)
         rw [subL_id (hlB 4 (by omega))]
         rfl)
      | skip
  · exact h.elim
set_option maxHeartbeats 2000000 in
theorem s118 : Sound Tryd.prog G1 118 (pu 118) (cHd apf) := fn_sound rfl Tryd.call118 ok118 co118 (env_cons s107 (env_cons s40f env_nil)) vc118
def aHdR (ap : AP) (ph k o q b c : Int) (root salt : List Int) (x : Nat → SlotP) : List (Nat × Ann) := [
  (0, .inv Nat (fun i => ⟨[(1, .ptr 1 []), (3, .sl 7001 [] 0 (ap _ _ nB i) 1 none), (4, .int .i64 (ap _ _ lenI i))],
    [(1, ⟨.own, supV ph k o q b c root salt fun j => slotA ap (x j)⟩), (7001, ⟨.own, .ints .u8 (ap _ _ nB i) (ap _ _ (ap _ _ hdB ⟨ph, k, o, q, b, c, root, salt, x⟩) i)⟩)], renI i 7001 49 64⟩)
    (fun i => i ≤ 4) (fun i => 4 - i))]
set_option maxRecDepth 20000 in
set_option maxHeartbeats 2000000 in
theorem vc121 (args : List Arg) (out : Out) (h : (cHd apf args).to out) (hok : okAs args) :
    args.length = ic121.nargs ∧ ic121.nargs ≤ ic121.ntmps ∧ ∃ A, run apf [(113, cPut apf), (41, (fun args => cEnc apf (args.map litA)))] A ic121.body (fnQ apf args out ic121.res) (st0 G1 true args) := by
  unfold cHd at h
  split at h
  · rename_i ph k o q b c root salt f
    obtain ⟨⟨x, rfl⟩, hr, h⟩ := h
    cases h
    rw [unslots_eq] at *
    have hr : slR x := hr
    obtain ⟨⟨_, _, _, hq, _, _, hroot, hsalt, hrows⟩, _⟩ := hok
    have h80 : ∀ j, j < 4 → (encB (x j)).length = 80 := fun j hj => by
      obtain ⟨_, _, _, h1, h2, h3⟩ := hrows j hj
      exact encB_len (hr j hj) h1.1 h2.1 h3.1
    have hroot : root.length = 32 := hroot.1
    have hsalt : salt.length = 16 := hsalt.1
    clear hrows
    refine ⟨rfl, by decide, aHdR apf ph k o q b c root salt x, ?_⟩
    show run apf _ _ _ _ (st0 [(1, .ints .u32 64 kk)] _ _)
    generalize hK : kk = K
    generalize hap : apf = ap
    cbv
    repeat' first
      | exact True.intro
      | (intro (hh : _ = true); first | with_reducible exact False.elim (tf_no (Eq.trans (Eq.symm (show _ = true by assumption)) hh)) | cbv)
      | (intro (hh : _ = false); first | with_reducible exact False.elim (tf_no (Eq.trans (Eq.symm hh) (show _ = false by assumption))) | cbv)
      | with_reducible refine And.intro ?_ ?_
      | (refine ⟨0, Nat.zero_le _, ?_⟩; cbv)
    all_goals first
      | (intro (i : Nat) hi _ _
         have hi : i ≤ 4 := hi
         cbv
         repeat' first
           | exact True.intro
           | (intro (hh : _ = true); first | with_reducible exact False.elim (tf_no (Eq.trans (Eq.symm (show _ = true by assumption)) hh)) | cbv)
           | (intro (hh : _ = false); first | with_reducible exact False.elim (tf_no (Eq.trans (Eq.symm hh) (show _ = false by assumption))) | cbv)
           | with_reducible refine And.intro ?_ ?_
           | (refine ⟨i + 1, ?_, (?_ : _ < _), ?_⟩; rotate_left 2; try cbv)
           | (refine ⟨0, Nat.zero_le _, ?_⟩; cbv))
      | skip
    all_goals subst hap
    all_goals try simp only [apf, cmF, lt_t, lt_f, eqN, eqI', eqL', ltN, natI, lenI] at *
    all_goals first
      | exact rfl
      | exact fun _ _ => rfl
      | omega
      | (simp only [leN, addN, V.cnt, llen, nB, appN]; omega)
      | exact (inc_i64 (by omega)).symm
      | (show 5 - (i + 1) < 5 - i; omega)
      | (show 4 - (j + 1) < 4 - j; omega)
      | (show 4 - (i + 1) < 4 - i; omega)
      | exact isSl_s x
      | exact hr
      | skip
    all_goals have hlA : ∀ i, i ≤ 5 → (hdA (⟨ph, k, o, q, b, c, root, salt, x⟩ : SupP) i).length = nA i := fun i h => hdA_len h
    all_goals have hlB : ∀ i, i ≤ 4 → (hdB (⟨ph, k, o, q, b, c, root, salt, x⟩ : SupP) i).length = nB i := fun i h => hdB_len hroot hsalt h80 h
    all_goals first
      | exact nums_fit (p := (⟨ph, k, o, q, b, c, root, salt, x⟩ : SupP)) hq (i := 0) (by omega)
      | exact nums_fit (p := (⟨ph, k, o, q, b, c, root, salt, x⟩ : SupP)) hq (i := 1) (by omega)
      | exact nums_fit (p := (⟨ph, k, o, q, b, c, root, salt, x⟩ : SupP)) hq (i := 2) (by omega)
      | (have z8 : beL 8 0 = zerosI 8 := by decide
         have z16 : zerosI 16 = zerosI 8 ++ zerosI 8 := by decide
         have eB : hdB (⟨ph, k, o, q, b, c, root, salt, x⟩ : SupP) 0 = _ := rfl
         show hdB (⟨ph, k, o, q, b, c, root, salt, x⟩ : SupP) 0 = catL _ (zerosI 24)
         simp only [show Int.toNat 8 = 8 from rfl, z16]
         repeat rw [subL_id]
         · simp [hdB, hdA, numsP, supL, catL, List.append_assoc, z8]
         all_goals simp [catL, subL, addN, beL_len, zerosI, hroot, hsalt])
      | (have h8 : llen (encB (x i)) = 80 := h80 i (by omega)
         show appN 1 (addN (nB i) (llen (encB (x i))))
         rw [h8]
         simp only [appN, addN, nB]
         omega)
      | (have h8 : llen (encB (x i)) = 80 := h80 i (by omega)
         show nB (i + 1) = addN (nB i) (llen (encB (x i)))
         rw [h8]
         simp only [addN, nB]
         omega)
      | (show hdB (⟨ph, k, o, q, b, c, root, salt, x⟩ : SupP) (i + 1) = catL (subL (hdB (⟨ph, k, o, q, b, c, root, salt, x⟩ : SupP) i) 0 (nB i)) (encB (x i))
         rw [hdB_next, subL_id (hlB i (by omega))]
         rfl)
      | (have e4 : i = 4 := by omega
         subst e4
         show hdP (⟨ph, k, o, q, b, c, root, salt, x⟩ : SupP) = catL (subL (hdB (⟨ph, k, o, q, b, c, root, salt, x⟩ : SupP) 4) 0 (nB 4)) (zerosI 32)
         rw [subL_id (hlB 4 (by omega))]
         rfl)
      | skip
  · exact h.elim
set_option maxHeartbeats 2000000 in
theorem s121 : Sound Tryd.prog G1 121 (pu 121) (cHd apf) := fn_sound rfl Tryd.call121 ok121 co121 (env_cons s113 (env_cons s41fk env_nil)) vc121
end Go.Cx.Rb
