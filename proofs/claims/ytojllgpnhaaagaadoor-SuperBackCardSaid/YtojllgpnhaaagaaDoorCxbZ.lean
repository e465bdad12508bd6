/-
  The document's 'Decode' of a superblock.
-/
import Derived.Test.YtojllgpnhaaagaaDoorCxbX
import Derived.Test.YtojllgpnhaaagaaDoorCxbY
namespace Go.Cx.Rb
open Go Go.Cx Go.Proofs

def cDec9R (ap : AP) : Ctr
  | [.v (.dsl n 1 (.ints .u8 n' b))] => .chk (ap _ _ (ap _ _ eqN n) n') <| .ok ⟨.tcons (supA ap (ap _ _ dec9P b)) (.tcons (.int .i64 (ap _ _ dec9E b)) .tnil), [], []⟩
  | _ => .fail 381
def supQ0 (b : List Int) : SupP := { supQ b with x := fun _ => slot0 }
def pXB (b : List Int) : Int := (qB b).1
def fXB (b : List Int) : Bool := (qB b).2
def pXX (b : List Int) (i : Nat) : Int := (qX b i).1
def fXX (b : List Int) (i : Nat) : Bool := (qX b i).2
def aDec9R (ap : AP) (n : Nat) (b : List Int) : List (Nat × Ann) := [
  (0, .inv Nat (fun i => ⟨[(0, .dsl n 1 (.ints .u8 n b)), (2, .ptr 2 []), (4, .ptr 19 []), (5, .ptr 5 []), (6, dslA ap (ap _ _ xR b)), (7, dslA ap (ap _ _ xT b)), (8, .int .i64 (ap _ _ lenI i))],
    [(2, ⟨.own, .cat 1 353 (.lit .i64 0) (.cat 1 352 (.lit .i64 0) (.cat 1 351 (.lit .i64 0) (.cat 1 350 (.lit .u64 0) (.cat 1 349 (.lit .i64 0) (.cat 1 348 (.lit .i64 0) (.cat 32 316 (.ints .u8 32 (ap _ _ zerosI 32)) (.cat 16 300 (.ints .u8 16 (ap _ _ zerosI 16)) (.rows 75 4 fun _ => (.cat 1 74 .ff (.cat 1 73 (.lit .i64 0) (.cat 1 72 (.lit .i64 0) (.cat 16 56 (.ints .u8 16 (ap _ _ zerosI 16)) (.cat 32 24 (.ints .u8 32 (ap _ _ zerosI 32)) (.ints .u8 24 (ap _ _ zerosI 24)))))))))))))))⟩), (19, ⟨.own, rrV 480 (ap _ _ L9 b) (ap _ _ pXB b) (ap _ _ fXB b)⟩),
     (5, ⟨.own, supV (ap _ _ SupP.ph (ap _ _ supQ0 b)) (ap _ _ SupP.k (ap _ _ supQ0 b)) (ap _ _ SupP.o (ap _ _ supQ0 b)) (ap _ _ SupP.q (ap _ _ supQ0 b)) (ap _ _ SupP.b (ap _ _ supQ0 b)) (ap _ _ SupP.c (ap _ _ supQ0 b)) (ap _ _ (ap _ _ (ap _ _ mixC 32) (ap _ _ xR b)) i) (ap _ _ (ap _ _ (ap _ _ mixC 16) (ap _ _ xT b)) i) fun _ => (.cat 1 74 .ff (.cat 1 73 (.lit .i64 0) (.cat 1 72 (.lit .i64 0) (.cat 16 56 (.ints .u8 16 (ap _ _ zerosI 16)) (.cat 32 24 (.ints .u8 32 (ap _ _ zerosI 32)) (.ints .u8 24 (ap _ _ zerosI 24)))))))⟩)], []⟩)
    (fun i => i ≤ 32) (fun i => 32 - i)),
  (1, .inv Nat (fun i => ⟨[(0, .dsl n 1 (.ints .u8 n b)), (2, .ptr 2 []), (4, .ptr 19 []), (5, .ptr 5 []), (9, .int .i64 (ap _ _ lenI i))],
    [(2, ⟨.own, .cat 1 353 (.lit .i64 0) (.cat 1 352 (.lit .i64 0) (.cat 1 351 (.lit .i64 0) (.cat 1 350 (.lit .u64 0) (.cat 1 349 (.lit .i64 0) (.cat 1 348 (.lit .i64 0) (.cat 32 316 (.ints .u8 32 (ap _ _ zerosI 32)) (.cat 16 300 (.ints .u8 16 (ap _ _ zerosI 16)) (.rows 75 4 fun _ => (.cat 1 74 .ff (.cat 1 73 (.lit .i64 0) (.cat 1 72 (.lit .i64 0) (.cat 16 56 (.ints .u8 16 (ap _ _ zerosI 16)) (.cat 32 24 (.ints .u8 32 (ap _ _ zerosI 32)) (.ints .u8 24 (ap _ _ zerosI 24)))))))))))))))⟩), (19, ⟨.own, rrV 480 (ap _ _ L9 b) (ap _ _ (ap _ _ pXX b) i) (ap _ _ (ap _ _ fXX b) i)⟩),
     (5, ⟨.own, supV (ap _ _ SupP.ph (ap _ _ supQ0 b)) (ap _ _ SupP.k (ap _ _ supQ0 b)) (ap _ _ SupP.o (ap _ _ supQ0 b)) (ap _ _ SupP.q (ap _ _ supQ0 b)) (ap _ _ SupP.b (ap _ _ supQ0 b)) (ap _ _ SupP.c (ap _ _ supQ0 b)) (ap _ _ SupP.root (ap _ _ supQ0 b)) (ap _ _ SupP.salt (ap _ _ supQ0 b)) fun j => slotA ap (ap _ _ (ap _ _ (ap _ _ slJ b) i) j)⟩)], []⟩)
    (fun i => slOk b i) (fun i => 4 - i))]
theorem supQ0_root {b : List Int} : (supQ0 b).root = mixC 32 (xR b) 32 := by simp only [supQ0, supQ]
theorem supQ0_salt {b : List Int} : (supQ0 b).salt = mixC 16 (xT b) 32 := by simp only [supQ0, supQ]
theorem pXX_zero {b : List Int} : pXX b 0 = atQ (L9 b) (pXB b) (fXB b) 24 := by simp only [pXX, qX, qC, qn, pXB, fXB]
theorem fXX_zero {b : List Int} : fXX b 0 = flQ (L9 b) (pXB b) (fXB b) 24 := by simp only [fXX, qX, qC, qn, pXB, fXB]
theorem pXX_next {b : List Int} {i : Nat} : pXX b (i + 1) = atQ (L9 b) (pXX b i) (fXX b i) 80 := rfl
theorem fXX_next {b : List Int} {i : Nat} : fXX b (i + 1) = flQ (L9 b) (pXX b i) (fXX b i) 80 := rfl
theorem sJ_next {b : List Int} {i : Nat} : eqRows 4 (fun j => slotA apf (slJ b (i + 1) j)) (updR (fun j => slotA apf (slJ b i j)) i (slotA apf (decP (tkQ (L9 b) (pXX b i) (fXX b i) 80)))) := by
  intro j _
  have e : updR (fun j => slotA apf (slJ b i j)) i (slotA apf (decP (tkQ (L9 b) (pXX b i) (fXX b i) 80))) j = slotA apf (slJ b (i + 1) j) := by
    by_cases hj : j = i
    · subst hj
      rw [updR, if_pos rfl, slJ, if_pos (by omega)]
      rfl
    · rw [updR, if_neg hj]
      have : slJ b i j = slJ b (i + 1) j := by
        unfold slJ
        by_cases h2 : j < i
        · rw [if_pos h2, if_pos (by omega)]
        · rw [if_neg h2, if_neg (by omega)]
      rw [this]
  rw [e]
theorem hdQ_len {b : List Int} (hr : ∀ y ∈ b, inR .u8 y) (hb : b.length = 512) (hs : slOk b 4) : (hdP (supQ b)).length = 480 := by
  rw [supQ_eq hb hr]
  refine hdP_len (by simp [supF, hb]) (by simp [supF, hb]) fun j hj => ?_
  show (encB (if j < 4 then decP (sB b j) else slot0)).length = 80
  rw [if_pos hj, enc_of_dec (sB_len hb hj) (rng_sub hr) (slots_at (slOk_all hb hs) hj), sB_len hb hj]
theorem supQ_no1 {b : List Int} (h : rgtB { ph := (supQ0 b).ph, k := (supQ0 b).k, o := (supQ0 b).o, q := (supQ0 b).q, b := (supQ0 b).b, c := (supQ0 b).c, root := (supQ0 b).root, salt := (supQ0 b).salt, x := slJ b 4 } = false) : rgtB (supQ b) = false := h
theorem supQ_no2 {b : List Int} (hr : ∀ y ∈ b, inR .u8 y) (hb : b.length = 512) (hs : slOk b 4) (h : subL (hdP { ph := (supQ0 b).ph, k := (supQ0 b).k, o := (supQ0 b).o, q := (supQ0 b).q, b := (supQ0 b).b, c := (supQ0 b).c, root := (supQ0 b).root, salt := (supQ0 b).salt, x := slJ b 4 }) 0 480 ≠ subL b 0 480) : hdP (supQ b) ≠ b.take 480 := by
  have h : subL (hdP (supQ b)) 0 480 ≠ subL b 0 480 := h
  rw [subL_id (hdQ_len hr hb hs), subL_zero] at h
  exact h
theorem supQ_yes1 {b : List Int} (h : rgtB { ph := (supQ0 b).ph, k := (supQ0 b).k, o := (supQ0 b).o, q := (supQ0 b).q, b := (supQ0 b).b, c := (supQ0 b).c, root := (supQ0 b).root, salt := (supQ0 b).salt, x := slJ b 4 } = true) : rgtB (supQ b) = true := h
theorem supQ_yes2 {b : List Int} (hr : ∀ y ∈ b, inR .u8 y) (hb : b.length = 512) (hs : slOk b 4) (h : subL (hdP { ph := (supQ0 b).ph, k := (supQ0 b).k, o := (supQ0 b).o, q := (supQ0 b).q, b := (supQ0 b).b, c := (supQ0 b).c, root := (supQ0 b).root, salt := (supQ0 b).salt, x := slJ b 4 }) 0 480 = subL b 0 480) : hdP (supQ b) = b.take 480 := by
  have h : subL (hdP (supQ b)) 0 480 = subL b 0 480 := h
  rw [subL_id (hdQ_len hr hb hs), subL_zero] at h
  exact h
set_option maxRecDepth 20000 in
set_option maxHeartbeats 2000000 in
theorem vc61 (args : List Arg) (out : Out) (h : (cDec9R apf args).to out) (hok : okAs args) :
    args.length = ic61.nargs ∧ ic61.nargs ≤ ic61.ntmps ∧ ∃ A, run apf [(103, (fun args => cByt apf (args.map litA))), (101, (fun args => cIntQ apf (args.map litA))), (100, (fun args => cNumQ apf (args.map litA))), (43, cRefD apf), (57, (fun args => cRgtR apf (args.map litA))), (121, cHd apf)] A ic61.body (fnQ apf args out ic61.res) (st0 G1 true args) := by
  unfold cDec9R at h
  split at h
  · rename_i n n' b
    obtain ⟨h1, h⟩ := h
    have h1 : n = n' := h1
    subst h1
    cases h
    obtain ⟨hb, _⟩ := hok
    refine ⟨rfl, by decide, aDec9R apf n b, ?_⟩
    show run apf _ _ _ _ (st0 [(1, .ints .u32 64 kk)] _ _)
    generalize hK : kk = K
    generalize hD : apf _ _ dec9P b = D
    generalize hE : apf _ _ dec9E b = E
    generalize hap : apf = ap
    cbv
    repeat' first
      | exact True.intro
      | (intro (hh : _ = true); first | with_reducible exact False.elim (tf_no (Eq.trans (Eq.symm (show _ = true by assumption)) hh)) | cbv)
      | (intro (hh : _ = false); first | with_reducible exact False.elim (tf_no (Eq.trans (Eq.symm hh) (show _ = false by assumption))) | cbv)
      | with_reducible refine And.intro ?_ ?_
      | (refine ⟨0, (by first | exact Nat.zero_le _ | exact slOk_zero), ?_⟩; cbv)
    all_goals first
      | (intro (i : Nat) hi _ _
         have hi : i ≤ 32 := hi
         cbv
         repeat' first
           | exact True.intro
           | (intro (hh : _ = true); first | with_reducible exact False.elim (tf_no (Eq.trans (Eq.symm (show _ = true by assumption)) hh)) | cbv)
           | (intro (hh : _ = false); first | with_reducible exact False.elim (tf_no (Eq.trans (Eq.symm hh) (show _ = false by assumption))) | cbv)
           | with_reducible refine And.intro ?_ ?_
           | (refine ⟨i + 1, ?_, (?_ : _ < _), ?_⟩; rotate_left 2; try cbv)
           | (refine ⟨0, (by first | exact Nat.zero_le _ | exact slOk_zero), ?_⟩; cbv))
      | skip
    all_goals first
      | (intro (j : Nat) hi _ _
         have hj : slOk b j := hi
         have hj4 : j ≤ 4 := hj.1
         cbv
         repeat' first
           | exact True.intro
           | (intro (hh : _ = true); first | with_reducible exact False.elim (tf_no (Eq.trans (Eq.symm (show _ = true by assumption)) hh)) | cbv)
           | (intro (hh : _ = false); first | with_reducible exact False.elim (tf_no (Eq.trans (Eq.symm hh) (show _ = false by assumption))) | cbv)
           | with_reducible refine And.intro ?_ ?_
           | (refine ⟨j + 1, ?_, (?_ : _ < _), ?_⟩; rotate_left 2; try cbv)
           | (refine ⟨0, (by first | exact Nat.zero_le _ | exact slOk_zero), ?_⟩; cbv))
      | skip
    all_goals subst hap
    all_goals try simp only [apf, cmF, lt_t, lt_f, ne_t, ne_f, notB_t, notB_f, eqL_t, eqL_f, eqN, eqI', eqL', eqB', ltN, natI, lenI, unslots_n, unslots_a] at *
    all_goals have h480 : b.length = 512 → (subL b 0 480).length = 480 := fun h => L9_len h
    all_goals have i0 : inA 0 480 := ⟨by decide, by decide, by decide⟩
    all_goals first
      | omega
      | (have x1 : rgtB { ph := (supQ0 b).ph, k := (supQ0 b).k, o := (supQ0 b).o, q := (supQ0 b).q, b := (supQ0 b).b, c := (supQ0 b).c, root := (supQ0 b).root, salt := (supQ0 b).salt, x := slJ b j } = true := by with_reducible assumption
         have x2 : rgtB { ph := (supQ0 b).ph, k := (supQ0 b).k, o := (supQ0 b).o, q := (supQ0 b).q, b := (supQ0 b).b, c := (supQ0 b).c, root := (supQ0 b).root, salt := (supQ0 b).salt, x := slJ b j } = false := by with_reducible assumption
         exact False.elim (tf_no (x1.symm.trans x2)))
      | (have x1 : subL (hdP { ph := (supQ0 b).ph, k := (supQ0 b).k, o := (supQ0 b).o, q := (supQ0 b).q, b := (supQ0 b).b, c := (supQ0 b).c, root := (supQ0 b).root, salt := (supQ0 b).salt, x := slJ b j }) 0 480 = subL b 0 480 := by with_reducible assumption
         have x2 : subL (hdP { ph := (supQ0 b).ph, k := (supQ0 b).k, o := (supQ0 b).o, q := (supQ0 b).q, b := (supQ0 b).b, c := (supQ0 b).c, root := (supQ0 b).root, salt := (supQ0 b).salt, x := slJ b j }) 0 480 ≠ subL b 0 480 := by with_reducible assumption
         exact False.elim (x2 x1))
      | (simp only [leN, addN, V.cnt, llen]; omega)
      | (have e0 : b.length ≠ 512 := by rw [hb.1]; omega
         obtain ⟨q1, q2⟩ := dec9_len e0
         have q1 : D = sup0 := hD.symm.trans q1
         have q2 : E = 12 := hE.symm.trans q2
         clear hD hE
         subst q1 q2
         first
           | exact rfl
           | exact fun _ _ => rfl)
      | (have e0 : b.length = 512 := by rw [hb.1]; omega
         have hs : decE (tkQ (L9 b) (pXX b j) (fXX b j) 80) ≠ 0 := by with_reducible assumption
         obtain ⟨q1, q2⟩ := ref9_slot hb.2 e0 (i := j) (by omega) hs
         have q1 : D = sup0 := hD.symm.trans q1
         have q2 : E = 12 := hE.symm.trans q2
         clear hD hE
         subst q1 q2
         first
           | exact rfl
           | exact fun _ _ => rfl)
      | (have e4 : j = 4 := by omega
         subst e4
         have e0 : b.length = 512 := by rw [hb.1]; omega
         have hN : rgtB (supQ b) = false ∨ hdP (supQ b) ≠ b.take 480 := by
           first
             | (have hx : rgtB { ph := (supQ0 b).ph, k := (supQ0 b).k, o := (supQ0 b).o, q := (supQ0 b).q, b := (supQ0 b).b, c := (supQ0 b).c, root := (supQ0 b).root, salt := (supQ0 b).salt, x := slJ b 4 } = false := by with_reducible assumption
                exact .inl (supQ_no1 hx))
             | (have hx : subL (hdP { ph := (supQ0 b).ph, k := (supQ0 b).k, o := (supQ0 b).o, q := (supQ0 b).q, b := (supQ0 b).b, c := (supQ0 b).c, root := (supQ0 b).root, salt := (supQ0 b).salt, x := slJ b 4 }) 0 480 ≠ subL b 0 480 := by with_reducible assumption
                exact .inr (supQ_no2 hb.2 e0 hj hx))
         obtain ⟨q1, q2⟩ := ref9_no hb.2 e0 hN
         have q1 : D = sup0 := hD.symm.trans q1
         have q2 : E = 12 := hE.symm.trans q2
         clear hD hE
         subst q1 q2
         first
           | exact rfl
           | exact fun _ _ => rfl)
      | (have e4 : j = 4 := by omega
         subst e4
         have e0 : b.length = 512 := by rw [hb.1]; omega
         have hx : rgtB { ph := (supQ0 b).ph, k := (supQ0 b).k, o := (supQ0 b).o, q := (supQ0 b).q, b := (supQ0 b).b, c := (supQ0 b).c, root := (supQ0 b).root, salt := (supQ0 b).salt, x := slJ b 4 } = true := by with_reducible assumption
         have hy : subL (hdP { ph := (supQ0 b).ph, k := (supQ0 b).k, o := (supQ0 b).o, q := (supQ0 b).q, b := (supQ0 b).b, c := (supQ0 b).c, root := (supQ0 b).root, salt := (supQ0 b).salt, x := slJ b 4 }) 0 480 = subL b 0 480 := by with_reducible assumption
         obtain ⟨q1, q2⟩ := ref9_yes hb.2 e0 hj (supQ_yes1 hx) (supQ_yes2 hb.2 e0 hj hy)
         have q1 : D = supQ b := hD.symm.trans q1
         have q2 : E = 0 := hE.symm.trans q2
         clear hD hE
         subst q1 q2
         first
           | exact rfl
           | exact fun _ _ => rfl)
      | (show 1 ≤ _ ∧ _ ≤ 8; decide)
      | exact i0
      | (show _ ≤ 4294967296; decide)
      | (refine atQ_in ?_ (h480 (by rw [hb.1]; omega))
         repeat' refine atQ_in ?_ (h480 (by rw [hb.1]; omega))
         exact i0)
      | (show 32 - (i + 1) < 32 - i; omega)
      | (show 4 - (j + 1) < 4 - j; omega)
      | exact (inc_i64 (i := i) (by omega)).symm
      | exact (inc_i64 (i := j) (by omega)).symm
      | with_reducible exact pXX_next
      | with_reducible exact fXX_next
      | (have hx : decE (tkQ (L9 b) (pXX b j) (fXX b j) 80) = 0 := by with_reducible assumption
         first
           | (show slOk b (j + 1)
              exact slOk_next hj (by omega) hx)
           | (have hj' : j < 4 := by omega
              show eqRows 4 (fun l => slotA apf (slJ b (j + 1) l)) (updR (fun l => slotA apf (slJ b j l)) j (slotA apf (decP (tkQ (L9 b) (pXX b j) (fXX b j) 80))))
              exact sJ_next))
      | (show isSl (fun l => nV (slotA apf (slJ b j l)))
         exact ⟨slJ b j, rfl⟩)
      | (show isSl (fun l => slotA apf (slJ b j l))
         exact ⟨slJ b j, rfl⟩)
      | (have e4 : j = 4 := by omega
         subst e4
         have hx : rgtB { ph := (supQ0 b).ph, k := (supQ0 b).k, o := (supQ0 b).o, q := (supQ0 b).q, b := (supQ0 b).b, c := (supQ0 b).c, root := (supQ0 b).root, salt := (supQ0 b).salt, x := slJ b 4 } = true := by with_reducible assumption
         exact rgt_slR hx)
      | (have e0 : b.length = 512 := by rw [hb.1]; omega
         have h := pX e0 j (by omega)
         show inA (qX b j).1 480
         rw [h]
         show 0 ≤ ((128 + 80 * j : Nat) : Int) ∧ ((128 + 80 * j : Nat) : Int) ≤ ((480 : Nat) : Int) ∧ 480 ≤ 4294967296
         omega)
      | (have e0 : b.length = 512 := by rw [hb.1]; omega
         have hi' : i < 32 := by omega
         first
           | (show (i : Int).toNat < (xR b).length
              rw [xR_len e0]
              omega)
           | (show (i : Int).toNat < (xT b).length
              rw [xT_len e0]
              omega)
           | (show mixC 32 (xR b) (i + 1) = (mixC 32 (xR b) i).set i (nthI (xR b) i)
              exact mixC_next (by omega) (xR_len e0))
           | (show mixC 16 (xT b) (i + 1) = (mixC 16 (xT b) i).set i (nthI (xT b) i)
              exact mixC_next (by omega) (xT_len e0))
           | (show mixC 16 (xT b) (i + 1) = mixC 16 (xT b) i
              exact mixC_stay (by omega))
           | exact fun _ _ => rfl)
      | (have e32 : i = 32 := by omega
         subst e32
         first
           | with_reducible exact supQ0_root
           | with_reducible exact supQ0_salt
           | exact fun _ _ => rfl
           | with_reducible exact pXX_zero
           | with_reducible exact fXX_zero)
      | exact mixC_zero
      | (simp only [supQ0, supQ, pXB, fXB, xR, xT, qt, qn, q1, q2, q3, q4, q5, q6, q7, q8, q9, qA, qB, L9]; done)
      | exact fun _ _ => rfl
      | skip
  · exact h.elim
set_option maxHeartbeats 2000000 in
theorem s61 : Sound Tryd.prog G1 61 (pu 61) (cDec9R apf) := fn_sound rfl Tryd.call61 ok61 co61 (env_cons s103f (env_cons s101 (env_cons s100l (env_cons s43 (env_cons s57 (env_cons s121 env_nil)))))) vc61
end Go.Cx.Rb
