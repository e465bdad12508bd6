/-
  The law 'ShaPieces' returns true.
-/
import Derived.Test.YteadbnnfbegpjaaDoorCxaE
import Derived.Test.YteadbnnfbegpjaaDoorCxaF
namespace Go.Cx.Ra
open Go Go.Cx Go.Proofs

def allL (l : Nat → List Int) : Nat → List Int
  | 0 => []
  | i + 1 => allL l i ++ l i
def allN (m : Nat → Nat) : Nat → Nat
  | 0 => 0
  | i + 1 => allN m i + m i
def pieceV (m : Nat → Nat) (l : Nat → List Int) (j : Nat) : V := .dsl (m j) 1 (.ints .u8 (m j) (l j))
def fillE (l : List Int) (k : Nat) : List Int := List.replicate k 238 ++ l.drop k
theorem fillE_zero {l : List Int} : fillE l 0 = l := rfl
theorem fillE_set {l : List Int} {k : Nat} (h : k < l.length) : setI (fillE l k) k 238 = fillE l (k + 1) := by
  simp only [fillE, setI]
  rw [List.set_append_right _ _ (by simp), List.length_replicate, Nat.sub_self, List.drop_eq_getElem_cons h, List.set_cons_zero, List.replicate_succ']
  simp
def hWp (l : Nat → List Int) (i : Nat) : List Int := addW iv [] (allL l i)
def hRp (l : Nat → List Int) (i : Nat) : List Int := addR [] (allL l i)
def hNp (m : Nat → Nat) (i : Nat) : Nat := allN m i % 64
def hSp (m : Nat → Nat) (i : Nat) : Int := addS 0 (allN m i)

def cShaPieces (ap : AP) : Ctr
  | [.v (.dsl n 1 (.rows 1 n' f))] => .chk (n' = n ∧ ∃ m l, f = pieceV m l ∧ ∀ i, i ≤ n → allN m i ≤ 1048576) (.ok ⟨.tt, [], []⟩)
  | _ => .fail 216

def aPcs (ap : AP) (n : Nat) (m : Nat → Nat) (l : Nat → List Int) (x : Nat × List (Nat × Nat)) : LSt := match x.1 with
  | 0 => ⟨[(3, .ptr 13 []), (4, .nsl), (20, .dsl n 1 (.rows 1 n fun j => .dsl (m j) 1 (.ints .u8 (m j) (l j)))), (21, .int .i64 (ap _ _ lenI n)), (22, .lit .i64 0)],
    [(13, ⟨.own, hashV (ap _ _ (ap _ _ hWp l) 0) (ap _ _ (ap _ _ hNp m) 0) (ap _ _ (ap _ _ hRp l) 0) (ap _ _ (ap _ _ hSp m) 0)⟩)], x.2⟩
  | i + 1 => ⟨[(3, .ptr 13 []), (4, .sl 8001 [] 0 (ap _ _ (ap _ _ allN m) (i + 1)) 1 none), (20, .dsl n 1 (.rows 1 n fun j => .dsl (m j) 1 (.ints .u8 (m j) (l j)))), (21, .int .i64 (ap _ _ lenI n)), (22, .int .i64 (ap _ _ lenI (i + 1)))],
    [(13, ⟨.own, hashV (ap _ _ (ap _ _ hWp l) (i + 1)) (ap _ _ (ap _ _ hNp m) (i + 1)) (ap _ _ (ap _ _ hRp l) (i + 1)) (ap _ _ (ap _ _ hSp m) (i + 1))⟩), (8001, ⟨.own, .ints .u8 (ap _ _ (ap _ _ allN m) (i + 1)) (ap _ _ (ap _ _ allL l) (i + 1))⟩)], x.2⟩
def aPcs1 (ap : AP) (n : Nat) (m : Nat → Nat) (l : Nat → List Int) (i k : Nat) : LSt := match i with
  | 0 => ⟨[(3, .ptr 13 []), (4, .nsl), (6, .dsl (m 0) 1 (.ints .u8 (m 0) (l 0))), (7, .sl 31 [] 0 (m 0) 1 none), (20, .dsl n 1 (.rows 1 n fun j => .dsl (m j) 1 (.ints .u8 (m j) (l j)))), (21, .int .i64 (ap _ _ lenI n)), (22, .lit .i64 0), (37, .int .i64 (ap _ _ lenI (m 0))), (38, .int .i64 (ap _ _ lenI k))],
    [(13, ⟨.own, hashV (ap _ _ (ap _ _ hWp l) 1) (ap _ _ (ap _ _ hNp m) 1) (ap _ _ (ap _ _ hRp l) 1) (ap _ _ (ap _ _ hSp m) 1)⟩), (31, ⟨.own, .ints .u8 (m 0) (ap _ _ (ap _ _ fillE (l 0)) k)⟩)], []⟩
  | i + 1 => ⟨[(3, .ptr 13 []), (4, .sl 8001 [] 0 (ap _ _ (ap _ _ allN m) (i + 1)) 1 none), (6, .dsl (m (i + 1)) 1 (.ints .u8 (m (i + 1)) (l (i + 1)))), (7, .sl 31 [] 0 (m (i + 1)) 1 none), (20, .dsl n 1 (.rows 1 n fun j => .dsl (m j) 1 (.ints .u8 (m j) (l j)))), (21, .int .i64 (ap _ _ lenI n)), (22, .int .i64 (ap _ _ lenI (i + 1))), (37, .int .i64 (ap _ _ lenI (m (i + 1)))), (38, .int .i64 (ap _ _ lenI k))],
    [(13, ⟨.own, hashV (ap _ _ (ap _ _ hWp l) (i + 1 + 1)) (ap _ _ (ap _ _ hNp m) (i + 1 + 1)) (ap _ _ (ap _ _ hRp l) (i + 1 + 1)) (ap _ _ (ap _ _ hSp m) (i + 1 + 1))⟩), (8001, ⟨.own, .ints .u8 (ap _ _ (ap _ _ allN m) (i + 1)) (ap _ _ (ap _ _ allL l) (i + 1))⟩), (31, ⟨.own, .ints .u8 (m (i + 1)) (ap _ _ (ap _ _ fillE (l (i + 1))) k)⟩)], []⟩
def aPieces (ap : AP) (n : Nat) (m : Nat → Nat) (l : Nat → List Int) : List (Nat × Ann) := [
  (0, .nest (Nat × List (Nat × Nat)) (aPcs ap n m l) (fun x => x.1 ≤ n) (fun x => n - x.1)
    (fun x => [(1, .inv Nat (fun k => aPcs1 ap n m l x.1 k) (fun k => k ≤ m x.1) (fun k => m x.1 - k))]))]

theorem hWp_next {m : Nat → Nat} {l : Nat → List Int} {i : Nat} (h : (l i).length = m i) : hWp l (i + 1) = addW (hWp l i) (hRp l i) (subL (l i) 0 (m i)) := by
  rw [subL_all (Nat.le_of_eq h)]; exact addW_more.symm
theorem hRp_next {m : Nat → Nat} {l : Nat → List Int} {i : Nat} (h : (l i).length = m i) : hRp l (i + 1) = addR (hRp l i) (subL (l i) 0 (m i)) := by
  rw [subL_all (Nat.le_of_eq h)]; exact addR_more.symm
theorem hNp_next {m : Nat → Nat} {i : Nat} : hNp m (i + 1) = addM (hNp m i) (m i) := by simp only [hNp, addM, allN]; omega
theorem hSp_next {m : Nat → Nat} {i : Nat} (h : allN m i + m i ≤ 1048576) : hSp m (i + 1) = addS (hSp m i) (m i) := (addS_more (by omega)).symm
theorem allL_len {m : Nat → Nat} {l : Nat → List Int} {n : Nat} (h : ∀ j, j < n → (l j).length = m j) : ∀ i, i ≤ n → (allL l i).length = allN m i
  | 0, _ => rfl
  | i + 1, hi => by rw [allL, allN, List.length_append, allL_len h i (by omega), h i (by omega)]
theorem dig_p {m : Nat → Nat} {l : Nat → List Int} {n i : Nat} (h : ∀ j, j < n → (l j).length = m j) (hi : i ≤ n) (hb : allN m i ≤ 1048576) : digW (hWp l i) (hRp l i) (hSp m i) = digest (allL l i) := by
  have e := digW_digest (b := allL l i) (by rw [allL_len h i hi]; omega)
  rw [allL_len h i hi] at e
  exact e
theorem hWp_zero (l : Nat → List Int) : hWp l 0 = iv := by simp [hWp, allL, addW, blk]
theorem hRp_zero (l : Nat → List Int) : hRp l 0 = [] := by simp [hRp, allL, addR]
theorem notb_eq {a b : List Int} (h : notB (eqL a b) = true) (e : a = b) : False := by
  rw [eqL, decide_eq_true e] at h
  cases h
theorem allN_next {m : Nat → Nat} {i : Nat} : allN m (i + 1) = allN m i + m i := rfl
theorem hNp_lt {m : Nat → Nat} {i : Nat} : hNp m i < 64 := Nat.mod_lt _ (by omega)

set_option maxRecDepth 20000 in
set_option maxHeartbeats 1000000 in
theorem vc4 (args : List Arg) (out : Out) (h : (cShaPieces apf args).to out) (hok : okAs args) :
    args.length = ic4.nargs ∧ ic4.nargs ≤ ic4.ntmps ∧ ∃ A, run apf [(10, cFixed apf), (13, cNew apf), (14, cAdd apf), (15, cSum apf), (12, cRef apf), (11, cDig apf)] A ic4.body (fnQ apf args out ic4.res) (st0 G2 true args) := by
  unfold cShaPieces at h
  split at h
  · rename_i n0 n f
    obtain ⟨⟨rfl, m, l, rfl, hb⟩, h⟩ := h
    cases h
    obtain ⟨hl, _⟩ := hok
    have hl : ∀ j, j < n → (l j).length = m j := fun j hj => (hl j hj).1
    refine ⟨rfl, by decide, aPieces apf n m l, ?_⟩
    show run apf _ _ _ _ (st0 [(0, .ints .u32 64 kk), (1, .ints .u32 64 kk)] _ _)
    generalize hK : kk = K
    generalize hap : apf = ap
    cbv
    have b40 : ∀ {i : Nat}, i + 1 ≤ n → allN m i + m i ≤ 1048576 := fun {i} hi => hb (i + 1) hi
    refine ⟨⟨(0, []), Nat.zero_le _, ?_⟩, ?_⟩
    · cbv
      subst hap
      simp only [apf, eqN, eqI', eqL', eqRows, hWp_zero, hRp_zero]
      and_intros
      all_goals first
        | exact True.intro
        | rfl
        | (intro j _; rfl)
    · intro (x : Nat × List (Nat × Nat)) hx _ _
      obtain ⟨i, r⟩ := x
      have hx : i ≤ n := hx
      cases i with
      | zero =>
        cbv
        refine ⟨fun h0 => ?_, fun h0 => ?_⟩
        · have c0 : 0 < n := by
            have : (0 : Int) < (n : Int) := by subst hap; exact lss_t h0
            omega
          have b1 : allN m 0 + m 0 ≤ 1048576 := b40 c0
          have l1 := hl 0 c0
          have c1 : 0 + 1 ≤ n := by omega
          have c2 : n - (0 + 1) < n - 0 := by omega
          have dg := dig_p (m := m) hl c1 b1
          have dg' : digW (hWp l 1) (hRp l 1) (hSp m 1) = digest (subL (l 0) 0 (m 0)) := by rw [subL_all (Nat.le_of_eq l1)]; exact dg
          cbv
          and_intros
          any_goals (refine ⟨0, Nat.zero_le _, ?_⟩; cbv; and_intros)
          rotate_right 1
          · intro (k : Nat) hk _ _
            have hk : k ≤ m 0 := hk
            cbv
            refine ⟨fun hlt => ?_, fun hge => ?_⟩
            · have d0 : k < m 0 := by
                have : (k : Int) < (m 0 : Int) := by subst hap; exact lss_t hlt
                omega
              have d1 : k + 1 ≤ m 0 := by omega
              have d2 : m 0 - (k + 1) < m 0 - k := by omega
              cbv
              and_intros
              any_goals (refine ⟨k + 1, d1, d2, ?_⟩; cbv; and_intros)
              all_goals subst hap
              all_goals have inc : wadd .i64 (k : Int) 1 = ((k + 1 : Nat) : Int) := inc_i64 (by omega)
              all_goals try simp only [apf, leN, ltN, eqN, eqI', eqL', eqB', eqRows, appN, addN, natI, V.cnt, arF, lenI, inc, Int.toNat_natCast, Nat.zero_add]
              all_goals clear inc
              all_goals first
                | exact True.intro
                | omega
                | exact hNp_lt
                | exact hWp_next l1
                | exact hRp_next l1
                | exact hNp_next
                | exact hSp_next b1
                | exact (fillE_set (by rw [l1]; exact d0)).symm
                | exact fun _ _ => trivial
                | exact Nat.zero_add _
                | exact allN_next
                | exact List.nil_append _
                | exact fillE_zero
                | exact (notb_eq hd dg').elim
                | exact decide_eq_true (dig_p hl (Nat.zero_le _) (hb 0 (Nat.zero_le _)))
                | with_reducible rfl
            · cbv
              and_intros
              any_goals intro hd
              any_goals (cbv; refine ⟨(0 + 1, [(8001, 47)]), c1, c2, ?_⟩; cbv; and_intros)
              all_goals subst hap
              all_goals have inc : wadd .i64 (k : Int) 1 = ((k + 1 : Nat) : Int) := inc_i64 (by omega)
              all_goals try simp only [apf, leN, ltN, eqN, eqI', eqL', eqB', eqRows, appN, addN, natI, V.cnt, arF, lenI, inc, Int.toNat_natCast, Nat.zero_add]
              all_goals clear inc
              all_goals first
                | exact True.intro
                | omega
                | exact hNp_lt
                | exact hWp_next l1
                | exact hRp_next l1
                | exact hNp_next
                | exact hSp_next b1
                | exact (fillE_set (by rw [l1]; exact d0)).symm
                | exact fun _ _ => trivial
                | exact Nat.zero_add _
                | exact allN_next
                | exact List.nil_append _
                | exact fillE_zero
                | exact (notb_eq hd dg').elim
                | exact decide_eq_true (dig_p hl (Nat.zero_le _) (hb 0 (Nat.zero_le _)))
                | with_reducible rfl
          all_goals subst hap
          all_goals try simp only [apf, leN, ltN, eqN, eqI', eqL', eqB', eqRows, appN, addN, natI, V.cnt, arF, lenI, Int.toNat_natCast, Nat.zero_add]
          all_goals first
            | exact True.intro
            | omega
            | exact hNp_lt
            | exact hWp_next l1
            | exact hRp_next l1
            | exact hNp_next
            | exact hSp_next b1
            | exact (fillE_set (by rw [l1]; exact d0)).symm
            | exact fun _ _ => trivial
            | exact Nat.zero_add _
            | exact allN_next
            | exact List.nil_append _
            | exact fillE_zero
            | exact (notb_eq hd dg').elim
            | exact decide_eq_true (dig_p hl (Nat.zero_le _) (hb 0 (Nat.zero_le _)))
            | with_reducible rfl
        · cbv
          and_intros
          all_goals subst hap
          all_goals try simp only [apf, leN, ltN, eqN, eqI', eqL', eqB', eqRows, appN, addN, natI, V.cnt, arF, lenI, Int.toNat_natCast, Nat.zero_add]
          all_goals first
            | exact True.intro
            | omega
            | exact hNp_lt
            | exact hWp_next l1
            | exact hRp_next l1
            | exact hNp_next
            | exact hSp_next b1
            | exact (fillE_set (by rw [l1]; exact d0)).symm
            | exact fun _ _ => trivial
            | exact Nat.zero_add _
            | exact allN_next
            | exact List.nil_append _
            | exact fillE_zero
            | exact (notb_eq hd dg').elim
            | exact decide_eq_true (dig_p hl (Nat.zero_le _) (hb 0 (Nat.zero_le _)))
            | with_reducible rfl
      | succ i =>
        cbv
        refine ⟨fun h0 => ?_, fun h0 => ?_⟩
        · have c0 : i + 1 < n := by
            have : ((i + 1 : Nat) : Int) < (n : Int) := by subst hap; exact lss_t h0
            omega
          have b1 : allN m (i + 1) + m (i + 1) ≤ 1048576 := b40 c0
          have l1 := hl (i + 1) c0
          have c1 : i + 1 + 1 ≤ n := by omega
          have c2 : n - (i + 1 + 1) < n - (i + 1) := by omega
          have dg := dig_p (m := m) hl c1 b1
          have la := allL_len hl (i + 1) hx
          have dg' : digW (hWp l (i + 1 + 1)) (hRp l (i + 1 + 1)) (hSp m (i + 1 + 1)) = digest (subL (catL (subL (allL l (i + 1)) 0 (allN m (i + 1))) (l (i + 1))) 0 (allN m (i + 1) + m (i + 1))) := by
            rw [subL_all (Nat.le_of_eq la), catL, subL_all (by rw [List.length_append, la, l1]; exact Nat.le_refl _)]; exact dg
          cbv
          refine ⟨?_, ?_, ?_, fun h40 => ?_, fun h40 => ?_⟩
          rotate_right 1
          · have c40 : i + 1 < 40 := by
              have : ((i + 1 : Nat) : Int) < 40 := by subst hap; exact geq_f h40
              omega
            cbv
            and_intros
            any_goals (refine ⟨0, Nat.zero_le _, ?_⟩; cbv; and_intros)
            rotate_right 1
            · intro (k : Nat) hk _ _
              have hk : k ≤ m (i + 1) := hk
              cbv
              refine ⟨fun hlt => ?_, fun hge => ?_⟩
              · have d0 : k < m (i + 1) := by
                  have : (k : Int) < (m (i + 1) : Int) := by subst hap; exact lss_t hlt
                  omega
                have d1 : k + 1 ≤ m (i + 1) := by omega
                have d2 : m (i + 1) - (k + 1) < m (i + 1) - k := by omega
                cbv
                and_intros
                any_goals (refine ⟨k + 1, d1, d2, ?_⟩; cbv; and_intros)
                all_goals subst hap
                all_goals have inc : wadd .i64 (k : Int) 1 = ((k + 1 : Nat) : Int) := inc_i64 (by omega)
                all_goals try simp only [apf, leN, ltN, eqN, eqI', eqL', eqB', eqRows, appN, addN, natI, V.cnt, arF, lenI, inc, Int.toNat_natCast, Nat.zero_add]
                all_goals clear inc
                all_goals first
                  | exact True.intro
                  | omega
                  | exact hNp_lt
                  | exact hWp_next l1
                  | exact hRp_next l1
                  | exact hNp_next
                  | exact hSp_next b1
                  | exact (fillE_set (by rw [l1]; exact d0)).symm
                  | exact fun _ _ => trivial
                  | exact Nat.zero_add _
                  | exact allN_next
                  | exact List.nil_append _
                  | exact fillE_zero
                  | exact (notb_eq hd dg').elim
                  | exact (inc_i64 (by omega)).symm
                  | exact (congrArg (fun x => catL x (l (i + 1))) (subL_all (Nat.le_of_eq la))).symm
                  | exact decide_eq_true (by rw [subL_all (Nat.le_of_eq (allL_len hl (i + 1) hx))]; exact dig_p hl hx (hb _ hx))
                  | with_reducible rfl
              · cbv
                and_intros
                any_goals intro hd
                any_goals (cbv; refine ⟨(i + 1 + 1, [(8001, 47)]), c1, c2, ?_⟩; cbv; and_intros)
                all_goals subst hap
                all_goals have inc : wadd .i64 (k : Int) 1 = ((k + 1 : Nat) : Int) := inc_i64 (by omega)
                all_goals try simp only [apf, leN, ltN, eqN, eqI', eqL', eqB', eqRows, appN, addN, natI, V.cnt, arF, lenI, inc, Int.toNat_natCast, Nat.zero_add]
                all_goals clear inc
                all_goals first
                  | exact True.intro
                  | omega
                  | exact hNp_lt
                  | exact hWp_next l1
                  | exact hRp_next l1
                  | exact hNp_next
                  | exact hSp_next b1
                  | exact (fillE_set (by rw [l1]; exact d0)).symm
                  | exact fun _ _ => trivial
                  | exact Nat.zero_add _
                  | exact allN_next
                  | exact List.nil_append _
                  | exact fillE_zero
                  | exact (notb_eq hd dg').elim
                  | exact (inc_i64 (by omega)).symm
                  | exact (congrArg (fun x => catL x (l (i + 1))) (subL_all (Nat.le_of_eq la))).symm
                  | exact decide_eq_true (by rw [subL_all (Nat.le_of_eq (allL_len hl (i + 1) hx))]; exact dig_p hl hx (hb _ hx))
                  | with_reducible rfl
            all_goals subst hap
            all_goals try simp only [apf, leN, ltN, eqN, eqI', eqL', eqB', eqRows, appN, addN, natI, V.cnt, arF, lenI, Int.toNat_natCast, Nat.zero_add]
            all_goals first
              | exact True.intro
              | omega
              | exact hNp_lt
              | exact hWp_next l1
              | exact hRp_next l1
              | exact hNp_next
              | exact hSp_next b1
              | exact (fillE_set (by rw [l1]; exact d0)).symm
              | exact fun _ _ => trivial
              | exact Nat.zero_add _
              | exact allN_next
              | exact List.nil_append _
              | exact fillE_zero
              | exact (notb_eq hd dg').elim
              | exact (inc_i64 (by omega)).symm
              | exact (congrArg (fun x => catL x (l (i + 1))) (subL_all (Nat.le_of_eq la))).symm
              | exact decide_eq_true (by rw [subL_all (Nat.le_of_eq (allL_len hl (i + 1) hx))]; exact dig_p hl hx (hb _ hx))
              | with_reducible rfl
          rotate_right 1
          · cbv
            and_intros
            all_goals subst hap
            all_goals try simp only [apf, leN, ltN, eqN, eqI', eqL', eqB', eqRows, appN, addN, natI, V.cnt, arF, lenI, Int.toNat_natCast, Nat.zero_add]
            all_goals first
              | exact True.intro
              | omega
              | exact hNp_lt
              | exact hWp_next l1
              | exact hRp_next l1
              | exact hNp_next
              | exact hSp_next b1
              | exact (fillE_set (by rw [l1]; exact d0)).symm
              | exact fun _ _ => trivial
              | exact Nat.zero_add _
              | exact allN_next
              | exact List.nil_append _
              | exact fillE_zero
              | exact (notb_eq hd dg').elim
              | exact (inc_i64 (by omega)).symm
              | exact (congrArg (fun x => catL x (l (i + 1))) (subL_all (Nat.le_of_eq la))).symm
              | exact decide_eq_true (by rw [subL_all (Nat.le_of_eq (allL_len hl (i + 1) hx))]; exact dig_p hl hx (hb _ hx))
              | with_reducible rfl
          all_goals subst hap
          all_goals try simp only [apf, leN, ltN, eqN, eqI', eqL', eqB', eqRows, appN, addN, natI, V.cnt, arF, lenI, Int.toNat_natCast, Nat.zero_add]
          all_goals first
            | exact True.intro
            | omega
            | exact hNp_lt
            | exact hWp_next l1
            | exact hRp_next l1
            | exact hNp_next
            | exact hSp_next b1
            | exact (fillE_set (by rw [l1]; exact d0)).symm
            | exact fun _ _ => trivial
            | exact Nat.zero_add _
            | exact allN_next
            | exact List.nil_append _
            | exact fillE_zero
            | exact (notb_eq hd dg').elim
            | exact (inc_i64 (by omega)).symm
            | exact (congrArg (fun x => catL x (l (i + 1))) (subL_all (Nat.le_of_eq la))).symm
            | exact decide_eq_true (by rw [subL_all (Nat.le_of_eq (allL_len hl (i + 1) hx))]; exact dig_p hl hx (hb _ hx))
            | with_reducible rfl
        · cbv
          and_intros
          all_goals subst hap
          all_goals try simp only [apf, leN, ltN, eqN, eqI', eqL', eqB', eqRows, appN, addN, natI, V.cnt, arF, lenI, Int.toNat_natCast, Nat.zero_add]
          all_goals first
            | exact True.intro
            | omega
            | exact hNp_lt
            | exact hWp_next l1
            | exact hRp_next l1
            | exact hNp_next
            | exact hSp_next b1
            | exact (fillE_set (by rw [l1]; exact d0)).symm
            | exact fun _ _ => trivial
            | exact Nat.zero_add _
            | exact allN_next
            | exact List.nil_append _
            | exact fillE_zero
            | exact (notb_eq hd dg').elim
            | exact (inc_i64 (by omega)).symm
            | exact (congrArg (fun x => catL x (l (i + 1))) (subL_all (Nat.le_of_eq la))).symm
            | exact decide_eq_true (by rw [subL_all (Nat.le_of_eq (allL_len hl (i + 1) hx))]; exact dig_p hl hx (hb _ hx))
            | with_reducible rfl
  · exact h.elim
theorem s4 : Sound Tryd.prog G2 4 (pu 4) (cShaPieces apf) := fn_sound rfl Tryd.call4 ok4 co4 (env_cons s10 (env_cons s13' (env_cons s14' (env_cons s15' (env_cons s12 (env_cons s11' env_nil)))))) vc4
end Go.Cx.Ra
