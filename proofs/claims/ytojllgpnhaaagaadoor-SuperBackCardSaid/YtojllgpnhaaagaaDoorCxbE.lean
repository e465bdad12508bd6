/-
  The reference's digest.
-/
import Derived.Test.YtojllgpnhaaagaaDoorCxbD
import Derived.Test.YtojllgpnhaaagaaDoorCxbC
import Derived.Test.YtojllgpnhaaagaaDoorCxF
namespace Go.Cx.Rb
open Go Go.Cx Go.Proofs

def cRef (ap : AP) : Ctr
  | [.b n 1 (.ints .u8 _ b)] => .chk (ap _ _ (ap _ _ leN n) 140737488355256) (.ok ⟨.ints .u8 32 (ap _ _ digest b), [], []⟩)
  | _ => .fail 212

def aRef (ap : AP) (K : List Int) (n : Nat) (b : List Int) : List (Nat × Ann) := [
  (0, .nest (Nat × List Int) (fun x => ⟨[(2, .ptr 2 []), (3, .ptr 3 []), (4, .sl 22 [] 0 (ap _ _ padN n) 1 none), (5, .sl 23 [] 0 64 1 (some 64)), (6, .int .i64 (ap _ _ lenI (ap _ _ off64 x.1)))], [(globH 0, ⟨.imm, .ints .u32 64 K⟩), (2, ⟨.own, .ints .u8 32 (ap _ _ zs 32)⟩), (3, ⟨.own, .ints .u32 8 (ap _ _ (ap _ _ blkI (ap _ _ padW b)) x.1)⟩), (22, ⟨.own, .ints .u8 (ap _ _ padN n) (ap _ _ padW b)⟩), (23, ⟨.own, .ints .u32 64 x.2⟩)], []⟩) (fun x => 64 * x.1 ≤ padN n) (fun x => padN n - 64 * x.1) (fun x => [
    (1, .nest Nat (fun i => ⟨[(2, .ptr 2 []), (3, .ptr 3 []), (4, .sl 22 [] 0 (ap _ _ padN n) 1 none), (5, .sl 23 [] 0 64 1 (some 64)), (6, .int .i64 (ap _ _ lenI (ap _ _ off64 x.1))), (7, .int .i64 (ap _ _ lenI i))], [(globH 0, ⟨.imm, .ints .u32 64 K⟩), (2, ⟨.own, .ints .u8 32 (ap _ _ zs 32)⟩), (3, ⟨.own, .ints .u32 8 (ap _ _ (ap _ _ blkI (ap _ _ padW b)) x.1)⟩), (22, ⟨.own, .ints .u8 (ap _ _ padN n) (ap _ _ padW b)⟩), (23, ⟨.own, .ints .u32 64 (ap _ _ (ap _ _ (ap _ _ fillW x.2) (ap _ _ (ap _ _ dropB (ap _ _ padW b)) x.1)) i)⟩)], []⟩) (fun i => i ≤ 16) (fun i => 16 - i) (fun i => [
      (2, .inv Nat (fun j => ⟨[(2, .ptr 2 []), (3, .ptr 3 []), (4, .sl 22 [] 0 (ap _ _ padN n) 1 none), (5, .sl 23 [] 0 64 1 (some 64)), (6, .int .i64 (ap _ _ lenI (ap _ _ off64 x.1))), (7, .int .i64 (ap _ _ lenI i)), (8, .int .i64 (ap _ _ lenI j))], [(globH 0, ⟨.imm, .ints .u32 64 K⟩), (2, ⟨.own, .ints .u8 32 (ap _ _ zs 32)⟩), (3, ⟨.own, .ints .u32 8 (ap _ _ (ap _ _ blkI (ap _ _ padW b)) x.1)⟩), (22, ⟨.own, .ints .u8 (ap _ _ padN n) (ap _ _ padW b)⟩), (23, ⟨.own, .ints .u32 64 (ap _ _ (ap _ _ (ap _ _ (ap _ _ fillP x.2) (ap _ _ (ap _ _ dropB (ap _ _ padW b)) x.1)) i) j)⟩)], []⟩) (fun j => j ≤ 4) (fun j => 4 - j))])),
    (3, .inv Nat (fun i => ⟨[(2, .ptr 2 []), (3, .ptr 3 []), (4, .sl 22 [] 0 (ap _ _ padN n) 1 none), (5, .sl 23 [] 0 64 1 (some 64)), (6, .int .i64 (ap _ _ lenI (ap _ _ off64 x.1))), (9, .int .i64 (ap _ _ lenI i))], [(globH 0, ⟨.imm, .ints .u32 64 K⟩), (2, ⟨.own, .ints .u8 32 (ap _ _ zs 32)⟩), (3, ⟨.own, .ints .u32 8 (ap _ _ (ap _ _ blkI (ap _ _ padW b)) x.1)⟩), (22, ⟨.own, .ints .u8 (ap _ _ padN n) (ap _ _ padW b)⟩), (23, ⟨.own, .ints .u32 64 (ap _ _ (ap _ _ (ap _ _ fillW x.2) (ap _ _ (ap _ _ dropB (ap _ _ padW b)) x.1)) i)⟩)], []⟩) (fun i => 16 ≤ i ∧ i ≤ 64) (fun i => 64 - i)),
    (4, .nest Nat (fun i => ⟨[(2, .ptr 2 []), (3, .ptr 3 []), (4, .sl 22 [] 0 (ap _ _ padN n) 1 none), (5, .sl 23 [] 0 64 1 (some 64)), (6, .int .i64 (ap _ _ lenI (ap _ _ off64 x.1))), (12, .ptr 12 []), (13, .int .i64 (ap _ _ lenI i))], [(globH 0, ⟨.imm, .ints .u32 64 K⟩), (2, ⟨.own, .ints .u8 32 (ap _ _ zs 32)⟩), (3, ⟨.own, .ints .u32 8 (ap _ _ (ap _ _ blkI (ap _ _ padW b)) x.1)⟩), (22, ⟨.own, .ints .u8 (ap _ _ padN n) (ap _ _ padW b)⟩), (23, ⟨.own, .ints .u32 64 (ap _ _ schedW (ap _ _ (ap _ _ dropB (ap _ _ padW b)) x.1))⟩), (12, ⟨.own, .ints .u32 8 (ap _ _ (ap _ _ (ap _ _ rndL (ap _ _ (ap _ _ blkI (ap _ _ padW b)) x.1)) (ap _ _ schedW (ap _ _ (ap _ _ dropB (ap _ _ padW b)) x.1))) i)⟩)], []⟩) (fun i => i ≤ 64) (fun i => 64 - i) (fun _ => [(5, .unroll 9)])),
    (6, .inv Nat (fun i => ⟨[(2, .ptr 2 []), (3, .ptr 3 []), (4, .sl 22 [] 0 (ap _ _ padN n) 1 none), (5, .sl 23 [] 0 64 1 (some 64)), (6, .int .i64 (ap _ _ lenI (ap _ _ off64 x.1))), (12, .ptr 12 []), (17, .int .i64 (ap _ _ lenI i))], [(globH 0, ⟨.imm, .ints .u32 64 K⟩), (2, ⟨.own, .ints .u8 32 (ap _ _ zs 32)⟩), (3, ⟨.own, .ints .u32 8 (ap _ _ (ap _ _ (ap _ _ addP (ap _ _ (ap _ _ blkI (ap _ _ padW b)) x.1)) (ap _ _ (ap _ _ (ap _ _ rndL (ap _ _ (ap _ _ blkI (ap _ _ padW b)) x.1)) (ap _ _ schedW (ap _ _ (ap _ _ dropB (ap _ _ padW b)) x.1))) 64)) i)⟩), (22, ⟨.own, .ints .u8 (ap _ _ padN n) (ap _ _ padW b)⟩), (23, ⟨.own, .ints .u32 64 (ap _ _ schedW (ap _ _ (ap _ _ dropB (ap _ _ padW b)) x.1))⟩), (12, ⟨.own, .ints .u32 8 (ap _ _ (ap _ _ (ap _ _ rndL (ap _ _ (ap _ _ blkI (ap _ _ padW b)) x.1)) (ap _ _ schedW (ap _ _ (ap _ _ dropB (ap _ _ padW b)) x.1))) 64)⟩)], []⟩) (fun i => i ≤ 8) (fun i => 8 - i))])),
  (7, .inv Nat (fun i => ⟨[(2, .ptr 2 []), (3, .ptr 3 []), (18, .ptr 18 []), (19, .int .i64 (ap _ _ lenI i))], [(2, ⟨.own, .ints .u8 32 (ap _ _ zs 32)⟩), (3, ⟨.own, .ints .u32 8 (ap _ _ (ap _ _ blkI (ap _ _ padW b)) (padN n / 64))⟩), (18, ⟨.own, .ints .u8 32 (ap _ _ (ap _ _ outF (ap _ _ (ap _ _ blkI (ap _ _ padW b)) (padN n / 64))) i)⟩)], []⟩) (fun i => i ≤ 32) (fun i => 32 - i))]

theorem addP_zero {h v : List Int} : addP h v 0 = h := rfl

theorem bcpl_u32 (x : Int) : bcpl .u32 x = bxor .u32 x 4294967295 := by rw [bcpl, bxor_comm]; rfl
theorem outF_zero {h : List Int} : outF h 0 = zerosI 32 := rfl

set_option maxRecDepth 20000 in
set_option maxHeartbeats 1000000 in
theorem vc80 (args : List Arg) (out : Out) (h : (cRef apf args).to out) (hok : okAs args) :
    args.length = ic80.nargs ∧ ic80.nargs ≤ ic80.ntmps ∧ ∃ A, run apf [(139, cPadR apf), (140, cRight apf)] A ic80.body (fnQ apf args out ic80.res) (st0 G2 true args) := by
  unfold cRef at h
  split at h
  · rename_i n m b
    obtain ⟨h1, h⟩ := h
    cases h
    have h1 : n ≤ 140737488355256 := h1
    obtain ⟨⟨hn, ⟨rfl, _⟩, hb⟩, _⟩ := hok
    have hZ : padZ m < 64 := Nat.mod_lt _ (by omega)
    have hN : padN m = m + (1 + padZ m) + 8 := rfl
    have hN64 : padN m % 64 = 0 := by
      have hz : padZ m = (119 - m % 64) % 64 := rfl
      omega
    refine ⟨rfl, by decide, aRef apf kk m b, ?_⟩
    show run apf _ _ _ _ (st0 [(0, .ints .u32 64 kk), (1, .ints .u32 64 kk)] _ _)
    generalize hK : kk = K
    generalize hap : apf = ap
    cbv
    and_intros
    any_goals (refine ⟨(0, ap _ _ zerosI 64), show 64 * 0 ≤ padN m from Nat.zero_le _, ?_⟩; cbv; and_intros)
    rotate_right 1
    · intro (x : Nat × List Int) hp hts hhs
      obtain ⟨k, W⟩ := x
      have hp : 64 * k ≤ padN m := hp
      have hW : W.length = 64 := hhs.2.2.2.2.1.1
      have hH : (blkI (padW b) k).length = 8 := by subst hap; exact hhs.2.2.1.1
      have hB : ∀ y ∈ dropB (padW b) k, inR .u8 y := by
        subst hap
        intro y hy
        exact hhs.2.2.2.1.2 y (List.mem_of_mem_drop hy)
      clear hts hhs
      cbv
      refine ⟨fun hlt => ?_, fun hge => ?_⟩
      · have b0 : 64 * k < padN m := by
          have : ((64 * k : Nat) : Int) < ((padN m : Nat) : Int) := by subst hap; exact lss_t hlt
          omega
        have b1 : 64 * (k + 1) ≤ padN m := by omega
        have b2 : padN m - 64 * (k + 1) < padN m - 64 * k := by omega
        cbv
        refine ⟨⟨0, show 0 ≤ 16 from Nat.zero_le _, ?_⟩, ?_⟩
        · cbv
          subst hap
          simp only [apf, eqN, eqI', eqL', lenI, Int.natCast_zero]
          and_intros
          all_goals first | exact True.intro | rfl
        · intro (i : Nat) hi _ _
          have hi : i ≤ 16 := hi
          cbv
          refine ⟨fun hlt1 => ?_, fun hge1 => ?_⟩
          · have c0 : i < 16 := by
              have : (i : Int) < 16 := by subst hap; exact lss_t hlt1
              omega
            have c1 : i + 1 ≤ 16 := by omega
            have c2 : 16 - (i + 1) < 16 - i := by omega
            have c3 : i < (fillW W (dropB (padW b) k) i).length := by rw [fillW_len hW (by omega)]; omega
            cbv
            and_intros
            any_goals (refine ⟨0, show 0 ≤ 4 from Nat.zero_le _, ?_⟩; cbv; and_intros)
            rotate_right 1
            · intro (j : Nat) hj _ _
              have hj : j ≤ 4 := hj
              cbv
              refine ⟨fun hlt2 => ?_, fun hge2 => ?_⟩
              · have d0 : j < 4 := by
                  have : (j : Int) < 4 := by subst hap; exact lss_t hlt2
                  omega
                have d1 : j + 1 ≤ 4 := by omega
                have d2 : 4 - (j + 1) < 4 - j := by omega
                cbv
                and_intros
                any_goals (refine ⟨j + 1, d1, d2, ?_⟩; cbv; and_intros)
                all_goals subst hap
                all_goals have inc : wadd .i64 (j : Int) 1 = ((j + 1 : Nat) : Int) := inc_i64 (by omega)
                all_goals have a1 : wmul .i64 4 (i : Int) = ((4 * i : Nat) : Int) := (wmul_i64 (by omega)).trans (by omega)
                all_goals have a2 : wadd .i64 ((64 * k : Nat) : Int) ((4 * i : Nat) : Int) = ((64 * k + 4 * i : Nat) : Int) := (wadd_i64 (by omega)).trans (by omega)
                all_goals have a3 : wadd .i64 ((64 * k + 4 * i : Nat) : Int) (j : Int) = ((64 * k + 4 * i + j : Nat) : Int) := (wadd_i64 (by omega)).trans (by omega)
                all_goals try simp only [apf, ltN, natI, addN, eqN, eqI', eqL', off64, arF, lenI, inc, a1, a2, a3, Int.toNat_natCast, Nat.zero_add]
                all_goals try omega
                simp only [fillP]
                rw [nthI_setI c3, setI_setI]
                show setI (fillW W (dropB (padW b) k) i) i (bor .u32 (bshl .u32 (pw (dropB (padW b) k) (4 * i) j) 8) (wcv .u32 (nthI (dropB (padW b) k) (4 * i + j)))) = _
                rw [dropB, nthI_drop, ← Nat.add_assoc]
              · have d0 : j = 4 := by
                  have : 4 ≤ (j : Int) := by subst hap; exact lss_f hge2
                  omega
                subst d0
                cbv
                refine ⟨i + 1, c1, c2, ?_⟩
                cbv
                subst hap
                have inc : wadd .i64 (i : Int) 1 = ((i + 1 : Nat) : Int) := inc_i64 (by omega)
                simp only [apf, eqN, eqI', eqL', lenI, arF, inc]
                and_intros
                all_goals first
                  | exact True.intro
                  | with_reducible rfl
                  | (rw [fillP, fillW_set hW (by omega) (by rw [if_pos c0, pw_word hB])]; done)
            all_goals subst hap
            all_goals try simp only [apf, ltN, natI, addN, eqN, eqI', eqL', lenI, Int.toNat_natCast, Nat.zero_add]
            all_goals try omega
            all_goals rfl
          · have c0 : i = 16 := by
              have : 16 ≤ (i : Int) := by subst hap; exact lss_f hge1
              omega
            subst c0
            cbv
            refine ⟨⟨16, ⟨by omega, by omega⟩, ?_⟩, ?_⟩
            · cbv
              subst hap
              simp only [apf, eqN, eqI', eqL', lenI]
              and_intros
              all_goals first | exact True.intro | rfl
            · intro (i : Nat) hi _ _
              have hi : 16 ≤ i ∧ i ≤ 64 := hi
              cbv
              refine ⟨fun hlt3 => ?_, fun hge3 => ?_⟩
              · have e0 : i < 64 := by
                  have : (i : Int) < 64 := by subst hap; exact lss_t hlt3
                  omega
                have e1 : 16 ≤ i + 1 ∧ i + 1 ≤ 64 := by omega
                have e2 : 64 - (i + 1) < 64 - i := by omega
                cbv
                and_intros
                any_goals (refine ⟨i + 1, e1, e2, ?_⟩; cbv; and_intros)
                all_goals subst hap
                all_goals have inc : wadd .i64 (i : Int) 1 = ((i + 1 : Nat) : Int) := inc_i64 (by omega)
                all_goals have a1 : wsub .i64 (i : Int) 15 = ((i - 15 : Nat) : Int) := (wsub_i64 (by omega)).trans (by omega)
                all_goals have a2 : wsub .i64 (i : Int) 2 = ((i - 2 : Nat) : Int) := (wsub_i64 (by omega)).trans (by omega)
                all_goals have a3 : wsub .i64 (i : Int) 16 = ((i - 16 : Nat) : Int) := (wsub_i64 (by omega)).trans (by omega)
                all_goals have a4 : wsub .i64 (i : Int) 7 = ((i - 7 : Nat) : Int) := (wsub_i64 (by omega)).trans (by omega)
                all_goals try simp only [apf, ltN, natI, addN, eqN, eqI', eqL', arF, lenI, inc, a1, a2, a3, a4, Int.toNat_natCast, Nat.zero_add]
                all_goals try omega
                refine (fillW_set hW e0 ?_).symm
                rw [if_neg (by omega), fillW_get (by omega), fillW_get (by omega), fillW_get (by omega), fillW_get (by omega)]
                rfl
              · have e0 : i = 64 := by
                  have : 64 ≤ (i : Int) := by subst hap; exact lss_f hge3
                  omega
                subst e0
                cbv
                refine ⟨⟨0, show 0 ≤ 64 from Nat.zero_le _, ?_⟩, ?_⟩
                · cbv
                  subst hap
                  simp only [apf, eqN, eqI', eqL', lenI, Int.natCast_zero]
                  and_intros
                  all_goals first
                    | exact True.intro
                    | with_reducible rfl
                    | rw [schedW, fillW_end hW]
                    | rw [rndL]
                · intro (i : Nat) hi hts hhs
                  have hi : i ≤ 64 := hi
                  have hv : (rndL (blkI (padW b) k) (schedW (dropB (padW b) k)) i).length = 8 := by subst hap; exact hhs.2.2.2.2.2.1.1
                  clear hts hhs
                  cbv
                  refine ⟨fun hlt4 => ?_, fun hge4 => ?_⟩
                  · have e0 : i < 64 := by
                      have : (i : Int) < 64 := by subst hap; exact lss_t hlt4
                      omega
                    have e1 : i + 1 ≤ 64 := by omega
                    have e2 : 64 - (i + 1) < 64 - i := by omega
                    cbv
                    and_intros
                    any_goals (refine ⟨i + 1, e1, e2, ?_⟩; cbv; and_intros)
                    all_goals subst hap
                    all_goals have inc : wadd .i64 (i : Int) 1 = ((i + 1 : Nat) : Int) := inc_i64 (by omega)
                    all_goals try simp only [apf, ltN, natI, addN, eqN, eqI', eqL', arF, lenI, inc, Int.toNat_natCast, Nat.zero_add]
                    all_goals try omega
                    show rnd (rndL _ _ i) (nthI kk i) (nthI _ i) = _
                    rw [hK]
                    generalize rndL (blkI (padW b) k) (schedW (dropB (padW b) k)) i = v at hv ⊢
                    match v, hv with
                    | [v0, v1, v2, v3, v4, v5, v6, v7], _ =>
                      simp only [rnd, t1, t2, setI, nthI, List.set_cons_zero, List.set_cons_succ, List.getD_cons_zero, List.getD_cons_succ, bcpl_u32]
                  · have e0 : i = 64 := by
                      have : 64 ≤ (i : Int) := by subst hap; exact lss_f hge4
                      omega
                    subst e0
                    cbv
                    refine ⟨⟨0, show 0 ≤ 8 from Nat.zero_le _, ?_⟩, ?_⟩
                    · cbv
                      subst hap
                      simp only [apf, eqN, eqI', eqL', lenI, Int.natCast_zero]
                      and_intros
                      all_goals first
                        | exact True.intro
                        | with_reducible rfl
                        | rw [addP_zero]
                    · intro (i : Nat) hi _ _
                      have hi : i ≤ 8 := hi
                      cbv
                      refine ⟨fun hlt5 => ?_, fun hge5 => ?_⟩
                      · have e0 : i < 8 := by
                          have : (i : Int) < 8 := by subst hap; exact lss_t hlt5
                          omega
                        have e1 : i + 1 ≤ 8 := by omega
                        have e2 : 8 - (i + 1) < 8 - i := by omega
                        cbv
                        and_intros
                        any_goals (refine ⟨i + 1, e1, e2, ?_⟩; cbv; and_intros)
                        all_goals subst hap
                        all_goals have inc : wadd .i64 (i : Int) 1 = ((i + 1 : Nat) : Int) := inc_i64 (by omega)
                        all_goals try simp only [apf, ltN, natI, eqN, eqI', eqL', arF, lenI, inc, Int.toNat_natCast]
                        all_goals try omega
                        rw [addP_get, addP_set (by omega)]
                      · have e0 : i = 8 := by
                          have : 8 ≤ (i : Int) := by subst hap; exact lss_f hge5
                          omega
                        subst e0
                        cbv
                        refine ⟨(k + 1, ap _ _ schedW (ap _ _ (ap _ _ dropB (ap _ _ padW b)) k)), b1, b2, ?_⟩
                        cbv
                        subst hap
                        have inc : wadd .i64 ((64 * k : Nat) : Int) 64 = ((64 * (k + 1) : Nat) : Int) := (wadd_i64 (by omega)).trans (by omega)
                        simp only [apf, eqN, eqI', eqL', lenI, off64, arF, inc]
                        and_intros
                        all_goals first
                          | exact True.intro
                          | with_reducible rfl
                          | (rw [addP_end hH]; rfl)
      · have b0 : padN m = 64 * k := by
          have : ((padN m : Nat) : Int) ≤ ((64 * k : Nat) : Int) := by subst hap; exact lss_f hge
          omega
        have b1 : k = padN m / 64 := by omega
        subst b1
        cbv
        refine ⟨⟨0, show 0 ≤ 32 from Nat.zero_le _, ?_⟩, ?_⟩
        · cbv
          subst hap
          simp only [apf, eqN, eqI', eqL', lenI, Int.natCast_zero]
          and_intros
          all_goals first
            | exact True.intro
            | with_reducible rfl
            | rw [outF_zero]
        · intro (i : Nat) hp2 _ _
          have hp2 : i ≤ 32 := hp2
          cbv
          refine ⟨fun hlt => ?_, fun hge => ?_⟩
          · have b0 : i < 32 := by
              have : (i : Int) < 32 := by subst hap; exact lss_t hlt
              omega
            have b1 : i + 1 ≤ 32 := by omega
            have b2 : 32 - (i + 1) < 32 - i := by omega
            cbv
            and_intros
            any_goals (refine ⟨i + 1, b1, b2, ?_⟩; cbv; and_intros)
            all_goals subst hap
            all_goals have inc : wadd .i64 (i : Int) 1 = ((i + 1 : Nat) : Int) := inc_i64 (by omega)
            all_goals have a1 : wquo .i64 (i : Int) 4 = ((i / 4 : Nat) : Int) := quo_i64 (k := 4) (by omega)
            all_goals have a2 : wrem .i64 (i : Int) 4 = ((i % 4 : Nat) : Int) := rem_i64 (k := 4)
            all_goals have a3 : wmul .i64 ((i % 4 : Nat) : Int) 8 = 8 * ((i % 4 : Nat) : Int) := (wmul_i64 (by omega)).trans (by omega)
            all_goals have a4 : wsub .i64 24 (8 * ((i % 4 : Nat) : Int)) = 24 - 8 * ((i % 4 : Nat) : Int) := wsub_i64 (by omega)
            all_goals have a5 : wcv .u64 (24 - 8 * ((i % 4 : Nat) : Int)) = 24 - 8 * ((i % 4 : Nat) : Int) := wcv_u64 (by omega)
            all_goals try simp only [apf, ltN, natI, eqN, eqI', eqL', arF, lenI, inc, a1, a2, a3, a4, a5, Int.toNat_natCast]
            all_goals try omega
            exact (outF_set b0).symm
          · have b0 : i = 32 := by
              have : 32 ≤ (i : Int) := by subst hap; exact lss_f hge
              omega
            subst b0
            cbv
            subst hap
            simp only [apf, eqN, eqL']
            have e : digest b = outF (blkI (padW b) (padN m / 64)) 32 := by
              have e2 := padW_len b
              rw [hb.1] at e2
              rw [digest, outF, outL, blkI, ← padW, e2]
              exact (List.append_nil _).symm
            rw [e]
            and_intros
            all_goals first
              | exact True.intro
              | with_reducible rfl
    all_goals subst hap
    all_goals try simp only [apf, leN, addN, V.cnt, eqN, eqI', eqL']
    all_goals try omega
    all_goals first
      | rfl
      | exact show 4 * 64 ≤ 140737488355328 by omega
      | (rw [subL_all (Nat.le_of_eq hb.1)])
  · exact h.elim
theorem s80 : Sound Tryd.prog G2 80 (pu 80) (cRef apf) := fn_sound rfl Tryd.call80 ok80 co80 (env_cons s139 (env_cons s140 env_nil)) vc80
end Go.Cx.Rb

/- The law 'ShaSums' returns true. -/
namespace Go.Cx.Rb
open Go Go.Cx Go.Proofs

theorem s79' : Sound Tryd.prog G2 79 (pu 79) (cDig apf) := s79.more (fun n v h => by
  simp only [look] at h ⊢
  split at h
  · rename_i e; subst e; rw [if_neg (by decide), if_pos rfl]; exact h
  · cases h)

theorem abc0 : nthI (digest [97, 98, 99]) 0 = 186 := by kernel_rfl
theorem abc0' : nthI (digest (subL [97, 98, 99] 0 3)) 0 = 186 := by rw [show subL [97, 98, 99] 0 3 = [97, 98, 99] from rfl]; exact abc0
theorem abc1 : nthI (digest [97, 98, 99]) 1 = 120 := by kernel_rfl
theorem abc1' : nthI (digest (subL [97, 98, 99] 0 3)) 1 = 120 := by rw [show subL [97, 98, 99] 0 3 = [97, 98, 99] from rfl]; exact abc1
theorem abc31 : nthI (digest [97, 98, 99]) 31 = 173 := by kernel_rfl
theorem abc31' : nthI (digest (subL [97, 98, 99] 0 3)) 31 = 173 := by rw [show subL [97, 98, 99] 0 3 = [97, 98, 99] from rfl]; exact abc31

def cFixed (_ : AP) : Ctr
  | [] => .ok ⟨.tt, [], []⟩
  | _ => .fail 213

def cShaSums (ap : AP) : Ctr
  | [.b n 1 (.ints .u8 _ _)] => .chk (ap _ _ (ap _ _ leN n) 140737488351232) (.ok ⟨.tt, [], []⟩)
  | _ => .fail 214

end Go.Cx.Rb
