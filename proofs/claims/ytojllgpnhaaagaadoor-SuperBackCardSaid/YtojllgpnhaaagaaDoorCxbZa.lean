/-
  The fixed answers of the superblocks' laws.
-/
import Derived.Test.YtojllgpnhaaagaaDoorCxbZ
import Derived.KernelRfl
namespace Go.Cx.Rb
open Go Go.Cx Go.Proofs

def plX (j : Nat) : SlotP := if j = 2 then ⟨true, 1, 1, zerosI 16, zerosI 32, zerosI 24⟩ else slot0
def plainP : SupP := ⟨0, 1, 0, 1, 72, 0, zerosI 32, zerosI 16, plX⟩
def cPl (ap : AP) (p : SupP) : Ctr
  | [] => .ok ⟨supA ap p, [], []⟩
  | _ => .fail 400
set_option maxRecDepth 20000 in
set_option maxHeartbeats 2000000 in
theorem vc123 (args : List Arg) (out : Out) (h : (cPl apf plainP args).to out) (hok : okAs args) :
    args.length = ic123.nargs ∧ ic123.nargs ≤ ic123.ntmps ∧ ∃ A, run apf [] A ic123.body (fnQ apf args out ic123.res) (st0 G1 true args) := by
  unfold cPl at h
  split at h
  · cases h
    refine ⟨rfl, by decide, [], ?_⟩
    show run apf _ _ _ _ (st0 [(1, .ints .u32 64 kk)] _ _)
    generalize hK : kk = K
    generalize hP : plainP = P
    generalize hap : apf = ap
    cbv
    repeat' first
      | exact True.intro
      | (intro (hh : _ = true); first | with_reducible exact False.elim (tf_no (Eq.trans (Eq.symm (show _ = true by assumption)) hh)) | cbv)
      | (intro (hh : _ = false); first | with_reducible exact False.elim (tf_no (Eq.trans (Eq.symm hh) (show _ = false by assumption))) | cbv)
      | with_reducible refine And.intro ?_ ?_
      | fail
    all_goals subst hap
    all_goals subst hP
    all_goals try simp only [apf, eqN, eqI', eqL', ltN] at *
    all_goals first
      | exact rfl
      | (intro j hj
         match j, hj with
         | 0, _ => exact rfl
         | 1, _ => exact rfl
         | 2, _ => exact rfl
         | 3, _ => exact rfl)
      | omega
      | skip
  · exact h.elim
theorem s123 : Sound Tryd.prog G1 123 (pu 123) (cPl apf plainP) := fn_sound rfl Tryd.call123 ok123 co123 env_nil vc123
def z_hd : List Int := [67, 76, 79, 73, 83, 84, 69, 82, 1, 0, 1, 0, 0, 0, 0, 0, 0, 0, 0, 0, 0, 0, 0, 1, 0, 0, 0, 0, 0, 0, 0, 72, 0, 0, 0, 0, 0, 0, 0, 0, 0, 0, 0, 0, 0, 0, 0, 0, 0, 0, 0, 0, 0, 0, 0, 0, 0, 0, 0, 0, 0, 0, 0, 0, 0, 0, 0, 0, 0, 0, 0, 0, 0, 0, 0, 0, 0, 0, 0, 0, 0, 0, 0, 0, 0, 0, 0, 0, 0, 0, 0, 0, 0, 0, 0, 0, 0, 0, 0, 0, 0, 0, 0, 0, 0, 0, 0, 0, 0, 0, 0, 0, 0, 0, 0, 0, 0, 0, 0, 0, 0, 0, 0, 0, 0, 0, 0, 0, 0, 0, 0, 0, 0, 0, 0, 0, 0, 0, 0, 0, 0, 0, 0, 0, 0, 0, 0, 0, 0, 0, 0, 0, 0, 0, 0, 0, 0, 0, 0, 0, 0, 0, 0, 0, 0, 0, 0, 0, 0, 0, 0, 0, 0, 0, 0, 0, 0, 0, 0, 0, 0, 0, 0, 0, 0, 0, 0, 0, 0, 0, 0, 0, 0, 0, 0, 0, 0, 0, 0, 0, 0, 0, 0, 0, 0, 0, 0, 0, 0, 0, 0, 0, 0, 0, 0, 0, 0, 0, 0, 0, 0, 0, 0, 0, 0, 0, 0, 0, 0, 0, 0, 0, 0, 0, 0, 0, 0, 0, 0, 0, 0, 0, 0, 0, 0, 0, 0, 0, 0, 0, 0, 0, 0, 0, 0, 0, 0, 0, 0, 0, 0, 0, 0, 0, 0, 0, 0, 0, 0, 0, 0, 0, 0, 0, 0, 0, 0, 0, 0, 0, 0, 0, 0, 0, 0, 0, 0, 0, 1, 1, 0, 0, 0, 0, 0, 1, 0, 0, 0, 0, 0, 0, 0, 0, 0, 0, 0, 0, 0, 0, 0, 0, 0, 0, 0, 0, 0, 0, 0, 0, 0, 0, 0, 0, 0, 0, 0, 0, 0, 0, 0, 0, 0, 0, 0, 0, 0, 0, 0, 0, 0, 0, 0, 0, 0, 0, 0, 0, 0, 0, 0, 0, 0, 0, 0, 0, 0, 0, 0, 0, 0, 0, 0, 0, 0, 0, 0, 0, 0, 0, 0, 0, 0, 0, 0, 0, 0, 0, 0, 0, 0, 0, 0, 0, 0, 0, 0, 0, 0, 0, 0, 0, 0, 0, 0, 0, 0, 0, 0, 0, 0, 0, 0, 0, 0, 0, 0, 0, 0, 0, 0, 0, 0, 0, 0, 0, 0, 0, 0, 0, 0, 0, 0, 0, 0, 0, 0, 0, 0, 0, 0, 0, 0, 0, 0, 0, 0, 0, 0, 0, 0, 0, 0, 0, 0, 0, 0, 0, 0, 0, 0, 0, 0, 0, 0, 0, 0, 0, 0, 0, 0, 0, 0, 0, 0, 0, 0, 0, 0, 0, 0, 0, 0, 0, 0, 0, 0, 0, 0, 0]
def z_k1 : List Int := [177, 227, 108, 214, 69, 172, 87, 159, 18, 92, 199, 192, 115, 42, 192, 233, 244, 155, 255, 246, 63, 174, 105, 201, 244, 219, 199, 131, 172, 191, 13, 190]
def z_k2 : List Int := [50, 64, 98, 208, 80, 231, 246, 61, 223, 227, 156, 149, 164, 161, 162, 115, 158, 254, 64, 27, 39, 122, 112, 135, 245, 48, 133, 152, 183, 180, 205, 170]
def z_t1 : List Int := [90, 69, 121, 241, 189, 105, 22, 118, 196, 20, 223, 76, 10, 91, 32, 133, 19, 210, 163, 32, 51, 25, 97, 40, 191, 233, 53, 24, 150, 193, 126, 245]
def z_t2 : List Int := [63, 70, 174, 43, 119, 226, 178, 204, 13, 242, 12, 102, 163, 120, 240, 175, 188, 181, 5, 47, 173, 13, 200, 48, 104, 112, 49, 224, 214, 40, 192, 75]
def m_1 : List Int := [1, 0, 0, 0, 0, 0, 0, 0, 0, 0, 0, 0, 0, 0, 0, 0, 0, 0, 0, 0, 0, 0, 0, 0, 0, 0, 0, 0, 0, 0, 0, 0]
def m_2 : List Int := [2, 0, 0, 0, 0, 0, 0, 0, 0, 0, 0, 0, 0, 0, 0, 0, 0, 0, 0, 0, 0, 0, 0, 0, 0, 0, 0, 0, 0, 0, 0, 0]
theorem mk_1 : macS m_1 superL = z_k1 := by kernel_rfl
theorem mk_2 : macS m_2 superL = z_k2 := by kernel_rfl
theorem mt_1 : macS z_k1 z_hd = z_t1 := by kernel_rfl
theorem mt_2 : macS z_k2 z_hd = z_t2 := by kernel_rfl
theorem hd_pl : hdP plainP = z_hd := by kernel_rfl
theorem rgt_pl : rgtB plainP = true := by kernel_rfl
theorem hom_72 : homI 72 = 36 := by kernel_rfl
theorem take_app {a t : List Int} (h : a.length = 480) : (a ++ t).take 480 = a := List.take_left' h
theorem drop_app {a t : List Int} (h : a.length = 480) : (a ++ t).drop 480 = t := List.drop_left' h
theorem chk_own {m : List Int} {p : SupP} (h : (hdP p).length = 480) : chkE m (enc9 m p) = 0 := by
  refine chkE_0 ?_ ?_
  · rw [enc9, List.length_append, h, tag9_len]
  · rw [tagB, enc9, take_app h, drop_app h]
theorem chk_pl : chkE m_2 (enc9 m_1 plainP) = 13 := by
  have h : (hdP plainP).length = 480 := by rw [hd_pl]; kernel_rfl
  refine chkE_13 ?_ ?_
  · rw [enc9, List.length_append, h, tag9_len]
  · rw [tagB, enc9, take_app h, drop_app h, tag9, tag9, hd_pl, mk_1, mk_2, mt_1, mt_2]
    decide
theorem zer_rng {n : Nat} : ∀ y ∈ zerosI n, inR .u8 y := fun y hy => by
  rw [List.eq_of_mem_replicate hy]
  exact ⟨by decide, by decide⟩
theorem pl_len : ∀ j, j < 4 → okLen (plainP.x j) := fun j _ => by
  show okLen (if j = 2 then ⟨true, 1, 1, zerosI 16, zerosI 32, zerosI 24⟩ else slot0)
  split <;> exact ⟨⟨by decide, zer_rng⟩, ⟨by decide, zer_rng⟩, ⟨by decide, zer_rng⟩⟩
theorem tag9_rng (m b : List Int) : ∀ y ∈ tag9 m b, inR .u8 y := fun y hy => by
  obtain ⟨j, hj, e⟩ := List.getElem_of_mem hy
  have h : 0 ≤ nthI (tag9 m b) j ∧ nthI (tag9 m b) j ≤ 255 := digest_rng _ j
  have e2 : nthI (tag9 m b) j = y := by
    rw [← e, nthI, List.getD_eq_getElem?_getD, List.getElem?_eq_getElem hj]
    rfl
  rw [e2] at h
  exact h
theorem dec_pl : dec9P (enc9 m_1 plainP) = cut4 plainP ∧ dec9E (enc9 m_1 plainP) = 0 :=
  (dec_of_enc rgt_pl ⟨by decide, zer_rng⟩ ⟨by decide, zer_rng⟩ pl_len (tag9_len _ _) (tag9_rng _ _)).2
theorem hdl_pl : (hdP plainP).length = 480 := by rw [hd_pl]; kernel_rfl
theorem encl_pl : (enc9 m_1 plainP).length = 512 := by rw [enc9, List.length_append, tag9_len, hdl_pl]
theorem chk_pl2 : chkE [2, 0, 0, 0, 0, 0, 0, 0, 0, 0, 0, 0, 0, 0, 0, 0, 0, 0, 0, 0, 0, 0, 0, 0, 0, 0, 0, 0, 0, 0, 0, 0] (enc9 [1, 0, 0, 0, 0, 0, 0, 0, 0, 0, 0, 0, 0, 0, 0, 0, 0, 0, 0, 0, 0, 0, 0, 0, 0, 0, 0, 0, 0, 0, 0, 0] plainP) = 13 := by
  have h := chk_pl
  unfold m_1 m_2 at h
  exact h
theorem own_pl2 : chkE [1, 0, 0, 0, 0, 0, 0, 0, 0, 0, 0, 0, 0, 0, 0, 0, 0, 0, 0, 0, 0, 0, 0, 0, 0, 0, 0, 0, 0, 0, 0, 0] (enc9 [1, 0, 0, 0, 0, 0, 0, 0, 0, 0, 0, 0, 0, 0, 0, 0, 0, 0, 0, 0, 0, 0, 0, 0, 0, 0, 0, 0, 0, 0, 0, 0] plainP) = 0 := chk_own hdl_pl
theorem encl_pl2 : (enc9 [1, 0, 0, 0, 0, 0, 0, 0, 0, 0, 0, 0, 0, 0, 0, 0, 0, 0, 0, 0, 0, 0, 0, 0, 0, 0, 0, 0, 0, 0, 0, 0] plainP).length = 512 := by
  have h := encl_pl
  unfold m_1 at h
  exact h
theorem eqZ_cut (p : SupP) : eqZ (supA apf (cut4 p)) (supA apf p) = true := by
  refine decide_eq_true ?_
  simp only [supA, litsV, List.range_succ, List.range_zero, List.nil_append, List.cons_append, List.flatMap_cons, List.flatMap_nil, cut4, apf]
  simp
def lenP (p : SupP) : Prop := p.root.length = 32 ∧ p.salt.length = 16 ∧ ∀ j, j < 4 → (p.x j).s.length = 16 ∧ (p.x j).w.length = 32 ∧ (p.x j).c.length = 24
def supKs : List CK := [.i .i64, .i .i64, .i .i64, .i .u64, .i .i64, .i .i64, .i .u8, .i .u8, .i .u8, .i .u8, .i .u8, .i .u8, .i .u8, .i .u8, .i .u8, .i .u8, .i .u8, .i .u8, .i .u8, .i .u8, .i .u8, .i .u8, .i .u8, .i .u8, .i .u8, .i .u8, .i .u8, .i .u8, .i .u8, .i .u8, .i .u8, .i .u8, .i .u8, .i .u8, .i .u8, .i .u8, .i .u8, .i .u8, .i .u8, .i .u8, .i .u8, .i .u8, .i .u8, .i .u8, .i .u8, .i .u8, .i .u8, .i .u8, .i .u8, .i .u8, .i .u8, .i .u8, .i .u8, .i .u8, .b, .i .i64, .i .i64, .i .u8, .i .u8, .i .u8, .i .u8, .i .u8, .i .u8, .i .u8, .i .u8, .i .u8, .i .u8, .i .u8, .i .u8, .i .u8, .i .u8, .i .u8, .i .u8, .i .u8, .i .u8, .i .u8, .i .u8, .i .u8, .i .u8, .i .u8, .i .u8, .i .u8, .i .u8, .i .u8, .i .u8, .i .u8, .i .u8, .i .u8, .i .u8, .i .u8, .i .u8, .i .u8, .i .u8, .i .u8, .i .u8, .i .u8, .i .u8, .i .u8, .i .u8, .i .u8, .i .u8, .i .u8, .i .u8, .i .u8, .i .u8, .i .u8, .i .u8, .i .u8, .i .u8, .i .u8, .i .u8, .i .u8, .i .u8, .i .u8, .i .u8, .i .u8, .i .u8, .i .u8, .i .u8, .i .u8, .i .u8, .i .u8, .i .u8, .i .u8, .i .u8, .i .u8, .i .u8, .i .u8, .i .u8, .b, .i .i64, .i .i64, .i .u8, .i .u8, .i .u8, .i .u8, .i .u8, .i .u8, .i .u8, .i .u8, .i .u8, .i .u8, .i .u8, .i .u8, .i .u8, .i .u8, .i .u8, .i .u8, .i .u8, .i .u8, .i .u8, .i .u8, .i .u8, .i .u8, .i .u8, .i .u8, .i .u8, .i .u8, .i .u8, .i .u8, .i .u8, .i .u8, .i .u8, .i .u8, .i .u8, .i .u8, .i .u8, .i .u8, .i .u8, .i .u8, .i .u8, .i .u8, .i .u8, .i .u8, .i .u8, .i .u8, .i .u8, .i .u8, .i .u8, .i .u8, .i .u8, .i .u8, .i .u8, .i .u8, .i .u8, .i .u8, .i .u8, .i .u8, .i .u8, .i .u8, .i .u8, .i .u8, .i .u8, .i .u8, .i .u8, .i .u8, .i .u8, .i .u8, .i .u8, .i .u8, .i .u8, .i .u8, .i .u8, .i .u8, .b, .i .i64, .i .i64, .i .u8, .i .u8, .i .u8, .i .u8, .i .u8, .i .u8, .i .u8, .i .u8, .i .u8, .i .u8, .i .u8, .i .u8, .i .u8, .i .u8, .i .u8, .i .u8, .i .u8, .i .u8, .i .u8, .i .u8, .i .u8, .i .u8, .i .u8, .i .u8, .i .u8, .i .u8, .i .u8, .i .u8, .i .u8, .i .u8, .i .u8, .i .u8, .i .u8, .i .u8, .i .u8, .i .u8, .i .u8, .i .u8, .i .u8, .i .u8, .i .u8, .i .u8, .i .u8, .i .u8, .i .u8, .i .u8, .i .u8, .i .u8, .i .u8, .i .u8, .i .u8, .i .u8, .i .u8, .i .u8, .i .u8, .i .u8, .i .u8, .i .u8, .i .u8, .i .u8, .i .u8, .i .u8, .i .u8, .i .u8, .i .u8, .i .u8, .i .u8, .i .u8, .i .u8, .i .u8, .i .u8, .i .u8, .b, .i .i64, .i .i64, .i .u8, .i .u8, .i .u8, .i .u8, .i .u8, .i .u8, .i .u8, .i .u8, .i .u8, .i .u8, .i .u8, .i .u8, .i .u8, .i .u8, .i .u8, .i .u8, .i .u8, .i .u8, .i .u8, .i .u8, .i .u8, .i .u8, .i .u8, .i .u8, .i .u8, .i .u8, .i .u8, .i .u8, .i .u8, .i .u8, .i .u8, .i .u8, .i .u8, .i .u8, .i .u8, .i .u8, .i .u8, .i .u8, .i .u8, .i .u8, .i .u8, .i .u8, .i .u8, .i .u8, .i .u8, .i .u8, .i .u8, .i .u8, .i .u8, .i .u8, .i .u8, .i .u8, .i .u8, .i .u8, .i .u8, .i .u8, .i .u8, .i .u8, .i .u8, .i .u8, .i .u8, .i .u8, .i .u8, .i .u8, .i .u8, .i .u8, .i .u8, .i .u8, .i .u8, .i .u8, .i .u8, .i .u8]
theorem supKs_app : [.i .i64] ++ ([.i .i64] ++ ([.i .i64] ++ ([.i .u64] ++ ([.i .i64] ++ ([.i .i64] ++ (List.replicate 32 (.i .u8) ++ (List.replicate 16 (.i .u8) ++ (slotKs ++ (slotKs ++ (slotKs ++ slotKs)))))))))) = supKs := by kernel_rfl
theorem lenP_cut {p : SupP} (h : lenP p) : lenP (cut4 p) := by
  refine ⟨h.1, h.2.1, fun j hj => ?_⟩
  have e : (cut4 p).x j = p.x j := by simp [cut4, hj]
  rw [e]
  exact h.2.2 j hj
theorem sup_ok {p : SupP} (h : lenP p) : kindsP supKs (supA apf p) := by
  have hs : ∀ j, j < 4 → kindsP slotKs (slotA apf (p.x j)) := fun j hj => slot_ok (h.2.2 j hj).1 (h.2.2 j hj).2.1 (h.2.2 j hj).2.2
  refine ⟨⟨trivial, trivial, trivial, trivial, trivial, trivial, trivial, trivial, fun j hj => (hs j hj).1⟩, ?_⟩
  have e : litsV (.rows 75 4 fun j => slotA apf (p.x j)) = litsV (slotA apf (p.x 0)) ++ (litsV (slotA apf (p.x 1)) ++ (litsV (slotA apf (p.x 2)) ++ litsV (slotA apf (p.x 3)))) := by
    simp [litsV, List.range_succ]
  show ([LV.i .i64 p.ph] ++ ([LV.i .i64 p.k] ++ ([LV.i .i64 p.o] ++ ([LV.i .u64 p.q] ++ ([LV.i .i64 p.b] ++ ([LV.i .i64 p.c] ++ (p.root.map (LV.i .u8) ++ (p.salt.map (LV.i .u8) ++ litsV (.rows 75 4 fun j => slotA apf (p.x j)))))))))).map kindL = _
  rw [e]
  simp only [List.map_append, kinds_map, h.1, h.2.1, (hs 0 (by omega)).2, (hs 1 (by omega)).2, (hs 2 (by omega)).2, (hs 3 (by omega)).2]
  exact supKs_app
theorem sup_ok2 {p : SupP} (h : lenP p) : kindsP [.i .i64, .i .i64, .i .i64, .i .u64, .i .i64, .i .i64, .i .u8, .i .u8, .i .u8, .i .u8, .i .u8, .i .u8, .i .u8, .i .u8, .i .u8, .i .u8, .i .u8, .i .u8, .i .u8, .i .u8, .i .u8, .i .u8, .i .u8, .i .u8, .i .u8, .i .u8, .i .u8, .i .u8, .i .u8, .i .u8, .i .u8, .i .u8, .i .u8, .i .u8, .i .u8, .i .u8, .i .u8, .i .u8, .i .u8, .i .u8, .i .u8, .i .u8, .i .u8, .i .u8, .i .u8, .i .u8, .i .u8, .i .u8, .i .u8, .i .u8, .i .u8, .i .u8, .i .u8, .i .u8, .b, .i .i64, .i .i64, .i .u8, .i .u8, .i .u8, .i .u8, .i .u8, .i .u8, .i .u8, .i .u8, .i .u8, .i .u8, .i .u8, .i .u8, .i .u8, .i .u8, .i .u8, .i .u8, .i .u8, .i .u8, .i .u8, .i .u8, .i .u8, .i .u8, .i .u8, .i .u8, .i .u8, .i .u8, .i .u8, .i .u8, .i .u8, .i .u8, .i .u8, .i .u8, .i .u8, .i .u8, .i .u8, .i .u8, .i .u8, .i .u8, .i .u8, .i .u8, .i .u8, .i .u8, .i .u8, .i .u8, .i .u8, .i .u8, .i .u8, .i .u8, .i .u8, .i .u8, .i .u8, .i .u8, .i .u8, .i .u8, .i .u8, .i .u8, .i .u8, .i .u8, .i .u8, .i .u8, .i .u8, .i .u8, .i .u8, .i .u8, .i .u8, .i .u8, .i .u8, .i .u8, .i .u8, .i .u8, .i .u8, .i .u8, .b, .i .i64, .i .i64, .i .u8, .i .u8, .i .u8, .i .u8, .i .u8, .i .u8, .i .u8, .i .u8, .i .u8, .i .u8, .i .u8, .i .u8, .i .u8, .i .u8, .i .u8, .i .u8, .i .u8, .i .u8, .i .u8, .i .u8, .i .u8, .i .u8, .i .u8, .i .u8, .i .u8, .i .u8, .i .u8, .i .u8, .i .u8, .i .u8, .i .u8, .i .u8, .i .u8, .i .u8, .i .u8, .i .u8, .i .u8, .i .u8, .i .u8, .i .u8, .i .u8, .i .u8, .i .u8, .i .u8, .i .u8, .i .u8, .i .u8, .i .u8, .i .u8, .i .u8, .i .u8, .i .u8, .i .u8, .i .u8, .i .u8, .i .u8, .i .u8, .i .u8, .i .u8, .i .u8, .i .u8, .i .u8, .i .u8, .i .u8, .i .u8, .i .u8, .i .u8, .i .u8, .i .u8, .i .u8, .i .u8, .i .u8, .b, .i .i64, .i .i64, .i .u8, .i .u8, .i .u8, .i .u8, .i .u8, .i .u8, .i .u8, .i .u8, .i .u8, .i .u8, .i .u8, .i .u8, .i .u8, .i .u8, .i .u8, .i .u8, .i .u8, .i .u8, .i .u8, .i .u8, .i .u8, .i .u8, .i .u8, .i .u8, .i .u8, .i .u8, .i .u8, .i .u8, .i .u8, .i .u8, .i .u8, .i .u8, .i .u8, .i .u8, .i .u8, .i .u8, .i .u8, .i .u8, .i .u8, .i .u8, .i .u8, .i .u8, .i .u8, .i .u8, .i .u8, .i .u8, .i .u8, .i .u8, .i .u8, .i .u8, .i .u8, .i .u8, .i .u8, .i .u8, .i .u8, .i .u8, .i .u8, .i .u8, .i .u8, .i .u8, .i .u8, .i .u8, .i .u8, .i .u8, .i .u8, .i .u8, .i .u8, .i .u8, .i .u8, .i .u8, .i .u8, .i .u8, .b, .i .i64, .i .i64, .i .u8, .i .u8, .i .u8, .i .u8, .i .u8, .i .u8, .i .u8, .i .u8, .i .u8, .i .u8, .i .u8, .i .u8, .i .u8, .i .u8, .i .u8, .i .u8, .i .u8, .i .u8, .i .u8, .i .u8, .i .u8, .i .u8, .i .u8, .i .u8, .i .u8, .i .u8, .i .u8, .i .u8, .i .u8, .i .u8, .i .u8, .i .u8, .i .u8, .i .u8, .i .u8, .i .u8, .i .u8, .i .u8, .i .u8, .i .u8, .i .u8, .i .u8, .i .u8, .i .u8, .i .u8, .i .u8, .i .u8, .i .u8, .i .u8, .i .u8, .i .u8, .i .u8, .i .u8, .i .u8, .i .u8, .i .u8, .i .u8, .i .u8, .i .u8, .i .u8, .i .u8, .i .u8, .i .u8, .i .u8, .i .u8, .i .u8, .i .u8, .i .u8, .i .u8, .i .u8, .i .u8, .i .u8] (.cat 1 353 (.int .i64 p.ph) (.cat 1 352 (.int .i64 p.k) (.cat 1 351 (.int .i64 p.o) (.cat 1 350 (.int .u64 p.q) (.cat 1 349 (.int .i64 p.b) (.cat 1 348 (.int .i64 p.c) (.cat 32 316 (.ints .u8 32 p.root) (.cat 16 300 (.ints .u8 16 p.salt) (.rows 75 4 fun j => slotA apf (p.x j)))))))))) := sup_ok h
theorem lenP_pl : lenP plainP := ⟨by decide, by decide, fun j hj => ⟨(pl_len j hj).1.1, (pl_len j hj).2.1.1, (pl_len j hj).2.2.1⟩⟩
theorem bk_t {x : Bool} (h : x = false) : ¬ x = true := by rw [h]; decide
theorem bk_f {x : Bool} (h : x = true) : ¬ x = false := by rw [h]; decide
def cFix9 (_ : AP) : Ctr
  | [] => .ok ⟨.tt, [], []⟩
  | _ => .fail 401
end Go.Cx.Rb

/- The superblocks' laws have their fixed answers. -/
namespace Go.Cx.Rb
open Go Go.Cx Go.Proofs

theorem apf_e {α β : Type} (f : α → β) (x : α) : apf α β f x = f x := congrArg (fun g : α → β => g x) (rfl : apf α β f = f)
theorem cmF_e : cmF .eql = eqI := rfl
def eqSup (p q : SupP) : Prop := p = q
def cE55 (ap : AP) (p : SupP) : Ctr
  | [.v (.cat 1 353 (.int .i64 ph) (.cat 1 352 (.int .i64 k) (.cat 1 351 (.int .i64 o) (.cat 1 350 (.int .u64 q) (.cat 1 349 (.int .i64 b) (.cat 1 348 (.int .i64 c) (.cat 32 316 (.ints .u8 32 root) (.cat 16 300 (.ints .u8 16 salt) (.rows 75 4 f))))))))), .v (.ints .u8 32 m)] => .chk (ap _ _ isSl f) <| .chk (ap _ _ (ap _ _ eqSup p) ⟨ph, k, o, q, b, c, root, salt, ap _ _ unslots f⟩) <|
      .ok ⟨.tcons (.sl 0 [] 0 512 1 none) (.tcons (.int .i64 0) .tnil), [], [.ints .u8 512 (ap _ _ (ap _ _ enc9 m) p)]⟩
  | _ => .fail 402
theorem sub53 (args : List Arg) (out : Out) (h : (cE55 apf plainP args).to out) : (cEnc9 apf args).to out := by
  unfold cE55 at h
  split at h
  · rename_i ph k o q b c root salt f m
    obtain ⟨h1, h2, h⟩ := h
    cases h
    have h2 : plainP = ⟨ph, k, o, q, b, c, root, salt, unslots f⟩ := h2
    have hE : rgtE plainP = 0 := by simp only [rgtE, rgt_pl]; exact rfl
    refine ⟨h1, .inl ⟨?_, ?_⟩⟩
    · show rgtB ⟨ph, k, o, q, b, c, root, salt, unslots f⟩ = true
      rw [← h2]
      exact rgt_pl
    · show Out.mk (.tcons _ (.tcons (.int .i64 (rgtE ⟨ph, k, o, q, b, c, root, salt, unslots f⟩)) .tnil)) [] [.ints .u8 512 (enc9 m ⟨ph, k, o, q, b, c, root, salt, unslots f⟩)] = _
      rw [← h2, hE]
      rfl
  · exact h.elim
theorem s53p : Sound Tryd.prog G1 53 (pu 53) (cE55 apf plainP) := s53.sub sub53
def cD55 (ap : AP) (p : SupP) : Ctr
  | [.b _ 1 (.ints .u8 _ b)] => .chk (ap _ _ (ap _ _ eqL' b) (ap _ _ (ap _ _ enc9 m_1) p)) <| .ok ⟨.tcons (supA ap (ap _ _ cut4 p)) (.tcons (.int .i64 0) .tnil), [], []⟩
  | _ => .fail 403
theorem sub60 (args : List Arg) (out : Out) (h : (cD55 apf plainP args).to out) : (cDec9 apf args).to out := by
  unfold cD55 at h
  split at h
  · rename_i n n' b
    obtain ⟨h1, h⟩ := h
    cases h
    have h1 : b = enc9 m_1 plainP := h1
    show Out.mk (.tcons (supA apf (dec9P b)) (.tcons (.int .i64 (dec9E b)) .tnil)) [] [] = _
    rw [h1, dec_pl.1, dec_pl.2]
    rfl
  · exact h.elim
theorem s60p : Sound Tryd.prog G1 60 (pu 60) (cD55 apf plainP) := s60.sub sub60
set_option maxRecDepth 20000 in
set_option maxHeartbeats 4000000 in
theorem vc55 (args : List Arg) (out : Out) (h : (cFix9 apf args).to out) (hok : okAs args) :
    args.length = ic55.nargs ∧ ic55.nargs ≤ ic55.ntmps ∧ ∃ A, run apf [(123, cPl apf plainP), (53, cE55 apf plainP), (60, cD55 apf plainP), (58, (fun args => cHom apf (args.map litA))), (62, cChk9 apf)] A ic55.body (fnQ apf args out ic55.res) (st0 G1 true args) := by
  unfold cFix9 at h
  split at h
  · cases h
    refine ⟨rfl, by decide, [], ?_⟩
    show run apf _ _ _ _ (st0 [(1, .ints .u32 64 kk)] _ _)
    have hc := chk_pl2
    have hc1 := own_pl2
    have hl := encl_pl2
    have hz := eqZ_cut plainP
    have h72 := hom_72
    have hn := lenP_pl
    generalize hK : kk = K
    generalize hP : plainP = P at *
    clear hP
    generalize hap : apf = ap
    cbv
    repeat' first
      | exact True.intro
      | (intro (hh : _ = true); first | with_reducible exact absurd hh (bk_t (by assumption)) | cbv)
      | (intro (hh : _ = false); first | with_reducible exact absurd hh (bk_f (by assumption)) | cbv)
      | with_reducible refine And.intro ?_ ?_
      | fail
    all_goals have e1 : subL (enc9 [1, 0, 0, 0, 0, 0, 0, 0, 0, 0, 0, 0, 0, 0, 0, 0, 0, 0, 0, 0, 0, 0, 0, 0, 0, 0, 0, 0, 0, 0, 0, 0] P) 0 512 = enc9 [1, 0, 0, 0, 0, 0, 0, 0, 0, 0, 0, 0, 0, 0, 0, 0, 0, 0, 0, 0, 0, 0, 0, 0, 0, 0, 0, 0, 0, 0, 0, 0] P := subL_id hl
    all_goals generalize hU : subL = U at *
    all_goals generalize hC : chkE = C at *
    all_goals generalize hN : enc9 = N at *
    all_goals generalize hH : homI = H at *
    all_goals generalize hZ : eqZ = Z at *
    all_goals clear hC hN hH hZ hU
    all_goals subst hap
    all_goals first
      | (rename (apf _ _ (apf _ _ (cmF BinOp.eql) (apf _ _ H 72)) 36 = false) => hx
         exact eq_f.1 hx h72)
      | (rename (apf _ _ (apf _ _ (cmF BinOp.eql) (apf _ _ (apf _ _ C _) _)) 0 = false) => hx
         simp only [apf_e, cmF_e, eq_f, e1, hc1, ne_eq, not_true_eq_false] at hx
         done)
      | (rename (apf _ _ (apf _ _ (cmF BinOp.eql) (apf _ _ (apf _ _ C _) _)) 13 = false) => hx
         simp only [apf_e, cmF_e, eq_f, e1, hc, ne_eq, not_true_eq_false] at hx
         done)
      | (rename (apf Int Bool (apf Int (Int → Bool) (cmF BinOp.eql) (0 : Int)) (0 : Int) = false) => hx
         have hx : eqI 0 0 = false := hx
         exact eq_f.1 hx rfl)
      | (rename_i hh
         exact tf_no ((show Z (supA apf (cut4 P)) (supA apf P) = true from hz).symm.trans hh))
      | exact ⟨P.x, rfl⟩
      | (show eqSup P _
         exact rfl)
      | exact e1
      | (show leN (addN 0 512) (V.cnt (.ints .u8 512 _))
         simp only [leN, addN, V.cnt]
         omega)
      | (show kindsP _ (supA apf (cut4 P))
         exact sup_ok2 (lenP_cut hn))
      | (show kindsP _ (supA apf P)
         exact sup_ok2 hn)
      | skip
  · exact h.elim
theorem s55 : Sound Tryd.prog G1 55 (pu 55) (cFix9 apf) := fn_sound rfl Tryd.call55 ok55 co55 (env_cons s123 (env_cons s53p (env_cons s60p (env_cons s58 (env_cons s62 env_nil))))) vc55
end Go.Cx.Rb
