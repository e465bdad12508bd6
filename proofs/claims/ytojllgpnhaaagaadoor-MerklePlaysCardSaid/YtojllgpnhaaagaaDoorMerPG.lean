/-
  What the laws of this claim stand on, part G: proved parts, no statement of its own.
-/
import Derived.Test.YtojllgpnhaaagaaDoorMerPF
import Derived.Test.YtojllgpnhaaagaaDoorCards
import Derived.Test.YtojllgpnhaaagaaDoorTie
import Derived.ChangeMaps5
/- CxbMJ -/
namespace Go.Cx.Rb
open Go Go.Cx Go.Proofs
noncomputable def cLaw4 (ap : AP) : Ctr
  | [.v (.dsl n 32 (.rows 32 m f))] => .chk (ap _ _ (ap _ _ eqN n) m) <| .chk (ap _ _ isRw f) <| .chk (ap _ _ (ap _ _ leN n) 4398046510976) <| .ok ⟨.tt, [], []⟩
  | _ => .fail 620
/-- the last i of a row, noughts ahead of them -/
def backLL (l : List (List Int)) (i : Nat) : List (List Int) := List.replicate (l.length - i) (zerosI 32) ++ l.drop (l.length - i)
noncomputable def aOr (ap : AP) (n : Nat) (f : Nat → V) (L : List (List Int)) : List (Nat × Ann) := [(0, .inv Nat (fun i => ⟨[(0, .dsl n 32 (.rows 32 n f)), (3, .ptr 31 []), (5, .ptr 38 []), (7, .ptr 45 []), (71, .int .i64 (ap _ _ lenI n)), (72, .int .i64 (ap _ _ lenI i))],
  [(31, ⟨.own, treeL ap (ap _ _ hN n) (ap _ _ (ap _ _ fillLL L) i)⟩), (38, ⟨.own, treeL ap (ap _ _ hN n) (ap _ _ (ap _ _ backLL L) i)⟩), (45, ⟨.own, treeL ap (ap _ _ hN n) L⟩)], []⟩) (fun i => i ≤ n) (fun i => n - i))]
theorem unR_c {n : Nat} {v : List Int} : unR n (fun _ => .ints .u8 32 v) = List.replicate n v := by
  simp only [unR]
  apply List.ext_getElem (by simp)
  intro i h1 h2
  simp only [List.getElem_map, List.getElem_range, List.getElem_replicate]
  rfl
theorem fl_0 {l : List (List Int)} {n : Nat} (h : l.length = n) : fillLL l 0 = List.replicate n [0, 0, 0, 0, 0, 0, 0, 0, 0, 0, 0, 0, 0, 0, 0, 0, 0, 0, 0, 0, 0, 0, 0, 0, 0, 0, 0, 0, 0, 0, 0, 0] := by
  subst h; rw [fillLL]; rfl
theorem bk_0 {l : List (List Int)} {n : Nat} (h : l.length = n) : backLL l 0 = List.replicate n [0, 0, 0, 0, 0, 0, 0, 0, 0, 0, 0, 0, 0, 0, 0, 0, 0, 0, 0, 0, 0, 0, 0, 0, 0, 0, 0, 0, 0, 0, 0, 0] := by
  subst h; rw [backLL, Nat.sub_zero, List.drop_length, List.append_nil]; rfl
theorem bk_end {l : List (List Int)} {i : Nat} (h : l.length ≤ i) : backLL l i = l := by
  rw [backLL, Nat.sub_eq_zero_of_le h]; rfl
theorem fl_len {l : List (List Int)} {i : Nat} (h : i ≤ l.length) : (fillLL l i).length = l.length := by
  simp only [fillLL, List.length_append, List.length_take, List.length_replicate]; omega
theorem bk_len {l : List (List Int)} {i : Nat} (h : i ≤ l.length) : (backLL l i).length = l.length := by
  simp only [backLL, List.length_append, List.length_drop, List.length_replicate]; omega
theorem get_ext {a b : List (List Int)} (h : a.length = b.length) (hg : ∀ t, t < a.length → getL a t = getL b t) : a = b := by
  refine List.ext_getElem h fun j h1 h2 => ?_
  have := hg j h1
  simpa [getL, List.getD_eq_getElem?_getD, h1, h2] using this
theorem bk_get {u : List (List Int)} {i t : Nat} (_hi : i ≤ u.length) (_h : t < u.length) : getL (backLL u i) t = if t < u.length - i then zerosI 32 else getL u t := by
  simp only [getL, backLL, List.getD_eq_getElem?_getD, List.getElem?_append, List.length_replicate, List.getElem?_replicate, List.getElem?_drop]
  by_cases c : t < u.length - i
  · rw [if_pos c, if_pos c, if_pos c]; rfl
  · rw [if_neg c, if_neg c, show u.length - i + (t - (u.length - i)) = t by omega]
theorem fl_put {l : List (List Int)} {i : Nat} (h : i < l.length) : setT (fillLL l i) i (getL l i) = fillLL l (i + 1) := by
  rw [setT_in (by rw [fl_len (by omega)]; omega), Int.toNat_natCast]
  refine get_ext (by rw [List.length_set, fl_len (by omega), fl_len (by omega)]) fun t ht => ?_
  rw [List.length_set, fl_len (by omega)] at ht
  rw [set_get (by rw [fl_len (by omega)]; exact h), fl_get ht, fl_get ht]
  by_cases c : t = i
  · subst c; rw [if_pos rfl, if_pos (by omega)]
  · rw [if_neg c]
    by_cases d : t < i
    · rw [if_pos d, if_pos (by omega)]
    · rw [if_neg d, if_neg (by omega)]
theorem bk_put {l : List (List Int)} {i : Nat} (h : i < l.length) : setT (backLL l i) ((l.length - 1 - i : Nat) : Int) (getL l (l.length - 1 - i)) = backLL l (i + 1) := by
  rw [setT_in (by rw [bk_len (by omega)]; omega), Int.toNat_natCast]
  refine get_ext (by rw [List.length_set, bk_len (by omega), bk_len (by omega)]) fun t ht => ?_
  rw [List.length_set, bk_len (by omega)] at ht
  rw [set_get (by rw [bk_len (by omega)]; omega), bk_get (by omega) ht, bk_get (by omega) ht]
  by_cases c : t = l.length - 1 - i
  · subst c; rw [if_pos rfl, if_neg (by omega)]
  · rw [if_neg c]
    by_cases d : t < l.length - i
    · rw [if_pos d, if_pos (by omega)]
    · rw [if_neg d, if_neg (by omega)]
theorem ofacts {n i : Nat} {g : Nat → List Int} (c : i < n) (h1 : n ≤ 256) : wadd .i64 (i : Int) 1 = ((i + 1 : Nat) : Int) ∧ wsub .i64 (wsub .i64 (n : Int) 1) (i : Int) = ((n - 1 - i : Nat) : Int) ∧ (fillLL (unR n (rowV apf g)) i).length = n ∧ (backLL (unR n (rowV apf g)) i).length = n ∧
    setT (fillLL (unR n (rowV apf g)) i) (i : Int) (g i) = fillLL (unR n (rowV apf g)) (i + 1) ∧ setT (backLL (unR n (rowV apf g)) i) ((n - 1 - i : Nat) : Int) (g (n - 1 - i)) = backLL (unR n (rowV apf g)) (i + 1) := by
  have hl : (unR n (rowV apf g)).length = n := unR_len
  refine ⟨inc_i64 (by omega), ?_, (fl_len (by rw [hl]; omega)).trans hl, (bk_len (by rw [hl]; omega)).trans hl, ?_, ?_⟩
  · rw [wsub_i64 (x := (n : Int)) (y := 1) (by omega), wsub_i64 (by omega)]
    omega
  · have pA := fl_put (l := unR n (rowV apf g)) (i := i) (by rw [hl]; exact c)
    rw [unR_get c, unRw_r] at pA
    exact pA
  · have pB := bk_put (l := unR n (rowV apf g)) (i := i) (by rw [hl]; exact c)
    rw [hl, unR_get (show n - 1 - i < n by omega), unRw_r] at pB
    exact pB
theorem lv_eq {n : Nat} {o : List Nat} {a b : List (List Int)} (h : a = b) : eqRowsO n o (levV apf (lvl a)) (levV apf (lvl b)) := by
  subst h; exact fun _ _ _ => rfl
set_option maxRecDepth 20000 in
set_option maxHeartbeats 1600000 in
theorem vc4 (args : List Arg) (out : Out) (h : (cLaw4 apf args).to out) (hok : okAs args) :
    args.length = ic4.nargs ∧ ic4.nargs ≤ ic4.ntmps ∧ ∃ A, run apf [(21, cFixM apf), (22, cNewT apf), (23, cRootT apf), (24, cSetT apf)] A ic4.body (fnQ apf args out ic4.res) (st0 G2 true args) := by
  unfold cLaw4 at h
  split at h
  · rename_i n m f
    obtain ⟨h1, hf, h2, h⟩ := h
    cases h
    obtain rfl : n = m := h1
    have h2 : n ≤ 4398046510976 := h2
    generalize hg : unRw f = g
    have hf : f = rowV apf g := by rw [← hg]; exact hf
    clear hg
    subst hf
    have hl : (unR n (rowV apf g)).length = n := unR_len
    refine ⟨rfl, by decide, aOr apf n (rowV apf g) (apf _ _ (apf _ _ unR n) (rowV apf g)), ?_⟩
    show run apf _ _ _ _ (st0 [(0, .ints .u32 64 kk), (1, .ints .u32 64 kk)] _ _)
    generalize hK : kk = K
    generalize hap : apf = ap
    cbv
    repeat' first
      | exact True.intro
      | (intro (hh : _ = true); first | with_reducible exact absurd hh (bk_t (by assumption)) | cbv)
      | (intro (hh : _ = false); first | with_reducible exact absurd hh (bk_f (by assumption)) | cbv)
      | with_reducible refine And.intro ?_ ?_
      | (refine ⟨0, ?_, ?_⟩; rotate_left 1; (try cbv); with_reducible refine And.intro ?_ ?_)
      | fail
    all_goals first
      | (intro (i : Nat) hi k1 k2
         clear k1 k2
         skip
         all_goals cbv
         all_goals (
           repeat' first
             | exact True.intro
             | (intro (hh : _ = true); first | with_reducible exact absurd hh (bk_t (by assumption)) | cbv)
             | (intro (hh : _ = false); first | with_reducible exact absurd hh (bk_f (by assumption)) | cbv)
             | with_reducible refine And.intro ?_ ?_
             | (refine ⟨i + 1, ?_, (?_ : _ < _), ?_⟩; rotate_left 2; (try cbv); with_reducible refine And.intro ?_ ?_; (repeat' with_reducible refine And.intro ?_ ?_); (all_goals (fail_if_success (with_reducible show False))))
             | fail))
      | skip
    all_goals subst hap
    all_goals try simp only [cast_fix] at *
    all_goals try simp only [apf, Nat.sub_eq, Nat.succ_eq_add_one, cmF, arF, eqI', eqB', ltN, eqN, addN, leN, appN, mksN, V.cnt, Nat.zero_add, eq_t, eq_f, ne_t, ne_f, lt_t, lt_f, gt_f, eqL_t, eqL_f, lenI, natI, Int.toNat_natCast] at *
    all_goals try simp only [unLv_e, unT_e] at *
    all_goals first
      | (have c : i < n := by omega
         have F := ofacts (g := g) c (by omega)
         obtain ⟨w0, w2, lA, lB, pA, pB⟩ := F
         try simp only [w0, w2, Int.toNat_natCast, pA, pB] at *)
      | (have c : n ≤ i := by omega
         have eA := fl_end (u := unR n (rowV apf g)) (i := i) (by rw [hl]; omega)
         have eB := bk_end (l := unR n (rowV apf g)) (i := i) (by rw [hl]; omega)
         try simp only [eA, eB] at *)
      | skip
    all_goals try simp only [apf, Nat.sub_eq, Nat.succ_eq_add_one, cmF, arF, eqI', eqL', eqB', ltN, eqN, addN, subN, leN, minN, appN, mksN, V.cnt, llen, Nat.zero_add, Nat.add_zero, eq_t, eq_f, ne_t, ne_f, lt_t, lt_f, gt_t, gt_f, ge_t, ge_f, eqL_t, eqL_f, eqB_t, eqB_f, notB_t, notB_f, lenI, lenL, natI, Int.toNat_natCast] at *
    all_goals first
      | omega
      | exact fun _ _ => rfl
      | exact fun _ _ _ => rfl
      | exact lv_eq ((fl_0 hl).trans unR_c.symm)
      | exact lv_eq ((bk_0 hl).trans unR_c.symm)
      | exact tree_is lA (by omega) (by omega)
      | exact tree_is lB (by omega) (by omega)
      | exact absurd (has_ok (l := fillLL (unR n (rowV apf g)) i) (i := (i : Int)) (by rw [lA]; omega)) (by assumption)
      | exact absurd (has_ok (l := backLL (unR n (rowV apf g)) i) (i := ((n - 1 - i : Nat) : Int)) (by rw [lB]; omega)) (by assumption)
      | contradiction
      | (have hb : badN n = true := by assumption
         simp [badN] at hb
         omega)
      | exact isRw_c
      | exact isRw_l
      | exact tree_lv
      | exact tree_ps hl (by omega) (by omega)
      | exact tree_is hl (by omega) (by omega)
      | trace_state
  · exact h.elim
theorem s4 : Sound Tryd.prog G2 4 (puM 4) (cLaw4 apf) := fn_sound rfl Tryd.call4 ok4 co4 (env_cons s21 (env_cons s22 (env_cons s23' (env_cons s24 env_nil)))) vc4
end Go.Cx.Rb
/- CxbLaw1m -/
namespace Go.Proofs.YtojllgpnhaaagaaDoor.Law
open Go Go.ChangeShapes Go.WideShapes Go.ChangeAt Go.RowKit Go.Cx Go.Cx.Rb
theorem own : ownKnob Tryd.prog.godebug = none := by kernel_rfl
theorem gK : Tryd.prog.globalNamed "cloister/cloisterref01.k" = some 0 := by kernel_rfl
theorem gKeys : Tryd.prog.globalNamed "cloister/sha.keys" = some 1 := by kernel_rfl
theorem gKT : (Tryd.prog.globals[0]?).map (·.type) = some 188 := by kernel_rfl
theorem gKeysT : (Tryd.prog.globals[1]?).map (·.type) = some 188 := by kernel_rfl
theorem cells188 : Tryd.prog.cellsOf 188 = 64 := by kernel_rfl
theorem cells184 : Tryd.prog.cellsOf 184 = 1 := by kernel_rfl
theorem cells5 : Tryd.prog.cellsOf 5 = 1 := by kernel_rfl
theorem kkIn : ∀ y ∈ kk, inR .u32 y := by
  have h : ∀ y ∈ kk, 0 ≤ y ∧ y ≤ 4294967295 := by decide
  exact fun y hy => inR_u32.2 (h y hy)
theorem laid_tail {P : Program} {W : World} {x : String × DataW Unit} {rest : List (String × DataW Unit)} (h : laidMet P (x :: rest) W) : laidMet P rest W := by
  obtain ⟨ps, ⟨g', t', cs, fuel, p, q, _, _, _, _, hq, rfl⟩, hn, hc⟩ := h
  exact ⟨q, hq, (List.nodup_append.1 hn).2.1, fun b off hb => hc b off (List.mem_append.2 (.inr hb))⟩
theorem tab_glo {W : World} {name : String} {g : Nat} (hg : Tryd.prog.globalNamed name = some g) (h : Lib.TabIs Tryd.prog W name .u32 kk) : GloIs W g (.ints .u32 64 kk) := by
  have hcell := fun i hi => h.cell hg i hi
  have h0 := hcell 63 (by decide)
  simp only [World.cell?] at h0
  split at h0
  · rename_i c ty fr hh
    have hsz : 63 < c.size := by
      rcases Nat.lt_or_ge 63 c.size with h | h
      · exact h
      · simp only [Option.isSome_none, Bool.false_eq_true, if_false] at h0
        rw [Array.getElem?_eq_none h] at h0
        cases h0
    refine ⟨heap_lt hh, ?_, by decide, kkIn, fun j hj => ?_⟩
    · simp only [bsize, hh, V.size]; omega
    · show W.cell? ⟨g, 0 + j, none⟩ = _
      rw [Nat.zero_add]
      exact hcell j hj
  · cases h0
/-- both tables, as the row's list gives them -/
theorem both {W : World} (h : laidMetH Tryd.prog Rows.slotsWrapRow.laid W) : ∀ n c, Go.Cx.look G2 n = some c → GloIs W n c := by
  have h : laidMet Tryd.prog Rows.slotsWrapRow.laid W := h
  have t0 : Lib.TabIs Tryd.prog W "cloister/cloisterref01.k" .u32 kk := Lib.tabIs_of_head gK gKT Tryd.underlying188 Tryd.underlying184 cells184 cells188 h
  have t1 : Lib.TabIs Tryd.prog W "cloister/sha.keys" .u32 kk := Lib.tabIs_of_head (rest := []) gKeys gKeysT Tryd.underlying188 Tryd.underlying184 cells184 cells188 (laid_tail h)
  intro n c hn
  simp only [Go.Cx.look] at hn
  split at hn
  · rename_i e; subst e; cases hn; exact tab_glo gK t0
  · split at hn
    · rename_i e; subst e; cases hn; exact tab_glo gKeys t1
    · cases hn
/-- a world for the witness: the tables hold what their initialisers lay -/
noncomputable def layKK : Obj → Obj
  | .cells _ t frozen => .cells (kk.map (Value.int .u32)).toArray t frozen
  | o => o
noncomputable def laidWorld (os : Os) : World :=
  { World.holding Tryd.prog os ⟨#[], #[], []⟩ with heap := ((World.holding Tryd.prog os ⟨#[], #[], []⟩).heap.modify 0 layKK).modify 1 layKK }
theorem laid_met (os : Os) (args : Array Value) : laidMet Tryd.prog Rows.slotsWrapRow.laid ((laidWorld os).forCall (fun _ _ => 0) ⟨#[], args, []⟩).memory :=
  laidMet_of_run' 8 (by kernel_rfl) (by kernel_rfl)
end Go.Proofs.YtojllgpnhaaagaaDoor.Law
/- CxbLawIm -/
namespace Go.Proofs.YtojllgpnhaaagaaDoor.Law
open Go Go.ChangeShapes Go.WideShapes Go.ChangeAt Go.RowKit
set_option maxRecDepth 100000
theorem init_l : Tryd.prog.initOrder.toList = ([104, 97, 114, 110, 101, 115, 115, 32, 48, 98, 51, 57, 55, 55, 49, 54, 98, 101, 51, 100, 54, 99, 98, 56, 49, 49, 56, 98, 55, 50, 101, 97, 102, 51, 100, 97, 98, 50, 52, 99, 52, 102, 53, 53, 48, 52, 56, 57, 99, 54, 56, 98, 57, 102, 100, 49, 49, 100, 97, 98, 57, 53, 50, 48, 57, 100, 48, 51, 52, 97, 49, 97, 32, 99, 117, 116, 32, 97, 116, 32, 99, 108, 111, 105, 115, 116, 101, 114, 47, 99, 108, 111, 105, 115, 116, 101, 114, 108, 97, 119, 49, 48, 46, 77, 101, 114, 107, 108, 101, 85, 110, 108, 105, 107, 101, 32, 99, 108, 111, 105, 115, 116, 101, 114, 47, 99, 108, 111, 105, 115, 116, 101, 114, 108, 97, 119, 49, 48, 46, 77, 101, 114, 107, 108, 101, 79, 114, 100, 101, 114, 32, 99, 108, 111, 105, 115, 116, 101, 114, 47, 99, 108, 111, 105, 115, 116, 101, 114, 108, 97, 119, 49, 48, 46, 77, 101, 114, 107, 108, 101, 80, 108, 97, 121, 115, 32, 99, 108, 111, 105, 115, 116, 101, 114, 47, 99, 108, 111, 105, 115, 116, 101, 114, 108, 97, 119, 49, 48, 46, 77, 101, 114, 107, 108, 101, 78, 105, 108, 32, 99, 108, 111, 105, 115, 116, 101, 114, 47, 99, 108, 111, 105, 115, 116, 101, 114, 108, 97, 119, 49, 48, 46, 77, 101, 114, 107, 108, 101, 70, 111, 108, 100, 115, 32, 99, 108, 111, 105, 115, 116, 101, 114, 47, 99, 108, 111, 105, 115, 116, 101, 114, 108, 97, 119, 48, 56, 46, 83, 108, 111, 116, 115, 87, 114, 97, 112, 32, 99, 108, 111, 105, 115, 116, 101, 114, 47, 99, 108, 111, 105, 115, 116, 101, 114, 108, 97, 119, 48, 56, 46, 83, 108, 111, 116, 115, 85, 110, 119, 114, 97, 112, 32, 99, 108, 111, 105, 115, 116, 101, 114, 47, 99, 108, 111, 105, 115, 116, 101, 114, 108, 97, 119, 48, 56, 46, 83, 108, 111, 116, 115, 68, 101, 99, 111, 100, 101, 32, 99, 108, 111, 105, 115, 116, 101, 114, 47, 99, 108, 111, 105, 115, 116, 101, 114, 108, 97, 119, 48, 56, 46, 83, 108, 111, 116, 115, 66, 97, 99, 107, 32, 99, 108, 111, 105, 115, 116, 101, 114, 47, 99, 108, 111, 105, 115, 116, 101, 114, 108, 97, 119, 49, 49, 46, 74, 111, 117, 114, 110, 97, 108, 80, 97, 99, 107, 115, 32, 99, 108, 111, 105, 115, 116, 101, 114, 47, 99, 108, 111, 105, 115, 116, 101, 114, 108, 97, 119, 49, 49, 46, 74, 111, 117, 114, 110, 97, 108, 85, 110, 112, 97, 99, 107, 115, 32, 99, 108, 111, 105, 115, 116, 101, 114, 47, 99, 108, 111, 105, 115, 116, 101, 114, 108, 97, 119, 49, 49, 46, 74, 111, 117, 114, 110, 97, 108, 66, 97, 99, 107, 32, 99, 108, 111, 105, 115, 116, 101, 114, 47, 99, 108, 111, 105, 115, 116, 101, 114, 108, 97, 119, 48, 57, 46, 83, 117, 112, 101, 114, 69, 110, 99, 111, 100, 101, 115, 32, 99, 108, 111, 105, 115, 116, 101, 114, 47, 99, 108, 111, 105, 115, 116, 101, 114, 108, 97, 119, 48, 57, 46, 83, 117, 112, 101, 114, 68, 101, 99, 111, 100, 101, 115, 32, 99, 108, 111, 105, 115, 116, 101, 114, 47, 99, 108, 111, 105, 115, 116, 101, 114, 108, 97, 119, 48, 57, 46, 83, 117, 112, 101, 114, 66, 97, 99, 107, 32, 99, 108, 111, 105, 115, 116, 101, 114, 47, 99, 108, 111, 105, 115, 116, 101, 114, 108, 97, 119, 48, 55, 46, 83, 101, 97, 108, 67, 108, 111, 115, 101, 115, 32, 99, 108, 111, 105, 115, 116, 101, 114, 47, 99, 108, 111, 105, 115, 116, 101, 114, 108, 97, 119, 48, 55, 46, 83, 101, 97, 108, 79, 112, 101, 110, 115, 32, 99, 108, 111, 105, 115, 116, 101, 114, 47, 99, 108, 111, 105, 115, 116, 101, 114, 108, 97, 119, 48, 55, 46, 83, 101, 97, 108, 66, 97, 99, 107].map Char.ofNat) := by
  rw [show Tryd.prog.initOrder = String.ofList ([104, 97, 114, 110, 101, 115, 115, 32, 48, 98, 51, 57, 55, 55, 49, 54, 98, 101, 51, 100, 54, 99, 98, 56, 49, 49, 56, 98, 55, 50, 101, 97, 102, 51, 100, 97, 98, 50, 52, 99, 52, 102, 53, 53, 48, 52, 56, 57, 99, 54, 56, 98, 57, 102, 100, 49, 49, 100, 97, 98, 57, 53, 50, 48, 57, 100, 48, 51, 52, 97, 49, 97, 32, 99, 117, 116, 32, 97, 116, 32, 99, 108, 111, 105, 115, 116, 101, 114, 47, 99, 108, 111, 105, 115, 116, 101, 114, 108, 97, 119, 49, 48, 46, 77, 101, 114, 107, 108, 101, 85, 110, 108, 105, 107, 101, 32, 99, 108, 111, 105, 115, 116, 101, 114, 47, 99, 108, 111, 105, 115, 116, 101, 114, 108, 97, 119, 49, 48, 46, 77, 101, 114, 107, 108, 101, 79, 114, 100, 101, 114, 32, 99, 108, 111, 105, 115, 116, 101, 114, 47, 99, 108, 111, 105, 115, 116, 101, 114, 108, 97, 119, 49, 48, 46, 77, 101, 114, 107, 108, 101, 80, 108, 97, 121, 115, 32, 99, 108, 111, 105, 115, 116, 101, 114, 47, 99, 108, 111, 105, 115, 116, 101, 114, 108, 97, 119, 49, 48, 46, 77, 101, 114, 107, 108, 101, 78, 105, 108, 32, 99, 108, 111, 105, 115, 116, 101, 114, 47, 99, 108, 111, 105, 115, 116, 101, 114, 108, 97, 119, 49, 48, 46, 77, 101, 114, 107, 108, 101, 70, 111, 108, 100, 115, 32, 99, 108, 111, 105, 115, 116, 101, 114, 47, 99, 108, 111, 105, 115, 116, 101, 114, 108, 97, 119, 48, 56, 46, 83, 108, 111, 116, 115, 87, 114, 97, 112, 32, 99, 108, 111, 105, 115, 116, 101, 114, 47, 99, 108, 111, 105, 115, 116, 101, 114, 108, 97, 119, 48, 56, 46, 83, 108, 111, 116, 115, 85, 110, 119, 114, 97, 112, 32, 99, 108, 111, 105, 115, 116, 101, 114, 47, 99, 108, 111, 105, 115, 116, 101, 114, 108, 97, 119, 48, 56, 46, 83, 108, 111, 116, 115, 68, 101, 99, 111, 100, 101, 32, 99, 108, 111, 105, 115, 116, 101, 114, 47, 99, 108, 111, 105, 115, 116, 101, 114, 108, 97, 119, 48, 56, 46, 83, 108, 111, 116, 115, 66, 97, 99, 107, 32, 99, 108, 111, 105, 115, 116, 101, 114, 47, 99, 108, 111, 105, 115, 116, 101, 114, 108, 97, 119, 49, 49, 46, 74, 111, 117, 114, 110, 97, 108, 80, 97, 99, 107, 115, 32, 99, 108, 111, 105, 115, 116, 101, 114, 47, 99, 108, 111, 105, 115, 116, 101, 114, 108, 97, 119, 49, 49, 46, 74, 111, 117, 114, 110, 97, 108, 85, 110, 112, 97, 99, 107, 115, 32, 99, 108, 111, 105, 115, 116, 101, 114, 47, 99, 108, 111, 105, 115, 116, 101, 114, 108, 97, 119, 49, 49, 46, 74, 111, 117, 114, 110, 97, 108, 66, 97, 99, 107, 32, 99, 108, 111, 105, 115, 116, 101, 114, 47, 99, 108, 111, 105, 115, 116, 101, 114, 108, 97, 119, 48, 57, 46, 83, 117, 112, 101, 114, 69, 110, 99, 111, 100, 101, 115, 32, 99, 108, 111, 105, 115, 116, 101, 114, 47, 99, 108, 111, 105, 115, 116, 101, 114, 108, 97, 119, 48, 57, 46, 83, 117, 112, 101, 114, 68, 101, 99, 111, 100, 101, 115, 32, 99, 108, 111, 105, 115, 116, 101, 114, 47, 99, 108, 111, 105, 115, 116, 101, 114, 108, 97, 119, 48, 57, 46, 83, 117, 112, 101, 114, 66, 97, 99, 107, 32, 99, 108, 111, 105, 115, 116, 101, 114, 47, 99, 108, 111, 105, 115, 116, 101, 114, 108, 97, 119, 48, 55, 46, 83, 101, 97, 108, 67, 108, 111, 115, 101, 115, 32, 99, 108, 111, 105, 115, 116, 101, 114, 47, 99, 108, 111, 105, 115, 116, 101, 114, 108, 97, 119, 48, 55, 46, 83, 101, 97, 108, 79, 112, 101, 110, 115, 32, 99, 108, 111, 105, 115, 116, 101, 114, 47, 99, 108, 111, 105, 115, 116, 101, 114, 108, 97, 119, 48, 55, 46, 83, 101, 97, 108, 66, 97, 99, 107].map Char.ofNat) by kernel_rfl, String.toList_ofList]
theorem init_w : wordsSigns Tryd.prog.initOrder.toList = [([104, 97, 114, 110, 101, 115, 115].map Char.ofNat), ([48, 98, 51, 57, 55, 55, 49, 54, 98, 101, 51, 100, 54, 99, 98, 56, 49, 49, 56, 98, 55, 50, 101, 97, 102, 51, 100, 97, 98, 50, 52, 99, 52, 102, 53, 53, 48, 52, 56, 57, 99, 54, 56, 98, 57, 102, 100, 49, 49, 100, 97, 98, 57, 53, 50, 48, 57, 100, 48, 51, 52, 97, 49, 97].map Char.ofNat), ([99, 117, 116].map Char.ofNat), ([97, 116].map Char.ofNat), ([99, 108, 111, 105, 115, 116, 101, 114, 47, 99, 108, 111, 105, 115, 116, 101, 114, 108, 97, 119, 49, 48, 46, 77, 101, 114, 107, 108, 101, 85, 110, 108, 105, 107, 101].map Char.ofNat), ([99, 108, 111, 105, 115, 116, 101, 114, 47, 99, 108, 111, 105, 115, 116, 101, 114, 108, 97, 119, 49, 48, 46, 77, 101, 114, 107, 108, 101, 79, 114, 100, 101, 114].map Char.ofNat), ([99, 108, 111, 105, 115, 116, 101, 114, 47, 99, 108, 111, 105, 115, 116, 101, 114, 108, 97, 119, 49, 48, 46, 77, 101, 114, 107, 108, 101, 80, 108, 97, 121, 115].map Char.ofNat), ([99, 108, 111, 105, 115, 116, 101, 114, 47, 99, 108, 111, 105, 115, 116, 101, 114, 108, 97, 119, 49, 48, 46, 77, 101, 114, 107, 108, 101, 78, 105, 108].map Char.ofNat), ([99, 108, 111, 105, 115, 116, 101, 114, 47, 99, 108, 111, 105, 115, 116, 101, 114, 108, 97, 119, 49, 48, 46, 77, 101, 114, 107, 108, 101, 70, 111, 108, 100, 115].map Char.ofNat), ([99, 108, 111, 105, 115, 116, 101, 114, 47, 99, 108, 111, 105, 115, 116, 101, 114, 108, 97, 119, 48, 56, 46, 83, 108, 111, 116, 115, 87, 114, 97, 112].map Char.ofNat), ([99, 108, 111, 105, 115, 116, 101, 114, 47, 99, 108, 111, 105, 115, 116, 101, 114, 108, 97, 119, 48, 56, 46, 83, 108, 111, 116, 115, 85, 110, 119, 114, 97, 112].map Char.ofNat), ([99, 108, 111, 105, 115, 116, 101, 114, 47, 99, 108, 111, 105, 115, 116, 101, 114, 108, 97, 119, 48, 56, 46, 83, 108, 111, 116, 115, 68, 101, 99, 111, 100, 101].map Char.ofNat), ([99, 108, 111, 105, 115, 116, 101, 114, 47, 99, 108, 111, 105, 115, 116, 101, 114, 108, 97, 119, 48, 56, 46, 83, 108, 111, 116, 115, 66, 97, 99, 107].map Char.ofNat), ([99, 108, 111, 105, 115, 116, 101, 114, 47, 99, 108, 111, 105, 115, 116, 101, 114, 108, 97, 119, 49, 49, 46, 74, 111, 117, 114, 110, 97, 108, 80, 97, 99, 107, 115].map Char.ofNat), ([99, 108, 111, 105, 115, 116, 101, 114, 47, 99, 108, 111, 105, 115, 116, 101, 114, 108, 97, 119, 49, 49, 46, 74, 111, 117, 114, 110, 97, 108, 85, 110, 112, 97, 99, 107, 115].map Char.ofNat), ([99, 108, 111, 105, 115, 116, 101, 114, 47, 99, 108, 111, 105, 115, 116, 101, 114, 108, 97, 119, 49, 49, 46, 74, 111, 117, 114, 110, 97, 108, 66, 97, 99, 107].map Char.ofNat), ([99, 108, 111, 105, 115, 116, 101, 114, 47, 99, 108, 111, 105, 115, 116, 101, 114, 108, 97, 119, 48, 57, 46, 83, 117, 112, 101, 114, 69, 110, 99, 111, 100, 101, 115].map Char.ofNat), ([99, 108, 111, 105, 115, 116, 101, 114, 47, 99, 108, 111, 105, 115, 116, 101, 114, 108, 97, 119, 48, 57, 46, 83, 117, 112, 101, 114, 68, 101, 99, 111, 100, 101, 115].map Char.ofNat), ([99, 108, 111, 105, 115, 116, 101, 114, 47, 99, 108, 111, 105, 115, 116, 101, 114, 108, 97, 119, 48, 57, 46, 83, 117, 112, 101, 114, 66, 97, 99, 107].map Char.ofNat), ([99, 108, 111, 105, 115, 116, 101, 114, 47, 99, 108, 111, 105, 115, 116, 101, 114, 108, 97, 119, 48, 55, 46, 83, 101, 97, 108, 67, 108, 111, 115, 101, 115].map Char.ofNat), ([99, 108, 111, 105, 115, 116, 101, 114, 47, 99, 108, 111, 105, 115, 116, 101, 114, 108, 97, 119, 48, 55, 46, 83, 101, 97, 108, 79, 112, 101, 110, 115].map Char.ofNat), ([99, 108, 111, 105, 115, 116, 101, 114, 47, 99, 108, 111, 105, 115, 116, 101, 114, 108, 97, 119, 48, 55, 46, 83, 101, 97, 108, 66, 97, 99, 107].map Char.ofNat)] := by
  rw [init_l]
  kernel_rfl
theorem behind_w : behindMainWord (wordsSigns Tryd.prog.initOrder.toList) = [([99, 117, 116].map Char.ofNat), ([97, 116].map Char.ofNat), ([99, 108, 111, 105, 115, 116, 101, 114, 47, 99, 108, 111, 105, 115, 116, 101, 114, 108, 97, 119, 49, 48, 46, 77, 101, 114, 107, 108, 101, 85, 110, 108, 105, 107, 101].map Char.ofNat), ([99, 108, 111, 105, 115, 116, 101, 114, 47, 99, 108, 111, 105, 115, 116, 101, 114, 108, 97, 119, 49, 48, 46, 77, 101, 114, 107, 108, 101, 79, 114, 100, 101, 114].map Char.ofNat), ([99, 108, 111, 105, 115, 116, 101, 114, 47, 99, 108, 111, 105, 115, 116, 101, 114, 108, 97, 119, 49, 48, 46, 77, 101, 114, 107, 108, 101, 80, 108, 97, 121, 115].map Char.ofNat), ([99, 108, 111, 105, 115, 116, 101, 114, 47, 99, 108, 111, 105, 115, 116, 101, 114, 108, 97, 119, 49, 48, 46, 77, 101, 114, 107, 108, 101, 78, 105, 108].map Char.ofNat), ([99, 108, 111, 105, 115, 116, 101, 114, 47, 99, 108, 111, 105, 115, 116, 101, 114, 108, 97, 119, 49, 48, 46, 77, 101, 114, 107, 108, 101, 70, 111, 108, 100, 115].map Char.ofNat), ([99, 108, 111, 105, 115, 116, 101, 114, 47, 99, 108, 111, 105, 115, 116, 101, 114, 108, 97, 119, 48, 56, 46, 83, 108, 111, 116, 115, 87, 114, 97, 112].map Char.ofNat), ([99, 108, 111, 105, 115, 116, 101, 114, 47, 99, 108, 111, 105, 115, 116, 101, 114, 108, 97, 119, 48, 56, 46, 83, 108, 111, 116, 115, 85, 110, 119, 114, 97, 112].map Char.ofNat), ([99, 108, 111, 105, 115, 116, 101, 114, 47, 99, 108, 111, 105, 115, 116, 101, 114, 108, 97, 119, 48, 56, 46, 83, 108, 111, 116, 115, 68, 101, 99, 111, 100, 101].map Char.ofNat), ([99, 108, 111, 105, 115, 116, 101, 114, 47, 99, 108, 111, 105, 115, 116, 101, 114, 108, 97, 119, 48, 56, 46, 83, 108, 111, 116, 115, 66, 97, 99, 107].map Char.ofNat), ([99, 108, 111, 105, 115, 116, 101, 114, 47, 99, 108, 111, 105, 115, 116, 101, 114, 108, 97, 119, 49, 49, 46, 74, 111, 117, 114, 110, 97, 108, 80, 97, 99, 107, 115].map Char.ofNat), ([99, 108, 111, 105, 115, 116, 101, 114, 47, 99, 108, 111, 105, 115, 116, 101, 114, 108, 97, 119, 49, 49, 46, 74, 111, 117, 114, 110, 97, 108, 85, 110, 112, 97, 99, 107, 115].map Char.ofNat), ([99, 108, 111, 105, 115, 116, 101, 114, 47, 99, 108, 111, 105, 115, 116, 101, 114, 108, 97, 119, 49, 49, 46, 74, 111, 117, 114, 110, 97, 108, 66, 97, 99, 107].map Char.ofNat), ([99, 108, 111, 105, 115, 116, 101, 114, 47, 99, 108, 111, 105, 115, 116, 101, 114, 108, 97, 119, 48, 57, 46, 83, 117, 112, 101, 114, 69, 110, 99, 111, 100, 101, 115].map Char.ofNat), ([99, 108, 111, 105, 115, 116, 101, 114, 47, 99, 108, 111, 105, 115, 116, 101, 114, 108, 97, 119, 48, 57, 46, 83, 117, 112, 101, 114, 68, 101, 99, 111, 100, 101, 115].map Char.ofNat), ([99, 108, 111, 105, 115, 116, 101, 114, 47, 99, 108, 111, 105, 115, 116, 101, 114, 108, 97, 119, 48, 57, 46, 83, 117, 112, 101, 114, 66, 97, 99, 107].map Char.ofNat), ([99, 108, 111, 105, 115, 116, 101, 114, 47, 99, 108, 111, 105, 115, 116, 101, 114, 108, 97, 119, 48, 55, 46, 83, 101, 97, 108, 67, 108, 111, 115, 101, 115].map Char.ofNat), ([99, 108, 111, 105, 115, 116, 101, 114, 47, 99, 108, 111, 105, 115, 116, 101, 114, 108, 97, 119, 48, 55, 46, 83, 101, 97, 108, 79, 112, 101, 110, 115].map Char.ofNat), ([99, 108, 111, 105, 115, 116, 101, 114, 47, 99, 108, 111, 105, 115, 116, 101, 114, 108, 97, 119, 48, 55, 46, 83, 101, 97, 108, 66, 97, 99, 107].map Char.ofNat)] := by
  rw [init_w]
  kernel_rfl
theorem strip_cut {rest : List (List Char)} : stripLifts liftWords (([99, 117, 116].map Char.ofNat) :: rest) = ([], ([99, 117, 116].map Char.ofNat) :: rest) := by
  have go : ∀ os : List String, (∀ o ∈ os, (([99, 117, 116].map Char.ofNat) == o.toList) = false) → stripLifts os (([99, 117, 116].map Char.ofNat) :: rest) = ([], ([99, 117, 116].map Char.ofNat) :: rest) := by
    intro os
    induction os with
    | nil => intro _; rfl
    | cons o os ih =>
      intro h
      simp only [stripLifts, h o (by simp), Bool.false_eq_true, if_false]
      exact ih fun o ho => h o (by simp [ho])
  exact go liftWords (by decide +kernel)
theorem cut_l : "cut".toList = ([99, 117, 116].map Char.ofNat) := by decide +kernel
theorem heads {P : Program} {rest : List (List Char)} (h : behindMainWord (wordsSigns P.initOrder.toList) = ([99, 117, 116].map Char.ofNat) :: rest) : P.headLifts = [] := by
  unfold Program.headLifts
  rw [h, strip_cut]
  simp only [List.head?_cons]
  exact ite_self _
theorem make_cut {P : Program} {rest : List (List Char)} (h : behindMainWord (wordsSigns P.initOrder.toList) = ([99, 117, 116].map Char.ofNat) :: rest) : P.make = some .cut := by
  unfold Program.make
  rw [h]
  simp only [cut_l, show (([99, 117, 116].map Char.ofNat) == "gc".toList) = false by decide +kernel, show (([99, 117, 116].map Char.ofNat) == "spec".toList) = false by decide +kernel, Bool.or_false, Bool.false_eq_true, if_false, BEq.rfl, Bool.true_or, if_true]
theorem lifts_cut {P : Program} {rest : List (List Char)} (h : behindMainWord (wordsSigns P.initOrder.toList) = ([99, 117, 116].map Char.ofNat) :: rest) : P.liftsFinal = false := by
  unfold Program.liftsFinal
  rw [h, heads h]
  simp only [List.head?_cons, show (some ([99, 117, 116].map Char.ofNat) == some "carried".toList) = false by decide +kernel, Bool.false_and, Bool.false_or]
  rfl
theorem enter_cut {P : Program} {rest : List (List Char)} (h : behindMainWord (wordsSigns P.initOrder.toList) = ([99, 117, 116].map Char.ofNat) :: rest) (hl : P.laysLater = false) (hb : P.bearsReflect = false) (hd : P.doorFits [] = true) : P.mayEnter = true := by
  unfold Program.mayEnter
  rw [h]
  simp only [strip_cut, hl, hb, hd, List.head?_cons, cut_l, BEq.rfl, Bool.not_false, Bool.or_true, Bool.and_true, Bool.true_and]
  have e : (([] : List String).contains "reflectrows" || !([] : List String).contains "leanrows") = true := rfl
  rw [e, Bool.or_true]
theorem lays_later : Tryd.prog.laysLater = false := by kernel_rfl
theorem bears : Tryd.prog.bearsReflect = false := by kernel_rfl
theorem door : Tryd.prog.doorFits [] = true := by kernel_rfl
theorem may_enter : Tryd.prog.mayEnter = true := enter_cut behind_w lays_later bears door
theorem lifts_final : Tryd.prog.liftsFinal = false := lifts_cut behind_w
theorem make_is : Tryd.prog.make = some .cut := make_cut behind_w
theorem main_of {P : Program} {s : List Char} {rest : List (List Char)} (h : wordsSigns P.initOrder.toList = ([104, 97, 114, 110, 101, 115, 115].map Char.ofNat) :: s :: rest) (hs : isSumSigns s = true) : P.mainIs = some (true, s) := by
  unfold Program.mainIs
  rw [h]
  have e : "harness".toList = ([104, 97, 114, 110, 101, 115, 115].map Char.ofNat) := by decide +kernel
  simp only [hs, e, Bool.not_true, Bool.false_eq_true, if_false, BEq.rfl, if_true]
theorem sum_l : "0b397716be3d6cb8118b72eaf3dab24c4f550489c68b9fd11dab95209d034a1a".toList = ([48, 98, 51, 57, 55, 55, 49, 54, 98, 101, 51, 100, 54, 99, 98, 56, 49, 49, 56, 98, 55, 50, 101, 97, 102, 51, 100, 97, 98, 50, 52, 99, 52, 102, 53, 53, 48, 52, 56, 57, 99, 54, 56, 98, 57, 102, 100, 49, 49, 100, 97, 98, 57, 53, 50, 48, 57, 100, 48, 51, 52, 97, 49, 97].map Char.ofNat) := by
  rw [show "0b397716be3d6cb8118b72eaf3dab24c4f550489c68b9fd11dab95209d034a1a" = String.ofList ([48, 98, 51, 57, 55, 55, 49, 54, 98, 101, 51, 100, 54, 99, 98, 56, 49, 49, 56, 98, 55, 50, 101, 97, 102, 51, 100, 97, 98, 50, 52, 99, 52, 102, 53, 53, 48, 52, 56, 57, 99, 54, 56, 98, 57, 102, 100, 49, 49, 100, 97, 98, 57, 53, 50, 48, 57, 100, 48, 51, 52, 97, 49, 97].map Char.ofNat) by kernel_rfl, String.toList_ofList]
theorem main_is : Tryd.prog.mainIs = some (true, "0b397716be3d6cb8118b72eaf3dab24c4f550489c68b9fd11dab95209d034a1a".toList) := by
  rw [sum_l]
  exact main_of init_w (by decide +kernel)
end Go.Proofs.YtojllgpnhaaagaaDoor.Law
/- CxLaw2 -/
namespace Go.Cx
open Go Go.ChangeShapes Go.WideShapes Go.ChangeAt Go.RowKit Go.ChangeMaps
section
variable {H : Type} {enc : TypeId × Value → H} {P : Program} {W : World}
def intOf : Value → Int
  | .int _ n => n
  | _ => 0
end
end Go.Cx
/- CxLaw3 -/
namespace Go.Cx
open Go Go.ChangeShapes Go.WideShapes Go.ChangeAt Go.RowKit
section
variable {H : Type} {enc : TypeId × Value → H} {P : Program} {W : World}
theorem add_none {b off j : Nat} : (⟨b, off, none⟩ : Addr).add j = ⟨b, off + j, none⟩ := by
  simp only [Addr.add]
  split
  · rename_i e; subst e; rfl
  · rfl
end
end Go.Cx
/- CxLaw4 -/
namespace Go.Cx
open Go Go.ChangeShapes Go.WideShapes Go.ChangeAt Go.RowKit Go.ChangeMaps
/-- what numbers, arrays and structs of them hold -/
def Flat : V → Prop
  | .bool _ | .int _ _ | .ints _ _ _ => True
  | .cat _ _ a b => Flat a ∧ Flat b
  | .rows _ _ f => ∀ j, Flat (f j)
  | _ => False
theorem flat_rep {I : Nat → Prop} {w : World} {ow : Own} (c : V) : Flat c → ∀ {ρ ρ' : Rho} {q q' : List Nat} {pos pos' : Nat} {g g' : Nat → Option Value}, (∀ j, j < c.size → g' j = g j) → CRep I w ow c ρ q pos g → CRep I w ow c ρ' q' pos' g' := by
  induction c with
  | bool b => intro _ ρ ρ' q q' pos pos' g g' e h; exact (e 0 (by simp [V.size])).trans h
  | int k n => intro _ ρ ρ' q q' pos pos' g g' e h; exact ⟨(e 0 (by simp [V.size])).trans h.1, h.2⟩
  | ints k n l => intro _ ρ ρ' q q' pos pos' g g' e h; exact ⟨h.1, h.2.1, fun j hj => (e j hj).trans (h.2.2 j hj)⟩
  | cat n m a b iha ihb =>
    intro hf ρ ρ' q q' pos pos' g g' e h
    obtain ⟨ha, hb, h1, h2⟩ := h
    refine ⟨ha, hb, iha hf.1 (fun j hj => e j (by simp only [V.size]; omega)) h1, ihb hf.2 (fun j hj => e (n + j) (by simp only [V.size]; omega)) h2⟩
  | rows s n f ih =>
    intro hf ρ ρ' q q' pos pos' g g' e h j hj
    obtain ⟨h1, h2⟩ := h j hj
    refine ⟨h1, ih j (hf j) (fun r hr => e (j * s + r) ?_) h2⟩
    simp only [V.size]
    have : (j + 1) * s ≤ n * s := Nat.mul_le_mul_right _ hj
    rw [Nat.add_mul] at this
    omega
  | _ => intro hf; exact hf.elim
/-- cells that hold c -/
def Piece (W : World) (cs : List Value) (c : V) : Prop := cs.length = c.size ∧ Flat c ∧ CRep (fun b => b < W.heap.size) W (fun _ => none) c noR [] 0 (fun j => cs[j]?)
theorem Piece.cat {W : World} {cs : List Value} {n : Nat} {a b : V} (h1 : Piece W (cs.take n) a) (hn : n ≤ cs.length) (h2 : Piece W (cs.drop n) b) : Piece W cs (.cat n (cs.length - n) a b) := by
  obtain ⟨a1, a2, a3⟩ := h1
  obtain ⟨b1, b2, b3⟩ := h2
  simp only [List.length_take, List.length_drop] at a1 b1
  refine ⟨by simp only [V.size]; omega, ⟨a2, b2⟩, by omega, by omega, flat_rep a a2 (fun j hj => ?_) a3, flat_rep b b2 (fun j hj => ?_) b3⟩
  · rw [List.getElem?_take, if_pos (by omega)]
  · rw [List.getElem?_drop]
section
variable {H : Type} {enc : TypeId × Value → H} {P : Program} {W : World}
theorem piece_int {k : IntKind} {t : TypeId} (ht : P.underlying t = some (.int k)) {fuel : Nat} {cs : List Value} {x : DataW H × List MemPlace} (h : DataW.trod enc P W 0 (fun _ => true) true fuel t cs = some x) : ∃ n, Piece W cs (.int k n) := by
  obtain ⟨b, rfl, _, hw⟩ := DataW.trod_int ht h
  exact ⟨b, rfl, trivial, rfl, lit_wf hw⟩
theorem piece_ints {k : IntKind} {t e : TypeId} {n : Nat} (ht : P.underlying t = some (.array n e)) (he : P.underlying e = some (.int k)) (hc : P.cellsOf e = 1) (hct : P.cellsOf t = n) {fuel : Nat} {cs : List Value} {x : DataW H × List MemPlace}
    (h : DataW.trod enc P W 0 (fun _ => true) true fuel t cs = some x) : ∃ l, Piece W cs (.ints k n l) := by
  obtain ⟨xs, m, _, _, hl, hlen, hel⟩ := DataW.trod_array ht h
  rw [hct] at hl
  have cell : ∀ i, i < n → ∃ z, cs[i]? = some (.int k z) ∧ inR k z := fun i hi => by
    have h1 := hel i hi
    rw [List.getElem?_eq_getElem (by omega)] at h1
    obtain ⟨z, h2, _, h3⟩ := DataW.trod_int he h1
    refine ⟨z, ?_, lit_wf h3⟩
    have h4 : (cs.drop (i * P.cellsOf e)).take (P.cellsOf e) = [cs[i]'(by omega)] := by
      rw [hc, Nat.mul_one, List.drop_eq_getElem_cons (by omega)]
      rfl
    rw [h4] at h2
    rw [List.getElem?_eq_getElem (by omega)]
    simpa using h2
  refine ⟨cs.map intOf, by simp [V.size, hl], trivial, by simp [hl], fun y hy => ?_, fun j hj => ?_⟩
  · obtain ⟨x, hx, rfl⟩ := List.mem_map.1 hy
    obtain ⟨i, hi⟩ := List.mem_iff_getElem?.1 hx
    have hin : i < n := by have := (List.getElem?_eq_some_iff.1 hi).1; omega
    obtain ⟨z, h1, h2⟩ := cell i hin
    rw [h1] at hi
    cases hi
    exact h2
  · obtain ⟨z, h1, h2⟩ := cell j hj
    show cs[j]? = _
    rw [h1]
    simp [nthI, List.getD_eq_getElem?_getD, h1, intOf]
end
end Go.Cx
/- CxLaw6 -/
namespace Go.Cx
open Go Go.ChangeShapes Go.WideShapes Go.ChangeAt Go.RowKit
section
variable {H : Type} {enc : TypeId × Value → H} {P : Program} {W : World}
/-- a slice of plain structs that no one writes, as a statement reads it -/
theorem law_objsW {t e : TypeId} {s : Nat} (ht : P.underlying t = some (.slice e)) (hc : P.cellsOf e = s) {base : Nat} {v : Value} {d : DataW H} {p : List MemPlace}
    (hval : Value.okWide P W .any base t v) (h : DataW.Trod enc P W 0 (fun _ => true) true t v d p) {Q : V → Prop} {c0 : V} (h0 : Q c0 ∧ c0.size = s)
    (hp : ∀ fuel cs x, DataW.trod enc P W 0 (fun _ => true) true fuel e cs = some x → ∃ c, Q c ∧ c.size = s ∧ Piece W cs c) :
    ∃ n f lo, (∀ j, Q (f j)) ∧ LArg W (.v (.dsl n s (.rows s n f))) v lo none ∧ n ≤ 9223372036854775807 ∧ ((d.weights P t).all (· ≤ reachBytes) = true → n * P.bytesOf e ≤ 140737488351232) := by
  obtain ⟨fuel, h⟩ := h
  obtain ⟨ad, n, c, rfl⟩ := slice_is ht hval
  rcases DataW.trod_slice ht h with ⟨h1, h2⟩ | ⟨a, len, cap, elems, rest, f, _, h1, h2, _, h3, h4, h5, h6, h7, _⟩
  · simp only [Value.cells, List.cons.injEq, Value.slice.injEq, and_true] at h1
    obtain ⟨rfl, rfl, rfl⟩ := h1
    exact ⟨0, fun _ => c0, .ph, fun _ => h0.1, ⟨leaf_vr rfl rfl rfl ⟨none, 0, rfl, Nat.le_refl _, by simp, ⟨rfl, rfl⟩, fun j hj => by omega, .inl rfl⟩, rfl⟩, by decide, fun _ => by rw [Nat.zero_mul]; exact Nat.zero_le _⟩
  · simp only [Value.cells, List.cons.injEq, Value.slice.injEq, and_true] at h1
    obtain ⟨rfl, rfl, rfl⟩ := h1
    cases h2
    obtain ⟨ha, hblk⟩ := slice_has ht hval
    obtain ⟨b, off, sp⟩ := a
    simp only at ha hblk
    subst ha
    rw [hc] at h6
    have each : ∀ j, ∃ k : V, Q k ∧ k.size = s ∧ (j < n → CRep (fun b => b < W.heap.size) W (fun _ => none) k noR [] 0 (fun r => W.cell? ⟨b, off + (j * s + r), none⟩)) := fun j => by
      by_cases hj : j < n
      · have h0 := h6 j hj
        rw [add_none, List.getElem?_eq_getElem (by omega)] at h0
        obtain ⟨cs, hcs, h0⟩ := Option.bind_eq_some_iff.1 h0
        obtain ⟨_, hl, hcell⟩ := World.cells?_some hcs
        obtain ⟨k, hq, hs, _, hf, hr⟩ := hp _ _ _ h0
        refine ⟨k, hq, hs, fun _ => flat_rep _ hf (fun r hr => ?_) hr⟩
        have hx := hcell r (by omega)
        rw [add_none] at hx
        rw [show off + (j * s + r) = off + j * s + r by omega]
        exact hx
      · exact ⟨c0, h0.1, h0.2, fun h => absurd h hj⟩
    obtain ⟨ml, hml⟩ := Classical.skolem.1 each
    refine ⟨n, ml, .ph, fun j => (hml j).1, ⟨leaf_vr rfl rfl rfl ⟨_, c, rfl, h3, h4, ⟨rfl, rfl⟩, fun j hj => ⟨(hml j).2.1, ?_⟩, .inr ⟨b, off, rfl, hblk⟩⟩, rfl⟩, by simp only [maxLen] at h4; omega, fun hw => ?_⟩
    · exact (hml j).2.2 hj
    · simp only [DataW.weights, ht, List.all_cons, Bool.and_eq_true, reachBytes] at hw
      have := of_decide_eq_true hw.1
      simp only [List.length_map, h5] at this
      exact Nat.le_trans (Nat.mul_le_mul_right _ (Nat.le_add_right _ _)) this
end
end Go.Cx
/- CxbLawR -/
namespace Go.Proofs.YtojllgpnhaaagaaDoor.Law
open Go Go.ChangeShapes Go.WideShapes Go.ChangeAt Go.RowKit Go.Cx Go.Cx.Rb Go.ChangeMaps
theorem cells23 : Tryd.prog.cellsOf 23 = 32 := by kernel_rfl
theorem bytes23 : Tryd.prog.bytesOf 23 = 32 := by kernel_rfl
theorem leaf_row {f : Nat → V} (h : ∀ j, ∃ l, f j = .ints .u8 32 l) : ∃ g : Nat → List Int, f = rowV apf g := by
  obtain ⟨g, hg⟩ := Classical.skolem.1 h
  exact ⟨g, funext hg⟩
set_option maxRecDepth 100000 in
theorem law_leaves {H : Type} {enc : TypeId × Value → H} {W : World} {base : Nat} {v : Value} {d : DataW H} {p : List MemPlace} (hval : Value.okWide Tryd.prog W .any base 22 v) (h : DataW.Trod enc Tryd.prog W 0 (fun _ => true) true 22 v d p) :
    ∃ n g lo, LArg W (.v (.dsl n 32 (.rows 32 n (rowV apf g)))) v lo none ∧ ((d.weights Tryd.prog 22).all (· ≤ reachBytes) = true → n ≤ 4398046510976) := by
  obtain ⟨n, f, lo, h1, h2, _, h3⟩ := @law_objsW H enc Tryd.prog W 22 23 32 Tryd.underlying22 cells23 base v d p hval h (fun c => ∃ l, c = .ints .u8 32 l) (.ints .u8 32 []) ⟨⟨[], rfl⟩, rfl⟩ (fun fuel cs x hx => by
    obtain ⟨l, hp⟩ := piece_ints Tryd.underlying23 Tryd.underlying5 cells5 cells23 hx
    exact ⟨_, ⟨l, rfl⟩, rfl, hp⟩)
  obtain ⟨g, rfl⟩ := leaf_row h1
  refine ⟨n, g, lo, h2, fun hw => ?_⟩
  have := h3 hw
  rw [bytes23] at this
  omega
end Go.Proofs.YtojllgpnhaaagaaDoor.Law
/- CxbMK -/
namespace Go.Cx.Rb
open Go Go.Cx Go.Proofs
def sAt (p : Int × List Int) : Int := p.1
def sLf (p : Int × List Int) : List Int := p.2
def setV (ap : AP) (q : Nat → Int × List Int) : Nat → V := fun t => .cat 1 32 (.int .i64 (ap _ _ sAt (ap _ _ q t))) (.ints .u8 32 (ap _ _ sLf (ap _ _ q t)))
def unSt (s : Nat → V) (t : Nat) : Int × List Int := match s t with
  | .cat _ _ (.int _ a) (.ints _ _ l) => (a, l)
  | _ => (0, [])
def isSt (s : Nat → V) : Prop := s = setV apf (unSt s)
noncomputable def cLaw5 (ap : AP) : Ctr
  | [.v (.dsl n 32 (.rows 32 m f)), .v (.dsl k 33 (.rows 33 j s))] => .chk (ap _ _ (ap _ _ eqN n) m) <| .chk (ap _ _ (ap _ _ eqN k) j) <| .chk (ap _ _ isRw f) <| .chk (ap _ _ isSt s) <| .chk (ap _ _ (ap _ _ leN n) 4398046510976) <|
      .chk (ap _ _ (ap _ _ leN k) 9223372036854775807) <| .ok ⟨.tt, [], []⟩
  | _ => .fail 621
/-- the leaves behind the first i that were set -/
def plW (l : List (List Int)) (q : Nat → Int × List Int) : Nat → List (List Int)
  | 0 => l
  | i + 1 => setT (plW l q i) (sAt (q i)) (sLf (q i))
theorem plW_s {l : List (List Int)} {q : Nat → Int × List Int} {i : Nat} : plW l q (i + 1) = setT (plW l q i) (sAt (q i)) (sLf (q i)) := rfl
theorem plW_len {l : List (List Int)} {q : Nat → Int × List Int} : ∀ {i : Nat}, (plW l q i).length = l.length
  | 0 => rfl
  | i + 1 => by rw [plW, setT_len, plW_len]
/-- the first i of a row written over -/
def fillC (c : List Int) (l : List (List Int)) (i : Nat) : List (List Int) := List.replicate (min i l.length) c ++ l.drop i
theorem fc_0 {c : List Int} {l : List (List Int)} : fillC c l 0 = l := by simp [fillC]
theorem fc_get {c : List Int} {u : List (List Int)} {i t : Nat} (h : t < u.length) : getL (fillC c u i) t = if t < i then c else getL u t := by
  simp only [getL, fillC, List.getD_eq_getElem?_getD, List.getElem?_append, List.length_replicate, List.getElem?_replicate, List.getElem?_drop]
  by_cases d : t < i
  · rw [if_pos (by omega), if_pos (by omega), if_pos d]; rfl
  · rw [if_neg (by omega), if_neg d]
    rcases Nat.le_total i u.length with e | e
    · rw [Nat.min_eq_left e, show i + (t - i) = t by omega]
    · omega
theorem fc_set {c : List Int} {u : List (List Int)} {n i : Nat} (h : u.length = n) (hi : i < n) : eqRows n (fun t => .ints .u8 32 (getL (fillC c u (i + 1)) t)) (updR (fun t => .ints .u8 32 (getL (fillC c u i) t)) i (.ints .u8 32 c)) := by
  subst h
  intro t ht
  apply congrArg nV
  simp only [updR]
  rw [fc_get ht, fc_get ht]
  by_cases d : t = i
  · subst d; rw [if_pos rfl, if_pos (by omega)]
  · rw [if_neg d]
    by_cases e : t < i
    · rw [if_pos e, if_pos (by omega)]
    · rw [if_neg e, if_neg (by omega)]
theorem fc_at {c c' : List Int} {u : List (List Int)} {n i : Nat} (h : u.length = n) (hi : i < n) (hc : c' = c) : eqRows n (fun t => .ints .u8 32 (getL (fillC c u (i + 1)) t)) (updR (fun t => .ints .u8 32 (getL (fillC c u i) t)) i (.ints .u8 32 c')) := by
  subst hc; exact fc_set h hi
theorem rw_set {W : List (List Int)} {a : Int} {x : List Int} {n : Nat} (h : 0 ≤ a ∧ a < W.length) : eqRows n (fun t => .ints .u8 32 (getL (setT W a x) t)) (updR (fun t => .ints .u8 32 (getL W t)) a.toNat (.ints .u8 32 x)) := by
  intro t _
  apply congrArg nV
  simp only [updR]
  rw [setT_in h, set_get (by omega)]
  split
  · rfl
  · rfl
def eeL : List Int := 238 :: List.replicate 31 0
def ddL : List Int := 221 :: List.replicate 31 0
theorem unR_W {W : List (List Int)} {n : Nat} (h : W.length = n) : unR n (fun t => .ints .u8 32 (getL W t)) = W := by subst h; exact unR_l
theorem eqLL_self {a : List (List Int)} : eqLL a a = true := decide_eq_true rfl
theorem isOut_f {l : List (List Int)} {i : Int} (h : 0 ≤ i ∧ i < l.length) : isOut l i = false := by rw [isOut, has_ok h]; rfl
theorem has_bad {l : List (List Int)} {i : Int} (h : i < 0 ∨ (l.length : Int) ≤ i) : hasT l i = 2 := if_pos h
theorem isOut_t {l : List (List Int)} {i : Int} (h : i < 0 ∨ (l.length : Int) ≤ i) : isOut l i = true := by rw [isOut, has_bad h]; rfl
theorem leafT_in {l : List (List Int)} {i : Int} (h : 0 ≤ i ∧ i < l.length) : leafT l i = getL l i.toNat := if_neg (by omega)
theorem leafT_out {l : List (List Int)} {i : Int} (h : i < 0 ∨ (l.length : Int) ≤ i) : leafT l i = zerosI 32 := if_pos h
theorem pathI_le {l : List (List Int)} {i : Int} {n : Nat} (h : l.length = n) (h0 : 1 ≤ n) (h1 : n ≤ 256) : (pathI l i).length ≤ 256 := by
  have a := pathK_le (l := l) (i := i.toNat) (j := hN l.length - 1)
  have b := hN_le l.length (by omega)
  rw [pathI, pathT]
  omega
theorem zeros32 : zerosI 32 = [0, 0, 0, 0, 0, 0, 0, 0, 0, 0, 0, 0, 0, 0, 0, 0, 0, 0, 0, 0, 0, 0, 0, 0, 0, 0, 0, 0, 0, 0, 0, 0] := rfl
noncomputable def famP2 (ap : AP) (n k : Nat) (f s : Nat → V) (L : List (List Int)) (q : Nat → Int × List Int) (i : Nat) : Nat × Bool → LSt
  | (j, true) => ⟨[(16, .nsl), (182, .int .i64 (ap _ _ lenI 0)), (0, .dsl n 32 (.rows 32 n f)), (1, .dsl k 33 (.rows 33 k s)), (6, .ptr 25 []), (183, .int .i64 (ap _ _ lenI j)), (9, .sl 69 [] 0 n 32 none), (10, .int .i64 (ap _ _ lenI i)), (13, .ptr 13 [])], [(25, ⟨.own, treeL ap (ap _ _ hN n) (ap _ _ (ap _ _ (ap _ _ plW L) q) (i + 1))⟩), (69, ⟨.own, .rows 32 (n) (fun t => .ints .u8 32 (ap _ _ (ap _ _ getL ((ap _ _ (ap _ _ (ap _ _ plW L) q) i))) t))⟩), (13, ⟨.own, .cat 1 32 (.int .i64 (ap _ _ sAt (ap _ _ q i))) (.ints .u8 32 (ap _ _ sLf (ap _ _ q i)))⟩)], []⟩
  | (j, false) => ⟨[(16, .sl 122 [] 0 (ap _ _ lenL (ap _ _ (ap _ _ pathI (ap _ _ (ap _ _ (ap _ _ plW L) q) i)) (ap _ _ sAt (ap _ _ q i)))) 32 none), (182, .int .i64 (ap _ _ lenI (ap _ _ lenL (ap _ _ (ap _ _ pathI (ap _ _ (ap _ _ (ap _ _ plW L) q) i)) (ap _ _ sAt (ap _ _ q i)))))), (0, .dsl n 32 (.rows 32 n f)), (1, .dsl k 33 (.rows 33 k s)), (6, .ptr 25 []), (183, .int .i64 (ap _ _ lenI j)), (9, .sl 69 [] 0 n 32 none), (10, .int .i64 (ap _ _ lenI i)), (13, .ptr 13 [])], [(25, ⟨.own, treeL ap (ap _ _ hN n) (ap _ _ (ap _ _ (ap _ _ plW L) q) (i + 1))⟩), (69, ⟨.own, .rows 32 (n) (fun t => .ints .u8 32 (ap _ _ (ap _ _ getL ((ap _ _ (ap _ _ (ap _ _ plW L) q) i))) t))⟩), (13, ⟨.own, .cat 1 32 (.int .i64 (ap _ _ sAt (ap _ _ q i))) (.ints .u8 32 (ap _ _ sLf (ap _ _ q i)))⟩), (122, ⟨.own, .rows 32 (ap _ _ lenL (ap _ _ (ap _ _ pathI (ap _ _ (ap _ _ (ap _ _ plW L) q) i)) (ap _ _ sAt (ap _ _ q i)))) (fun t => .ints .u8 32 (ap _ _ (ap _ _ getL (ap _ _ (ap _ _ (ap _ _ fillC ddL) (ap _ _ (ap _ _ pathI (ap _ _ (ap _ _ (ap _ _ plW L) q) i)) (ap _ _ sAt (ap _ _ q i)))) j)) t))⟩)], []⟩
noncomputable def aPl (ap : AP) (n k : Nat) (f s : Nat → V) (L : List (List Int)) (q : Nat → Int × List Int) : List (Nat × Ann) := [
  (0, .inv (Nat × Unit × Unit) (fun x => ⟨[(5, .sl 22 [] 0 n 32 none), (0, .dsl n 32 (.rows 32 n f)), (1, .dsl k 33 (.rows 33 k s)), (6, .ptr 25 []), (58, .int .i64 (ap _ _ lenI n)), (59, .int .i64 (ap _ _ lenI x.1))], [(25, ⟨.own, treeL ap (ap _ _ hN n) L⟩), (22, ⟨.own, .rows 32 (n) (fun t => .ints .u8 32 (ap _ _ (ap _ _ getL (ap _ _ (ap _ _ (ap _ _ fillC eeL) L) x.1)) t))⟩)], []⟩) (fun x => x.1 ≤ n) (fun x => n - x.1)),
  (1, .nest Nat (fun i => ⟨[(9, .sl 69 [] 0 n 32 none), (0, .dsl n 32 (.rows 32 n f)), (1, .dsl k 33 (.rows 33 k s)), (6, .ptr 25 []), (10, .int .i64 (ap _ _ lenI i))], [(25, ⟨.own, treeL ap (ap _ _ hN n) (ap _ _ (ap _ _ (ap _ _ plW L) q) i)⟩), (69, ⟨.own, .rows 32 (n) (fun t => .ints .u8 32 (ap _ _ (ap _ _ getL ((ap _ _ (ap _ _ (ap _ _ plW L) q) i))) t))⟩)], []⟩) (fun i => i ≤ k ∧ i ≤ 31) (fun i => k - i)
    (fun i => [(2, .inv (Nat × Bool) (famP2 ap n k f s L q i) (fun x => x.1 ≤ ap _ _ lenL (ap _ _ (ap _ _ pathI (ap _ _ (ap _ _ (ap _ _ plW L) q) i)) (ap _ _ sAt (ap _ _ q i))) ∧ x.2 = ap _ _ emL (ap _ _ (ap _ _ pathI (ap _ _ (ap _ _ (ap _ _ plW L) q) i)) (ap _ _ sAt (ap _ _ q i)))) (fun x => ap _ _ lenL (ap _ _ (ap _ _ pathI (ap _ _ (ap _ _ (ap _ _ plW L) q) i)) (ap _ _ sAt (ap _ _ q i))) - x.1))]))]
set_option maxRecDepth 20000 in
set_option maxHeartbeats 40000000 in
theorem vc5 (args : List Arg) (out : Out) (h : (cLaw5 apf args).to out) (hok : okAs args) :
    args.length = ic5.nargs ∧ ic5.nargs ≤ ic5.ntmps ∧ ∃ A, run apf [(21, cFixM apf), (22, cNewT apf), (23, cRootT apf), (24, cSetT apf), (25, cRootR apf), (26, cSizeT apf), (27, cLeafT apf), (28, cPathT apf), (29, cPaths apf), (30, cPathR apf)] A ic5.body (fnQ apf args out ic5.res) (st0 G2 true args) := by
  unfold cLaw5 at h
  split at h
  · rename_i n m f k j s
    obtain ⟨h1, hk, hf, hs, h2, h3, h⟩ := h
    cases h
    obtain rfl : n = m := h1
    obtain rfl : k = j := hk
    have h2 : n ≤ 4398046510976 := h2
    have h3 : k ≤ 9223372036854775807 := h3
    generalize hg : unRw f = g
    have hf : f = rowV apf g := by rw [← hg]; exact hf
    clear hg
    subst hf
    generalize hg : unSt s = q
    have hs : s = setV apf q := by rw [← hg]; exact hs
    clear hg
    subst hs
    have hl : (unR n (rowV apf g)).length = n := unR_len
    refine ⟨rfl, by decide, aPl apf n k (rowV apf g) (setV apf q) (apf _ _ (apf _ _ unR n) (rowV apf g)) q, ?_⟩
    show run apf _ _ _ _ (st0 [(0, .ints .u32 64 kk), (1, .ints .u32 64 kk)] _ _)
    generalize hK : kk = K
    generalize hap : apf = ap
    cbv
    repeat' first
      | exact True.intro
      | (intro (hh : _ = true); first | with_reducible exact absurd hh (bk_t (by assumption)) | cbv)
      | (intro (hh : _ = false); first | with_reducible exact absurd hh (bk_f (by assumption)) | cbv)
      | with_reducible refine And.intro ?_ ?_
      | (refine ⟨(0, (), ()), ?_, ?_⟩; rotate_left 1; (try cbv); with_reducible refine And.intro ?_ ?_)
      | (refine ⟨0, ?_, ?_⟩; rotate_left 1; (try cbv); with_reducible refine And.intro ?_ ?_)
      | fail
    all_goals first
      | (intro (y : Nat × Unit × Unit) hy k1 k2
         clear k1 k2
         obtain ⟨i, _, _⟩ := y
         all_goals cbv
         all_goals (
           repeat' first
             | exact True.intro
             | (intro (hh : _ = true); first | with_reducible exact absurd hh (bk_t (by assumption)) | cbv)
             | (intro (hh : _ = false); first | with_reducible exact absurd hh (bk_f (by assumption)) | cbv)
             | with_reducible refine And.intro ?_ ?_
             | (refine ⟨(i + 1, (), ()), ?_, (?_ : _ < _), ?_⟩; rotate_left 2; (try cbv); with_reducible refine And.intro ?_ ?_; (repeat' with_reducible refine And.intro ?_ ?_); (all_goals (fail_if_success (with_reducible show False))))
             | (refine ⟨0, ?_, ?_⟩; rotate_left 1; (try cbv); with_reducible refine And.intro ?_ ?_; (repeat' with_reducible refine And.intro ?_ ?_); (all_goals (fail_if_success (with_reducible show False))))
             | fail))
      | skip
    all_goals first
      | (intro (i : Nat) hi k1 k2
         clear k1 k2
         skip
         all_goals cbv
         all_goals (
           repeat' first
             | exact True.intro
             | (intro (hh : _ = true); first | with_reducible exact absurd hh (bk_t (by assumption)) | cbv)
             | (intro (hh : _ = false); first | with_reducible exact absurd hh (bk_f (by assumption)) | cbv)
             | with_reducible refine And.intro ?_ ?_
             | (refine ⟨(0, true), ?_, ?_⟩; rotate_left 1; (try cbv); with_reducible refine And.intro ?_ ?_; (repeat' with_reducible refine And.intro ?_ ?_); (all_goals (fail_if_success (with_reducible show False))))
             | (refine ⟨(0, false), ?_, ?_⟩; rotate_left 1; (try cbv); with_reducible refine And.intro ?_ ?_; (repeat' with_reducible refine And.intro ?_ ?_); (all_goals (fail_if_success (with_reducible show False))))
             | (refine ⟨i + 1, ?_, (?_ : _ < _), ?_⟩; rotate_left 2; (try cbv); with_reducible refine And.intro ?_ ?_; (repeat' with_reducible refine And.intro ?_ ?_); (all_goals (fail_if_success (with_reducible show False))))
             | fail))
      | skip
    all_goals first
      | (intro (z : Nat × Bool) hz k1 k2
         clear k1 k2
         obtain ⟨j, _ | _⟩ := z
         all_goals cbv
         all_goals (
           repeat' first
             | exact True.intro
             | (intro (hh : _ = true); first | with_reducible exact absurd hh (bk_t (by assumption)) | cbv)
             | (intro (hh : _ = false); first | with_reducible exact absurd hh (bk_f (by assumption)) | cbv)
             | with_reducible refine And.intro ?_ ?_
             | (refine ⟨(j + 1, true), ?_, (?_ : _ < _), ?_⟩; rotate_left 2; (try cbv); with_reducible refine And.intro ?_ ?_; (repeat' with_reducible refine And.intro ?_ ?_); (all_goals (fail_if_success (with_reducible show False))))
             | (refine ⟨(j + 1, false), ?_, (?_ : _ < _), ?_⟩; rotate_left 2; (try cbv); with_reducible refine And.intro ?_ ?_; (repeat' with_reducible refine And.intro ?_ ?_); (all_goals (fail_if_success (with_reducible show False))))
             | (refine ⟨i + 1, ?_, (?_ : _ < _), ?_⟩; rotate_left 2; (try cbv); with_reducible refine And.intro ?_ ?_; (repeat' with_reducible refine And.intro ?_ ?_); (all_goals (fail_if_success (with_reducible show False))))
             | fail))
      | skip
    all_goals subst hap
    all_goals try simp only [apf, Nat.sub_eq, Nat.succ_eq_add_one, cmF, arF, eqI', eqL', eqB', ltN, eqN, addN, leN, appN, V.cnt, Nat.zero_add, eq_t, eq_f, ne_t, ne_f, lt_t, lt_f, le_t, gt_t, gt_f, ge_t, ge_f, eqL_t, eqL_f, notB_t, notB_f, lenI, lenL, natI, Int.toNat_natCast, unLv_e, unT_e, lv0, plW_s] at *
    all_goals try have hW : (plW (unR n (rowV apf g)) q i).length = n := plW_len.trans hl
    all_goals try have tW : unR n (fun t => .ints .u8 32 (getL (plW (unR n (rowV apf g)) q i) t)) = plW (unR n (rowV apf g)) q i := unR_W hW
    all_goals try have t1 : topT (lvl (plW (unR n (rowV apf g)) q i)) (hN n) = rootL (plW (unR n (rowV apf g)) q i) := topT_n hW
    all_goals try simp only [tW, t1, unR_l, unR_nil, eqLL_self] at *
    all_goals try simp only [apf, Nat.sub_eq, Nat.succ_eq_add_one, cmF, arF, eqI', eqL', eqB', ltN, eqN, addN, subN, leN, minN, appN, mksN, V.cnt, llen, Nat.zero_add, Nat.add_zero, eq_t, eq_f, ne_t, ne_f, lt_t, lt_f, le_t, le_f, gt_t, gt_f, ge_t, ge_f, eqL_t, eqL_f, eqB_t, eqB_f, notB_t, notB_f, lenI, lenL, natI, Int.toNat_natCast] at *
    all_goals first
      | omega
      | contradiction
      | exact fun _ _ => rfl
      | exact fun _ _ _ => rfl
      | (have hb : badN n = true := by assumption
         simp [badN] at hb
         omega)
      | exact tree_lv
      | exact hN_pos _
      | exact (inc_i64 (by omega)).symm
      | exact isRw_l
      | exact isRw_c
      | exact rows_u
      | (rw [fc_0]; exact rows_u)
      | (rw [fc_0]; exact fun _ _ => rfl)
      | exact fc_at hl (by omega) rfl
      | exact fc_at rfl (by omega) rfl
      | exact tree_ps hW (by omega) (by omega)
      | exact tree_is hW (by omega) (by omega)
      | exact ⟨by omega, by omega⟩
      | exact rw_set (by rw [hW]; omega)
      | (rw [setT_out (by omega)]; exact fun _ _ => rfl)
      | (have hb : badN n = false := by assumption
         have hb2 := bad_f hb
         omega)
      | (have e1 : emL (pathI (plW (unR n (rowV apf g)) q i) (sAt (q i))) = true := by assumption
         have e2 : j < (pathI (plW (unR n (rowV apf g)) q i) (sAt (q i))).length := by omega
         rw [em_t e1] at e2
         simp at e2)
      | (have e1 := pathI_le (i := sAt (q i)) hW (by omega) (by omega)
         exact (inc_i64 (by omega)).symm)
      | (have e1 : ((unR n (rowV apf g)).length : Int) = (n : Int) := by rw [hl]
         exact absurd e1 (by assumption))
      | (symm; assumption)
      | (have e1 : emL (pathI (plW (unR n (rowV apf g)) q i) (sAt (q i))) = true := by assumption
         have e2 : emL (pathI (plW (unR n (rowV apf g)) q i) (sAt (q i))) = false := by assumption
         rw [e1] at e2
         cases e2)
      | (have e1 := isOut_f (l := plW (unR n (rowV apf g)) q i) (i := sAt (q i)) (by rw [hW]; omega)
         have e2 : isOut (plW (unR n (rowV apf g)) q i) (sAt (q i)) = true := by assumption
         rw [e1] at e2
         cases e2)
      | exact absurd (has_ok (l := plW (unR n (rowV apf g)) q i) (i := sAt (q i)) (by rw [hW]; omega)) (by assumption)
      | exact absurd (has_bad (l := plW (unR n (rowV apf g)) q i) (i := sAt (q i)) (by rw [hW]; omega)) (by assumption)
      | exact absurd ((leafT_out (l := plW (unR n (rowV apf g)) q i) (i := sAt (q i)) (by rw [hW]; omega)).trans zeros32) (by assumption)
      | exact absurd (leafT_in (l := plW (unR n (rowV apf g)) q i) (i := sAt (q i)) (by rw [hW]; omega)) (by assumption)
      | (have e1 := has_ok (l := plW (unR n (rowV apf g)) q i) (i := sAt (q i)) (by rw [hW]; omega)
         omega)
      | (have e1 := has_bad (l := plW (unR n (rowV apf g)) q i) (i := sAt (q i)) (by rw [hW]; omega)
         omega)
      | (have e1 := isOut_t (l := plW (unR n (rowV apf g)) q i) (i := sAt (q i)) (by rw [hW]; omega)
         have e2 : isOut (plW (unR n (rowV apf g)) q i) (sAt (q i)) = false := by assumption
         rw [e1] at e2
         cases e2)
      | trace_state
  · exact h.elim
theorem s5 : Sound Tryd.prog G2 5 (puM 5) (cLaw5 apf) := fn_sound rfl Tryd.call5 ok5 co5 (env_cons s21 (env_cons s22 (env_cons s23' (env_cons s24 (env_cons s25 (env_cons s26' (env_cons s27' (env_cons s28 (env_cons s29 (env_cons s30 env_nil)))))))))) vc5
end Go.Cx.Rb
/- CxbLawT -/
namespace Go.Proofs.YtojllgpnhaaagaaDoor.Law
open Go Go.ChangeShapes Go.WideShapes Go.ChangeAt Go.RowKit Go.Cx Go.Cx.Rb Go.ChangeMaps
theorem cells3 : Tryd.prog.cellsOf 3 = 1 := by kernel_rfl
theorem cells39 : Tryd.prog.cellsOf 39 = 33 := by kernel_rfl
def setC (a : Int) (l : List Int) : V := .cat 1 32 (.int .i64 a) (.ints .u8 32 l)
theorem piece_set {H : Type} {enc : TypeId × Value → H} {W : World} {fuel : Nat} {cs : List Value} {x : DataW H × List MemPlace} (h : DataW.trod enc Tryd.prog W 0 (fun _ => true) true fuel 39 cs = some x) :
    ∃ a l, Piece W cs (setC a l) := by
  obtain ⟨xs, n, _, _, hl, hlen, hf⟩ := DataW.trod_struct Tryd.underlying39 h
  rw [cells39] at hl
  match xs, hlen with
  | [y0, y1], _ =>
    have h0 : DataW.trod enc Tryd.prog W 0 (fun _ => true) true n 3 ((cs.drop 0).take (Tryd.prog.cellsOf 3)) = some y0 := hf 0 _ rfl
    rw [cells3] at h0
    have h1 : DataW.trod enc Tryd.prog W 0 (fun _ => true) true n 23 ((cs.drop 1).take (Tryd.prog.cellsOf 23)) = some y1 := hf 1 _ rfl
    rw [cells23] at h1
    obtain ⟨a, p0⟩ := piece_int Tryd.underlying3 h0
    obtain ⟨l, p1⟩ := piece_ints Tryd.underlying23 Tryd.underlying5 cells5 cells23 h1
    have e1 : (cs.drop 1).take 32 = cs.drop 1 := List.take_of_length_le (by simp; omega)
    rw [e1] at p1
    have q0 := Piece.cat (n := 1) (cs := cs) p0 (by omega) p1
    simp only [hl] at q0
    exact ⟨a, l, q0⟩
theorem set_row {f : Nat → V} (h : ∀ j, ∃ a l, f j = setC a l) : ∃ q : Nat → Int × List Int, f = setV apf q := by
  have h : ∀ j, ∃ z : Int × List Int, f j = setC z.1 z.2 := fun j => by
    obtain ⟨a, l, e⟩ := h j
    exact ⟨(a, l), e⟩
  obtain ⟨q, hq⟩ := Classical.skolem.1 h
  exact ⟨q, funext hq⟩
set_option maxRecDepth 100000 in
theorem law_sets {H : Type} {enc : TypeId × Value → H} {W : World} {base : Nat} {v : Value} {d : DataW H} {p : List MemPlace} (hval : Value.okWide Tryd.prog W .any base 36 v) (h : DataW.Trod enc Tryd.prog W 0 (fun _ => true) true 36 v d p) :
    ∃ n q lo, LArg W (.v (.dsl n 33 (.rows 33 n (setV apf q)))) v lo none ∧ n ≤ 9223372036854775807 := by
  obtain ⟨n, f, lo, h1, h2, h3, _⟩ := @law_objsW H enc Tryd.prog W 36 39 33 Tryd.underlying36 cells39 base v d p hval h (fun c => ∃ a l, c = setC a l) (setC 0 []) ⟨⟨0, [], rfl⟩, rfl⟩ (fun fuel cs x hx => by
    obtain ⟨a, l, hp⟩ := piece_set hx
    exact ⟨_, ⟨a, l, rfl⟩, rfl, hp⟩)
  obtain ⟨q, rfl⟩ := set_row h1
  exact ⟨n, q, lo, h2, h3⟩
theorem hout5 {n k : Nat} {g : Nat → List Int} {q : Nat → Int × List Int} (hn : n ≤ 4398046510976) (hk : k ≤ 9223372036854775807) : (cLaw5 apf [.v (.dsl n 32 (.rows 32 n (rowV apf g))), .v (.dsl k 33 (.rows 33 k (setV apf q)))]).to ⟨.tt, [], []⟩ := ⟨rfl, rfl, rfl, rfl, hn, hk, rfl⟩
end Go.Proofs.YtojllgpnhaaagaaDoor.Law
