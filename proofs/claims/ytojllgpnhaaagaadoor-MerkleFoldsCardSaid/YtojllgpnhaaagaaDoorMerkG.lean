/-
  What the laws of this claim stand on, part G: proved parts, no statement of its own.
-/
import Derived.Test.YtojllgpnhaaagaaDoorMerkF
import Derived.Test.YtojllgpnhaaagaaDoorCards
import Derived.Test.YtojllgpnhaaagaaDoorTie
import Derived.ChangeMaps5
/- CxbMA -/
namespace Go.Cx.Rb
open Go Go.Cx Go.Proofs
def pathI (l : List (List Int)) (i : Int) : List (List Int) := pathT l i.toNat
def emL (l : List (List Int)) : Bool := l.isEmpty
def pathJ (l : List (List Int)) (i : Int) (j : Nat) : List (List Int) := pathK l i.toNat j
def plcI (i : Int) (j : Nat) : Int := (plc i.toNat j : Nat)
def pPr (L : List (List Int)) (i : Int) (m : Nat) (x : Nat × Nat) : Prop := x.1 < hN m ∧ (x.1 = 0 ∨ (x.2 = 0 ↔ pathJ L i x.1 = []))
theorem bes_le {l : List (List Int)} {P : Nat} : (besL l P).length ≤ 1 := by
  rw [besL]; split <;> simp
theorem pathK_le {l : List (List Int)} {i : Nat} : ∀ {j : Nat}, (pathK l i j).length ≤ j
  | 0 => Nat.le_refl _
  | j + 1 => by rw [pathK, List.length_append]; have := pathK_le (l := l) (i := i) (j := j); have := bes_le (l := lvl l j) (P := plc i j); omega
theorem pfacts {L : List (List Int)} {i : Int} {m j h : Nat} (hL : L.length = m) (h0 : 0 ≤ i) (h1 : i < m) (h2 : m ≤ 999999) (hx : pPr L i m (j, h)) :
    ∃ P : Nat, plcI i j = (P : Int) ∧ plcI i (j + 1) = ((P / 2 : Nat) : Int) ∧ P < (lvl L j).length ∧ (lvl L j).length ≤ m + 1 ∧ j < hN m ∧ (1 < (lvl L j).length ↔ j + 1 < hN m) ∧
      pathJ L i (j + 1) = pathJ L i j ++ besL (lvl L j) P ∧ (pathJ L i j).length ≤ j ∧ hN m ≤ m ∧ wadd .i64 (P : Int) 1 = ((P + 1 : Nat) : Int) ∧ wsub .i64 (P : Int) 1 = (P : Int) - 1 ∧ wrem .i64 (P : Int) 2 = ((P % 2 : Nat) : Int) ∧ wquo .i64 (P : Int) 2 = ((P / 2 : Nat) : Int) ∧
      (j + 1 = hN m → pathI L i = pathJ L i j) := by
  subst hL
  have a1 : 0 < L.length := by omega
  have a2 : i.toNat < L.length := by omega
  have a3 := lvl_has a1 hx.1
  have a4 := plc_lt (j := j) a2
  have a5 := lvl_len_le (l := L) (j := j)
  refine ⟨plc i.toNat j, rfl, congrArg Int.ofNat plc_succ, a4, a5, hx.1, a3.2, rfl, pathK_le, hN_le _ a1, wadd_i64 (by omega), wsub_i64 (by omega), rfl, quo_i64 (by omega), fun e => ?_⟩
  rw [pathI, pathT, ← e, Nat.add_sub_cancel]
  rfl
theorem row_snoc {z : V} {l : List (List Int)} {x x' : List Int} (h : x' = x) : eqRows (l ++ [x]).length (fun t => .ints .u8 32 (getL (l ++ [x]) t)) (catR (fun j => .ints .u8 32 (getL l j)) l.length fun j => lkV z [(0, .ints .u8 32 x')] j) := by
  subst h
  intro j hj
  simp only [List.length_append, List.length_cons, List.length_nil] at hj
  simp only [catR]
  by_cases c : j < l.length
  · rw [if_pos c]
    simp [getL, List.getD_eq_getElem?_getD, List.getElem?_append, c]
  · obtain rfl : j = l.length := by omega
    rw [if_neg c, Nat.sub_self]
    simp [getL, List.getD_eq_getElem?_getD, lkV]
theorem row_one {z : V} {x x' : List Int} (h : x' = x) : eqRows [x].length (fun t => .ints .u8 32 (getL [x] t)) (fun j => lkV z [(0, .ints .u8 32 x')] j) := by
  subst h
  intro j hj
  obtain rfl : j = 0 := by simpa using hj
  rfl
theorem plc0 {i : Int} (h : 0 ≤ i) : plcI i 0 = i := by rw [plcI, plc_zero]; exact Int.toNat_of_nonneg h
theorem pathJ0 {l : List (List Int)} {i : Int} : pathJ l i 0 = [] := rfl
theorem pnil {L : List (List Int)} {i : Int} {m j : Nat} (h : pPr L i m (j + 1, 0)) : pathJ L i (j + 1) = [] := h.2.elim (fun e => absurd e (by simp)) (fun e => e.1 rfl)
theorem pnot {L : List (List Int)} {i : Int} {m j h : Nat} (hx : pPr L i m (j + 1, h + 1)) : pathJ L i (j + 1) ≠ [] := hx.2.elim (fun e => absurd e (by simp)) (fun e k => absurd (e.2 k) (by simp))
theorem mkP {L : List (List Int)} {i : Int} {m j h : Nat} (a : j < hN m) (b : h = 0 ↔ pathJ L i j = []) : pPr L i m (j, h) := ⟨a, .inr b⟩
theorem em_t {l : List (List Int)} (h : emL l = true) : l = [] := List.isEmpty_iff.1 h
theorem isRw_l {g : Nat → List Int} : isRw (fun t => .ints .u8 32 (g t)) := rfl
end Go.Cx.Rb
/- CxbMB -/
namespace Go.Cx.Rb
open Go Go.Cx Go.Proofs
def foF (sz i : Int) (x : List Int) (p : List (List Int)) : List Int := (foldT sz i x p).1
def foE (sz i : Int) (x : List Int) (p : List (List Int)) : Int := (foldT sz i x p).2
noncomputable def cFold (ap : AP) : Ctr
  | [.v (.int .i64 sz), .v (.int .i64 i), .v (.ints .u8 32 x), .b n 32 (.rows 32 _ f)] => .chk (ap _ _ isRw f) <|
      .ok ⟨.tcons (.ints .u8 32 (ap _ _ (ap _ _ (ap _ _ (ap _ _ foF sz) i) x) (ap _ _ (ap _ _ unR n) f))) (.tcons (.int .i64 (ap _ _ (ap _ _ (ap _ _ (ap _ _ foE sz) i) x) (ap _ _ (ap _ _ unR n) f))) .tnil), [], []⟩
  | _ => .fail 610
structure FoS where
  sz : Nat
  i : Nat
  x : List Int
  k : Nat
def pFo (R : List Int × Int) (p : List (List Int)) (n : Nat) (s : FoS) : Prop := foldR s.sz s.i s.x (p.drop s.k) = R ∧ s.k ≤ n ∧ s.i < s.sz ∧ s.sz ≤ 256
noncomputable def aFo (ap : AP) (n : Nat) (f : Nat → V) (R : List Int × Int) (p : List (List Int)) : List (Nat × Ann) := [(0, .inv FoS (fun s => ⟨[(0, .int .i64 (ap _ _ lenI (ap _ _ FoS.sz s))), (1, .int .i64 (ap _ _ lenI (ap _ _ FoS.i s))), (3, .sl (parH 3) [] (ap _ _ FoS.k s) (ap _ _ (ap _ _ subN n) (ap _ _ FoS.k s)) 32 none), (6, .ptr 6 []), (8, .ptr 8 []), (9, .lit .i64 0)],
  [(parH 3, ⟨.bor, .rows 32 n f⟩), (6, ⟨.own, .ints .u8 32 (ap _ _ FoS.x s)⟩), (8, ⟨.own, .ints .u8 32 (ap _ _ zerosI 32)⟩)], []⟩) (fun s => ap _ _ (ap _ _ (ap _ _ (ap _ _ pFo R) p) n) s) (fun s => ap _ _ FoS.sz s))]
noncomputable def aFoR (ap : AP) (n : Nat) (f : Nat → V) (R : List Int × Int) (p : List (List Int)) : List (Nat × Ann) := [(0, .inv FoS (fun s => ⟨[(0, .int .i64 (ap _ _ lenI (ap _ _ FoS.sz s))), (1, .int .i64 (ap _ _ lenI (ap _ _ FoS.i s))), (11, .int .i64 (ap _ _ lenI (ap _ _ FoS.k s))), (3, .sl (parH 3) [] 0 n 32 none), (6, .ptr 6 []), (8, .ptr 8 []), (9, .lit .i64 0), (10, .ptr 10 [])],
  [(parH 3, ⟨.bor, .rows 32 n f⟩), (6, ⟨.own, .ints .u8 32 (ap _ _ FoS.x s)⟩), (8, ⟨.own, .ints .u8 32 (ap _ _ zerosI 32)⟩), (10, ⟨.own, .ints .u8 32 (ap _ _ zerosI 32)⟩)], []⟩) (fun s => ap _ _ (ap _ _ (ap _ _ (ap _ _ pFo R) p) n) s) (fun s => ap _ _ FoS.sz s))]
theorem drop_get {l : List (List Int)} {k : Nat} (h : k < l.length) : l.drop k = getL l k :: l.drop (k + 1) := by
  rw [getL, List.getD_eq_getElem?_getD, List.getElem?_eq_getElem h, Option.getD_some, List.drop_eq_getElem_cons h]
theorem foldR_end {sz i : Nat} {x : List Int} {p : List (List Int)} (h : sz ≤ 1) : foldR sz i x p = if p = [] then (x, 0) else (zerosI 32, 3) := by
  rw [foldR.eq_def, if_pos h]
theorem foldR_skip {sz i : Nat} {x : List Int} {p : List (List Int)} (h : 1 < sz) (hs : ¬ sib i < sz) : foldR sz i x p = foldR ((sz + 1) / 2) (i / 2) x p := by
  rw [foldR.eq_def, if_neg (by omega), if_neg hs]
theorem foldR_nil {sz i : Nat} {x : List Int} (h : 1 < sz) (hs : sib i < sz) : foldR sz i x [] = (zerosI 32, 3) := by
  rw [foldR.eq_def, if_neg (by omega), if_pos hs]
theorem foldR_cons {sz i : Nat} {x a : List Int} {p : List (List Int)} (h : 1 < sz) (hs : sib i < sz) : foldR sz i x (a :: p) = foldR ((sz + 1) / 2) (i / 2) (if i % 2 = 1 then jn a x else jn x a) p := by
  rw [foldR.eq_def, if_neg (by omega), if_pos hs]
theorem sib_odd {i : Nat} (h : i % 2 = 1) : sib i = i - 1 := if_pos h
theorem sib_even {i : Nat} (h : i % 2 ≠ 1) : sib i = i + 1 := if_neg h
/-- one step, whichever it is -/
theorem fo_skip {R : List Int × Int} {p : List (List Int)} {n : Nat} {s : FoS} (hx : pFo R p n s) (h : 1 < s.sz) (hs : s.sz ≤ sib s.i) : pFo R p n ⟨(s.sz + 1) / 2, s.i / 2, s.x, s.k⟩ := by
  obtain ⟨h1, h2, h3, h4⟩ := hx
  refine ⟨?_, h2, ?_, ?_⟩
  · rw [← h1, foldR_skip h (by omega)]
  · show s.i / 2 < (s.sz + 1) / 2; omega
  · show (s.sz + 1) / 2 ≤ 256; omega
theorem fo_step {R : List Int × Int} {p : List (List Int)} {n : Nat} {s : FoS} (hp : p.length = n) (hx : pFo R p n s) (h : 1 < s.sz) (hs : sib s.i < s.sz) (hk : s.k < n) {y : List Int} (hy : y = if s.i % 2 = 1 then jn (getL p s.k) s.x else jn s.x (getL p s.k)) : pFo R p n ⟨(s.sz + 1) / 2, s.i / 2, y, s.k + 1⟩ := by
  obtain ⟨h1, h2, h3, h4⟩ := hx
  subst hy
  refine ⟨?_, hk, ?_, ?_⟩
  · rw [← h1, drop_get (by omega : s.k < p.length), foldR_cons h hs]
  · show s.i / 2 < (s.sz + 1) / 2; omega
  · show (s.sz + 1) / 2 ≤ 256; omega
theorem fo_short {R : List Int × Int} {p : List (List Int)} {n : Nat} {s : FoS} (hp : p.length = n) (hx : pFo R p n s) (h : 1 < s.sz) (hs : sib s.i < s.sz) (hk : n ≤ s.k) : R = (zerosI 32, 3) := by
  obtain ⟨h1, h2, h3, h4⟩ := hx
  rw [← h1, List.drop_eq_nil_of_le (by omega), foldR_nil h hs]
theorem fo_long {R : List Int × Int} {p : List (List Int)} {n : Nat} {s : FoS} (hp : p.length = n) (hx : pFo R p n s) (h : s.sz ≤ 1) (hk : s.k < n) : R = (zerosI 32, 3) := by
  obtain ⟨h1, h2, h3, h4⟩ := hx
  rw [← h1, foldR_end h, if_neg (by rw [drop_get (by omega : s.k < p.length)]; simp)]
theorem fo_done {R : List Int × Int} {p : List (List Int)} {n : Nat} {s : FoS} (hp : p.length = n) (hx : pFo R p n s) (h : s.sz ≤ 1) (hk : n ≤ s.k) : R = (s.x, 0) := by
  obtain ⟨h1, h2, h3, h4⟩ := hx
  rw [← h1, foldR_end h, if_pos (List.drop_eq_nil_of_le (by omega))]
/-- the next state -/
def foNx (p : List (List Int)) (s : FoS) : FoS := if sib s.i < s.sz then ⟨(s.sz + 1) / 2, s.i / 2, if s.i % 2 = 1 then jn (getL p s.k) s.x else jn s.x (getL p s.k), s.k + 1⟩ else ⟨(s.sz + 1) / 2, s.i / 2, s.x, s.k⟩
theorem nx_skip {p : List (List Int)} {s : FoS} (h : s.sz ≤ sib s.i) : foNx p s = ⟨(s.sz + 1) / 2, s.i / 2, s.x, s.k⟩ := if_neg (by omega)
theorem nx_odd {p : List (List Int)} {s : FoS} (h : sib s.i < s.sz) (h2 : s.i % 2 = 1) : foNx p s = ⟨(s.sz + 1) / 2, s.i / 2, jn (getL p s.k) s.x, s.k + 1⟩ := by rw [foNx, if_pos h, if_pos h2]
theorem nx_even {p : List (List Int)} {s : FoS} (h : sib s.i < s.sz) (h2 : s.i % 2 ≠ 1) : foNx p s = ⟨(s.sz + 1) / 2, s.i / 2, jn s.x (getL p s.k), s.k + 1⟩ := by rw [foNx, if_pos h, if_neg h2]
theorem fo_next {R : List Int × Int} {p : List (List Int)} {n : Nat} {s : FoS} (hp : p.length = n) (hx : pFo R p n s) (h : 1 < s.sz) (hk : sib s.i < s.sz → s.k < n) : pFo R p n (foNx p s) := by
  by_cases c : sib s.i < s.sz
  · rw [foNx, if_pos c]
    exact fo_step hp hx h c (hk c) rfl
  · rw [foNx, if_neg c]
    exact fo_skip hx h (by omega)
def foIn (sz i : Int) (x : List Int) : FoS := ⟨sz.toNat, i.toNat, x, 0⟩
theorem fo_bad {sz i : Int} {x : List Int} {p : List (List Int)} (h : sz < 1 ∨ 256 < sz ∨ i < 0 ∨ sz ≤ i) : foldT sz i x p = (zerosI 32, 2) := if_pos h
theorem fo_in {sz i : Int} {x : List Int} {p : List (List Int)} {n : Nat} (h1 : 1 ≤ sz) (h2 : sz ≤ 256) (h3 : 0 ≤ i) (h4 : i < sz) : pFo (foldT sz i x p) p n (foIn sz i x) := by
  refine ⟨(if_neg (by omega)).symm, Nat.zero_le _, ?_, ?_⟩
  · show i.toNat < sz.toNat; omega
  · show sz.toNat ≤ 256; omega
/-- the numbers that a step makes -/
theorem fo_num {R : List Int × Int} {p : List (List Int)} {n : Nat} {s : FoS} (hx : pFo R p n s) (_hn : n ≤ 9223372036854775807) : s.k ≤ n ∧ s.i < s.sz ∧ s.sz ≤ 256 ∧ bxor .i64 (s.i : Int) 1 = ((sib s.i : Nat) : Int) ∧ wquo .i64 (s.i : Int) 2 = ((s.i / 2 : Nat) : Int) ∧ wadd .i64 (s.sz : Int) 1 = ((s.sz + 1 : Nat) : Int) ∧
    wquo .i64 ((s.sz + 1 : Nat) : Int) 2 = (((s.sz + 1) / 2 : Nat) : Int) ∧ wadd .i64 (s.i : Int) 1 = ((s.i + 1 : Nat) : Int) ∧ wrem .i64 (s.i : Int) 2 = ((s.i % 2 : Nat) : Int) ∧ (sib s.i < s.i ↔ s.i % 2 = 1) ∧ (s.i % 2 ≠ 1 → sib s.i = s.i + 1) ∧ (s.i % 2 = 1 → sib s.i + 1 = s.i) := by
  obtain ⟨h1, h2, h3, h4⟩ := hx
  have e : (s.i % 2 = 1 → sib s.i + 1 = s.i) := fun h => by rw [sib_odd h]; omega
  have e2 : (s.i % 2 ≠ 1 → sib s.i = s.i + 1) := fun h => sib_even h
  refine ⟨h2, h3, h4, bxor_one (by omega), quo_i64 (by omega), inc_i64 (by omega), quo_i64 (by omega), inc_i64 (by omega), rfl, ?_, e2, e⟩
  constructor
  · intro h
    by_cases c : s.i % 2 = 1
    · exact c
    · have := e2 c; omega
  · intro h; have := e h; omega
set_option maxRecDepth 20000 in
set_option maxHeartbeats 1600000 in
theorem vc33 (args : List Arg) (out : Out) (h : (cFold apf args).to out) (hok : okAs args) :
    args.length = ic33.nargs ∧ ic33.nargs ≤ ic33.ntmps ∧ ∃ A, run apf [(81, cJoin apf)] A ic33.body (fnQ apf args out ic33.res) (st0 G2 true args) := by
  unfold cFold at h
  split at h
  · rename_i sz i x n m f
    obtain ⟨hf, h⟩ := h
    cases h
    obtain ⟨_, _, _, ⟨hn, ⟨rfl, _⟩, _⟩, _⟩ := hok
    generalize hg : unRw f = g
    have hf : f = rowV apf g := by rw [← hg]; exact hf
    clear hg
    subst hf
    have hp : (unR m (rowV apf g)).length = m := unR_len
    refine ⟨rfl, by decide, aFo apf m (rowV apf g) (apf _ _ (apf _ _ (apf _ _ (apf _ _ foldT sz) i) x) (apf _ _ (apf _ _ unR m) (rowV apf g))) (apf _ _ (apf _ _ unR m) (rowV apf g)), ?_⟩
    show run apf _ _ _ _ (st0 [(0, .ints .u32 64 kk), (1, .ints .u32 64 kk)] _ _)
    generalize hK : kk = K
    generalize hap : apf = ap
    cbv
    repeat' first
      | exact True.intro
      | (intro (hh : _ = true); first | with_reducible exact absurd hh (bk_t (by assumption)) | cbv)
      | (intro (hh : _ = false); first | with_reducible exact absurd hh (bk_f (by assumption)) | cbv)
      | with_reducible refine And.intro ?_ ?_
      | (refine ⟨ap _ _ (ap _ _ (ap _ _ foIn sz) i) x, ?_, ?_⟩; rotate_left 1; (try cbv); with_reducible refine And.intro ?_ ?_)
      | fail
    all_goals first
      | (intro (s : FoS) hs k1 k2
         clear k1 k2
         skip
         all_goals cbv
         all_goals (
           repeat' first
             | exact True.intro
             | (intro (hh : _ = true); first | with_reducible exact absurd hh (bk_t (by assumption)) | cbv)
             | (intro (hh : _ = false); first | with_reducible exact absurd hh (bk_f (by assumption)) | cbv)
             | with_reducible refine And.intro ?_ ?_
             | (refine ⟨ap _ _ (ap _ _ foNx (ap _ _ (ap _ _ unR m) (rowV ap g))) s, ?_, (?_ : _ < _), ?_⟩; rotate_left 2; (try cbv); with_reducible refine And.intro ?_ ?_)
             | fail))
      | skip
    all_goals subst hap
    all_goals try simp only at *
    all_goals first
      | (have F := fo_num hs hn
         obtain ⟨a1, a2, a3, a4, a5, a6, a7, a8, a9, b1, b2, b3⟩ := F
         try simp only [apf, cmF, arF, eq_t, eq_f, lt_t, lt_f, gt_t, gt_f, ge_f, lenI, a4, a5, a6, a7, a8, a9] at *
         first
           | (have e := nx_skip (p := unR m (rowV apf g)) (s := s) (by omega)
              simp only [e] at *)
           | (have e := nx_odd (p := unR m (rowV apf g)) (s := s) (by omega) (by omega)
              simp only [e] at *)
           | (have e := nx_even (p := unR m (rowV apf g)) (s := s) (by omega) (by omega)
              simp only [e] at *)
           | skip)
      | skip
    all_goals try simp only [apf, cmF, eqI', eqL', ltN, eqN, addN, subN, leN, Nat.add_zero, lt_t, lt_f, gt_t, gt_f, ge_t, ge_f, lenI] at *
    all_goals first
      | exact fun _ _ => rfl
      | omega
      | exact fo_next hp hs (by omega) (fun h => by omega)
      | exact fo_skip hs (by omega) (by omega)
      | exact fo_step hp hs (by omega) (by omega) (by omega) (if_pos (by omega)).symm
      | exact fo_step hp hs (by omega) (by omega) (by omega) (if_neg (by omega)).symm
      | exact (inc_i64 (by omega)).symm
      | (rw [foF, fo_bad (by omega)]; done)
      | (rw [foF, fo_bad (by omega)]; exact rfl)
      | (rw [foE, fo_bad (by omega)]; done)
      | exact fo_in (by omega) (by omega) (by omega) (by omega)
      | (simp only [foIn]; omega)
      | (simp only [foIn]; done)
      | (rw [foF, fo_short hp hs (by omega) (by omega) (by omega)]; done)
      | (rw [foF, fo_short hp hs (by omega) (by omega) (by omega)]; exact rfl)
      | (rw [foE, fo_short hp hs (by omega) (by omega) (by omega)]; done)
      | (rw [foF, fo_long hp hs (by omega) (by omega)]; done)
      | (rw [foF, fo_long hp hs (by omega) (by omega)]; exact rfl)
      | (rw [foE, fo_long hp hs (by omega) (by omega)]; done)
      | (rw [foF, fo_done hp hs (by omega) (by omega)]; done)
      | (rw [foE, fo_done hp hs (by omega) (by omega)]; done)
      | (rw [Int.toNat_natCast, unR_get (by omega)]; exact rfl)
      | (rw [unR_get (by omega)]; exact rfl)
      | trace_state
  · exact h.elim
theorem s33 : Sound Tryd.prog G2 33 (puM 33) (cFold apf) := fn_sound rfl Tryd.call33 ok33 co33 (env_cons s81 env_nil) vc33
set_option maxRecDepth 20000 in
set_option maxHeartbeats 1600000 in
theorem vc34 (args : List Arg) (out : Out) (h : (cFold apf args).to out) (hok : okAs args) :
    args.length = ic34.nargs ∧ ic34.nargs ≤ ic34.ntmps ∧ ∃ A, run apf [(82, cJoin apf)] A ic34.body (fnQ apf args out ic34.res) (st0 G2 true args) := by
  unfold cFold at h
  split at h
  · rename_i sz i x n m f
    obtain ⟨hf, h⟩ := h
    cases h
    obtain ⟨_, _, _, ⟨hn, ⟨rfl, _⟩, _⟩, _⟩ := hok
    generalize hg : unRw f = g
    have hf : f = rowV apf g := by rw [← hg]; exact hf
    clear hg
    subst hf
    have hp : (unR m (rowV apf g)).length = m := unR_len
    refine ⟨rfl, by decide, aFoR apf m (rowV apf g) (apf _ _ (apf _ _ (apf _ _ (apf _ _ foldT sz) i) x) (apf _ _ (apf _ _ unR m) (rowV apf g))) (apf _ _ (apf _ _ unR m) (rowV apf g)), ?_⟩
    show run apf _ _ _ _ (st0 [(0, .ints .u32 64 kk), (1, .ints .u32 64 kk)] _ _)
    generalize hK : kk = K
    generalize hap : apf = ap
    cbv
    repeat' first
      | exact True.intro
      | (intro (hh : _ = true); first | with_reducible exact absurd hh (bk_t (by assumption)) | cbv)
      | (intro (hh : _ = false); first | with_reducible exact absurd hh (bk_f (by assumption)) | cbv)
      | with_reducible refine And.intro ?_ ?_
      | (refine ⟨ap _ _ (ap _ _ (ap _ _ foIn sz) i) x, ?_, ?_⟩; rotate_left 1; (try cbv); with_reducible refine And.intro ?_ ?_)
      | fail
    all_goals first
      | (intro (s : FoS) hs k1 k2
         clear k1 k2
         skip
         all_goals cbv
         all_goals (
           repeat' first
             | exact True.intro
             | (intro (hh : _ = true); first | with_reducible exact absurd hh (bk_t (by assumption)) | cbv)
             | (intro (hh : _ = false); first | with_reducible exact absurd hh (bk_f (by assumption)) | cbv)
             | with_reducible refine And.intro ?_ ?_
             | (refine ⟨ap _ _ (ap _ _ foNx (ap _ _ (ap _ _ unR m) (rowV ap g))) s, ?_, (?_ : _ < _), ?_⟩; rotate_left 2; (try cbv); with_reducible refine And.intro ?_ ?_)
             | fail))
      | skip
    all_goals subst hap
    all_goals try simp only at *
    all_goals first
      | (have F := fo_num hs hn
         obtain ⟨a1, a2, a3, a4, a5, a6, a7, a8, a9, b1, b2, b3⟩ := F
         try simp only [apf, cmF, arF, eq_t, eq_f, lt_t, lt_f, gt_t, gt_f, ge_f, lenI, natI, a4, a5, a6, a7, a8, a9] at *
         first
           | (have e := nx_skip (p := unR m (rowV apf g)) (s := s) (by omega)
              simp only [e] at *)
           | (have e := nx_odd (p := unR m (rowV apf g)) (s := s) (by omega) (by omega)
              simp only [e] at *)
           | (have e := nx_even (p := unR m (rowV apf g)) (s := s) (by omega) (by omega)
              simp only [e] at *)
           | skip)
      | skip
    all_goals try simp only [apf, cmF, eqI', eqL', ltN, eqN, addN, Nat.zero_add, lt_t, lt_f, gt_t, gt_f, ge_t, ge_f, lenI] at *
    all_goals first
      | exact fun _ _ => rfl
      | omega
      | exact fo_next hp hs (by omega) (fun h => by omega)
      | exact fo_skip hs (by omega) (by omega)
      | exact fo_step hp hs (by omega) (by omega) (by omega) (if_pos (by omega)).symm
      | exact fo_step hp hs (by omega) (by omega) (by omega) (if_neg (by omega)).symm
      | exact (inc_i64 (by omega)).symm
      | (rw [foF, fo_bad (by omega)]; done)
      | (rw [foF, fo_bad (by omega)]; exact rfl)
      | (rw [foE, fo_bad (by omega)]; done)
      | exact fo_in (by omega) (by omega) (by omega) (by omega)
      | (simp only [foIn]; omega)
      | (simp only [foIn]; done)
      | (rw [foF, fo_short hp hs (by omega) (by omega) (by omega)]; done)
      | (rw [foF, fo_short hp hs (by omega) (by omega) (by omega)]; exact rfl)
      | (rw [foE, fo_short hp hs (by omega) (by omega) (by omega)]; done)
      | (rw [foF, fo_long hp hs (by omega) (by omega)]; done)
      | (rw [foF, fo_long hp hs (by omega) (by omega)]; exact rfl)
      | (rw [foE, fo_long hp hs (by omega) (by omega)]; done)
      | (rw [foF, fo_done hp hs (by omega) (by omega)]; done)
      | (rw [foE, fo_done hp hs (by omega) (by omega)]; done)
      | (rw [Int.toNat_natCast, unR_get (by omega)]; exact rfl)
      | (rw [unR_get (by omega)]; exact rfl)
      | trace_state
  · exact h.elim
theorem s34 : Sound Tryd.prog G2 34 (puM 34) (cFold apf) := fn_sound rfl Tryd.call34 ok34 co34 (env_cons s82 env_nil) vc34
end Go.Cx.Rb
/- CxbMC -/
namespace Go.Cx.Rb
open Go Go.Cx Go.Proofs
def lfD (b : List Int) : List Int := digest ([0] ++ b)
theorem lf_e {b : List Int} {n : Nat} (h : b.length = n) : lfD b = digest (subL (catL (subL [0] 0 1) (subL b 0 n)) 0 (1 + n)) := by
  rw [subL_one, subL_all (Nat.le_of_eq h), subL_all (by simp only [catL, List.length_append, List.length_cons, List.length_nil, h]; omega), lfD, catL]
noncomputable def cLeafD (ap : AP) : Ctr
  | [.b n 1 (.ints .u8 _ b)] => .chk (ap _ _ (ap _ _ leN n) 140737488355255) <| .ok ⟨.ints .u8 32 (ap _ _ lfD b), [], []⟩
  | _ => .fail 611
set_option maxRecDepth 20000 in
set_option maxHeartbeats 1600000 in
theorem vc31 (args : List Arg) (out : Out) (h : (cLeafD apf args).to out) (hok : okAs args) :
    args.length = ic31.nargs ∧ ic31.nargs ≤ ic31.ntmps ∧ ∃ A, run apf [(79, cDig apf)] A ic31.body (fnQ apf args out ic31.res) (st0 G2 true args) := by
  unfold cLeafD at h
  split at h
  · rename_i n m b
    obtain ⟨hn, h⟩ := h
    cases h
    obtain ⟨⟨_, ⟨rfl, _⟩, ⟨hl, _⟩⟩, _⟩ := hok
    have hn : m ≤ 140737488355255 := hn
    refine ⟨rfl, by decide, [], ?_⟩
    show run apf _ _ _ _ (st0 [(0, .ints .u32 64 kk), (1, .ints .u32 64 kk)] _ _)
    generalize hK : kk = K
    generalize hap : apf = ap
    cbv
    repeat' first
      | exact True.intro
      | (intro (hh : _ = true); first | with_reducible exact absurd hh (bk_t (by assumption)) | cbv)
      | (intro (hh : _ = false); first | with_reducible exact absurd hh (bk_f (by assumption)) | cbv)
      | with_reducible refine And.intro ?_ ?_
      | fail
    all_goals subst hap
    all_goals try simp only [apf, eqL', eqN, addN, leN, appN, V.cnt, Nat.zero_add] at *
    all_goals first
      | omega
      | with_reducible exact lf_e hl
      | trace_state
  · exact h.elim
theorem s31 : Sound Tryd.prog G2 31 (puM 31) (cLeafD apf) := fn_sound rfl Tryd.call31 ok31 co31 (env_cons s79' env_nil) vc31
set_option maxRecDepth 20000 in
set_option maxHeartbeats 1600000 in
theorem vc32 (args : List Arg) (out : Out) (h : (cLeafD apf args).to out) (hok : okAs args) :
    args.length = ic32.nargs ∧ ic32.nargs ≤ ic32.ntmps ∧ ∃ A, run apf [(80, cRef apf)] A ic32.body (fnQ apf args out ic32.res) (st0 G2 true args) := by
  unfold cLeafD at h
  split at h
  · rename_i n m b
    obtain ⟨hn, h⟩ := h
    cases h
    obtain ⟨⟨_, ⟨rfl, _⟩, ⟨hl, _⟩⟩, _⟩ := hok
    have hn : m ≤ 140737488355255 := hn
    refine ⟨rfl, by decide, [], ?_⟩
    show run apf _ _ _ _ (st0 [(0, .ints .u32 64 kk), (1, .ints .u32 64 kk)] _ _)
    generalize hK : kk = K
    generalize hap : apf = ap
    cbv
    repeat' first
      | exact True.intro
      | (intro (hh : _ = true); first | with_reducible exact absurd hh (bk_t (by assumption)) | cbv)
      | (intro (hh : _ = false); first | with_reducible exact absurd hh (bk_f (by assumption)) | cbv)
      | with_reducible refine And.intro ?_ ?_
      | fail
    all_goals subst hap
    all_goals try simp only [apf, eqL', eqN, addN, leN, appN, V.cnt, Nat.zero_add] at *
    all_goals first
      | omega
      | with_reducible exact lf_e hl
      | trace_state
  · exact h.elim
theorem s32 : Sound Tryd.prog G2 32 (puM 32) (cLeafD apf) := fn_sound rfl Tryd.call32 ok32 co32 (env_cons s80 env_nil) vc32
end Go.Cx.Rb
/- CxbMD -/
namespace Go.Cx.Rb
open Go Go.Cx Go.Proofs
def badN (n : Nat) : Bool := decide (n < 1 ∨ 256 < n)
noncomputable def treeL (ap : AP) (m : Nat) (l : List (List Int)) : V := treeA ap m (ap _ _ lvl l)
noncomputable def cNewT (ap : AP) : Ctr
  | [.b n 32 (.rows 32 _ f)] => .chk (ap _ _ isRw f) <| .br (ap _ _ badN n)
      (.ok ⟨.tcons .nilp (.tcons (.int .i64 2) .tnil), [], []⟩)
      (.ok ⟨.tcons (.ptr 0 []) (.tcons (.int .i64 0) .tnil), [], [treeL ap (ap _ _ hN n) (ap _ _ (ap _ _ unR n) f)]⟩)
  | _ => .fail 613
/-- the first i of a row, noughts behind them -/
def fillLL (l : List (List Int)) (i : Nat) : List (List Int) := l.take i ++ List.replicate (l.length - i) (zerosI 32)
noncomputable def famNt (ap : AP) (L : List (List Int)) : Nat → LSt
  | 0 => ⟨[(5, .sl 7000 [] 0 (ap _ _ lenL (ap _ _ (ap _ _ lvl L) 0)) 32 none), (4, .ptr 20 [])], [(20, ⟨.own, .sl 7001 [] 0 1 1 none⟩), (7001, ⟨.own, .orow 1 32 (levV ap (ap _ _ lvl L)) [(0, 7000, ap _ _ lenL (ap _ _ (ap _ _ lvl L) 0))]⟩), (7000, ⟨.own, .rows 32 (ap _ _ lenL (ap _ _ (ap _ _ lvl L) 0)) (fun t => .ints .u8 32 (ap _ _ (ap _ _ getL ((ap _ _ (ap _ _ lvl L) 0))) t))⟩)], [(7000, 17), (7001, 18)]⟩
  | j + 1 => ⟨[(5, .sl 7000 [] 0 (ap _ _ lenL (ap _ _ (ap _ _ lvl L) (j + 1))) 32 none), (4, .ptr 20 [])], [(20, ⟨.own, .sl 7001 [] 0 (j + 2) 1 none⟩), (7001, ⟨.own, .orow (j + 2) 32 (levV ap (ap _ _ lvl L)) [(j + 1, 7000, ap _ _ lenL (ap _ _ (ap _ _ lvl L) (j + 1)))]⟩), (7000, ⟨.own, .rows 32 (ap _ _ lenL (ap _ _ (ap _ _ lvl L) (j + 1))) (fun t => .ints .u8 32 (ap _ _ (ap _ _ getL ((ap _ _ (ap _ _ lvl L) (j + 1)))) t))⟩)], [(7000, 34), (7001, 54)]⟩
noncomputable def famNu (ap : AP) (L : List (List Int)) (j i : Nat) : LSt :=
  ⟨[(5, .sl 7000 [] 0 (ap _ _ lenL (ap _ _ (ap _ _ lvl L) j)) 32 none), (4, .ptr 20 []), (6, .sl 34 [] 0 (ap _ _ upN (ap _ _ lenL (ap _ _ (ap _ _ lvl L) j))) 32 none), (36, .int .i64 (ap _ _ lenI (ap _ _ upN (ap _ _ lenL (ap _ _ (ap _ _ lvl L) j))))), (37, .int .i64 (ap _ _ lenI i))],
    [(20, ⟨.own, .sl 7001 [] 0 (j + 1) 1 none⟩), (7001, ⟨.own, .orow (j + 1) 32 (levV ap (ap _ _ lvl L)) [(j, 7000, ap _ _ lenL (ap _ _ (ap _ _ lvl L) j))]⟩), (7000, ⟨.own, .rows 32 (ap _ _ lenL (ap _ _ (ap _ _ lvl L) j)) (fun t => .ints .u8 32 (ap _ _ (ap _ _ getL ((ap _ _ (ap _ _ lvl L) j))) t))⟩), (34, ⟨.own, .rows 32 (ap _ _ upN (ap _ _ lenL (ap _ _ (ap _ _ lvl L) j))) (fun t => .ints .u8 32 (ap _ _ (ap _ _ getL (ap _ _ (ap _ _ fillLL (ap _ _ upL (ap _ _ (ap _ _ lvl L) j))) i)) t))⟩)], []⟩
noncomputable def aNt (ap : AP) (n : Nat) (L : List (List Int)) : List (Nat × Ann) := [(0, .nest Nat (famNt ap L) (fun j => j < ap _ _ hN n) (fun j => ap _ _ hN n - j) (fun j => [(1, .inv (Nat × Unit) (fun x => famNu ap L j x.1) (fun x => x.1 ≤ ap _ _ upN (ap _ _ lenL (ap _ _ (ap _ _ lvl L) j))) (fun x => ap _ _ upN (ap _ _ lenL (ap _ _ (ap _ _ lvl L) j)) - x.1))]))]
theorem fl_get {u : List (List Int)} {i t : Nat} (h : t < u.length) : getL (fillLL u i) t = if t < i then getL u t else zerosI 32 := by
  simp only [getL, fillLL, List.getD_eq_getElem?_getD, List.getElem?_append, List.length_take, List.getElem?_take, List.getElem?_replicate]
  by_cases c : t < i
  · rw [if_pos (by omega), if_pos c, if_pos c]
  · rw [if_neg (by omega), if_neg c, if_pos (by omega)]
    rfl
theorem fl_zero {u : List (List Int)} {n : Nat} (h : n = u.length) : eqRows n (fun t => .ints .u8 32 (getL (fillLL u 0) t)) (fun _ => (ZT.ints .u8 32).val) := by
  intro t ht
  show V.ints .u8 32 (getL (fillLL u 0) t) = _
  rw [fl_get (by omega), if_neg (by omega)]
  rfl
theorem fl_set {u : List (List Int)} {n i : Nat} {x : List Int} (h : n = u.length) (hx : x = getL u i) : eqRows n (fun t => .ints .u8 32 (getL (fillLL u (i + 1)) t)) (updR (fun t => .ints .u8 32 (getL (fillLL u i) t)) i (.ints .u8 32 x)) := by
  intro t ht
  show V.ints .u8 32 (getL (fillLL u (i + 1)) t) = nV (updR (fun t => .ints .u8 32 (getL (fillLL u i) t)) i (.ints .u8 32 x) t)
  by_cases c : t = i
  · subst c
    rw [fl_get (by omega), if_pos (by omega), ← hx]
    simp [updR, nV]
  · simp only [updR, if_neg c]
    rw [fl_get (by omega), fl_get (by omega)]
    by_cases d : t < i
    · rw [if_pos d, if_pos (by omega)]; rfl
    · rw [if_neg d, if_neg (by omega)]; rfl
theorem fl_end {u : List (List Int)} {i : Nat} (h : u.length ≤ i) : fillLL u i = u := by
  rw [fillLL, List.take_of_length_le h, Nat.sub_eq_zero_of_le h, List.replicate_zero, List.append_nil]
theorem half_i64 {n : Nat} (h : n ≤ 1000) : wquo .i64 (wadd .i64 (n : Int) 1) 2 = (((n + 1) / 2 : Nat) : Int) := by
  rw [inc_i64 (by omega)]
  exact quo_i64 (by omega)
theorem fl_up {lv : List (List Int)} {i : Nat} (h : i < (lv.length + 1) / 2) : atL (unR lv.length fun j => .ints .u8 32 (getL lv j)) i = getL (upL lv) i := by
  rw [unR_l, upL_get h]
set_option maxRecDepth 20000 in
set_option maxHeartbeats 1600000 in
theorem vc22 (args : List Arg) (out : Out) (h : (cNewT apf args).to out) (hok : okAs args) :
    args.length = ic22.nargs ∧ ic22.nargs ≤ ic22.ntmps ∧ ∃ A, run apf [(75, cCloneR apf), (76, cAt apf)] A ic22.body (fnQ apf args out ic22.res) (st0 G2 true args) := by
  unfold cNewT at h
  split at h
  · rename_i n m f
    obtain ⟨hf, h⟩ := h
    obtain ⟨⟨hn, ⟨rfl, _⟩, _⟩, _⟩ := hok
    generalize hg : unRw f = g
    have hf : f = rowV apf g := by rw [← hg]; exact hf
    clear hg
    subst hf
    have hlen : (unR m (rowV apf g)).length = m := unR_len
    rcases h with ⟨hb, h⟩ | ⟨hb, h⟩
    all_goals cases h
    all_goals (
      refine ⟨rfl, by decide, aNt apf m (apf _ _ (apf _ _ unR m) (rowV apf g)), ?_⟩
      show run apf _ _ _ _ (st0 [(0, .ints .u32 64 kk), (1, .ints .u32 64 kk)] _ _)
      generalize hK : kk = K
      generalize hap : apf = ap
      cbv
      repeat' first
        | exact True.intro
        | (intro (hh : _ = true); first | with_reducible exact absurd hh (bk_t (by assumption)) | cbv)
        | (intro (hh : _ = false); first | with_reducible exact absurd hh (bk_f (by assumption)) | cbv)
        | with_reducible refine And.intro ?_ ?_
        | (refine ⟨0, ?_, ?_⟩; rotate_left 1; (try cbv); with_reducible refine And.intro ?_ ?_)
        | fail
      all_goals first
        | (intro (x : Nat) hx k1 k2
           clear k1 k2
           obtain _ | k := x
           all_goals cbv
           all_goals (
             repeat' first
               | exact True.intro
               | (intro (hh : _ = true); first | with_reducible exact absurd hh (bk_t (by assumption)) | cbv)
               | (intro (hh : _ = false); first | with_reducible exact absurd hh (bk_f (by assumption)) | cbv)
               | with_reducible refine And.intro ?_ ?_
               | (refine ⟨(0, ()), ?_, ?_⟩; rotate_left 1; (try cbv); with_reducible refine And.intro ?_ ?_)
               | fail))
        | skip
      all_goals first
        | (intro (y : Nat × Unit) hy k1 k2
           clear k1 k2
           obtain ⟨i, _⟩ := y
           all_goals cbv
           all_goals (
             repeat' first
               | exact True.intro
               | (intro (hh : _ = true); first | with_reducible exact absurd hh (bk_t (by assumption)) | cbv)
               | (intro (hh : _ = false); first | with_reducible exact absurd hh (bk_f (by assumption)) | cbv)
               | with_reducible refine And.intro ?_ ?_
               | (refine ⟨k + 1 + 1, ?_, (?_ : _ < _), ?_⟩; rotate_left 2; (try cbv); with_reducible refine And.intro ?_ ?_)
               | (refine ⟨1, ?_, (?_ : _ < _), ?_⟩; rotate_left 2; (try cbv); with_reducible refine And.intro ?_ ?_)
               | (refine ⟨(i + 1, ()), ?_, (?_ : _ < _), ?_⟩; rotate_left 2; (try cbv); with_reducible refine And.intro ?_ ?_)
               | fail))
        | skip
      all_goals subst hap
      all_goals try simp only at *
      all_goals try simp only [apf, Nat.sub_eq, Nat.succ_eq_add_one, cmF, arF, eqI', ltN, eqN, addN, leN, appN, mksN, V.cnt, Nat.zero_add, Nat.add_zero, lt_t, lt_f, gt_t, gt_f, lenI, lenL, natI, upN, Int.toNat_natCast] at *
      all_goals try have HP := hN_pos m
      all_goals try have HQ := hN_le m (by omega)
      all_goals try have HE := HEm (g := g) (m := m)
      all_goals try have HL := HLm (g := g) (by omega : 0 < m)
      all_goals first
        | (have q := HE (k + 1)
           have w := half_i64 (n := (lvl (unR m (rowV apf g)) (k + 1)).length) (by omega)
           try simp only [w, Int.toNat_natCast] at *)
        | (have q := HE 0
           have w := half_i64 (n := (lvl (unR m (rowV apf g)) 0).length) (by omega)
           try simp only [w, Int.toNat_natCast] at *)
        | skip
      all_goals try simp only [apf, Nat.sub_eq, Nat.succ_eq_add_one, cmF, arF, eqI', eqL', eqB', ltN, eqN, addN, subN, leN, minN, appN, mksN, V.cnt, llen, Nat.zero_add, Nat.add_zero, eq_t, eq_f, lt_t, lt_f, gt_t, gt_f, ge_t, ge_f, lenI, lenL, natI, upN, Int.toNat_natCast] at *
      all_goals first
        | exact fun _ _ => rfl
        | exact fun _ _ _ => rfl
        | exact rowsO_upd rfl
        | omega
        | exact isRw_l
        | exact lvl_len2
        | exact hlen
        | (simp [notIn]; done)
        | exact absurd hb (by simp [badN]; omega)
        | exact fl_zero (by rw [upL_len])
        | (refine fl_set (by rw [upL_len]) ?_; rw [fl_up (by omega)])
        | (rw [fl_end (by rw [upL_len]; omega)]; exact fun _ _ => rfl)
        | exact ⟨by omega, by omega, by omega⟩
        | (have q := HL 0 hx; omega)
        | (have q := HL (k + 1) hx; omega)
        | exact (inc_i64 (by omega)).symm
        | (intro t ht hn; simp at hn; omega)
        | trace_state)
  · exact h.elim
theorem s22 : Sound Tryd.prog G2 22 (puM 22) (cNewT apf) := fn_sound rfl Tryd.call22 ok22 co22 (env_cons s75 (env_cons s76 env_nil)) vc22
end Go.Cx.Rb
/- CxbME -/
namespace Go.Cx.Rb
open Go Go.Cx Go.Proofs
theorem lv_ext {l r : List (List Int)} (h : l.length = r.length) (hg : ∀ t, getL l t = getL r t) : l = r := by
  refine List.ext_getElem h fun j h1 h2 => ?_
  have := hg j
  simpa [getL, List.getD_eq_getElem?_getD, h1, h2] using this
theorem unLv_e {L : Nat → List (List Int)} : unLv (levV apf L) = L := by
  have h := unLv_s (f := levV apf L) ⟨L, rfl⟩
  funext j
  have hj : levV apf L j = levV apf (unLv (levV apf L)) j := congrFun h j
  have hj : V.rows 32 (lenL (L j)) (fun t => .ints .u8 32 (getL (L j) t)) = V.rows 32 (lenL (unLv (levV apf L) j)) (fun t => .ints .u8 32 (getL (unLv (levV apf L) j) t)) := hj
  injection hj with _ h1 h2
  refine (lv_ext h1 fun t => ?_).symm
  have h3 := congrFun h2 t
  injection h3
/-- the leaves of a tree that is right -/
noncomputable def unT (f : Nat → V) : List (List Int) := unLv f 0
def isTr (m : Nat) (f : Nat → V) : Prop := ∃ l : List (List Int), 0 < l.length ∧ l.length ≤ 256 ∧ m = hN l.length ∧ f = levV apf (lvl l)
theorem unT_e {l : List (List Int)} : unT (levV apf (lvl l)) = l := congrFun unLv_e 0
theorem s26' : Sound Tryd.prog G2 26 (puM 26) (cSizeT apf) := s26.more (fun n v h => by cases h)
theorem s77' : Sound Tryd.prog G2 77 (puM 77) (cHasT apf) := s77.more (fun n v h => by cases h)
theorem s23' : Sound Tryd.prog G2 23 (puM 23) (cRootT apf) := s23.more (fun n v h => by cases h)
theorem s27' : Sound Tryd.prog G2 27 (puM 27) (cLeafT apf) := s27.more (fun n v h => by cases h)
noncomputable def cSetT (ap : AP) : Ctr
  | [.v .nilp, .v (.int .i64 _), .v (.ints .u8 32 _)] => .ok ⟨.int .i64 1, [], []⟩
  | [.o (.osl n 1 (.orow m 32 f [])) none, .v (.int .i64 i), .v (.ints .u8 32 x)] => .chk (ap _ _ (ap _ _ eqN n) m) <| .chk (ap _ _ (ap _ _ isTr m) f) <|
      .ok ⟨.int .i64 (ap _ _ (ap _ _ hasT (ap _ _ unT f)) i), [treeL ap m (ap _ _ (ap _ _ (ap _ _ setT (ap _ _ unT f)) i) x)], []⟩
  | _ => .fail 614
theorem rows_set {L0 L1 : List (List Int)} {p : Nat} {y : List Int} (hp : p < L0.length) (h : L1 = L0.set p y) : V.rows 32 L1.length (fun t => .ints .u8 32 (getL L1 t)) = V.rows 32 L0.length (updR (fun t => .ints .u8 32 (getL L0 t)) p (.ints .u8 32 y)) := by
  subst h
  have e : (fun t => V.ints .u8 32 (getL (L0.set p y) t)) = updR (fun t => V.ints .u8 32 (getL L0 t)) p (V.ints .u8 32 y) := by
    funext t
    simp only [updR]
    by_cases c : t = p
    · subst c
      rw [if_pos rfl, set_get hp, if_pos rfl]
    · rw [if_neg c, set_get hp, if_neg c]
  rw [e, List.length_set]
theorem setT_in {l : List (List Int)} {i : Int} {x : List Int} (h : 0 ≤ i ∧ i < l.length) : setT l i x = l.set i.toNat x := if_neg (by omega)
theorem setT_out {l : List (List Int)} {i : Int} {x : List Int} (h : hasT l i ≠ 0) : setT l i x = l := if_pos (by
  by_cases c : i < 0 ∨ (l.length : Int) ≤ i
  · exact c
  · exact absurd (if_neg c) h)
theorem has_in {l : List (List Int)} {i : Int} (h : hasT l i = 0) : 0 ≤ i ∧ i < l.length := by
  by_cases c : i < 0 ∨ (l.length : Int) ≤ i
  · rw [hasT, if_pos c] at h; cases h
  · omega
/-- the levels up to k as they will be -/
def mixT (l : List (List Int)) (i : Int) (x : List Int) (k j : Nat) : List (List Int) := mixL l (setT l i x) k j
def mixV (l : List (List Int)) (i : Int) (x : List Int) (k : Nat) : Nat → List (List Int) := fun j => mixT l i x k j
theorem levV_at {L : Nat → List (List Int)} {j : Nat} : levV apf L j = .rows 32 (L j).length fun t => .ints .u8 32 (getL (L j) t) := rfl
theorem mix_zero {l : List (List Int)} {i : Int} {x : List Int} {n : Nat} {o : List Nat} (hr : 0 ≤ i ∧ i < l.length) : eqRowsO n o (levV apf (mixV l i x 0)) (updR (levV apf (lvl l)) 0 (.rows 32 l.length (updR (fun t => .ints .u8 32 (getL l t)) i.toNat (.ints .u8 32 x)))) := by
  intro j hj _
  apply congrArg nV
  by_cases c : j = 0
  · subst c
    rw [levV_at]
    simp only [updR, if_true]
    exact rows_set (by omega) (setT_in hr)
  · simp only [updR, if_neg c]
    rw [levV_at, levV_at, show mixV l i x 0 j = lvl l j from if_neg (by omega)]
theorem mix_step {l : List (List Int)} {i : Int} {x : List Int} {k j : Nat} (hr : 0 ≤ i ∧ i < l.length) : levV apf (mixV l i x (k + 1)) j =
    if j = k + 1 then .rows 32 (lvl l (k + 1)).length (updR (fun t => .ints .u8 32 (getL (lvl l (k + 1)) t)) (plc i.toNat (k + 1)) (.ints .u8 32 (atL (lvl (setT l i x) k) (plc i.toNat (k + 1))))) else levV apf (mixV l i x k) j := by
  have h0 : i.toNat < l.length := by omega
  by_cases c : j = k + 1
  · subst c
    rw [if_pos rfl, levV_at, show mixV l i x (k + 1) (k + 1) = lvl (setT l i x) (k + 1) from if_pos (Nat.le_refl _)]
    exact rows_set (plc_lt h0) (by rw [setT_in hr]; exact lvl_set h0)
  · rw [if_neg c, levV_at, levV_at]
    have e : mixV l i x (k + 1) j = mixV l i x k j := by
      simp only [mixV, mixT, mixL]
      by_cases d : j ≤ k
      · rw [if_pos d, if_pos (by omega)]
      · rw [if_neg d, if_neg (by omega)]
    rw [e]
theorem mix_end {l : List (List Int)} {i : Int} {x : List Int} {k n : Nat} {o : List Nat} (h : n ≤ k + 1) : eqRowsO n o (levV apf (lvl (setT l i x))) (levV apf (mixV l i x k)) := by
  intro j hj _
  rw [levV_at, levV_at, show mixV l i x k j = lvl (setT l i x) j from if_pos (by omega)]
theorem mix_at {l : List (List Int)} {i : Int} {x : List Int} {k : Nat} : mixV l i x k k = lvl (setT l i x) k := if_pos (Nat.le_refl _)
theorem mix_up {l : List (List Int)} {i : Int} {x : List Int} {k : Nat} : mixV l i x k (k + 1) = lvl l (k + 1) := if_neg (by omega)
theorem mix_next {l : List (List Int)} {i : Int} {x y : List Int} {k n : Nat} {o : List Nat} (hr : 0 ≤ i ∧ i < l.length) (hy : y = atL (lvl (setT l i x) k) (plc i.toNat (k + 1))) : eqRowsO n o (levV apf (mixV l i x (k + 1))) (updR (updR (levV apf (mixV l i x k)) (k + 1) (.rows 32 (lvl l (k + 1)).length (updR (fun t => .ints .u8 32 (getL (lvl l (k + 1)) t)) (plc i.toNat (k + 1)) (.ints .u8 32 y)))) k (.rows 32 (lvl (setT l i x) k).length fun t => .ints .u8 32 (getL (lvl (setT l i x) k) t))) := by
  intro j hj _
  apply congrArg nV
  rw [mix_step hr]
  subst hy
  simp only [updR]
  by_cases c : j = k
  · subst c
    rw [if_neg (by omega), if_pos rfl, levV_at, mix_at]
  · rw [if_neg c]
theorem sfacts {l : List (List Int)} {i : Int} {x : List Int} {k n : Nat} (hr : 0 ≤ i ∧ i < l.length) (l1 : l.length ≤ 256) (_hm : n = hN l.length) (_hk : k + 1 < n) :
    wquo .i64 (plcI i k) 2 = plcI i (k + 1) ∧ plcI i (k + 1) = ((plc i.toNat (k + 1) : Nat) : Int) ∧ plc i.toNat (k + 1) < (lvl l (k + 1)).length ∧ 2 * plc i.toNat (k + 1) < (lvl (setT l i x) k).length ∧ (lvl (setT l i x) k).length ≤ 257 := by
  have h0 : i.toNat < l.length := by omega
  have h1 := plc_lt (j := k) h0
  have h2 := lvl_len_le (l := l) (j := k)
  have h3 : (lvl (setT l i x) k).length = (lvl l k).length := by rw [setT_in hr]; exact lvl_len_set h0
  have h4 := plc_lt (j := k + 1) h0
  have h5 : plc i.toNat (k + 1) = plc i.toNat k / 2 := plc_succ
  refine ⟨?_, rfl, h4, by omega, by omega⟩
  rw [plcI, plcI, plc_succ]
  exact quo_i64 (by omega)
noncomputable def aSt (ap : AP) (m : Nat) (l : List (List Int)) (i : Int) (x : List Int) : List (Nat × Ann) := [(0, .inv Nat (fun k =>
  ⟨[(0, .ptr (parH 0) []), (1, .int .i64 (ap _ _ (ap _ _ plcI i) k)), (35, .sl 2192 [] 0 (ap _ _ (ap _ _ subN m) 1) 1 none), (36, .int .i64 (ap _ _ lenI (ap _ _ (ap _ _ subN m) 1))), (37, .int .i64 (ap _ _ lenI k))],
   [(parH 0, ⟨.own, .sl 2192 [] 0 m 1 none⟩), (2192, ⟨.own, .orow m 32 (levV ap (ap _ _ (ap _ _ (ap _ _ (ap _ _ mixV l) i) x) k)) []⟩)], []⟩) (fun k => k < m) (fun k => m - k))]
set_option maxRecDepth 20000 in
set_option maxHeartbeats 1600000 in
theorem vc24 (args : List Arg) (out : Out) (h : (cSetT apf args).to out) (hok : okAs args) :
    args.length = ic24.nargs ∧ ic24.nargs ≤ ic24.ntmps ∧ ∃ A, run apf [(77, cHasT apf), (76, cAt apf)] A ic24.body (fnQ apf args out ic24.res) (st0 G2 (puM 24) args) := by
  unfold cSetT at h
  split at h
  · cases h
    refine ⟨rfl, by decide, [], ?_⟩
    clear hok
    show run apf _ _ _ _ (st0 [(0, .ints .u32 64 kk), (1, .ints .u32 64 kk)] _ _)
    generalize hK : kk = K
    generalize hap : apf = ap
    cbv
    repeat' first
      | exact True.intro
      | (intro (hh : _ = true); first | with_reducible exact absurd hh (bk_t (by assumption)) | cbv)
      | (intro (hh : _ = false); first | with_reducible exact absurd hh (bk_f (by assumption)) | cbv)
      | with_reducible refine And.intro ?_ ?_
      | fail
    all_goals subst hap
    all_goals first
      | exact rfl
      | (exfalso
         have h8 : neI 1 0 = false := by assumption
         exact absurd h8 (by decide))
      | trace_state
  · rename_i n m f i x
    obtain ⟨h1, h2, h⟩ := h
    cases h
    obtain rfl : n = m := h1
    obtain ⟨l, l0, l1, hm, rfl⟩ : isTr n f := h2
    have hU : unT (levV apf (lvl l)) = l := unT_e
    have hL : unLv (levV apf (lvl l)) = lvl l := unLv_e
    have hT : isTr n (levV apf (lvl l)) := ⟨l, l0, l1, hm, rfl⟩
    have hl0 : lvl l 0 = l := rfl
    have HP := hN_pos l.length
    have HQ := hN_le l.length l0
    have hn1 : 1 ≤ n ∧ n ≤ 256 := by omega
    have w1 : wsub .i64 (n : Int) 1 = ((n - 1 : Nat) : Int) := by rw [wsub_i64 (by omega)]; omega
    generalize hLL : lvl l = L at hU hL hT hl0
    refine ⟨rfl, by decide, aSt apf n l i x, ?_⟩
    show run apf _ _ _ _ (st0 [(0, .ints .u32 64 kk), (1, .ints .u32 64 kk)] _ _)
    generalize hK : kk = K
    generalize hap : apf = ap
    cbv
    repeat' first
      | exact True.intro
      | (intro (hh : _ = true); first | with_reducible exact absurd hh (bk_t (by assumption)) | cbv)
      | (intro (hh : _ = false); first | with_reducible exact absurd hh (bk_f (by assumption)) | cbv)
      | with_reducible refine And.intro ?_ ?_
      | (refine ⟨0, ?_, ?_⟩; rotate_left 1; (try cbv); with_reducible refine And.intro ?_ ?_)
      | fail
    all_goals first
      | (intro (k : Nat) hk k1 k2
         clear k1 k2
         skip
         all_goals cbv
         all_goals (
           repeat' first
             | exact True.intro
             | (intro (hh : _ = true); first | with_reducible exact absurd hh (bk_t (by assumption)) | cbv)
             | (intro (hh : _ = false); first | with_reducible exact absurd hh (bk_f (by assumption)) | cbv)
             | with_reducible refine And.intro ?_ ?_
             | (refine ⟨k + 1, ?_, (?_ : _ < _), ?_⟩; rotate_left 2; (try cbv); with_reducible refine And.intro ?_ ?_)
             | fail))
      | skip
    all_goals subst hap
    all_goals try simp only [cast_fix] at *
    all_goals try simp only [apf, Nat.sub_eq, Nat.succ_eq_add_one, cmF, arF, eqI', ltN, eqN, addN, subN, leN, V.cnt, Nat.zero_add, Nat.add_zero, ne_t, ne_f, lt_t, lt_f, lenI, lenL, natI, Int.toNat_natCast, hU, hL, hl0] at *
    all_goals subst hLL
    all_goals try simp only [w1, Int.toNat_natCast] at *
    all_goals first
      | (have hr := has_in (l := l) (i := i) (by assumption)
         first
           | (have w2 := inc_i64 (i := k) (by omega)
              have F := sfacts (x := x) hr l1 hm (show k + 1 < n by omega)
              obtain ⟨f1, f2, f3, f4, f5⟩ := F
              try simp only [w2, f1, Int.toNat_natCast, mix_at, mix_up] at *
              try simp only [f2, Int.toNat_natCast] at *)
           | skip)
      | skip
    all_goals first
      | exact fun _ _ => rfl
      | exact fun _ _ _ => rfl
      | exact rowsO_upd rfl
      | omega
      | exact hr.1
      | exact isRw_l
      | exact ⟨_, rfl⟩
      | (simp [notIn]; done)
      | exact mix_zero hr
      | exact mix_next hr (by rw [unR_l])
      | exact mix_end (by omega)
      | exact plc0 hr.1
      | (rw [setT_out (by assumption)]; exact fun _ _ _ => rfl)
      | exact ⟨by omega, by omega, by omega⟩
      | trace_state
  · exact h.elim
theorem s24 : Sound Tryd.prog G2 24 (puM 24) (cSetT apf) := fn_sound rfl Tryd.call24 ok24 co24 (env_cons s77' (env_cons s76 env_nil)) vc24
end Go.Cx.Rb
/- CxbMF -/
namespace Go.Cx.Rb
open Go Go.Cx Go.Proofs
def isOut (l : List (List Int)) (i : Int) : Bool := neI (hasT l i) 0
noncomputable def cPathT (ap : AP) : Ctr
  | [.v .nilp, .v (.int .i64 _)] => .ok ⟨.tcons .nsl (.tcons (.int .i64 1) .tnil), [], []⟩
  | [.o (.osl n 1 (.orow m 32 f [])) none, .v (.int .i64 i)] => .chk (ap _ _ (ap _ _ eqN n) m) <| .chk (ap _ _ (ap _ _ isTr m) f) <|
      .br (ap _ _ (ap _ _ isOut (ap _ _ unT f)) i) (.ok ⟨.tcons .nsl (.tcons (.int .i64 2) .tnil), [treeL ap m (ap _ _ unT f)], []⟩) <|
      .br (ap _ _ emL (ap _ _ (ap _ _ pathI (ap _ _ unT f)) i)) (.ok ⟨.tcons .nsl (.tcons (.int .i64 0) .tnil), [treeL ap m (ap _ _ unT f)], []⟩)
        (.ok ⟨.tcons (.sl 0 [] 0 (ap _ _ lenL (ap _ _ (ap _ _ pathI (ap _ _ unT f)) i)) 32 none) (.tcons (.int .i64 0) .tnil), [treeL ap m (ap _ _ unT f)], [.rows 32 (ap _ _ lenL (ap _ _ (ap _ _ pathI (ap _ _ unT f)) i)) (fun t => .ints .u8 32 (ap _ _ (ap _ _ getL (ap _ _ (ap _ _ pathI (ap _ _ unT f)) i)) t))]⟩)
  | _ => .fail 615
noncomputable def famPt (ap : AP) (n : Nat) (l : List (List Int)) (i : Int) : Nat × Nat → LSt
  | (0, _) => ⟨[(7, .nsl), (0, .ptr (parH 0) []), (1, .int .i64 (ap _ _ (ap _ _ plcI i) 0)), (27, .sl 2208 [] 0 (ap _ _ (ap _ _ subN n) 1) 1 none), (28, .int .i64 (ap _ _ lenI (ap _ _ (ap _ _ subN n) 1))), (29, .int .i64 (ap _ _ lenI 0))], [(parH 0, ⟨.own, .sl 2208 [] 0 n 1 none⟩), (2208, ⟨.own, .orow n 32 (levV ap (ap _ _ lvl l)) []⟩)], []⟩
  | (j + 1, 0) => ⟨[(7, .nsl), (0, .ptr (parH 0) []), (1, .int .i64 (ap _ _ (ap _ _ plcI i) (j + 1))), (27, .sl 2208 [] 0 (ap _ _ (ap _ _ subN n) 1) 1 none), (28, .int .i64 (ap _ _ lenI (ap _ _ (ap _ _ subN n) 1))), (29, .int .i64 (ap _ _ lenI (j + 1)))], [(parH 0, ⟨.own, .sl 2208 [] 0 n 1 none⟩), (2208, ⟨.own, .orow n 32 (levV ap (ap _ _ lvl l)) []⟩)], []⟩
  | (j + 1, h + 1) => ⟨[(7, .sl 7001 [] 0 (ap _ _ lenL (ap _ _ (ap _ _ (ap _ _ pathJ l) i) (j + 1))) 32 none), (0, .ptr (parH 0) []), (1, .int .i64 (ap _ _ (ap _ _ plcI i) (j + 1))), (27, .sl 2208 [] 0 (ap _ _ (ap _ _ subN n) 1) 1 none), (28, .int .i64 (ap _ _ lenI (ap _ _ (ap _ _ subN n) 1))), (29, .int .i64 (ap _ _ lenI (j + 1)))], [(parH 0, ⟨.own, .sl 2208 [] 0 n 1 none⟩), (2208, ⟨.own, .orow n 32 (levV ap (ap _ _ lvl l)) []⟩), (7001, ⟨.own, .rows 32 (ap _ _ lenL (ap _ _ (ap _ _ (ap _ _ pathJ l) i) (j + 1))) (fun t => .ints .u8 32 (ap _ _ (ap _ _ getL (ap _ _ (ap _ _ (ap _ _ pathJ l) i) (j + 1))) t))⟩)], [(7001, h + 1)]⟩
noncomputable def aPt (ap : AP) (n : Nat) (l : List (List Int)) (i : Int) : List (Nat × Ann) := [(0, .inv (Nat × Nat) (famPt ap n l i) (fun x => ap _ _ (ap _ _ (ap _ _ (ap _ _ pPr l) i) (ap _ _ List.length l)) x) (fun x => ap _ _ hN (ap _ _ List.length l) - x.1))]
theorem has_two {l : List (List Int)} {i : Int} (h : hasT l i ≠ 0) : hasT l i = 2 := by
  by_cases c : i < 0 ∨ (l.length : Int) ≤ i
  · exact if_pos c
  · exact absurd (if_neg c) h
theorem bes_in {l : List (List Int)} {P : Nat} (h : sib P < l.length) : besL l P = [getL l (sib P)] := if_pos h
theorem bes_out {l : List (List Int)} {P : Nat} (h : l.length ≤ sib P) : besL l P = [] := if_neg (by omega)
set_option maxRecDepth 20000 in
set_option maxHeartbeats 1600000 in
theorem vc28 (args : List Arg) (out : Out) (h : (cPathT apf args).to out) (hok : okAs args) :
    args.length = ic28.nargs ∧ ic28.nargs ≤ ic28.ntmps ∧ ∃ A, run apf [(77, cHasT apf)] A ic28.body (fnQ apf args out ic28.res) (st0 G2 (puM 28) args) := by
  unfold cPathT at h
  split at h
  · cases h
    refine ⟨rfl, by decide, [], ?_⟩
    clear hok
    show run apf _ _ _ _ (st0 [(0, .ints .u32 64 kk), (1, .ints .u32 64 kk)] _ _)
    generalize hK : kk = K
    generalize hap : apf = ap
    cbv
    repeat' first
      | exact True.intro
      | (intro (hh : _ = true); first | with_reducible exact absurd hh (bk_t (by assumption)) | cbv)
      | (intro (hh : _ = false); first | with_reducible exact absurd hh (bk_f (by assumption)) | cbv)
      | with_reducible refine And.intro ?_ ?_
      | fail
    all_goals subst hap
    all_goals first
      | exact rfl
      | (exfalso
         have h8 : neI 1 0 = false := by assumption
         exact absurd h8 (by decide))
      | trace_state
  · rename_i n m f i
    obtain ⟨h1, h2, h⟩ := h
    obtain rfl : n = m := h1
    obtain ⟨l, l0, l1, hm, rfl⟩ : isTr n f := h2
    have hU : unT (levV apf (lvl l)) = l := unT_e
    have hL : unLv (levV apf (lvl l)) = lvl l := unLv_e
    have hT : isTr n (levV apf (lvl l)) := ⟨l, l0, l1, hm, rfl⟩
    have hl0 : lvl l 0 = l := rfl
    have HP := hN_pos l.length
    have HQ := hN_le l.length l0
    have hn1 : 1 ≤ n ∧ n ≤ 256 := by omega
    have w1 : wsub .i64 (n : Int) 1 = ((n - 1 : Nat) : Int) := by rw [wsub_i64 (by omega)]; omega
    generalize hLL : lvl l = L at hU hL hT hl0
    rcases h with ⟨hb, h⟩ | ⟨hb, ⟨hb2, h⟩ | ⟨hb2, h⟩⟩
    all_goals cases h
    all_goals (
      refine ⟨rfl, by decide, aPt apf n l i, ?_⟩
      show run apf _ _ _ _ (st0 [(0, .ints .u32 64 kk), (1, .ints .u32 64 kk)] _ _)
      generalize hK : kk = K
      generalize hap : apf = ap
      cbv
      repeat' first
        | exact True.intro
        | (intro (hh : _ = true); first | with_reducible exact absurd hh (bk_t (by assumption)) | cbv)
        | (intro (hh : _ = false); first | with_reducible exact absurd hh (bk_f (by assumption)) | cbv)
        | with_reducible refine And.intro ?_ ?_
        | (refine ⟨(0, 0), ?_, ?_⟩; rotate_left 1; (try cbv); with_reducible refine And.intro ?_ ?_)
        | fail
      all_goals first
        | (intro (x : Nat × Nat) hx k1 k2
           clear k1 k2
           obtain ⟨_ | k, _ | hd⟩ := x
           all_goals cbv
           all_goals (
             repeat' first
               | exact True.intro
               | (intro (hh : _ = true); first | with_reducible exact absurd hh (bk_t (by assumption)) | cbv)
               | (intro (hh : _ = false); first | with_reducible exact absurd hh (bk_f (by assumption)) | cbv)
               | with_reducible refine And.intro ?_ ?_
               | (refine ⟨(k + 1 + 1, 45), ?_, (?_ : _ < _), ?_⟩; rotate_left 2; (try cbv); with_reducible refine And.intro ?_ ?_; (repeat' with_reducible refine And.intro ?_ ?_); (all_goals (fail_if_success (with_reducible show False))))
               | (refine ⟨(k + 1 + 1, 0), ?_, (?_ : _ < _), ?_⟩; rotate_left 2; (try cbv); with_reducible refine And.intro ?_ ?_; (repeat' with_reducible refine And.intro ?_ ?_); (all_goals (fail_if_success (with_reducible show False))))
               | (refine ⟨(k + 1 + 1, 7001), ?_, (?_ : _ < _), ?_⟩; rotate_left 2; (try cbv); with_reducible refine And.intro ?_ ?_; (repeat' with_reducible refine And.intro ?_ ?_); (all_goals (fail_if_success (with_reducible show False))))
               | (refine ⟨(1, 45), ?_, (?_ : _ < _), ?_⟩; rotate_left 2; (try cbv); with_reducible refine And.intro ?_ ?_; (repeat' with_reducible refine And.intro ?_ ?_); (all_goals (fail_if_success (with_reducible show False))))
               | (refine ⟨(1, 0), ?_, (?_ : _ < _), ?_⟩; rotate_left 2; (try cbv); with_reducible refine And.intro ?_ ?_; (repeat' with_reducible refine And.intro ?_ ?_); (all_goals (fail_if_success (with_reducible show False))))
               | (refine ⟨(1, 7001), ?_, (?_ : _ < _), ?_⟩; rotate_left 2; (try cbv); with_reducible refine And.intro ?_ ?_; (repeat' with_reducible refine And.intro ?_ ?_); (all_goals (fail_if_success (with_reducible show False))))
               | fail))
        | skip
      all_goals subst hap
      all_goals try simp only [cast_fix] at *
      all_goals try simp only [apf, Nat.succ_eq_add_one, cmF, arF, eqI', ltN, eqN, addN, subN, leN, appN, V.cnt, Nat.zero_add, Nat.add_zero, ne_t, ne_f, lt_t, lt_f, lenI, lenL, natI, Int.toNat_natCast, hU, hL, hl0, isOut] at *
      all_goals subst hLL
      all_goals try simp only [w1, Int.toNat_natCast, unT_e] at *
      all_goals first
        | (have hr := has_in (l := l) (i := i) (by assumption)
           first
             | (have F := pfacts (L := l) (m := l.length) rfl hr.1 hr.2 (by omega) hx
                obtain ⟨P, q1, q2, q3, q4, q5, q6, q7, q8, q9, r1, r2, r3, r4, r5⟩ := F
                have w3 := bxor_one (i := P) (by omega)
                try simp only [q1, q2, r1, r2, r3, r4, w3, Int.toNat_natCast, Nat.zero_add] at *
                first
                  | rw [pnil hx, List.nil_append] at q7
                  | rw [pathJ0, List.nil_append] at q7
                  | skip
                first
                  | rw [bes_in (by omega)] at q7
                  | rw [bes_out (by omega)] at q7
                  | skip)
             | skip)
        | skip
      all_goals first
        | exact fun _ _ => rfl
        | exact fun _ _ _ => rfl
        | exact rowsO_upd rfl
        | omega
        | exact hr.1
        | exact isRw_l
        | exact ⟨_, rfl⟩
        | (simp [notIn]; done)
        | exact plc0 hr.1
        | exact (inc_i64 (by omega)).symm
        | (rw [q7]; simp only [List.length_cons, List.length_nil]; done)
        | (rw [q7, List.append_nil]; done)
        | (rw [q7, List.length_append]; simp only [List.length_cons, List.length_nil]; done)
        | (rw [q7, List.append_nil]; exact fun _ _ => rfl)
        | (rw [q7]; exact row_one rfl)
        | (rw [q7]; exact row_snoc rfl)
        | (rw [r5 (by omega)]; done)
        | (rw [r5 (by omega)]; exact fun _ _ => rfl)
        | (rw [r5 (by omega)] at hb2; exact pnot hx (em_t hb2))
        | (rw [r5 (by omega), pnil hx] at hb2; cases hb2)
        | (rw [r5 (by omega), pathJ0] at hb2; cases hb2)
        | (refine mkP (by omega) ?_; rw [q7]; simp; done)
        | (refine mkP (by omega) ?_; rw [q7, List.append_nil]; simp [pnot hx]; done)
        | exact ⟨HP, .inl rfl⟩
        | exact has_two (by assumption)
        | exact (has_two (by assumption)).symm
        | trace_state)
  · exact h.elim
theorem s28 : Sound Tryd.prog G2 28 (puM 28) (cPathT apf) := fn_sound rfl Tryd.call28 ok28 co28 (env_cons s77' env_nil) vc28
end Go.Cx.Rb
/- CxbMG -/
namespace Go.Cx.Rb
open Go Go.Cx Go.Proofs
def aL1 : List Int := 1 :: List.replicate 31 0
def aL2 : List Int := 2 :: List.replicate 31 0
def aJ : List Int := [127, 80, 117, 78, 227, 143, 160, 51, 23, 237, 95, 254, 79, 42, 217, 20, 128, 133, 79, 170, 249, 85, 136, 108, 215, 128, 243, 116, 250, 101, 130, 246]
theorem aJ_e : jn aL1 aL2 = aJ := by kernel_rfl
theorem aR_e : nthI (jn aJ aL1) 0 = 25 := by kernel_rfl
theorem up3 {a b c : List Int} : upL [a, b, c] = [jn a b, c] := by
  simp [upL, atL, getL, List.range_succ]
theorem up2 {a b : List Int} : upL [a, b] = [jn a b] := by
  simp [upL, atL, getL, List.range_succ]
theorem root_ab : rootL [aL1, aL2, aL1] = jn aJ aL1 := by
  rw [rootL_more (by simp), up3, aJ_e, rootL_more (by simp), up2, rootL_one (by simp)]
  simp [getL]
theorem unR3 {z : V} {a b c : List Int} : unR 3 (lkV z [(0, .ints .u8 32 a), (1, .ints .u8 32 b), (2, .ints .u8 32 c)]) = [a, b, c] := by
  simp [unR, unRw, lkV, List.range_succ]
theorem isRw_all {f : Nat → V} (h : ∀ t, ∃ l, f t = .ints .u8 32 l) : isRw f := by
  funext t
  obtain ⟨l, e⟩ := h t
  show f t = .ints .u8 32 (unRw f t)
  rw [unRw, e]
theorem isRw3 {z a b c : List Int} : isRw (lkV (.ints .u8 32 z) [(0, .ints .u8 32 a), (1, .ints .u8 32 b), (2, .ints .u8 32 c)]) := isRw_all fun t => by
  simp only [lkV]
  by_cases h0 : t = 0
  · exact ⟨a, if_pos h0⟩
  · rw [if_neg h0]
    by_cases h1 : t = 1
    · exact ⟨b, if_pos h1⟩
    · rw [if_neg h1]
      by_cases h2 : t = 2
      · exact ⟨c, if_pos h2⟩
      · exact ⟨z, if_neg h2⟩
theorem tree_lv {l : List (List Int)} : isLv (levV apf (lvl l)) := ⟨_, rfl⟩
theorem tree_pos {l : List (List Int)} (h0 : 0 < l.length) (h1 : l.length ≤ 256) : posT (lvl l) (hN l.length) :=
  ⟨hN_pos _, by have := hN_le _ h0; omega, fun j hj => (lvl_has h0 hj).1⟩
theorem root_ne : eqL (rootL [aL1, aL2, aL1]) aL1 = false := by
  rw [root_ab]
  refine decide_eq_false fun h => ?_
  have := aR_e
  rw [h] at this
  exact absurd this (by decide)
theorem topT3 {a b c : List Int} : topT (lvl [a, b, c]) (hN 3) = rootL [a, b, c] := rfl
theorem lv0 {l : List (List Int)} : lvl l 0 = l := rfl
theorem root_ne' (h : rootL [[1, 0, 0, 0, 0, 0, 0, 0, 0, 0, 0, 0, 0, 0, 0, 0, 0, 0, 0, 0, 0, 0, 0, 0, 0, 0, 0, 0, 0, 0, 0, 0], [2, 0, 0, 0, 0, 0, 0, 0, 0, 0, 0, 0, 0, 0, 0, 0, 0, 0, 0, 0, 0, 0, 0, 0, 0, 0, 0, 0, 0, 0, 0, 0], [1, 0, 0, 0, 0, 0, 0, 0, 0, 0, 0, 0, 0, 0, 0, 0, 0, 0, 0, 0, 0, 0, 0, 0, 0, 0, 0, 0, 0, 0, 0, 0]] = [1, 0, 0, 0, 0, 0, 0, 0, 0, 0, 0, 0, 0, 0, 0, 0, 0, 0, 0, 0, 0, 0, 0, 0, 0, 0, 0, 0, 0, 0, 0, 0]) : False := by
  have := root_ne
  exact absurd (show rootL [aL1, aL2, aL1] = aL1 from h) (of_decide_eq_false this)
noncomputable def cFixM (_ : AP) : Ctr
  | [] => .ok ⟨.tt, [], []⟩
  | _ => .fail 616
noncomputable def cLaw6 (ap : AP) : Ctr
  | [.v (.int .i64 _), .b n 1 (.ints .u8 _ _)] => .chk (ap _ _ (ap _ _ leN n) 140737488351232) <| .ok ⟨.tt, [], []⟩
  | _ => .fail 617
set_option maxRecDepth 20000 in
set_option maxHeartbeats 1600000 in
theorem vc21 (args : List Arg) (out : Out) (h : (cFixM apf args).to out) (hok : okAs args) :
    args.length = ic21.nargs ∧ ic21.nargs ≤ ic21.ntmps ∧ ∃ A, run apf [(22, cNewT apf), (26, cSizeT apf), (23, cRootT apf), (25, cRootR apf), (31, cLeafD apf), (32, cLeafD apf)] A ic21.body (fnQ apf args out ic21.res) (st0 G2 true args) := by
  unfold cFixM at h
  split at h
  · skip
    cases h
    refine ⟨rfl, by decide, [], ?_⟩
    show run apf _ _ _ _ (st0 [(0, .ints .u32 64 kk), (1, .ints .u32 64 kk)] _ _)
    generalize hK : kk = K
    generalize hap : apf = ap
    cbv
    repeat' first
      | exact True.intro
      | (intro (hh : _ = true); first | with_reducible exact absurd hh (bk_t (by assumption)) | cbv)
      | (intro (hh : _ = false); first | with_reducible exact absurd hh (bk_f (by assumption)) | cbv)
      | with_reducible refine And.intro ?_ ?_
      | fail
    all_goals subst hap
    all_goals try simp only [cast_fix] at *
    all_goals try simp only [apf, cmF, eqB', ltN, eqN, addN, leN, V.cnt, Nat.zero_add, eq_t, eq_f, ne_t, ne_f, eqL_t, eqL_f, notB_t, notB_f, lenI, lenL] at *
    all_goals try simp only [unLv_e, unR3, topT3, lv0] at *
    all_goals try simp only [apf, Nat.sub_eq, Nat.succ_eq_add_one, cmF, arF, eqI', eqL', eqB', ltN, eqN, addN, subN, leN, minN, appN, mksN, V.cnt, llen, Nat.zero_add, Nat.add_zero, eq_t, eq_f, ne_t, ne_f, lt_t, lt_f, gt_t, gt_f, ge_t, ge_f, eqL_t, eqL_f, notB_t, notB_f, lenI, lenL, natI, Int.toNat_natCast] at *
    all_goals first
      | omega
      | contradiction
      | exact absurd hh (by decide)
      | exact root_ne' (by assumption)
      | (exfalso; simp at *; done)
      | exact isRw3
      | exact tree_lv
      | exact hN_pos _
      | exact tree_pos (by simp) (by simp)
      | trace_state
  · exact h.elim
theorem s21 : Sound Tryd.prog G2 21 (puM 21) (cFixM apf) := fn_sound rfl Tryd.call21 ok21 co21 (env_cons s22 (env_cons s26' (env_cons s23' (env_cons s25 (env_cons s31 (env_cons s32 env_nil)))))) vc21
set_option maxRecDepth 20000 in
set_option maxHeartbeats 1600000 in
theorem vc6 (args : List Arg) (out : Out) (h : (cLaw6 apf args).to out) (hok : okAs args) :
    args.length = ic6.nargs ∧ ic6.nargs ≤ ic6.ntmps ∧ ∃ A, run apf [(21, cFixM apf), (23, cRootT apf), (27, cLeafT apf), (28, cPathT apf), (24, cSetT apf), (26, cSizeT apf), (31, cLeafD apf), (32, cLeafD apf)] A ic6.body (fnQ apf args out ic6.res) (st0 G2 true args) := by
  unfold cLaw6 at h
  split at h
  · rename_i _ n m b
    obtain ⟨hn, h⟩ := h
    cases h
    obtain ⟨_, ⟨_, ⟨rfl, _⟩, ⟨hl, _⟩⟩, _⟩ := hok
    have hn : m ≤ 140737488351232 := hn
    refine ⟨rfl, by decide, [], ?_⟩
    show run apf _ _ _ _ (st0 [(0, .ints .u32 64 kk), (1, .ints .u32 64 kk)] _ _)
    generalize hK : kk = K
    generalize hap : apf = ap
    cbv
    repeat' first
      | exact True.intro
      | (intro (hh : _ = true); first | with_reducible exact absurd hh (bk_t (by assumption)) | cbv)
      | (intro (hh : _ = false); first | with_reducible exact absurd hh (bk_f (by assumption)) | cbv)
      | with_reducible refine And.intro ?_ ?_
      | fail
    all_goals subst hap
    all_goals try simp only at *
    all_goals try simp only [apf, cmF, eqB', addN, leN, V.cnt, Nat.zero_add, eq_t, eq_f, eqL_t] at *
    all_goals try simp only [unLv_e, unT_e, unR3, topT3, lv0] at *
    all_goals try simp only [apf, Nat.sub_eq, Nat.succ_eq_add_one, cmF, arF, eqI', eqL', eqB', ltN, eqN, addN, subN, leN, minN, appN, mksN, V.cnt, llen, Nat.zero_add, Nat.add_zero, eq_t, eq_f, ne_t, ne_f, lt_t, lt_f, gt_t, gt_f, ge_t, ge_f, eqL_t, eqL_f, notB_t, notB_f, lenI, lenL, natI, Int.toNat_natCast] at *
    all_goals first
      | omega
      | contradiction
      | exact absurd hh (by decide)
      | exact root_ne' (by assumption)
      | (exfalso; simp at *; done)
      | exact isRw3
      | exact tree_lv
      | exact hN_pos _
      | exact tree_pos (by simp) (by simp)
      | trace_state
  · exact h.elim
theorem s6 : Sound Tryd.prog G2 6 (puM 6) (cLaw6 apf) := fn_sound rfl Tryd.call6 ok6 co6 (env_cons s21 (env_cons s23' (env_cons s27' (env_cons s28 (env_cons s24 (env_cons s26' (env_cons s31 (env_cons s32 env_nil)))))))) vc6
end Go.Cx.Rb
/- CxbMH -/
namespace Go.Cx.Rb
open Go Go.Cx Go.Proofs
noncomputable def cLaw3 (ap : AP) : Ctr
  | [.v (.dsl n 32 (.rows 32 m f)), .v (.int .i64 _), .v (.ints .u8 32 _)] => .chk (ap _ _ (ap _ _ eqN n) m) <| .chk (ap _ _ isRw f) <| .chk (ap _ _ (ap _ _ leN n) 4398046510976) <| .ok ⟨.tt, [], []⟩
  | _ => .fail 618
def ixM (n : Nat) (a : Int) : Int := wcv .i64 (wrem .u64 (wcv .u64 a) (wcv .u64 (n : Int)))
theorem ixM_ok {n : Nat} {a : Int} (h0 : 1 ≤ n) (h1 : n ≤ 256) : wcv .u64 (n : Int) ≠ 0 ∧ 0 ≤ ixM n a ∧ ixM n a < n := by
  have e : wcv .u64 (n : Int) = n := wcv_u64 (by omega)
  have ha : 0 ≤ wcv .u64 a := by
    rw [wcv, u64_emod]; omega
  obtain ⟨k, hk⟩ := Int.eq_ofNat_of_zero_le ha
  have e2 : wrem .u64 (wcv .u64 a) (wcv .u64 (n : Int)) = ((k % n : Nat) : Int) := by rw [e, hk]; rfl
  have h3 : k % n < n := Nat.mod_lt _ (by omega)
  refine ⟨by omega, ?_⟩
  rw [ixM, e2, wcv_i64 (by omega)]
  omega
theorem topT_n {l : List (List Int)} {n : Nat} (h : l.length = n) : topT (lvl l) (hN n) = rootL l := by subst h; rfl
theorem setT_len {l : List (List Int)} {i : Int} {x : List Int} : (setT l i x).length = l.length := by rw [setT]; split <;> simp
theorem tree_is {l : List (List Int)} {n : Nat} (h : l.length = n) (h0 : 1 ≤ n) (h1 : n ≤ 256) : isTr (hN n) (levV apf (lvl l)) := ⟨l, by omega, by omega, by rw [h], rfl⟩
theorem tree_ps {l : List (List Int)} {n : Nat} (h : l.length = n) (h0 : 1 ≤ n) (h1 : n ≤ 256) : posT (lvl l) (hN n) := by subst h; exact tree_pos h0 h1
theorem has_ok {l : List (List Int)} {i : Int} (h : 0 ≤ i ∧ i < l.length) : hasT l i = 0 := if_neg (by omega)
theorem unR_upd {n p : Nat} {g : Nat → List Int} {x : List Int} (h : p < n) : unR n (updR (rowV apf g) p (.ints .u8 32 x)) = (unR n (rowV apf g)).set p x := by
  apply List.ext_getElem (by simp [unR])
  intro j h1 h2
  simp only [unR, List.length_map, List.length_range] at h1
  simp only [unR, List.getElem_map, List.getElem_range, List.getElem_set, unRw, updR]
  by_cases c : j = p
  · subst c; simp
  · rw [if_neg c, if_neg (fun e => c e.symm)]
theorem setT_same {l : List (List Int)} {i : Int} (h : 0 ≤ i ∧ i < l.length) : setT l i (getL l i.toNat) = l := by
  rw [setT_in h]
  refine List.ext_getElem (by simp) fun j h1 h2 => ?_
  simp only [List.getElem_set, getL, List.getD_eq_getElem?_getD]
  split
  · rename_i e; subst e; simp [List.getElem?_eq_getElem h2]
  · rfl
theorem isRw_upd {f : Nat → V} {p : Nat} {x : List Int} (h : isRw f) : isRw (updR f p (.ints .u8 32 x)) := isRw_all fun t => by
  simp only [updR]
  split
  · exact ⟨x, rfl⟩
  · exact ⟨unRw f t, congrFun h t⟩
set_option maxRecDepth 20000 in
set_option maxHeartbeats 1600000 in
theorem vc3 (args : List Arg) (out : Out) (h : (cLaw3 apf args).to out) (hok : okAs args) :
    args.length = ic3.nargs ∧ ic3.nargs ≤ ic3.ntmps ∧ ∃ A, run apf [(21, cFixM apf), (22, cNewT apf), (23, cRootT apf), (24, cSetT apf), (25, cRootR apf)] A ic3.body (fnQ apf args out ic3.res) (st0 G2 true args) := by
  unfold cLaw3 at h
  split at h
  · rename_i n m f at0 leaf
    obtain ⟨h1, hf, h2, h⟩ := h
    cases h
    obtain rfl : n = m := h1
    have h2 : n ≤ 4398046510976 := h2
    generalize hg : unRw f = g
    have hf : f = rowV apf g := by rw [← hg]; exact hf
    clear hg
    subst hf
    have hl : (unR n (rowV apf g)).length = n := unR_len
    refine ⟨rfl, by decide, [], ?_⟩
    show run apf _ _ _ _ (st0 [(0, .ints .u32 64 kk), (1, .ints .u32 64 kk)] _ _)
    generalize hK : kk = K
    generalize hap : apf = ap
    cbv
    repeat' first
      | exact True.intro
      | (intro (hh : _ = true); first | with_reducible exact absurd hh (bk_t (by assumption)) | cbv)
      | (intro (hh : _ = false); first | with_reducible exact absurd hh (bk_f (by assumption)) | cbv)
      | with_reducible refine And.intro ?_ ?_
      | fail
    all_goals subst hap
    all_goals try simp only [cast_fix] at *
    all_goals try simp only [apf, cmF, arF, eqB', ltN, eqN, addN, leN, appN, V.cnt, Nat.zero_add, ne_t, ne_f, lt_f, gt_f, eqL_t, eqL_f, eqB_t, eqB_f, notB_t, notB_f, lenI, natI] at *
    all_goals try simp only [unLv_e, unT_e] at *
    all_goals try have K := ixM_ok (a := at0) (n := n) (by omega) (by omega)
    all_goals try rw [ixM] at K
    all_goals try (generalize wcv .i64 (wrem .u64 (wcv .u64 at0) (wcv .u64 (n : Int))) = q at *)
    all_goals try have t1 : topT (lvl (unR n (rowV apf g))) (hN n) = rootL (unR n (rowV apf g)) := topT_n hl
    all_goals try have t2 : topT (lvl (setT (unR n (rowV apf g)) q leaf)) (hN n) = rootL (setT (unR n (rowV apf g)) q leaf) := topT_n (setT_len.trans hl)
    all_goals try have t3 : unR n (updR (rowV apf g) q.toNat (.ints .u8 32 leaf)) = setT (unR n (rowV apf g)) q leaf := (unR_upd (by omega)).trans (setT_in (by omega)).symm
    all_goals try simp only [t1, t2, t3] at *
    all_goals try simp only [apf, Nat.sub_eq, Nat.succ_eq_add_one, cmF, arF, eqI', eqL', eqB', ltN, eqN, addN, subN, leN, minN, appN, mksN, V.cnt, llen, Nat.zero_add, Nat.add_zero, eq_t, eq_f, ne_t, ne_f, lt_t, lt_f, gt_t, gt_f, ge_t, ge_f, eqL_t, eqL_f, eqB_t, eqB_f, notB_t, notB_f, lenI, lenL, natI, Int.toNat_natCast] at *
    all_goals first
      | omega
      | contradiction
      | (have hb : badN n = true := by assumption
         simp [badN] at hb
         omega)
      | exact absurd (has_ok (l := unR n (rowV apf g)) (i := q) (by rw [hl]; omega)) (by assumption)
      | exact K.1
      | exact tree_ps hl (by omega) (by omega)
      | exact tree_ps (setT_len.trans hl) (by omega) (by omega)
      | exact tree_is hl (by omega) (by omega)
      | exact isRw_upd hf
      | (have e : setT (unR n (rowV apf g)) q leaf = unR n (rowV apf g) := by
           rw [show leaf = getL (unR n (rowV apf g)) q.toNat from (by assumption : leaf = g q.toNat).trans (unR_get (f := rowV apf g) (by omega)).symm, setT_same (by omega)]
         rw [e])
      | exact tree_lv
      | exact hN_pos _
      | trace_state
  · exact h.elim
theorem s3 : Sound Tryd.prog G2 3 (puM 3) (cLaw3 apf) := fn_sound rfl Tryd.call3 ok3 co3 (env_cons s21 (env_cons s22 (env_cons s23' (env_cons s24 (env_cons s25 env_nil))))) vc3
end Go.Cx.Rb
/- CxbMI -/
namespace Go.Cx.Rb
open Go Go.Cx Go.Proofs
noncomputable def cLaw7 (ap : AP) : Ctr
  | [.v (.int .i64 _), .v (.int .i64 _), .v (.ints .u8 32 _), .v (.dsl k 32 (.rows 32 j p)), .v (.dsl n 32 (.rows 32 m f))] => .chk (ap _ _ (ap _ _ eqN k) j) <| .chk (ap _ _ (ap _ _ eqN n) m) <| .chk (ap _ _ isRw p) <| .chk (ap _ _ isRw f) <|
      .chk (ap _ _ (ap _ _ leN k) 4398046510976) <| .chk (ap _ _ (ap _ _ leN n) 4398046510976) <| .ok ⟨.tt, [], []⟩
  | _ => .fail 619
theorem fo_path {l : List (List Int)} {n : Nat} {q : Int} (h : l.length = n) (h1 : n ≤ 256) (hq : 0 ≤ q ∧ q < n) : foldT n q (getL l q.toNat) (pathI l q) = (rootL l, 0) := by
  rw [foldT, if_neg (by omega), Int.toNat_natCast]
  exact fold_path n l q.toNat h (by omega)
theorem isRw_c {v : List Int} : isRw (fun _ => .ints .u8 32 v) := rfl
theorem bad_f {n : Nat} (h : badN n = false) : 1 ≤ n ∧ n ≤ 256 := by
  have := of_decide_eq_false h
  omega
theorem foF_p {l : List (List Int)} {n : Nat} {q : Int} {x r : List Int} (h : foldT n q x (pathI l q) = (r, 0)) : foF n q x (pathI l q) = r ∧ foE n q x (pathI l q) = 0 := by
  rw [foF, foE, h]; exact ⟨rfl, rfl⟩
theorem foF_e {l : List (List Int)} {n : Nat} {q : Int} {x r : List Int} (h : foldT n q x (pathI l q) = (r, 0)) (he : emL (pathI l q) = true) : foF n q x [] = r ∧ foE n q x [] = 0 := by
  rw [em_t he] at h
  rw [foF, foE, h]; exact ⟨rfl, rfl⟩
theorem unR_nil {f : Nat → V} : unR 0 f = [] := rfl
set_option maxRecDepth 20000 in
set_option maxHeartbeats 1600000 in
theorem vc7 (args : List Arg) (out : Out) (h : (cLaw7 apf args).to out) (hok : okAs args) :
    args.length = ic7.nargs ∧ ic7.nargs ≤ ic7.ntmps ∧ ∃ A, run apf [(21, cFixM apf), (22, cNewT apf), (23, cRootT apf), (28, cPathT apf), (33, cFold apf), (34, cFold apf)] A ic7.body (fnQ apf args out ic7.res) (st0 G2 true args) := by
  unfold cLaw7 at h
  split at h
  · rename_i sz0 at0 x0 k j p n m f
    obtain ⟨hk, h1, hp, hf, h3, h2, h⟩ := h
    cases h
    obtain rfl : k = j := hk
    obtain rfl : n = m := h1
    have h2 : n ≤ 4398046510976 := h2
    have h3 : k ≤ 4398046510976 := h3
    generalize hg : unRw f = g
    have hf : f = rowV apf g := by rw [← hg]; exact hf
    clear hg
    subst hf
    generalize hg : unRw p = gp
    have hp : p = rowV apf gp := by rw [← hg]; exact hp
    clear hg
    subst hp
    have hl : (unR n (rowV apf g)).length = n := unR_len
    refine ⟨rfl, by decide, [], ?_⟩
    show run apf _ _ _ _ (st0 [(0, .ints .u32 64 kk), (1, .ints .u32 64 kk)] _ _)
    generalize hK : kk = K
    generalize hap : apf = ap
    cbv
    repeat' first
      | exact True.intro
      | (intro (hh : _ = true); first | with_reducible exact absurd hh (bk_t (by assumption)) | cbv)
      | (intro (hh : _ = false); first | with_reducible exact absurd hh (bk_f (by assumption)) | cbv)
      | with_reducible refine And.intro ?_ ?_
      | fail
    all_goals subst hap
    all_goals try simp only [cast_fix] at *
    all_goals try simp only [apf, cmF, arF, eqB', ltN, eqN, addN, leN, appN, V.cnt, Nat.zero_add, eq_t, eq_f, ne_t, ne_f, lt_f, gt_t, eqL_t, eqL_f, notB_t, notB_f, lenI, lenL, natI] at *
    all_goals try simp only [unLv_e, unT_e] at *
    all_goals first
      | (have b0 : badN n = false := by assumption
         have BB := bad_f b0)
      | skip
    all_goals try have K := ixM_ok (a := at0) (n := n) (by omega) (by omega)
    all_goals try rw [ixM] at K
    all_goals try (generalize wcv .i64 (wrem .u64 (wcv .u64 at0) (wcv .u64 (n : Int))) = q at *)
    all_goals try have t1 : topT (lvl (unR n (rowV apf g))) (hN n) = rootL (unR n (rowV apf g)) := topT_n hl
    all_goals try have t4 := fo_path (l := unR n (rowV apf g)) (q := q) hl (by omega) (by omega)
    all_goals try have t5 : getL (unR n (rowV apf g)) q.toNat = g q.toNat := unR_get (f := rowV apf g) (by omega)
    all_goals try rw [t5] at t4
    all_goals try simp only [t1, unR_l, unR_nil] at *
    all_goals try simp only [apf, Nat.sub_eq, Nat.succ_eq_add_one, cmF, arF, eqI', eqL', eqB', ltN, eqN, addN, subN, leN, minN, appN, mksN, V.cnt, llen, Nat.zero_add, Nat.add_zero, eq_t, eq_f, ne_t, ne_f, lt_t, lt_f, gt_t, gt_f, ge_t, ge_f, eqL_t, eqL_f, eqB_t, eqB_f, notB_t, notB_f, lenI, lenL, natI, Int.toNat_natCast] at *
    all_goals first
      | omega
      | contradiction
      | (have hb : badN n = true := by assumption
         simp [badN] at hb
         omega)
      | exact absurd (has_ok (l := unR n (rowV apf g)) (i := q) (by rw [hl]; omega)) (by assumption)
      | (have hb : isOut (unR n (rowV apf g)) q = true := by assumption
         simp only [isOut, has_ok (l := unR n (rowV apf g)) (i := q) (by rw [hl]; omega)] at hb
         exact absurd hb (by decide))
      | exact (foF_p t4).1
      | exact absurd (foF_p t4).2 (by assumption)
      | (have he : emL (pathI (unR n (rowV apf g)) q) = true := by assumption
         first
           | exact (foF_e t4 he).1
           | exact absurd (foF_e t4 he).2 (by assumption))
      | exact K.1
      | exact isRw_c
      | exact isRw_l
      | exact tree_lv
      | exact tree_ps hl (by omega) (by omega)
      | exact tree_is hl (by omega) (by omega)
      | trace_state
  · exact h.elim
theorem s7 : Sound Tryd.prog G2 7 (puM 7) (cLaw7 apf) := fn_sound rfl Tryd.call7 ok7 co7 (env_cons s21 (env_cons s22 (env_cons s23' (env_cons s28 (env_cons s33 (env_cons s34 env_nil)))))) vc7
end Go.Cx.Rb
/- CxbMJ -/
namespace Go.Cx.Rb
open Go Go.Cx Go.Proofs
noncomputable def cLaw4 (ap : AP) : Ctr
  | [.v (.dsl n 32 (.rows 32 m f))] => .chk (ap _ _ (ap _ _ eqN n) m) <| .chk (ap _ _ isRw f) <| .chk (ap _ _ (ap _ _ leN n) 4398046510976) <| .ok ⟨.tt, [], []⟩
  | _ => .fail 620
/-- the last i of a row, noughts ahead of them -/
def backLL (l : List (List Int)) (i : Nat) : List (List Int) := List.replicate (l.length - i) (zerosI 32) ++ l.drop (l.length - i)
noncomputable def aOr (ap : AP) (n : Nat) (f : Nat → V) (L : List (List Int)) : List (Nat × Ann) := [(0, .inv Nat (fun i => ⟨[(0, .dsl n 32 (.rows 32 n f)), (3, .ptr 31 []), (5, .ptr 38 []), (7, .ptr 45 []), (71, .int .i64 (ap _ _ lenI n)), (72, .int .i64 (ap _ _ lenI i))],
  [(31, ⟨.own, treeL ap (ap _ _ hN n) (ap _ _ (ap _ _ fillLL L) i)⟩), (38, ⟨.own, treeL ap (ap _ _ hN n) (ap _ _ (ap _ _ backLL L) i)⟩), (45, ⟨.own, treeL ap (ap _ _ hN n) L⟩)], []⟩) (fun i => i ≤ n) (fun i => n - i))]
theorem unR_c {n : Nat} {v : List Int} : unR n (fun _ => .ints .u8 32 v) = List.replicate n v := by
  simp only [unR]
  apply List.ext_getElem (by simp)
  intro i h1 h2
  simp only [List.getElem_map, List.getElem_range, List.getElem_replicate]
  rfl
theorem fl_0 {l : List (List Int)} {n : Nat} (h : l.length = n) : fillLL l 0 = List.replicate n [0, 0, 0, 0, 0, 0, 0, 0, 0, 0, 0, 0, 0, 0, 0, 0, 0, 0, 0, 0, 0, 0, 0, 0, 0, 0, 0, 0, 0, 0, 0, 0] := by
  subst h; rw [fillLL]; rfl
theorem bk_0 {l : List (List Int)} {n : Nat} (h : l.length = n) : backLL l 0 = List.replicate n [0, 0, 0, 0, 0, 0, 0, 0, 0, 0, 0, 0, 0, 0, 0, 0, 0, 0, 0, 0, 0, 0, 0, 0, 0, 0, 0, 0, 0, 0, 0, 0] := by
  subst h; rw [backLL, Nat.sub_zero, List.drop_length, List.append_nil]; rfl
theorem bk_end {l : List (List Int)} {i : Nat} (h : l.length ≤ i) : backLL l i = l := by
  rw [backLL, Nat.sub_eq_zero_of_le h]; rfl
theorem fl_len {l : List (List Int)} {i : Nat} (h : i ≤ l.length) : (fillLL l i).length = l.length := by
  simp only [fillLL, List.length_append, List.length_take, List.length_replicate]; omega
theorem bk_len {l : List (List Int)} {i : Nat} (h : i ≤ l.length) : (backLL l i).length = l.length := by
  simp only [backLL, List.length_append, List.length_drop, List.length_replicate]; omega
theorem get_ext {a b : List (List Int)} (h : a.length = b.length) (hg : ∀ t, t < a.length → getL a t = getL b t) : a = b := by
  refine List.ext_getElem h fun j h1 h2 => ?_
  have := hg j h1
  simpa [getL, List.getD_eq_getElem?_getD, h1, h2] using this
theorem bk_get {u : List (List Int)} {i t : Nat} (_hi : i ≤ u.length) (_h : t < u.length) : getL (backLL u i) t = if t < u.length - i then zerosI 32 else getL u t := by
  simp only [getL, backLL, List.getD_eq_getElem?_getD, List.getElem?_append, List.length_replicate, List.getElem?_replicate, List.getElem?_drop]
  by_cases c : t < u.length - i
  · rw [if_pos c, if_pos c, if_pos c]; rfl
  · rw [if_neg c, if_neg c, show u.length - i + (t - (u.length - i)) = t by omega]
theorem fl_put {l : List (List Int)} {i : Nat} (h : i < l.length) : setT (fillLL l i) i (getL l i) = fillLL l (i + 1) := by
  rw [setT_in (by rw [fl_len (by omega)]; omega), Int.toNat_natCast]
  refine get_ext (by rw [List.length_set, fl_len (by omega), fl_len (by omega)]) fun t ht => ?_
  rw [List.length_set, fl_len (by omega)] at ht
  rw [set_get (by rw [fl_len (by omega)]; exact h), fl_get ht, fl_get ht]
  by_cases c : t = i
  · subst c; rw [if_pos rfl, if_pos (by omega)]
  · rw [if_neg c]
    by_cases d : t < i
    · rw [if_pos d, if_pos (by omega)]
    · rw [if_neg d, if_neg (by omega)]
theorem bk_put {l : List (List Int)} {i : Nat} (h : i < l.length) : setT (backLL l i) ((l.length - 1 - i : Nat) : Int) (getL l (l.length - 1 - i)) = backLL l (i + 1) := by
  rw [setT_in (by rw [bk_len (by omega)]; omega), Int.toNat_natCast]
  refine get_ext (by rw [List.length_set, bk_len (by omega), bk_len (by omega)]) fun t ht => ?_
  rw [List.length_set, bk_len (by omega)] at ht
  rw [set_get (by rw [bk_len (by omega)]; omega), bk_get (by omega) ht, bk_get (by omega) ht]
  by_cases c : t = l.length - 1 - i
  · subst c; rw [if_pos rfl, if_neg (by omega)]
  · rw [if_neg c]
    by_cases d : t < l.length - i
    · rw [if_pos d, if_pos (by omega)]
    · rw [if_neg d, if_neg (by omega)]
theorem ofacts {n i : Nat} {g : Nat → List Int} (c : i < n) (h1 : n ≤ 256) : wadd .i64 (i : Int) 1 = ((i + 1 : Nat) : Int) ∧ wsub .i64 (wsub .i64 (n : Int) 1) (i : Int) = ((n - 1 - i : Nat) : Int) ∧ (fillLL (unR n (rowV apf g)) i).length = n ∧ (backLL (unR n (rowV apf g)) i).length = n ∧
    setT (fillLL (unR n (rowV apf g)) i) (i : Int) (g i) = fillLL (unR n (rowV apf g)) (i + 1) ∧ setT (backLL (unR n (rowV apf g)) i) ((n - 1 - i : Nat) : Int) (g (n - 1 - i)) = backLL (unR n (rowV apf g)) (i + 1) := by
  have hl : (unR n (rowV apf g)).length = n := unR_len
  refine ⟨inc_i64 (by omega), ?_, (fl_len (by rw [hl]; omega)).trans hl, (bk_len (by rw [hl]; omega)).trans hl, ?_, ?_⟩
  · rw [wsub_i64 (x := (n : Int)) (y := 1) (by omega), wsub_i64 (by omega)]
    omega
  · have pA := fl_put (l := unR n (rowV apf g)) (i := i) (by rw [hl]; exact c)
    rw [unR_get c, unRw_r] at pA
    exact pA
  · have pB := bk_put (l := unR n (rowV apf g)) (i := i) (by rw [hl]; exact c)
    rw [hl, unR_get (show n - 1 - i < n by omega), unRw_r] at pB
    exact pB
theorem lv_eq {n : Nat} {o : List Nat} {a b : List (List Int)} (h : a = b) : eqRowsO n o (levV apf (lvl a)) (levV apf (lvl b)) := by
  subst h; exact fun _ _ _ => rfl
set_option maxRecDepth 20000 in
set_option maxHeartbeats 1600000 in
theorem vc4 (args : List Arg) (out : Out) (h : (cLaw4 apf args).to out) (hok : okAs args) :
    args.length = ic4.nargs ∧ ic4.nargs ≤ ic4.ntmps ∧ ∃ A, run apf [(21, cFixM apf), (22, cNewT apf), (23, cRootT apf), (24, cSetT apf)] A ic4.body (fnQ apf args out ic4.res) (st0 G2 true args) := by
  unfold cLaw4 at h
  split at h
  · rename_i n m f
    obtain ⟨h1, hf, h2, h⟩ := h
    cases h
    obtain rfl : n = m := h1
    have h2 : n ≤ 4398046510976 := h2
    generalize hg : unRw f = g
    have hf : f = rowV apf g := by rw [← hg]; exact hf
    clear hg
    subst hf
    have hl : (unR n (rowV apf g)).length = n := unR_len
    refine ⟨rfl, by decide, aOr apf n (rowV apf g) (apf _ _ (apf _ _ unR n) (rowV apf g)), ?_⟩
    show run apf _ _ _ _ (st0 [(0, .ints .u32 64 kk), (1, .ints .u32 64 kk)] _ _)
    generalize hK : kk = K
    generalize hap : apf = ap
    cbv
    repeat' first
      | exact True.intro
      | (intro (hh : _ = true); first | with_reducible exact absurd hh (bk_t (by assumption)) | cbv)
      | (intro (hh : _ = false); first | with_reducible exact absurd hh (bk_f (by assumption)) | cbv)
      | with_reducible refine And.intro ?_ ?_
      | (refine ⟨0, ?_, ?_⟩; rotate_left 1; (try cbv); with_reducible refine And.intro ?_ ?_)
      | fail
    all_goals first
      | (intro (i : Nat) hi k1 k2
         clear k1 k2
         skip
         all_goals cbv
         all_goals (
           repeat' first
             | exact True.intro
             | (intro (hh : _ = true); first | with_reducible exact absurd hh (bk_t (by assumption)) | cbv)
             | (intro (hh : _ = false); first | with_reducible exact absurd hh (bk_f (by assumption)) | cbv)
             | with_reducible refine And.intro ?_ ?_
             | (refine ⟨i + 1, ?_, (?_ : _ < _), ?_⟩; rotate_left 2; (try cbv); with_reducible refine And.intro ?_ ?_; (repeat' with_reducible refine And.intro ?_ ?_); (all_goals (fail_if_success (with_reducible show False))))
             | fail))
      | skip
    all_goals subst hap
    all_goals try simp only [cast_fix] at *
    all_goals try simp only [apf, Nat.sub_eq, Nat.succ_eq_add_one, cmF, arF, eqI', eqB', ltN, eqN, addN, leN, appN, mksN, V.cnt, Nat.zero_add, eq_t, eq_f, ne_t, ne_f, lt_t, lt_f, gt_f, eqL_t, eqL_f, lenI, natI, Int.toNat_natCast] at *
    all_goals try simp only [unLv_e, unT_e] at *
    all_goals first
      | (have c : i < n := by omega
         have F := ofacts (g := g) c (by omega)
         obtain ⟨w0, w2, lA, lB, pA, pB⟩ := F
         try simp only [w0, w2, Int.toNat_natCast, pA, pB] at *)
      | (have c : n ≤ i := by omega
         have eA := fl_end (u := unR n (rowV apf g)) (i := i) (by rw [hl]; omega)
         have eB := bk_end (l := unR n (rowV apf g)) (i := i) (by rw [hl]; omega)
         try simp only [eA, eB] at *)
      | skip
    all_goals try simp only [apf, Nat.sub_eq, Nat.succ_eq_add_one, cmF, arF, eqI', eqL', eqB', ltN, eqN, addN, subN, leN, minN, appN, mksN, V.cnt, llen, Nat.zero_add, Nat.add_zero, eq_t, eq_f, ne_t, ne_f, lt_t, lt_f, gt_t, gt_f, ge_t, ge_f, eqL_t, eqL_f, eqB_t, eqB_f, notB_t, notB_f, lenI, lenL, natI, Int.toNat_natCast] at *
    all_goals first
      | omega
      | exact fun _ _ => rfl
      | exact fun _ _ _ => rfl
      | exact lv_eq ((fl_0 hl).trans unR_c.symm)
      | exact lv_eq ((bk_0 hl).trans unR_c.symm)
      | exact tree_is lA (by omega) (by omega)
      | exact tree_is lB (by omega) (by omega)
      | exact absurd (has_ok (l := fillLL (unR n (rowV apf g)) i) (i := (i : Int)) (by rw [lA]; omega)) (by assumption)
      | exact absurd (has_ok (l := backLL (unR n (rowV apf g)) i) (i := ((n - 1 - i : Nat) : Int)) (by rw [lB]; omega)) (by assumption)
      | contradiction
      | (have hb : badN n = true := by assumption
         simp [badN] at hb
         omega)
      | exact isRw_c
      | exact isRw_l
      | exact tree_lv
      | exact tree_ps hl (by omega) (by omega)
      | exact tree_is hl (by omega) (by omega)
      | trace_state
  · exact h.elim
theorem s4 : Sound Tryd.prog G2 4 (puM 4) (cLaw4 apf) := fn_sound rfl Tryd.call4 ok4 co4 (env_cons s21 (env_cons s22 (env_cons s23' (env_cons s24 env_nil)))) vc4
end Go.Cx.Rb
/- CxbLaw1m -/
namespace Go.Proofs.YtojllgpnhaaagaaDoor.Law
open Go Go.ChangeShapes Go.WideShapes Go.ChangeAt Go.RowKit Go.Cx Go.Cx.Rb
theorem own : ownKnob Tryd.prog.godebug = none := by kernel_rfl
theorem gK : Tryd.prog.globalNamed "cloister/cloisterref01.k" = some 0 := by kernel_rfl
theorem gKeys : Tryd.prog.globalNamed "cloister/sha.keys" = some 1 := by kernel_rfl
theorem gKT : (Tryd.prog.globals[0]?).map (·.type) = some 188 := by kernel_rfl
theorem gKeysT : (Tryd.prog.globals[1]?).map (·.type) = some 188 := by kernel_rfl
theorem cells188 : Tryd.prog.cellsOf 188 = 64 := by kernel_rfl
theorem cells184 : Tryd.prog.cellsOf 184 = 1 := by kernel_rfl
theorem cells5 : Tryd.prog.cellsOf 5 = 1 := by kernel_rfl
theorem bytes5 : Tryd.prog.bytesOf 5 = 1 := by kernel_rfl
theorem kkIn : ∀ y ∈ kk, inR .u32 y := by
  have h : ∀ y ∈ kk, 0 ≤ y ∧ y ≤ 4294967295 := by decide
  exact fun y hy => inR_u32.2 (h y hy)
theorem laid_tail {P : Program} {W : World} {x : String × DataW Unit} {rest : List (String × DataW Unit)} (h : laidMet P (x :: rest) W) : laidMet P rest W := by
  obtain ⟨ps, ⟨g', t', cs, fuel, p, q, _, _, _, _, hq, rfl⟩, hn, hc⟩ := h
  exact ⟨q, hq, (List.nodup_append.1 hn).2.1, fun b off hb => hc b off (List.mem_append.2 (.inr hb))⟩
theorem tab_glo {W : World} {name : String} {g : Nat} (hg : Tryd.prog.globalNamed name = some g) (h : Lib.TabIs Tryd.prog W name .u32 kk) : GloIs W g (.ints .u32 64 kk) := by
  have hcell := fun i hi => h.cell hg i hi
  have h0 := hcell 63 (by decide)
  simp only [World.cell?] at h0
  split at h0
  · rename_i c ty fr hh
    have hsz : 63 < c.size := by
      rcases Nat.lt_or_ge 63 c.size with h | h
      · exact h
      · simp only [Option.isSome_none, Bool.false_eq_true, if_false] at h0
        rw [Array.getElem?_eq_none h] at h0
        cases h0
    refine ⟨heap_lt hh, ?_, by decide, kkIn, fun j hj => ?_⟩
    · simp only [bsize, hh, V.size]; omega
    · show W.cell? ⟨g, 0 + j, none⟩ = _
      rw [Nat.zero_add]
      exact hcell j hj
  · cases h0
/-- both tables, as the row's list gives them -/
theorem both {W : World} (h : laidMetH Tryd.prog Rows.slotsWrapRow.laid W) : ∀ n c, Go.Cx.look G2 n = some c → GloIs W n c := by
  have h : laidMet Tryd.prog Rows.slotsWrapRow.laid W := h
  have t0 : Lib.TabIs Tryd.prog W "cloister/cloisterref01.k" .u32 kk := Lib.tabIs_of_head gK gKT Tryd.underlying188 Tryd.underlying184 cells184 cells188 h
  have t1 : Lib.TabIs Tryd.prog W "cloister/sha.keys" .u32 kk := Lib.tabIs_of_head (rest := []) gKeys gKeysT Tryd.underlying188 Tryd.underlying184 cells184 cells188 (laid_tail h)
  intro n c hn
  simp only [Go.Cx.look] at hn
  split at hn
  · rename_i e; subst e; cases hn; exact tab_glo gK t0
  · split at hn
    · rename_i e; subst e; cases hn; exact tab_glo gKeys t1
    · cases hn
/-- a world for the witness: the tables hold what their initialisers lay -/
noncomputable def layKK : Obj → Obj
  | .cells _ t frozen => .cells (kk.map (Value.int .u32)).toArray t frozen
  | o => o
noncomputable def laidWorld (os : Os) : World :=
  { World.holding Tryd.prog os ⟨#[], #[], []⟩ with heap := ((World.holding Tryd.prog os ⟨#[], #[], []⟩).heap.modify 0 layKK).modify 1 layKK }
theorem laid_met (os : Os) (args : Array Value) : laidMet Tryd.prog Rows.slotsWrapRow.laid ((laidWorld os).forCall (fun _ _ => 0) ⟨#[], args, []⟩).memory :=
  laidMet_of_run' 8 (by kernel_rfl) (by kernel_rfl)
end Go.Proofs.YtojllgpnhaaagaaDoor.Law
/- CxbLawIm -/
namespace Go.Proofs.YtojllgpnhaaagaaDoor.Law
open Go Go.ChangeShapes Go.WideShapes Go.ChangeAt Go.RowKit
set_option maxRecDepth 100000
theorem init_l : Tryd.prog.initOrder.toList = ([104, 97, 114, 110, 101, 115, 115, 32, 48, 98, 51, 57, 55, 55, 49, 54, 98, 101, 51, 100, 54, 99, 98, 56, 49, 49, 56, 98, 55, 50, 101, 97, 102, 51, 100, 97, 98, 50, 52, 99, 52, 102, 53, 53, 48, 52, 56, 57, 99, 54, 56, 98, 57, 102, 100, 49, 49, 100, 97, 98, 57, 53, 50, 48, 57, 100, 48, 51, 52, 97, 49, 97, 32, 99, 117, 116, 32, 97, 116, 32, 99, 108, 111, 105, 115, 116, 101, 114, 47, 99, 108, 111, 105, 115, 116, 101, 114, 108, 97, 119, 49, 48, 46, 77, 101, 114, 107, 108, 101, 85, 110, 108, 105, 107, 101, 32, 99, 108, 111, 105, 115, 116, 101, 114, 47, 99, 108, 111, 105, 115, 116, 101, 114, 108, 97, 119, 49, 48, 46, 77, 101, 114, 107, 108, 101, 79, 114, 100, 101, 114, 32, 99, 108, 111, 105, 115, 116, 101, 114, 47, 99, 108, 111, 105, 115, 116, 101, 114, 108, 97, 119, 49, 48, 46, 77, 101, 114, 107, 108, 101, 80, 108, 97, 121, 115, 32, 99, 108, 111, 105, 115, 116, 101, 114, 47, 99, 108, 111, 105, 115, 116, 101, 114, 108, 97, 119, 49, 48, 46, 77, 101, 114, 107, 108, 101, 78, 105, 108, 32, 99, 108, 111, 105, 115, 116, 101, 114, 47, 99, 108, 111, 105, 115, 116, 101, 114, 108, 97, 119, 49, 48, 46, 77, 101, 114, 107, 108, 101, 70, 111, 108, 100, 115, 32, 99, 108, 111, 105, 115, 116, 101, 114, 47, 99, 108, 111, 105, 115, 116, 101, 114, 108, 97, 119, 48, 56, 46, 83, 108, 111, 116, 115, 87, 114, 97, 112, 32, 99, 108, 111, 105, 115, 116, 101, 114, 47, 99, 108, 111, 105, 115, 116, 101, 114, 108, 97, 119, 48, 56, 46, 83, 108, 111, 116, 115, 85, 110, 119, 114, 97, 112, 32, 99, 108, 111, 105, 115, 116, 101, 114, 47, 99, 108, 111, 105, 115, 116, 101, 114, 108, 97, 119, 48, 56, 46, 83, 108, 111, 116, 115, 68, 101, 99, 111, 100, 101, 32, 99, 108, 111, 105, 115, 116, 101, 114, 47, 99, 108, 111, 105, 115, 116, 101, 114, 108, 97, 119, 48, 56, 46, 83, 108, 111, 116, 115, 66, 97, 99, 107, 32, 99, 108, 111, 105, 115, 116, 101, 114, 47, 99, 108, 111, 105, 115, 116, 101, 114, 108, 97, 119, 49, 49, 46, 74, 111, 117, 114, 110, 97, 108, 80, 97, 99, 107, 115, 32, 99, 108, 111, 105, 115, 116, 101, 114, 47, 99, 108, 111, 105, 115, 116, 101, 114, 108, 97, 119, 49, 49, 46, 74, 111, 117, 114, 110, 97, 108, 85, 110, 112, 97, 99, 107, 115, 32, 99, 108, 111, 105, 115, 116, 101, 114, 47, 99, 108, 111, 105, 115, 116, 101, 114, 108, 97, 119, 49, 49, 46, 74, 111, 117, 114, 110, 97, 108, 66, 97, 99, 107, 32, 99, 108, 111, 105, 115, 116, 101, 114, 47, 99, 108, 111, 105, 115, 116, 101, 114, 108, 97, 119, 48, 57, 46, 83, 117, 112, 101, 114, 69, 110, 99, 111, 100, 101, 115, 32, 99, 108, 111, 105, 115, 116, 101, 114, 47, 99, 108, 111, 105, 115, 116, 101, 114, 108, 97, 119, 48, 57, 46, 83, 117, 112, 101, 114, 68, 101, 99, 111, 100, 101, 115, 32, 99, 108, 111, 105, 115, 116, 101, 114, 47, 99, 108, 111, 105, 115, 116, 101, 114, 108, 97, 119, 48, 57, 46, 83, 117, 112, 101, 114, 66, 97, 99, 107, 32, 99, 108, 111, 105, 115, 116, 101, 114, 47, 99, 108, 111, 105, 115, 116, 101, 114, 108, 97, 119, 48, 55, 46, 83, 101, 97, 108, 67, 108, 111, 115, 101, 115, 32, 99, 108, 111, 105, 115, 116, 101, 114, 47, 99, 108, 111, 105, 115, 116, 101, 114, 108, 97, 119, 48, 55, 46, 83, 101, 97, 108, 79, 112, 101, 110, 115, 32, 99, 108, 111, 105, 115, 116, 101, 114, 47, 99, 108, 111, 105, 115, 116, 101, 114, 108, 97, 119, 48, 55, 46, 83, 101, 97, 108, 66, 97, 99, 107].map Char.ofNat) := by
  rw [show Tryd.prog.initOrder = String.ofList ([104, 97, 114, 110, 101, 115, 115, 32, 48, 98, 51, 57, 55, 55, 49, 54, 98, 101, 51, 100, 54, 99, 98, 56, 49, 49, 56, 98, 55, 50, 101, 97, 102, 51, 100, 97, 98, 50, 52, 99, 52, 102, 53, 53, 48, 52, 56, 57, 99, 54, 56, 98, 57, 102, 100, 49, 49, 100, 97, 98, 57, 53, 50, 48, 57, 100, 48, 51, 52, 97, 49, 97, 32, 99, 117, 116, 32, 97, 116, 32, 99, 108, 111, 105, 115, 116, 101, 114, 47, 99, 108, 111, 105, 115, 116, 101, 114, 108, 97, 119, 49, 48, 46, 77, 101, 114, 107, 108, 101, 85, 110, 108, 105, 107, 101, 32, 99, 108, 111, 105, 115, 116, 101, 114, 47, 99, 108, 111, 105, 115, 116, 101, 114, 108, 97, 119, 49, 48, 46, 77, 101, 114, 107, 108, 101, 79, 114, 100, 101, 114, 32, 99, 108, 111, 105, 115, 116, 101, 114, 47, 99, 108, 111, 105, 115, 116, 101, 114, 108, 97, 119, 49, 48, 46, 77, 101, 114, 107, 108, 101, 80, 108, 97, 121, 115, 32, 99, 108, 111, 105, 115, 116, 101, 114, 47, 99, 108, 111, 105, 115, 116, 101, 114, 108, 97, 119, 49, 48, 46, 77, 101, 114, 107, 108, 101, 78, 105, 108, 32, 99, 108, 111, 105, 115, 116, 101, 114, 47, 99, 108, 111, 105, 115, 116, 101, 114, 108, 97, 119, 49, 48, 46, 77, 101, 114, 107, 108, 101, 70, 111, 108, 100, 115, 32, 99, 108, 111, 105, 115, 116, 101, 114, 47, 99, 108, 111, 105, 115, 116, 101, 114, 108, 97, 119, 48, 56, 46, 83, 108, 111, 116, 115, 87, 114, 97, 112, 32, 99, 108, 111, 105, 115, 116, 101, 114, 47, 99, 108, 111, 105, 115, 116, 101, 114, 108, 97, 119, 48, 56, 46, 83, 108, 111, 116, 115, 85, 110, 119, 114, 97, 112, 32, 99, 108, 111, 105, 115, 116, 101, 114, 47, 99, 108, 111, 105, 115, 116, 101, 114, 108, 97, 119, 48, 56, 46, 83, 108, 111, 116, 115, 68, 101, 99, 111, 100, 101, 32, 99, 108, 111, 105, 115, 116, 101, 114, 47, 99, 108, 111, 105, 115, 116, 101, 114, 108, 97, 119, 48, 56, 46, 83, 108, 111, 116, 115, 66, 97, 99, 107, 32, 99, 108, 111, 105, 115, 116, 101, 114, 47, 99, 108, 111, 105, 115, 116, 101, 114, 108, 97, 119, 49, 49, 46, 74, 111, 117, 114, 110, 97, 108, 80, 97, 99, 107, 115, 32, 99, 108, 111, 105, 115, 116, 101, 114, 47, 99, 108, 111, 105, 115, 116, 101, 114, 108, 97, 119, 49, 49, 46, 74, 111, 117, 114, 110, 97, 108, 85, 110, 112, 97, 99, 107, 115, 32, 99, 108, 111, 105, 115, 116, 101, 114, 47, 99, 108, 111, 105, 115, 116, 101, 114, 108, 97, 119, 49, 49, 46, 74, 111, 117, 114, 110, 97, 108, 66, 97, 99, 107, 32, 99, 108, 111, 105, 115, 116, 101, 114, 47, 99, 108, 111, 105, 115, 116, 101, 114, 108, 97, 119, 48, 57, 46, 83, 117, 112, 101, 114, 69, 110, 99, 111, 100, 101, 115, 32, 99, 108, 111, 105, 115, 116, 101, 114, 47, 99, 108, 111, 105, 115, 116, 101, 114, 108, 97, 119, 48, 57, 46, 83, 117, 112, 101, 114, 68, 101, 99, 111, 100, 101, 115, 32, 99, 108, 111, 105, 115, 116, 101, 114, 47, 99, 108, 111, 105, 115, 116, 101, 114, 108, 97, 119, 48, 57, 46, 83, 117, 112, 101, 114, 66, 97, 99, 107, 32, 99, 108, 111, 105, 115, 116, 101, 114, 47, 99, 108, 111, 105, 115, 116, 101, 114, 108, 97, 119, 48, 55, 46, 83, 101, 97, 108, 67, 108, 111, 115, 101, 115, 32, 99, 108, 111, 105, 115, 116, 101, 114, 47, 99, 108, 111, 105, 115, 116, 101, 114, 108, 97, 119, 48, 55, 46, 83, 101, 97, 108, 79, 112, 101, 110, 115, 32, 99, 108, 111, 105, 115, 116, 101, 114, 47, 99, 108, 111, 105, 115, 116, 101, 114, 108, 97, 119, 48, 55, 46, 83, 101, 97, 108, 66, 97, 99, 107].map Char.ofNat) by kernel_rfl, String.toList_ofList]
theorem init_w : wordsSigns Tryd.prog.initOrder.toList = [([104, 97, 114, 110, 101, 115, 115].map Char.ofNat), ([48, 98, 51, 57, 55, 55, 49, 54, 98, 101, 51, 100, 54, 99, 98, 56, 49, 49, 56, 98, 55, 50, 101, 97, 102, 51, 100, 97, 98, 50, 52, 99, 52, 102, 53, 53, 48, 52, 56, 57, 99, 54, 56, 98, 57, 102, 100, 49, 49, 100, 97, 98, 57, 53, 50, 48, 57, 100, 48, 51, 52, 97, 49, 97].map Char.ofNat), ([99, 117, 116].map Char.ofNat), ([97, 116].map Char.ofNat), ([99, 108, 111, 105, 115, 116, 101, 114, 47, 99, 108, 111, 105, 115, 116, 101, 114, 108, 97, 119, 49, 48, 46, 77, 101, 114, 107, 108, 101, 85, 110, 108, 105, 107, 101].map Char.ofNat), ([99, 108, 111, 105, 115, 116, 101, 114, 47, 99, 108, 111, 105, 115, 116, 101, 114, 108, 97, 119, 49, 48, 46, 77, 101, 114, 107, 108, 101, 79, 114, 100, 101, 114].map Char.ofNat), ([99, 108, 111, 105, 115, 116, 101, 114, 47, 99, 108, 111, 105, 115, 116, 101, 114, 108, 97, 119, 49, 48, 46, 77, 101, 114, 107, 108, 101, 80, 108, 97, 121, 115].map Char.ofNat), ([99, 108, 111, 105, 115, 116, 101, 114, 47, 99, 108, 111, 105, 115, 116, 101, 114, 108, 97, 119, 49, 48, 46, 77, 101, 114, 107, 108, 101, 78, 105, 108].map Char.ofNat), ([99, 108, 111, 105, 115, 116, 101, 114, 47, 99, 108, 111, 105, 115, 116, 101, 114, 108, 97, 119, 49, 48, 46, 77, 101, 114, 107, 108, 101, 70, 111, 108, 100, 115].map Char.ofNat), ([99, 108, 111, 105, 115, 116, 101, 114, 47, 99, 108, 111, 105, 115, 116, 101, 114, 108, 97, 119, 48, 56, 46, 83, 108, 111, 116, 115, 87, 114, 97, 112].map Char.ofNat), ([99, 108, 111, 105, 115, 116, 101, 114, 47, 99, 108, 111, 105, 115, 116, 101, 114, 108, 97, 119, 48, 56, 46, 83, 108, 111, 116, 115, 85, 110, 119, 114, 97, 112].map Char.ofNat), ([99, 108, 111, 105, 115, 116, 101, 114, 47, 99, 108, 111, 105, 115, 116, 101, 114, 108, 97, 119, 48, 56, 46, 83, 108, 111, 116, 115, 68, 101, 99, 111, 100, 101].map Char.ofNat), ([99, 108, 111, 105, 115, 116, 101, 114, 47, 99, 108, 111, 105, 115, 116, 101, 114, 108, 97, 119, 48, 56, 46, 83, 108, 111, 116, 115, 66, 97, 99, 107].map Char.ofNat), ([99, 108, 111, 105, 115, 116, 101, 114, 47, 99, 108, 111, 105, 115, 116, 101, 114, 108, 97, 119, 49, 49, 46, 74, 111, 117, 114, 110, 97, 108, 80, 97, 99, 107, 115].map Char.ofNat), ([99, 108, 111, 105, 115, 116, 101, 114, 47, 99, 108, 111, 105, 115, 116, 101, 114, 108, 97, 119, 49, 49, 46, 74, 111, 117, 114, 110, 97, 108, 85, 110, 112, 97, 99, 107, 115].map Char.ofNat), ([99, 108, 111, 105, 115, 116, 101, 114, 47, 99, 108, 111, 105, 115, 116, 101, 114, 108, 97, 119, 49, 49, 46, 74, 111, 117, 114, 110, 97, 108, 66, 97, 99, 107].map Char.ofNat), ([99, 108, 111, 105, 115, 116, 101, 114, 47, 99, 108, 111, 105, 115, 116, 101, 114, 108, 97, 119, 48, 57, 46, 83, 117, 112, 101, 114, 69, 110, 99, 111, 100, 101, 115].map Char.ofNat), ([99, 108, 111, 105, 115, 116, 101, 114, 47, 99, 108, 111, 105, 115, 116, 101, 114, 108, 97, 119, 48, 57, 46, 83, 117, 112, 101, 114, 68, 101, 99, 111, 100, 101, 115].map Char.ofNat), ([99, 108, 111, 105, 115, 116, 101, 114, 47, 99, 108, 111, 105, 115, 116, 101, 114, 108, 97, 119, 48, 57, 46, 83, 117, 112, 101, 114, 66, 97, 99, 107].map Char.ofNat), ([99, 108, 111, 105, 115, 116, 101, 114, 47, 99, 108, 111, 105, 115, 116, 101, 114, 108, 97, 119, 48, 55, 46, 83, 101, 97, 108, 67, 108, 111, 115, 101, 115].map Char.ofNat), ([99, 108, 111, 105, 115, 116, 101, 114, 47, 99, 108, 111, 105, 115, 116, 101, 114, 108, 97, 119, 48, 55, 46, 83, 101, 97, 108, 79, 112, 101, 110, 115].map Char.ofNat), ([99, 108, 111, 105, 115, 116, 101, 114, 47, 99, 108, 111, 105, 115, 116, 101, 114, 108, 97, 119, 48, 55, 46, 83, 101, 97, 108, 66, 97, 99, 107].map Char.ofNat)] := by
  rw [init_l]
  kernel_rfl
theorem behind_w : behindMainWord (wordsSigns Tryd.prog.initOrder.toList) = [([99, 117, 116].map Char.ofNat), ([97, 116].map Char.ofNat), ([99, 108, 111, 105, 115, 116, 101, 114, 47, 99, 108, 111, 105, 115, 116, 101, 114, 108, 97, 119, 49, 48, 46, 77, 101, 114, 107, 108, 101, 85, 110, 108, 105, 107, 101].map Char.ofNat), ([99, 108, 111, 105, 115, 116, 101, 114, 47, 99, 108, 111, 105, 115, 116, 101, 114, 108, 97, 119, 49, 48, 46, 77, 101, 114, 107, 108, 101, 79, 114, 100, 101, 114].map Char.ofNat), ([99, 108, 111, 105, 115, 116, 101, 114, 47, 99, 108, 111, 105, 115, 116, 101, 114, 108, 97, 119, 49, 48, 46, 77, 101, 114, 107, 108, 101, 80, 108, 97, 121, 115].map Char.ofNat), ([99, 108, 111, 105, 115, 116, 101, 114, 47, 99, 108, 111, 105, 115, 116, 101, 114, 108, 97, 119, 49, 48, 46, 77, 101, 114, 107, 108, 101, 78, 105, 108].map Char.ofNat), ([99, 108, 111, 105, 115, 116, 101, 114, 47, 99, 108, 111, 105, 115, 116, 101, 114, 108, 97, 119, 49, 48, 46, 77, 101, 114, 107, 108, 101, 70, 111, 108, 100, 115].map Char.ofNat), ([99, 108, 111, 105, 115, 116, 101, 114, 47, 99, 108, 111, 105, 115, 116, 101, 114, 108, 97, 119, 48, 56, 46, 83, 108, 111, 116, 115, 87, 114, 97, 112].map Char.ofNat), ([99, 108, 111, 105, 115, 116, 101, 114, 47, 99, 108, 111, 105, 115, 116, 101, 114, 108, 97, 119, 48, 56, 46, 83, 108, 111, 116, 115, 85, 110, 119, 114, 97, 112].map Char.ofNat), ([99, 108, 111, 105, 115, 116, 101, 114, 47, 99, 108, 111, 105, 115, 116, 101, 114, 108, 97, 119, 48, 56, 46, 83, 108, 111, 116, 115, 68, 101, 99, 111, 100, 101].map Char.ofNat), ([99, 108, 111, 105, 115, 116, 101, 114, 47, 99, 108, 111, 105, 115, 116, 101, 114, 108, 97, 119, 48, 56, 46, 83, 108, 111, 116, 115, 66, 97, 99, 107].map Char.ofNat), ([99, 108, 111, 105, 115, 116, 101, 114, 47, 99, 108, 111, 105, 115, 116, 101, 114, 108, 97, 119, 49, 49, 46, 74, 111, 117, 114, 110, 97, 108, 80, 97, 99, 107, 115].map Char.ofNat), ([99, 108, 111, 105, 115, 116, 101, 114, 47, 99, 108, 111, 105, 115, 116, 101, 114, 108, 97, 119, 49, 49, 46, 74, 111, 117, 114, 110, 97, 108, 85, 110, 112, 97, 99, 107, 115].map Char.ofNat), ([99, 108, 111, 105, 115, 116, 101, 114, 47, 99, 108, 111, 105, 115, 116, 101, 114, 108, 97, 119, 49, 49, 46, 74, 111, 117, 114, 110, 97, 108, 66, 97, 99, 107].map Char.ofNat), ([99, 108, 111, 105, 115, 116, 101, 114, 47, 99, 108, 111, 105, 115, 116, 101, 114, 108, 97, 119, 48, 57, 46, 83, 117, 112, 101, 114, 69, 110, 99, 111, 100, 101, 115].map Char.ofNat), ([99, 108, 111, 105, 115, 116, 101, 114, 47, 99, 108, 111, 105, 115, 116, 101, 114, 108, 97, 119, 48, 57, 46, 83, 117, 112, 101, 114, 68, 101, 99, 111, 100, 101, 115].map Char.ofNat), ([99, 108, 111, 105, 115, 116, 101, 114, 47, 99, 108, 111, 105, 115, 116, 101, 114, 108, 97, 119, 48, 57, 46, 83, 117, 112, 101, 114, 66, 97, 99, 107].map Char.ofNat), ([99, 108, 111, 105, 115, 116, 101, 114, 47, 99, 108, 111, 105, 115, 116, 101, 114, 108, 97, 119, 48, 55, 46, 83, 101, 97, 108, 67, 108, 111, 115, 101, 115].map Char.ofNat), ([99, 108, 111, 105, 115, 116, 101, 114, 47, 99, 108, 111, 105, 115, 116, 101, 114, 108, 97, 119, 48, 55, 46, 83, 101, 97, 108, 79, 112, 101, 110, 115].map Char.ofNat), ([99, 108, 111, 105, 115, 116, 101, 114, 47, 99, 108, 111, 105, 115, 116, 101, 114, 108, 97, 119, 48, 55, 46, 83, 101, 97, 108, 66, 97, 99, 107].map Char.ofNat)] := by
  rw [init_w]
  kernel_rfl
theorem strip_cut {rest : List (List Char)} : stripLifts liftWords (([99, 117, 116].map Char.ofNat) :: rest) = ([], ([99, 117, 116].map Char.ofNat) :: rest) := by
  have go : ∀ os : List String, (∀ o ∈ os, (([99, 117, 116].map Char.ofNat) == o.toList) = false) → stripLifts os (([99, 117, 116].map Char.ofNat) :: rest) = ([], ([99, 117, 116].map Char.ofNat) :: rest) := by
    intro os
    induction os with
    | nil => intro _; rfl
    | cons o os ih =>
      intro h
      simp only [stripLifts, h o (by simp), Bool.false_eq_true, if_false]
      exact ih fun o ho => h o (by simp [ho])
  exact go liftWords (by decide +kernel)
theorem cut_l : "cut".toList = ([99, 117, 116].map Char.ofNat) := by decide +kernel
theorem heads {P : Program} {rest : List (List Char)} (h : behindMainWord (wordsSigns P.initOrder.toList) = ([99, 117, 116].map Char.ofNat) :: rest) : P.headLifts = [] := by
  unfold Program.headLifts
  rw [h, strip_cut]
  simp only [List.head?_cons]
  exact ite_self _
theorem make_cut {P : Program} {rest : List (List Char)} (h : behindMainWord (wordsSigns P.initOrder.toList) = ([99, 117, 116].map Char.ofNat) :: rest) : P.make = some .cut := by
  unfold Program.make
  rw [h]
  simp only [cut_l, show (([99, 117, 116].map Char.ofNat) == "gc".toList) = false by decide +kernel, show (([99, 117, 116].map Char.ofNat) == "spec".toList) = false by decide +kernel, Bool.or_false, Bool.false_eq_true, if_false, BEq.rfl, Bool.true_or, if_true]
theorem lifts_cut {P : Program} {rest : List (List Char)} (h : behindMainWord (wordsSigns P.initOrder.toList) = ([99, 117, 116].map Char.ofNat) :: rest) : P.liftsFinal = false := by
  unfold Program.liftsFinal
  rw [h, heads h]
  simp only [List.head?_cons, show (some ([99, 117, 116].map Char.ofNat) == some "carried".toList) = false by decide +kernel, Bool.false_and, Bool.false_or]
  rfl
theorem enter_cut {P : Program} {rest : List (List Char)} (h : behindMainWord (wordsSigns P.initOrder.toList) = ([99, 117, 116].map Char.ofNat) :: rest) (hl : P.laysLater = false) (hb : P.bearsReflect = false) (hd : P.doorFits [] = true) : P.mayEnter = true := by
  unfold Program.mayEnter
  rw [h]
  simp only [strip_cut, hl, hb, hd, List.head?_cons, cut_l, BEq.rfl, Bool.not_false, Bool.or_true, Bool.and_true, Bool.true_and]
  have e : (([] : List String).contains "reflectrows" || !([] : List String).contains "leanrows") = true := rfl
  rw [e, Bool.or_true]
theorem lays_later : Tryd.prog.laysLater = false := by kernel_rfl
theorem bears : Tryd.prog.bearsReflect = false := by kernel_rfl
theorem door : Tryd.prog.doorFits [] = true := by kernel_rfl
theorem may_enter : Tryd.prog.mayEnter = true := enter_cut behind_w lays_later bears door
theorem lifts_final : Tryd.prog.liftsFinal = false := lifts_cut behind_w
theorem make_is : Tryd.prog.make = some .cut := make_cut behind_w
theorem main_of {P : Program} {s : List Char} {rest : List (List Char)} (h : wordsSigns P.initOrder.toList = ([104, 97, 114, 110, 101, 115, 115].map Char.ofNat) :: s :: rest) (hs : isSumSigns s = true) : P.mainIs = some (true, s) := by
  unfold Program.mainIs
  rw [h]
  have e : "harness".toList = ([104, 97, 114, 110, 101, 115, 115].map Char.ofNat) := by decide +kernel
  simp only [hs, e, Bool.not_true, Bool.false_eq_true, if_false, BEq.rfl, if_true]
theorem sum_l : "0b397716be3d6cb8118b72eaf3dab24c4f550489c68b9fd11dab95209d034a1a".toList = ([48, 98, 51, 57, 55, 55, 49, 54, 98, 101, 51, 100, 54, 99, 98, 56, 49, 49, 56, 98, 55, 50, 101, 97, 102, 51, 100, 97, 98, 50, 52, 99, 52, 102, 53, 53, 48, 52, 56, 57, 99, 54, 56, 98, 57, 102, 100, 49, 49, 100, 97, 98, 57, 53, 50, 48, 57, 100, 48, 51, 52, 97, 49, 97].map Char.ofNat) := by
  rw [show "0b397716be3d6cb8118b72eaf3dab24c4f550489c68b9fd11dab95209d034a1a" = String.ofList ([48, 98, 51, 57, 55, 55, 49, 54, 98, 101, 51, 100, 54, 99, 98, 56, 49, 49, 56, 98, 55, 50, 101, 97, 102, 51, 100, 97, 98, 50, 52, 99, 52, 102, 53, 53, 48, 52, 56, 57, 99, 54, 56, 98, 57, 102, 100, 49, 49, 100, 97, 98, 57, 53, 50, 48, 57, 100, 48, 51, 52, 97, 49, 97].map Char.ofNat) by kernel_rfl, String.toList_ofList]
theorem main_is : Tryd.prog.mainIs = some (true, "0b397716be3d6cb8118b72eaf3dab24c4f550489c68b9fd11dab95209d034a1a".toList) := by
  rw [sum_l]
  exact main_of init_w (by decide +kernel)
end Go.Proofs.YtojllgpnhaaagaaDoor.Law
/- CxLaw2 -/
namespace Go.Cx
open Go Go.ChangeShapes Go.WideShapes Go.ChangeAt Go.RowKit Go.ChangeMaps
section
variable {H : Type} {enc : TypeId × Value → H} {P : Program} {W : World}
theorem law_int {k : IntKind} {t : TypeId} (ht : P.underlying t = some (.int k)) {base : Nat} {v : Value} {d : DataW H} {p : List MemPlace}
    (hval : Value.okWide P W .any base t v) (h : DataW.Trod enc P W 0 (fun _ => true) true t v d p) : ∃ n lo, LArg W (.v (.int k n)) v lo none := by
  obtain ⟨n, rfl, _, _, hw⟩ := open_int ht hval h
  exact ⟨n, .ph, int_vr (lit_wf hw), rfl⟩
def intOf : Value → Int
  | .int _ n => n
  | _ => 0
theorem law_arr {k : IntKind} {t e : TypeId} {n : Nat} (ht : P.underlying t = some (.array n e)) (he : P.underlying e = some (.int k)) (hc : P.cellsOf e = 1) (hct : P.cellsOf t = n) {base : Nat} {v : Value} {d : DataW H} {p : List MemPlace}
    (hval : Value.okWide P W .any base t v) (h : DataW.Trod enc P W 0 (fun _ => true) true t v d p) : ∃ l lo, LArg W (.v (.ints k n l)) v lo none := by
  obtain ⟨fuel, h⟩ := h
  obtain ⟨cs, rfl, hcs, _⟩ : ∃ cs, v = .agg cs ∧ cs.size = P.cellsOf t ∧ Row.okWide P W .any base t cs := by
    simpa only [Value.okWide, ht] using hval
  obtain ⟨xs, m, rfl, _, hl, hlen, hel⟩ := DataW.trod_array ht h
  rw [hct] at hcs
  have cell : ∀ i, i < n → ∃ z, cs[i]? = some (.int k z) ∧ inR k z := fun i hi => by
    have h1 := hel i hi
    rw [List.getElem?_eq_getElem (by omega)] at h1
    obtain ⟨z, h2, _, h3⟩ := DataW.trod_int he h1
    refine ⟨z, ?_, lit_wf h3⟩
    have h4 : ((Value.agg cs).cells.toList.drop (i * P.cellsOf e)).take (P.cellsOf e) = [cs[i]'(by omega)] := by
      rw [hc, Nat.mul_one]
      show (cs.toList.drop i).take 1 = _
      rw [List.drop_eq_getElem_cons (by simp; omega)]
      simp
    rw [h4] at h2
    rw [Array.getElem?_eq_getElem (by omega)]
    simpa using h2
  refine ⟨cs.toList.map intOf, .ph, agg_vr rfl (by simp [V.size, hcs]) ⟨by simp [hcs], fun y hy => ?_, fun j hj => ?_⟩, rfl⟩
  · obtain ⟨x, hx, rfl⟩ := List.mem_map.1 hy
    obtain ⟨i, hi⟩ := List.mem_iff_getElem?.1 hx
    have hin : i < n := by have := (List.getElem?_eq_some_iff.1 hi).1; simp at this; omega
    obtain ⟨z, h1, h2⟩ := cell i hin
    have : cs[i]? = some x := by simpa using hi
    rw [h1] at this
    cases this
    exact h2
  · obtain ⟨z, h1, h2⟩ := cell j hj
    show cs[j]? = _
    rw [h1]
    simp [nthI, List.getD_eq_getElem?_getD, h1, intOf]
end
end Go.Cx
/- CxLaw3 -/
namespace Go.Cx
open Go Go.ChangeShapes Go.WideShapes Go.ChangeAt Go.RowKit
section
variable {H : Type} {enc : TypeId × Value → H} {P : Program} {W : World}
theorem add_none {b off j : Nat} : (⟨b, off, none⟩ : Addr).add j = ⟨b, off + j, none⟩ := by
  simp only [Addr.add]
  split
  · rename_i e; subst e; rfl
  · rfl
end
end Go.Cx
/- CxLaw4 -/
namespace Go.Cx
open Go Go.ChangeShapes Go.WideShapes Go.ChangeAt Go.RowKit Go.ChangeMaps
/-- what numbers, arrays and structs of them hold -/
def Flat : V → Prop
  | .bool _ | .int _ _ | .ints _ _ _ => True
  | .cat _ _ a b => Flat a ∧ Flat b
  | .rows _ _ f => ∀ j, Flat (f j)
  | _ => False
theorem flat_rep {I : Nat → Prop} {w : World} {ow : Own} (c : V) : Flat c → ∀ {ρ ρ' : Rho} {q q' : List Nat} {pos pos' : Nat} {g g' : Nat → Option Value}, (∀ j, j < c.size → g' j = g j) → CRep I w ow c ρ q pos g → CRep I w ow c ρ' q' pos' g' := by
  induction c with
  | bool b => intro _ ρ ρ' q q' pos pos' g g' e h; exact (e 0 (by simp [V.size])).trans h
  | int k n => intro _ ρ ρ' q q' pos pos' g g' e h; exact ⟨(e 0 (by simp [V.size])).trans h.1, h.2⟩
  | ints k n l => intro _ ρ ρ' q q' pos pos' g g' e h; exact ⟨h.1, h.2.1, fun j hj => (e j hj).trans (h.2.2 j hj)⟩
  | cat n m a b iha ihb =>
    intro hf ρ ρ' q q' pos pos' g g' e h
    obtain ⟨ha, hb, h1, h2⟩ := h
    refine ⟨ha, hb, iha hf.1 (fun j hj => e j (by simp only [V.size]; omega)) h1, ihb hf.2 (fun j hj => e (n + j) (by simp only [V.size]; omega)) h2⟩
  | rows s n f ih =>
    intro hf ρ ρ' q q' pos pos' g g' e h j hj
    obtain ⟨h1, h2⟩ := h j hj
    refine ⟨h1, ih j (hf j) (fun r hr => e (j * s + r) ?_) h2⟩
    simp only [V.size]
    have : (j + 1) * s ≤ n * s := Nat.mul_le_mul_right _ hj
    rw [Nat.add_mul] at this
    omega
  | _ => intro hf; exact hf.elim
/-- cells that hold c -/
def Piece (W : World) (cs : List Value) (c : V) : Prop := cs.length = c.size ∧ Flat c ∧ CRep (fun b => b < W.heap.size) W (fun _ => none) c noR [] 0 (fun j => cs[j]?)
theorem Piece.cat {W : World} {cs : List Value} {n : Nat} {a b : V} (h1 : Piece W (cs.take n) a) (hn : n ≤ cs.length) (h2 : Piece W (cs.drop n) b) : Piece W cs (.cat n (cs.length - n) a b) := by
  obtain ⟨a1, a2, a3⟩ := h1
  obtain ⟨b1, b2, b3⟩ := h2
  simp only [List.length_take, List.length_drop] at a1 b1
  refine ⟨by simp only [V.size]; omega, ⟨a2, b2⟩, by omega, by omega, flat_rep a a2 (fun j hj => ?_) a3, flat_rep b b2 (fun j hj => ?_) b3⟩
  · rw [List.getElem?_take, if_pos (by omega)]
  · rw [List.getElem?_drop]
section
variable {H : Type} {enc : TypeId × Value → H} {P : Program} {W : World}
theorem piece_ints {k : IntKind} {t e : TypeId} {n : Nat} (ht : P.underlying t = some (.array n e)) (he : P.underlying e = some (.int k)) (hc : P.cellsOf e = 1) (hct : P.cellsOf t = n) {fuel : Nat} {cs : List Value} {x : DataW H × List MemPlace}
    (h : DataW.trod enc P W 0 (fun _ => true) true fuel t cs = some x) : ∃ l, Piece W cs (.ints k n l) := by
  obtain ⟨xs, m, _, _, hl, hlen, hel⟩ := DataW.trod_array ht h
  rw [hct] at hl
  have cell : ∀ i, i < n → ∃ z, cs[i]? = some (.int k z) ∧ inR k z := fun i hi => by
    have h1 := hel i hi
    rw [List.getElem?_eq_getElem (by omega)] at h1
    obtain ⟨z, h2, _, h3⟩ := DataW.trod_int he h1
    refine ⟨z, ?_, lit_wf h3⟩
    have h4 : (cs.drop (i * P.cellsOf e)).take (P.cellsOf e) = [cs[i]'(by omega)] := by
      rw [hc, Nat.mul_one, List.drop_eq_getElem_cons (by omega)]
      rfl
    rw [h4] at h2
    rw [List.getElem?_eq_getElem (by omega)]
    simpa using h2
  refine ⟨cs.map intOf, by simp [V.size, hl], trivial, by simp [hl], fun y hy => ?_, fun j hj => ?_⟩
  · obtain ⟨x, hx, rfl⟩ := List.mem_map.1 hy
    obtain ⟨i, hi⟩ := List.mem_iff_getElem?.1 hx
    have hin : i < n := by have := (List.getElem?_eq_some_iff.1 hi).1; omega
    obtain ⟨z, h1, h2⟩ := cell i hin
    rw [h1] at hi
    cases hi
    exact h2
  · obtain ⟨z, h1, h2⟩ := cell j hj
    show cs[j]? = _
    rw [h1]
    simp [nthI, List.getD_eq_getElem?_getD, h1, intOf]
end
end Go.Cx
/- CxLaw6 -/
namespace Go.Cx
open Go Go.ChangeShapes Go.WideShapes Go.ChangeAt Go.RowKit
section
variable {H : Type} {enc : TypeId × Value → H} {P : Program} {W : World}
/-- a slice of plain structs that no one writes, as a statement reads it -/
theorem law_objsW {t e : TypeId} {s : Nat} (ht : P.underlying t = some (.slice e)) (hc : P.cellsOf e = s) {base : Nat} {v : Value} {d : DataW H} {p : List MemPlace}
    (hval : Value.okWide P W .any base t v) (h : DataW.Trod enc P W 0 (fun _ => true) true t v d p) {Q : V → Prop} {c0 : V} (h0 : Q c0 ∧ c0.size = s)
    (hp : ∀ fuel cs x, DataW.trod enc P W 0 (fun _ => true) true fuel e cs = some x → ∃ c, Q c ∧ c.size = s ∧ Piece W cs c) :
    ∃ n f lo, (∀ j, Q (f j)) ∧ LArg W (.v (.dsl n s (.rows s n f))) v lo none ∧ n ≤ 9223372036854775807 ∧ ((d.weights P t).all (· ≤ reachBytes) = true → n * P.bytesOf e ≤ 140737488351232) := by
  obtain ⟨fuel, h⟩ := h
  obtain ⟨ad, n, c, rfl⟩ := slice_is ht hval
  rcases DataW.trod_slice ht h with ⟨h1, h2⟩ | ⟨a, len, cap, elems, rest, f, _, h1, h2, _, h3, h4, h5, h6, h7, _⟩
  · simp only [Value.cells, List.cons.injEq, Value.slice.injEq, and_true] at h1
    obtain ⟨rfl, rfl, rfl⟩ := h1
    exact ⟨0, fun _ => c0, .ph, fun _ => h0.1, ⟨leaf_vr rfl rfl rfl ⟨none, 0, rfl, Nat.le_refl _, by simp, ⟨rfl, rfl⟩, fun j hj => by omega, .inl rfl⟩, rfl⟩, by decide, fun _ => by rw [Nat.zero_mul]; exact Nat.zero_le _⟩
  · simp only [Value.cells, List.cons.injEq, Value.slice.injEq, and_true] at h1
    obtain ⟨rfl, rfl, rfl⟩ := h1
    cases h2
    obtain ⟨ha, hblk⟩ := slice_has ht hval
    obtain ⟨b, off, sp⟩ := a
    simp only at ha hblk
    subst ha
    rw [hc] at h6
    have each : ∀ j, ∃ k : V, Q k ∧ k.size = s ∧ (j < n → CRep (fun b => b < W.heap.size) W (fun _ => none) k noR [] 0 (fun r => W.cell? ⟨b, off + (j * s + r), none⟩)) := fun j => by
      by_cases hj : j < n
      · have h0 := h6 j hj
        rw [add_none, List.getElem?_eq_getElem (by omega)] at h0
        obtain ⟨cs, hcs, h0⟩ := Option.bind_eq_some_iff.1 h0
        obtain ⟨_, hl, hcell⟩ := World.cells?_some hcs
        obtain ⟨k, hq, hs, _, hf, hr⟩ := hp _ _ _ h0
        refine ⟨k, hq, hs, fun _ => flat_rep _ hf (fun r hr => ?_) hr⟩
        have hx := hcell r (by omega)
        rw [add_none] at hx
        rw [show off + (j * s + r) = off + j * s + r by omega]
        exact hx
      · exact ⟨c0, h0.1, h0.2, fun h => absurd h hj⟩
    obtain ⟨ml, hml⟩ := Classical.skolem.1 each
    refine ⟨n, ml, .ph, fun j => (hml j).1, ⟨leaf_vr rfl rfl rfl ⟨_, c, rfl, h3, h4, ⟨rfl, rfl⟩, fun j hj => ⟨(hml j).2.1, ?_⟩, .inr ⟨b, off, rfl, hblk⟩⟩, rfl⟩, by simp only [maxLen] at h4; omega, fun hw => ?_⟩
    · exact (hml j).2.2 hj
    · simp only [DataW.weights, ht, List.all_cons, Bool.and_eq_true, reachBytes] at hw
      have := of_decide_eq_true hw.1
      simp only [List.length_map, h5] at this
      exact Nat.le_trans (Nat.mul_le_mul_right _ (Nat.le_add_right _ _)) this
end
end Go.Cx
/- CxbLawR -/
namespace Go.Proofs.YtojllgpnhaaagaaDoor.Law
open Go Go.ChangeShapes Go.WideShapes Go.ChangeAt Go.RowKit Go.Cx Go.Cx.Rb Go.ChangeMaps
theorem cells23 : Tryd.prog.cellsOf 23 = 32 := by kernel_rfl
theorem bytes23 : Tryd.prog.bytesOf 23 = 32 := by kernel_rfl
theorem leaf_row {f : Nat → V} (h : ∀ j, ∃ l, f j = .ints .u8 32 l) : ∃ g : Nat → List Int, f = rowV apf g := by
  obtain ⟨g, hg⟩ := Classical.skolem.1 h
  exact ⟨g, funext hg⟩
set_option maxRecDepth 100000 in
theorem law_leaves {H : Type} {enc : TypeId × Value → H} {W : World} {base : Nat} {v : Value} {d : DataW H} {p : List MemPlace} (hval : Value.okWide Tryd.prog W .any base 22 v) (h : DataW.Trod enc Tryd.prog W 0 (fun _ => true) true 22 v d p) :
    ∃ n g lo, LArg W (.v (.dsl n 32 (.rows 32 n (rowV apf g)))) v lo none ∧ ((d.weights Tryd.prog 22).all (· ≤ reachBytes) = true → n ≤ 4398046510976) := by
  obtain ⟨n, f, lo, h1, h2, _, h3⟩ := @law_objsW H enc Tryd.prog W 22 23 32 Tryd.underlying22 cells23 base v d p hval h (fun c => ∃ l, c = .ints .u8 32 l) (.ints .u8 32 []) ⟨⟨[], rfl⟩, rfl⟩ (fun fuel cs x hx => by
    obtain ⟨l, hp⟩ := piece_ints Tryd.underlying23 Tryd.underlying5 cells5 cells23 hx
    exact ⟨_, ⟨l, rfl⟩, rfl, hp⟩)
  obtain ⟨g, rfl⟩ := leaf_row h1
  refine ⟨n, g, lo, h2, fun hw => ?_⟩
  have := h3 hw
  rw [bytes23] at this
  omega
theorem hout3 {n : Nat} {g : Nat → List Int} {a : Int} {x : List Int} (hn : n ≤ 4398046510976) : (cLaw3 apf [.v (.dsl n 32 (.rows 32 n (rowV apf g))), .v (.int .i64 a), .v (.ints .u8 32 x)]).to ⟨.tt, [], []⟩ := ⟨rfl, rfl, hn, rfl⟩
theorem hout4 {n : Nat} {g : Nat → List Int} (hn : n ≤ 4398046510976) : (cLaw4 apf [.v (.dsl n 32 (.rows 32 n (rowV apf g)))]).to ⟨.tt, [], []⟩ := ⟨rfl, rfl, hn, rfl⟩
theorem hout6 {n : Nat} {b : List Int} {a : Int} (hn : n ≤ 140737488351232) : (cLaw6 apf [.v (.int .i64 a), .b n 1 (.ints .u8 n b)]).to ⟨.tt, [], []⟩ := ⟨hn, rfl⟩
theorem hout7 {k n : Nat} {gp g : Nat → List Int} {a b : Int} {x : List Int} (hk : k ≤ 4398046510976) (hn : n ≤ 4398046510976) : (cLaw7 apf [.v (.int .i64 a), .v (.int .i64 b), .v (.ints .u8 32 x), .v (.dsl k 32 (.rows 32 k (rowV apf gp))), .v (.dsl n 32 (.rows 32 n (rowV apf g)))]).to ⟨.tt, [], []⟩ := ⟨rfl, rfl, rfl, rfl, hk, hn, rfl⟩
end Go.Proofs.YtojllgpnhaaagaaDoor.Law
