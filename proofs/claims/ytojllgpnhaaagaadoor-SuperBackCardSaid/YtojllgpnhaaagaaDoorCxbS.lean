/-
  What the document's reader of a slot finds.
-/
import Derived.Test.YtojllgpnhaaagaaDoorCxbN
import Derived.Test.YtojllgpnhaaagaaDoorCxbQ
namespace Go.Cx.Rb
open Go Go.Cx Go.Proofs

theorem okQ_go {l : List Int} {a k : Int} (ha : 0 ≤ a) (hk : 0 ≤ k) (h : a + k ≤ l.length) : okQ l a false k = true := by
  refine okR_t.2 ⟨rfl, hk, ?_⟩
  rw [List.length_drop]
  omega
theorem okQ_sp {l : List Int} {a k : Int} : okQ l a true k = false := by simp [okQ, okR]
theorem tkQ_go {l : List Int} {a k : Int} (ha : 0 ≤ a) (hk : 0 ≤ k) (h : a + k ≤ l.length) : tkQ l a false k = (l.drop a.toNat).take k.toNat := by
  have e : okR (l.drop a.toNat) false k = true := okQ_go ha hk h
  simp only [tkQ, tkL, e, if_true]
theorem tkQ_sp {l : List Int} {a k : Int} : tkQ l a true k = [] := by
  have e : okR (l.drop a.toNat) true k = false := okQ_sp
  simp only [tkQ, tkL, e, if_false, Bool.false_eq_true]
theorem atQ_go {l : List Int} {a k : Int} (ha : 0 ≤ a) (hk : 0 ≤ k) (h : a + k ≤ l.length) : atQ l a false k = a + k := by simp only [atQ, okQ_go ha hk h, if_true]
theorem flQ_go {l : List Int} {a k : Int} (ha : 0 ≤ a) (hk : 0 ≤ k) (h : a + k ≤ l.length) : flQ l a false k = false := by simp only [flQ, okQ_go ha hk h, Bool.not_true]
theorem flQ_sp {l : List Int} {a k : Int} : flQ l a true k = true := by simp only [flQ, okQ_sp, Bool.not_false]

def pa1 (b : List Int) : Int := atQ b 0 false 1
def fa1 (b : List Int) : Bool := flQ b 0 false 1
def pa2 (b : List Int) : Int := atQ b (pa1 b) (fa1 b) 1
def fa2 (b : List Int) : Bool := flQ b (pa1 b) (fa1 b) 1
def pa3 (b : List Int) : Int := atQ b (pa2 b) (fa2 b) 2
def fa3 (b : List Int) : Bool := zrQ b (pa2 b) (fa2 b) 2
def pa4 (b : List Int) : Int := atQ b (pa3 b) (fa3 b) 4
def fa4 (b : List Int) : Bool := flQ b (pa3 b) (fa3 b) 4
def pa5 (b : List Int) : Int := atQ b (pa4 b) (fa4 b) 16
def fa5 (b : List Int) : Bool := flQ b (pa4 b) (fa4 b) 16
def pa6 (b : List Int) : Int := atQ b (pa5 b) (fa5 b) 32
def fa6 (b : List Int) : Bool := flQ b (pa5 b) (fa5 b) 32
def pa7 (b : List Int) : Int := atQ b (pa6 b) (fa6 b) 24
def fa7 (b : List Int) : Bool := flQ b (pa6 b) (fa6 b) 24
def nuU (b : List Int) : Bool := decide (numL (tkQ b 0 false 1) = 1)
def nuK (b : List Int) : Int := wcv .i64 (numL (tkQ b (pa1 b) (fa1 b) 1))
def nuR (b : List Int) : Int := wcv .i64 (numL (tkQ b (pa3 b) (fa3 b) 4))
def xS (b : List Int) : List Int := tkQ b (pa4 b) (fa4 b) 16
def xW (b : List Int) : List Int := tkQ b (pa5 b) (fa5 b) 32
def xC (b : List Int) : List Int := tkQ b (pa6 b) (fa6 b) 24
/-- copied so far -/
def mixC (n : Nat) (x : List Int) (i : Nat) : List Int := x.take (min i n) ++ zerosI (n - min i n)
def refQ (b : List Int) : SlotP := ⟨nuU b, nuK b, nuR b, mixC 16 (xS b) (xW b).length, mixC 32 (xW b) (xW b).length, mixC 24 (xC b) (xW b).length⟩

structure Good (b : List Int) : Prop where
  p3 : pa3 b = 4
  f3 : fa3 b = false
  p4 : pa4 b = 8
  p5 : pa5 b = 24
  p6 : pa6 b = 56
  p7 : pa7 b = 80
  f7 : fa7 b = false
  k : nuK b = nthI b 1
  r : nuR b = numL ((b.drop 4).take 4)
  s : xS b = (b.drop 8).take 16
  w : xW b = (b.drop 24).take 32
  c : xC b = (b.drop 56).take 24
structure Bad (b : List Int) : Prop where
  f7 : fa7 b = true
  s : xS b = []
  w : xW b = []
  c : xC b = []

theorem rd_head {b : List Int} (hl : b.length = 80) : pa1 b = 1 ∧ fa1 b = false ∧ pa2 b = 2 ∧ fa2 b = false ∧ pa3 b = 4 ∧ fa3 b = !allZ ((b.drop 2).take 2) ∧ nuU b = decide (nthI b 0 = 1) := by
  have e1 : pa1 b = 1 := atQ_go (by decide) (by decide) (by omega)
  have e2 : fa1 b = false := flQ_go (by decide) (by decide) (by omega)
  have e3 : pa2 b = 2 := by rw [pa2, e1, e2]; exact atQ_go (by decide) (by decide) (by omega)
  have e4 : fa2 b = false := by rw [fa2, e1, e2]; exact flQ_go (by decide) (by decide) (by omega)
  have e5 : pa3 b = 4 := by rw [pa3, e3, e4]; exact atQ_go (by decide) (by decide) (by omega)
  have e6 : fa3 b = !allZ ((b.drop 2).take 2) := by
    rw [fa3, e3, e4, zrQ, okQ_go (by decide) (by decide) (by omega), tkQ_go (by decide) (by decide) (by omega)]
    rfl
  refine ⟨e1, e2, e3, e4, e5, e6, ?_⟩
  rw [nuU, tkQ_go (by decide) (by decide) (by omega)]
  rw [show ((b.drop (0 : Int).toNat).take (1 : Int).toNat) = (b.drop 0).take 1 from rfl, num_one (by omega)]

theorem rd_good {b : List Int} (hb : ∀ y ∈ b, inR .u8 y) (hl : b.length = 80) (hz : allZ ((b.drop 2).take 2) = true) : Good b := by
  obtain ⟨a1, a2, a3, a4, a5, a6, _⟩ := rd_head hl
  rw [hz] at a6
  have a6 : fa3 b = false := a6
  have b4 : pa4 b = 8 := by rw [pa4, a5, a6]; exact atQ_go (by decide) (by decide) (by omega)
  have c4 : fa4 b = false := by rw [fa4, a5, a6]; exact flQ_go (by decide) (by decide) (by omega)
  have b5 : pa5 b = 24 := by rw [pa5, b4, c4]; exact atQ_go (by decide) (by decide) (by omega)
  have c5 : fa5 b = false := by rw [fa5, b4, c4]; exact flQ_go (by decide) (by decide) (by omega)
  have b6 : pa6 b = 56 := by rw [pa6, b5, c5]; exact atQ_go (by decide) (by decide) (by omega)
  have c6 : fa6 b = false := by rw [fa6, b5, c5]; exact flQ_go (by decide) (by decide) (by omega)
  have b7 : pa7 b = 80 := by rw [pa7, b6, c6]; exact atQ_go (by decide) (by decide) (by omega)
  have c7 : fa7 b = false := by rw [fa7, b6, c6]; exact flQ_go (by decide) (by decide) (by omega)
  refine ⟨a5, a6, b4, b5, b6, b7, c7, ?_, ?_, ?_, ?_, ?_⟩
  · rw [nuK, a1, a2, tkQ_go (by decide) (by decide) (by omega)]
    rw [show ((b.drop (1 : Int).toNat).take (1 : Int).toNat) = (b.drop 1).take 1 from rfl]
    rw [wcv_num (fun y hy => hb y (List.mem_of_mem_drop (List.mem_of_mem_take hy))) (by simp; omega), num_one (by omega)]
  · rw [nuR, a5, a6, tkQ_go (by decide) (by decide) (by omega)]
    exact wcv_num (fun y hy => hb y (List.mem_of_mem_drop (List.mem_of_mem_take hy))) (by simp; omega)
  · rw [xS, b4, c4]; exact tkQ_go (by decide) (by decide) (by omega)
  · rw [xW, b5, c5]; exact tkQ_go (by decide) (by decide) (by omega)
  · rw [xC, b6, c6]; exact tkQ_go (by decide) (by decide) (by omega)

theorem rd_bad {b : List Int} (hl : b.length = 80) (hz : allZ ((b.drop 2).take 2) = false) : Bad b := by
  obtain ⟨_, _, _, _, _, a6, _⟩ := rd_head hl
  rw [hz] at a6
  have a6 : fa3 b = true := a6
  have c4 : fa4 b = true := by rw [fa4, a6]; exact flQ_sp
  have c5 : fa5 b = true := by rw [fa5, c4]; exact flQ_sp
  have c6 : fa6 b = true := by rw [fa6, c5]; exact flQ_sp
  have c7 : fa7 b = true := by rw [fa7, c6]; exact flQ_sp
  exact ⟨c7, by rw [xS, c4]; exact tkQ_sp, by rw [xW, c5]; exact tkQ_sp, by rw [xC, c6]; exact tkQ_sp⟩

theorem mixC_all {n : Nat} {x : List Int} {i : Nat} (h : n ≤ i) (hx : x.length = n) : mixC n x i = x := by
  rw [mixC, Nat.min_eq_right h, Nat.sub_self, List.take_of_length_le (by omega)]
  simp [zerosI]
theorem refQ_good {b : List Int} (hl : b.length = 80) (g : Good b) : refQ b = slotB b (decide (nthI b 0 = 1)) := by
  have hw : (xW b).length = 32 := by rw [g.w]; simp; omega
  obtain ⟨_, _, _, _, _, _, hu⟩ := rd_head hl
  simp only [refQ, slotB, hw, hu, g.k, g.r]
  rw [mixC_all (by decide) (by rw [g.s]; simp; omega), mixC_all (by decide) hw, mixC_all (by decide) (by rw [g.c]; simp; omega), g.s, g.w, g.c]

def refE (b : List Int) : Int := if decide (endQ b (pa7 b) (fa7 b) ≠ 0) || decide (encE (refQ b) ≠ 0) || decide (encB (refQ b) ≠ b) then 12 else 0
theorem allZ_iff {l : List Int} : allZ l = true ↔ ∀ x ∈ l, x = 0 := by simp [allZ]
theorem allZ_zeros {b : List Int} (hl : b.length = 80) (h : allZ b = true) : b = zerosI 80 := by
  rw [allZ_iff] at h
  exact List.eq_replicate_iff.2 ⟨hl, h⟩
theorem allZ_z80 : allZ (zerosI 80) = true := by rfl
theorem slotB_z : slotB (zerosI 80) false = slot0 := by decide +kernel
theorem refE_good {b : List Int} (hl : b.length = 80) (g : Good b) : refE b = if encE (refQ b) = 0 ∧ encB (refQ b) = b then 0 else 12 := by
  have he : endQ b (pa7 b) (fa7 b) = 0 := by rw [g.p7, g.f7, endQ, hl]; rfl
  rw [refE, he]
  by_cases h1 : encE (refQ b) = 0
  · by_cases h2 : encB (refQ b) = b
    · simp [h1, h2]
    · simp [h1, h2]
  · simp [h1]
theorem ref_dec {b : List Int} (hb : ∀ y ∈ b, inR .u8 y) (hl : b.length = 80) : decE b = refE b ∧ decP b = (if refE b = 0 then refQ b else slot0) := by
  obtain ⟨e1, e2⟩ := dec_spec hb
  have no : okB b = false → allZ b = false → refE b = 12 → decE b = refE b ∧ decP b = (if refE b = 0 then refQ b else slot0) := fun h1 h2 h3 => by
    rw [h1, h2, Bool.and_false, Bool.or_false, if_neg (by decide)] at e1
    rw [h1, if_neg (by decide)] at e2
    rw [e1, e2, h3, if_neg (by decide)]
    exact ⟨rfl, rfl⟩
  cases hz : allZ ((b.drop 2).take 2) with
  | false =>
    have g := rd_bad hl hz
    refine no (by simp [okB, hz]) ?_ ?_
    · cases h : allZ b with
      | false => rfl
      | true =>
        have : allZ ((b.drop 2).take 2) = true := allZ_iff.2 fun x hx => allZ_iff.1 h x (List.mem_of_mem_drop (List.mem_of_mem_take hx))
        rw [hz] at this
        cases this
    · have : endQ b (pa7 b) (fa7 b) = 12 := by rw [g.f7, endQ, Bool.true_or, if_pos rfl]
      rw [refE, this]
      simp
  | true =>
    have g := rd_good hb hl hz
    have hq := refQ_good hl g
    have hE := refE_good hl g
    by_cases hu : nthI b 0 = 1
    · rw [decide_eq_true hu] at hq
      have hnz : allZ b = false := by
        cases h : allZ b with
        | false => rfl
        | true =>
          rw [allZ_zeros hl h] at hu
          exact absurd hu (by decide)
      cases hr : rightS (slotB b true) with
      | true =>
        have ho : okB b = true := by rw [okB, decide_eq_true hl, decide_eq_true hu, hz, hr]; rfl
        have h1 : encE (refQ b) = 0 := by rw [hq, encE, hr]; rfl
        have h2 : encB (refQ b) = b := by rw [hq]; exact enc_dec hb ho
        rw [if_pos ⟨h1, h2⟩] at hE
        rw [ho, Bool.or_true, if_pos rfl] at e1
        rw [ho, if_pos rfl] at e2
        rw [e1, e2, hE, if_pos rfl, hq]
        exact ⟨rfl, rfl⟩
      | false =>
        refine no (by simp [okB, hr]) hnz ?_
        have h1 : encE (refQ b) = 3 := by rw [hq, encE, hr]; rfl
        rw [hE, h1, if_neg (fun h => absurd h.1 (by decide))]
    · rw [decide_eq_false hu] at hq
      have ho : okB b = false := by simp [okB, hu]
      cases hz2 : allZ b with
      | true =>
        have hb0 := allZ_zeros hl hz2
        have hq0 : refQ b = slot0 := by rw [hq, hb0, slotB_z]
        have h1 : encE (refQ b) = 0 := by rw [hq0]; decide +kernel
        have h2 : encB (refQ b) = b := by rw [hq0, hb0]; decide +kernel
        rw [if_pos ⟨h1, h2⟩] at hE
        rw [hz2, decide_eq_true hl, Bool.and_true, Bool.true_or, if_pos rfl] at e1
        rw [ho, if_neg (by decide)] at e2
        rw [e1, e2, hE, if_pos rfl, hq0]
        exact ⟨rfl, rfl⟩
      | false =>
        refine no ho hz2 ?_
        rw [hE, if_neg]
        rintro ⟨h1, h2⟩
        rw [hq] at h1 h2
        cases hr : rightS (slotB b false) with
        | false => rw [encE, hr] at h1; cases h1
        | true =>
          have h3 : encB (slotB b false) = zerosI 80 := by rw [encB, hr]; rfl
          rw [h3] at h2
          rw [← h2, allZ_z80] at hz2
          cases hz2
theorem dec_len {b : List Int} (hb : ∀ y ∈ b, inR .u8 y) (hl : b.length ≠ 80) : decE b = 12 ∧ decP b = slot0 := by
  obtain ⟨e1, e2⟩ := dec_spec hb
  have ho : okB b = false := by simp [okB, hl]
  rw [ho, decide_eq_false hl, Bool.false_and, Bool.false_or, if_neg (by decide)] at e1
  rw [ho, if_neg (by decide)] at e2
  exact ⟨e1, e2⟩
theorem loop_in {b : List Int} (hb : ∀ y ∈ b, inR .u8 y) (hl : b.length = 80) {i : Nat} (hi : i < (xW b).length) : (xW b).length = 32 ∧ (xS b).length = 16 ∧ (xC b).length = 24 := by
  cases hz : allZ ((b.drop 2).take 2) with
  | false => rw [(rd_bad hl hz).w] at hi; exact absurd hi (by simp)
  | true =>
    have g := rd_good hb hl hz
    rw [g.w, g.s, g.c]
    refine ⟨?_, ?_, ?_⟩ <;> simp <;> omega
theorem xW_len {b : List Int} (hb : ∀ y ∈ b, inR .u8 y) (hl : b.length = 80) : (xW b).length ≤ 32 := by
  cases h : (xW b).length with
  | zero => omega
  | succ m => have := (loop_in hb hl (i := 0) (by omega)).1; omega
theorem mixC_zero {n : Nat} {x : List Int} : mixC n x 0 = zerosI n := by simp [mixC, zerosI]
theorem mixC_stay {n : Nat} {x : List Int} {i : Nat} (h : n ≤ i) : mixC n x (i + 1) = mixC n x i := by
  rw [mixC, mixC, Nat.min_eq_right h, Nat.min_eq_right (by omega)]
theorem mixC_len {n : Nat} {x : List Int} {i : Nat} (hx : x.length = n) : (mixC n x i).length = n := by simp [mixC, zerosI]; omega
theorem mixC_next {n : Nat} {x : List Int} {i : Nat} (h : i < n) (hx : x.length = n) : mixC n x (i + 1) = (mixC n x i).set i (nthI x i) := by
  apply List.ext_getElem?
  intro j
  rw [List.getElem?_set, mixC_len hx, if_pos h]
  simp only [mixC, Nat.min_eq_left (show i ≤ n by omega), Nat.min_eq_left (show i + 1 ≤ n by omega), List.getElem?_append, List.length_take, zerosI, List.getElem?_replicate, List.getElem?_take]
  by_cases e : i = j
  · subst e
    rw [if_pos rfl, hx, Nat.min_eq_left (show i + 1 ≤ n by omega), if_pos (by omega), if_pos (by omega)]
    have hi : i < x.length := by omega
    simp [nthI, List.getD_eq_getElem?_getD, hi]
  · rw [if_neg e, hx, Nat.min_eq_left (show i + 1 ≤ n by omega), Nat.min_eq_left (show i ≤ n by omega)]
    by_cases h1 : j < i
    · rw [if_pos (by omega), if_pos (by omega), if_pos (by omega), if_pos h1]
    · rw [if_neg (by omega), if_neg h1]
      by_cases h2 : j < n
      · rw [if_pos (by omega), if_pos (by omega)]
      · rw [if_neg (by omega), if_neg (by omega)]
end Go.Cx.Rb

/- The document's 'Encode' with the one table; its 'Decode'. -/
namespace Go.Cx.Rb
open Go Go.Cx Go.Proofs

set_option maxRecDepth 20000 in
theorem vc91k (args : List Arg) (out : Out) (h : (cRightS apf args).to out) (hok : okAs args) :
    args.length = ic91.nargs ∧ ic91.nargs ≤ ic91.ntmps ∧ ∃ A, run apf [] A ic91.body (fnQ apf args out ic91.res) (st0 G1 true args) := by
  unfold cRightS at h
  split at h
  · rename_i u k r m1 s m2 w m3 c
    obtain ⟨hm, h⟩ := rif_to h
    cases h
    simp only [Bool.and_eq_true, beq_iff_eq] at hm
    obtain ⟨⟨rfl, rfl⟩, rfl⟩ := hm
    obtain ⟨⟨_, _, _, hs, hw, hc⟩, _⟩ := hok
    refine ⟨rfl, by decide, [], ?_⟩
    show run apf _ _ _ _ (st0 [(1, .ints .u32 64 kk)] _ _)
    generalize hK : kk = K
    generalize hap : apf = ap
    cbv
    repeat' first
      | exact True.intro
      | (intro _; cbv)
      | (refine And.intro ?_ ?_)
    all_goals subst hap
    · exact slot_ok hs.1 hw.1 hc.1
    · exact slot_ok (u := false) (k := 0) (r := 0) (by decide) (by decide) (by decide)
    · have hu : u = false := notB_t.1 (by assumption)
      have e := slot_eqZ (u := u) (u' := false) (k := k) (k' := 0) (r := r) (r' := 0) (s := s) (s' := zerosI 16) (w := w) (w' := zerosI 32) (c := c) (c' := zerosI 24) (by rw [hs.1]; rfl) (by rw [hw.1]; rfl)
      refine Eq.trans ?_ e.symm
      subst hu
      rfl
    all_goals have hu : u = true := notB_f.1 (by assumption)
    all_goals subst hu
    all_goals simp only [apf, cmF, ge_t, ge_f, le_t, le_f, eqB'] at *
    · rw [Bool.eq_iff_iff, right_t rfl, le_t]
      show (1 ≤ k ∧ k ≤ 255 ∧ 1 ≤ r ∧ r ≤ 64) ↔ _
      omega
    all_goals refine right_f rfl ?_
    all_goals show ¬ (1 ≤ k ∧ k ≤ 255 ∧ 1 ≤ r ∧ r ≤ 64)
    all_goals omega
  · exact h.elim
theorem s91k : Sound Tryd.prog G1 91 (pu 91) (fun args => cRightS apf (args.map litA)) := (fn_sound rfl Tryd.call91 ok91 co91 env_nil vc91k).lits
set_option maxRecDepth 20000 in
set_option maxHeartbeats 1000000 in
theorem vc93k (args : List Arg) (out : Out) (h : (cHead apf args).to out) (hok : okAs args) :
    args.length = ic93.nargs ∧ ic93.nargs ≤ ic93.ntmps ∧ ∃ A, run apf [(113, cPut apf)] A ic93.body (fnQ apf args out ic93.res) (st0 G1 true args) := by
  unfold cHead at h
  split at h
  · rename_i u k r m1 s m2 w m3 c
    obtain ⟨hm, h1, h⟩ := rif_to h
    cases h
    simp only [Bool.and_eq_true, beq_iff_eq] at hm
    obtain ⟨⟨rfl, rfl⟩, rfl⟩ := hm
    have h1 : 1 ≤ r ∧ r ≤ 64 := h1
    obtain ⟨⟨_, _, _, hs, hw, hc⟩, _⟩ := hok
    refine ⟨rfl, by decide, [], ?_⟩
    show run apf _ _ _ _ (st0 [(1, .ints .u32 64 kk)] _ _)
    generalize hK : kk = K
    generalize hap : apf = ap
    cbv
    repeat' first
      | exact True.intro
      | (intro hh; with_reducible exact False.elim (tf_no (Eq.trans (Eq.symm (show _ = true by assumption)) hh)))
      | (intro hh; with_reducible exact False.elim (tf_no (Eq.trans (Eq.symm hh) (show _ = false by assumption))))
      | (intro _; cbv)
      | (refine And.intro ?_ ?_)
    all_goals subst hap
    all_goals have h64 : wcv .u64 r = r := by
                show IntKind.u64.wrap r = r
                rw [u64_emod]; omega
    all_goals first
      | (simp only [apf, leN, eqN, appN, addN, V.cnt] <;> omega)
      | (show 0 ≤ wcv .u64 r ∧ wcv .u64 r < 4294967296
         omega)
      | (simp [apf, eqL', headS, catL, subL, hs.1, hw.1, beL_len, addN, List.take_of_length_le, h64]; done)
  · exact h.elim
theorem s93k : Sound Tryd.prog G1 93 (pu 93) (fun args => cHead apf (args.map litA)) := (fn_sound rfl Tryd.call93 ok93 co93 (env_cons s113 env_nil) vc93k).lits
set_option maxRecDepth 20000 in
set_option maxHeartbeats 1000000 in
theorem vc41k (args : List Arg) (out : Out) (h : (cEnc0 apf args).to out) (hok : okAs args) :
    args.length = ic41.nargs ∧ ic41.nargs ≤ ic41.ntmps ∧ ∃ A, run apf [(91, fun args => cRightS apf (args.map litA)), (93, (fun args => cHead apf (args.map litA)))] A ic41.body (fnQ apf args out ic41.res) (st0 G1 true args) := by
  unfold cEnc0 at h
  split at h
  · rename_i u k r m1 s m2 w m3 c
    obtain ⟨hm, h⟩ := rif_to h
    simp only [Bool.and_eq_true, beq_iff_eq] at hm
    obtain ⟨⟨rfl, rfl⟩, rfl⟩ := hm
    obtain ⟨⟨_, _, _, hs, hw, hc⟩, _⟩ := hok
    rcases h with ⟨hb, h⟩ | ⟨hb, h⟩
    all_goals cases h
    all_goals refine ⟨rfl, by decide, [], ?_⟩
    all_goals show run apf _ _ _ _ (st0 [(1, .ints .u32 64 kk)] _ _)
    all_goals generalize hK : kk = K
    all_goals have hb' : rightS ⟨u, k, r, s, w, c⟩ = _ := hb
    all_goals clear hb
    all_goals generalize hap : apf = ap
    all_goals cbv
    all_goals repeat' first
      | exact True.intro
      | (intro _; cbv)
      | (refine And.intro ?_ ?_)
    all_goals subst hap
    all_goals simp only [apf, notB_t, notB_f] at *
    all_goals first
      | (exfalso; simp_all; done)
      | (simp only [leN, eqN, appN, mksN, addN, V.cnt] <;> omega)
      | skip
    all_goals first
      | (cases u <;> first
          | (exact absurd (by assumption) (by decide))
          | (simp only [eqI', eqL', encE, encB, hb', if_true, if_false, Bool.false_eq_true]
             simp [catL, subL, headS_len (p := ⟨true, k, r, s, w, c⟩) hs.1 hw.1, hc.1, List.take_of_length_le]
             done)
          | (simp only [eqI', eqL', encE, encB, hb', if_true, if_false, Bool.false_eq_true]; done))
      | (have hu : u = true := by assumption
         subst hu
         exact ((right_t rfl).1 hb').2.2)
      | trace_state
  · exact h.elim
theorem s41k : Sound Tryd.prog G1 41 (pu 41) (fun args => cEnc0 apf (args.map litA)) := (fn_sound rfl Tryd.call41 ok41 co41 (env_cons s91k (env_cons s93k env_nil)) vc41k).lits
theorem s41fk : Sound Tryd.prog G1 41 (pu 41) (fun args => cEnc apf (args.map litA)) := s41k.freezeOk fun _args out' hok h => enc_freeze _ out' (okAs_lit hok) h
def cRefD (ap : AP) : Ctr
  | [.v (.dsl n 1 (.ints .u8 n' b))] => .chk (ap _ _ (ap _ _ eqN n) n') <| .ok ⟨.tcons (slotA ap (ap _ _ decP b)) (.tcons (.int .i64 (ap _ _ decE b)) .tnil), [], []⟩
  | _ => .fail 360
def aRefD (ap : AP) (b : List Int) (m : Nat) : List (Nat × Ann) := [
  (0, .inv Nat (fun i => ⟨[(0, .dsl 80 1 (.ints .u8 80 b)), (2, .ptr 2 []), (4, .ptr 18 []), (5, .ptr 5 []), (6, dslA ap (ap _ _ xS b)), (7, dslA ap (ap _ _ xW b)), (8, dslA ap (ap _ _ xC b)), (9, .int .i64 (ap _ _ lenI i))],
      [(2, ⟨.own, .cat 1 74 .ff (.cat 1 73 (.lit .i64 0) (.cat 1 72 (.lit .i64 0) (.cat 16 56 (.ints .u8 16 (ap _ _ zerosI 16)) (.cat 32 24 (.ints .u8 32 (ap _ _ zerosI 32)) (.ints .u8 24 (ap _ _ zerosI 24))))))⟩),
       (18, ⟨.own, rrV 80 b (ap _ _ pa7 b) (ap _ _ fa7 b)⟩),
       (5, ⟨.own, .cat 1 74 (.bool (ap _ _ nuU b)) (.cat 1 73 (.int .i64 (ap _ _ nuK b)) (.cat 1 72 (.int .i64 (ap _ _ nuR b)) (.cat 16 56 (.ints .u8 16 (ap _ _ (ap _ _ (ap _ _ mixC 16) (ap _ _ xS b)) i))
          (.cat 32 24 (.ints .u8 32 (ap _ _ (ap _ _ (ap _ _ mixC 32) (ap _ _ xW b)) i)) (.ints .u8 24 (ap _ _ (ap _ _ (ap _ _ mixC 24) (ap _ _ xC b)) i))))))⟩)], []⟩)
    (fun i => i ≤ m) (fun i => m - i))]
set_option maxRecDepth 20000 in
set_option maxHeartbeats 2000000 in
theorem vc43 (args : List Arg) (out : Out) (h : (cRefD apf args).to out) (hok : okAs args) :
    args.length = ic43.nargs ∧ ic43.nargs ≤ ic43.ntmps ∧ ∃ A, run apf [(100, (fun args => cNumQ apf (args.map litA))), (101, (fun args => cIntQ apf (args.map litA))), (102, (fun args => cZerQ apf (args.map litA))), (103, (fun args => cByt apf (args.map litA))), (41, (fun args => cEnc apf (args.map litA))), (104, (fun args => cEndQ apf (args.map litA)))] A ic43.body (fnQ apf args out ic43.res) (st0 G1 true args) := by
  unfold cRefD at h
  split at h
  · rename_i n n' b
    obtain ⟨h1, h⟩ := h
    have h1 : n = n' := h1
    subst h1
    cases h
    obtain ⟨hok, _⟩ := hok
    have hl : b.length = n := hok.1
    have hb : ∀ y ∈ b, inR .u8 y := hok.2
    refine ⟨rfl, by decide, aRefD apf b (xW b).length, ?_⟩
    show run apf _ _ _ _ (st0 [(1, .ints .u32 64 kk)] _ _)
    generalize hK : kk = K
    generalize hM : (xW b).length = M
    generalize hap : apf = ap
    cbv
    repeat' first
      | exact True.intro
      | (intro (hh : _ = true); first | with_reducible exact False.elim (tf_no (Eq.trans (Eq.symm (show _ = true by assumption)) hh)) | cbv)
      | (intro (hh : _ = false); first | with_reducible exact False.elim (tf_no (Eq.trans (Eq.symm hh) (show _ = false by assumption))) | cbv)
      | (refine And.intro ?_ ?_)
      | (refine ⟨0, Nat.zero_le _, ?_⟩; cbv)
    all_goals first
      | (intro (i : Nat) hi _ _
         have hi : i ≤ M := hi
         cbv
         repeat' first
           | exact True.intro
           | (intro (hh : _ = true); first | with_reducible exact False.elim (tf_no (Eq.trans (Eq.symm (show _ = true by assumption)) hh)) | cbv)
           | (intro (hh : _ = false); first | with_reducible exact False.elim (tf_no (Eq.trans (Eq.symm hh) (show _ = false by assumption))) | cbv)
           | (refine And.intro ?_ ?_)
           | (refine ⟨i + 1, ?_, ?_, ?_⟩))
      | skip
    all_goals subst hap
    all_goals subst hM
    all_goals first
      | (refine atQ_in ?_ hl; repeat' refine atQ_in ?_ hl)
      | skip
    all_goals try simp only [apf, cmF, lt_t, lt_f, eq_t, eq_f, ne_t, ne_f, notB_t, notB_f, eqL_t, eqL_f, eqN, eqI', eqL', eqB', in18, smallK, ltN, natI, lenI, llen] at *
    all_goals first
      | with_reducible rfl
      | omega
      | exact rfl
      | (show inA 0 n; exact ⟨by decide, by omega, by omega⟩)
      | (have hne : b.length ≠ 80 := by omega
         have hd := dec_len hb hne
         first
           | exact hd.1
           | (rw [hd.2]; rfl))
      | (have hl8 : b.length = 80 := by omega
         have hw : i < (xW b).length := by omega
         obtain ⟨q1, q2, q3⟩ := loop_in hb hl8 hw
         first
           | omega
           | (show (xW b).length - (i + 1) < (xW b).length - i; omega)
           | exact (inc_i64 (by omega)).symm
           | (rw [Int.toNat_natCast]; exact mixC_next (by omega) (by omega))
           | exact mixC_stay (by omega))
      | (have hl8 : b.length = 80 := by omega
         have hi8 : i = (xW b).length := by omega
         subst hi8
         have hr := ref_dec hb hl8
         have hE : refE b = 12 := by
           rw [refE]
           simp_all [refQ]
         rw [hE] at hr
         first
           | exact hr.1
           | (rw [hr.2]; rfl))
      | (have hl8 : b.length = 80 := by omega
         have hi8 : i = (xW b).length := by omega
         subst hi8
         have hr := ref_dec hb hl8
         have hE : refE b = 0 := by
           rw [refE]
           simp_all [refQ]
         rw [hE] at hr
         first
           | exact hr.1
           | (rw [hr.2]; rfl))
      | skip
  · exact h.elim
theorem s43 : Sound Tryd.prog G1 43 (pu 43) (cRefD apf) := fn_sound rfl Tryd.call43 ok43 co43 (env_cons s100l (env_cons s101 (env_cons s102 (env_cons s103f (env_cons s41fk (env_cons s104 env_nil)))))) vc43
end Go.Cx.Rb

/- The law of slots read returns true. -/
namespace Go.Cx.Rb
open Go Go.Cx Go.Proofs

def fitM (n : Nat) : Prop := n ≤ 140737488351232
theorem dec_back {b : List Int} (hb : ∀ y ∈ b, inR .u8 y) (h : decE b = 0) : encE (decP b) = 0 ∧ encB (decP b) = b := by
  obtain ⟨e1, e2⟩ := dec_spec hb
  cases ho : okB b with
  | true =>
    rw [ho, if_pos rfl] at e2
    have hr : rightS (slotB b true) = true := by
      simp only [okB, Bool.and_eq_true, decide_eq_true_eq] at ho
      exact ho.2
    rw [e2]
    exact ⟨by rw [encE, hr]; rfl, enc_dec hb ho⟩
  | false =>
    rw [ho, if_neg (by decide)] at e2
    rw [ho, Bool.or_false, h] at e1
    cases hz : decide (b.length = 80) && allZ b with
    | false => rw [hz, if_neg (by decide)] at e1; exact absurd e1 (by decide)
    | true =>
      simp only [Bool.and_eq_true, decide_eq_true_eq] at hz
      rw [e2, allZ_zeros hz.1 hz.2]
      exact ⟨by decide +kernel, by decide +kernel⟩
def cLaw10 (ap : AP) : Ctr
  | [.v (.dsl n 1 (.ints .u8 n' _))] => .chk (ap _ _ (ap _ _ eqN n) n') <| .chk (ap _ _ fitM n) <| .ok ⟨.tt, [], []⟩
  | _ => .fail 361
set_option maxRecDepth 20000 in
set_option maxHeartbeats 2000000 in
theorem vc10 (args : List Arg) (out : Out) (h : (cLaw10 apf args).to out) (hok : okAs args) :
    args.length = ic10.nargs ∧ ic10.nargs ≤ ic10.ntmps ∧ ∃ A, run apf [(42, cDec apf), (43, cRefD apf), (37, cFixS apf), (40, (fun args => cEnc apf (args.map litA)))] A ic10.body (fnQ apf args out ic10.res) (st0 G1 true args) := by
  unfold cLaw10 at h
  split at h
  · rename_i n n' b
    obtain ⟨h1, h2, h⟩ := h
    have h1 : n = n' := h1
    subst h1
    have h2 : n ≤ 140737488351232 := h2
    cases h
    obtain ⟨hok, _⟩ := hok
    have hl : b.length = n := hok.1
    have hb : ∀ y ∈ b, inR .u8 y := hok.2
    have hd := decP_len b
    have hk := dec_back hb
    refine ⟨rfl, by decide, [], ?_⟩
    show run apf _ _ _ _ (st0 [(1, .ints .u32 64 kk)] _ _)
    generalize hK : kk = K
    generalize hap : apf = ap
    cbv
    repeat' first
      | exact True.intro
      | (intro hh; with_reducible exact False.elim (tf_no (Eq.trans (Eq.symm (show _ = true by assumption)) hh)))
      | (intro hh; with_reducible exact False.elim (tf_no (Eq.trans (Eq.symm hh) (show _ = false by assumption))))
      | (intro _; cbv)
      | (refine And.intro ?_ ?_)
    all_goals subst hap
    all_goals have hs : subL b 0 n = b := by
                rw [subL_take, List.take_of_length_le (by omega)]
    all_goals simp only [apf, cmF, ne_t, ne_f, eq_t, eq_f, notB_t, notB_f, eqL_t, eqL_f, hs] at *
    all_goals first
      | exact rfl
      | (simp only [leN, appN, addN, V.cnt] <;> omega)
      | exact slot_ok hd.1 hd.2.1 hd.2.2
      | (have hz := eqZ_refl (slotA apf (decP b))
         simp only [slotA, apf] at hz
         first
           | exact tf_no (hz.symm.trans (by assumption))
           | exact absurd rfl (by assumption)
           | exact absurd (hk (by assumption)).1 (by assumption)
           | exact eqL_t.2 (hk (by assumption)).2)
  · exact h.elim
theorem s10 : Sound Tryd.prog G1 10 (pu 10) (cLaw10 apf) := fn_sound rfl Tryd.call10 ok10 co10 (env_cons s42 (env_cons s43 (env_cons s37 (env_cons s40f env_nil)))) vc10
theorem hout10 (n : Nat) (l : List Int) (h : n ≤ 140737488351232) : (cLaw10 apf [.v (.dsl n 1 (.ints .u8 n l))]).to ⟨.tt, [], []⟩ := ⟨rfl, h, rfl⟩
end Go.Cx.Rb
