/-
  What the laws of this claim stand on, part D: proved parts, no statement of its own.
-/
import Derived.Test.YtojllgpnhaaagaaDevBC
import Derived.IntWalk
import Derived.WalkKit
import Derived.ProofKit
import Derived.OpenShut
import Derived.Deep.DeepHandedRow
import Derived.Lib.LaidTab
import Derived.ChangeMaps5
import Derived.Test.YtojllgpnhaaagaaChecked
import Derived.KernelRfl
/- CxCode -/
namespace Go.Cx
open Go
section
variable {P : Program} {G : List (Nat × V)} {pure : Nat → Bool} {X : Fix} {E : List (Nat × Ctr)}
/-- the slots and guards of all operations are in order -/
def opsOk (N : Nat) (ops : Array Oper) : Bool := ops.toList.all fun o => (match o.dst with | some d => decide (d < N) | none => true) && storeOk o && guardOk ops o
def codeOk (N : Nat) : Code → Bool
  | .region _ ops _ => opsOk N ops
  | .seq a b | .cond _ a b => codeOk N a && codeOk N b
  | .block _ c | .loop c => codeOk N c
  | _ => true
theorem opsOk_spec {ops : Array Oper} (h : opsOk X.N ops = true) : ∀ o ∈ ops.toList,OpOk X ops o := fun o ho => by
  simp only [opsOk,List.all_eq_true] at h
  have := h o ho
  simp only [Bool.and_eq_true] at this
  refine ⟨fun d hd => ?_,this.1.2,this.2⟩
  have h1 := this.1.1
  rw [hd] at h1
  simpa using h1
/-- a loop's head: a state that fits a shape may be told by it -/
def HeadOk (X : Fix) : Prop := ∀ (s : St) (L : LSt) (a : Act) (w : World),RA X s a w → ((subR apf s L).all fun _ => True) → RA X L.st a w ∧ okTs L.ts ∧ okHs L.hs
theorem toQ_then {Q : Ex → St → Prop} {K : St → Prop} {next : Act → World → Prop} {R : Exit → Act → World → Prop} (hn : ∀ s a w,K s → RA X s a w → next a w) (hq : ∀ e a w,e ≠ .normal → toQ X Q e a w → R e a w) :
    ∀ e a w,toQ X (fun e s => match e with | .nrm => K s | .ret => Q .ret s | .exit i => Q (.exit i) s) e a w → Exit.then next R e a w := by
  intro e a w h
  cases e with
  | normal => obtain ⟨s,h1,h2⟩ := h; exact hn s a w h1 h2
  | ret => exact hq .ret a w (by simp) h
  | exit i => exact hq (.exit i) a w (by simp) h
  | goto l => exact h.elim
  | panic c => exact h.elim
  | outgrown => exact h.elim
theorem code_sound (hm : P.follows .mixedOrders = true) (hG : GOk G X) (hE : EnvSound P G pure E) (hH : HeadOk X) (keep : List Nat) : ∀ (c : Code) (A : List (Nat × Ann)) (n : Nat) (Q : Ex → St → Prop) (s : St) (a : Act) (w : World),codeOk X.N c = true →
    RA X s a w → run apf E A (compCode P pure keep c n).1 Q s → c.wp P (toQ X Q) a w := by
  intro c
  induction c with
  | skip => intro A n Q s a w _ hRA h; exact wp_skip ⟨s,h,hRA⟩
  | label l => intro A n Q s a w _ hRA h; exact wp_label ⟨s,h,hRA⟩
  | ret => intro A n Q s a w _ hRA h; exact wp_ret ⟨s,h,hRA⟩
  | exit i => intro A n Q s a w _ hRA h; exact wp_exit ⟨s,h,hRA⟩
  | seq x y ihx ihy =>
    intro A n Q s a w hok hRA h
    simp only [codeOk,Bool.and_eq_true] at hok
    simp only [compCode] at h
    refine wp_seq (Code.wp_mono (fun e a w => toQ_then (fun s a w hk hr => ihy A _ Q s a w hok.2 hr hk) (fun _ _ _ _ h => h) e a w) (ihx A n _ s a w hok.1 hRA h))
  | cond x c d ihc ihd =>
    intro A n Q s a w hok hRA h
    simp only [codeOk,Bool.and_eq_true] at hok
    simp only [compCode] at h
    cases hx : opIX x with
    | none => simp only [hx] at h; exact h.elim
    | some ix =>
      simp only [hx,run] at h
      obtain ⟨⟨I,ρ,ow,hr⟩,hdf⟩ := id hRA
      have hv := ev_rep hr hx
      split at h
      · rename_i e1
        rw [e1] at hv
        exact wp_cond_true (vr_tt hv) (ihc A _ Q s a w hok.1 hRA h)
      · rename_i e1
        rw [e1] at hv
        exact wp_cond_false (vr_ff hv) (ihd A _ Q s a w hok.2 hRA h)
      · rename_i b e1
        rw [e1] at hv
        exact wp_cond_split (vr_bool hv) (fun hb => ihc A _ Q s a w hok.1 hRA (h.1 hb)) (fun hb => ihd A _ Q s a w hok.2 hRA (h.2 hb))
      · exact h.elim
  | block i c ih =>
    intro A n Q s a w hok hRA h
    simp only [compCode,run] at h
    refine wp_block (Code.wp_mono (fun e a w hq => ?_) (ih A n _ s a w hok hRA h))
    cases e with
    | exit j =>
      obtain ⟨s',h1,h2⟩ := hq
      simp only [Exit.inBlock]
      simp only at h1
      split at h1
      · rename_i e1
        rw [if_pos e1]; exact ⟨s',h1,h2⟩
      · rename_i e1
        rw [if_neg e1]; exact ⟨s',h1,h2⟩
    | normal => exact hq
    | ret => exact hq
    | goto l => exact hq
    | panic c => exact hq
    | outgrown => exact hq
  | loop c ih =>
    intro A n Q s a w hok hRA h
    simp only [compCode,run] at h
    split at h
    · rename_i S fam p mu hA
      obtain ⟨⟨x,hpx,hsub⟩,hround⟩ := h
      have key : ∀ (k : Nat) (x : S),p x → mu x < k → ∀ s a w,RA X s a w → ((subR apf s (fam x)).all fun _ => True) → Code.rounds P c (toQ X Q) k a w := by
        intro k
        induction k with
        | zero => intro x _ h; omega
        | succ k ihk =>
          intro x hp hk s a w hRA hs
          obtain ⟨h1,h2,h3⟩ := hH s (fam x) a w hRA hs
          refine Code.wp_mono (fun e a w => toQ_then (Q := Q) (K := fun s' => ∃ y,p y ∧ mu y < mu x ∧ (subR apf s' (fam y)).all fun _ => True) (fun s a w hk2 hr => ?_) (fun _ _ _ _ h => h) e a w) (ih A (n + 1) _ _ a w hok h1 (hround x hp h2 h3))
          obtain ⟨y,hy1,hy2,hy3⟩ := hk2
          exact ihk y hy1 (by omega) s a w hr hy3
      exact wp_loop_rounds (mu x + 1) (key _ x hpx (by omega) s a w hRA hsub)
    · rename_i S fam p mu sub hA
      obtain ⟨⟨x,hpx,hsub⟩,hround⟩ := h
      have key : ∀ (k : Nat) (x : S),p x → mu x < k → ∀ s a w,RA X s a w → ((subR apf s (fam x)).all fun _ => True) → Code.rounds P c (toQ X Q) k a w := by
        intro k
        induction k with
        | zero => intro x _ h; omega
        | succ k ihk =>
          intro x hp hk s a w hRA hs
          obtain ⟨h1,h2,h3⟩ := hH s (fam x) a w hRA hs
          refine Code.wp_mono (fun e a w => toQ_then (Q := Q) (K := fun s' => ∃ y,p y ∧ mu y < mu x ∧ (subR apf s' (fam y)).all fun _ => True) (fun s a w hk2 hr => ?_) (fun _ _ _ _ h => h) e a w) (ih (sub x) (n + 1) _ _ a w hok h1 (hround x hp h2 h3))
          obtain ⟨y,hy1,hy2,hy3⟩ := hk2
          exact ihk y hy1 (by omega) s a w hr hy3
      exact wp_loop_rounds (mu x + 1) (key _ x hpx (by omega) s a w hRA hsub)
    · rename_i k hA
      have key : ∀ (k : Nat) s a w,RA X s a w → unroll (fun s Q => run apf E A (compCode P pure keep c (n + 1)).1 Q s) Q k s → Code.rounds P c (toQ X Q) k a w := by
        intro k
        induction k with
        | zero => intro s a w _ h; exact h.elim
        | succ k ihk =>
          intro s a w hRA h
          exact Code.wp_mono (fun e a w => toQ_then (fun s a w hk2 hr => ihk s a w hr hk2) (fun _ _ _ _ h => h) e a w) (ih A (n + 1) _ _ a w hok hRA h)
      exact wp_loop_rounds k (key k s a w hRA h)
    · exact h.elim
  | region id ops draw =>
    intro A n Q s a w hok hRA h
    simp only [compCode] at h
    have hops := opsOk_spec hok
    split at h
    · exact h.elim
    · cases draw with
      | false =>
        simp only [Bool.false_eq_true,if_false] at h
        exact reg_sound hG hE hops hRA h
      | true =>
        simp only [if_true] at h
        split at h
        · rename_i hck
          simp only [Bool.and_eq_true] at hck
          exact dreg_sound hm hG hE hops hck.1 hck.2 hRA h
        · exact h.elim
  | _ => intro A n Q s a w _ hRA h; exact h.elim
end
end Go.Cx
/- CxMt -/
namespace Go.Cx
open Go
theorem nV_size (v : V) : (nV v).size = v.size := by
  induction v with
  | one a ih => exact ih
  | _ => rfl
theorem nV_agg (v : V) : (nV v).isAgg = v.isAgg := by cases v <;> rfl
theorem nV_rep {I : Nat → Prop} {w : World} {ow : Own} (v : V) : ∀ {ρ : Rho} {q : List Nat} {pos : Nat} {g : Nat → Option Value}, CRep I w ow v ρ q pos g → CRep I w ow (nV v) ρ q pos g := by
  induction v with
  | cat n m a b iha ihb => intro ρ q pos g h; exact ⟨(nV_size a).trans h.1, (nV_size b).trans h.2.1, iha h.2.2.1, ihb h.2.2.2⟩
  | one a ih => intro ρ q pos g h; exact ⟨(nV_agg a).trans h.1, ih h.2⟩
  | rows e n f ih => intro ρ q pos g h j hj; exact ⟨(nV_size _).trans (h j hj).1, ih j (h j hj).2⟩
  | _ => intro ρ q pos g h; exact h
theorem nV_back {I : Nat → Prop} {w : World} {ow : Own} (v : V) : ∀ {ρ : Rho} {q : List Nat} {pos : Nat} {g : Nat → Option Value}, CRep I w ow (nV v) ρ q pos g → CRep I w ow v ρ q pos g := by
  induction v with
  | cat n m a b iha ihb => intro ρ q pos g h; exact ⟨(nV_size a).symm.trans h.1, (nV_size b).symm.trans h.2.1, iha h.2.2.1, ihb h.2.2.2⟩
  | one a ih => intro ρ q pos g h; exact ⟨(nV_agg a).symm.trans h.1, ih h.2⟩
  | rows e n f ih => intro ρ q pos g h j hj; exact ⟨(nV_size _).symm.trans (h j hj).1, ih j (h j hj).2⟩
  | _ => intro ρ q pos g h; exact h
theorem hAll_true : ∀ (c : V), c.hAll (fun _ => true) = true := by
  intro c
  induction c with
  | cat n m a b iha ihb => simp [V.hAll, iha, ihb]
  | tcons a b iha ihb => simp [V.hAll, iha, ihb]
  | one a ih => simpa [V.hAll] using ih
  | _ => rfl
theorem ptR_eq : ∀ {p q : List Pt} {u : Unit}, (ptR apf p q).to u → p = q := by
  intro p
  induction p with
  | nil => intro q u h; cases q with | nil => rfl | cons _ _ => exact h.elim
  | cons x p ih =>
    intro q u h
    cases q with
    | nil => cases x <;> exact h.elim
    | cons y q =>
      cases x <;> cases y <;> simp only [ptR] at h <;> first | exact h.elim | skip
      · obtain ⟨h1, h2⟩ := rif_to h
        simp only [Bool.and_eq_true, beq_iff_eq] at h1
        obtain ⟨rfl, rfl⟩ := h1
        rw [ih h2]
      · obtain ⟨h1, h2, h3⟩ := rif_to h
        simp only [beq_iff_eq] at h1
        subst h1
        have h2 : _ = _ := h2
        rw [ih h3, h2]
section
variable {I : Nat → Prop} {w : World} {r : List (Nat × Nat)} {h : Nat → Option Blk}
theorem mtC_size : ∀ (c c' : V) {x : List Nat}, (mtC apf r h c c').to x → c.size = c'.size ∧ (c ≠ .any → c.isAgg = c'.isAgg) := by
  intro c
  induction c with
  | any =>
    intro c' x hm
    obtain ⟨h1, _⟩ := rif_to (show (rif (c'.size == 1 && !c'.isTup) 101 (.ok [])).to x by cases c' <;> exact hm)
    simp only [Bool.and_eq_true, beq_iff_eq] at h1
    exact ⟨h1.1.symm, fun e => absurd rfl e⟩
  | one a ih =>
    intro c' x hm
    cases c' <;> first | exact hm.elim | skip
    rename_i b
    exact ⟨(ih b hm).1, fun _ => rfl⟩
  | ints k n l =>
    intro c' x hm
    cases c' <;> first | exact hm.elim | skip
    obtain ⟨_, h2, _⟩ := rif_to hm
    have h2 : _ = _ := h2
    exact ⟨h2, fun _ => rfl⟩
  | rows e n f =>
    intro c' x hm
    cases c' <;> first | exact hm.elim | skip
    obtain ⟨h1, h2, _⟩ := rif_to hm
    simp only [beq_iff_eq] at h1
    have h2 : _ = _ := h2
    exact ⟨by simp only [V.size]; rw [h1, h2], fun _ => rfl⟩
  | cat n m a b iha ihb =>
    intro c' x hm
    cases c' <;> first | exact hm.elim | skip
    obtain ⟨h1, _⟩ := rif_to hm
    simp only [Bool.and_eq_true, beq_iff_eq] at h1
    exact ⟨by simp only [V.size]; rw [h1.1, h1.2], fun _ => rfl⟩
  | _ => intro c' x hm; cases c' <;> first | exact hm.elim | exact ⟨rfl, fun _ => rfl⟩
theorem nilR_spec {n e : Nat} {c : V} {x : List Nat} (hm : (nilR apf n e c).to x) : n = 0 ∧ isRow e 0 c ∧ ∀ (I : Nat → Prop) (w : World) (ow : Own), CRep I w ow c noR [] 0 (fun _ => none) := by
  cases c <;> first | exact hm.elim | skip
  · obtain ⟨h1, h2, h3, h4, _⟩ := rif_to hm
    simp only [beq_iff_eq] at h1
    have h2 : n = 0 := h2
    have h3 : _ = 0 := h3
    have h4 : _ = [] := h4
    exact ⟨h2, ⟨h3, h1⟩, fun _ _ _ => ⟨by rw [h4, h3]; rfl, by rw [h4]; simp, fun j hj => by omega⟩⟩
  · obtain ⟨h1, h2, h3, _⟩ := rif_to hm
    simp only [beq_iff_eq] at h1
    have h2 : n = 0 := h2
    have h3 : _ = 0 := h3
    exact ⟨h2, ⟨h3, h1.symm⟩, fun _ _ _ j hj => by omega⟩
theorem row_noown {c : V} (h : c.isRowB = true) : c.noown = true := by cases c <;> first | rfl | cases h
theorem mtC_row {c c' : V} {x : List Nat} {e n : Nat} (hb : c.isRowB = true) (hm : (mtC apf r h c c').to x) (hr : isRow e n c') : isRow e n c := by
  cases c <;> first | cases hb | skip
  · cases c' <;> first | exact hm.elim | skip
    obtain ⟨_, h2, _⟩ := rif_to hm
    have h2 : _ = _ := h2
    rw [isRow, h2]; exact hr
  · cases c' <;> first | exact hm.elim | skip
    obtain ⟨h1, h2, _⟩ := rif_to hm
    simp only [beq_iff_eq] at h1
    have h2 : _ = _ := h2
    rw [isRow, h1, h2]; exact hr
variable {ow ow' : Own} {ρ ρ' : Rho}
/-- Content that matches a shape is told by the shape, nothing given away. -/
theorem mtC_rep : ∀ (c c' : V) {has : Nat → Bool} {ρ ρ' : Rho} {q q' : List Nat} {pos : Nat} {g : Nat → Option Value}, (mtC apf r h c c').to [] → c.hAll has = true → (∀ a l, has a = true → ρ (lkN r a) = some l → ρ' a = some l) →
    (q ≠ [] → q' ≠ [] ∧ ∀ b rr, rr ≠ [] → ow b = some (q ++ rr) → ow' b = some (q' ++ rr)) → (q' ≠ [] ∨ c.noown = true) → CRep I w ow c' ρ q pos g → CRep I w ow' c ρ' q' pos g := by
  intro c
  induction c with
  | any =>
    intro c' has ρ ρ' q q' pos g hm _ _ _ _ hc
    obtain ⟨h1, _⟩ := rif_to (show (rif (c'.size == 1 && !c'.isTup) 101 (.ok [])).to [] by cases c' <;> exact hm)
    simp only [Bool.and_eq_true, beq_iff_eq] at h1
    obtain ⟨y, h2, h3⟩ := CRep.cells c' _ _ _ _ hc 0 (by omega)
    exact ⟨y, h2, h3⟩
  | ptr a p =>
    intro c' has ρ ρ' q q' pos g hm ha hρ _ _ hc
    cases c' <;> first | exact hm.elim | skip
    obtain ⟨h1, hm⟩ := rif_to hm
    simp only [beq_iff_eq] at h1
    obtain ⟨u, h2, _⟩ := bind_to hm
    have h3 := ptR_eq h2
    subst h3
    obtain ⟨b, off, sz, h4, h5⟩ := hc
    exact ⟨b, off, sz, hρ _ _ ha (by rw [h1]; exact h4), h5⟩
  | cat n m a b iha ihb =>
    intro c' has ρ ρ' q q' pos g hm ha hρ ho hq hc
    cases c' <;> first | exact hm.elim | skip
    obtain ⟨h1, hm1⟩ := rif_to hm
    clear hm
    obtain ⟨x, h2, hm2⟩ := bind_to hm1
    obtain ⟨y, h3, h4⟩ := bind_to hm2
    clear hm1 hm2
    simp only [Bool.and_eq_true, beq_iff_eq] at h1
    obtain ⟨rfl, rfl⟩ := h1
    have h4 : x ++ y = [] := h4
    obtain ⟨rfl, rfl⟩ := List.append_eq_nil_iff.1 h4
    simp only [V.hAll, Bool.and_eq_true] at ha
    simp only [V.noown, Bool.and_eq_true] at hq
    obtain ⟨g1, g2, g3, g4⟩ := hc
    exact ⟨(mtC_size a _ h2).1.trans g1, (mtC_size b _ h3).1.trans g2, iha _ h2 ha.1 hρ ho (hq.imp id (·.1)) g3, ihb _ h3 ha.2 hρ ho (hq.imp id (·.2)) g4⟩
  | one a ih =>
    intro c' has ρ ρ' q q' pos g hm ha hρ ho hq hc
    cases c' <;> first | exact hm.elim | skip
    rename_i b
    have hs := mtC_size a b hm
    obtain ⟨g1, g2⟩ := hc
    refine ⟨?_, ih b hm ha hρ ho hq g2⟩
    by_cases e : a = .any
    · rw [e]; rfl
    · exact (hs.2 e).trans g1
  | sl a p i n e cap =>
    intro c' has ρ ρ' q q' pos g hm ha hρ ho hq hc
    cases c' <;> first | exact hm.elim | skip
    rename_i b' p' i' n' e' cap'
    obtain ⟨h1, hm1⟩ := rif_to hm
    clear hm
    obtain ⟨u, h2, h3, h4, h5⟩ := bind_to hm1
    clear hm1
    simp only [Bool.and_eq_true, beq_iff_eq] at h1
    obtain ⟨e1, rfl⟩ := h1
    have h6 := ptR_eq h2
    subst h6
    have h3 : i = i' := h3
    have h4 : n = n' := h4
    subst h3 h4
    obtain ⟨ad, c, l, k1, k2, k3, k4, k5, k6⟩ := hc
    refine ⟨ad, c, l, k1, hρ _ _ ha (by rw [e1]; exact k2), k3, k4, ?_, k6⟩
    cases cap with
    | none => trivial
    | some c1 =>
      cases cap' with
      | none => exact h5.elim
      | some c2 =>
        have h7 : c1 = c2 := h5.1
        rw [h7]; exact k5
  | dsl n e c ih =>
    intro c' has ρ ρ' q q' pos g hm ha hρ ho hq hc
    cases c' <;> first | exact hm.elim | skip
    case nsl =>
      obtain ⟨rfl, h1, h2⟩ := nilR_spec (show (nilR apf n e c).to [] from hm)
      exact ⟨none, 0, hc, by omega, by simp, h1, h2 _ _ _, .inl rfl⟩
    case zsl =>
      obtain ⟨rfl, h1, h2⟩ := nilR_spec (show (nilR apf n e c).to [] from hm)
      obtain ⟨ad, hc⟩ := hc
      refine ⟨ad, 0, hc, by omega, by simp, h1, ?_, .inl rfl⟩
      exact CRep.mono (ow := fun _ => none) (fun b hb => ⟨hb, rfl⟩) _ _ _ _ _ _ _ (Rho.le_refl _) (fun h => absurd rfl h) (fun j hj => by rw [isRow_size h1] at hj; omega) (h2 _ _ _)
    rename_i n' e' c'
    obtain ⟨h1, h2, h3⟩ := rif_to hm
    clear hm
    simp only [Bool.and_eq_true, beq_iff_eq] at h1
    obtain ⟨rfl, hrb⟩ := h1
    have h2 : n = n' := h2
    subst h2
    obtain ⟨ad, cp, k1, k2, k3, k4, k5, k6⟩ := hc
    exact ⟨ad, cp, k1, k2, k3, mtC_row hrb h3 k4, ih c' h3 (hAll_true c) (fun a l _ e => by cases e) (fun e => absurd rfl e) (.inr (row_noown hrb)) k5, k6⟩
  | ints k n l =>
    intro c' has ρ ρ' q q' pos g hm ha hρ ho hq hc
    cases c' <;> first | exact hm.elim | skip
    rename_i k' n' l'
    obtain ⟨h1, h2, h3, _⟩ := rif_to hm
    simp only [beq_iff_eq] at h1
    have h2 : n = n' := h2
    have h3 : l = l' := h3
    subst h1 h2 h3
    exact hc
  | rows e n f =>
    intro c' has ρ ρ' q q' pos g hm ha hρ ho hq hc
    cases c' <;> first | exact hm.elim | skip
    rename_i e' n' f'
    obtain ⟨h1, h2, h3, _⟩ := rif_to hm
    simp only [beq_iff_eq] at h1
    have h2 : n = n' := h2
    have h3 : ∀ j, j < n → nV (f j) = nV (f' j) := h3
    subst h1 h2
    intro j hj
    refine ⟨?_, nV_back _ ?_⟩
    · rw [← nV_size, h3 j hj, nV_size]
      exact (hc j hj).1
    · rw [h3 j hj]
      exact nV_rep _ (hc j hj).2.noow
  | osl n e c ih =>
    intro c' has ρ ρ' q q' pos g hm ha hρ ho hq hc
    have hq' : q' ≠ [] := hq.resolve_right (by simp [V.noown])
    cases c' with
    | osl n' e' c' =>
      obtain ⟨h1, h2, h3⟩ := rif_to hm
      clear hm
      simp only [Bool.and_eq_true, beq_iff_eq] at h1
      obtain ⟨rfl, hrb⟩ := h1
      have h2 : n = n' := h2
      subst h2
      obtain ⟨k0, ad, cp, k1, k2, k3, k4, k5⟩ := hc
      obtain ⟨_, ho2⟩ := ho k0
      refine ⟨hq', ad, cp, k1, k2, k3, mtC_row hrb h3 k4, ?_⟩
      rcases k5 with ⟨k5, k6⟩ | ⟨b, off, cur, k5, k6, k7, k8, k9⟩
      · exact .inl ⟨k5, ih c' h3 (hAll_true c) (fun a l _ e => by cases e) (fun e => absurd rfl e) (.inr (row_noown hrb)) k6⟩
      · refine .inr ⟨b, off, cur, k5, ho2 b _ (by simp) k6, k7, k8, ih c' h3 (hAll_true c) (fun a l _ e => by cases e) (fun _ => ⟨by simp, fun b' rr hr hb => ?_⟩) (.inr (row_noown hrb)) k9⟩
        have := ho2 b' ([pos] ++ rr) (by simp) (by simpa using hb)
        simpa using this
    | nsl =>
      obtain ⟨rfl, h1, h2⟩ := nilR_spec (show (nilR apf n e c).to [] from hm)
      exact ⟨hq', none, 0, hc, by omega, by simp, h1, .inl ⟨rfl, h2 _ _ _⟩⟩
    | zsl =>
      obtain ⟨rfl, h1, h2⟩ := nilR_spec (show (nilR apf n e c).to [] from hm)
      obtain ⟨ad, hc⟩ := hc
      exact ⟨hq', ad, 0, hc, by omega, by simp, h1, .inl ⟨rfl, h2 _ _ _⟩⟩
    | sl b' p' i' n' e' cap' =>
      exfalso
      simp only [mtC] at hm
      split at hm
      · obtain ⟨_, _, hm1⟩ := rif_to hm
        obtain ⟨c2, _, _, hm2⟩ := bind_to hm1
        obtain ⟨x, _, hm3⟩ := bind_to hm2
        have hm3 : _ :: x = [] := hm3
        cases hm3
      · exact hm.elim
    | _ => exact hm.elim
  | optr c ih =>
    intro c' has ρ ρ' q q' pos g hm ha hρ ho hq hc
    have hq' : q' ≠ [] := hq.resolve_right (by simp [V.noown])
    cases c' with
    | optr c' =>
      obtain ⟨k0, b, off, cur, k1, k2, k3, k5, k4⟩ := hc
      obtain ⟨_, ho2⟩ := ho k0
      refine ⟨hq', b, off, cur, k1, ho2 b _ (by simp) k2, k3, k5, ih c' hm (hAll_true c) (fun a l _ e => by cases e) (fun _ => ⟨by simp, fun b' rr hr hb => ?_⟩) (.inl (by simp)) k4⟩
      have := ho2 b' ([pos] ++ rr) (by simp) (by simpa using hb)
      simpa using this
    | ptr b p =>
      exfalso
      cases p with
      | cons _ _ => exact hm.elim
      | nil =>
        simp only [mtC] at hm
        split at hm
        · obtain ⟨x, _, hm3⟩ := bind_to hm
          have hm3 : _ :: x = [] := hm3
          cases hm3
        · exact hm.elim
    | _ => exact hm.elim
  | tcons a b _ _ => intro c' has ρ ρ' q q' pos g hm ha hρ ho hq hc; cases c' <;> first | exact hm.elim | exact hc.elim
  | tt =>
    intro c' has ρ ρ' q q' pos g hm ha hρ ho hq hc
    cases c' <;> first | exact hm.elim | exact hc | skip
    have h1 : _ = true := hm.1
    subst h1; exact hc
  | ff =>
    intro c' has ρ ρ' q q' pos g hm ha hρ ho hq hc
    cases c' <;> first | exact hm.elim | exact hc | skip
    have h1 : _ = false := hm.1
    subst h1; exact hc
  | bool b =>
    intro c' has ρ ρ' q q' pos g hm ha hρ ho hq hc
    cases c' <;> first | exact hm.elim | skip
    · have h1 : b = true := hm.1
      subst h1; exact hc
    · have h1 : b = false := hm.1
      subst h1; exact hc
    · have h1 : b = _ := hm.1
      subst h1; exact hc
  | lit k n =>
    intro c' has ρ ρ' q q' pos g hm ha hρ ho hq hc
    cases c' <;> first | exact hm.elim | skip
    all_goals
      obtain ⟨h1, h2, _⟩ := rif_to hm
      simp only [beq_iff_eq] at h1
      have h2 : n = _ := h2
      rw [h1, h2]; exact hc
  | int k n =>
    intro c' has ρ ρ' q q' pos g hm ha hρ ho hq hc
    cases c' <;> first | exact hm.elim | skip
    all_goals
      obtain ⟨h1, h2, _⟩ := rif_to hm
      simp only [beq_iff_eq] at h1
      have h2 : n = _ := h2
      rw [h1, h2]; exact hc
  | str l =>
    intro c' has ρ ρ' q q' pos g hm ha hρ ho hq hc
    cases c' <;> first | exact hm.elim | skip
    have h2 : l = _ := hm.1
    rw [h2]; exact hc
  | zsl =>
    intro c' has ρ ρ' q q' pos g hm ha hρ ho hq hc
    cases c' <;> first | exact hm.elim | exact hc | skip
    exact ⟨none, hc⟩
  | _ =>
    intro c' has ρ ρ' q q' pos g hm ha hρ ho hq hc
    cases c' <;> first | exact hm.elim | exact hc
end
end Go.Cx
/- CxHead -/
namespace Go.Cx
open Go
theorem CRep.phq {I : Nat → Prop} {w : World} {ow : Own} (c : V) : ∀ (ρ : Rho) (q q' : List Nat) (pos pos' : Nat), CRep I w ow c ρ q pos (fun _ => none) → CRep I w ow c ρ q' pos' (fun _ => none) := by
  induction c with
  | cat n m a b iha ihb => intro ρ q q' pos pos' h; exact ⟨h.1, h.2.1, iha _ _ _ _ _ h.2.2.1, ihb _ _ _ _ _ h.2.2.2⟩
  | one a ih => intro ρ q q' pos pos' h; exact ⟨h.1, ih _ _ _ _ _ h.2⟩
  | osl n e c _ => intro ρ q q' pos pos' h; obtain ⟨_, a, cp, h1, _⟩ := h; cases h1
  | optr c _ => intro ρ q q' pos pos' h; obtain ⟨_, b, off, cur, h1, _⟩ := h; cases h1
  | _ => intro ρ q q' pos pos' h; exact h
theorem look_mem {α : Type} {l : List (Nat × α)} {k : Nat} {v : α} (h : look l k = some v) : (k, v) ∈ l := by
  induction l with
  | nil => cases h
  | cons p l ih =>
    obtain ⟨k', v'⟩ := p
    simp only [look] at h
    split at h
    · rename_i e
      cases h
      subst e
      simp
    · simp [ih h]
theorem look_of {α : Type} {l : List (Nat × α)} {k : Nat} {v : α} (hn : (l.map (·.1)).Nodup) (h : (k, v) ∈ l) : look l k = some v := by
  induction l with
  | nil => simp at h
  | cons p l ih =>
    obtain ⟨k', v'⟩ := p
    simp only [List.map_cons, List.nodup_cons] at hn
    simp only [look]
    rcases List.mem_cons.1 h with h | h
    · cases h; rw [if_pos rfl]
    · rw [if_neg (fun e => hn.1 (List.mem_map.2 ⟨_, h, e⟩)), ih hn.2 h]
theorem look_some {α : Type} {l : List (Nat × α)} {k : Nat} (h : k ∈ l.map (·.1)) : ∃ v, look l k = some v := by
  induction l with
  | nil => simp at h
  | cons p l ih =>
    obtain ⟨k', v'⟩ := p
    simp only [look]
    by_cases e : k = k'
    · exact ⟨v', by rw [if_pos e]⟩
    · rw [if_neg e]
      exact ih (by simpa [e] using h)
theorem lkT_mem {l : List (Nat × V)} {i : Nat} : lkT l i = .any ∨ (i, lkT l i) ∈ l := by
  induction l with
  | nil => exact .inl rfl
  | cons p l ih =>
    obtain ⟨k, v⟩ := p
    simp only [lkT]
    by_cases e : i = k
    · rw [if_pos e, e]; exact .inr (by simp)
    · rw [if_neg e]
      exact ih.imp id (fun h => by simp [h])
section
variable {I : Nat → Prop} {w : World} {ρ ρ' : Rho} {r : List (Nat × Nat)} {h : Nat → Option Blk} {has : Nat → Bool}
theorem mtV0 (hρ : ∀ a l, has a = true → ρ (lkN r a) = some l → ρ' a = some l) {v c' : V} {x : Value} (hm : (mtC apf r h v c').to []) (hn : v.noown = true) (ha : v.hAll has = true) (hv : VRep0 I w ρ c' x) : VRep0 I w ρ' v x := by
  by_cases e : v = .any
  · exact .inl e
  · rcases hv with rfl | ⟨h1, h2, h3⟩
    · cases v <;> first | exact absurd rfl e | exact hm.elim
    · obtain ⟨g1, g2⟩ := mtC_size v c' hm
      exact .inr ⟨by rw [h1, g1], by rw [h2, g2 e], mtC_rep (ow := fun _ => none) v c' hm ha hρ (fun e => absurd rfl e) (.inr hn) h3⟩
theorem mtT (hρ : ∀ a l, has a = true → ρ (lkN r a) = some l → ρ' a = some l) : ∀ {v c' : V} {l : List Value}, (mtC apf r h v c').to [] → v.noown = true → v.hAll has = true → TRep I w ρ c' l → TRep I w ρ' v l := by
  intro v
  induction v with
  | tnil => intro c' l hm _ _ hv; cases c' <;> first | exact hm.elim | exact hv
  | tcons a b _ ihb =>
    intro c' l hm hn ha hv
    cases c' <;> first | exact hm.elim | skip
    rename_i a' b'
    obtain ⟨x, h2, hm2⟩ := bind_to hm
    obtain ⟨y, h3, h4⟩ := bind_to hm2
    have h4 : x ++ y = [] := h4
    obtain ⟨rfl, rfl⟩ := List.append_eq_nil_iff.1 h4
    simp only [V.hAll, Bool.and_eq_true] at ha
    simp only [V.noown, Bool.and_eq_true] at hn
    obtain ⟨u, r', g1, g2, g3⟩ := hv
    exact ⟨u, r', g1, mtV0 hρ h2 hn.1 ha.1 g2, ihb h3 hn.2 ha.2 g3⟩
  | any =>
    intro c' l hm _ _ hv
    obtain ⟨h1, _⟩ := rif_to (show (rif (c'.size == 1 && !c'.isTup) 101 (.ok [])).to [] by cases c' <;> exact hm)
    cases c' <;> first | exact hv.elim | simp [V.isTup] at h1
  | _ => intro c' l hm _ _ hv; cases c' <;> first | exact hm.elim | exact hv.elim
theorem mtV (hρ : ∀ a l, has a = true → ρ (lkN r a) = some l → ρ' a = some l) {v c' : V} {x : Value} (hm : (mtC apf r h v c').to []) (hn : v.noown = true) (ha : v.hAll has = true) (hv : VRep I w ρ c' x) : VRep I w ρ' v x := by
  by_cases e : v = .any
  · rw [e]; exact VRep.any _ _ _ _
  · cases c' with
    | tnil => cases v <;> first | exact hm.elim | exact absurd rfl e | exact hv
    | tcons a b =>
      obtain ⟨l, h1, h2⟩ := hv
      have := mtT hρ hm hn ha h2
      cases v <;> first | exact hm.elim | exact absurd rfl e | skip
      exact ⟨l, h1, this⟩
    | _ => exact VRep0.up (mtV0 hρ hm hn ha hv)
end
section
variable {X : Fix} {I : Nat → Prop} {ρ : Rho} {ow : Own} {s : St} {tm : Array Value} {w : World}
theorem subT_spec {L : LSt} : ∀ {l : List (Nat × V)} {u : Unit}, (subT apf L s l).to u → ∀ p ∈ l, (mtC apf L.ren s.h p.2 (s.t p.1)).to [] ∧ p.2.noown = true ∧ p.2.hAll L.has = true := by
  intro l
  induction l with
  | nil => intro u _ p hp; simp at hp
  | cons q l ih =>
    intro u hu p hp
    obtain ⟨i, v⟩ := q
    obtain ⟨x, h1, h2⟩ := bind_to hu
    obtain ⟨h3, h4⟩ := rif_to h2
    simp only [Bool.and_eq_true, List.isEmpty_iff] at h3
    obtain ⟨⟨rfl, h5⟩, h6⟩ := h3
    rcases List.mem_cons.1 hp with rfl | hp
    · exact ⟨h1, h5, h6⟩
    · exact ih h4 p hp
theorem subH_spec {L : LSt} : ∀ {l : List (Nat × Blk)} {u : Unit}, (subH apf L s l).to u → ∀ p ∈ l, ∃ b', s.h (lkN L.ren p.1) = some b' ∧ kindOk p.2.k b'.k = true ∧ (p.2.k.isOwn = true ∨ p.2.c.noown = true) ∧
    (if p.2.k.isImm then p.2.c.clo = true else p.2.c.hAll L.has = true) ∧ (mtC apf L.ren s.h p.2.c b'.c).to [] := by
  intro l
  induction l with
  | nil => intro u _ p hp; simp at hp
  | cons q l ih =>
    intro u hu p hp
    obtain ⟨i, b⟩ := q
    simp only [subH] at hu
    split at hu
    · rename_i b' hb'
      obtain ⟨h1, h2⟩ := rif_to hu
      obtain ⟨x, h3, h4⟩ := bind_to h2
      obtain ⟨h5, h6⟩ := rif_to h4
      simp only [List.isEmpty_iff] at h5
      subst h5
      simp only [Bool.and_eq_true, Bool.or_eq_true] at h1
      rcases List.mem_cons.1 hp with rfl | hp
      · refine ⟨b', hb', h1.1.1, h1.1.2, ?_, h3⟩
        have := h1.2
        split at this
        · rename_i e; rw [if_pos e]; exact this
        · rename_i e; rw [if_neg e]; exact this
      · exact ih h6 p hp
    · exact hu.elim
def headRho (ρ : Rho) (L : LSt) : Rho := fun k => if 100000 ≤ k then ρ k else if (L.hs.any fun p => p.1 == k) then ρ (lkN L.ren k) else none
open Classical in
noncomputable def headOw (ow : Own) (L : LSt) : Own := fun b => match ow b with
  | some (y :: r) => if h : ∃ k, k ∈ L.hs.map (·.1) ∧ lkN L.ren k = y then some (h.choose :: r) else none
  | _ => none
theorem map_nodup_inj {f : Nat → Nat} : ∀ {l : List (Nat × Blk)}, (l.map fun p => f p.1).Nodup → ∀ {a b : Nat}, a ∈ l.map (·.1) → b ∈ l.map (·.1) → f a = f b → a = b := by
  intro l
  induction l with
  | nil => intro _ a b ha; simp at ha
  | cons p l ih =>
    intro hn a b ha hb e
    simp only [List.map_cons, List.nodup_cons] at hn
    simp only [List.map_cons, List.mem_cons] at ha hb
    have mem : ∀ {c : Nat}, c ∈ l.map (·.1) → f c ∈ l.map (fun p => f p.1) := fun {c} hc => by
      obtain ⟨q, hq, e⟩ := List.mem_map.1 hc
      exact List.mem_map.2 ⟨q, hq, by rw [← e]⟩
    rcases ha with rfl | ha <;> rcases hb with rfl | hb
    · rfl
    · exact absurd (e ▸ mem hb) hn.1
    · exact absurd (e ▸ mem ha) hn.1
    · exact ih hn.2 ha hb e
/-- a state told by a loop's head -/
theorem Rep.head (h : Rep X I ρ ow s tm w) (hr0 : ∀ k l, X.r0 k = some l → 100000 ≤ k) {L : LSt} {u : Unit} (hs : (subR apf s L).to u) : Rep X I (headRho ρ L) (headOw ow L) L.st tm w := by
  obtain ⟨h1, hs⟩ := rif_to hs
  obtain ⟨u', hT, hH⟩ := bind_to hs
  simp only [Bool.and_eq_true, List.all_eq_true, decide_eq_true_eq] at h1
  obtain ⟨⟨n1, n2⟩, n3⟩ := h1
  have n1 := nodupN_spec n1
  have n2 := nodupN_spec n2
  have hT := subT_spec hT
  have hH := subH_spec hH
  have big : ∀ k, 100000 ≤ k → lkN L.ren k = k := fun k hk => by
    simp only [lkN]
    cases hq : look L.ren k with
    | none => rfl
    | some j =>
      have := (n3 _ (look_mem hq)).1
      omega
  have ham : ∀ k, (L.hs.any fun p => p.1 == k) = true ↔ k ∈ L.hs.map (·.1) := fun k => by simp [List.any_eq_true, List.mem_map]
  have hρk : ∀ k, k ∈ L.hs.map (·.1) → headRho ρ L k = ρ (lkN L.ren k) := fun k hk => by
    simp only [headRho]
    split
    · rename_i e; rw [big k e]
    · rw [if_pos ((ham k).2 hk)]
  have hρ : ∀ a l, L.has a = true → ρ (lkN L.ren a) = some l → headRho ρ L a = some l := fun a l ha hl => by
    simp only [LSt.has, Bool.or_eq_true, decide_eq_true_eq] at ha
    rcases ha with ha | ha
    · rw [big a ha] at hl
      simp only [headRho, if_pos ha, hl]
    · rw [hρk a ((ham a).1 ha), hl]
  have how : ∀ b y r k, ow b = some (y :: r) → k ∈ L.hs.map (·.1) → lkN L.ren k = y → headOw ow L b = some (k :: r) := fun b y r k hb hk e => by
    have hex : ∃ k, k ∈ L.hs.map (·.1) ∧ lkN L.ren k = y := ⟨k, hk, e⟩
    simp only [headOw, hb, dif_pos hex]
    rw [map_nodup_inj (f := lkN L.ren) n2 hex.choose_spec.1 hk (hex.choose_spec.2.trans e.symm)]
  have hno : ∀ b, ow b = none → headOw ow L b = none := fun b hb => by simp [headOw, hb]
  exact
    { frame := h.frame
      size := h.size
      os := h.os
      tape := h.tape
      output := h.output
      iold := h.iold
      inew := h.inew
      ilt := h.ilt
      iow := fun b hb => hno b (h.iow b hb)
      owf := fun b q hb => by
        simp only [headOw] at hb
        split at hb
        · rename_i y r hy
          split at hb
          · rename_i hex
            cases hb
            obtain ⟨g1, g2, hd, r', c, g3, g4⟩ := h.owf b _ hy
            cases g3
            obtain ⟨g5, g6⟩ := hex.choose_spec
            obtain ⟨⟨k, blk⟩, hk, e⟩ := List.mem_map.1 g5
            simp only at e
            obtain ⟨b', g7, g8, _⟩ := hH _ hk
            simp only at g7 g8
            rw [e, g6, g4] at g7
            cases g7
            obtain ⟨bk, bc⟩ := blk
            refine ⟨g1, g2, hex.choose, r, bc, rfl, ?_⟩
            show look L.hs hex.choose = _
            rw [← e, look_of n1 hk]
            cases bk <;> first | rfl | cases g8
          · cases hb
        · cases hb
      dom := fun k l hk hlt => by
        simp only [headRho] at hk
        rw [if_neg (by omega)] at hk
        split at hk
        · rename_i e
          obtain ⟨v, hv⟩ := look_some ((ham k).1 e)
          show look L.hs k ≠ none
          rw [hv]; simp
        · cases hk
      glob := fun n => by
        obtain ⟨sz, hg⟩ := h.glob n
        refine ⟨sz, ?_⟩
        simp only [headRho]
        rw [if_pos (by simp only [globH]; omega)]
        exact hg
      tsz := h.tsz
      nle := h.nle
      rle := fun k l hk => by
        simp only [headRho]
        rw [if_pos (hr0 k l hk)]
        exact h.rle k l hk
      tmps := fun i => by
        show VRep I w (headRho ρ L) (lkT L.ts i) _
        rcases lkT_mem (l := L.ts) (i := i) with e | e
        · rw [e]; exact VRep.any _ _ _ _
        · obtain ⟨g1, g2, g3⟩ := hT _ e
          exact mtV hρ g1 g2 g3 (h.tmps i)
      heap := fun k blk hk => by
        have hk : look L.hs k = some blk := hk
        have hm := look_mem hk
        have hkm : k ∈ L.hs.map (·.1) := List.mem_map.2 ⟨_, hm, rfl⟩
        obtain ⟨b', g1, g2, g3, g4, g5⟩ := hH _ hm
        simp only at g1 g2 g3 g4 g5
        obtain ⟨l, g6, g7⟩ := h.heap _ _ g1
        refine ⟨l, by rw [hρk k hkm]; exact g6, ?_⟩
        obtain ⟨bk, bc⟩ := blk
        obtain ⟨bk', bc'⟩ := b'
        simp only at g2 g3 g4 g5
        have hsz := (mtC_size bc bc' g5).1
        cases bk <;> cases bk' <;> first | cases g2 | skip
        · simp only [Bk.isImm, Bool.false_eq_true, if_false] at g4
          have hO : [lkN L.ren k] ≠ [] → [k] ≠ [] ∧ ∀ b rr, rr ≠ [] → ow b = some ([lkN L.ren k] ++ rr) → headOw ow L b = some ([k] ++ rr) := fun _ => ⟨by simp, fun b rr _ hb => how b _ rr k hb hkm rfl⟩
          rcases g7 with ⟨rfl, q1, q2⟩ | ⟨b, off, sz, cur, rfl, q1, q2, q3, q4⟩
          · refine .inl ⟨rfl, hsz.trans q1, ?_⟩
            have := mtC_rep bc bc' g5 g4 hρ hO (.inl (by simp)) (CRep.anyq bc' ρ [lkN L.ren k] 0 0 _ q2)
            exact CRep.phq _ _ _ _ _ _ this
          · exact .inr ⟨b, off, sz, cur, rfl, how b _ [] k q1 hkm rfl, q2, q3, mtC_rep bc bc' g5 g4 hρ hO (.inl (by simp)) q4⟩
        · simp only [Bk.isImm, Bool.false_eq_true, if_false] at g4
          have hn : bc.noown = true := by simpa [Bk.isOwn] using g3
          rcases g7 with ⟨rfl, q1, q2⟩ | ⟨b, off, sz, rfl, q1, q2, q3, q4⟩
          · exact .inl ⟨rfl, hsz.trans q1, mtC_rep bc bc' g5 g4 hρ (fun e => absurd rfl e) (.inr hn) q2⟩
          · exact .inr ⟨b, off, sz, rfl, q1, hno b q2, by simp only at q3 ⊢; omega, mtC_rep bc bc' g5 g4 hρ (fun e => absurd rfl e) (.inr hn) q4⟩
        · have hn : bc.noown = true := by simpa [Bk.isOwn] using g3
          rcases g7 with ⟨rfl, q1, q2⟩ | ⟨b, off, sz, rfl, q1, q2, q3⟩
          · exact .inl ⟨rfl, hsz.trans q1, mtC_rep bc bc' g5 (hAll_true bc) (fun _ _ _ e => by cases e) (fun e => absurd rfl e) (.inr hn) q2⟩
          · exact .inr ⟨b, off, sz, rfl, q1, by simp only at q2 ⊢; omega, mtC_rep bc bc' g5 (hAll_true bc) (fun _ _ _ e => by cases e) (fun e => absurd rfl e) (.inr hn) q3⟩ }
theorem VRep0.okv {v : V} {x : Value} (h : VRep0 I w ρ v x) : v.okv := by
  rcases h with rfl | ⟨_, _, h⟩
  · trivial
  · exact CRep.okv _ _ _ _ _ h
theorem TRep.okv : ∀ {v : V} {l : List Value}, TRep I w ρ v l → v.okv := by
  intro v
  induction v with
  | tnil => intro l _; trivial
  | tcons a b _ ihb => intro l h; obtain ⟨y, r, _, h2, h3⟩ := h; exact ⟨h2.okv, ihb h3⟩
  | _ => intro l h; exact h.elim
theorem VRep.okv {v : V} {x : Value} (h : VRep I w ρ v x) : v.okv := by
  cases v with
  | tnil => trivial
  | tcons a b => obtain ⟨l, _, h2⟩ := h; exact h2.okv
  | _ => exact VRep0.okv h
theorem blk_okv {hd : Nat} {l : Lo} {k : Bk} {c : V} (hk : k ≠ .dead) (h : BRep I w ρ ow hd l ⟨k, c⟩) : c.okv := by
  cases k with
  | own => rcases h with ⟨_, _, h⟩ | ⟨_, _, _, _, _, _, _, _, h⟩ <;> exact CRep.okv _ _ _ _ _ h
  | bor => rcases h with ⟨_, _, h⟩ | ⟨_, _, _, _, _, _, _, h⟩ <;> exact CRep.okv _ _ _ _ _ h
  | imm => rcases h with ⟨_, _, h⟩ | ⟨_, _, _, _, _, _, h⟩ <;> exact CRep.okv _ _ _ _ _ h
  | dead => exact absurd rfl hk
theorem okTs_of : ∀ {l : List (Nat × V)}, (∀ p ∈ l, p.2.okv) → okTs l
  | [], _ => trivial
  | (i, v) :: l, h => ⟨h (i, v) (by simp), okTs_of (fun p hp => h p (by simp [hp]))⟩
theorem okHs_of : ∀ {l : List (Nat × Blk)}, (∀ p ∈ l, p.2.c.okv) → okHs l
  | [], _ => trivial
  | (i, b) :: l, h => ⟨h (i, b) (by simp), okHs_of (fun p hp => h p (by simp [hp]))⟩
theorem head_ok (hr0 : ∀ k l, X.r0 k = some l → 100000 ≤ k) : HeadOk X := by
  intro s L a w ⟨⟨I, ρ, ow, h⟩, df⟩ hs
  obtain ⟨u, hs, _⟩ := all_to hs
  have hn := h.head hr0 hs
  refine ⟨⟨⟨I, _, _, hn⟩, df⟩, ?_, ?_⟩
  · have hs' := hs
    obtain ⟨_, hs'⟩ := rif_to hs'
    obtain ⟨u', hT, _⟩ := bind_to hs'
    refine okTs_of fun p hp => ?_
    obtain ⟨g1, g2, g3⟩ := subT_spec hT p hp
    exact VRep.okv (mtV (I := I) (w := w) (ρ := ρ) (ρ' := fun k => ρ (lkN L.ren k)) (fun _ _ _ e => e) g1 g2 g3 (h.tmps p.1))
  · obtain ⟨h1, hs'⟩ := rif_to hs
    obtain ⟨u', _, hH⟩ := bind_to hs'
    simp only [Bool.and_eq_true] at h1
    have n1 := nodupN_spec h1.1.1
    refine okHs_of fun p hp => ?_
    obtain ⟨b', _, g2, _⟩ := subH_spec hH p hp
    obtain ⟨l, _, g5⟩ := hn.heap p.1 p.2 (look_of n1 hp)
    obtain ⟨i, ⟨bk, bc⟩⟩ := p
    exact blk_okv (fun e => by cases e; exact absurd g2 (by simp [kindOk])) g5
end
end Go.Cx
/- CxFn2 -/
namespace Go.Cx
open Go
/-- which handles go into content, and where -/
def mtP (h : Nat → Option Blk) : V → V → List Nat → Nat → List (Nat × List Nat)
  | .cat n _ a b, .cat _ _ a' b', q, pos => mtP h a a' q pos ++ mtP h b b' q (pos + n)
  | .one a, .one b, q, pos => mtP h a b q pos
  | .tcons a b, .tcons a' b', q, pos => mtP h a a' q pos ++ mtP h b b' q pos
  | .osl _ _ _, .sl b _ _ _ _ _, q, pos => [(b, q ++ [pos])]
  | .optr c, .optr c', q, pos => mtP h c c' (q ++ [pos]) 0
  | .optr c, .ptr b _, q, pos => match h b with
    | some blk => (b, q ++ [pos]) :: mtP h c blk.c (q ++ [pos]) 0
    | none => []
  | _, _, _, _ => []
theorem clo_hAll {f : Nat → Bool} : ∀ (c : V), c.clo = true → c.hAll f = true := by
  intro c
  induction c with
  | cat n m a b iha ihb => intro h; simp only [V.clo, Bool.and_eq_true] at h; simp [V.hAll, iha h.1, ihb h.2]
  | tcons a b iha ihb => intro h; simp only [V.clo, Bool.and_eq_true] at h; simp [V.hAll, iha h.1, ihb h.2]
  | one a ih => intro h; simpa [V.hAll] using ih (by simpa [V.clo] using h)
  | ptr hd p => intro h; simp [V.clo] at h
  | sl hd p i n e cap => intro h; simp [V.clo] at h
  | _ => intro _; rfl
theorem mtP_pre {h : Nat → Option Blk} : ∀ (c c' : V) {q : List Nat} {pos y : Nat} {path : List Nat}, (y, path) ∈ mtP h c c' q pos → ∃ r, path = q ++ r := by
  intro c
  induction c with
  | cat n m a b iha ihb =>
    intro c' q pos y path hm
    cases c' <;> simp only [mtP, List.not_mem_nil] at hm
    rcases List.mem_append.1 hm with hm | hm
    · exact iha _ hm
    · exact ihb _ hm
  | tcons a b iha ihb =>
    intro c' q pos y path hm
    cases c' <;> simp only [mtP, List.not_mem_nil] at hm
    rcases List.mem_append.1 hm with hm | hm
    · exact iha _ hm
    · exact ihb _ hm
  | one a ih =>
    intro c' q pos y path hm
    cases c' <;> simp only [mtP, List.not_mem_nil] at hm
    exact ih _ hm
  | osl n e c _ =>
    intro c' q pos y path hm
    cases c' <;> simp only [mtP, List.not_mem_nil, List.mem_singleton, Prod.mk.injEq] at hm
    exact ⟨[pos], hm.2⟩
  | optr c ih =>
    intro c' q pos y path hm
    cases c' <;> simp only [mtP, List.not_mem_nil] at hm
    · split at hm
      · rename_i blk hblk
        rcases List.mem_cons.1 hm with hm | hm
        · cases hm; exact ⟨[pos], rfl⟩
        · obtain ⟨r, e⟩ := ih _ hm
          exact ⟨pos :: r, by simp [e]⟩
      · simp at hm
    · obtain ⟨r, e⟩ := ih _ hm
      exact ⟨pos :: r, by simp [e]⟩
  | _ => intro c' q pos y path hm; cases c' <;> simp [mtP] at hm
section
variable {I : Nat → Prop} {w : World} {r : List (Nat × Nat)} {h : Nat → Option Blk}
theorem row_fst {c c' : V} {x : List Nat} (hb : c.isRowB = true) (hm : (mtC apf r h c c').to x) : x = [] := by
  cases c <;> first | cases hb | skip
  · cases c' <;> first | exact hm.elim | skip
    obtain ⟨_, _, _, h2⟩ := rif_to hm
    exact h2.symm
  · cases c' <;> first | exact hm.elim | skip
    obtain ⟨_, _, _, h2⟩ := rif_to hm
    exact h2.symm
theorem nilR_fst {n e : Nat} {c : V} {x : List Nat} (hm : (nilR apf n e c).to x) : x = [] := by
  cases c <;> first | exact hm.elim | skip
  · obtain ⟨_, _, _, _, h2⟩ := rif_to hm
    exact h2.symm
  · obtain ⟨_, _, _, h2⟩ := rif_to hm
    exact h2.symm
theorem mtC_fst : ∀ (c c' : V) {x : List Nat} {q : List Nat} {pos : Nat}, c.clo = true → (mtC apf r h c c').to x → x = (mtP h c c' q pos).map (·.1) := by
  intro c
  induction c with
  | cat n m a b iha ihb =>
    intro c' x q pos hc hm
    simp only [V.clo, Bool.and_eq_true] at hc
    cases c' <;> first | exact hm.elim | skip
    obtain ⟨h1, hm1⟩ := rif_to hm
    obtain ⟨x1, h2, hm2⟩ := bind_to hm1
    obtain ⟨x2, h3, h4⟩ := bind_to hm2
    have h4 : x1 ++ x2 = x := h4
    simp only [mtP, List.map_append]
    rw [← iha _ hc.1 h2, ← ihb _ hc.2 h3, h4]
  | one a ih =>
    intro c' x q pos hc hm
    cases c' <;> first | exact hm.elim | skip
    exact ih _ (by simpa [V.clo] using hc) hm
  | osl n e c _ =>
    intro c' x q pos hc hm
    cases c' with
    | osl n' e' c' =>
      obtain ⟨h1, h2, h3⟩ := rif_to hm
      simp only [Bool.and_eq_true] at h1
      exact row_fst h1.2 h3
    | nsl => exact nilR_fst (show (nilR apf n e c).to x from hm)
    | zsl => exact nilR_fst (show (nilR apf n e c).to x from hm)
    | sl b' p' i' n' e' cap' =>
      simp only [mtC] at hm
      split at hm
      · obtain ⟨h1, _, hm1⟩ := rif_to hm
        obtain ⟨c2, _, _, hm2⟩ := bind_to hm1
        obtain ⟨x2, h3, hm3⟩ := bind_to hm2
        simp only [Bool.and_eq_true] at h1
        have h4 := row_fst h1.1.2 h3
        subst h4
        exact hm3.symm
      · exact hm.elim
    | _ => exact hm.elim
  | optr c ih =>
    intro c' x q pos hc hm
    simp only [V.clo] at hc
    cases c' with
    | optr c' => exact ih _ hc hm
    | ptr b p =>
      cases p with
      | cons _ _ => exact hm.elim
      | nil =>
        simp only [mtC] at hm
        split at hm
        · rename_i c2 hb
          obtain ⟨x2, h3, hm3⟩ := bind_to hm
          have hm3 : b :: x2 = x := hm3
          simp only [mtP, hb, List.map_cons]
          rw [← hm3, ih c2 (q := q ++ [pos]) (pos := 0) hc h3]
        · exact hm.elim
    | _ => exact hm.elim
  | tcons a b iha ihb =>
    intro c' x q pos hc hm
    simp only [V.clo, Bool.and_eq_true] at hc
    cases c' <;> first | exact hm.elim | skip
    obtain ⟨x1, h2, hm2⟩ := bind_to hm
    obtain ⟨x2, h3, h4⟩ := bind_to hm2
    have h4 : x1 ++ x2 = x := h4
    simp only [mtP, List.map_append]
    rw [← iha _ hc.1 h2, ← ihb _ hc.2 h3, h4]
  | dsl n e c _ =>
    intro c' x q pos hc hm
    cases c' <;> first | exact hm.elim | skip
    case nsl => exact nilR_fst (show (nilR apf n e c).to x from hm)
    case zsl => exact nilR_fst (show (nilR apf n e c).to x from hm)
    obtain ⟨h1, h2, h3⟩ := rif_to hm
    simp only [Bool.and_eq_true] at h1
    exact row_fst h1.2 h3
  | any => intro c' x q pos hc; cases hc
  | ptr hd p => intro c' x q pos hc; cases hc
  | sl hd p i n e cap => intro c' x q pos hc; cases hc
  | ints k n l => intro c' x q pos hc hm; have := row_fst rfl hm; subst this; cases c' <;> rfl
  | rows e n f => intro c' x q pos hc hm; have := row_fst rfl hm; subst this; cases c' <;> rfl
  | _ =>
    intro c' x q pos hc hm
    cases c' <;> first | exact hm.elim | exact hm.symm | exact hm.2.symm | exact (rif_to hm).2.2.symm
variable {ow ow' : Own} {ρ : Rho}
/-- no element behind nothing -/
theorem subs_none {c c2 : V} {j : Nat} (h : (c.subs apf j 0).to c2) : CRep I w ow' c2 noR [] 0 (fun _ => none) := by
  cases c <;> simp only [V.subs] at h <;> first | exact h.elim | skip
  · cases h
    exact ⟨by simp [apf, subL], by simp [apf, subL], fun j hj => by omega⟩
  · cases h
    exact fun j hj => by omega
theorem subs_row {c c2 : V} {i m e n : Nat} (h : (c.subs apf i m).to c2) (hr : isRow e n c) : isRow e m c2 := by
  cases c <;> simp only [V.subs] at h <;> first | exact h.elim | skip
  · cases h; exact ⟨rfl, hr.2⟩
  · cases h; exact ⟨rfl, hr.2⟩
/-- Content that matches a shape is told by the shape, with what goes into it. -/
theorem mtC_own (hheap : ∀ b blk, h b = some blk → ∃ l, ρ b = some l ∧ BRep I w ρ ow b l blk) : ∀ (c c' : V) {ρ1 ρ' : Rho} {q q' : List Nat} {pos : Nat} {g : Nat → Option Value} {x : List Nat}, c.clo = true → Rho.le ρ1 ρ → (mtC apf r h c c').to x →
    (q ≠ [] → q' ≠ [] ∧ ∀ b p rr, ow b = some (q ++ p :: rr) → ow' b = some (q' ++ p :: rr)) → (∀ y path rr b, (y, path) ∈ mtP h c c' q' pos → ow b = some (y :: rr) → ow' b = some (path ++ rr)) → (q' ≠ [] ∨ c.noown = true) →
    CRep I w ow c' ρ1 q pos g → CRep I w ow' c ρ' q' pos g := by
  intro c
  have plain : ∀ (c c' : V) {ρ1 ρ' : Rho} {q q' : List Nat} {pos : Nat} {g : Nat → Option Value}, c.clo = true → (mtC apf r h c c').to [] →
      (q ≠ [] → q' ≠ [] ∧ ∀ b p rr, ow b = some (q ++ p :: rr) → ow' b = some (q' ++ p :: rr)) → (q' ≠ [] ∨ c.noown = true) → CRep I w ow c' ρ1 q pos g → CRep I w ow' c ρ' q' pos g := by
    intro c c' ρ1 ρ' q q' pos g hc hm ho hq hr
    refine mtC_rep c c' (has := fun _ => false) hm (clo_hAll c hc) (fun _ _ e => by cases e) (fun e => ⟨(ho e).1, fun b rr hrr hb => ?_⟩) hq hr
    cases rr with
    | nil => exact absurd rfl hrr
    | cons p rr => exact (ho e).2 b p rr hb
  induction c with
  | cat n m a b iha ihb =>
    intro c' ρ1 ρ' q q' pos g x hc hρ hm ho hp hq hr
    simp only [V.clo, Bool.and_eq_true] at hc
    simp only [V.noown, Bool.and_eq_true] at hq
    cases c' <;> first | exact hm.elim | skip
    rename_i n' m' a' b'
    obtain ⟨h1, hm1⟩ := rif_to hm
    obtain ⟨x1, h2, hm2⟩ := bind_to hm1
    obtain ⟨x2, h3, h4⟩ := bind_to hm2
    simp only [Bool.and_eq_true, beq_iff_eq] at h1
    obtain ⟨rfl, rfl⟩ := h1
    obtain ⟨g1, g2, g3, g4⟩ := hr
    refine ⟨(mtC_size a _ h2).1.trans g1, (mtC_size b _ h3).1.trans g2, iha _ hc.1 hρ h2 ho (fun y path rr b hy => hp y path rr b ?_) (hq.imp id (·.1)) g3, ihb _ hc.2 hρ h3 ho (fun y path rr b hy => hp y path rr b ?_) (hq.imp id (·.2)) g4⟩
    · exact List.mem_append.2 (.inl hy)
    · exact List.mem_append.2 (.inr hy)
  | one a ih =>
    intro c' ρ1 ρ' q q' pos g x hc hρ hm ho hp hq hr
    cases c' <;> first | exact hm.elim | skip
    rename_i b
    have hs := mtC_size a b hm
    obtain ⟨g1, g2⟩ := hr
    refine ⟨?_, ih b (by simpa [V.clo] using hc) hρ hm ho hp hq g2⟩
    by_cases e : a = .any
    · rw [e]; rfl
    · exact (hs.2 e).trans g1
  | osl n e c _ =>
    intro c' ρ1 ρ' q q' pos g x hc hρ hm ho hp hq hr
    have hx := mtC_fst (q := q') (pos := pos) _ _ hc hm
    cases c' with
    | osl n' e' c' => rw [show x = [] from hx] at hm; exact plain _ _ hc hm ho hq hr
    | nsl => rw [show x = [] from hx] at hm; exact plain _ _ hc hm ho hq hr
    | zsl => rw [show x = [] from hx] at hm; exact plain _ _ hc hm ho hq hr
    | sl b p i m e' cap =>
      have hq' : q' ≠ [] := hq.resolve_right (by simp [V.noown])
      simp only [V.clo] at hc
      simp only [mtC] at hm
      split at hm
      · rename_i c1 hb
        obtain ⟨h1, h2, hm1⟩ := rif_to hm
        obtain ⟨c2, h3, h4, hm2⟩ := bind_to hm1
        obtain ⟨x2, h5, hm3⟩ := bind_to hm2
        simp only [Bool.and_eq_true, beq_iff_eq] at h1
        obtain ⟨⟨rfl, hrow⟩, hre⟩ := h1
        have h2 : n = m := h2
        subst h2
        have h4 : i + n ≤ c1.cnt := h4
        rw [row_fst hrow h5] at h5
        obtain ⟨a, cp, l, k1, k2, k3, k4, _, k6⟩ := hr
        obtain ⟨l', k7, k8⟩ := hheap b _ hb
        rw [hρ _ _ k2] at k7
        cases k7
        have hrow1 := isRow_cnt h3
        rw [hre] at hrow1
        by_cases hcp : cp = 0
        · subst hcp
          obtain rfl : n = 0 := by omega
          have hr2 : isRow e 0 c2 := subs_row h3 hrow1
          exact ⟨hq', a, 0, k1, k3, k4, mtC_row hrow h5 hr2, .inl ⟨rfl, plain c c2 hc h5 (fun e => absurd rfl e) (.inr (row_noown hrow)) (subs_none (ow' := ow) h3)⟩⟩
        · obtain ⟨bk, off, sz, rfl, rfl, k9⟩ := k6.resolve_left hcp
          rcases k8 with ⟨k8, _⟩ | ⟨bk', off', sz', cur, k8, j1, j2, j3, j4⟩
          · cases k8
          cases k8
          obtain ⟨j5, j6⟩ := subs_rep h3 hrow1 h4 j4
          simp only [poff, Nat.zero_add] at k9
          refine ⟨hq', _, cp, k1, k3, k4, mtC_row hrow h5 j5, .inr ⟨bk, off + i * e, cur, by simp [poff], ?_, j2, by omega, ?_⟩⟩
          · simpa using hp b (q' ++ [pos]) [] bk (by simp [mtP]) j1
          · have j7 := plain (q' := q' ++ [pos]) (ρ' := noR) c c2 hc h5 (fun e => absurd rfl e) (.inl (by simp)) j6
            simpa [Nat.add_assoc] using j7
      · exact hm.elim
    | _ => exact hm.elim
  | optr c ih =>
    intro c' ρ1 ρ' q q' pos g x hc hρ hm ho hp hq hr
    have hq' : q' ≠ [] := hq.resolve_right (by simp [V.noown])
    simp only [V.clo] at hc
    cases c' with
    | optr c' =>
      obtain ⟨k0, b, off, cur, k1, k2, k3, k5, k4⟩ := hr
      obtain ⟨_, ho2⟩ := ho k0
      refine ⟨hq', b, off, cur, k1, ho2 b pos [] k2, k3, k5, ih c' hc (noR_le _) hm (fun _ => ⟨by simp, fun b' p rr hb => ?_⟩) (fun y path rr b' hy => hp y path rr b' hy) (.inl (by simp)) k4⟩
      have := ho2 b' pos (p :: rr) (by simpa using hb)
      simpa using this
    | ptr b p =>
      cases p with
      | cons _ _ => exact hm.elim
      | nil =>
        simp only [mtC] at hm
        split at hm
        · rename_i c1 hb
          obtain ⟨x2, h3, _⟩ := bind_to hm
          obtain ⟨bk, off, sz, k1, k2⟩ := hr
          obtain ⟨l', k7, k8⟩ := hheap b _ hb
          rw [hρ _ _ k1] at k7
          cases k7
          rcases k8 with ⟨k8, _⟩ | ⟨bk', off', sz', cur, k8, j1, j2, j3, j4⟩
          · cases k8
          cases k8
          refine ⟨hq', bk, off, cur, by simpa [poff] using k2, ?_, j2, by omega, ih c1 hc (Rho.le_refl _) h3 (fun _ => ⟨by simp, fun b' p rr hb' => ?_⟩) (fun y path rr b' hy hb' => hp y path rr b' ?_ hb') (.inl (by simp)) j4⟩
          · simpa using hp b (q' ++ [pos]) [] bk (by simp [mtP, hb]) j1
          · exact hp b (q' ++ [pos]) (p :: rr) b' (by simp [mtP, hb]) hb'
          · simp only [mtP, hb]
            exact List.mem_cons_of_mem _ hy
        · exact hm.elim
    | _ => exact hm.elim
  | tcons a b _ _ => intro c' ρ1 ρ' q q' pos g x hc hρ hm ho hp hq hr; cases c' <;> first | exact hm.elim | exact hr.elim
  | _ =>
    intro c' ρ1 ρ' q q' pos g x hc hρ hm ho hp hq hr
    first
      | cases hc; done
      | exact plain _ _ hc (by have hx := mtC_fst (q := q') (pos := pos) _ _ hc hm; rw [show x = [] from by rw [hx]; cases c' <;> rfl] at hm; exact hm) ho hq hr
end
end Go.Cx
/- CxFn3 -/
namespace Go.Cx
open Go
def resV (ap : AP) (s : St) : IRes → R V
  | .t n => .ok (s.t n)
  | .cell n z agg => (stepR ap [] s.t s.h none (.ld z agg (.t n))).bind fun e => .ok e.v
def resL (ap : AP) (s : St) : List IRes → R V
  | [] => .ok .tnil
  | r :: l => (resV ap s r).bind fun v => rif (!v.isTup) 135 ((resL ap s l).bind fun t => .ok (.tcons v t))
def resR (ap : AP) (s : St) : List IRes → R V
  | [r] => resV ap s r
  | l => resL ap s l
def renOf : V → V → List (Nat × Nat)
  | .ptr a _, .ptr b _ => [(a, b)]
  | .sl a _ _ _ _ _, .sl b _ _ _ _ _ => [(a, b)]
  | .tcons a b, .tcons a' b' => renOf a a' ++ renOf b b'
  | .cat _ _ a b, .cat _ _ a' b' => renOf a a' ++ renOf b b'
  | .one a, .one b => renOf a b
  | _, _ => []
def mtHs (ap : AP) (r : List (Nat × Nat)) (h : Nat → Option Blk) : List (Nat × Blk) → R (List Nat)
  | [] => .ok []
  | (i, b) :: l => match h (lkN r i) with
    | some ⟨.own, c'⟩ => rif (b.k.isOwn && b.c.clo) 130 ((mtC ap r h b.c c').bind fun x => (mtHs ap r h l).bind fun y => .ok (lkN r i :: x ++ y))
    | _ => .fail 131
/-- the last state, against what is handed over -/
def endR (ap : AP) (s : St) (v : V) (ov : V) (hs : List (Nat × Blk)) (r : List (Nat × Nat)) : R Unit :=
  rif (nodupN (hs.map fun p => p.1) && r.all fun p => decide (p.1 < 100000) && decide (p.2 < 100000)) 132 <|
  (mtC ap r s.h ov v).bind fun x => rif (x.isEmpty && ov.noown && ov.hAll (fun k => hs.any fun p => p.1 == k)) 133 <|
  (mtHs ap r s.h hs).bind fun ys => rif (nodupN ys) 134 (.ok ())
def finR (ap : AP) (s : St) (args : List Arg) (out : Out) (res : List IRes) : R Unit :=
  (resR ap s res).bind fun v => endR ap s v out.v (outO 0 args out.objs ++ outN 0 out.news) (renOf out.v v)
/-- the places of all that is handed over -/
def pths (r : List (Nat × Nat)) (h : Nat → Option Blk) : List (Nat × Blk) → List (Nat × List Nat)
  | [] => []
  | (i, b) :: l => (match h (lkN r i) with | some blk => (lkN r i, [i]) :: mtP h b.c blk.c [i] 0 | none => []) ++ pths r h l
section
variable {r : List (Nat × Nat)} {h : Nat → Option Blk}
theorem mtHs_spec : ∀ {l : List (Nat × Blk)} {ys : List Nat}, (mtHs apf r h l).to ys → ys = (pths r h l).map (·.1) ∧
    ∀ p ∈ l, ∃ c' x, h (lkN r p.1) = some ⟨.own, c'⟩ ∧ p.2.k = .own ∧ p.2.c.clo = true ∧ (mtC apf r h p.2.c c').to x ∧ (∀ z ∈ (lkN r p.1, [p.1]) :: mtP h p.2.c c' [p.1] 0, z ∈ pths r h l) := by
  intro l
  induction l with
  | nil => intro ys hm; cases hm; exact ⟨rfl, fun p hp => by simp at hp⟩
  | cons q l ih =>
    intro ys hm
    obtain ⟨i, b⟩ := q
    simp only [mtHs] at hm
    split at hm
    · rename_i c' hc
      obtain ⟨h1, hm⟩ := rif_to hm
      obtain ⟨x, h2, hm⟩ := bind_to hm
      obtain ⟨y, h3, h4⟩ := bind_to hm
      have h4 : lkN r i :: x ++ y = ys := h4
      obtain ⟨g1, g2⟩ := ih h3
      simp only [Bool.and_eq_true] at h1
      have hx := mtC_fst (q := [i]) (pos := 0) _ _ h1.2 h2
      refine ⟨?_, fun p hp => ?_⟩
      · simp only [pths, hc, List.map_append, List.map_cons]
        rw [← h4, ← g1, ← hx]
      · rcases List.mem_cons.1 hp with rfl | hp
        · refine ⟨c', x, hc, ?_, h1.2, h2, fun z hz => ?_⟩
          · have := h1.1
            cases hk : b.k <;> simp_all [Bk.isOwn]
          · simp only [pths, hc]
            exact List.mem_append.2 (.inl hz)
        · obtain ⟨c1, x1, k1, k2, k3, k4, k5⟩ := g2 p hp
          refine ⟨c1, x1, k1, k2, k3, k4, fun z hz => ?_⟩
          simp only [pths]
          exact List.mem_append.2 (.inr (k5 z hz))
    · exact hm.elim
theorem pths_key : ∀ {l : List (Nat × Blk)} {y : Nat} {path : List Nat}, (y, path) ∈ pths r h l → ∃ i rr, path = i :: rr ∧ i ∈ l.map (·.1) := by
  intro l
  induction l with
  | nil => intro y path hm; simp [pths] at hm
  | cons q l ih =>
    intro y path hm
    obtain ⟨i, b⟩ := q
    simp only [pths] at hm
    rcases List.mem_append.1 hm with hm | hm
    · split at hm
      · rename_i blk _
        rcases List.mem_cons.1 hm with hm | hm
        · cases hm; exact ⟨i, [], rfl, by simp⟩
        · obtain ⟨rr, e⟩ := mtP_pre _ _ hm
          exact ⟨i, rr, e, by simp⟩
      · simp at hm
    · obtain ⟨j, rr, e, hj⟩ := ih hm
      exact ⟨j, rr, e, by simp [hj]⟩
end
section
variable {X : Fix} {I : Nat → Prop} {ρ : Rho} {ow : Own} {s : St} {tm : Array Value} {w : World}
def endRho (ρ : Rho) (r : List (Nat × Nat)) (hs : List (Nat × Blk)) : Rho := fun k => if 100000 ≤ k then ρ k else if (hs.any fun p => p.1 == k) then ρ (lkN r k) else none
def endOw (ow : Own) (π : List (Nat × List Nat)) : Own := fun b => match ow b with
  | some (y :: rr) => (look π y).map (· ++ rr)
  | _ => none
/-- The last state, told by what is handed over. -/
theorem Rep.close (h : Rep X I ρ ow s tm w) (hr0 : ∀ k l, X.r0 k = some l → 100000 ≤ k) {v ov : V} {hs : List (Nat × Blk)} {r : List (Nat × Nat)} {u : Unit} (hE : (endR apf s v ov hs r).to u) :
    ∃ ρ' ow', Rep ⟨X.F, X.I0, X.w0, 0, X.r0⟩ I ρ' ow' ⟨fun _ => .any, look hs⟩ #[] w ∧ ∀ x, VRep I w ρ v x → VRep I w ρ' ov x := by
  obtain ⟨h1, hE⟩ := rif_to hE
  obtain ⟨x, h2, hE⟩ := bind_to hE
  obtain ⟨h3, hE⟩ := rif_to hE
  obtain ⟨ys, h4, hE⟩ := bind_to hE
  obtain ⟨h5, _⟩ := rif_to hE
  simp only [Bool.and_eq_true, List.all_eq_true, decide_eq_true_eq, List.isEmpty_iff] at h1 h3
  obtain ⟨n1, n3⟩ := h1
  obtain ⟨⟨rfl, hno⟩, hall⟩ := h3
  have n1 := nodupN_spec n1
  have n2 := nodupN_spec h5
  obtain ⟨rfl, hH⟩ := mtHs_spec h4
  have big : ∀ k, 100000 ≤ k → lkN r k = k := fun k hk => by
    simp only [lkN]
    cases hq : look r k with
    | none => rfl
    | some j =>
      have := (n3 _ (look_mem hq)).1
      omega
  have ham : ∀ k, (hs.any fun p => p.1 == k) = true ↔ k ∈ hs.map (·.1) := fun k => by simp [List.any_eq_true, List.mem_map]
  have hρk : ∀ k, k ∈ hs.map (·.1) → endRho ρ r hs k = ρ (lkN r k) := fun k hk => by
    simp only [endRho]
    split
    · rename_i e; rw [big k e]
    · rw [if_pos ((ham k).2 hk)]
  have hπ : ∀ y path rr b, (y, path) ∈ pths r s.h hs → ow b = some (y :: rr) → endOw ow (pths r s.h hs) b = some (path ++ rr) := fun y path rr b hy hb => by
    simp only [endOw, hb, look_of n2 hy, Option.map_some]
  have hnone : ∀ b, ow b = none → endOw ow (pths r s.h hs) b = none := fun b hb => by simp [endOw, hb]
  refine ⟨endRho ρ r hs, endOw ow (pths r s.h hs), ?_, fun x hx => mtV (has := fun k => hs.any fun p => p.1 == k) (fun a l ha hl => by rw [hρk a ((ham a).1 ha), hl]) h2 hno hall hx⟩
  exact
    { frame := h.frame
      size := h.size
      os := h.os
      tape := h.tape
      output := h.output
      iold := h.iold
      inew := h.inew
      ilt := h.ilt
      iow := fun b hb => hnone b (h.iow b hb)
      owf := fun b q hb => by
        simp only [endOw] at hb
        split at hb
        · rename_i y rr hy
          cases hl : look (pths r s.h hs) y with
          | none => rw [hl] at hb; cases hb
          | some path =>
            rw [hl] at hb
            cases hb
            obtain ⟨i, r2, rfl, hi⟩ := pths_key (look_mem hl)
            obtain ⟨g1, g2, _⟩ := h.owf b _ hy
            obtain ⟨p, hp, rfl⟩ := List.mem_map.1 hi
            obtain ⟨c', x', _, k2, _⟩ := hH p hp
            refine ⟨g1, g2, p.1, r2 ++ rr, p.2.c, by simp, ?_⟩
            show look hs p.1 = _
            obtain ⟨i, ⟨bk, bc⟩⟩ := p
            simp only at k2 ⊢
            rw [look_of n1 hp, k2]
        · cases hb
      dom := fun k l hk hlt => by
        simp only [endRho] at hk
        rw [if_neg (by omega)] at hk
        split at hk
        · rename_i e
          obtain ⟨v, hv⟩ := look_some ((ham k).1 e)
          show look hs k ≠ none
          rw [hv]; simp
        · cases hk
      glob := fun n => by
        obtain ⟨sz, hg⟩ := h.glob n
        refine ⟨sz, ?_⟩
        simp only [endRho]
        rw [if_pos (by simp only [globH]; omega)]
        exact hg
      tsz := rfl
      nle := by simp
      rle := fun k l hk => by
        simp only [endRho]
        rw [if_pos (hr0 k l hk)]
        exact h.rle k l hk
      tmps := fun i => VRep.any _ _ _ _
      heap := fun k blk hk => by
        have hk : look hs k = some blk := hk
        have hm := look_mem hk
        have hkm : k ∈ hs.map (·.1) := List.mem_map.2 ⟨_, hm, rfl⟩
        obtain ⟨c', x', g1, g2, g3, g4, g5⟩ := hH _ hm
        obtain ⟨bk, bc⟩ := blk
        simp only at g1 g2 g3 g4 g5
        subst g2
        obtain ⟨l, g6, g7⟩ := h.heap _ _ g1
        refine ⟨l, by rw [hρk k hkm]; exact g6, ?_⟩
        have hheap : ∀ b blk, s.h b = some blk → ∃ l, ρ b = some l ∧ BRep I w ρ ow b l blk := h.heap
        have hself : ∀ rr b, ow b = some (lkN r k :: rr) → endOw ow (pths r s.h hs) b = some (k :: rr) := fun rr b hb => by
          simpa using hπ _ [k] rr b (g5 _ (by simp)) hb
        have hcons : ∀ y path rr b, (y, path) ∈ mtP s.h bc c' [k] 0 → ow b = some (y :: rr) → endOw ow (pths r s.h hs) b = some (path ++ rr) := fun y path rr b hy hb => hπ y path rr b (g5 _ (List.mem_cons_of_mem _ hy)) hb
        have hO : [lkN r k] ≠ [] → [k] ≠ [] ∧ ∀ b p rr, ow b = some ([lkN r k] ++ p :: rr) → endOw ow (pths r s.h hs) b = some ([k] ++ p :: rr) := fun _ => ⟨by simp, fun b p rr hb => hself _ _ hb⟩
        have hsz := (mtC_size bc c' g4).1
        rcases g7 with ⟨rfl, q1, q2⟩ | ⟨b, off, sz, cur, rfl, q1, q2, q3, q4⟩
        · refine .inl ⟨rfl, hsz.trans q1, ?_⟩
          have := mtC_own hheap bc c' (ρ' := endRho ρ r hs) g3 (Rho.le_refl _) g4 hO hcons (.inl (by simp)) (CRep.anyq c' ρ [lkN r k] 0 0 _ q2)
          exact CRep.phq _ _ _ _ _ _ this
        · exact .inr ⟨b, off, sz, cur, rfl, hself [] b q1, q2, q3, mtC_own hheap bc c' g3 (Rho.le_refl _) g4 hO hcons (.inl (by simp)) q4⟩ }
end
end Go.Cx
/- CxFn4 -/
namespace Go.Cx
open Go
def okAs : List Arg → Prop
  | [] => True
  | .v v :: r => v.okv ∧ okAs r
  | .b n e c :: r => (n ≤ 9223372036854775807 ∧ isRow e n c ∧ c.okv) ∧ okAs r
  | .o c _ :: r => c.okv ∧ okAs r
def st0 (G : List (Nat × V)) (pure : Bool) (args : List Arg) : St := ⟨lkT (inT 0 args), opn 40 9000 ((List.range args.length).map parH) (parHs G pure args)⟩
def fnQ (ap : AP) (args : List Arg) (out : Out) (res : List IRes) : Ex → St → Prop
  | .exit _, _ => False
  | _, s => (finR ap s args out res).all fun _ => True
/-- the slots, guards and results of a function are in order -/
def fnOk (P : Program) (f : Nat) : Bool := match P.funcs[f]? with
  | some fn => (match fn.body with | some c => codeOk fn.ntmps c | none => false) && decide (fn.ntmps ≤ 9000) && decide (fn.results.size ≤ 4) &&
      fn.results.toList.all fun r => match r with | .tmp _ => true | .cell _ t => sz P t != 0 && (P.underlying t).isSome
  | none => false
section
variable {P : Program} {X : Fix} {I : Nat → Prop} {ρ : Rho} {ow : Own} {s : St} {a : Act} {w : World}
def resOne (tm : Array Value) : ResultVar → Sem Value
  | .tmp t => pure (tm.getD t undef)
  | .cell a t => do loadVar t (← asAddr (tm.getD a undef))
theorem results_eq (fn : Func) (tm : Array Value) : results fn tm = (do let vs ← fn.results.mapM (resOne tm); pure (if h : vs.size = 1 then vs[0] else .tuple vs)) := rfl
def irOf (P : Program) : ResultVar → IRes
  | .tmp t => .t t
  | .cell a t => .cell a (sz P t) (aggT P t)
theorem resOne_run (h : Rep X I ρ ow s a.tmps w) {r : ResultVar} (hr : (match r with | .tmp _ => true | .cell _ t => sz P t != 0 && (P.underlying t).isSome) = true) {v : V} (hv : (resV apf s (irOf P r)).to v) :
    ∃ x, (resOne a.tmps r).run P w = .ok x w ∧ VRep I w ρ v x := by
  cases r with
  | tmp t =>
    cases hv
    exact ⟨_, rfl, h.tmps t⟩
  | cell n t =>
    simp only [Bool.and_eq_true, bne_iff_ne, Option.isSome_iff_exists] at hr
    obtain ⟨hz, d, hd⟩ := hr
    obtain ⟨e, he, hve⟩ := bind_to hv
    cases hve
    have hv := ev_rep h (x := .tmp n) (i := .t n) rfl
    simp only [stepR] at he
    have fin : ∀ (b off : Nat) (v u : V) (q : List Nat) (pos : Nat) (ow : Own), a.tmps.getD n undef = .pointer (some ⟨b, off, none⟩) → CRep I w ow v ρ q pos (cellsAt w b off) → v.size = sz P t → v.noown = true → (wrapV (aggT P t) v).to u →
        ∃ x, (resOne a.tmps (.cell n t)).run P w = .ok x w ∧ VRep I w ρ u x := by
      intro b off v u q pos ow hp hc hs hno hw
      obtain ⟨y, hy, hvy⟩ := load_run (P := P) hd hz hc hno hs hw
      exact ⟨y, by simp [resOne, hp, asAddr, hy], hvy⟩
    split at he
    · rename_i hh p e1
      rw [e1] at hv
      obtain ⟨b, off, sz', h1, h2⟩ := vr_ptr hv
      split at he
      · exact he.elim
      · rename_i kk c hnd hh2
        obtain ⟨v, hat, he⟩ := bind_to he
        obtain ⟨hs, he⟩ := rif_to he
        simp only [Bool.and_eq_true, beq_iff_eq] at hs
        obtain ⟨hs, hno⟩ := hs
        obtain ⟨u, hu, he⟩ := bind_to he
        cases he
        obtain ⟨q, hg⟩ := blk_cells h hh2 h1 (fun e => hnd e)
        obtain ⟨h9, _⟩ := at_rep _ _ hat hg
        refine fin b (off + poff p) v u q (0 + poff p) ow h2 ?_ hs hno hu
        have e2 : cellsAt w b (off + poff p) = fun j => cellsAt w b off (poff p + j) := by funext j; simp [cellsAt, Nat.add_assoc]
        rw [e2]; exact h9
      · exact he.elim
    · rename_i c p e1
      rw [e1] at hv
      obtain ⟨b, off, hI, h2, h3⟩ := vr_dptr hv
      obtain ⟨v, hat, he⟩ := bind_to he
      obtain ⟨hs, he⟩ := rif_to he
      simp only [Bool.and_eq_true, beq_iff_eq] at hs
      obtain ⟨hs, hno⟩ := hs
      obtain ⟨u, hu, he⟩ := bind_to he
      cases he
      have h3' : CRep I w (fun _ => none) c ρ [] 0 (cellsAt w b off) := CRep.mono (fun b hb => ⟨hb, rfl⟩) _ _ _ _ _ _ _ (noR_le ρ) (fun h => absurd rfl h) (fun _ _ => rfl) h3
      obtain ⟨h9, _⟩ := at_rep _ _ hat h3'
      refine fin b (off + poff p) v u [] (0 + poff p) (fun _ => none) h2 ?_ hs hno hu
      have e2 : cellsAt w b (off + poff p) = fun j => cellsAt w b off (poff p + j) := by funext j; simp [cellsAt, Nat.add_assoc]
      rw [e2]; exact h9
    · exact he.elim
theorem vr0_of {v : V} {x : Value} (ht : v.isTup = false) (h : VRep I w ρ v x) : VRep0 I w ρ v x := by
  cases v <;> first | exact h | cases ht
theorem resL_run (h : Rep X I ρ ow s a.tmps w) : ∀ {rs : List ResultVar} {v : V}, (rs.all fun r => match r with | .tmp _ => true | .cell _ t => sz P t != 0 && (P.underlying t).isSome) = true → (resL apf s (rs.map (irOf P))).to v →
    ∃ l, F2 (fun r x => (resOne a.tmps r).run P w = .ok x w) rs l ∧ TRep I w ρ v l := by
  intro rs
  induction rs with
  | nil => intro v _ hv; cases hv; exact ⟨[], .nil, rfl⟩
  | cons r rs ih =>
    intro v hok hv
    simp only [List.all_cons, Bool.and_eq_true] at hok
    obtain ⟨u, h1, hv⟩ := bind_to hv
    obtain ⟨h2, hv⟩ := rif_to hv
    obtain ⟨t, h3, hv⟩ := bind_to hv
    cases hv
    obtain ⟨x, g1, g2⟩ := resOne_run h hok.1 h1
    obtain ⟨l, g3, g4⟩ := ih hok.2 h3
    exact ⟨x :: l, .cons g1 g3, x, l, rfl, vr0_of (by simpa using h2) g2, g4⟩
theorem tup_vr {v : V} {l : List Value} (h : TRep I w ρ v l) : VRep I w ρ v (.tuple l.toArray) := by
  cases v <;> first | exact h.elim | skip
  · have : l = [] := h
    subst this; rfl
  · exact ⟨l, rfl, h⟩
theorem results_run (h : Rep X I ρ ow s a.tmps w) {fn : Func} (hn : fn.results.size ≤ 4) (hok : (fn.results.toList.all fun r => match r with | .tmp _ => true | .cell _ t => sz P t != 0 && (P.underlying t).isSome) = true) {v : V}
    (hv : (resR apf s (fn.results.toList.map (irOf P))).to v) : ∃ x, (results fn a.tmps).run P w = .ok x w ∧ VRep I w ρ v x := by
  rw [results_eq]
  obtain ⟨rs, hrs⟩ : ∃ rs, fn.results = List.toArray rs := ⟨fn.results.toList, by simp⟩
  rw [hrs] at hn hok hv ⊢
  simp only at hok hv
  have multi : ∀ {rs : List ResultVar}, rs.length ≠ 1 → rs.length ≤ 4 → (rs.all fun r => match r with | .tmp _ => true | .cell _ t => sz P t != 0 && (P.underlying t).isSome) = true → (resL apf s (rs.map (irOf P))).to v →
      ∃ x, (do let vs ← rs.toArray.mapM (resOne a.tmps); pure (if h : vs.size = 1 then vs[0] else .tuple vs) : Sem Value).run P w = .ok x w ∧ VRep I w ρ v x := by
    intro rs h1 h4 hok hv
    obtain ⟨l, g1, g2⟩ := resL_run h hok hv
    refine ⟨.tuple l.toArray, ?_, tup_vr g2⟩
    cases g1 with
    | nil => simp
    | cons a1 g1 =>
      cases g1 with
      | nil => simp at h1
      | cons a2 g1 =>
        cases g1 with
        | nil => simp [a1, a2]
        | cons a3 g1 =>
          cases g1 with
          | nil => simp [a1, a2, a3]
          | cons a4 g1 =>
            cases g1 with
            | nil => simp [a1, a2, a3, a4]
            | cons a5 g1 => simp at h4
  match rs, hn, hok, hv with
  | [], _, hok, hv => exact multi (by simp) (by simp) hok hv
  | [r], _, hok, hv =>
    simp only [List.all_cons, Bool.and_eq_true] at hok
    obtain ⟨x, g1, g2⟩ := resOne_run h hok.1 hv
    exact ⟨x, by simp [g1], g2⟩
  | a :: b :: l, hn, hok, hv => exact multi (by simp) (by simpa using hn) hok hv
theorem compRes_eq {rs : List ResultVar} : compRes P rs = some (rs.map (irOf P)) := by
  induction rs with
  | nil => rfl
  | cons r rs ih =>
    simp only [compRes, List.map_cons] at ih ⊢
    cases r <;> simp only [optL, ih] <;> rfl
theorem okAs_of : ∀ {args : List Arg} {i0 : Nat} {G : List (Nat × V)} {pure : Bool} {all : List Arg}, (∀ (i : Nat) (a : Arg), args[i]? = some a → all[i0 + i]? = some a) → all.length ≤ 100000 →
    Rep X I ρ ow ⟨fun _ => .any, parHs G pure all⟩ #[] w → (∀ (i : Nat) (a : Arg), all[i]? = some a → ∃ x, VRep I w ρ (parV i a) x) → (∀ (i n e : Nat) (c : V), all[i]? = some (.b n e c) → isRow e n c) → okAs args := by
  intro args
  induction args with
  | nil => intros; trivial
  | cons a args ih =>
    intro i0 G pure all hsub hlen h hv hrow
    have h0 := hsub 0 a rfl
    rw [Nat.add_zero] at h0
    have hrest : okAs args := ih (i0 := i0 + 1) (fun i b hb => by
      have := hsub (i + 1) b (by simpa using hb)
      rwa [show i0 + (i + 1) = i0 + 1 + i by omega] at this) hlen h hv hrow
    obtain ⟨x, hx⟩ := hv i0 a h0
    have hil : i0 < all.length := (List.getElem?_eq_some_iff.1 h0).1
    cases a with
    | v v => exact ⟨VRep.okv hx, hrest⟩
    | b n e c =>
      have h1 : V.okv (.sl (parH i0) [] 0 n e none) := VRep.okv hx
      obtain ⟨l, _, g2⟩ := h.heap (parH i0) ⟨.bor, c⟩ (by
        show parHs G pure all (parH i0) = _
        rw [parHs_par (by omega), h0]; rfl)
      exact ⟨⟨h1, hrow _ _ _ _ h0, blk_okv (by simp) g2⟩, hrest⟩
    | o c vw =>
      obtain ⟨l, _, g2⟩ := h.heap (parH i0) ⟨if pure then .bor else .own, c⟩ (by
        show parHs G pure all (parH i0) = _
        rw [parHs_par (by omega), h0]; rfl)
      exact ⟨blk_okv (by cases pure <;> simp) g2, hrest⟩
theorem lkT_inT : ∀ {args : List Arg} {i0 i : Nat}, (∃ a, args[i]? = some a ∧ lkT (inT i0 args) (i0 + i) = parV (i0 + i) a) ∨ (args[i]? = none ∧ lkT (inT i0 args) (i0 + i) = .any) := by
  intro args
  induction args with
  | nil => intro i0 i; exact .inr ⟨by simp, rfl⟩
  | cons a args ih =>
    intro i0 i
    cases i with
    | zero => refine .inl ⟨a, rfl, ?_⟩; rcases a with v | ⟨n, e, c⟩ | ⟨c, _ | ⟨j, n, e, cap⟩⟩ <;> simp [inT, lkT, parV]
    | succ i =>
      have := ih (i0 := i0 + 1) (i := i)
      rw [show i0 + 1 + i = i0 + (i + 1) by omega] at this
      have e : lkT (inT i0 (a :: args)) (i0 + (i + 1)) = lkT (inT (i0 + 1) args) (i0 + (i + 1)) := by
        rcases a with v | ⟨n, e, c⟩ | ⟨c, _ | ⟨j, n, e, cap⟩⟩ <;> simp [inT, lkT]
      rw [e]
      simpa using this
/-- A function whose code keeps the contract, step by step in the small code, keeps it. -/
theorem fn_sound {G : List (Nat × V)} {pure : Nat → Bool} {E : List (Nat × Ctr)} {f : Nat} {ic : IFn} {ctr : Ctr} (hm : P.follows .mixedOrders = true) (hcall : ∀ xs w, (callFunc f xs).run P w = .ok (.enter f xs) w)
    (hok : fnOk P f = true) (hic : comp P pure f = some ic) (hE : EnvSound P G pure E)
    (hvc : ∀ args out, (ctr args).to out → okAs args → args.length = ic.nargs ∧ ic.nargs ≤ ic.ntmps ∧ ∃ A : List (Nat × Ann), run apf E A ic.body (fnQ apf args out ic.res) (st0 G (pure f) args)) : Sound P G f (pure f) ctr := by
  refine ⟨hcall, ?_⟩
  intro args out vals w F I ρ ow hctr hlen hlen2 hrow hIF hR hV
  simp only [fnOk] at hok
  split at hok
  · rename_i fn hfn
    cases hbody : fn.body with
    | none => rw [hbody] at hok; simp at hok
    | some c =>
      rw [hbody] at hok
      simp only [Bool.and_eq_true, decide_eq_true_eq] at hok
      obtain ⟨⟨⟨hco, hnt⟩, hrs⟩, hrok⟩ := hok
      simp only [comp, hfn, hbody, compRes_eq, Option.some.injEq] at hic
      have hvget : ∀ (i : Nat) (a : Arg), args[i]? = some a → ∃ x, VRep I w ρ (parV i a) x := fun i a hi => ⟨_, hV i a hi⟩
      have hokas : okAs args := okAs_of (i0 := 0) (all := args) (fun i a h => by rwa [Nat.zero_add]) hlen2 hR hvget hrow
      obtain ⟨hn1, hn2, A, hrun⟩ := hvc args out hctr hokas
      subst hic
      simp only at hn1 hn2 hrun
      let X : Fix := ⟨F, I, w, fn.ntmps, ρ⟩
      have hr0 : ∀ k l, X.r0 k = some l → 100000 ≤ k := fun k l hk => by
        rcases Nat.lt_or_ge k 100000 with h | h
        · have := hR.dom k l hk h
          exfalso
          apply this
          show parHs G (pure f) args k = none
          simp only [parHs]
          rw [if_neg (by omega), if_neg (by omega)]
        · exact h
      -- the first state
      have hsz : vals.toArray.size = args.length := by simp [hlen]
      have htsz : (vals.toArray ++ Array.replicate (fn.ntmps - vals.toArray.size) undef).size = fn.ntmps := by
        simp only [Array.size_append, Array.size_replicate]; omega
      have hfirst : Rep X I ρ ow ⟨lkT (inT 0 args), parHs G (pure f) args⟩ (vals.toArray ++ Array.replicate (fn.ntmps - vals.toArray.size) undef) w :=
        { hR with
          tsz := htsz
          nle := by show fn.ntmps ≤ 100000; omega
          tmps := fun i => by
            show VRep I w ρ (lkT (inT 0 args) i) _
            rcases lkT_inT (args := args) (i0 := 0) (i := i) with ⟨a, h1, h2⟩ | ⟨_, h2⟩
            · rw [Nat.zero_add] at h2
              rw [h2]
              have hil : i < args.length := (List.getElem?_eq_some_iff.1 h1).1
              have e : (vals.toArray ++ Array.replicate (fn.ntmps - vals.toArray.size) undef).getD i undef = vals.toArray.getD i undef := by
                rw [Array.getD_eq_getD_getElem?, Array.getD_eq_getD_getElem?, Array.getElem?_append_left (by omega)]
              rw [e]
              exact hV i a h1
            · rw [Nat.zero_add] at h2
              rw [h2]
              exact VRep.any _ _ _ _ }
      obtain ⟨ρ1, ow1, _, hopen⟩ := Rep.opens (s := ⟨lkT (inT 0 args), parHs G (pure f) args⟩) 40 9000 ((List.range args.length).map parH) (by omega) hfirst
      have hRA : RA X (st0 G (pure f) args) { tmps := vals.toArray ++ Array.replicate (fn.ntmps - vals.toArray.size) undef, defers := [] } w := ⟨⟨I, ρ1, ow1, hopen⟩, rfl⟩
      have hG : GOk G X :=
        { i0 := fun b hb => ⟨hIF b hb, hR.ilt b hb⟩
          g := fun n c hn => by
            obtain ⟨l, h1, h2⟩ := hR.heap (globH n) ⟨.imm, c⟩ (by
              show parHs G (pure f) args (globH n) = _
              simp [parHs, globH, hn])
            obtain ⟨sz, h3⟩ := hR.glob n
            rw [h1] at h3
            cases h3
            rcases h2 with ⟨h4, _⟩ | ⟨k, off, sz', h4, h5, h6, h7⟩
            · cases h4
            · cases h4
              exact ⟨h5, ⟨sz, h1, h6⟩, h7.noow⟩ }
      refine calls_of_wp hfn hbody (Code.wp_mono (fun e a' w' hq => ?_) (code_sound hm hG hE (head_ok hr0) _ c A 0 _ _ _ _ hco hRA hrun))
      have fin : ∀ s, fnQ apf args out (fn.results.toList.map (irOf P)) .nrm s → RA X s a' w' → bodyPost P fn (fun en w' => ∃ x I' ρ' ow', en = .returned x ∧ VRep I' w' ρ' out.v x ∧ Rep ⟨F, I, w, 0, ρ⟩ I' ρ' ow' ⟨fun _ => .any, outHs args out⟩ #[] w') .normal a' w' := by
        rintro s hs ⟨⟨I', ρ', ow', h'⟩, hdf⟩
        obtain ⟨u, hu, _⟩ := all_to hs
        obtain ⟨v, hv, hend⟩ := bind_to hu
        obtain ⟨x, hx1, hx2⟩ := results_run h' hrs hrok hv
        obtain ⟨ρ2, ow2, g1, g2⟩ := h'.close hr0 hend
        exact bodyPost_end hx1 hdf ⟨x, I', ρ2, ow2, rfl, g2 x hx2, g1⟩
      cases e with
      | normal => obtain ⟨s, h1, h2⟩ := hq; exact fin s h1 h2
      | ret => obtain ⟨s, h1, h2⟩ := hq; exact fin s h1 h2
      | exit i => obtain ⟨s, h1, h2⟩ := hq; exact h1.elim
      | goto l => exact hq.elim
      | panic c => exact hq.elim
      | outgrown => exact hq.elim
  · cases hok
end
end Go.Cx
/- CxL -/
namespace Go.Cx
open Go
theorem wadd_i64 {x y : Int} (h : -9223372036854775808 ≤ x + y ∧ x + y ≤ 9223372036854775807) : wadd .i64 x y = x + y := IntWalk.i64_in _ h
theorem wsub_i64 {x y : Int} (h : -9223372036854775808 ≤ x - y ∧ x - y ≤ 9223372036854775807) : wsub .i64 x y = x - y := IntWalk.i64_in _ h
theorem wcv_i64 {x : Int} (h : -9223372036854775808 ≤ x ∧ x ≤ 9223372036854775807) : wcv .i64 x = x := IntWalk.i64_in _ h
theorem inc_i64 {i : Nat} (h : i + 1 ≤ 9223372036854775807) : wadd .i64 (i : Int) 1 = ((i + 1 : Nat) : Int) := (wadd_i64 (by omega)).trans (by omega)
theorem rem_i64 {i k : Nat} : wrem .i64 (i : Int) (k : Int) = ((i % k : Nat) : Int) := rfl
theorem inR_u64 {x : Int} : inR .u64 x ↔ 0 ≤ x ∧ x ≤ 18446744073709551615 := by simp [inR, IntKind.min, IntKind.max, IntKind.bits, IntKind.signed]
theorem subL_all {b : List Int} {n : Nat} (h : b.length ≤ n) : subL b 0 n = b := by
  rw [subL, List.drop_zero, List.take_of_length_le h]
theorem lss_f {x y : Int} (h : cmF .lss x y = false) : y ≤ x := by have : ¬ x < y := of_decide_eq_false h; omega
theorem gtr_f {x y : Int} (h : cmF .gtr x y = false) : x ≤ y := by have : ¬ y < x := of_decide_eq_false h; omega
end Go.Cx
namespace Go.Cx
open Go
theorem env_nil {P : Program} {G : List (Nat × V)} {pure : Nat → Bool} : EnvSound P G pure [] := fun _ _ h => by cases h
theorem env_cons {P : Program} {G : List (Nat × V)} {pure : Nat → Bool} {f : Nat} {c : Ctr} {E : List (Nat × Ctr)} (h : Sound P G f (pure f) c) (hE : EnvSound P G pure E) : EnvSound P G pure ((f, c) :: E) := fun g d hl => by
  simp only [look] at hl
  split at hl
  · rename_i e; cases hl; cases e; exact h
  · exact hE g d hl
end Go.Cx
/- CxLaw -/
namespace Go.Cx
open Go Go.ChangeShapes Go.WideShapes Go.ChangeAt Go.RowKit
def bsize (W : World) (b : Nat) : Nat := match W.heap[b]? with
  | some (.cells cs _ _) => cs.size
  | _ => 0
def lawRho (W : World) : Rho := fun h => if 200000 ≤ h then some (.at (h - 200000) 0 (bsize W (h - 200000))) else none
theorem lawRho_glob (W : World) (n : Nat) : lawRho W (globH n) = some (.at n 0 (bsize W n)) := by simp [lawRho, globH]
def lawX (W : World) : Fix := ⟨fun _ => False, fun b => b < W.heap.size, W, 0, lawRho W⟩
theorem law_rep (W : World) : Rep (lawX W) (fun b => b < W.heap.size) (lawRho W) (fun _ => none) ⟨fun _ => .any, fun _ => none⟩ #[] W :=
  { frame := fun _ _ _ => rfl
    size := Nat.le_refl _
    os := rfl
    tape := rfl
    output := rfl
    iold := fun _ h => h
    inew := fun _ h => .inl h
    ilt := fun _ h => h
    iow := fun _ _ => rfl
    owf := fun _ _ h => by cases h
    dom := fun k l hk hlt => by
      simp only [lawRho] at hk
      rw [if_neg (by omega)] at hk
      cases hk
    glob := fun n => ⟨_, lawRho_glob W n⟩
    tsz := rfl
    nle := by simp [lawX]
    rle := Rho.le_refl _
    tmps := fun _ => VRep.any _ _ _ _
    heap := fun _ _ h => by cases h }
/-- a package variable that is known -/
def GloIs (W : World) (n : Nat) (c : V) : Prop := n < W.heap.size ∧ c.size ≤ bsize W n ∧ CRep (fun b => b < W.heap.size) W (fun _ => none) c noR [] 0 (cellsAt W n 0)
theorem law_gok {W : World} {G : List (Nat × V)} (hG : ∀ n c, look G n = some c → GloIs W n c) : GOk G (lawX W) :=
  { i0 := fun b hb => ⟨fun h => h, hb⟩
    g := fun n c hn => by
      obtain ⟨h1, h2, h3⟩ := hG n c hn
      exact ⟨h1, ⟨bsize W n, lawRho_glob W n, h2⟩, h3⟩ }
/-- what a call leaves of what was there -/
structure Left0 (W W' : World) : Prop where
  heap : ∀ b, b < W.heap.size → W'.heap[b]? = W.heap[b]?
  size : W.heap.size ≤ W'.heap.size
  os : W'.os = W.os
  output : W'.output = W.output
theorem law_calls {P : Program} {G : List (Nat × V)} {f : FuncId} {ctr : Ctr} {W : World} (hS : Sound P G f true ctr) (hG : ∀ n c, look G n = some c → GloIs W n c) {args : List Arg} {vals : List Value} {los : List Lo}
    (hok : ArgsOk (fun b => b < W.heap.size) W (lawRho W) (fun _ => none) ⟨fun _ => .any, fun _ => none⟩ true [] args vals los (vals.map fun _ => none)) (hlen : vals.length ≤ 100000) {out : Out} (hout : (ctr args).to out) :
    Calls P f vals.toArray W fun en W' => ∃ x I' ρ', en = .returned x ∧ VRep I' W' ρ' out.v x ∧ Left0 W W' := by
  have hnil : ∀ l : List Value, (l.map fun _ => (none : Option Nat)).filterMap id = [] := by
    intro l
    induction l with
    | nil => rfl
    | cons x l ih => simp
  obtain ⟨k1, k2, k3, hget⟩ := hok.get
  obtain ⟨hR, hV⟩ := (law_rep W).forth (law_gok hG) (args := args) (vals := vals) (los := los) (hos := vals.map fun _ => none) (pure := true) (by omega) (by rw [hnil]; exact List.nodup_nil) (by rw [hnil]; exact hok)
  have hF : ∀ b, ¬ overF (fun _ => none) ((vals.map fun _ => (none : Option Nat)).filterMap id) b := fun b ⟨x, r, e, _⟩ => by cases e
  refine Calls.mono (hS.2 args out vals W _ _ _ _ hout k1 (by omega) (fun i n e c hi => ?_) (fun b _ => hF b) hR hV) ?_
  · obtain ⟨x, l, ho, _, _, _, g⟩ := hget i _ hi
    exact g.2.1
  · rintro en W' ⟨x, I', ρ', ow', rfl, hx, hr⟩
    exact ⟨x, I', ρ', rfl, hx, fun b hb => hr.frame b hb (hF b), hr.size, hr.os, hr.output⟩
theorem Left0.kept {W W' : World} (h : Left0 W W') (may : MemPlace → Prop) : W.keptBut W' may := by
  refine ⟨h.os, h.output, fun i hi => ?_⟩
  rw [h.heap i hi]
  cases hh : W.heap[i]? with
  | none => rfl
  | some o => cases o <;> simp
theorem Left0.cell {W W' : World} (h : Left0 W W') {a : Addr} {v : Value} (hc : W.cell? a = some v) : W'.cell? a = some v := by
  have hb : a.block < W.heap.size := by
    simp only [World.cell?] at hc
    split at hc
    · rename_i hh; exact heap_lt hh
    · cases hc
  rw [World.cell?_of_block (h.heap _ hb)]
  exact hc
theorem mapM_some {α β : Type} {f g : α → Option β} : ∀ {l : List α} {ys : List β}, l.mapM f = some ys → (∀ a ∈ l, ∀ y, f a = some y → g a = some y) → l.mapM g = some ys
  | [], ys, h, _ => by simpa using h
  | a :: l, ys, h, hg => by
    simp only [List.mapM_cons, Option.bind_eq_bind, Option.bind_eq_some_iff, Option.pure_def, Option.some.injEq] at h ⊢
    obtain ⟨y, h1, r, h2, rfl⟩ := h
    exact ⟨y, hg a (by simp) y h1, r, mapM_some h2 (fun b hb => hg b (by simp [hb])), rfl⟩
theorem Left0.cells {W W' : World} (h : Left0 W W') {base : Nat} {a : Addr} {n : Nat} {cs : List Value} (hc : W.cells? base a n = some cs) : W'.cells? base a n = some cs := by
  simp only [World.cells?] at hc ⊢
  split at hc
  · rename_i hb
    rw [if_pos hb]
    exact mapM_some hc (fun i _ y hy => h.cell hy)
  · cases hc
/-- types of plain data -/
def plainT (P : Program) : Nat → TypeId → Bool
  | 0, _ => false
  | d + 1, t => match P.underlying t with
    | some .bool | some (.int _) | some .string => true
    | some (.slice e) => P.cellsOf e != 0 && plainT P d e
    | some (.array _ e) => plainT P d e
    | some (.struct fs) => fs.toList.all fun f => plainT P d f.type
    | _ => false
theorem mapM_of {α β : Type} {f : α → Option β} : ∀ {l : List α} {ys : List β}, ys.length = l.length → (∀ (i : Nat) (a : α), l[i]? = some a → f a = ys[i]?) → l.mapM f = some ys
  | [], [], _, _ => rfl
  | [], _ :: _, h, _ => by simp at h
  | _ :: _, [], h, _ => by simp at h
  | a :: l, y :: ys, h, hf => by
    have h0 := hf 0 a rfl
    have ih := mapM_of (l := l) (ys := ys) (by simpa using h) (fun i b hb => by simpa using hf (i + 1) b (by simpa using hb))
    simp only [List.getElem?_cons_zero] at h0
    simp [h0, ih]
theorem range_at {n i j : Nat} (h : (List.range n)[i]? = some j) : i = j ∧ i < n := by
  have h1 := (List.getElem?_eq_some_iff.1 h).1
  simp at h1
  rw [List.getElem?_range h1] at h
  cases h
  exact ⟨rfl, h1⟩
section
variable {H : Type} {enc : TypeId × Value → H} {P : Program} {W W' : World}
/-- Plain data read as before. -/
theorem Left0.trod (hW : Left0 W W') : ∀ (d fuel : Nat) (t : TypeId) (cs : List Value) (x : DataW H × List MemPlace), plainT P d t = true → DataW.trod enc P W 0 (fun _ => true) true fuel t cs = some x →
    DataW.trod enc P W' 0 (fun b => decide (b < W.heap.size)) true fuel t cs = some x := by
  intro d
  induction d with
  | zero => intro fuel t cs x h; cases h
  | succ d ih =>
    intro fuel t cs x hp h
    cases fuel with
    | zero => cases h
    | succ fuel =>
      simp only [plainT] at hp
      have leaf : ∀ {d : TypeDesc}, P.underlying t = some d → (d = .bool ∨ (∃ k, d = .int k) ∨ d = .string) → DataW.trod enc P W' 0 (fun b => decide (b < W.heap.size)) true (fuel + 1) t cs = DataW.trod enc P W 0 (fun _ => true) true (fuel + 1) t cs := fun ht hd => by
        unfold DataW.trod
        rw [ht]
        rcases hd with rfl | ⟨k, rfl⟩ | rfl <;> (rcases cs with _ | ⟨c, _ | ⟨c2, cs⟩⟩ <;> first | rfl | (cases c <;> rfl))
      split at hp
      · rename_i ht; rw [leaf ht (.inl rfl)]; exact h
      · rename_i k ht; rw [leaf ht (.inr (.inl ⟨k, rfl⟩))]; exact h
      · rename_i ht; rw [leaf ht (.inr (.inr rfl))]; exact h
      · rename_i e ht
        simp only [Bool.and_eq_true, bne_iff_ne] at hp
        obtain ⟨hz, hp⟩ := hp
        rcases DataW.trod_slice ht h with ⟨rfl, rfl⟩ | ⟨a, len, cap, elems, rest, n, e1, rfl, rfl, hb, hl, hm, hlen, hel, hsp, _⟩
        · unfold DataW.trod; rw [ht]; rfl
        · cases e1
          obtain ⟨hr1, hr2⟩ := hsp rfl
          have step : ∀ (o : Addr) (y : DataW H × List MemPlace), (W.cells? 0 o (P.cellsOf e)).bind (DataW.trod enc P W 0 (fun _ => true) true fuel e) = some y →
              (W'.cells? 0 o (P.cellsOf e)).bind (DataW.trod enc P W' 0 (fun b => decide (b < W.heap.size)) true fuel e) = some y := fun o y hy => by
            obtain ⟨c, hc, hy⟩ := Option.bind_eq_some_iff.1 hy
            rw [hW.cells hc]
            exact ih fuel e c y hp hy
          have blk : ∀ (o : Addr) (y : DataW H × List MemPlace), (W.cells? 0 o (P.cellsOf e)).bind (DataW.trod enc P W 0 (fun _ => true) true fuel e) = some y → o.block < W.heap.size := fun o y hy => by
            obtain ⟨c, hc, hy⟩ := Option.bind_eq_some_iff.1 hy
            have := (World.cells?_some hc).2.2 0 (by omega)
            simp only [World.cell?] at this
            split at this
            · rename_i hh; exact heap_lt hh
            · have hcs : 0 < c.length := by have := (World.cells?_some hc).2.1; omega
              rw [List.getElem?_eq_getElem hcs] at this
              cases this
          have hE : (List.range len).mapM (fun i => (W'.cells? 0 (a.add (i * P.cellsOf e)) (P.cellsOf e)).bind (DataW.trod enc P W' 0 (fun b => decide (b < W.heap.size)) true fuel e)) = some elems := by
            refine mapM_of (by simp [hlen]) fun i j hj => ?_
            replace hj := range_at hj
            obtain ⟨rfl, hj⟩ := hj
            rw [List.getElem?_eq_getElem (by omega)]
            exact step _ _ ((hel i hj).trans (List.getElem?_eq_getElem (by omega)))
          have hR : (if decide (a.block < W.heap.size) = true then (List.range (cap - len)).mapM (fun j => (W'.cells? 0 (a.add ((len + j) * P.cellsOf e)) (P.cellsOf e)).bind (DataW.trod enc P W' 0 (fun b => decide (b < W.heap.size)) true fuel e)) else some []) = some rest := by
            have hmap : (List.range (cap - len)).mapM (fun j => (W'.cells? 0 (a.add ((len + j) * P.cellsOf e)) (P.cellsOf e)).bind (DataW.trod enc P W' 0 (fun b => decide (b < W.heap.size)) true fuel e)) = some rest := by
              refine mapM_of (by simp [hr1]) fun i j hj => ?_
              replace hj := range_at hj
              obtain ⟨rfl, hj⟩ := hj
              rw [List.getElem?_eq_getElem (by omega)]
              exact step _ _ ((hr2 i hj).trans (List.getElem?_eq_getElem (by omega)))
            split
            · exact hmap
            · rename_i hnb
              cases rest with
              | nil => rfl
              | cons y rest =>
                exfalso
                have hpos : 0 < cap - len := by simp at hr1; omega
                have := blk _ y (hr2 0 hpos)
                refine hnb ?_
                simp only [Addr.add] at this
                split at this <;> simpa using this
          unfold DataW.trod
          rw [ht]
          simp only
          rw [if_pos ⟨hb, hl, hm⟩, hE]
          simp only [Option.bind_some]
          rw [hR]
          rfl
      · rename_i n e ht
        obtain ⟨xs, m, e1, rfl, hl, hlen, hel⟩ := DataW.trod_array ht h
        cases e1
        have hE : (List.range n).mapM (fun i => DataW.trod enc P W' 0 (fun b => decide (b < W.heap.size)) true fuel e ((cs.drop (i * P.cellsOf e)).take (P.cellsOf e))) = some xs := by
          refine mapM_of (by simp [hlen]) fun i j hj => ?_
          replace hj := range_at hj
          obtain ⟨rfl, hj⟩ := hj
          rw [List.getElem?_eq_getElem (by omega)]
          exact ih fuel e _ _ hp ((hel i hj).trans (List.getElem?_eq_getElem (by omega)))
        unfold DataW.trod
        rw [ht]
        rcases cs with _ | ⟨c, _ | ⟨c2, cs⟩⟩ <;> (simp only; rw [if_pos hl, hE]; rfl)
      · rename_i fs ht
        obtain ⟨xs, m, e1, rfl, hl, hlen, hel⟩ := DataW.trod_struct ht h
        cases e1
        have hE : fs.toList.mapM (fun f => DataW.trod enc P W' 0 (fun b => decide (b < W.heap.size)) true fuel f.type ((cs.drop f.offset).take (P.cellsOf f.type))) = some xs := by
          refine mapM_of (by simp [hlen]) fun i f hj => ?_
          have hj' : fs[i]? = some f := by simpa using hj
          have hi : i < xs.length := by have := (List.getElem?_eq_some_iff.1 hj).1; simp at this; omega
          rw [List.getElem?_eq_getElem hi]
          refine ih fuel f.type _ _ ?_ ((hel i f hj').trans (List.getElem?_eq_getElem hi))
          simp only [List.all_eq_true] at hp
          exact hp f (List.mem_of_getElem? hj)
        unfold DataW.trod
        rw [ht]
        rcases cs with _ | ⟨c, _ | ⟨c2, cs⟩⟩ <;> (simp only; rw [if_pos hl, hE]; rfl)
      · cases hp
theorem Left0.trodAll (hW : Left0 W W') : ∀ {ts : List TypeId} {vs : List Value} {ds : List (DataW H)} {ps : List MemPlace}, (∀ t ∈ ts, ∃ d, plainT P d t = true) → DataW.TrodAll enc P W 0 (fun _ => true) true ts vs ds ps →
    DataW.TrodAll enc P W' 0 (fun b => decide (b < W.heap.size)) true ts vs ds ps
  | [], [], [], _, _, h => h
  | t :: ts, v :: vs, d :: ds, ps, hp, ⟨p, q, ⟨fuel, h1⟩, h2, h3⟩ => by
    obtain ⟨dd, hd⟩ := hp t (by simp)
    exact ⟨p, q, ⟨fuel, hW.trod dd fuel t _ _ hd h1⟩, hW.trodAll (fun t ht => hp t (by simp [ht])) h2, h3⟩
  | [], _ :: _, _, _, _, h => h.elim
  | [], [], _ :: _, _, _, h => h.elim
  | _ :: _, [], _, _, _, h => h.elim
  | _ :: _, _ :: _, [], _, _, h => h.elim
/-- A law that returned true and left all as it was. -/
theorem law_post {f : Func} {s : ChangeSpec} {W W' : World} {args : Array Value} {ds : List (DataW H)} {p : List MemPlace} {t : TypeId} (hW : DataW.Whole enc P f.params.toList s.vars false W args.toList ds [] p) (hvars : s.vars = [])
    (hA : DataW.TrodAll enc P W 0 (fun _ => true) true f.params.toList args.toList ds p) (hres : f.resultTypes = #[t]) (ht : P.underlying t = some .bool) (hfn : s.fn H ds = { results := [.lit (.bool true)], args := ds })
    (hp : ∀ t ∈ f.params.toList, ∃ d, plainT P d t = true) (hL : Left0 W W') : s.post enc P f false true false false W args (.bool true) W' := by
  refine ⟨ds, [], p, [], p, [], hW, ?_, ?_, ?_, hL.kept _, fun h => by cases h⟩
  · rw [hres, List.append_nil, hfn]
    refine ⟨[], [], ⟨1, ?_⟩, rfl, rfl⟩
    unfold DataW.trod
    rw [ht]
    rfl
  · rw [List.append_nil, hfn]
    exact hL.trodAll hp hA
  · rw [hvars, List.append_nil, hfn]
    rfl
abbrev LArg (W : World) : Arg → Value → Lo → Option Nat → Prop := ArgOk (fun b => b < W.heap.size) W (lawRho W) (fun _ => none) ⟨fun _ => .any, fun _ => none⟩ true []
theorem lit_wf {k : IntKind} {n : Int} (h : (Lit.int k n).wf = true) : inR k n := by
  simp only [Lit.wf, Bool.and_eq_true, decide_eq_true_eq] at h
  exact h
theorem slice_has {t e : TypeId} (ht : P.underlying t = some (.slice e)) {base : Nat} {a : Addr} {n c : Nat} (hval : Value.okWide P W .any base t (.slice (some a) n c)) : a.spot = none ∧ a.block < W.heap.size := by
  have h : W.has P .any base a e c := by
    simp only [Value.okWide, ht, Cell.okWide, Cell.ok] at hval
    exact hval.2.2
  refine ⟨h.2.1, ?_⟩
  obtain ⟨row, cells, h3, _⟩ := h.2.2
  simp only [World.shape?] at h3
  split at h3
  · rename_i hh; exact heap_lt hh
  · cases h3
theorem slice_is {t e : TypeId} (ht : P.underlying t = some (.slice e)) {base : Nat} {v : Value} (hval : Value.okWide P W .any base t v) : ∃ ad n c, v = .slice ad n c := by
  simp only [Value.okWide, ht, Cell.okWide, Cell.ok] at hval
  cases v <;> simp_all
end
end Go.Cx
/- CxLaw2 -/
namespace Go.Cx
open Go Go.ChangeShapes Go.WideShapes Go.ChangeAt Go.RowKit Go.ChangeMaps
section
variable {H : Type} {enc : TypeId × Value → H} {P : Program} {W : World}
theorem law_int {k : IntKind} {t : TypeId} (ht : P.underlying t = some (.int k)) {base : Nat} {v : Value} {d : DataW H} {p : List MemPlace}
    (hval : Value.okWide P W .any base t v) (h : DataW.Trod enc P W 0 (fun _ => true) true t v d p) : ∃ n lo, LArg W (.v (.int k n)) v lo none := by
  obtain ⟨n, rfl, _, _, hw⟩ := open_int ht hval h
  exact ⟨n, .ph, int_vr (lit_wf hw), rfl⟩
end
end Go.Cx
/- CxLaw3 -/
namespace Go.Cx
open Go Go.ChangeShapes Go.WideShapes Go.ChangeAt Go.RowKit
section
variable {H : Type} {enc : TypeId × Value → H} {P : Program} {W : World}
theorem add_none {b off j : Nat} : (⟨b, off, none⟩ : Addr).add j = ⟨b, off + j, none⟩ := by
  simp only [Addr.add]
  split
  · rename_i e; subst e; rfl
  · rfl
end
end Go.Cx
/- CxLaw4 -/
namespace Go.Cx
open Go Go.ChangeShapes Go.WideShapes Go.ChangeAt Go.RowKit Go.ChangeMaps
/-- what numbers, arrays and structs of them hold -/
def Flat : V → Prop
  | .bool _ | .int _ _ | .ints _ _ _ => True
  | .cat _ _ a b => Flat a ∧ Flat b
  | .rows _ _ f => ∀ j, Flat (f j)
  | _ => False
theorem flat_rep {I : Nat → Prop} {w : World} {ow : Own} (c : V) : Flat c → ∀ {ρ ρ' : Rho} {q q' : List Nat} {pos pos' : Nat} {g g' : Nat → Option Value}, (∀ j, j < c.size → g' j = g j) → CRep I w ow c ρ q pos g → CRep I w ow c ρ' q' pos' g' := by
  induction c with
  | bool b => intro _ ρ ρ' q q' pos pos' g g' e h; exact (e 0 (by simp [V.size])).trans h
  | int k n => intro _ ρ ρ' q q' pos pos' g g' e h; exact ⟨(e 0 (by simp [V.size])).trans h.1, h.2⟩
  | ints k n l => intro _ ρ ρ' q q' pos pos' g g' e h; exact ⟨h.1, h.2.1, fun j hj => (e j hj).trans (h.2.2 j hj)⟩
  | cat n m a b iha ihb =>
    intro hf ρ ρ' q q' pos pos' g g' e h
    obtain ⟨ha, hb, h1, h2⟩ := h
    refine ⟨ha, hb, iha hf.1 (fun j hj => e j (by simp only [V.size]; omega)) h1, ihb hf.2 (fun j hj => e (n + j) (by simp only [V.size]; omega)) h2⟩
  | rows s n f ih =>
    intro hf ρ ρ' q q' pos pos' g g' e h j hj
    obtain ⟨h1, h2⟩ := h j hj
    refine ⟨h1, ih j (hf j) (fun r hr => e (j * s + r) ?_) h2⟩
    simp only [V.size]
    have : (j + 1) * s ≤ n * s := Nat.mul_le_mul_right _ hj
    rw [Nat.add_mul] at this
    omega
  | _ => intro hf; exact hf.elim
/-- cells that hold c -/
def Piece (W : World) (cs : List Value) (c : V) : Prop := cs.length = c.size ∧ Flat c ∧ CRep (fun b => b < W.heap.size) W (fun _ => none) c noR [] 0 (fun j => cs[j]?)
theorem Piece.cat {W : World} {cs : List Value} {n : Nat} {a b : V} (h1 : Piece W (cs.take n) a) (hn : n ≤ cs.length) (h2 : Piece W (cs.drop n) b) : Piece W cs (.cat n (cs.length - n) a b) := by
  obtain ⟨a1, a2, a3⟩ := h1
  obtain ⟨b1, b2, b3⟩ := h2
  simp only [List.length_take, List.length_drop] at a1 b1
  refine ⟨by simp only [V.size]; omega, ⟨a2, b2⟩, by omega, by omega, flat_rep a a2 (fun j hj => ?_) a3, flat_rep b b2 (fun j hj => ?_) b3⟩
  · rw [List.getElem?_take, if_pos (by omega)]
  · rw [List.getElem?_drop]
section
variable {H : Type} {enc : TypeId × Value → H} {P : Program} {W : World}
theorem piece_bool {t : TypeId} (ht : P.underlying t = some .bool) {fuel : Nat} {cs : List Value} {x : DataW H × List MemPlace} (h : DataW.trod enc P W 0 (fun _ => true) true fuel t cs = some x) : ∃ u, Piece W cs (.bool u) := by
  obtain ⟨b, rfl, _⟩ := DataW.trod_bool ht h
  exact ⟨b, rfl, trivial, rfl⟩
theorem piece_int {k : IntKind} {t : TypeId} (ht : P.underlying t = some (.int k)) {fuel : Nat} {cs : List Value} {x : DataW H × List MemPlace} (h : DataW.trod enc P W 0 (fun _ => true) true fuel t cs = some x) : ∃ n, Piece W cs (.int k n) := by
  obtain ⟨b, rfl, _, hw⟩ := DataW.trod_int ht h
  exact ⟨b, rfl, trivial, rfl, lit_wf hw⟩
end
end Go.Cx
/- CxLaw5 -/
namespace Go.Cx
open Go Go.ChangeShapes Go.WideShapes Go.ChangeAt Go.RowKit
section
variable {H : Type} {enc : TypeId × Value → H} {P : Program} {W : World}
/-- a slice of plain structs that no one writes, as a statement reads it -/
theorem law_objs {t e : TypeId} {s : Nat} (ht : P.underlying t = some (.slice e)) (hc : P.cellsOf e = s) {base : Nat} {v : Value} {d : DataW H} {p : List MemPlace}
    (hval : Value.okWide P W .any base t v) (h : DataW.Trod enc P W 0 (fun _ => true) true t v d p) {Q : V → Prop} {c0 : V} (h0 : Q c0 ∧ c0.size = s)
    (hp : ∀ fuel cs x, DataW.trod enc P W 0 (fun _ => true) true fuel e cs = some x → ∃ c, Q c ∧ c.size = s ∧ Piece W cs c) :
    ∃ n f lo, (∀ j, Q (f j)) ∧ LArg W (.v (.dsl n s (.rows s n f))) v lo none ∧ n ≤ 9223372036854775807 := by
  obtain ⟨fuel, h⟩ := h
  obtain ⟨ad, n, c, rfl⟩ := slice_is ht hval
  rcases DataW.trod_slice ht h with ⟨h1, h2⟩ | ⟨a, len, cap, elems, rest, f, _, h1, h2, _, h3, h4, h5, h6, h7, _⟩
  · simp only [Value.cells, List.cons.injEq, Value.slice.injEq, and_true] at h1
    obtain ⟨rfl, rfl, rfl⟩ := h1
    exact ⟨0, fun _ => c0, .ph, fun _ => h0.1, ⟨leaf_vr rfl rfl rfl ⟨none, 0, rfl, Nat.le_refl _, by simp, ⟨rfl, rfl⟩, fun j hj => by omega, .inl rfl⟩, rfl⟩, by decide⟩
  · simp only [Value.cells, List.cons.injEq, Value.slice.injEq, and_true] at h1
    obtain ⟨rfl, rfl, rfl⟩ := h1
    cases h2
    obtain ⟨ha, hblk⟩ := slice_has ht hval
    obtain ⟨b, off, sp⟩ := a
    simp only at ha hblk
    subst ha
    rw [hc] at h6
    have each : ∀ j, ∃ k : V, Q k ∧ k.size = s ∧ (j < n → CRep (fun b => b < W.heap.size) W (fun _ => none) k noR [] 0 (fun r => W.cell? ⟨b, off + (j * s + r), none⟩)) := fun j => by
      by_cases hj : j < n
      · have h0 := h6 j hj
        rw [add_none, List.getElem?_eq_getElem (by omega)] at h0
        obtain ⟨cs, hcs, h0⟩ := Option.bind_eq_some_iff.1 h0
        obtain ⟨_, hl, hcell⟩ := World.cells?_some hcs
        obtain ⟨k, hq, hs, _, hf, hr⟩ := hp _ _ _ h0
        refine ⟨k, hq, hs, fun _ => flat_rep _ hf (fun r hr => ?_) hr⟩
        have hx := hcell r (by omega)
        rw [add_none] at hx
        rw [show off + (j * s + r) = off + j * s + r by omega]
        exact hx
      · exact ⟨c0, h0.1, h0.2, fun h => absurd h hj⟩
    obtain ⟨ml, hml⟩ := Classical.skolem.1 each
    refine ⟨n, ml, .ph, fun j => (hml j).1, ⟨leaf_vr rfl rfl rfl ⟨_, c, rfl, h3, h4, ⟨rfl, rfl⟩, fun j hj => ⟨(hml j).2.1, ?_⟩, .inr ⟨b, off, rfl, hblk⟩⟩, rfl⟩, by simp only [maxLen] at h4; omega⟩
    exact (hml j).2.2 hj
end
end Go.Cx
/- CxdPu -/
namespace Go.Cx.Rd
open Go Go.Cx Go.Proofs
/-- the functions that write to no object of the caller's; the slices that are handed over as they are, or to be written; what is made for good -/
def pu (f : Nat) : Bool := f != 10 && f != 12 && f != 13 && f != 14 && f != 15 && f != 16 && f != 17 && f != 19 && f != 20 && f != 21 && f != 22 && f != 23 && f != 24 && f != 25 && f != 26 && f != 27 && f != 28 && f != 29 && f != 30 && f != 31 && f != 32 && f != 34 && f != 35 && f != 36 && f != 37 && f != 38 && f != 39 && f != 40 && f != 41 && f != 42 && f != 43 && f != 44 && f != 45 && f != 49 && f != 50 && f != 3000039
end Go.Cx.Rd
/- CxdSpec -/
namespace Go.Cx.Rd
open Go Go.Cx
theorem apf_e {α β : Type} (f : α → β) (x : α) : apf α β f x = f x := congrArg (fun g : α → β => g x) (rfl : apf α β f = f)
/-- what a device holds: the blocks that last, the writes taken, the log, the counters, the power, the plan, the refusals, the steps -/
structure DvP where
  nb : Nat
  L : Nat → List Int
  nt : Nat
  T : Nat → Int × List Int
  ng : Nat
  G : Nat → Int × List Int
  cm : Int
  bt : Int
  off : Bool
  ps : Bool
  pa : Int
  pk : Int
  nr : Nat
  rd : Nat → Bool
  nw : Nat
  wr : Nat → Bool
  st : Int
def bkV (ap : AP) (x : Nat → List Int) : Nat → V := fun j => .dsl 512 1 (.ints .u8 512 (ap _ _ x j))
def wrV (ap : AP) (x : Nat → Int × List Int) : Nat → V := fun j => .cat 1 1 (.int .i64 (ap _ _ Prod.fst (ap _ _ x j))) (.dsl 512 1 (.ints .u8 512 (ap _ _ Prod.snd (ap _ _ x j))))
def blV (ap : AP) (x : Nat → Bool) : Nat → V := fun j => .bool (ap _ _ x j)
def unbk : V → List Int
  | .dsl _ _ (.ints _ _ l) => l
  | _ => []
def unbks (f : Nat → V) (j : Nat) : List Int := unbk (f j)
def unwr : V → Int × List Int
  | .cat _ _ (.int _ b) (.dsl _ _ (.ints _ _ l)) => (b, l)
  | _ => (0, [])
def unwrs (f : Nat → V) (j : Nat) : Int × List Int := unwr (f j)
def unbl : V → Bool
  | .bool b => b
  | _ => false
def unbls (f : Nat → V) (j : Nat) : Bool := unbl (f j)
def isBk (f : Nat → V) : Prop := f = bkV apf (unbks f)
def isWr (f : Nat → V) : Prop := f = wrV apf (unwrs f)
def isBl (f : Nat → V) : Prop := f = blV apf (unbls f)
theorem isBk_s (x : Nat → List Int) : isBk (bkV apf x) := rfl
theorem isWr_s (x : Nat → Int × List Int) : isWr (wrV apf x) := rfl
theorem isBl_s (x : Nat → Bool) : isBl (blV apf x) := rfl
theorem unbks_s (x : Nat → List Int) : unbks (bkV apf x) = x := rfl
theorem unwrs_s (x : Nat → Int × List Int) : unwrs (wrV apf x) = x := rfl
theorem unbls_s (x : Nat → Bool) : unbls (blV apf x) = x := rfl
/-- a device's content -/
def dvA (ap : AP) (d : DvP) : V :=
  .cat 1 11 (.osl (ap _ _ DvP.nb d) 1 (.rows 1 (ap _ _ DvP.nb d) (bkV ap (ap _ _ DvP.L d))))
  (.cat 1 10 (.osl (ap _ _ DvP.nt d) 2 (.rows 2 (ap _ _ DvP.nt d) (wrV ap (ap _ _ DvP.T d))))
  (.cat 1 9 (.osl (ap _ _ DvP.ng d) 2 (.rows 2 (ap _ _ DvP.ng d) (wrV ap (ap _ _ DvP.G d))))
  (.cat 1 8 (.int .u64 (ap _ _ DvP.cm d))
  (.cat 1 7 (.int .u64 (ap _ _ DvP.bt d))
  (.cat 1 6 (.bool (ap _ _ DvP.off d))
  (.cat 3 3 (.cat 1 2 (.bool (ap _ _ DvP.ps d)) (.cat 1 1 (.int .i64 (ap _ _ DvP.pa d)) (.int .u64 (ap _ _ DvP.pk d))))
  (.cat 1 2 (.osl (ap _ _ DvP.nr d) 1 (.rows 1 (ap _ _ DvP.nr d) (blV ap (ap _ _ DvP.rd d))))
  (.cat 1 1 (.osl (ap _ _ DvP.nw d) 1 (.rows 1 (ap _ _ DvP.nw d) (blV ap (ap _ _ DvP.wr d))))
  (.int .i64 (ap _ _ DvP.st d))))))))))
/-- content read as a device's -/
def dvR (ap : AP) : V → R DvP
  | .cat 1 11 (.osl n1 1 (.rows 1 m1 f1)) (.cat 1 10 (.osl n2 2 (.rows 2 m2 f2)) (.cat 1 9 (.osl n3 2 (.rows 2 m3 f3)) (.cat 1 8 (.int .u64 cm) (.cat 1 7 (.int .u64 bt) (.cat 1 6 (.bool off)
      (.cat 3 3 (.cat 1 2 (.bool ps) (.cat 1 1 (.int .i64 pa) (.int .u64 pk))) (.cat 1 2 (.osl n4 1 (.rows 1 m4 f4)) (.cat 1 1 (.osl n5 1 (.rows 1 m5 f5)) (.int .i64 st))))))))) =>
      .chk (ap _ _ (ap _ _ eqN n1) m1) <| .chk (ap _ _ (ap _ _ eqN n2) m2) <| .chk (ap _ _ (ap _ _ eqN n3) m3) <| .chk (ap _ _ (ap _ _ eqN n4) m4) <| .chk (ap _ _ (ap _ _ eqN n5) m5) <|
      .chk (ap _ _ isBk f1) <| .chk (ap _ _ isWr f2) <| .chk (ap _ _ isWr f3) <| .chk (ap _ _ isBl f4) <| .chk (ap _ _ isBl f5) <|
      .ok ⟨n1, ap _ _ unbks f1, n2, ap _ _ unwrs f2, n3, ap _ _ unwrs f3, cm, bt, off, ps, pa, pk, n4, ap _ _ unbls f4, n5, ap _ _ unbls f5, st⟩
  | _ => .fail 400
theorem dvR_to {c : V} {d : DvP} (h : (dvR apf c).to d) : c = dvA apf d := by
  unfold dvR at h
  split at h
  · obtain ⟨h1, h2, h3, h4, h5, h6, h7, h8, h9, h10, h⟩ := h
    cases h
    simp only [apf, eqN] at h1 h2 h3 h4 h5
    subst h1 h2 h3 h4 h5
    simp only [apf, isBk, isWr, isBl] at h6 h7 h8 h9 h10
    simp only [dvA, apf]
    rw [← h6, ← h7, ← h8, ← h9, ← h10]
  · exact h.elim
theorem dv_eta (d : DvP) : (⟨d.nb, d.L, d.nt, d.T, d.ng, d.G, d.cm, d.bt, d.off, d.ps, d.pa, d.pk, d.nr, d.rd, d.nw, d.wr, d.st⟩ : DvP) = d := rfl
/-- what is asked of the fields' ranges -/
theorem dvA_ok {d : DvP} (h : (dvA apf d).okv) : inR .u64 d.cm ∧ inR .u64 d.bt ∧ inR .i64 d.pa ∧ inR .u64 d.pk ∧ inR .i64 d.st ∧
    (∀ j, j < d.nb → (d.L j).length = 512 ∧ ∀ y ∈ d.L j, inR .u8 y) ∧
    (∀ j, j < d.nt → inR .i64 (d.T j).1 ∧ (d.T j).2.length = 512 ∧ ∀ y ∈ (d.T j).2, inR .u8 y) ∧
    (∀ j, j < d.ng → inR .i64 (d.G j).1 ∧ (d.G j).2.length = 512 ∧ ∀ y ∈ (d.G j).2, inR .u8 y) := by
  obtain ⟨h1, h2, h3, h4, h5, _, ⟨_, h6, h7⟩, _, _, h8⟩ := h
  exact ⟨h4, h5, h6, h7, h8, h1, h2, h3⟩
def onD (d : DvP) : DvP := { d with off := false }
def rdyE (d : DvP) : Int := if d.off then 10 else 0
def hasB (d : DvP) (b : Int) : Bool := decide (0 ≤ b) && decide (b < d.nb)
def failD (d : DvP) (a k : Int) : DvP := { d with ps := decide (0 ≤ a), pa := a, pk := k }
def cmE (d : DvP) : Int := if d.off then 0 else d.cm
def btE (d : DvP) : Int := if d.off then 0 else d.bt
def cOn (ap : AP) : Ctr
  | [.v .nilp] => .ok ⟨.int .i64 1, [], []⟩
  | [.o c none] => (dvR ap c).bind fun d => .ok ⟨.int .i64 0, [dvA ap (ap _ _ onD d)], []⟩
  | _ => .fail 401
def cRdy (ap : AP) : Ctr
  | [.v .nilp] => .ok ⟨.int .i64 1, [], []⟩
  | [.o c none] => (dvR ap c).bind fun d => .ok ⟨.int .i64 (ap _ _ rdyE d), [dvA ap d], []⟩
  | _ => .fail 402
def cHas (ap : AP) : Ctr
  | [.o c none, .v (.int .i64 b)] => (dvR ap c).bind fun d => .ok ⟨.bool (ap _ _ (ap _ _ hasB d) b), [dvA ap d], []⟩
  | _ => .fail 403
def cNb (ap : AP) : Ctr
  | [.v .nilp] => .ok ⟨.int .i64 0, [], []⟩
  | [.o c none] => (dvR ap c).bind fun d => .ok ⟨.int .i64 (ap _ _ lenI (ap _ _ DvP.nb d)), [dvA ap d], []⟩
  | _ => .fail 405
end Go.Cx.Rd
/- CxdCodeV -/
namespace Go.Cx.Rd
open Go Go.Cx Go.Proofs
def ic3 : IFn := ⟨2,144,[.t 4],
  (.seq (.reg [5,6,31,1,46,47,48,8,7,0,59,61,60,62,10,9,67,11,87,12,14,13,98,118,123,124,125,15,17,16,142,4] [⟨some 4,none,.mv (.c .ff)⟩])
  (.seq (.reg [5,6,31,1,46,47,48,8,7,0,59,61,60,62,10,9,67,11,87,12,14,13,98,118,123,124,125,15,17,16,142,4] [⟨some 19,none,.call 8 true [((.c (.lit .i64 5)),.v),((.c (.lit .u64 0)),.v),((.c (.lit .u64 0)),.v)]⟩,⟨some 18,none,.mv (.t 19)⟩,⟨some 20,none,.ext 0 (.t 18)⟩,⟨some 21,none,.ext 1 (.t 18)⟩,⟨some 5,none,.mv (.t 20)⟩,⟨some 6,none,.mv (.t 21)⟩])
  (.seq (.seq (.reg [5,6,31,1,46,47,48,8,7,0,59,61,60,62,10,9,67,11,87,12,14,13,98,118,123,124,125,15,17,16,142,4] [⟨some 22,none,.mv (.t 5)⟩,⟨some 23,none,.eq .p false (.t 22) (.c .nilp)⟩,⟨some 24,none,.mv (.t 23)⟩,⟨some 25,some (24,false),.mv (.t 6)⟩,⟨some 26,some (24,false),.cmp .neq (.t 25) (.c (.lit .i64 0))⟩,⟨some 27,none,.pick (.t 24) (.c .tt) (.t 26)⟩,⟨some 28,none,.mv (.t 27)⟩,⟨some 29,some (28,false),.call 9 true []⟩,⟨some 30,some (28,false),.not (.t 29)⟩,⟨some 31,none,.pick (.t 28) (.c .tt) (.t 30)⟩])
  (.cond (.t 31)
    (.seq (.reg [5,6,31,1,46,47,48,8,7,0,59,61,60,62,10,9,67,11,87,12,14,13,98,118,123,124,125,15,17,16,142,4] [⟨some 4,none,.mv (.c .ff)⟩])
    .ret)
    .skip))
  (.seq (.reg [5,6,31,1,46,47,48,8,7,0,59,61,60,62,10,9,67,11,87,12,14,13,98,118,123,124,125,15,17,16,142,4] [⟨some 32,none,.mv (.t 1)⟩,⟨some 33,none,.cv .u64 (.t 32)⟩,⟨some 34,none,.ar .rem .u64 (.t 33) (.c (.lit .u64 5))⟩,⟨some 35,none,.cv .i64 (.t 34)⟩,⟨some 1,none,.mv (.t 35)⟩])
  (.seq (.seq (.reg [5,6,31,1,46,47,48,8,7,0,59,61,60,62,10,9,67,11,87,12,14,13,98,118,123,124,125,15,17,16,142,4] [⟨some 36,none,.mv (.t 5)⟩,⟨some 37,none,.mv (.t 1)⟩,⟨some 38,none,.call 11 true [((.c (.lit .u8 7)),.v),((.c (.lit .i64 512)),.v)]⟩,⟨some 39,none,.call 10 false [((.t 36),.v),((.t 37),.v),((.t 38),.b (.i .u8))]⟩,⟨some 40,none,.cmp .neq (.t 39) (.c (.lit .i64 0))⟩,⟨some 41,none,.mv (.t 40)⟩,⟨some 42,some (41,false),.mv (.t 5)⟩,⟨some 43,some (41,false),.mv (.t 1)⟩,⟨some 44,some (41,false),.call 12 false [((.t 42),.v),((.t 43),.v),((.c .tt),.v),((.c .tt),.v)]⟩,⟨some 45,some (41,false),.cmp .neq (.t 44) (.c (.lit .i64 0))⟩,⟨some 46,none,.pick (.t 41) (.c .tt) (.t 45)⟩])
  (.cond (.t 46)
    (.seq (.reg [5,6,31,1,46,47,48,8,7,0,59,61,60,62,10,9,67,11,87,12,14,13,98,118,123,124,125,15,17,16,142,4] [⟨some 4,none,.mv (.c .ff)⟩])
    .ret)
    .skip))
  (.seq (.reg [5,6,31,1,46,47,48,8,7,0,59,61,60,62,10,9,67,11,87,12,14,13,98,118,123,124,125,15,17,16,142,4] [⟨some 7,none,.alloc (.rows 1 5 (.v (.str [])))⟩])
  (.seq (.seq (.reg [5,6,31,1,46,47,48,8,7,0,59,61,60,62,10,9,67,11,87,12,14,13,98,118,123,124,125,15,17,16,142,4] [⟨some 47,none,.mv (.c (.lit .i64 0))⟩])
  (.block 0 (.loop 0 (.seq (.reg [5,6,31,1,46,47,48,8,7,0,59,61,60,62,10,9,67,11,87,12,14,13,98,118,123,124,125,15,17,16,142,4] [⟨some 48,none,.cmp .lss (.t 47) (.c (.lit .i64 5))⟩])
   (.seq (.cond (.t 48)
     .skip
     (.exit 0))
   (.seq (.block 1 (.seq (.reg [5,6,31,1,46,47,48,8,7,0,59,61,60,62,10,9,67,11,87,12,14,13,98,118,123,124,125,15,17,16,142,4] [⟨some 49,none,.mv (.t 47)⟩,⟨some 8,none,.mv (.t 49)⟩])
   (.reg [5,6,31,1,46,47,48,8,7,0,59,61,60,62,10,9,67,11,87,12,14,13,98,118,123,124,125,15,17,16,142,4] [⟨some 50,none,.mv (.t 8)⟩,⟨some 51,none,.mks (.i .u8) 1 (.c (.lit .i64 512))⟩,⟨some 52,none,.b2s (.t 51)⟩,⟨some 53,none,.iaA 5 1 (.t 7) (.t 50)⟩,⟨none,none,.st 1 (.t 53) (.t 52)⟩])))
   (.reg [5,6,31,1,46,47,48,8,7,0,59,61,60,62,10,9,67,11,87,12,14,13,98,118,123,124,125,15,17,16,142,4] [⟨some 54,none,.ar .add .i64 (.t 47) (.c (.lit .i64 1))⟩,⟨some 47,none,.mv (.t 54)⟩])))))))
  (.seq (.reg [5,6,31,1,46,47,48,8,7,0,59,61,60,62,10,9,67,11,87,12,14,13,98,118,123,124,125,15,17,16,142,4] [⟨some 55,none,.mv (.t 1)⟩,⟨some 56,none,.call 11 true [((.c (.lit .u8 7)),.v),((.c (.lit .i64 512)),.v)]⟩,⟨some 57,none,.b2s (.t 56)⟩,⟨some 58,none,.iaA 5 1 (.t 7) (.t 55)⟩,⟨none,none,.st 1 (.t 58) (.t 57)⟩])
  (.seq (.seq (.reg [5,6,31,1,46,47,48,8,7,0,59,61,60,62,10,9,67,11,87,12,14,13,98,118,123,124,125,15,17,16,142,4] [⟨some 59,none,.mv (.t 0)⟩,⟨some 60,none,.lenS (.t 59)⟩,⟨some 61,none,.mv (.c (.lit .i64 0))⟩])
  (.block 2 (.loop 1 (.seq (.reg [5,6,31,1,46,47,48,8,7,0,59,61,60,62,10,9,67,11,87,12,14,13,98,118,123,124,125,15,17,16,142,4] [⟨some 62,none,.cmp .lss (.t 61) (.t 60)⟩])
   (.seq (.cond (.t 62)
     .skip
     (.exit 2))
   (.seq (.block 3 (.seq (.reg [5,6,31,1,46,47,48,8,7,0,59,61,60,62,10,9,67,11,87,12,14,13,98,118,123,124,125,15,17,16,142,4] [⟨some 63,none,.mv (.t 61)⟩,⟨some 64,none,.iaS 5 (.t 59) (.t 61)⟩,⟨some 65,none,.ld 5 true (.t 64)⟩,⟨some 10,none,.alloc (.cat 1 4 (.v (.lit .i64 0)) (.cat 1 3 (.v (.lit .i64 0)) (.cat 1 2 (.v (.lit .u8 0)) (.cat 1 1 (.v (.lit .u64 0)) (.v .ff)))))⟩,⟨some 9,none,.mv (.t 63)⟩,⟨none,none,.st 5 (.t 10) (.t 65)⟩])
   (.seq (.seq (.reg [5,6,31,1,46,47,48,8,7,0,59,61,60,62,10,9,67,11,87,12,14,13,98,118,123,124,125,15,17,16,142,4] [⟨some 66,none,.mv (.t 9)⟩,⟨some 67,none,.cmp .geq (.t 66) (.c (.lit .i64 60))⟩])
   (.cond (.t 67)
     (.exit 2)
     .skip))
   (.seq (.reg [5,6,31,1,46,47,48,8,7,0,59,61,60,62,10,9,67,11,87,12,14,13,98,118,123,124,125,15,17,16,142,4] [⟨some 68,none,.fa 1 1 (.t 10)⟩,⟨some 69,none,.ld 1 false (.t 68)⟩,⟨some 70,none,.cv .u64 (.t 69)⟩,⟨some 71,none,.ar .rem .u64 (.t 70) (.c (.lit .u64 5))⟩,⟨some 72,none,.cv .i64 (.t 71)⟩,⟨some 11,none,.mv (.t 72)⟩])
   (.seq (.reg [5,6,31,1,46,47,48,8,7,0,59,61,60,62,10,9,67,11,87,12,14,13,98,118,123,124,125,15,17,16,142,4] [⟨some 73,none,.mv (.t 5)⟩,⟨some 74,none,.mv (.t 11)⟩,⟨some 75,none,.fa 2 1 (.t 10)⟩,⟨some 76,none,.ld 1 false (.t 75)⟩,⟨some 77,none,.call 11 true [((.t 76),.v),((.c (.lit .i64 512)),.v)]⟩,⟨some 78,none,.call 10 false [((.t 73),.v),((.t 74),.v),((.t 77),.b (.i .u8))]⟩,⟨some 12,none,.mv (.t 78)⟩])
   (.seq (.reg [5,6,31,1,46,47,48,8,7,0,59,61,60,62,10,9,67,11,87,12,14,13,98,118,123,124,125,15,17,16,142,4] [⟨some 80,none,.mv (.t 5)⟩,⟨some 81,none,.mv (.t 11)⟩,⟨some 82,none,.call 13 false [((.t 80),.v),((.t 81),.v)]⟩,⟨some 79,none,.mv (.t 82)⟩,⟨some 83,none,.ext 0 (.t 79)⟩,⟨some 84,none,.ext 1 (.t 79)⟩,⟨some 13,none,.mv (.t 83)⟩,⟨some 14,none,.mv (.t 84)⟩])
   (.seq (.seq (.reg [5,6,31,1,46,47,48,8,7,0,59,61,60,62,10,9,67,11,87,12,14,13,98,118,123,124,125,15,17,16,142,4] [⟨some 85,none,.mv (.t 11)⟩,⟨some 86,none,.mv (.t 1)⟩,⟨some 87,none,.cmp .eql (.t 85) (.t 86)⟩])
   (.cond (.t 87)
     (.seq (.seq (.reg [5,6,31,1,46,47,48,8,7,0,59,61,60,62,10,9,67,11,87,12,14,13,98,118,123,124,125,15,17,16,142,4] [⟨some 88,none,.mv (.t 12)⟩,⟨some 89,none,.cmp .neq (.t 88) (.c (.lit .i64 11))⟩,⟨some 90,none,.mv (.t 89)⟩,⟨some 91,some (90,false),.mv (.t 14)⟩,⟨some 92,some (90,false),.cmp .neq (.t 91) (.c (.lit .i64 11))⟩,⟨some 93,none,.pick (.t 90) (.c .tt) (.t 92)⟩,⟨some 94,none,.mv (.t 93)⟩,⟨some 95,some (94,false),.mv (.t 13)⟩,⟨some 96,some (94,false),.lenS (.t 95)⟩,⟨some 97,some (94,false),.cmp .neq (.t 96) (.c (.lit .i64 0))⟩,⟨some 98,none,.pick (.t 94) (.c .tt) (.t 97)⟩])
     (.cond (.t 98)
       (.seq (.reg [5,6,31,1,46,47,48,8,7,0,59,61,60,62,10,9,67,11,87,12,14,13,98,118,123,124,125,15,17,16,142,4] [⟨some 4,none,.mv (.c .ff)⟩])
       .ret)
       .skip))
     (.exit 3))
     .skip))
   (.seq (.reg [5,6,31,1,46,47,48,8,7,0,59,61,60,62,10,9,67,11,87,12,14,13,98,118,123,124,125,15,17,16,142,4] [⟨some 99,none,.mv (.t 11)⟩,⟨some 100,none,.fa 2 1 (.t 10)⟩,⟨some 101,none,.ld 1 false (.t 100)⟩,⟨some 102,none,.call 11 true [((.t 101),.v),((.c (.lit .i64 512)),.v)]⟩,⟨some 103,none,.b2s (.t 102)⟩,⟨some 104,none,.iaA 5 1 (.t 7) (.t 99)⟩,⟨none,none,.st 1 (.t 104) (.t 103)⟩])
   (.seq (.dreg [5,6,31,1,46,47,48,8,7,0,59,61,60,62,10,9,67,11,87,12,14,13,98,118,123,124,125,15,17,16,142,4] [⟨⟨some 105,none,.mv (.t 12)⟩,[],[],none⟩,⟨⟨some 106,none,.cmp .neq (.t 105) (.c (.lit .i64 0))⟩,[],[],none⟩,⟨⟨some 107,none,.mv (.t 106)⟩,[],[],none⟩,⟨⟨some 108,some (107,false),.mv (.t 14)⟩,[],[],none⟩,⟨⟨some 109,some (107,false),.cmp .neq (.t 108) (.c (.lit .i64 0))⟩,[],[],none⟩,⟨⟨some 110,none,.pick (.t 107) (.c .tt) (.t 109)⟩,[],[],none⟩,⟨⟨some 111,none,.mv (.t 110)⟩,[],[],none⟩,⟨⟨some 112,some (111,false),.mv (.t 13)⟩,[],[],none⟩,⟨⟨some 113,some (111,false),.b2s (.t 112)⟩,[],[],none⟩,⟨⟨some 114,some (111,false),.mv (.t 11)⟩,[],[],none⟩,⟨⟨some 115,some (111,false),.iaA 5 1 (.t 7) (.t 114)⟩,[],[],none⟩,⟨⟨some 116,some (111,false),.ld 1 false (.t 115)⟩,[],[],none⟩,⟨⟨some 117,some (111,false),.eq .s true (.t 113) (.t 116)⟩,[],[],none⟩,⟨⟨some 118,none,.pick (.t 111) (.c .tt) (.t 117)⟩,[],[],none⟩])
   (.cond (.t 118)
     (.seq (.reg [5,6,31,1,46,47,48,8,7,0,59,61,60,62,10,9,67,11,87,12,14,13,98,118,123,124,125,15,17,16,142,4] [⟨some 4,none,.mv (.c .ff)⟩])
     .ret)
     .skip))))))))))
   (.reg [5,6,31,1,46,47,48,8,7,0,59,61,60,62,10,9,67,11,87,12,14,13,98,118,123,124,125,15,17,16,142,4] [⟨some 119,none,.ar .add .i64 (.t 61) (.c (.lit .i64 1))⟩,⟨some 61,none,.mv (.t 119)⟩])))))))
  (.seq (.seq (.reg [5,6,31,1,46,47,48,8,7,0,59,61,60,62,10,9,67,11,87,12,14,13,98,118,123,124,125,15,17,16,142,4] [⟨some 120,none,.mv (.t 5)⟩,⟨some 121,none,.mv (.t 1)⟩,⟨some 122,none,.call 12 false [((.t 120),.v),((.t 121),.v),((.c .ff),.v),((.c .ff),.v)]⟩,⟨some 123,none,.cmp .neq (.t 122) (.c (.lit .i64 0))⟩])
  (.cond (.t 123)
    (.seq (.reg [5,6,31,1,46,47,48,8,7,0,59,61,60,62,10,9,67,11,87,12,14,13,98,118,123,124,125,15,17,16,142,4] [⟨some 4,none,.mv (.c .ff)⟩])
    .ret)
    .skip))
  (.seq (.seq (.reg [5,6,31,1,46,47,48,8,7,0,59,61,60,62,10,9,67,11,87,12,14,13,98,118,123,124,125,15,17,16,142,4] [⟨some 124,none,.mv (.c (.lit .i64 0))⟩])
  (.block 4 (.loop 2 (.seq (.reg [5,6,31,1,46,47,48,8,7,0,59,61,60,62,10,9,67,11,87,12,14,13,98,118,123,124,125,15,17,16,142,4] [⟨some 125,none,.cmp .lss (.t 124) (.c (.lit .i64 5))⟩])
   (.seq (.cond (.t 125)
     .skip
     (.exit 4))
   (.seq (.block 5 (.seq (.reg [5,6,31,1,46,47,48,8,7,0,59,61,60,62,10,9,67,11,87,12,14,13,98,118,123,124,125,15,17,16,142,4] [⟨some 126,none,.mv (.t 124)⟩,⟨some 15,none,.mv (.t 126)⟩])
   (.seq (.reg [5,6,31,1,46,47,48,8,7,0,59,61,60,62,10,9,67,11,87,12,14,13,98,118,123,124,125,15,17,16,142,4] [⟨some 128,none,.mv (.t 5)⟩,⟨some 129,none,.mv (.t 15)⟩,⟨some 130,none,.call 13 false [((.t 128),.v),((.t 129),.v)]⟩,⟨some 127,none,.mv (.t 130)⟩,⟨some 131,none,.ext 0 (.t 127)⟩,⟨some 132,none,.ext 1 (.t 127)⟩,⟨some 16,none,.mv (.t 131)⟩,⟨some 17,none,.mv (.t 132)⟩])
   (.seq (.dreg [5,6,31,1,46,47,48,8,7,0,59,61,60,62,10,9,67,11,87,12,14,13,98,118,123,124,125,15,17,16,142,4] [⟨⟨some 133,none,.mv (.t 17)⟩,[],[],none⟩,⟨⟨some 134,none,.cmp .neq (.t 133) (.c (.lit .i64 0))⟩,[],[],none⟩,⟨⟨some 135,none,.mv (.t 134)⟩,[],[],none⟩,⟨⟨some 136,some (135,false),.mv (.t 16)⟩,[],[],none⟩,⟨⟨some 137,some (135,false),.b2s (.t 136)⟩,[],[],none⟩,⟨⟨some 138,some (135,false),.mv (.t 15)⟩,[],[],none⟩,⟨⟨some 139,some (135,false),.iaA 5 1 (.t 7) (.t 138)⟩,[],[],none⟩,⟨⟨some 140,some (135,false),.ld 1 false (.t 139)⟩,[],[],none⟩,⟨⟨some 141,some (135,false),.eq .s true (.t 137) (.t 140)⟩,[],[],none⟩,⟨⟨some 142,none,.pick (.t 135) (.c .tt) (.t 141)⟩,[],[],none⟩])
   (.cond (.t 142)
     (.seq (.reg [5,6,31,1,46,47,48,8,7,0,59,61,60,62,10,9,67,11,87,12,14,13,98,118,123,124,125,15,17,16,142,4] [⟨some 4,none,.mv (.c .ff)⟩])
     .ret)
     .skip)))))
   (.reg [5,6,31,1,46,47,48,8,7,0,59,61,60,62,10,9,67,11,87,12,14,13,98,118,123,124,125,15,17,16,142,4] [⟨some 143,none,.ar .add .i64 (.t 124) (.c (.lit .i64 1))⟩,⟨some 124,none,.mv (.t 143)⟩])))))))
  (.seq (.reg [5,6,31,1,46,47,48,8,7,0,59,61,60,62,10,9,67,11,87,12,14,13,98,118,123,124,125,15,17,16,142,4] [⟨some 4,none,.mv (.c .tt)⟩])
  .ret))))))))))))⟩
def ic5 : IFn := ⟨3,146,[.t 6],
  (.seq (.reg [7,8,34,35,36,10,9,0,43,45,44,46,12,11,51,13,63,73,1,74,76,75,77,16,15,82,17,95,14,2,107,108,109,18,20,19,144,6] [⟨some 6,none,.mv (.c .ff)⟩])
  (.seq (.reg [7,8,34,35,36,10,9,0,43,45,44,46,12,11,51,13,63,73,1,74,76,75,77,16,15,82,17,95,14,2,107,108,109,18,20,19,144,6] [⟨some 22,none,.call 8 true [((.c (.lit .i64 8)),.v),((.c (.lit .u64 0)),.v),((.c (.lit .u64 0)),.v)]⟩,⟨some 21,none,.mv (.t 22)⟩,⟨some 23,none,.ext 0 (.t 21)⟩,⟨some 24,none,.ext 1 (.t 21)⟩,⟨some 7,none,.mv (.t 23)⟩,⟨some 8,none,.mv (.t 24)⟩])
  (.seq (.seq (.reg [7,8,34,35,36,10,9,0,43,45,44,46,12,11,51,13,63,73,1,74,76,75,77,16,15,82,17,95,14,2,107,108,109,18,20,19,144,6] [⟨some 25,none,.mv (.t 7)⟩,⟨some 26,none,.eq .p false (.t 25) (.c .nilp)⟩,⟨some 27,none,.mv (.t 26)⟩,⟨some 28,some (27,false),.mv (.t 8)⟩,⟨some 29,some (27,false),.cmp .neq (.t 28) (.c (.lit .i64 0))⟩,⟨some 30,none,.pick (.t 27) (.c .tt) (.t 29)⟩,⟨some 31,none,.mv (.t 30)⟩,⟨some 32,some (31,false),.call 9 true []⟩,⟨some 33,some (31,false),.not (.t 32)⟩,⟨some 34,none,.pick (.t 31) (.c .tt) (.t 33)⟩])
  (.cond (.t 34)
    (.seq (.reg [7,8,34,35,36,10,9,0,43,45,44,46,12,11,51,13,63,73,1,74,76,75,77,16,15,82,17,95,14,2,107,108,109,18,20,19,144,6] [⟨some 6,none,.mv (.c .ff)⟩])
    .ret)
    .skip))
  (.seq (.reg [7,8,34,35,36,10,9,0,43,45,44,46,12,11,51,13,63,73,1,74,76,75,77,16,15,82,17,95,14,2,107,108,109,18,20,19,144,6] [⟨some 9,none,.alloc (.rows 1 8 (.v (.str [])))⟩])
  (.seq (.seq (.reg [7,8,34,35,36,10,9,0,43,45,44,46,12,11,51,13,63,73,1,74,76,75,77,16,15,82,17,95,14,2,107,108,109,18,20,19,144,6] [⟨some 35,none,.mv (.c (.lit .i64 0))⟩])
  (.block 0 (.loop 0 (.seq (.reg [7,8,34,35,36,10,9,0,43,45,44,46,12,11,51,13,63,73,1,74,76,75,77,16,15,82,17,95,14,2,107,108,109,18,20,19,144,6] [⟨some 36,none,.cmp .lss (.t 35) (.c (.lit .i64 8))⟩])
   (.seq (.cond (.t 36)
     .skip
     (.exit 0))
   (.seq (.block 1 (.seq (.reg [7,8,34,35,36,10,9,0,43,45,44,46,12,11,51,13,63,73,1,74,76,75,77,16,15,82,17,95,14,2,107,108,109,18,20,19,144,6] [⟨some 37,none,.mv (.t 35)⟩,⟨some 10,none,.mv (.t 37)⟩])
   (.reg [7,8,34,35,36,10,9,0,43,45,44,46,12,11,51,13,63,73,1,74,76,75,77,16,15,82,17,95,14,2,107,108,109,18,20,19,144,6] [⟨some 38,none,.mv (.t 10)⟩,⟨some 39,none,.mksF (.i .u8) 1 (.c (.lit .i64 512))⟩,⟨some 40,none,.b2s (.t 39)⟩,⟨some 41,none,.iaA 8 1 (.t 9) (.t 38)⟩,⟨none,none,.st 1 (.t 41) (.t 40)⟩])))
   (.reg [7,8,34,35,36,10,9,0,43,45,44,46,12,11,51,13,63,73,1,74,76,75,77,16,15,82,17,95,14,2,107,108,109,18,20,19,144,6] [⟨some 42,none,.ar .add .i64 (.t 35) (.c (.lit .i64 1))⟩,⟨some 35,none,.mv (.t 42)⟩])))))))
  (.seq (.seq (.reg [7,8,34,35,36,10,9,0,43,45,44,46,12,11,51,13,63,73,1,74,76,75,77,16,15,82,17,95,14,2,107,108,109,18,20,19,144,6] [⟨some 43,none,.mv (.t 0)⟩,⟨some 44,none,.lenS (.t 43)⟩,⟨some 45,none,.mv (.c (.lit .i64 0))⟩])
  (.block 2 (.loop 1 (.seq (.reg [7,8,34,35,36,10,9,0,43,45,44,46,12,11,51,13,63,73,1,74,76,75,77,16,15,82,17,95,14,2,107,108,109,18,20,19,144,6] [⟨some 46,none,.cmp .lss (.t 45) (.t 44)⟩])
   (.seq (.cond (.t 46)
     .skip
     (.exit 2))
   (.seq (.block 3 (.seq (.reg [7,8,34,35,36,10,9,0,43,45,44,46,12,11,51,13,63,73,1,74,76,75,77,16,15,82,17,95,14,2,107,108,109,18,20,19,144,6] [⟨some 47,none,.mv (.t 45)⟩,⟨some 48,none,.iaS 5 (.t 43) (.t 45)⟩,⟨some 49,none,.ld 5 true (.t 48)⟩,⟨some 12,none,.alloc (.cat 1 4 (.v (.lit .i64 0)) (.cat 1 3 (.v (.lit .i64 0)) (.cat 1 2 (.v (.lit .u8 0)) (.cat 1 1 (.v (.lit .u64 0)) (.v .ff)))))⟩,⟨some 11,none,.mv (.t 47)⟩,⟨none,none,.st 5 (.t 12) (.t 49)⟩])
   (.seq (.seq (.reg [7,8,34,35,36,10,9,0,43,45,44,46,12,11,51,13,63,73,1,74,76,75,77,16,15,82,17,95,14,2,107,108,109,18,20,19,144,6] [⟨some 50,none,.mv (.t 11)⟩,⟨some 51,none,.cmp .geq (.t 50) (.c (.lit .i64 100))⟩])
   (.cond (.t 51)
     (.exit 2)
     .skip))
   (.seq (.reg [7,8,34,35,36,10,9,0,43,45,44,46,12,11,51,13,63,73,1,74,76,75,77,16,15,82,17,95,14,2,107,108,109,18,20,19,144,6] [⟨some 52,none,.fa 1 1 (.t 12)⟩,⟨some 53,none,.ld 1 false (.t 52)⟩,⟨some 54,none,.cv .u64 (.t 53)⟩,⟨some 55,none,.ar .rem .u64 (.t 54) (.c (.lit .u64 8))⟩,⟨some 56,none,.cv .i64 (.t 55)⟩,⟨some 13,none,.mv (.t 56)⟩])
   (.seq (.seq (.reg [7,8,34,35,36,10,9,0,43,45,44,46,12,11,51,13,63,73,1,74,76,75,77,16,15,82,17,95,14,2,107,108,109,18,20,19,144,6] [⟨some 57,none,.mv (.t 7)⟩,⟨some 58,none,.mv (.t 13)⟩,⟨some 59,none,.fa 2 1 (.t 12)⟩,⟨some 60,none,.ld 1 false (.t 59)⟩,⟨some 61,none,.call 11 true [((.t 60),.v),((.c (.lit .i64 512)),.v)]⟩,⟨some 62,none,.call 10 false [((.t 57),.v),((.t 58),.v),((.t 61),.b (.i .u8))]⟩,⟨some 63,none,.cmp .neq (.t 62) (.c (.lit .i64 0))⟩])
   (.cond (.t 63)
     (.seq (.reg [7,8,34,35,36,10,9,0,43,45,44,46,12,11,51,13,63,73,1,74,76,75,77,16,15,82,17,95,14,2,107,108,109,18,20,19,144,6] [⟨some 6,none,.mv (.c .ff)⟩])
     .ret)
     .skip))
   (.reg [7,8,34,35,36,10,9,0,43,45,44,46,12,11,51,13,63,73,1,74,76,75,77,16,15,82,17,95,14,2,107,108,109,18,20,19,144,6] [⟨some 64,none,.mv (.t 13)⟩,⟨some 65,none,.fa 2 1 (.t 12)⟩,⟨some 66,none,.ld 1 false (.t 65)⟩,⟨some 67,none,.call 11 true [((.t 66),.v),((.c (.lit .i64 512)),.v)]⟩,⟨some 68,none,.b2s (.t 67)⟩,⟨some 69,none,.iaA 8 1 (.t 9) (.t 64)⟩,⟨none,none,.st 1 (.t 69) (.t 68)⟩]))))))
   (.reg [7,8,34,35,36,10,9,0,43,45,44,46,12,11,51,13,63,73,1,74,76,75,77,16,15,82,17,95,14,2,107,108,109,18,20,19,144,6] [⟨some 70,none,.ar .add .i64 (.t 45) (.c (.lit .i64 1))⟩,⟨some 45,none,.mv (.t 70)⟩])))))))
  (.seq (.seq (.reg [7,8,34,35,36,10,9,0,43,45,44,46,12,11,51,13,63,73,1,74,76,75,77,16,15,82,17,95,14,2,107,108,109,18,20,19,144,6] [⟨some 71,none,.mv (.t 7)⟩,⟨some 72,none,.call 17 false [((.t 71),.v)]⟩,⟨some 73,none,.cmp .neq (.t 72) (.c (.lit .i64 0))⟩])
  (.cond (.t 73)
    (.seq (.reg [7,8,34,35,36,10,9,0,43,45,44,46,12,11,51,13,63,73,1,74,76,75,77,16,15,82,17,95,14,2,107,108,109,18,20,19,144,6] [⟨some 6,none,.mv (.c .ff)⟩])
    .ret)
    .skip))
  (.seq (.reg [7,8,34,35,36,10,9,0,43,45,44,46,12,11,51,13,63,73,1,74,76,75,77,16,15,82,17,95,14,2,107,108,109,18,20,19,144,6] [⟨some 14,none,.alloc (.rows 1 8 (.v .ff))⟩])
  (.seq (.seq (.reg [7,8,34,35,36,10,9,0,43,45,44,46,12,11,51,13,63,73,1,74,76,75,77,16,15,82,17,95,14,2,107,108,109,18,20,19,144,6] [⟨some 74,none,.mv (.t 1)⟩,⟨some 75,none,.lenS (.t 74)⟩,⟨some 76,none,.mv (.c (.lit .i64 0))⟩])
  (.block 4 (.loop 2 (.seq (.reg [7,8,34,35,36,10,9,0,43,45,44,46,12,11,51,13,63,73,1,74,76,75,77,16,15,82,17,95,14,2,107,108,109,18,20,19,144,6] [⟨some 77,none,.cmp .lss (.t 76) (.t 75)⟩])
   (.seq (.cond (.t 77)
     .skip
     (.exit 4))
   (.seq (.block 5 (.seq (.reg [7,8,34,35,36,10,9,0,43,45,44,46,12,11,51,13,63,73,1,74,76,75,77,16,15,82,17,95,14,2,107,108,109,18,20,19,144,6] [⟨some 78,none,.mv (.t 76)⟩,⟨some 79,none,.iaS 5 (.t 74) (.t 76)⟩,⟨some 80,none,.ld 5 true (.t 79)⟩,⟨some 16,none,.alloc (.cat 1 4 (.v (.lit .i64 0)) (.cat 1 3 (.v (.lit .i64 0)) (.cat 1 2 (.v (.lit .u8 0)) (.cat 1 1 (.v (.lit .u64 0)) (.v .ff)))))⟩,⟨some 15,none,.mv (.t 78)⟩,⟨none,none,.st 5 (.t 16) (.t 80)⟩])
   (.seq (.seq (.reg [7,8,34,35,36,10,9,0,43,45,44,46,12,11,51,13,63,73,1,74,76,75,77,16,15,82,17,95,14,2,107,108,109,18,20,19,144,6] [⟨some 81,none,.mv (.t 15)⟩,⟨some 82,none,.cmp .geq (.t 81) (.c (.lit .i64 100))⟩])
   (.cond (.t 82)
     (.exit 4)
     .skip))
   (.seq (.reg [7,8,34,35,36,10,9,0,43,45,44,46,12,11,51,13,63,73,1,74,76,75,77,16,15,82,17,95,14,2,107,108,109,18,20,19,144,6] [⟨some 83,none,.fa 1 1 (.t 16)⟩,⟨some 84,none,.ld 1 false (.t 83)⟩,⟨some 85,none,.cv .u64 (.t 84)⟩,⟨some 86,none,.ar .rem .u64 (.t 85) (.c (.lit .u64 8))⟩,⟨some 87,none,.cv .i64 (.t 86)⟩,⟨some 17,none,.mv (.t 87)⟩])
   (.seq (.seq (.reg [7,8,34,35,36,10,9,0,43,45,44,46,12,11,51,13,63,73,1,74,76,75,77,16,15,82,17,95,14,2,107,108,109,18,20,19,144,6] [⟨some 88,none,.mv (.t 7)⟩,⟨some 89,none,.mv (.t 17)⟩,⟨some 90,none,.fa 2 1 (.t 16)⟩,⟨some 91,none,.ld 1 false (.t 90)⟩,⟨some 92,none,.ar .add .u8 (.t 91) (.c (.lit .u8 1))⟩,⟨some 93,none,.call 11 true [((.t 92),.v),((.c (.lit .i64 512)),.v)]⟩,⟨some 94,none,.call 10 false [((.t 88),.v),((.t 89),.v),((.t 93),.b (.i .u8))]⟩,⟨some 95,none,.cmp .neq (.t 94) (.c (.lit .i64 0))⟩])
   (.cond (.t 95)
     (.seq (.reg [7,8,34,35,36,10,9,0,43,45,44,46,12,11,51,13,63,73,1,74,76,75,77,16,15,82,17,95,14,2,107,108,109,18,20,19,144,6] [⟨some 6,none,.mv (.c .ff)⟩])
     .ret)
     .skip))
   (.reg [7,8,34,35,36,10,9,0,43,45,44,46,12,11,51,13,63,73,1,74,76,75,77,16,15,82,17,95,14,2,107,108,109,18,20,19,144,6] [⟨some 96,none,.mv (.t 17)⟩,⟨some 97,none,.iaA 8 1 (.t 14) (.t 96)⟩,⟨none,none,.st 1 (.t 97) (.c .tt)⟩]))))))
   (.reg [7,8,34,35,36,10,9,0,43,45,44,46,12,11,51,13,63,73,1,74,76,75,77,16,15,82,17,95,14,2,107,108,109,18,20,19,144,6] [⟨some 98,none,.ar .add .i64 (.t 76) (.c (.lit .i64 1))⟩,⟨some 76,none,.mv (.t 98)⟩])))))))
  (.seq (.seq (.reg [7,8,34,35,36,10,9,0,43,45,44,46,12,11,51,13,63,73,1,74,76,75,77,16,15,82,17,95,14,2,107,108,109,18,20,19,144,6] [⟨some 99,none,.mv (.t 7)⟩,⟨some 100,none,.mv (.t 2)⟩,⟨some 101,none,.call 15 false [((.t 99),.v),((.t 100),.v)]⟩,⟨some 102,none,.cmp .neq (.t 101) (.c (.lit .i64 0))⟩,⟨some 103,none,.mv (.t 102)⟩,⟨some 104,some (103,false),.mv (.t 7)⟩,⟨some 105,some (103,false),.call 16 false [((.t 104),.v)]⟩,⟨some 106,some (103,false),.cmp .neq (.t 105) (.c (.lit .i64 0))⟩,⟨some 107,none,.pick (.t 103) (.c .tt) (.t 106)⟩])
  (.cond (.t 107)
    (.seq (.reg [7,8,34,35,36,10,9,0,43,45,44,46,12,11,51,13,63,73,1,74,76,75,77,16,15,82,17,95,14,2,107,108,109,18,20,19,144,6] [⟨some 6,none,.mv (.c .ff)⟩])
    .ret)
    .skip))
  (.seq (.seq (.reg [7,8,34,35,36,10,9,0,43,45,44,46,12,11,51,13,63,73,1,74,76,75,77,16,15,82,17,95,14,2,107,108,109,18,20,19,144,6] [⟨some 108,none,.mv (.c (.lit .i64 0))⟩])
  (.block 6 (.loop 3 (.seq (.reg [7,8,34,35,36,10,9,0,43,45,44,46,12,11,51,13,63,73,1,74,76,75,77,16,15,82,17,95,14,2,107,108,109,18,20,19,144,6] [⟨some 109,none,.cmp .lss (.t 108) (.c (.lit .i64 8))⟩])
   (.seq (.cond (.t 109)
     .skip
     (.exit 6))
   (.seq (.block 7 (.seq (.reg [7,8,34,35,36,10,9,0,43,45,44,46,12,11,51,13,63,73,1,74,76,75,77,16,15,82,17,95,14,2,107,108,109,18,20,19,144,6] [⟨some 110,none,.mv (.t 108)⟩,⟨some 18,none,.mv (.t 110)⟩])
   (.seq (.reg [7,8,34,35,36,10,9,0,43,45,44,46,12,11,51,13,63,73,1,74,76,75,77,16,15,82,17,95,14,2,107,108,109,18,20,19,144,6] [⟨some 112,none,.mv (.t 7)⟩,⟨some 113,none,.mv (.t 18)⟩,⟨some 114,none,.call 13 false [((.t 112),.v),((.t 113),.v)]⟩,⟨some 111,none,.mv (.t 114)⟩,⟨some 115,none,.ext 0 (.t 111)⟩,⟨some 116,none,.ext 1 (.t 111)⟩,⟨some 19,none,.mv (.t 115)⟩,⟨some 20,none,.mv (.t 116)⟩])
   (.seq (.dreg [7,8,34,35,36,10,9,0,43,45,44,46,12,11,51,13,63,73,1,74,76,75,77,16,15,82,17,95,14,2,107,108,109,18,20,19,144,6] [⟨⟨some 117,none,.mv (.t 20)⟩,[],[],none⟩,⟨⟨some 118,none,.cmp .neq (.t 117) (.c (.lit .i64 0))⟩,[],[],none⟩,⟨⟨some 119,none,.mv (.t 118)⟩,[],[],none⟩,⟨⟨some 120,some (119,false),.mv (.t 18)⟩,[],[],none⟩,⟨⟨some 121,some (119,false),.iaA 8 1 (.t 14) (.t 120)⟩,[],[],none⟩,⟨⟨some 122,some (119,false),.ld 1 false (.t 121)⟩,[],[],none⟩,⟨⟨some 123,some (119,false),.not (.t 122)⟩,[],[],none⟩,⟨⟨some 124,some (119,false),.mv (.t 123)⟩,[],[],none⟩,⟨⟨some 125,some (124,true),.mv (.t 19)⟩,[],[],none⟩,⟨⟨some 126,some (124,true),.b2s (.t 125)⟩,[],[],none⟩,⟨⟨some 127,some (124,true),.mv (.t 18)⟩,[],[],none⟩,⟨⟨some 128,some (124,true),.iaA 8 1 (.t 9) (.t 127)⟩,[],[],none⟩,⟨⟨some 129,some (124,true),.ld 1 false (.t 128)⟩,[],[],none⟩,⟨⟨some 130,some (124,true),.eq .s true (.t 126) (.t 129)⟩,[],[],none⟩,⟨⟨some 131,some (119,false),.pick (.t 124) (.t 130) (.c .ff)⟩,[],[],none⟩,⟨⟨some 132,none,.pick (.t 119) (.c .tt) (.t 131)⟩,[],[],none⟩,⟨⟨some 133,none,.mv (.t 132)⟩,[],[],none⟩,⟨⟨some 134,some (133,false),.mv (.t 2)⟩,[],[],none⟩,⟨⟨some 135,some (133,false),.cmp .eql (.t 134) (.c (.lit .u64 0))⟩,[],[],none⟩,⟨⟨some 136,some (133,false),.mv (.t 135)⟩,[],[],none⟩,⟨⟨some 137,some (136,true),.mv (.t 19)⟩,[],[],none⟩,⟨⟨some 138,some (136,true),.b2s (.t 137)⟩,[],[],none⟩,⟨⟨some 139,some (136,true),.mv (.t 18)⟩,[],[],none⟩,⟨⟨some 140,some (136,true),.iaA 8 1 (.t 9) (.t 139)⟩,[],[],none⟩,⟨⟨some 141,some (136,true),.ld 1 false (.t 140)⟩,[],[],none⟩,⟨⟨some 142,some (136,true),.eq .s true (.t 138) (.t 141)⟩,[],[],none⟩,⟨⟨some 143,some (133,false),.pick (.t 136) (.t 142) (.c .ff)⟩,[],[],none⟩,⟨⟨some 144,none,.pick (.t 133) (.c .tt) (.t 143)⟩,[],[],none⟩])
   (.cond (.t 144)
     (.seq (.reg [7,8,34,35,36,10,9,0,43,45,44,46,12,11,51,13,63,73,1,74,76,75,77,16,15,82,17,95,14,2,107,108,109,18,20,19,144,6] [⟨some 6,none,.mv (.c .ff)⟩])
     .ret)
     .skip)))))
   (.reg [7,8,34,35,36,10,9,0,43,45,44,46,12,11,51,13,63,73,1,74,76,75,77,16,15,82,17,95,14,2,107,108,109,18,20,19,144,6] [⟨some 145,none,.ar .add .i64 (.t 108) (.c (.lit .i64 1))⟩,⟨some 108,none,.mv (.t 145)⟩])))))))
  (.seq (.reg [7,8,34,35,36,10,9,0,43,45,44,46,12,11,51,13,63,73,1,74,76,75,77,16,15,82,17,95,14,2,107,108,109,18,20,19,144,6] [⟨some 6,none,.mv (.c .tt)⟩])
  .ret))))))))))))⟩
def ic8 : IFn := ⟨3,46,[.t 6,.t 7],
  (.seq (.reg [0,1,2,22,32,31,33,8,6,7] [⟨some 6,none,.mv (.c .nilp)⟩,⟨some 7,none,.mv (.c (.lit .i64 0))⟩])
  (.seq (.seq (.reg [0,1,2,22,32,31,33,8,6,7] [⟨some 9,none,.mv (.t 0)⟩,⟨some 10,none,.cmp .lss (.t 9) (.c (.lit .i64 1))⟩,⟨some 11,none,.mv (.t 10)⟩,⟨some 12,some (11,false),.mv (.t 0)⟩,⟨some 13,some (11,false),.cmp .gtr (.t 12) (.c (.lit .i64 256))⟩,⟨some 14,none,.pick (.t 11) (.c .tt) (.t 13)⟩,⟨some 15,none,.mv (.t 14)⟩,⟨some 16,some (15,false),.mv (.t 1)⟩,⟨some 17,some (15,false),.cmp .gtr (.t 16) (.c (.lit .u64 281474976710655))⟩,⟨some 18,none,.pick (.t 15) (.c .tt) (.t 17)⟩,⟨some 19,none,.mv (.t 18)⟩,⟨some 20,some (19,false),.mv (.t 2)⟩,⟨some 21,some (19,false),.cmp .gtr (.t 20) (.c (.lit .u64 281474976710655))⟩,⟨some 22,none,.pick (.t 19) (.c .tt) (.t 21)⟩])
  (.cond (.t 22)
    (.seq (.reg [0,1,2,22,32,31,33,8,6,7] [⟨some 6,none,.mv (.c .nilp)⟩,⟨some 7,none,.mv (.c (.lit .i64 2))⟩])
    .ret)
    .skip))
  (.seq (.dreg [0,1,2,22,32,31,33,8,6,7] [⟨⟨some 23,none,.mv (.t 1)⟩,[26,28],[],none⟩,⟨⟨some 24,none,.mv (.t 2)⟩,[26,28],[],none⟩,⟨⟨some 25,none,.mv (.t 0)⟩,[28],[],none⟩,⟨⟨some 26,none,.mks (.o 1 (.v .ff)) 1 (.t 25)⟩,[28],[],none⟩,⟨⟨some 27,none,.mv (.t 0)⟩,[26],[],none⟩,⟨⟨some 28,none,.mks (.o 1 (.v .ff)) 1 (.t 27)⟩,[26],[],none⟩,⟨⟨some 29,none,.bldS (.cat 1 11 (.v .nsl) (.cat 1 10 (.v .nsl) (.cat 1 9 (.v .nsl) (.cat 1 8 (.v (.lit .u64 0)) (.cat 1 7 (.v (.lit .u64 0)) (.cat 1 6 (.v .ff) (.cat 3 3 (.cat 1 2 (.v .ff) (.cat 1 1 (.v (.lit .i64 0)) (.v (.lit .u64 0)))) (.cat 1 2 (.v .nsl) (.cat 1 1 (.v .nsl) (.v (.lit .i64 0))))))))))) [(3,1,(.t 23)),(4,1,(.t 24)),(9,1,(.t 26)),(10,1,(.t 28))]⟩,[],[],none⟩,⟨⟨some 30,none,.box (.t 29)⟩,[],[],none⟩,⟨⟨some 8,none,.mv (.t 30)⟩,[],[],none⟩])
  (.seq (.seq (.reg [0,1,2,22,32,31,33,8,6,7] [⟨some 31,none,.mv (.t 0)⟩,⟨some 32,none,.mv (.c (.lit .i64 0))⟩])
  (.block 0 (.loop 0 (.seq (.reg [0,1,2,22,32,31,33,8,6,7] [⟨some 33,none,.cmp .lss (.t 32) (.t 31)⟩])
   (.seq (.cond (.t 33)
     .skip
     (.exit 0))
   (.seq (.block 1 (.dreg [0,1,2,22,32,31,33,8,6,7] [⟨⟨some 34,none,.mv (.t 8)⟩,[40,41],[],none⟩,⟨⟨some 35,none,.mv (.t 8)⟩,[40],[],none⟩,⟨⟨some 36,none,.nck (.t 35)⟩,[40],[],none⟩,⟨⟨some 37,none,.fa 0 1 (.t 36)⟩,[40],[],none⟩,⟨⟨some 38,none,.ld 1 false (.t 37)⟩,[40],[],none⟩,⟨⟨some 39,none,.mksF (.i .u8) 1 (.c (.lit .i64 512))⟩,[],[],none⟩,⟨⟨some 40,none,.bsl (.o 1 (.v .nsl)) 1 [(0,(.t 39))]⟩,[],[],none⟩,⟨⟨some 41,none,.app (.o 1 (.v .nsl)) 24 (.t 38) (.t 40)⟩,[],[],none⟩,⟨⟨some 42,none,.nck (.t 34)⟩,[],[],none⟩,⟨⟨some 43,none,.fa 0 1 (.t 42)⟩,[],[],none⟩,⟨⟨none,none,.st 1 (.t 43) (.t 41)⟩,[],[],none⟩]))
   (.reg [0,1,2,22,32,31,33,8,6,7] [⟨some 44,none,.ar .add .i64 (.t 32) (.c (.lit .i64 1))⟩,⟨some 32,none,.mv (.t 44)⟩])))))))
  (.seq (.reg [0,1,2,22,32,31,33,8,6,7] [⟨some 45,none,.mv (.t 8)⟩,⟨some 6,none,.mv (.t 45)⟩,⟨some 7,none,.mv (.c (.lit .i64 0))⟩])
  .ret)))))⟩
def ic9 : IFn := ⟨0,48,[.t 0],
  (.seq (.reg [1,2,34,0] [⟨some 0,none,.mv (.c .ff)⟩])
  (.seq (.reg [1,2,34,0] [⟨some 4,none,.call 8 true [((.c (.lit .i64 2)),.v),((.c (.lit .u64 0)),.v),((.c (.lit .u64 0)),.v)]⟩,⟨some 3,none,.mv (.t 4)⟩,⟨some 5,none,.ext 0 (.t 3)⟩,⟨some 6,none,.ext 1 (.t 3)⟩,⟨some 1,none,.mv (.t 5)⟩,⟨some 2,none,.mv (.t 6)⟩])
  (.seq (.seq (.reg [1,2,34,0] [⟨some 7,none,.mv (.t 1)⟩,⟨some 8,none,.eq .p false (.t 7) (.c .nilp)⟩,⟨some 9,none,.mv (.t 8)⟩,⟨some 10,some (9,false),.mv (.t 2)⟩,⟨some 11,some (9,false),.cmp .neq (.t 10) (.c (.lit .i64 0))⟩,⟨some 12,none,.pick (.t 9) (.c .tt) (.t 11)⟩,⟨some 13,none,.mv (.t 12)⟩,⟨some 14,some (13,false),.mv (.t 1)⟩,⟨some 15,some (13,false),.mks (.i .u8) 1 (.c (.lit .i64 512))⟩,⟨some 16,some (13,false),.call 10 false [((.t 14),.v),((.c (.lit .i64 0)),.v),((.t 15),.b (.i .u8))]⟩,⟨some 17,some (13,false),.cmp .neq (.t 16) (.c (.lit .i64 0))⟩,⟨some 18,none,.pick (.t 13) (.c .tt) (.t 17)⟩,⟨some 19,none,.mv (.t 18)⟩,⟨some 20,some (19,false),.mv (.t 1)⟩,⟨some 21,some (19,false),.mks (.i .u8) 1 (.c (.lit .i64 511))⟩,⟨some 22,some (19,false),.call 10 false [((.t 20),.v),((.c (.lit .i64 0)),.v),((.t 21),.b (.i .u8))]⟩,⟨some 23,some (19,false),.cmp .neq (.t 22) (.c (.lit .i64 3))⟩,⟨some 24,none,.pick (.t 19) (.c .tt) (.t 23)⟩,⟨some 25,none,.mv (.t 24)⟩,⟨some 26,some (25,false),.mv (.t 1)⟩,⟨some 27,some (25,false),.call 27 false [((.t 26),.v),((.c (.lit .u64 5)),.v)]⟩,⟨some 28,some (25,false),.cmp .neq (.t 27) (.c (.lit .i64 0))⟩,⟨some 29,none,.pick (.t 25) (.c .tt) (.t 28)⟩,⟨some 30,none,.mv (.t 29)⟩,⟨some 31,some (30,false),.mv (.t 1)⟩,⟨some 32,some (30,false),.call 27 false [((.t 31),.v),((.c (.lit .u64 5)),.v)]⟩,⟨some 33,some (30,false),.cmp .neq (.t 32) (.c (.lit .i64 16))⟩,⟨some 34,none,.pick (.t 30) (.c .tt) (.t 33)⟩])
  (.cond (.t 34)
    (.seq (.reg [1,2,34,0] [⟨some 0,none,.mv (.c .ff)⟩])
    .ret)
    .skip))
  (.seq (.reg [1,2,34,0] [⟨some 35,none,.mv (.t 1)⟩,⟨some 36,none,.call 19 false [((.t 35),.v)]⟩,⟨some 37,none,.cmp .eql (.t 36) (.c (.lit .i64 2))⟩,⟨some 38,none,.mv (.t 37)⟩,⟨some 39,none,.pick (.t 38) (.c .tt) (.c .ff)⟩,⟨some 40,none,.mv (.t 39)⟩,⟨some 41,none,.pick (.t 40) (.c .tt) (.c .ff)⟩,⟨some 42,none,.mv (.t 41)⟩,⟨some 43,none,.pick (.t 42) (.c .tt) (.c .ff)⟩,⟨some 44,none,.mv (.t 43)⟩,⟨some 45,none,.pick (.t 44) (.c .tt) (.c .ff)⟩,⟨some 46,none,.mv (.t 45)⟩,⟨some 47,none,.pick (.t 46) (.c .tt) (.c .ff)⟩,⟨some 0,none,.mv (.t 47)⟩])
  .ret))))⟩
def ic10 : IFn := ⟨3,61,[.t 6],
  (.seq (.reg [0,7,12,1,14,2,19,8,26,34,6] [⟨some 6,none,.mv (.c (.lit .i64 0))⟩])
  (.seq (.seq (.reg [0,7,12,1,14,2,19,8,26,34,6] [⟨some 9,none,.mv (.t 0)⟩,⟨some 10,none,.call 30 false [((.t 9),.v)]⟩,⟨some 7,none,.mv (.t 10)⟩])
  (.seq (.reg [0,7,12,1,14,2,19,8,26,34,6] [⟨some 11,none,.mv (.t 7)⟩,⟨some 12,none,.cmp .neq (.t 11) (.c (.lit .i64 0))⟩])
  (.cond (.t 12)
    (.seq (.reg [0,7,12,1,14,2,19,8,26,34,6] [⟨some 13,none,.mv (.t 7)⟩,⟨some 6,none,.mv (.t 13)⟩])
    .ret)
    .skip)))
  (.seq (.block 0 (.seq (.reg [0,7,12,1,14,2,19,8,26,34,6] [⟨some 15,none,.mv (.t 0)⟩,⟨some 16,none,.mv (.t 1)⟩,⟨some 17,none,.call 31 false [((.t 15),.v),((.t 16),.v)]⟩,⟨some 18,none,.not (.t 17)⟩,⟨some 14,none,.mv (.t 18)⟩])
  (.cond (.t 14)
    (.seq (.reg [0,7,12,1,14,2,19,8,26,34,6] [⟨some 6,none,.mv (.c (.lit .i64 2))⟩])
    .ret)
    (.seq (.reg [0,7,12,1,14,2,19,8,26,34,6] [⟨some 20,none,.mv (.t 2)⟩,⟨some 21,none,.lenS (.t 20)⟩,⟨some 22,none,.cmp .neq (.t 21) (.c (.lit .i64 512))⟩,⟨some 19,none,.mv (.t 22)⟩])
    (.cond (.t 19)
      (.seq (.reg [0,7,12,1,14,2,19,8,26,34,6] [⟨some 6,none,.mv (.c (.lit .i64 3))⟩])
      .ret)
      .skip)))))
  (.seq (.seq (.reg [0,7,12,1,14,2,19,8,26,34,6] [⟨some 23,none,.mv (.t 0)⟩,⟨some 24,none,.call 32 false [((.t 23),.v)]⟩,⟨some 8,none,.mv (.t 24)⟩])
  (.seq (.reg [0,7,12,1,14,2,19,8,26,34,6] [⟨some 25,none,.mv (.t 8)⟩,⟨some 26,none,.cmp .neq (.t 25) (.c (.lit .i64 0))⟩])
  (.cond (.t 26)
    (.seq (.reg [0,7,12,1,14,2,19,8,26,34,6] [⟨some 27,none,.mv (.t 8)⟩,⟨some 6,none,.mv (.t 27)⟩])
    .ret)
    .skip)))
  (.seq (.seq (.reg [0,7,12,1,14,2,19,8,26,34,6] [⟨some 28,none,.mv (.t 0)⟩,⟨some 29,none,.nck (.t 28)⟩,⟨some 30,none,.fa 10 1 (.t 29)⟩,⟨some 31,none,.ld 1 false (.t 30)⟩,⟨some 32,none,.mv (.t 1)⟩,⟨some 33,none,.iaS 1 (.t 31) (.t 32)⟩,⟨some 34,none,.ld 1 false (.t 33)⟩])
  (.cond (.t 34)
    (.seq (.reg [0,7,12,1,14,2,19,8,26,34,6] [⟨some 6,none,.mv (.c (.lit .i64 11))⟩])
    .ret)
    .skip))
  (.seq (.dreg [0,7,12,1,14,2,19,8,26,34,6] [⟨⟨some 35,none,.mv (.t 0)⟩,[42,10042,20042,30042,40042,50042,60042,70042,80042,90042,44,45],[],none⟩,⟨⟨some 36,none,.mv (.t 0)⟩,[42,10042,20042,30042,40042,50042,60042,70042,80042,90042,44],[],none⟩,⟨⟨some 37,none,.nck (.t 36)⟩,[42,10042,20042,30042,40042,50042,60042,70042,80042,90042,44],[],none⟩,⟨⟨some 38,none,.fa 1 1 (.t 37)⟩,[42,10042,20042,30042,40042,50042,60042,70042,80042,90042,44],[],none⟩,⟨⟨some 39,none,.ld 1 false (.t 38)⟩,[42,10042,20042,30042,40042,50042,60042,70042,80042,90042,44],[],none⟩,⟨⟨some 40,none,.mv (.t 1)⟩,[42,10042,20042,30042,40042,50042,60042,70042,80042,90042],[],none⟩,⟨⟨some 41,none,.mv (.t 2)⟩,[],[],none⟩,⟨⟨some 42,none,.call 33 true [((.t 41),.b (.i .u8))]⟩,[],[],none⟩,⟨⟨some 43,none,.bldS (.cat 1 1 (.v (.lit .i64 0)) (.v .nsl)) [(0,1,(.t 40)),(1,1,(.t 42))]⟩,[],[],none⟩,⟨⟨some 44,none,.bsl (.o 2 (.cat 1 1 (.v (.lit .i64 0)) (.v .nsl))) 1 [(0,(.t 43))]⟩,[],[],none⟩,⟨⟨some 45,none,.app (.o 2 (.cat 1 1 (.v (.lit .i64 0)) (.v .nsl))) 32 (.t 39) (.t 44)⟩,[],[],none⟩,⟨⟨some 46,none,.nck (.t 35)⟩,[],[],none⟩,⟨⟨some 47,none,.fa 1 1 (.t 46)⟩,[],[],none⟩,⟨⟨none,none,.st 1 (.t 47) (.t 45)⟩,[],[],none⟩])
  (.seq (.dreg [0,7,12,1,14,2,19,8,26,34,6] [⟨⟨some 48,none,.mv (.t 0)⟩,[55,10055,20055,30055,40055,50055,60055,70055,80055,90055,57,58],[],none⟩,⟨⟨some 49,none,.mv (.t 0)⟩,[55,10055,20055,30055,40055,50055,60055,70055,80055,90055,57],[],none⟩,⟨⟨some 50,none,.nck (.t 49)⟩,[55,10055,20055,30055,40055,50055,60055,70055,80055,90055,57],[],none⟩,⟨⟨some 51,none,.fa 2 1 (.t 50)⟩,[55,10055,20055,30055,40055,50055,60055,70055,80055,90055,57],[],none⟩,⟨⟨some 52,none,.ld 1 false (.t 51)⟩,[55,10055,20055,30055,40055,50055,60055,70055,80055,90055,57],[],none⟩,⟨⟨some 53,none,.mv (.t 1)⟩,[55,10055,20055,30055,40055,50055,60055,70055,80055,90055],[],none⟩,⟨⟨some 54,none,.mv (.t 2)⟩,[],[],none⟩,⟨⟨some 55,none,.call 33 true [((.t 54),.b (.i .u8))]⟩,[],[],none⟩,⟨⟨some 56,none,.bldS (.cat 1 1 (.v (.lit .i64 0)) (.v .nsl)) [(0,1,(.t 53)),(1,1,(.t 55))]⟩,[],[],none⟩,⟨⟨some 57,none,.bsl (.o 2 (.cat 1 1 (.v (.lit .i64 0)) (.v .nsl))) 1 [(0,(.t 56))]⟩,[],[],none⟩,⟨⟨some 58,none,.app (.o 2 (.cat 1 1 (.v (.lit .i64 0)) (.v .nsl))) 32 (.t 52) (.t 57)⟩,[],[],none⟩,⟨⟨some 59,none,.nck (.t 48)⟩,[],[],none⟩,⟨⟨some 60,none,.fa 2 1 (.t 59)⟩,[],[],none⟩,⟨⟨none,none,.st 1 (.t 60) (.t 58)⟩,[],[],none⟩])
  (.seq (.reg [0,7,12,1,14,2,19,8,26,34,6] [⟨some 6,none,.mv (.c (.lit .i64 0))⟩])
  .ret))))))))⟩
def ic11 : IFn := ⟨2,24,[.t 4],
  (.seq (.reg [1,5,11,10,12,6,0,4] [⟨some 4,none,.mv (.c .nsl)⟩])
  (.seq (.reg [1,5,11,10,12,6,0,4] [⟨some 7,none,.mv (.t 1)⟩,⟨some 8,none,.mks (.i .u8) 1 (.t 7)⟩,⟨some 5,none,.mv (.t 8)⟩])
  (.seq (.seq (.reg [1,5,11,10,12,6,0,4] [⟨some 9,none,.mv (.t 5)⟩,⟨some 10,none,.lenS (.t 9)⟩,⟨some 11,none,.mv (.c (.lit .i64 0))⟩])
  (.block 0 (.loop 0 (.seq (.reg [1,5,11,10,12,6,0,4] [⟨some 12,none,.cmp .lss (.t 11) (.t 10)⟩])
   (.seq (.cond (.t 12)
     .skip
     (.exit 0))
   (.seq (.block 1 (.seq (.reg [1,5,11,10,12,6,0,4] [⟨some 13,none,.mv (.t 11)⟩,⟨some 6,none,.mv (.t 13)⟩])
   (.reg [1,5,11,10,12,6,0,4] [⟨some 14,none,.mv (.t 5)⟩,⟨some 15,none,.mv (.t 6)⟩,⟨some 16,none,.mv (.t 0)⟩,⟨some 17,none,.mv (.t 6)⟩,⟨some 18,none,.ar .quo .i64 (.t 17) (.c (.lit .i64 100))⟩,⟨some 19,none,.cv .u8 (.t 18)⟩,⟨some 20,none,.ar .add .u8 (.t 16) (.t 19)⟩,⟨some 21,none,.iaS 1 (.t 14) (.t 15)⟩,⟨none,none,.st 1 (.t 21) (.t 20)⟩])))
   (.reg [1,5,11,10,12,6,0,4] [⟨some 22,none,.ar .add .i64 (.t 11) (.c (.lit .i64 1))⟩,⟨some 11,none,.mv (.t 22)⟩])))))))
  (.seq (.reg [1,5,11,10,12,6,0,4] [⟨some 23,none,.mv (.t 5)⟩,⟨some 4,none,.mv (.t 23)⟩])
  .ret))))⟩
def ic12 : IFn := ⟨4,31,[.t 8],
  (.seq (.reg [0,9,1,12,2,3,8] [⟨some 8,none,.mv (.c (.lit .i64 0))⟩])
  (.seq (.block 0 (.seq (.reg [0,9,1,12,2,3,8] [⟨some 10,none,.mv (.t 0)⟩,⟨some 11,none,.eq .p false (.t 10) (.c .nilp)⟩,⟨some 9,none,.mv (.t 11)⟩])
  (.cond (.t 9)
    (.seq (.reg [0,9,1,12,2,3,8] [⟨some 8,none,.mv (.c (.lit .i64 1))⟩])
    .ret)
    (.seq (.reg [0,9,1,12,2,3,8] [⟨some 13,none,.mv (.t 0)⟩,⟨some 14,none,.mv (.t 1)⟩,⟨some 15,none,.call 31 false [((.t 13),.v),((.t 14),.v)]⟩,⟨some 16,none,.not (.t 15)⟩,⟨some 12,none,.mv (.t 16)⟩])
    (.cond (.t 12)
      (.seq (.reg [0,9,1,12,2,3,8] [⟨some 8,none,.mv (.c (.lit .i64 2))⟩])
      .ret)
      .skip)))))
  (.seq (.dreg [0,9,1,12,2,3,8] [⟨⟨some 17,none,.mv (.t 0)⟩,[],[],none⟩,⟨⟨some 18,none,.nck (.t 17)⟩,[],[],none⟩,⟨⟨some 19,none,.fa 9 1 (.t 18)⟩,[],[],none⟩,⟨⟨some 20,none,.ld 1 false (.t 19)⟩,[],[],none⟩,⟨⟨some 21,none,.mv (.t 1)⟩,[],[],none⟩,⟨⟨some 22,none,.mv (.t 0)⟩,[],[],none⟩,⟨⟨some 23,none,.nck (.t 22)⟩,[],[],none⟩,⟨⟨some 24,none,.fa 10 1 (.t 23)⟩,[],[],none⟩,⟨⟨some 25,none,.ld 1 false (.t 24)⟩,[],[],none⟩,⟨⟨some 26,none,.mv (.t 1)⟩,[],[],none⟩,⟨⟨some 27,none,.mv (.t 2)⟩,[],[],none⟩,⟨⟨some 28,none,.mv (.t 3)⟩,[],[],none⟩,⟨⟨some 29,none,.iaS 1 (.t 20) (.t 21)⟩,[],[],none⟩,⟨⟨none,none,.st 1 (.t 29) (.t 27)⟩,[],[],none⟩,⟨⟨some 30,none,.iaS 1 (.t 25) (.t 26)⟩,[],[],none⟩,⟨⟨none,none,.st 1 (.t 30) (.t 28)⟩,[],[],none⟩])
  (.seq (.reg [0,9,1,12,2,3,8] [⟨some 8,none,.mv (.c (.lit .i64 0))⟩])
  .ret))))⟩
def ic13 : IFn := ⟨2,29,[.t 4,.t 5],
  (.seq (.reg [0,6,10,1,12,17,4,5] [⟨some 4,none,.mv (.c .nsl)⟩,⟨some 5,none,.mv (.c (.lit .i64 0))⟩])
  (.seq (.seq (.reg [0,6,10,1,12,17,4,5] [⟨some 7,none,.mv (.t 0)⟩,⟨some 8,none,.call 30 false [((.t 7),.v)]⟩,⟨some 6,none,.mv (.t 8)⟩])
  (.seq (.reg [0,6,10,1,12,17,4,5] [⟨some 9,none,.mv (.t 6)⟩,⟨some 10,none,.cmp .neq (.t 9) (.c (.lit .i64 0))⟩])
  (.cond (.t 10)
    (.seq (.reg [0,6,10,1,12,17,4,5] [⟨some 11,none,.mv (.t 6)⟩,⟨some 4,none,.mv (.c .nsl)⟩,⟨some 5,none,.mv (.t 11)⟩])
    .ret)
    .skip)))
  (.seq (.block 0 (.seq (.reg [0,6,10,1,12,17,4,5] [⟨some 13,none,.mv (.t 0)⟩,⟨some 14,none,.mv (.t 1)⟩,⟨some 15,none,.call 31 false [((.t 13),.v),((.t 14),.v)]⟩,⟨some 16,none,.not (.t 15)⟩,⟨some 12,none,.mv (.t 16)⟩])
  (.cond (.t 12)
    (.seq (.reg [0,6,10,1,12,17,4,5] [⟨some 4,none,.mv (.c .nsl)⟩,⟨some 5,none,.mv (.c (.lit .i64 2))⟩])
    .ret)
    (.seq (.reg [0,6,10,1,12,17,4,5] [⟨some 18,none,.mv (.t 0)⟩,⟨some 19,none,.nck (.t 18)⟩,⟨some 20,none,.fa 9 1 (.t 19)⟩,⟨some 21,none,.ld 1 false (.t 20)⟩,⟨some 22,none,.mv (.t 1)⟩,⟨some 23,none,.iaS 1 (.t 21) (.t 22)⟩,⟨some 24,none,.ld 1 false (.t 23)⟩,⟨some 17,none,.mv (.t 24)⟩])
    (.cond (.t 17)
      (.seq (.reg [0,6,10,1,12,17,4,5] [⟨some 4,none,.mv (.c .nsl)⟩,⟨some 5,none,.mv (.c (.lit .i64 11))⟩])
      .ret)
      .skip)))))
  (.seq (.reg [0,6,10,1,12,17,4,5] [⟨some 25,none,.mv (.t 0)⟩,⟨some 26,none,.mv (.t 1)⟩,⟨some 27,none,.call 34 false [((.t 25),.v),((.t 26),.v)]⟩,⟨some 28,none,.call 33 true [((.t 27),.b (.i .u8))]⟩,⟨some 4,none,.mv (.t 28)⟩,⟨some 5,none,.mv (.c (.lit .i64 0))⟩])
  .ret))))⟩
def ic15 : IFn := ⟨2,15,[.t 4],
  (.seq (.reg [0,6,11,1,4] [⟨some 4,none,.mv (.c (.lit .i64 0))⟩])
  (.seq (.seq (.reg [0,6,11,1,4] [⟨some 5,none,.mv (.t 0)⟩,⟨some 6,none,.eq .p false (.t 5) (.c .nilp)⟩])
  (.cond (.t 6)
    (.seq (.reg [0,6,11,1,4] [⟨some 4,none,.mv (.c (.lit .i64 1))⟩])
    .ret)
    .skip))
  (.seq (.seq (.reg [0,6,11,1,4] [⟨some 7,none,.mv (.t 0)⟩,⟨some 8,none,.nck (.t 7)⟩,⟨some 9,none,.fa 5 1 (.t 8)⟩,⟨some 10,none,.ld 1 false (.t 9)⟩,⟨some 11,none,.not (.t 10)⟩])
  (.cond (.t 11)
    (.reg [0,6,11,1,4] [⟨some 12,none,.mv (.t 0)⟩,⟨some 13,none,.mv (.t 1)⟩,⟨some 14,none,.call 35 false [((.t 12),.v),((.t 13),.v)]⟩])
    .skip))
  (.seq (.reg [0,6,11,1,4] [⟨some 4,none,.mv (.c (.lit .i64 0))⟩])
  .ret))))⟩
def ic16 : IFn := ⟨1,8,[.t 2],
  (.seq (.reg [0,4,2] [⟨some 2,none,.mv (.c (.lit .i64 0))⟩])
  (.seq (.seq (.reg [0,4,2] [⟨some 3,none,.mv (.t 0)⟩,⟨some 4,none,.eq .p false (.t 3) (.c .nilp)⟩])
  (.cond (.t 4)
    (.seq (.reg [0,4,2] [⟨some 2,none,.mv (.c (.lit .i64 1))⟩])
    .ret)
    .skip))
  (.seq (.reg [0,4,2] [⟨some 5,none,.mv (.t 0)⟩,⟨some 6,none,.nck (.t 5)⟩,⟨some 7,none,.fa 5 1 (.t 6)⟩,⟨none,none,.st 1 (.t 7) (.c .ff)⟩])
  (.seq (.reg [0,4,2] [⟨some 2,none,.mv (.c (.lit .i64 0))⟩])
  .ret))))⟩
def ic17 : IFn := ⟨1,39,[.t 2],
  (.seq (.reg [0,3,10,4,15,20,22,21,23,6,2] [⟨some 2,none,.mv (.c (.lit .i64 0))⟩])
  (.seq (.seq (.reg [0,3,10,4,15,20,22,21,23,6,2] [⟨some 7,none,.mv (.t 0)⟩,⟨some 8,none,.call 30 false [((.t 7),.v)]⟩,⟨some 3,none,.mv (.t 8)⟩])
  (.seq (.reg [0,3,10,4,15,20,22,21,23,6,2] [⟨some 9,none,.mv (.t 3)⟩,⟨some 10,none,.cmp .neq (.t 9) (.c (.lit .i64 0))⟩])
  (.cond (.t 10)
    (.seq (.reg [0,3,10,4,15,20,22,21,23,6,2] [⟨some 11,none,.mv (.t 3)⟩,⟨some 2,none,.mv (.t 11)⟩])
    .ret)
    .skip)))
  (.seq (.seq (.reg [0,3,10,4,15,20,22,21,23,6,2] [⟨some 12,none,.mv (.t 0)⟩,⟨some 13,none,.call 32 false [((.t 12),.v)]⟩,⟨some 4,none,.mv (.t 13)⟩])
  (.seq (.reg [0,3,10,4,15,20,22,21,23,6,2] [⟨some 14,none,.mv (.t 4)⟩,⟨some 15,none,.cmp .neq (.t 14) (.c (.lit .i64 0))⟩])
  (.cond (.t 15)
    (.seq (.reg [0,3,10,4,15,20,22,21,23,6,2] [⟨some 16,none,.mv (.t 4)⟩,⟨some 2,none,.mv (.t 16)⟩])
    .ret)
    .skip)))
  (.seq (.seq (.reg [0,3,10,4,15,20,22,21,23,6,2] [⟨some 17,none,.mv (.t 0)⟩,⟨some 18,none,.nck (.t 17)⟩,⟨some 19,none,.fa 1 1 (.t 18)⟩,⟨some 20,none,.ld 1 false (.t 19)⟩,⟨some 21,none,.lenS (.t 20)⟩,⟨some 22,none,.mv (.c (.lit .i64 0))⟩])
  (.block 0 (.loop 0 (.seq (.reg [0,3,10,4,15,20,22,21,23,6,2] [⟨some 23,none,.cmp .lss (.t 22) (.t 21)⟩])
   (.seq (.cond (.t 23)
     .skip
     (.exit 0))
   (.seq (.block 1 (.seq (.reg [0,3,10,4,15,20,22,21,23,6,2] [⟨some 24,none,.iaS 2 (.t 20) (.t 22)⟩,⟨some 25,none,.ld 2 true (.t 24)⟩,⟨some 6,none,.alloc (.cat 1 1 (.v (.lit .i64 0)) (.v .nsl))⟩,⟨none,none,.st 2 (.t 6) (.t 25)⟩])
   (.dreg [0,3,10,4,15,20,22,21,23,6,2] [⟨⟨some 26,none,.mv (.t 0)⟩,[],[],none⟩,⟨⟨some 27,none,.nck (.t 26)⟩,[],[],none⟩,⟨⟨some 28,none,.fa 0 1 (.t 27)⟩,[],[],none⟩,⟨⟨some 29,none,.ld 1 false (.t 28)⟩,[],[],none⟩,⟨⟨some 30,none,.fa 0 1 (.t 6)⟩,[],[],none⟩,⟨⟨some 31,none,.ld 1 false (.t 30)⟩,[],[],none⟩,⟨⟨some 32,none,.fa 1 1 (.t 6)⟩,[],[],none⟩,⟨⟨some 33,none,.ld 1 false (.t 32)⟩,[],[],none⟩,⟨⟨some 34,none,.iaS 1 (.t 29) (.t 31)⟩,[],[],none⟩,⟨⟨none,none,.st 1 (.t 34) (.t 33)⟩,[],[],none⟩])))
   (.reg [0,3,10,4,15,20,22,21,23,6,2] [⟨some 35,none,.ar .add .i64 (.t 22) (.c (.lit .i64 1))⟩,⟨some 22,none,.mv (.t 35)⟩])))))))
  (.seq (.reg [0,3,10,4,15,20,22,21,23,6,2] [⟨some 36,none,.mv (.t 0)⟩,⟨some 37,none,.nck (.t 36)⟩,⟨some 38,none,.fa 1 1 (.t 37)⟩,⟨none,none,.st 1 (.t 38) (.c .nsl)⟩])
  (.seq (.reg [0,3,10,4,15,20,22,21,23,6,2] [⟨some 2,none,.mv (.c (.lit .i64 0))⟩])
  .ret))))))⟩
def ic19 : IFn := ⟨1,10,[.t 2],
  (.seq (.reg [0,4,2] [⟨some 2,none,.mv (.c (.lit .i64 0))⟩])
  (.seq (.seq (.reg [0,4,2] [⟨some 3,none,.mv (.t 0)⟩,⟨some 4,none,.eq .p false (.t 3) (.c .nilp)⟩])
  (.cond (.t 4)
    (.seq (.reg [0,4,2] [⟨some 2,none,.mv (.c (.lit .i64 0))⟩])
    .ret)
    .skip))
  (.seq (.reg [0,4,2] [⟨some 5,none,.mv (.t 0)⟩,⟨some 6,none,.nck (.t 5)⟩,⟨some 7,none,.fa 0 1 (.t 6)⟩,⟨some 8,none,.ld 1 false (.t 7)⟩,⟨some 9,none,.lenS (.t 8)⟩,⟨some 2,none,.mv (.t 9)⟩])
  .ret)))⟩
def ic27 : IFn := ⟨2,31,[.t 4],
  (.seq (.reg [0,5,10,1,21,6,25,4] [⟨some 4,none,.mv (.c (.lit .i64 0))⟩])
  (.seq (.seq (.reg [0,5,10,1,21,6,25,4] [⟨some 7,none,.mv (.t 0)⟩,⟨some 8,none,.call 30 false [((.t 7),.v)]⟩,⟨some 5,none,.mv (.t 8)⟩])
  (.seq (.reg [0,5,10,1,21,6,25,4] [⟨some 9,none,.mv (.t 5)⟩,⟨some 10,none,.cmp .neq (.t 9) (.c (.lit .i64 0))⟩])
  (.cond (.t 10)
    (.seq (.reg [0,5,10,1,21,6,25,4] [⟨some 11,none,.mv (.t 5)⟩,⟨some 4,none,.mv (.t 11)⟩])
    .ret)
    .skip)))
  (.seq (.seq (.reg [0,5,10,1,21,6,25,4] [⟨some 12,none,.mv (.t 1)⟩,⟨some 13,none,.mv (.t 0)⟩,⟨some 14,none,.nck (.t 13)⟩,⟨some 15,none,.fa 3 1 (.t 14)⟩,⟨some 16,none,.ld 1 false (.t 15)⟩,⟨some 17,none,.cmp .leq (.t 12) (.t 16)⟩,⟨some 18,none,.mv (.t 17)⟩,⟨some 19,some (18,false),.mv (.t 1)⟩,⟨some 20,some (18,false),.cmp .gtr (.t 19) (.c (.lit .u64 281474976710655))⟩,⟨some 21,none,.pick (.t 18) (.c .tt) (.t 20)⟩])
  (.cond (.t 21)
    (.seq (.reg [0,5,10,1,21,6,25,4] [⟨some 4,none,.mv (.c (.lit .i64 16))⟩])
    .ret)
    .skip))
  (.seq (.seq (.reg [0,5,10,1,21,6,25,4] [⟨some 22,none,.mv (.t 0)⟩,⟨some 23,none,.call 32 false [((.t 22),.v)]⟩,⟨some 6,none,.mv (.t 23)⟩])
  (.seq (.reg [0,5,10,1,21,6,25,4] [⟨some 24,none,.mv (.t 6)⟩,⟨some 25,none,.cmp .neq (.t 24) (.c (.lit .i64 0))⟩])
  (.cond (.t 25)
    (.seq (.reg [0,5,10,1,21,6,25,4] [⟨some 26,none,.mv (.t 6)⟩,⟨some 4,none,.mv (.t 26)⟩])
    .ret)
    .skip)))
  (.seq (.reg [0,5,10,1,21,6,25,4] [⟨some 27,none,.mv (.t 0)⟩,⟨some 28,none,.mv (.t 1)⟩,⟨some 29,none,.nck (.t 27)⟩,⟨some 30,none,.fa 3 1 (.t 29)⟩,⟨none,none,.st 1 (.t 30) (.t 28)⟩])
  (.seq (.reg [0,5,10,1,21,6,25,4] [⟨some 4,none,.mv (.c (.lit .i64 0))⟩])
  .ret))))))⟩
def ic30 : IFn := ⟨1,11,[.t 2],
  (.seq (.reg [0,3,6,2] [⟨some 2,none,.mv (.c (.lit .i64 0))⟩])
  (.seq (.block 0 (.seq (.reg [0,3,6,2] [⟨some 4,none,.mv (.t 0)⟩,⟨some 5,none,.eq .p false (.t 4) (.c .nilp)⟩,⟨some 3,none,.mv (.t 5)⟩])
  (.cond (.t 3)
    (.seq (.reg [0,3,6,2] [⟨some 2,none,.mv (.c (.lit .i64 1))⟩])
    .ret)
    (.seq (.reg [0,3,6,2] [⟨some 7,none,.mv (.t 0)⟩,⟨some 8,none,.nck (.t 7)⟩,⟨some 9,none,.fa 5 1 (.t 8)⟩,⟨some 10,none,.ld 1 false (.t 9)⟩,⟨some 6,none,.mv (.t 10)⟩])
    (.cond (.t 6)
      (.seq (.reg [0,3,6,2] [⟨some 2,none,.mv (.c (.lit .i64 10))⟩])
      .ret)
      .skip)))))
  (.seq (.reg [0,3,6,2] [⟨some 2,none,.mv (.c (.lit .i64 0))⟩])
  .ret)))⟩
def ic31 : IFn := ⟨2,16,[.t 4],
  (.seq (.reg [1,0,4] [⟨some 4,none,.mv (.c .ff)⟩])
  (.seq (.reg [1,0,4] [⟨some 5,none,.mv (.t 1)⟩,⟨some 6,none,.cmp .geq (.t 5) (.c (.lit .i64 0))⟩,⟨some 7,none,.mv (.t 6)⟩,⟨some 8,some (7,true),.mv (.t 1)⟩,⟨some 9,some (7,true),.mv (.t 0)⟩,⟨some 10,some (7,true),.nck (.t 9)⟩,⟨some 11,some (7,true),.fa 0 1 (.t 10)⟩,⟨some 12,some (7,true),.ld 1 false (.t 11)⟩,⟨some 13,some (7,true),.lenS (.t 12)⟩,⟨some 14,some (7,true),.cmp .lss (.t 8) (.t 13)⟩,⟨some 15,none,.pick (.t 7) (.t 14) (.c .ff)⟩,⟨some 4,none,.mv (.t 15)⟩])
  .ret))⟩
def ic32 : IFn := ⟨1,38,[.t 2],
  (.seq (.reg [0,15,21,2] [⟨some 2,none,.mv (.c (.lit .i64 0))⟩])
  (.seq (.reg [0,15,21,2] [⟨some 3,none,.mv (.t 0)⟩,⟨some 4,none,.nck (.t 3)⟩,⟨some 5,none,.fa 11 1 (.t 4)⟩,⟨some 6,none,.ld 1 false (.t 5)⟩,⟨some 7,none,.ar .add .i64 (.t 6) (.c (.lit .i64 1))⟩,⟨some 8,none,.nck (.t 3)⟩,⟨some 9,none,.fa 11 1 (.t 8)⟩,⟨none,none,.st 1 (.t 9) (.t 7)⟩])
  (.seq (.seq (.reg [0,15,21,2] [⟨some 10,none,.mv (.t 0)⟩,⟨some 11,none,.nck (.t 10)⟩,⟨some 12,none,.fa 6 3 (.t 11)⟩,⟨some 13,none,.fa 0 1 (.t 12)⟩,⟨some 14,none,.ld 1 false (.t 13)⟩,⟨some 15,none,.not (.t 14)⟩])
  (.cond (.t 15)
    (.seq (.reg [0,15,21,2] [⟨some 2,none,.mv (.c (.lit .i64 0))⟩])
    .ret)
    .skip))
  (.seq (.seq (.reg [0,15,21,2] [⟨some 16,none,.mv (.t 0)⟩,⟨some 17,none,.nck (.t 16)⟩,⟨some 18,none,.fa 6 3 (.t 17)⟩,⟨some 19,none,.fa 1 1 (.t 18)⟩,⟨some 20,none,.ld 1 false (.t 19)⟩,⟨some 21,none,.cmp .gtr (.t 20) (.c (.lit .i64 0))⟩])
  (.cond (.t 21)
    (.seq (.reg [0,15,21,2] [⟨some 22,none,.mv (.t 0)⟩,⟨some 23,none,.nck (.t 22)⟩,⟨some 24,none,.fa 6 3 (.t 23)⟩,⟨some 25,none,.fa 1 1 (.t 24)⟩,⟨some 26,none,.ld 1 false (.t 25)⟩,⟨some 27,none,.ar .sub .i64 (.t 26) (.c (.lit .i64 1))⟩,⟨some 28,none,.nck (.t 22)⟩,⟨some 29,none,.fa 6 3 (.t 28)⟩,⟨some 30,none,.fa 1 1 (.t 29)⟩,⟨none,none,.st 1 (.t 30) (.t 27)⟩])
    (.seq (.reg [0,15,21,2] [⟨some 2,none,.mv (.c (.lit .i64 0))⟩])
    .ret))
    .skip))
  (.seq (.reg [0,15,21,2] [⟨some 31,none,.mv (.t 0)⟩,⟨some 32,none,.mv (.t 0)⟩,⟨some 33,none,.nck (.t 32)⟩,⟨some 34,none,.fa 6 3 (.t 33)⟩,⟨some 35,none,.fa 2 1 (.t 34)⟩,⟨some 36,none,.ld 1 false (.t 35)⟩,⟨some 37,none,.call 35 false [((.t 31),.v),((.t 36),.v)]⟩])
  (.seq (.reg [0,15,21,2] [⟨some 2,none,.mv (.c (.lit .i64 10))⟩])
  .ret))))))⟩
def ic33 : IFn := ⟨1,8,[.t 2],
  (.seq (.reg [0,4,2] [⟨some 2,none,.mv (.c .nsl)⟩])
  (.seq (.seq (.reg [0,4,2] [⟨some 3,none,.mv (.t 0)⟩,⟨some 4,none,.eq .l false (.t 3) (.c .nsl)⟩])
  (.cond (.t 4)
    (.seq (.reg [0,4,2] [⟨some 2,none,.mv (.c .nsl)⟩])
    .ret)
    .skip))
  (.seq (.reg [0,4,2] [⟨some 5,none,.bsl (.i .u8) 0 []⟩,⟨some 6,none,.mv (.t 0)⟩,⟨some 7,none,.app0 (.i .u8) 1 (.t 5) (.t 6)⟩,⟨some 2,none,.mv (.t 7)⟩])
  .ret)))⟩
def ic34 : IFn := ⟨2,41,[.t 4],
  (.seq (.reg [0,5,13,1,25,4] [⟨some 4,none,.mv (.c .nsl)⟩])
  (.seq (.seq (.reg [0,5,13,1,25,4] [⟨some 6,none,.mv (.t 0)⟩,⟨some 7,none,.nck (.t 6)⟩,⟨some 8,none,.fa 1 1 (.t 7)⟩,⟨some 9,none,.ld 1 false (.t 8)⟩,⟨some 10,none,.lenS (.t 9)⟩,⟨some 11,none,.ar .sub .i64 (.t 10) (.c (.lit .i64 1))⟩,⟨some 5,none,.mv (.t 11)⟩])
  (.block 0 (.loop 0 (.seq (.seq (.reg [0,5,13,1,25,4] [⟨some 12,none,.mv (.t 5)⟩,⟨some 13,none,.cmp .geq (.t 12) (.c (.lit .i64 0))⟩])
   (.cond (.t 13)
     .skip
     (.exit 0)))
   (.seq (.block 1 (.seq (.reg [0,5,13,1,25,4] [⟨some 16,none,.mv (.t 0)⟩,⟨some 17,none,.nck (.t 16)⟩,⟨some 18,none,.fa 1 1 (.t 17)⟩,⟨some 19,none,.ld 1 false (.t 18)⟩,⟨some 20,none,.mv (.t 5)⟩,⟨some 21,none,.iaS 2 (.t 19) (.t 20)⟩,⟨some 22,none,.fa 0 1 (.t 21)⟩,⟨some 23,none,.ld 1 false (.t 22)⟩,⟨some 24,none,.mv (.t 1)⟩,⟨some 25,none,.cmp .eql (.t 23) (.t 24)⟩])
   (.cond (.t 25)
     (.seq (.reg [0,5,13,1,25,4] [⟨some 26,none,.mv (.t 0)⟩,⟨some 27,none,.nck (.t 26)⟩,⟨some 28,none,.fa 1 1 (.t 27)⟩,⟨some 29,none,.ld 1 false (.t 28)⟩,⟨some 30,none,.mv (.t 5)⟩,⟨some 31,none,.iaS 2 (.t 29) (.t 30)⟩,⟨some 32,none,.fa 1 1 (.t 31)⟩,⟨some 33,none,.ld 1 false (.t 32)⟩,⟨some 4,none,.mv (.t 33)⟩])
     .ret)
     .skip)))
   (.reg [0,5,13,1,25,4] [⟨some 14,none,.mv (.t 5)⟩,⟨some 15,none,.ar .sub .i64 (.t 14) (.c (.lit .i64 1))⟩,⟨some 5,none,.mv (.t 15)⟩]))))))
  (.seq (.reg [0,5,13,1,25,4] [⟨some 34,none,.mv (.t 0)⟩,⟨some 35,none,.nck (.t 34)⟩,⟨some 36,none,.fa 0 1 (.t 35)⟩,⟨some 37,none,.ld 1 false (.t 36)⟩,⟨some 38,none,.mv (.t 1)⟩,⟨some 39,none,.iaS 1 (.t 37) (.t 38)⟩,⟨some 40,none,.ld 1 false (.t 39)⟩,⟨some 4,none,.mv (.t 40)⟩])
  .ret)))⟩
def ic35 : IFn := ⟨2,42,[],
  (.seq (.seq (.reg [0,9,11,10,12,5,1,4,21] [⟨some 6,none,.mv (.t 0)⟩,⟨some 7,none,.nck (.t 6)⟩,⟨some 8,none,.fa 1 1 (.t 7)⟩,⟨some 9,none,.ld 1 false (.t 8)⟩,⟨some 10,none,.lenS (.t 9)⟩,⟨some 11,none,.mv (.c (.lit .i64 0))⟩])
  (.block 0 (.loop 0 (.seq (.reg [0,9,11,10,12,5,1,4,21] [⟨some 12,none,.cmp .lss (.t 11) (.t 10)⟩])
   (.seq (.cond (.t 12)
     .skip
     (.exit 0))
   (.seq (.block 1 (.seq (.reg [0,9,11,10,12,5,1,4,21] [⟨some 13,none,.mv (.t 11)⟩,⟨some 14,none,.iaS 2 (.t 9) (.t 11)⟩,⟨some 15,none,.ld 2 true (.t 14)⟩,⟨some 5,none,.alloc (.cat 1 1 (.v (.lit .i64 0)) (.v .nsl))⟩,⟨some 4,none,.mv (.t 13)⟩,⟨none,none,.st 2 (.t 5) (.t 15)⟩])
   (.seq (.reg [0,9,11,10,12,5,1,4,21] [⟨some 16,none,.mv (.t 1)⟩,⟨some 17,none,.mv (.t 4)⟩,⟨some 18,none,.ar .rem .i64 (.t 17) (.c (.lit .i64 64))⟩,⟨some 19,none,.shf .shr .u64 (.t 16) (.t 18)⟩,⟨some 20,none,.ar .and .u64 (.t 19) (.c (.lit .u64 1))⟩,⟨some 21,none,.cmp .eql (.t 20) (.c (.lit .u64 1))⟩])
   (.cond (.t 21)
     (.dreg [0,9,11,10,12,5,1,4,21] [⟨⟨some 22,none,.mv (.t 0)⟩,[],[],none⟩,⟨⟨some 23,none,.nck (.t 22)⟩,[],[],none⟩,⟨⟨some 24,none,.fa 0 1 (.t 23)⟩,[],[],none⟩,⟨⟨some 25,none,.ld 1 false (.t 24)⟩,[],[],none⟩,⟨⟨some 26,none,.fa 0 1 (.t 5)⟩,[],[],none⟩,⟨⟨some 27,none,.ld 1 false (.t 26)⟩,[],[],none⟩,⟨⟨some 28,none,.fa 1 1 (.t 5)⟩,[],[],none⟩,⟨⟨some 29,none,.ld 1 false (.t 28)⟩,[],[],none⟩,⟨⟨some 30,none,.iaS 1 (.t 25) (.t 27)⟩,[],[],none⟩,⟨⟨none,none,.st 1 (.t 30) (.t 29)⟩,[],[],none⟩])
     .skip))))
   (.reg [0,9,11,10,12,5,1,4,21] [⟨some 31,none,.ar .add .i64 (.t 11) (.c (.lit .i64 1))⟩,⟨some 11,none,.mv (.t 31)⟩])))))))
  (.reg [0,9,11,10,12,5,1,4,21] [⟨some 32,none,.mv (.t 0)⟩,⟨some 33,none,.mv (.t 0)⟩,⟨some 34,none,.mv (.t 0)⟩,⟨some 35,none,.bldS (.cat 1 2 (.v .ff) (.cat 1 1 (.v (.lit .i64 0)) (.v (.lit .u64 0)))) []⟩,⟨some 36,none,.nck (.t 32)⟩,⟨some 37,none,.fa 1 1 (.t 36)⟩,⟨none,none,.st 1 (.t 37) (.c .nsl)⟩,⟨some 38,none,.nck (.t 33)⟩,⟨some 39,none,.fa 6 3 (.t 38)⟩,⟨none,none,.st 3 (.t 39) (.t 35)⟩,⟨some 40,none,.nck (.t 34)⟩,⟨some 41,none,.fa 5 1 (.t 40)⟩,⟨none,none,.st 1 (.t 41) (.c .tt)⟩]))⟩
theorem ok3 : fnOk Try.prog 3 = true := by kernel_rfl
theorem co3 : comp Try.prog pu 3 = some ic3 := by kernel_rfl
theorem ok5 : fnOk Try.prog 5 = true := by kernel_rfl
theorem co5 : comp Try.prog pu 5 = some ic5 := by kernel_rfl
theorem ok8 : fnOk Try.prog 8 = true := by kernel_rfl
theorem co8 : comp Try.prog pu 8 = some ic8 := by kernel_rfl
theorem ok9 : fnOk Try.prog 9 = true := by kernel_rfl
theorem co9 : comp Try.prog pu 9 = some ic9 := by kernel_rfl
theorem ok10 : fnOk Try.prog 10 = true := by kernel_rfl
theorem co10 : comp Try.prog pu 10 = some ic10 := by kernel_rfl
theorem ok11 : fnOk Try.prog 11 = true := by kernel_rfl
theorem co11 : comp Try.prog pu 11 = some ic11 := by kernel_rfl
theorem ok12 : fnOk Try.prog 12 = true := by kernel_rfl
theorem co12 : comp Try.prog pu 12 = some ic12 := by kernel_rfl
theorem ok13 : fnOk Try.prog 13 = true := by kernel_rfl
theorem co13 : comp Try.prog pu 13 = some ic13 := by kernel_rfl
theorem ok15 : fnOk Try.prog 15 = true := by kernel_rfl
theorem co15 : comp Try.prog pu 15 = some ic15 := by kernel_rfl
theorem ok16 : fnOk Try.prog 16 = true := by kernel_rfl
theorem co16 : comp Try.prog pu 16 = some ic16 := by kernel_rfl
theorem ok17 : fnOk Try.prog 17 = true := by kernel_rfl
theorem co17 : comp Try.prog pu 17 = some ic17 := by kernel_rfl
theorem ok19 : fnOk Try.prog 19 = true := by kernel_rfl
theorem co19 : comp Try.prog pu 19 = some ic19 := by kernel_rfl
theorem ok27 : fnOk Try.prog 27 = true := by kernel_rfl
theorem co27 : comp Try.prog pu 27 = some ic27 := by kernel_rfl
theorem ok30 : fnOk Try.prog 30 = true := by kernel_rfl
theorem co30 : comp Try.prog pu 30 = some ic30 := by kernel_rfl
theorem ok31 : fnOk Try.prog 31 = true := by kernel_rfl
theorem co31 : comp Try.prog pu 31 = some ic31 := by kernel_rfl
theorem ok32 : fnOk Try.prog 32 = true := by kernel_rfl
theorem co32 : comp Try.prog pu 32 = some ic32 := by kernel_rfl
theorem ok33 : fnOk Try.prog 33 = true := by kernel_rfl
theorem co33 : comp Try.prog pu 33 = some ic33 := by kernel_rfl
theorem ok34 : fnOk Try.prog 34 = true := by kernel_rfl
theorem co34 : comp Try.prog pu 34 = some ic34 := by kernel_rfl
theorem ok35 : fnOk Try.prog 35 = true := by kernel_rfl
theorem co35 : comp Try.prog pu 35 = some ic35 := by kernel_rfl
end Go.Cx.Rd
/- CxFrz -/
namespace Go.Cx
open Go
/-- one part of a result, its new rows told for good -/
def FrzV (news : List V) : V → V → Prop
  | .sl h p i n e _, v => p = [] ∧ i = 0 ∧ ∃ c, news[h]? = some c ∧ isRow e n c ∧ v = .dsl n e c
  | .tcons a b, v => ∃ a' b', v = .tcons a' b' ∧ FrzV news a a' ∧ FrzV news b b'
  | .nsl, v => v = .nsl ∨ ∃ k, v = .dsl 0 1 (.ints k 0 [])
  | v, v' => v.clo = true ∧ v' = v
def Frz (out out' : Out) : Prop := out.news.length ≤ 1000 ∧ out'.objs = out.objs ∧ out'.news = [] ∧ (∀ c ∈ out.news, c.clo = true ∧ c.noown = true) ∧ (∀ c ∈ out.objs, c.clo = true) ∧ FrzV out.news out.v out'.v
theorem outO_mem {b : Nat} {blk : Blk} : ∀ {args : List Arg} {objs : List V} {i : Nat}, (b, blk) ∈ outO i args objs → 100000 ≤ b ∧ blk.k = .own ∧ blk.c ∈ objs := by
  intro args
  induction args with
  | nil => intro objs i h; simp [outO] at h
  | cons a args ih =>
    intro objs i h
    cases a with
    | v _ => exact ih h
    | b _ _ _ => exact ih h
    | o _ _ =>
      cases objs with
      | nil => simp [outO] at h
      | cons c cs =>
        simp only [outO, List.mem_cons, Prod.mk.injEq] at h
        rcases h with ⟨rfl, rfl⟩ | h
        · exact ⟨by simp only [parH]; omega, rfl, by simp⟩
        · obtain ⟨h1, h2, h3⟩ := ih h
          exact ⟨h1, h2, List.mem_cons_of_mem _ h3⟩
theorem outN_at {b : Nat} {blk : Blk} : ∀ {news : List V} {i : Nat}, look (outN i news) b = some blk → i ≤ b ∧ ∃ c, news[b - i]? = some c ∧ blk = ⟨.own, c⟩ := by
  intro news
  induction news with
  | nil => intro i h; simp [outN, look] at h
  | cons c news ih =>
    intro i h
    simp only [outN, look] at h
    split at h
    · rename_i e
      subst e
      simp only [Option.some.injEq] at h
      exact ⟨Nat.le_refl _, c, by simp, h.symm⟩
    · obtain ⟨h1, c', h2, h3⟩ := ih h
      refine ⟨by omega, c', ?_, h3⟩
      rw [show b - i = (b - (i + 1)) + 1 by omega]
      simpa using h2
theorem outN_of {news : List V} {j : Nat} {c : V} (h : news[j]? = some c) : ∀ {i : Nat}, look (outN i news) (i + j) = some ⟨.own, c⟩ := by
  induction news generalizing j with
  | nil => simp at h
  | cons c0 news ih =>
    intro i
    simp only [outN, look]
    cases j with
    | zero =>
      simp at h
      subst h
      simp
    | succ j =>
      rw [if_neg (by omega)]
      have := ih (by simpa using h) (i := i + 1)
      rw [← this]; congr 1; omega
theorem look_app {α : Type} : ∀ {l m : List (Nat × α)} {k : Nat}, look (l ++ m) k = match look l k with | some a => some a | none => look m k := by
  intro l
  induction l with
  | nil => intro m k; rfl
  | cons p l ih =>
    intro m k
    obtain ⟨i, a⟩ := p
    simp only [List.cons_append, look]
    split
    · rfl
    · exact ih
theorem Sound.freezeOk {P : Program} {G : List (Nat × V)} {f : FuncId} {pure : Bool} {c c' : Ctr} (h : Sound P G f pure c) (hc : ∀ args out', okAs args → (c' args).to out' → ∃ out, (c args).to out ∧ Frz out out') : Sound P G f pure c' := by
  refine ⟨h.1, fun args out' vals w F I ρ ow h1 h2 h3 h4 h5 hR hV => ?_⟩
  have hokas : okAs args := okAs_of (i0 := 0) (all := args) (fun i a h => by rwa [Nat.zero_add]) h3 hR (fun i a hi => ⟨_, hV i a hi⟩) h4
  obtain ⟨out, g1, g0, g2, g3, g4, g5, g6⟩ := hc args out' hokas h1
  refine Calls.mono (h.2 args out vals w F I ρ ow g1 h2 h3 h4 h5 hR hV) ?_
  rintro en w' ⟨x, I', ρ', ow', rfl, hx, hR'⟩
  have hr0 : ∀ k l, ρ k = some l → 100000 ≤ k := fun k l hk => by
    rcases Nat.lt_or_ge k 100000 with h | h
    · exfalso
      apply hR.dom k l hk h
      show parHs G pure args k = none
      simp only [parHs]
      rw [if_neg (by omega), if_neg (by omega)]
    · exact h
  have hO : ∀ k blk, look (outO 0 args out.objs) k = some blk → 100000 ≤ k ∧ blk.k = .own ∧ blk.c ∈ out.objs := fun k blk hk => outO_mem (look_mem hk)
  have hlow : ∀ k, k < 100000 → outHs args out k = look (outN 0 out.news) k := fun k hk => by
    simp only [outHs, look_app]
    cases hq : look (outO 0 args out.objs) k with
    | none => rfl
    | some blk => have := (hO k blk hq).1; omega
  have hhigh : ∀ k, 100000 ≤ k → outHs args out k = look (outO 0 args out.objs) k := fun k hk => by
    simp only [outHs, look_app]
    cases hq : look (outO 0 args out.objs) k with
    | none =>
      cases hq2 : look (outN 0 out.news) k with
      | none => rfl
      | some blk =>
        obtain ⟨_, c, e, _⟩ := outN_at hq2
        have := (List.getElem?_eq_some_iff.1 e).1
        omega
    | some blk => rfl
  have hhs' : outHs args out' = look (outO 0 args out.objs) := by
    funext k
    simp only [outHs, g2, g3, outN, List.append_nil]
  let own' : Own := fun b => match ow' b with
    | some (k :: r) => if 100000 ≤ k then some (k :: r) else none
    | _ => none
  let I2 : Nat → Prop := fun b => I' b ∨ ∃ k, k < 100000 ∧ ow' b = some [k]
  let ρ2 : Rho := fun k => if k < 100000 then none else ρ' k
  have hII : ∀ b, I' b → I2 b ∧ w'.heap[b]? = w'.heap[b]? := fun b hb => ⟨.inl hb, rfl⟩
  have keepO : ∀ b k r, ow' b = some (k :: r) → 100000 ≤ k → own' b = some (k :: r) := fun b k r h1 h2 => by
    simp only [own', h1, h2, if_true]
  have hcell : ∀ k c, out.news[k]? = some c → ∀ {e n : Nat} {cap : Option Nat} {v : Value}, isRow e n c → CRep I' w' (fun _ => none) (.sl k [] 0 n e cap) ρ' [] 0 (fun _ => some v) →
      CRep I2 w' (fun _ => none) (.dsl n e c) ρ2 [] 0 (fun _ => some v) := by
    intro k c hk e n cap v hrow hv
    have hkl : k < 100000 := by have := (List.getElem?_eq_some_iff.1 hk).1; omega
    obtain ⟨k1, k2⟩ := g4 c (List.mem_of_getElem? hk)
    have hN : look (outN 0 out.news) k = some ⟨.own, c⟩ := by have := outN_of hk (i := 0); rwa [Nat.zero_add] at this
    have hkk : outHs args out k = some ⟨.own, c⟩ := by rw [hlow k hkl, hN]
    obtain ⟨a, cp, l, j1, j2, j3, j4, _, j5⟩ := hv
    obtain ⟨l', m1, m2⟩ := hR'.heap k _ hkk
    rw [j2] at m1
    cases m1
    have turn : ∀ {q : List Nat} {g : Nat → Option Value}, CRep I' w' ow' c ρ' q 0 g → (∀ j, j < c.size → behind w' a j = g j) → CRep I2 w' (fun _ => none) c noR [] 0 (behind w' a) := fun {q g} m hg => by
      have m4 := CRep.noq _ _ _ [] _ 0 _ k2 m
      exact CRep.noow (ow := ow') (CRep.closed _ _ noR _ _ _ k1 (CRep.mono (g' := behind w' a) hII _ _ _ _ _ _ (Rho.le_refl _) (fun h => absurd rfl h) hg m4))
    refine ⟨a, cp, j1, j3, j4, hrow, ?_, ?_⟩
    · rcases j5 with rfl | ⟨b, off, sz, rfl, rfl, j6⟩
      · obtain rfl : n = 0 := by omega
        have hz : c.size = 0 := isRow_zero hrow
        rcases m2 with ⟨_, _, m3⟩ | ⟨_, _, _, _, _, _, _, _, m3⟩
        · exact turn m3 (fun j hj => by omega)
        · exact turn m3 (fun j hj => by omega)
      · rcases m2 with ⟨m3, _⟩ | ⟨b', off', sz', cur, m3, m4, m5, m6, m7⟩
        · cases m3
        · cases m3
          refine turn m7 (fun j hj => ?_)
          obtain ⟨ty, fr, m9, _⟩ := m5
          simp only [behind, poff, Nat.zero_mul, Nat.add_zero, World.cell?, m9]
          rfl
    · rcases j5 with rfl | ⟨b, off, sz, rfl, rfl, j6⟩
      · exact .inl rfl
      · rcases m2 with ⟨m3, _⟩ | ⟨b', off', sz', cur, m3, m4, m5, m6, m7⟩
        · cases m3
        · cases m3
          exact .inr ⟨b, _, rfl, .inr ⟨k, hkl, m4⟩⟩
  have one : ∀ {v v' : V} {y : Value}, FrzV out.news v v' → v.isTup = false → VRep0 I' w' ρ' v y → VRep0 I2 w' ρ2 v' y := by
    intro v v' y hf ht hy
    have plain : v.clo = true ∧ v' = v → VRep0 I2 w' ρ2 v' y := by
      rintro ⟨k1, rfl⟩
      rcases hy with rfl | ⟨e1, e2, e3⟩
      · exact .inl rfl
      · exact .inr ⟨e1, e2, CRep.closed _ _ _ _ _ _ k1 (CRep.mono hII _ _ _ _ _ _ _ (Rho.le_refl _) (fun h => absurd rfl h) (fun _ _ => rfl) e3)⟩
    cases v <;> first | exact plain hf | (cases ht; done) | skip
    case nsl =>
      rcases hf with rfl | ⟨k, rfl⟩
      · exact plain ⟨rfl, rfl⟩
      · obtain ⟨e1, e2, e3⟩ := hy.leaf (by simp) rfl
        exact VRep0.ofLeaf rfl rfl e1 ⟨none, 0, e3, Nat.le_refl _, by simp, ⟨rfl, rfl⟩, ⟨rfl, by simp, fun j hj => by omega⟩, .inl rfl⟩
    rename_i k p i n e cap
    obtain ⟨rfl, rfl, c, hk, hrow, rfl⟩ := hf
    obtain ⟨e1, e2, e3⟩ := hy.leaf (by simp) rfl
    have e4 : CRep I' w' (fun _ => none) (.sl k [] 0 n e cap) ρ' [] 0 (fun _ => some y) := CRep.mono (fun b hb => ⟨hb, rfl⟩) _ _ _ _ _ _ _ (Rho.le_refl _) (fun h => absurd rfl h) (fun j hj => by simp only [V.size] at hj; obtain rfl : j = 0 := (by omega); rfl) e3
    exact VRep0.ofLeaf rfl rfl e1 (hcell k c hk hrow e4)
  have tup : ∀ {v v' : V} {l : List Value}, FrzV out.news v v' → TRep I' w' ρ' v l → TRep I2 w' ρ2 v' l := by
    intro v
    induction v with
    | tnil => rintro v' l ⟨_, rfl⟩ hl; exact hl
    | tcons a b _ ihb =>
      rintro v' l ⟨a', b', rfl, f1, f2⟩ ⟨y, r, rfl, hy, hr⟩
      refine ⟨y, r, rfl, ?_, ihb f2 hr⟩
      by_cases ht : a.isTup = false
      · exact one f1 ht hy
      · exfalso
        rcases hy with rfl | ⟨_, _, hy⟩
        · exact ht rfl
        · cases a <;> first | exact ht rfl | exact hy.elim
    | _ => intro v' l _ hl; exact hl.elim
  have hval : VRep I2 w' ρ2 out'.v x := by
    generalize out.v = v, out'.v = v' at hx g6
    cases v with
    | tnil => obtain ⟨_, rfl⟩ := g6; exact hx
    | tcons a b =>
      obtain ⟨l, rfl, hl⟩ := hx
      have := tup g6 hl
      obtain ⟨a', b', rfl, _⟩ := g6
      exact ⟨l, rfl, this⟩
    | _ => exact (one g6 rfl hx).up
  refine ⟨x, I2, ρ2, own', rfl, hval, ?_⟩
  exact
    { frame := hR'.frame
      size := hR'.size
      os := hR'.os
      tape := hR'.tape
      output := hR'.output
      iold := fun b hb => .inl (hR'.iold b hb)
      inew := fun b hb => by
        rcases hb with hb | ⟨k, hk, hb⟩
        · exact hR'.inew b hb
        · exact .inr (hR'.owf b _ hb).2.1
      ilt := fun b hb => by
        rcases hb with hb | ⟨k, hk, hb⟩
        · exact hR'.ilt b hb
        · exact (hR'.owf b _ hb).1
      iow := fun b hb => by
        rcases hb with hb | ⟨k, hk, hb⟩
        · simp only [own', hR'.iow b hb]
        · simp only [own', hb]
          rw [if_neg (by omega)]
      owf := fun b q hb => by
        simp only [own'] at hb
        split at hb
        · rename_i k r hk
          split at hb
          · rename_i hge
            cases hb
            obtain ⟨m1, m2, hh, r', c0, m3, m4⟩ := hR'.owf b _ hk
            injection m3 with e1 e2
            subst e1
            refine ⟨m1, m2, k, r, c0, rfl, ?_⟩
            show outHs args out' k = _
            rw [hhs', ← hhigh k hge]
            exact m4
          · cases hb
        · cases hb
      dom := fun k l hk hlt => by
        simp only [ρ2, if_pos hlt] at hk
        cases hk
      glob := fun n => by
        obtain ⟨sz, hg⟩ := hR'.glob n
        refine ⟨sz, ?_⟩
        simp only [ρ2]
        rw [if_neg (by simp only [globH]; omega)]
        exact hg
      tsz := hR'.tsz
      nle := hR'.nle
      rle := fun k l hk => by
        have := hr0 k l hk
        simp only [ρ2]
        rw [if_neg (by omega)]
        exact hR'.rle k l hk
      tmps := fun i => VRep.any _ _ _ _
      heap := fun k blk hk => by
        have hk : outHs args out' k = some blk := hk
        rw [hhs'] at hk
        obtain ⟨hge, hown, hmem⟩ := hO k blk hk
        obtain ⟨l, m1, m2⟩ := hR'.heap k blk (by show outHs args out k = _; rw [hhigh k hge, hk])
        refine ⟨l, by simp only [ρ2]; rw [if_neg (by omega)]; exact m1, ?_⟩
        obtain ⟨bk, bc⟩ := blk
        simp only at hown hmem
        subst hown
        have hclo := g5 _ hmem
        rcases m2 with ⟨rfl, m3, m4⟩ | ⟨b, off, sz, cur, rfl, m3, m4, m5, m6⟩
        · exact .inl ⟨rfl, m3, CRep.reown (ow := ow') _ _ _ _ _ _ _ hclo (fun h => absurd rfl h) (CRep.mono hII _ _ _ _ _ _ _ (Rho.le_refl _) (fun h => absurd rfl h) (fun _ _ => rfl) m4)⟩
        · refine .inr ⟨b, off, sz, cur, rfl, keepO _ _ _ m3 hge, m4, m5, CRep.reown (ow := ow') _ _ _ _ [k] _ _ hclo (fun _ => ⟨by simp, fun b r hr hb => keepO _ _ _ hb hge⟩) (CRep.mono hII _ _ _ _ _ _ _ (Rho.le_refl _) (fun _ b r _ hb => ⟨hb, rfl⟩) (fun _ _ => rfl) m6)⟩ }
theorem Sound.freeze {P : Program} {G : List (Nat × V)} {f : FuncId} {pure : Bool} {c c' : Ctr} (h : Sound P G f pure c) (hc : ∀ args out', (c' args).to out' → ∃ out, (c args).to out ∧ Frz out out') : Sound P G f pure c' :=
  h.freezeOk fun args out' _ => hc args out'
/-- a contract that says less -/
theorem Sound.sub {P : Program} {G : List (Nat × V)} {f : FuncId} {pure : Bool} {c c' : Ctr} (h : Sound P G f pure c) (hc : ∀ args out, (c' args).to out → (c args).to out) : Sound P G f pure c' :=
  ⟨h.1, fun args out vals w F I ρ ow h1 => h.2 args out vals w F I ρ ow (hc args out h1)⟩
end Go.Cx
