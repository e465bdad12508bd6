/-
  What the laws of this claim stand on, part D: proved parts, no statement of its own.
-/
import Derived.Test.YtojllgpnhaaagaaDoorSealC
import Derived.IntWalk
import Derived.WalkKit
import Derived.ProofKit
import Derived.OpenShut
import Derived.Deep.DeepHandedRow
import Derived.Lib.LaidTab
import Derived.Test.YtojllgpnhaaagaaDoorChecked
import Derived.KernelRfl
/- CxHead -/
namespace Go.Cx
open Go
theorem CRep.phq {I : Nat → Prop} {w : World} {ow : Own} (c : V) : ∀ (ρ : Rho) (q q' : List Nat) (pos pos' : Nat), CRep I w ow c ρ q pos (fun _ => none) → CRep I w ow c ρ q' pos' (fun _ => none) := by
  induction c with
  | cat n m a b iha ihb => intro ρ q q' pos pos' h; exact ⟨h.1, h.2.1, iha _ _ _ _ _ h.2.2.1, ihb _ _ _ _ _ h.2.2.2⟩
  | one a ih => intro ρ q q' pos pos' h; exact ⟨h.1, ih _ _ _ _ _ h.2⟩
  | osl n e c _ => intro ρ q q' pos pos' h; obtain ⟨_, a, cp, h1, _⟩ := h; cases h1
  | optr c _ => intro ρ q q' pos pos' h; obtain ⟨_, b, off, cur, h1, _⟩ := h; cases h1
  | _ => intro ρ q q' pos pos' h; exact h
theorem look_mem {α : Type} {l : List (Nat × α)} {k : Nat} {v : α} (h : look l k = some v) : (k, v) ∈ l := by
  induction l with
  | nil => cases h
  | cons p l ih =>
    obtain ⟨k', v'⟩ := p
    simp only [look] at h
    split at h
    · rename_i e
      cases h
      subst e
      simp
    · simp [ih h]
theorem look_of {α : Type} {l : List (Nat × α)} {k : Nat} {v : α} (hn : (l.map (·.1)).Nodup) (h : (k, v) ∈ l) : look l k = some v := by
  induction l with
  | nil => simp at h
  | cons p l ih =>
    obtain ⟨k', v'⟩ := p
    simp only [List.map_cons, List.nodup_cons] at hn
    simp only [look]
    rcases List.mem_cons.1 h with h | h
    · cases h; rw [if_pos rfl]
    · rw [if_neg (fun e => hn.1 (List.mem_map.2 ⟨_, h, e⟩)), ih hn.2 h]
theorem look_some {α : Type} {l : List (Nat × α)} {k : Nat} (h : k ∈ l.map (·.1)) : ∃ v, look l k = some v := by
  induction l with
  | nil => simp at h
  | cons p l ih =>
    obtain ⟨k', v'⟩ := p
    simp only [look]
    by_cases e : k = k'
    · exact ⟨v', by rw [if_pos e]⟩
    · rw [if_neg e]
      exact ih (by simpa [e] using h)
theorem lkT_mem {l : List (Nat × V)} {i : Nat} : lkT l i = .any ∨ (i, lkT l i) ∈ l := by
  induction l with
  | nil => exact .inl rfl
  | cons p l ih =>
    obtain ⟨k, v⟩ := p
    simp only [lkT]
    by_cases e : i = k
    · rw [if_pos e, e]; exact .inr (by simp)
    · rw [if_neg e]
      exact ih.imp id (fun h => by simp [h])
section
variable {I : Nat → Prop} {w : World} {ρ ρ' : Rho} {r : List (Nat × Nat)} {h : Nat → Option Blk} {has : Nat → Bool}
theorem mtV0 (hρ : ∀ a l, has a = true → ρ (lkN r a) = some l → ρ' a = some l) {v c' : V} {x : Value} (hm : (mtC apf r h v c').to []) (hn : v.noown = true) (ha : v.hAll has = true) (hv : VRep0 I w ρ c' x) : VRep0 I w ρ' v x := by
  by_cases e : v = .any
  · exact .inl e
  · rcases hv with rfl | ⟨h1, h2, h3⟩
    · cases v <;> first | exact absurd rfl e | exact hm.elim
    · obtain ⟨g1, g2⟩ := mtC_size v c' hm
      exact .inr ⟨by rw [h1, g1], by rw [h2, g2 e], mtC_rep (ow := fun _ => none) v c' hm ha hρ (fun e => absurd rfl e) (.inr hn) h3⟩
theorem mtT (hρ : ∀ a l, has a = true → ρ (lkN r a) = some l → ρ' a = some l) : ∀ {v c' : V} {l : List Value}, (mtC apf r h v c').to [] → v.noown = true → v.hAll has = true → TRep I w ρ c' l → TRep I w ρ' v l := by
  intro v
  induction v with
  | tnil => intro c' l hm _ _ hv; cases c' <;> first | exact hm.elim | exact hv
  | tcons a b _ ihb =>
    intro c' l hm hn ha hv
    cases c' <;> first | exact hm.elim | skip
    rename_i a' b'
    obtain ⟨x, h2, hm2⟩ := bind_to hm
    obtain ⟨y, h3, h4⟩ := bind_to hm2
    have h4 : x ++ y = [] := h4
    obtain ⟨rfl, rfl⟩ := List.append_eq_nil_iff.1 h4
    simp only [V.hAll, Bool.and_eq_true] at ha
    simp only [V.noown, Bool.and_eq_true] at hn
    obtain ⟨u, r', g1, g2, g3⟩ := hv
    exact ⟨u, r', g1, mtV0 hρ h2 hn.1 ha.1 g2, ihb h3 hn.2 ha.2 g3⟩
  | any =>
    intro c' l hm _ _ hv
    obtain ⟨h1, _⟩ := rif_to (show (rif (c'.size == 1 && !c'.isTup) 101 (.ok [])).to [] by cases c' <;> exact hm)
    cases c' <;> first | exact hv.elim | simp [V.isTup] at h1
  | _ => intro c' l hm _ _ hv; cases c' <;> first | exact hm.elim | exact hv.elim
theorem mtV (hρ : ∀ a l, has a = true → ρ (lkN r a) = some l → ρ' a = some l) {v c' : V} {x : Value} (hm : (mtC apf r h v c').to []) (hn : v.noown = true) (ha : v.hAll has = true) (hv : VRep I w ρ c' x) : VRep I w ρ' v x := by
  by_cases e : v = .any
  · rw [e]; exact VRep.any _ _ _ _
  · cases c' with
    | tnil => cases v <;> first | exact hm.elim | exact absurd rfl e | exact hv
    | tcons a b =>
      obtain ⟨l, h1, h2⟩ := hv
      have := mtT hρ hm hn ha h2
      cases v <;> first | exact hm.elim | exact absurd rfl e | skip
      exact ⟨l, h1, this⟩
    | _ => exact VRep0.up (mtV0 hρ hm hn ha hv)
end
section
variable {X : Fix} {I : Nat → Prop} {ρ : Rho} {ow : Own} {s : St} {tm : Array Value} {w : World}
theorem subT_spec {L : LSt} : ∀ {l : List (Nat × V)} {u : Unit}, (subT apf L s l).to u → ∀ p ∈ l, (mtC apf L.ren s.h p.2 (s.t p.1)).to [] ∧ p.2.noown = true ∧ p.2.hAll L.has = true := by
  intro l
  induction l with
  | nil => intro u _ p hp; simp at hp
  | cons q l ih =>
    intro u hu p hp
    obtain ⟨i, v⟩ := q
    obtain ⟨x, h1, h2⟩ := bind_to hu
    obtain ⟨h3, h4⟩ := rif_to h2
    simp only [Bool.and_eq_true, List.isEmpty_iff] at h3
    obtain ⟨⟨rfl, h5⟩, h6⟩ := h3
    rcases List.mem_cons.1 hp with rfl | hp
    · exact ⟨h1, h5, h6⟩
    · exact ih h4 p hp
theorem subH_spec {L : LSt} : ∀ {l : List (Nat × Blk)} {u : Unit}, (subH apf L s l).to u → ∀ p ∈ l, ∃ b', s.h (lkN L.ren p.1) = some b' ∧ kindOk p.2.k b'.k = true ∧ (p.2.k.isOwn = true ∨ p.2.c.noown = true) ∧
    (if p.2.k.isImm then p.2.c.clo = true else p.2.c.hAll L.has = true) ∧ (mtC apf L.ren s.h p.2.c b'.c).to [] := by
  intro l
  induction l with
  | nil => intro u _ p hp; simp at hp
  | cons q l ih =>
    intro u hu p hp
    obtain ⟨i, b⟩ := q
    simp only [subH] at hu
    split at hu
    · rename_i b' hb'
      obtain ⟨h1, h2⟩ := rif_to hu
      obtain ⟨x, h3, h4⟩ := bind_to h2
      obtain ⟨h5, h6⟩ := rif_to h4
      simp only [List.isEmpty_iff] at h5
      subst h5
      simp only [Bool.and_eq_true, Bool.or_eq_true] at h1
      rcases List.mem_cons.1 hp with rfl | hp
      · refine ⟨b', hb', h1.1.1, h1.1.2, ?_, h3⟩
        have := h1.2
        split at this
        · rename_i e; rw [if_pos e]; exact this
        · rename_i e; rw [if_neg e]; exact this
      · exact ih h6 p hp
    · exact hu.elim
def headRho (ρ : Rho) (L : LSt) : Rho := fun k => if 100000 ≤ k then ρ k else if (L.hs.any fun p => p.1 == k) then ρ (lkN L.ren k) else none
open Classical in
noncomputable def headOw (ow : Own) (L : LSt) : Own := fun b => match ow b with
  | some (y :: r) => if h : ∃ k, k ∈ L.hs.map (·.1) ∧ lkN L.ren k = y then some (h.choose :: r) else none
  | _ => none
theorem map_nodup_inj {f : Nat → Nat} : ∀ {l : List (Nat × Blk)}, (l.map fun p => f p.1).Nodup → ∀ {a b : Nat}, a ∈ l.map (·.1) → b ∈ l.map (·.1) → f a = f b → a = b := by
  intro l
  induction l with
  | nil => intro _ a b ha; simp at ha
  | cons p l ih =>
    intro hn a b ha hb e
    simp only [List.map_cons, List.nodup_cons] at hn
    simp only [List.map_cons, List.mem_cons] at ha hb
    have mem : ∀ {c : Nat}, c ∈ l.map (·.1) → f c ∈ l.map (fun p => f p.1) := fun {c} hc => by
      obtain ⟨q, hq, e⟩ := List.mem_map.1 hc
      exact List.mem_map.2 ⟨q, hq, by rw [← e]⟩
    rcases ha with rfl | ha <;> rcases hb with rfl | hb
    · rfl
    · exact absurd (e ▸ mem hb) hn.1
    · exact absurd (e ▸ mem ha) hn.1
    · exact ih hn.2 ha hb e
/-- a state told by a loop's head -/
theorem Rep.head (h : Rep X I ρ ow s tm w) (hr0 : ∀ k l, X.r0 k = some l → 100000 ≤ k) {L : LSt} {u : Unit} (hs : (subR apf s L).to u) : Rep X I (headRho ρ L) (headOw ow L) L.st tm w := by
  obtain ⟨h1, hs⟩ := rif_to hs
  obtain ⟨u', hT, hH⟩ := bind_to hs
  simp only [Bool.and_eq_true, List.all_eq_true, decide_eq_true_eq] at h1
  obtain ⟨⟨n1, n2⟩, n3⟩ := h1
  have n1 := nodupN_spec n1
  have n2 := nodupN_spec n2
  have hT := subT_spec hT
  have hH := subH_spec hH
  have big : ∀ k, 100000 ≤ k → lkN L.ren k = k := fun k hk => by
    simp only [lkN]
    cases hq : look L.ren k with
    | none => rfl
    | some j =>
      have := (n3 _ (look_mem hq)).1
      omega
  have ham : ∀ k, (L.hs.any fun p => p.1 == k) = true ↔ k ∈ L.hs.map (·.1) := fun k => by simp [List.any_eq_true, List.mem_map]
  have hρk : ∀ k, k ∈ L.hs.map (·.1) → headRho ρ L k = ρ (lkN L.ren k) := fun k hk => by
    simp only [headRho]
    split
    · rename_i e; rw [big k e]
    · rw [if_pos ((ham k).2 hk)]
  have hρ : ∀ a l, L.has a = true → ρ (lkN L.ren a) = some l → headRho ρ L a = some l := fun a l ha hl => by
    simp only [LSt.has, Bool.or_eq_true, decide_eq_true_eq] at ha
    rcases ha with ha | ha
    · rw [big a ha] at hl
      simp only [headRho, if_pos ha, hl]
    · rw [hρk a ((ham a).1 ha), hl]
  have how : ∀ b y r k, ow b = some (y :: r) → k ∈ L.hs.map (·.1) → lkN L.ren k = y → headOw ow L b = some (k :: r) := fun b y r k hb hk e => by
    have hex : ∃ k, k ∈ L.hs.map (·.1) ∧ lkN L.ren k = y := ⟨k, hk, e⟩
    simp only [headOw, hb, dif_pos hex]
    rw [map_nodup_inj (f := lkN L.ren) n2 hex.choose_spec.1 hk (hex.choose_spec.2.trans e.symm)]
  have hno : ∀ b, ow b = none → headOw ow L b = none := fun b hb => by simp [headOw, hb]
  exact
    { frame := h.frame
      size := h.size
      os := h.os
      tape := h.tape
      output := h.output
      iold := h.iold
      inew := h.inew
      ilt := h.ilt
      iow := fun b hb => hno b (h.iow b hb)
      owf := fun b q hb => by
        simp only [headOw] at hb
        split at hb
        · rename_i y r hy
          split at hb
          · rename_i hex
            cases hb
            obtain ⟨g1, g2, hd, r', c, g3, g4⟩ := h.owf b _ hy
            cases g3
            obtain ⟨g5, g6⟩ := hex.choose_spec
            obtain ⟨⟨k, blk⟩, hk, e⟩ := List.mem_map.1 g5
            simp only at e
            obtain ⟨b', g7, g8, _⟩ := hH _ hk
            simp only at g7 g8
            rw [e, g6, g4] at g7
            cases g7
            obtain ⟨bk, bc⟩ := blk
            refine ⟨g1, g2, hex.choose, r, bc, rfl, ?_⟩
            show look L.hs hex.choose = _
            rw [← e, look_of n1 hk]
            cases bk <;> first | rfl | cases g8
          · cases hb
        · cases hb
      dom := fun k l hk hlt => by
        simp only [headRho] at hk
        rw [if_neg (by omega)] at hk
        split at hk
        · rename_i e
          obtain ⟨v, hv⟩ := look_some ((ham k).1 e)
          show look L.hs k ≠ none
          rw [hv]; simp
        · cases hk
      glob := fun n => by
        obtain ⟨sz, hg⟩ := h.glob n
        refine ⟨sz, ?_⟩
        simp only [headRho]
        rw [if_pos (by simp only [globH]; omega)]
        exact hg
      tsz := h.tsz
      nle := h.nle
      rle := fun k l hk => by
        simp only [headRho]
        rw [if_pos (hr0 k l hk)]
        exact h.rle k l hk
      tmps := fun i => by
        show VRep I w (headRho ρ L) (lkT L.ts i) _
        rcases lkT_mem (l := L.ts) (i := i) with e | e
        · rw [e]; exact VRep.any _ _ _ _
        · obtain ⟨g1, g2, g3⟩ := hT _ e
          exact mtV hρ g1 g2 g3 (h.tmps i)
      heap := fun k blk hk => by
        have hk : look L.hs k = some blk := hk
        have hm := look_mem hk
        have hkm : k ∈ L.hs.map (·.1) := List.mem_map.2 ⟨_, hm, rfl⟩
        obtain ⟨b', g1, g2, g3, g4, g5⟩ := hH _ hm
        simp only at g1 g2 g3 g4 g5
        obtain ⟨l, g6, g7⟩ := h.heap _ _ g1
        refine ⟨l, by rw [hρk k hkm]; exact g6, ?_⟩
        obtain ⟨bk, bc⟩ := blk
        obtain ⟨bk', bc'⟩ := b'
        simp only at g2 g3 g4 g5
        have hsz := (mtC_size bc bc' g5).1
        cases bk <;> cases bk' <;> first | cases g2 | skip
        · simp only [Bk.isImm, Bool.false_eq_true, if_false] at g4
          have hO : [lkN L.ren k] ≠ [] → [k] ≠ [] ∧ ∀ b rr, rr ≠ [] → ow b = some ([lkN L.ren k] ++ rr) → headOw ow L b = some ([k] ++ rr) := fun _ => ⟨by simp, fun b rr _ hb => how b _ rr k hb hkm rfl⟩
          rcases g7 with ⟨rfl, q1, q2⟩ | ⟨b, off, sz, cur, rfl, q1, q2, q3, q4⟩
          · refine .inl ⟨rfl, hsz.trans q1, ?_⟩
            have := mtC_rep bc bc' g5 g4 hρ hO (.inl (by simp)) (CRep.anyq bc' ρ [lkN L.ren k] 0 0 _ q2)
            exact CRep.phq _ _ _ _ _ _ this
          · exact .inr ⟨b, off, sz, cur, rfl, how b _ [] k q1 hkm rfl, q2, q3, mtC_rep bc bc' g5 g4 hρ hO (.inl (by simp)) q4⟩
        · simp only [Bk.isImm, Bool.false_eq_true, if_false] at g4
          have hn : bc.noown = true := by simpa [Bk.isOwn] using g3
          rcases g7 with ⟨rfl, q1, q2⟩ | ⟨b, off, sz, rfl, q1, q2, q3, q4⟩
          · exact .inl ⟨rfl, hsz.trans q1, mtC_rep bc bc' g5 g4 hρ (fun e => absurd rfl e) (.inr hn) q2⟩
          · exact .inr ⟨b, off, sz, rfl, q1, hno b q2, by simp only at q3 ⊢; omega, mtC_rep bc bc' g5 g4 hρ (fun e => absurd rfl e) (.inr hn) q4⟩
        · have hn : bc.noown = true := by simpa [Bk.isOwn] using g3
          rcases g7 with ⟨rfl, q1, q2⟩ | ⟨b, off, sz, rfl, q1, q2, q3⟩
          · exact .inl ⟨rfl, hsz.trans q1, mtC_rep bc bc' g5 (hAll_true bc) (fun _ _ _ e => by cases e) (fun e => absurd rfl e) (.inr hn) q2⟩
          · exact .inr ⟨b, off, sz, rfl, q1, by simp only at q2 ⊢; omega, mtC_rep bc bc' g5 (hAll_true bc) (fun _ _ _ e => by cases e) (fun e => absurd rfl e) (.inr hn) q3⟩ }
theorem VRep0.okv {v : V} {x : Value} (h : VRep0 I w ρ v x) : v.okv := by
  rcases h with rfl | ⟨_, _, h⟩
  · trivial
  · exact CRep.okv _ _ _ _ _ h
theorem TRep.okv : ∀ {v : V} {l : List Value}, TRep I w ρ v l → v.okv := by
  intro v
  induction v with
  | tnil => intro l _; trivial
  | tcons a b _ ihb => intro l h; obtain ⟨y, r, _, h2, h3⟩ := h; exact ⟨h2.okv, ihb h3⟩
  | _ => intro l h; exact h.elim
theorem VRep.okv {v : V} {x : Value} (h : VRep I w ρ v x) : v.okv := by
  cases v with
  | tnil => trivial
  | tcons a b => obtain ⟨l, _, h2⟩ := h; exact h2.okv
  | _ => exact VRep0.okv h
theorem blk_okv {hd : Nat} {l : Lo} {k : Bk} {c : V} (hk : k ≠ .dead) (h : BRep I w ρ ow hd l ⟨k, c⟩) : c.okv := by
  cases k with
  | own => rcases h with ⟨_, _, h⟩ | ⟨_, _, _, _, _, _, _, _, h⟩ <;> exact CRep.okv _ _ _ _ _ h
  | bor => rcases h with ⟨_, _, h⟩ | ⟨_, _, _, _, _, _, _, h⟩ <;> exact CRep.okv _ _ _ _ _ h
  | imm => rcases h with ⟨_, _, h⟩ | ⟨_, _, _, _, _, _, h⟩ <;> exact CRep.okv _ _ _ _ _ h
  | dead => exact absurd rfl hk
theorem okTs_of : ∀ {l : List (Nat × V)}, (∀ p ∈ l, p.2.okv) → okTs l
  | [], _ => trivial
  | (i, v) :: l, h => ⟨h (i, v) (by simp), okTs_of (fun p hp => h p (by simp [hp]))⟩
theorem okHs_of : ∀ {l : List (Nat × Blk)}, (∀ p ∈ l, p.2.c.okv) → okHs l
  | [], _ => trivial
  | (i, b) :: l, h => ⟨h (i, b) (by simp), okHs_of (fun p hp => h p (by simp [hp]))⟩
theorem head_ok (hr0 : ∀ k l, X.r0 k = some l → 100000 ≤ k) : HeadOk X := by
  intro s L a w ⟨⟨I, ρ, ow, h⟩, df⟩ hs
  obtain ⟨u, hs, _⟩ := all_to hs
  have hn := h.head hr0 hs
  refine ⟨⟨⟨I, _, _, hn⟩, df⟩, ?_, ?_⟩
  · have hs' := hs
    obtain ⟨_, hs'⟩ := rif_to hs'
    obtain ⟨u', hT, _⟩ := bind_to hs'
    refine okTs_of fun p hp => ?_
    obtain ⟨g1, g2, g3⟩ := subT_spec hT p hp
    exact VRep.okv (mtV (I := I) (w := w) (ρ := ρ) (ρ' := fun k => ρ (lkN L.ren k)) (fun _ _ _ e => e) g1 g2 g3 (h.tmps p.1))
  · obtain ⟨h1, hs'⟩ := rif_to hs
    obtain ⟨u', _, hH⟩ := bind_to hs'
    simp only [Bool.and_eq_true] at h1
    have n1 := nodupN_spec h1.1.1
    refine okHs_of fun p hp => ?_
    obtain ⟨b', _, g2, _⟩ := subH_spec hH p hp
    obtain ⟨l, _, g5⟩ := hn.heap p.1 p.2 (look_of n1 hp)
    obtain ⟨i, ⟨bk, bc⟩⟩ := p
    exact blk_okv (fun e => by cases e; exact absurd g2 (by simp [kindOk])) g5
end
end Go.Cx
/- CxFn1 -/
namespace Go.Cx
open Go
/-- the first owned leaf of content, replaced by a handle: the rest, the leaf's content, its place -/
def opn1 (hk : Nat) : V → Option (V × V × Nat)
  | .osl n e c => some (.sl hk [] 0 n e none, c, 0)
  | .optr c => some (.ptr hk [], c, 0)
  | .cat n m a b => match opn1 hk a with
    | some r => some (.cat n m r.1 b, r.2.1, r.2.2)
    | none => match opn1 hk b with
      | some r => some (.cat n m a r.1, r.2.1, n + r.2.2)
      | none => none
  | _ => none
def opn : Nat → Nat → List Nat → (Nat → Option Blk) → Nat → Option Blk
  | 0, _, _, h => h
  | _, _, [], h => h
  | f + 1, hk, k :: ks, h => match h k with
    | some ⟨.own, c⟩ => match h hk with
      | some _ => h
      | none => match opn1 hk c with
        | some r => opn f (hk + 1) (k :: ks ++ [hk]) (upd (upd h k (some ⟨.own, r.1⟩)) hk (some ⟨.own, r.2.1⟩))
        | none => opn f hk ks h
    | _ => opn f hk ks h
section
variable {I : Nat → Prop} {w : World} {ow ow' : Own}
/-- content hangs on the owners of its own places alone -/
theorem CRep.sub (c : V) : ∀ (ρ ρ' : Rho) (q q' : List Nat) (pos pos' : Nat) (g : Nat → Option Value), Rho.le ρ ρ' →
    (q ≠ [] → q' ≠ [] ∧ ∀ b p r, p < c.size → ow b = some (q ++ (pos + p) :: r) → ow' b = some (q' ++ (pos' + p) :: r)) → CRep I w ow c ρ q pos g → CRep I w ow' c ρ' q' pos' g := by
  induction c with
  | ptr h p => intro ρ ρ' q q' pos pos' g hρ _ hc; obtain ⟨b, off, sz, h1, h2⟩ := hc; exact ⟨b, off, sz, hρ _ _ h1, h2⟩
  | sl h p i n e cap => intro ρ ρ' q q' pos pos' g hρ _ hc; obtain ⟨a, c, l, h1, h2, h3⟩ := hc; exact ⟨a, c, l, h1, hρ _ _ h2, h3⟩
  | dptr c p ih => intro ρ ρ' q q' pos pos' g hρ _ hc; obtain ⟨b, off, h1, h2, h3⟩ := hc; exact ⟨b, off, h1, h2, ih _ _ _ _ _ _ _ (Rho.le_refl _) (fun e => absurd rfl e) h3⟩
  | dsl n e c ih => intro ρ ρ' q q' pos pos' g hρ _ hc; obtain ⟨a, cp, h1, h2, h3, h4, h5, h6⟩ := hc; exact ⟨a, cp, h1, h2, h3, h4, ih _ _ _ _ _ _ _ (Rho.le_refl _) (fun e => absurd rfl e) h5, h6⟩
  | cat n m a b iha ihb =>
    intro ρ ρ' q q' pos pos' g hρ ho hc
    obtain ⟨h1, h2, h3, h4⟩ := hc
    refine ⟨h1, h2, iha _ _ _ _ _ _ _ hρ (fun e => ⟨(ho e).1, fun b p r hp hb => (ho e).2 b p r (by simp only [V.size]; omega) hb⟩) h3, ihb _ _ _ _ _ _ _ hρ (fun e => ⟨(ho e).1, fun b p r hp hb => ?_⟩) h4⟩
    have := (ho e).2 b (n + p) r (by simp only [V.size]; omega) (by rw [Nat.add_assoc] at hb; exact hb)
    rw [Nat.add_assoc]; exact this
  | rows e n f ih => intro ρ ρ' q q' pos pos' g hρ _ hc j hj; exact ⟨(hc j hj).1, ih j _ _ _ _ _ _ _ (Rho.le_refl _) (fun e => absurd rfl e) (hc j hj).2⟩
  | one a ih => intro ρ ρ' q q' pos pos' g hρ ho hc; exact ⟨hc.1, ih _ _ _ _ _ _ _ hρ ho hc.2⟩
  | osl n e c ih =>
    intro ρ ρ' q q' pos pos' g hρ ho hc
    obtain ⟨hq, a, cp, h1, h2, h3, hrow, h4⟩ := hc
    obtain ⟨hq', ho⟩ := ho hq
    refine ⟨hq', a, cp, h1, h2, h3, hrow, ?_⟩
    rcases h4 with ⟨h5, h6⟩ | ⟨b, off, cur, ha, hb, hc, hsz, h6⟩
    · exact .inl ⟨h5, ih _ _ _ _ _ _ _ (Rho.le_refl _) (fun e => absurd rfl e) h6⟩
    · refine .inr ⟨b, off, cur, ha, ho b 0 [] (by simp [V.size]) hb, hc, hsz, ih _ _ _ _ _ _ _ (Rho.le_refl _) (fun _ => ⟨by simp, fun b' p r _ hb' => ?_⟩) h6⟩
      have := ho b' 0 ((0 + p) :: r) (by simp [V.size]) (by simpa using hb')
      simpa using this
  | optr c ih =>
    intro ρ ρ' q q' pos pos' g hρ ho hc
    obtain ⟨hq, b, off, cur, h1, hb, hc, h5, h6⟩ := hc
    obtain ⟨hq', ho⟩ := ho hq
    refine ⟨hq', b, off, cur, h1, ho b 0 [] (by simp [V.size]) hb, hc, h5, ih _ _ _ _ _ _ _ (Rho.le_refl _) (fun _ => ⟨by simp, fun b' p r _ hb' => ?_⟩) h6⟩
    have := ho b' 0 ((0 + p) :: r) (by simp [V.size]) (by simpa using hb')
    simpa using this
  | _ => intro ρ ρ' q q' pos pos' g _ _ hc; exact hc
def LeafAt (I : Nat → Prop) (w : World) (ow : Own) (c2 : V) (q : List Nat) (p : Nat) (lo : Lo) : Prop :=
  (lo = .ph ∧ c2.size = 0 ∧ CRep I w ow c2 noR [] 0 (fun _ => none)) ∨
    ∃ k off sz cur, lo = .at k off sz ∧ ow k = some (q ++ [p]) ∧ OwnBlk w k cur ∧ cur.size = off + sz ∧ CRep I w ow c2 noR (q ++ [p]) 0 (fun j => cur[off + j]?)
theorem opn1_spec {hk : Nat} : ∀ (c : V) {c' c2 : V} {p : Nat} {ρ : Rho} {q : List Nat} {pos : Nat} {g : Nat → Option Value}, opn1 hk c = some (c', c2, p) → CRep I w ow c ρ q pos g →
    q ≠ [] ∧ c'.size = c.size ∧ c'.isAgg = c.isAgg ∧ ∃ lo, LeafAt I w ow c2 q (pos + p) lo ∧ ∀ (ρ' : Rho) (ow' : Own), Rho.le ρ ρ' → ρ' hk = some lo →
      (∀ b p' r, p' ≠ pos + p → ow b = some (q ++ p' :: r) → ow' b = some (q ++ p' :: r)) → CRep I w ow' c' ρ' q pos g := by
  intro c
  induction c with
  | osl n e c _ =>
    intro c' c2 p ρ q pos g h hc
    cases h
    obtain ⟨hq, a, cp, h1, h2, h3, hrow, h4⟩ := hc
    refine ⟨hq, rfl, rfl, ?_⟩
    rcases h4 with ⟨rfl, h6⟩ | ⟨b, off, cur, rfl, hb, hcb, hsz, h6⟩
    · obtain rfl : n = 0 := by omega
      exact ⟨.ph, .inl ⟨rfl, isRow_zero hrow, h6⟩, fun ρ' ow' _ hl _ => ⟨a, 0, .ph, h1, hl, by omega, h3, trivial, .inl rfl⟩⟩
    · refine ⟨.at b off (cur.size - off), .inr ⟨b, off, _, cur, rfl, hb, hcb, by omega, h6⟩, fun ρ' ow' _ hl _ => ⟨_, cp, _, h1, hl, h2, h3, trivial, .inr ⟨b, off, _, rfl, by simp [poff], by simp only [poff]; omega⟩⟩⟩
  | optr c _ =>
    intro c' c2 p ρ q pos g h hc
    cases h
    obtain ⟨hq, b, off, cur, h1, hb, hcb, h5, h6⟩ := hc
    refine ⟨hq, rfl, rfl, .at b off (cur.size - off), .inr ⟨b, off, _, cur, rfl, hb, hcb, by omega, h6⟩, fun ρ' ow' _ hl _ => ⟨b, off, _, hl, by simpa [poff] using h1⟩⟩
  | cat n m a b iha ihb =>
    intro c' c2 p ρ q pos g h hc
    simp only [opn1] at h
    obtain ⟨h1, h2, h3, h4⟩ := hc
    split at h
    · rename_i r hr
      obtain ⟨a', c2', p'⟩ := r
      cases h
      obtain ⟨g1, g2, _, lo, g4, g5⟩ := iha hr h3
      refine ⟨g1, rfl, rfl, lo, g4, fun ρ' ow' hρ hl ho => ⟨g2.trans h1, h2, g5 ρ' ow' hρ hl ho, ?_⟩⟩
      have hp : p' < n := by
        rw [← h1]
        exact opn1_lt hr h3
      exact CRep.sub _ _ _ _ _ _ _ _ hρ (fun _ => ⟨g1, fun b' p2 r _ hb' => ho b' _ r (by simp only; omega) hb'⟩) h4
    · split at h
      · rename_i r hr
        obtain ⟨b', c2', p'⟩ := r
        cases h
        obtain ⟨g1, g2, _, lo, g4, g5⟩ := ihb hr h4
        rw [Nat.add_assoc] at g4
        refine ⟨g1, rfl, rfl, lo, g4, fun ρ' ow' hρ hl ho => ⟨h1, g2.trans h2, ?_, g5 ρ' ow' hρ hl (fun b p' r hne hb => ho b p' r (by simp only; omega) hb)⟩⟩
        exact CRep.sub _ _ _ _ _ _ _ _ hρ (fun _ => ⟨g1, fun b' p' r hp' hb' => ho b' _ r (by simp only; omega) hb'⟩) h3
      · cases h
  | _ => intro c' c2 p ρ q pos g h; cases h
where
  opn1_lt {hk : Nat} : ∀ {c : V} {c' c2 : V} {p : Nat} {ρ : Rho} {q : List Nat} {pos : Nat} {g : Nat → Option Value}, opn1 hk c = some (c', c2, p) → CRep I w ow c ρ q pos g → p < c.size := by
    intro c
    induction c with
    | osl n e c _ => intro c' c2 p ρ q pos g h _; cases h; simp [V.size]
    | optr c _ => intro c' c2 p ρ q pos g h _; cases h; simp [V.size]
    | cat n m a b iha ihb =>
      intro c' c2 p ρ q pos g h hc
      simp only [opn1] at h
      obtain ⟨h1, h2, h3, h4⟩ := hc
      split at h
      · rename_i r hr
        obtain ⟨a', c2', p'⟩ := r
        cases h
        have := iha hr h3
        simp only [V.size]; omega
      · split at h
        · rename_i r hr
          obtain ⟨b', c2', p'⟩ := r
          cases h
          have := ihb hr h4
          simp only [V.size]; omega
        · cases h
    | _ => intro c' c2 p ρ q pos g h; cases h
end
section
variable {X : Fix} {I : Nat → Prop} {ρ : Rho} {ow : Own} {s : St} {tm : Array Value} {w : World}
theorem Rep.open1 (h : Rep X I ρ ow s tm w) {hd hk : Nat} {c c' c2 : V} {p : Nat} (hh : s.h hd = some ⟨.own, c⟩) (hn : s.h hk = none) (hlt : hk < 100000) (ho : opn1 hk c = some (c', c2, p)) :
    ∃ ρ' ow', Rho.le ρ ρ' ∧ Rep X I ρ' ow' ⟨s.t, upd (upd s.h hd (some ⟨.own, c'⟩)) hk (some ⟨.own, c2⟩)⟩ tm w := by
  have hne : hd ≠ hk := fun e => by rw [e, hn] at hh; cases hh
  have hnk : ρ hk = none := by
    cases hρ : ρ hk with
    | none => rfl
    | some l => exact absurd hn (h.dom hk l hρ hlt)
  obtain ⟨l, hl, hB⟩ := h.heap hd _ hh
  obtain ⟨k, off, sz, cur, rfl, hk1, hk2, hk3, hk4⟩ : ∃ k off sz cur, l = .at k off sz ∧ ow k = some [hd] ∧ OwnBlk w k cur ∧ cur.size = off + sz ∧ CRep I w ow c ρ [hd] 0 (fun j => cur[off + j]?) := by
    rcases hB with ⟨_, _, h3⟩ | h3
    · exact absurd rfl (opn1_spec c ho h3).1
    · exact h3
  obtain ⟨_, g2, _, lo, g4, g5⟩ := opn1_spec c ho hk4
  rw [Nat.zero_add] at g4 g5
  let ρ' : Rho := fun b => if b = hk then some lo else ρ b
  let ow' : Own := fun b => match ow b with
    | some (x :: y :: r) => if x = hd ∧ y = p then some (hk :: r) else some (x :: y :: r)
    | o => o
  have hle : Rho.le ρ ρ' := fun b l hb => by
    have : b ≠ hk := fun e => by rw [e, hnk] at hb; cases hb
    simp only [ρ', if_neg this, hb]
  have o1 : ∀ b x, ow b = some [x] → ow' b = some [x] := fun b x hb => by simp only [ow', hb]
  have o2 : ∀ b x r, x ≠ hd → ow b = some (x :: r) → ow' b = some (x :: r) := fun b x r hx hb => by
    cases r with
    | nil => exact o1 b x hb
    | cons y r => simp only [ow', hb]; rw [if_neg (fun e => hx e.1)]
  have o3 : ∀ b y r, y ≠ p → ow b = some (hd :: y :: r) → ow' b = some (hd :: y :: r) := fun b y r hy hb => by
    simp only [ow', hb]; rw [if_neg (fun e => hy e.2)]
  have o4 : ∀ b r, ow b = some (hd :: p :: r) → ow' b = some (hk :: r) := fun b r hb => by simp [ow', hb]
  have o5 : ∀ b, ow b = none → ow' b = none := fun b hb => by simp [ow', hb]
  have o6 : ∀ b q, ow' b = some q → ∃ x r, ow b = some (x :: r) ∧ (q = x :: r ∨ (x = hd ∧ ∃ r', q = hk :: r')) := fun b q hb => by
    simp only [ow'] at hb
    split at hb
    · rename_i x y r hxy
      split at hb
      · rename_i e
        cases hb
        exact ⟨x, y :: r, hxy, .inr ⟨e.1, r, rfl⟩⟩
      · cases hb
        exact ⟨x, y :: r, hxy, .inl rfl⟩
    · obtain ⟨_, _, x, r, c, e, _⟩ := h.owf b q hb
      subst e
      exact ⟨x, r, hb, .inl rfl⟩
  refine ⟨ρ', ow', hle, ?_⟩
  exact
    { h with
      iow := fun b hb => o5 b (h.iow b hb)
      owf := fun b q hb => by
        obtain ⟨x, r, e1, e2⟩ := o6 b q hb
        obtain ⟨g6, g7, x', r', cx, g8, g9⟩ := h.owf b _ e1
        cases g8
        refine ⟨g6, g7, ?_⟩
        rcases e2 with rfl | ⟨rfl, r'', rfl⟩
        · have hxk : x ≠ hk := fun e => by rw [e, hn] at g9; cases g9
          by_cases e : x = hd
          · subst e; exact ⟨x, r, c', rfl, by simp only [upd_ne _ _ hxk, upd_same]⟩
          · exact ⟨x, r, cx, rfl, by simp only [upd_ne _ _ hxk, upd_ne _ _ e]; exact g9⟩
        · exact ⟨hk, r'', c2, rfl, by simp only [upd_same]⟩
      dom := fun b l hb hb2 => by
        by_cases e : b = hk
        · subst e; simp [upd]
        · simp only [ρ', if_neg e] at hb
          simp only [upd_ne _ _ e]
          by_cases e2 : b = hd
          · subst e2; simp [upd]
          · simp only [upd_ne _ _ e2]; exact h.dom b l hb hb2
      glob := fun n => by
        obtain ⟨sz, hg⟩ := h.glob n
        exact ⟨sz, hle _ _ hg⟩
      rle := fun b l hb => hle _ _ (h.rle b l hb)
      tmps := fun i => (h.tmps i).mono (fun b hb => ⟨hb, rfl⟩) hle
      heap := fun b blk hb => by
        by_cases e : b = hk
        · subst e
          simp only [upd_same, Option.some.injEq] at hb
          subst hb
          refine ⟨lo, by simp [ρ'], ?_⟩
          rcases g4 with ⟨rfl, h2, h3⟩ | ⟨k', off', sz', cur', rfl, h2, h3, h4, h5⟩
          · exact .inl ⟨rfl, h2, CRep.sub _ _ _ _ _ _ _ _ (noR_le _) (fun e => absurd rfl e) h3⟩
          · refine .inr ⟨k', off', sz', cur', rfl, o4 _ _ (by simpa using h2), h3, h4, CRep.sub _ _ _ _ _ _ _ _ (noR_le _) (fun _ => ⟨by simp, fun b' p' r _ hb' => ?_⟩) h5⟩
            have := o4 b' ((0 + p') :: r) (by simpa using hb')
            simpa using this
        · simp only [upd_ne _ _ e] at hb
          by_cases e2 : b = hd
          · subst e2
            simp only [upd_same, Option.some.injEq] at hb
            subst hb
            refine ⟨_, hle _ _ hl, .inr ⟨k, off, sz, cur, rfl, o1 _ _ hk1, hk2, hk3, g5 ρ' ow' hle (by simp [ρ']) (fun b' p' r hp hb' => ?_)⟩⟩
            exact o3 b' p' r (by omega) (by simpa using hb')
          · simp only [upd_ne _ _ e2] at hb
            obtain ⟨l', h1, h2⟩ := h.heap b blk hb
            exact ⟨l', hle _ _ h1, BRep.keep h (Only.refl w none) (fun k e => by cases e) (fun _ h => h) hle h2 (fun k' r hk' => ⟨by simp, o2 _ _ _ e2 hk'⟩) (fun b' _ h => o5 b' h)⟩ }
theorem Rep.opens : ∀ (f hk : Nat) (ks : List Nat) {ρ : Rho} {ow : Own} {hh : Nat → Option Blk}, hk + f ≤ 100000 → Rep X I ρ ow ⟨s.t, hh⟩ tm w → ∃ ρ' ow', Rho.le ρ ρ' ∧ Rep X I ρ' ow' ⟨s.t, opn f hk ks hh⟩ tm w := by
  intro f
  induction f with
  | zero => intro hk ks ρ ow hh _ h; exact ⟨ρ, ow, Rho.le_refl _, h⟩
  | succ f ih =>
    intro hk ks ρ ow hh hlt h
    cases ks with
    | nil => exact ⟨ρ, ow, Rho.le_refl _, h⟩
    | cons k ks =>
      simp only [opn]
      split
      · rename_i c hc
        split
        · exact ⟨ρ, ow, Rho.le_refl _, h⟩
        · rename_i hn
          split
          · rename_i r hr
            obtain ⟨c', c2, p⟩ := r
            obtain ⟨ρ1, ow1, h1, h2⟩ := h.open1 (hd := k) (hk := hk) hc hn (by omega) hr
            obtain ⟨ρ2, ow2, h3, h4⟩ := ih (hk + 1) (k :: ks ++ [hk]) (by omega) h2
            exact ⟨ρ2, ow2, fun b l hb => h3 b l (h1 b l hb), h4⟩
          · exact ih hk ks (by omega) h
      · exact ih hk ks (by omega) h
end
end Go.Cx
/- CxFn2 -/
namespace Go.Cx
open Go
/-- which handles go into content, and where -/
def mtP (h : Nat → Option Blk) : V → V → List Nat → Nat → List (Nat × List Nat)
  | .cat n _ a b, .cat _ _ a' b', q, pos => mtP h a a' q pos ++ mtP h b b' q (pos + n)
  | .one a, .one b, q, pos => mtP h a b q pos
  | .tcons a b, .tcons a' b', q, pos => mtP h a a' q pos ++ mtP h b b' q pos
  | .osl _ _ _, .sl b _ _ _ _ _, q, pos => [(b, q ++ [pos])]
  | .optr c, .optr c', q, pos => mtP h c c' (q ++ [pos]) 0
  | .optr c, .ptr b _, q, pos => match h b with
    | some blk => (b, q ++ [pos]) :: mtP h c blk.c (q ++ [pos]) 0
    | none => []
  | _, _, _, _ => []
theorem clo_hAll {f : Nat → Bool} : ∀ (c : V), c.clo = true → c.hAll f = true := by
  intro c
  induction c with
  | cat n m a b iha ihb => intro h; simp only [V.clo, Bool.and_eq_true] at h; simp [V.hAll, iha h.1, ihb h.2]
  | tcons a b iha ihb => intro h; simp only [V.clo, Bool.and_eq_true] at h; simp [V.hAll, iha h.1, ihb h.2]
  | one a ih => intro h; simpa [V.hAll] using ih (by simpa [V.clo] using h)
  | ptr hd p => intro h; simp [V.clo] at h
  | sl hd p i n e cap => intro h; simp [V.clo] at h
  | _ => intro _; rfl
theorem mtP_pre {h : Nat → Option Blk} : ∀ (c c' : V) {q : List Nat} {pos y : Nat} {path : List Nat}, (y, path) ∈ mtP h c c' q pos → ∃ r, path = q ++ r := by
  intro c
  induction c with
  | cat n m a b iha ihb =>
    intro c' q pos y path hm
    cases c' <;> simp only [mtP, List.not_mem_nil] at hm
    rcases List.mem_append.1 hm with hm | hm
    · exact iha _ hm
    · exact ihb _ hm
  | tcons a b iha ihb =>
    intro c' q pos y path hm
    cases c' <;> simp only [mtP, List.not_mem_nil] at hm
    rcases List.mem_append.1 hm with hm | hm
    · exact iha _ hm
    · exact ihb _ hm
  | one a ih =>
    intro c' q pos y path hm
    cases c' <;> simp only [mtP, List.not_mem_nil] at hm
    exact ih _ hm
  | osl n e c _ =>
    intro c' q pos y path hm
    cases c' <;> simp only [mtP, List.not_mem_nil, List.mem_singleton, Prod.mk.injEq] at hm
    exact ⟨[pos], hm.2⟩
  | optr c ih =>
    intro c' q pos y path hm
    cases c' <;> simp only [mtP, List.not_mem_nil] at hm
    · split at hm
      · rename_i blk hblk
        rcases List.mem_cons.1 hm with hm | hm
        · cases hm; exact ⟨[pos], rfl⟩
        · obtain ⟨r, e⟩ := ih _ hm
          exact ⟨pos :: r, by simp [e]⟩
      · simp at hm
    · obtain ⟨r, e⟩ := ih _ hm
      exact ⟨pos :: r, by simp [e]⟩
  | _ => intro c' q pos y path hm; cases c' <;> simp [mtP] at hm
section
variable {I : Nat → Prop} {w : World} {r : List (Nat × Nat)} {h : Nat → Option Blk}
theorem row_fst {c c' : V} {x : List Nat} (hb : c.isRowB = true) (hm : (mtC apf r h c c').to x) : x = [] := by
  cases c <;> first | cases hb | skip
  · cases c' <;> first | exact hm.elim | skip
    obtain ⟨_, _, _, h2⟩ := rif_to hm
    exact h2.symm
  · cases c' <;> first | exact hm.elim | skip
    obtain ⟨_, _, _, h2⟩ := rif_to hm
    exact h2.symm
theorem nilR_fst {n e : Nat} {c : V} {x : List Nat} (hm : (nilR apf n e c).to x) : x = [] := by
  cases c <;> first | exact hm.elim | skip
  · obtain ⟨_, _, _, _, h2⟩ := rif_to hm
    exact h2.symm
  · obtain ⟨_, _, _, h2⟩ := rif_to hm
    exact h2.symm
theorem mtC_fst : ∀ (c c' : V) {x : List Nat} {q : List Nat} {pos : Nat}, c.clo = true → (mtC apf r h c c').to x → x = (mtP h c c' q pos).map (·.1) := by
  intro c
  induction c with
  | cat n m a b iha ihb =>
    intro c' x q pos hc hm
    simp only [V.clo, Bool.and_eq_true] at hc
    cases c' <;> first | exact hm.elim | skip
    obtain ⟨h1, hm1⟩ := rif_to hm
    obtain ⟨x1, h2, hm2⟩ := bind_to hm1
    obtain ⟨x2, h3, h4⟩ := bind_to hm2
    have h4 : x1 ++ x2 = x := h4
    simp only [mtP, List.map_append]
    rw [← iha _ hc.1 h2, ← ihb _ hc.2 h3, h4]
  | one a ih =>
    intro c' x q pos hc hm
    cases c' <;> first | exact hm.elim | skip
    exact ih _ (by simpa [V.clo] using hc) hm
  | osl n e c _ =>
    intro c' x q pos hc hm
    cases c' with
    | osl n' e' c' =>
      obtain ⟨h1, h2, h3⟩ := rif_to hm
      simp only [Bool.and_eq_true] at h1
      exact row_fst h1.2 h3
    | nsl => exact nilR_fst (show (nilR apf n e c).to x from hm)
    | zsl => exact nilR_fst (show (nilR apf n e c).to x from hm)
    | sl b' p' i' n' e' cap' =>
      simp only [mtC] at hm
      split at hm
      · obtain ⟨h1, _, hm1⟩ := rif_to hm
        obtain ⟨c2, _, _, hm2⟩ := bind_to hm1
        obtain ⟨x2, h3, hm3⟩ := bind_to hm2
        simp only [Bool.and_eq_true] at h1
        have h4 := row_fst h1.1.2 h3
        subst h4
        exact hm3.symm
      · exact hm.elim
    | _ => exact hm.elim
  | optr c ih =>
    intro c' x q pos hc hm
    simp only [V.clo] at hc
    cases c' with
    | optr c' => exact ih _ hc hm
    | ptr b p =>
      cases p with
      | cons _ _ => exact hm.elim
      | nil =>
        simp only [mtC] at hm
        split at hm
        · rename_i c2 hb
          obtain ⟨x2, h3, hm3⟩ := bind_to hm
          have hm3 : b :: x2 = x := hm3
          simp only [mtP, hb, List.map_cons]
          rw [← hm3, ih c2 (q := q ++ [pos]) (pos := 0) hc h3]
        · exact hm.elim
    | _ => exact hm.elim
  | tcons a b iha ihb =>
    intro c' x q pos hc hm
    simp only [V.clo, Bool.and_eq_true] at hc
    cases c' <;> first | exact hm.elim | skip
    obtain ⟨x1, h2, hm2⟩ := bind_to hm
    obtain ⟨x2, h3, h4⟩ := bind_to hm2
    have h4 : x1 ++ x2 = x := h4
    simp only [mtP, List.map_append]
    rw [← iha _ hc.1 h2, ← ihb _ hc.2 h3, h4]
  | dsl n e c _ =>
    intro c' x q pos hc hm
    cases c' <;> first | exact hm.elim | skip
    case nsl => exact nilR_fst (show (nilR apf n e c).to x from hm)
    case zsl => exact nilR_fst (show (nilR apf n e c).to x from hm)
    obtain ⟨h1, h2, h3⟩ := rif_to hm
    simp only [Bool.and_eq_true] at h1
    exact row_fst h1.2 h3
  | any => intro c' x q pos hc; cases hc
  | ptr hd p => intro c' x q pos hc; cases hc
  | sl hd p i n e cap => intro c' x q pos hc; cases hc
  | ints k n l => intro c' x q pos hc hm; have := row_fst rfl hm; subst this; cases c' <;> rfl
  | rows e n f => intro c' x q pos hc hm; have := row_fst rfl hm; subst this; cases c' <;> rfl
  | _ =>
    intro c' x q pos hc hm
    cases c' <;> first | exact hm.elim | exact hm.symm | exact hm.2.symm | exact (rif_to hm).2.2.symm
variable {ow ow' : Own} {ρ : Rho}
/-- no element behind nothing -/
theorem subs_none {c c2 : V} {j : Nat} (h : (c.subs apf j 0).to c2) : CRep I w ow' c2 noR [] 0 (fun _ => none) := by
  cases c <;> simp only [V.subs] at h <;> first | exact h.elim | skip
  · cases h
    exact ⟨by simp [apf, subL], by simp [apf, subL], fun j hj => by omega⟩
  · cases h
    exact fun j hj => by omega
theorem subs_row {c c2 : V} {i m e n : Nat} (h : (c.subs apf i m).to c2) (hr : isRow e n c) : isRow e m c2 := by
  cases c <;> simp only [V.subs] at h <;> first | exact h.elim | skip
  · cases h; exact ⟨rfl, hr.2⟩
  · cases h; exact ⟨rfl, hr.2⟩
/-- Content that matches a shape is told by the shape, with what goes into it. -/
theorem mtC_own (hheap : ∀ b blk, h b = some blk → ∃ l, ρ b = some l ∧ BRep I w ρ ow b l blk) : ∀ (c c' : V) {ρ1 ρ' : Rho} {q q' : List Nat} {pos : Nat} {g : Nat → Option Value} {x : List Nat}, c.clo = true → Rho.le ρ1 ρ → (mtC apf r h c c').to x →
    (q ≠ [] → q' ≠ [] ∧ ∀ b p rr, ow b = some (q ++ p :: rr) → ow' b = some (q' ++ p :: rr)) → (∀ y path rr b, (y, path) ∈ mtP h c c' q' pos → ow b = some (y :: rr) → ow' b = some (path ++ rr)) → (q' ≠ [] ∨ c.noown = true) →
    CRep I w ow c' ρ1 q pos g → CRep I w ow' c ρ' q' pos g := by
  intro c
  have plain : ∀ (c c' : V) {ρ1 ρ' : Rho} {q q' : List Nat} {pos : Nat} {g : Nat → Option Value}, c.clo = true → (mtC apf r h c c').to [] →
      (q ≠ [] → q' ≠ [] ∧ ∀ b p rr, ow b = some (q ++ p :: rr) → ow' b = some (q' ++ p :: rr)) → (q' ≠ [] ∨ c.noown = true) → CRep I w ow c' ρ1 q pos g → CRep I w ow' c ρ' q' pos g := by
    intro c c' ρ1 ρ' q q' pos g hc hm ho hq hr
    refine mtC_rep c c' (has := fun _ => false) hm (clo_hAll c hc) (fun _ _ e => by cases e) (fun e => ⟨(ho e).1, fun b rr hrr hb => ?_⟩) hq hr
    cases rr with
    | nil => exact absurd rfl hrr
    | cons p rr => exact (ho e).2 b p rr hb
  induction c with
  | cat n m a b iha ihb =>
    intro c' ρ1 ρ' q q' pos g x hc hρ hm ho hp hq hr
    simp only [V.clo, Bool.and_eq_true] at hc
    simp only [V.noown, Bool.and_eq_true] at hq
    cases c' <;> first | exact hm.elim | skip
    rename_i n' m' a' b'
    obtain ⟨h1, hm1⟩ := rif_to hm
    obtain ⟨x1, h2, hm2⟩ := bind_to hm1
    obtain ⟨x2, h3, h4⟩ := bind_to hm2
    simp only [Bool.and_eq_true, beq_iff_eq] at h1
    obtain ⟨rfl, rfl⟩ := h1
    obtain ⟨g1, g2, g3, g4⟩ := hr
    refine ⟨(mtC_size a _ h2).1.trans g1, (mtC_size b _ h3).1.trans g2, iha _ hc.1 hρ h2 ho (fun y path rr b hy => hp y path rr b ?_) (hq.imp id (·.1)) g3, ihb _ hc.2 hρ h3 ho (fun y path rr b hy => hp y path rr b ?_) (hq.imp id (·.2)) g4⟩
    · exact List.mem_append.2 (.inl hy)
    · exact List.mem_append.2 (.inr hy)
  | one a ih =>
    intro c' ρ1 ρ' q q' pos g x hc hρ hm ho hp hq hr
    cases c' <;> first | exact hm.elim | skip
    rename_i b
    have hs := mtC_size a b hm
    obtain ⟨g1, g2⟩ := hr
    refine ⟨?_, ih b (by simpa [V.clo] using hc) hρ hm ho hp hq g2⟩
    by_cases e : a = .any
    · rw [e]; rfl
    · exact (hs.2 e).trans g1
  | osl n e c _ =>
    intro c' ρ1 ρ' q q' pos g x hc hρ hm ho hp hq hr
    have hx := mtC_fst (q := q') (pos := pos) _ _ hc hm
    cases c' with
    | osl n' e' c' => rw [show x = [] from hx] at hm; exact plain _ _ hc hm ho hq hr
    | nsl => rw [show x = [] from hx] at hm; exact plain _ _ hc hm ho hq hr
    | zsl => rw [show x = [] from hx] at hm; exact plain _ _ hc hm ho hq hr
    | sl b p i m e' cap =>
      have hq' : q' ≠ [] := hq.resolve_right (by simp [V.noown])
      simp only [V.clo] at hc
      simp only [mtC] at hm
      split at hm
      · rename_i c1 hb
        obtain ⟨h1, h2, hm1⟩ := rif_to hm
        obtain ⟨c2, h3, h4, hm2⟩ := bind_to hm1
        obtain ⟨x2, h5, hm3⟩ := bind_to hm2
        simp only [Bool.and_eq_true, beq_iff_eq] at h1
        obtain ⟨⟨rfl, hrow⟩, hre⟩ := h1
        have h2 : n = m := h2
        subst h2
        have h4 : i + n ≤ c1.cnt := h4
        rw [row_fst hrow h5] at h5
        obtain ⟨a, cp, l, k1, k2, k3, k4, _, k6⟩ := hr
        obtain ⟨l', k7, k8⟩ := hheap b _ hb
        rw [hρ _ _ k2] at k7
        cases k7
        have hrow1 := isRow_cnt h3
        rw [hre] at hrow1
        by_cases hcp : cp = 0
        · subst hcp
          obtain rfl : n = 0 := by omega
          have hr2 : isRow e 0 c2 := subs_row h3 hrow1
          exact ⟨hq', a, 0, k1, k3, k4, mtC_row hrow h5 hr2, .inl ⟨rfl, plain c c2 hc h5 (fun e => absurd rfl e) (.inr (row_noown hrow)) (subs_none (ow' := ow) h3)⟩⟩
        · obtain ⟨bk, off, sz, rfl, rfl, k9⟩ := k6.resolve_left hcp
          rcases k8 with ⟨k8, _⟩ | ⟨bk', off', sz', cur, k8, j1, j2, j3, j4⟩
          · cases k8
          cases k8
          obtain ⟨j5, j6⟩ := subs_rep h3 hrow1 h4 j4
          simp only [poff, Nat.zero_add] at k9
          refine ⟨hq', _, cp, k1, k3, k4, mtC_row hrow h5 j5, .inr ⟨bk, off + i * e, cur, by simp [poff], ?_, j2, by omega, ?_⟩⟩
          · simpa using hp b (q' ++ [pos]) [] bk (by simp [mtP]) j1
          · have j7 := plain (q' := q' ++ [pos]) (ρ' := noR) c c2 hc h5 (fun e => absurd rfl e) (.inl (by simp)) j6
            simpa [Nat.add_assoc] using j7
      · exact hm.elim
    | _ => exact hm.elim
  | optr c ih =>
    intro c' ρ1 ρ' q q' pos g x hc hρ hm ho hp hq hr
    have hq' : q' ≠ [] := hq.resolve_right (by simp [V.noown])
    simp only [V.clo] at hc
    cases c' with
    | optr c' =>
      obtain ⟨k0, b, off, cur, k1, k2, k3, k5, k4⟩ := hr
      obtain ⟨_, ho2⟩ := ho k0
      refine ⟨hq', b, off, cur, k1, ho2 b pos [] k2, k3, k5, ih c' hc (noR_le _) hm (fun _ => ⟨by simp, fun b' p rr hb => ?_⟩) (fun y path rr b' hy => hp y path rr b' hy) (.inl (by simp)) k4⟩
      have := ho2 b' pos (p :: rr) (by simpa using hb)
      simpa using this
    | ptr b p =>
      cases p with
      | cons _ _ => exact hm.elim
      | nil =>
        simp only [mtC] at hm
        split at hm
        · rename_i c1 hb
          obtain ⟨x2, h3, _⟩ := bind_to hm
          obtain ⟨bk, off, sz, k1, k2⟩ := hr
          obtain ⟨l', k7, k8⟩ := hheap b _ hb
          rw [hρ _ _ k1] at k7
          cases k7
          rcases k8 with ⟨k8, _⟩ | ⟨bk', off', sz', cur, k8, j1, j2, j3, j4⟩
          · cases k8
          cases k8
          refine ⟨hq', bk, off, cur, by simpa [poff] using k2, ?_, j2, by omega, ih c1 hc (Rho.le_refl _) h3 (fun _ => ⟨by simp, fun b' p rr hb' => ?_⟩) (fun y path rr b' hy hb' => hp y path rr b' ?_ hb') (.inl (by simp)) j4⟩
          · simpa using hp b (q' ++ [pos]) [] bk (by simp [mtP, hb]) j1
          · exact hp b (q' ++ [pos]) (p :: rr) b' (by simp [mtP, hb]) hb'
          · simp only [mtP, hb]
            exact List.mem_cons_of_mem _ hy
        · exact hm.elim
    | _ => exact hm.elim
  | tcons a b _ _ => intro c' ρ1 ρ' q q' pos g x hc hρ hm ho hp hq hr; cases c' <;> first | exact hm.elim | exact hr.elim
  | _ =>
    intro c' ρ1 ρ' q q' pos g x hc hρ hm ho hp hq hr
    first
      | cases hc; done
      | exact plain _ _ hc (by have hx := mtC_fst (q := q') (pos := pos) _ _ hc hm; rw [show x = [] from by rw [hx]; cases c' <;> rfl] at hm; exact hm) ho hq hr
end
end Go.Cx
/- CxFn3 -/
namespace Go.Cx
open Go
def resV (ap : AP) (s : St) : IRes → R V
  | .t n => .ok (s.t n)
  | .cell n z agg => (stepR ap [] s.t s.h none (.ld z agg (.t n))).bind fun e => .ok e.v
def resL (ap : AP) (s : St) : List IRes → R V
  | [] => .ok .tnil
  | r :: l => (resV ap s r).bind fun v => rif (!v.isTup) 135 ((resL ap s l).bind fun t => .ok (.tcons v t))
def resR (ap : AP) (s : St) : List IRes → R V
  | [r] => resV ap s r
  | l => resL ap s l
def renOf : V → V → List (Nat × Nat)
  | .ptr a _, .ptr b _ => [(a, b)]
  | .sl a _ _ _ _ _, .sl b _ _ _ _ _ => [(a, b)]
  | .tcons a b, .tcons a' b' => renOf a a' ++ renOf b b'
  | .cat _ _ a b, .cat _ _ a' b' => renOf a a' ++ renOf b b'
  | .one a, .one b => renOf a b
  | _, _ => []
def mtHs (ap : AP) (r : List (Nat × Nat)) (h : Nat → Option Blk) : List (Nat × Blk) → R (List Nat)
  | [] => .ok []
  | (i, b) :: l => match h (lkN r i) with
    | some ⟨.own, c'⟩ => rif (b.k.isOwn && b.c.clo) 130 ((mtC ap r h b.c c').bind fun x => (mtHs ap r h l).bind fun y => .ok (lkN r i :: x ++ y))
    | _ => .fail 131
/-- the last state, against what is handed over -/
def endR (ap : AP) (s : St) (v : V) (ov : V) (hs : List (Nat × Blk)) (r : List (Nat × Nat)) : R Unit :=
  rif (nodupN (hs.map fun p => p.1) && r.all fun p => decide (p.1 < 100000) && decide (p.2 < 100000)) 132 <|
  (mtC ap r s.h ov v).bind fun x => rif (x.isEmpty && ov.noown && ov.hAll (fun k => hs.any fun p => p.1 == k)) 133 <|
  (mtHs ap r s.h hs).bind fun ys => rif (nodupN ys) 134 (.ok ())
def finR (ap : AP) (s : St) (args : List Arg) (out : Out) (res : List IRes) : R Unit :=
  (resR ap s res).bind fun v => endR ap s v out.v (outO 0 args out.objs ++ outN 0 out.news) (renOf out.v v)
/-- the places of all that is handed over -/
def pths (r : List (Nat × Nat)) (h : Nat → Option Blk) : List (Nat × Blk) → List (Nat × List Nat)
  | [] => []
  | (i, b) :: l => (match h (lkN r i) with | some blk => (lkN r i, [i]) :: mtP h b.c blk.c [i] 0 | none => []) ++ pths r h l
section
variable {r : List (Nat × Nat)} {h : Nat → Option Blk}
theorem mtHs_spec : ∀ {l : List (Nat × Blk)} {ys : List Nat}, (mtHs apf r h l).to ys → ys = (pths r h l).map (·.1) ∧
    ∀ p ∈ l, ∃ c' x, h (lkN r p.1) = some ⟨.own, c'⟩ ∧ p.2.k = .own ∧ p.2.c.clo = true ∧ (mtC apf r h p.2.c c').to x ∧ (∀ z ∈ (lkN r p.1, [p.1]) :: mtP h p.2.c c' [p.1] 0, z ∈ pths r h l) := by
  intro l
  induction l with
  | nil => intro ys hm; cases hm; exact ⟨rfl, fun p hp => by simp at hp⟩
  | cons q l ih =>
    intro ys hm
    obtain ⟨i, b⟩ := q
    simp only [mtHs] at hm
    split at hm
    · rename_i c' hc
      obtain ⟨h1, hm⟩ := rif_to hm
      obtain ⟨x, h2, hm⟩ := bind_to hm
      obtain ⟨y, h3, h4⟩ := bind_to hm
      have h4 : lkN r i :: x ++ y = ys := h4
      obtain ⟨g1, g2⟩ := ih h3
      simp only [Bool.and_eq_true] at h1
      have hx := mtC_fst (q := [i]) (pos := 0) _ _ h1.2 h2
      refine ⟨?_, fun p hp => ?_⟩
      · simp only [pths, hc, List.map_append, List.map_cons]
        rw [← h4, ← g1, ← hx]
      · rcases List.mem_cons.1 hp with rfl | hp
        · refine ⟨c', x, hc, ?_, h1.2, h2, fun z hz => ?_⟩
          · have := h1.1
            cases hk : b.k <;> simp_all [Bk.isOwn]
          · simp only [pths, hc]
            exact List.mem_append.2 (.inl hz)
        · obtain ⟨c1, x1, k1, k2, k3, k4, k5⟩ := g2 p hp
          refine ⟨c1, x1, k1, k2, k3, k4, fun z hz => ?_⟩
          simp only [pths]
          exact List.mem_append.2 (.inr (k5 z hz))
    · exact hm.elim
theorem pths_key : ∀ {l : List (Nat × Blk)} {y : Nat} {path : List Nat}, (y, path) ∈ pths r h l → ∃ i rr, path = i :: rr ∧ i ∈ l.map (·.1) := by
  intro l
  induction l with
  | nil => intro y path hm; simp [pths] at hm
  | cons q l ih =>
    intro y path hm
    obtain ⟨i, b⟩ := q
    simp only [pths] at hm
    rcases List.mem_append.1 hm with hm | hm
    · split at hm
      · rename_i blk _
        rcases List.mem_cons.1 hm with hm | hm
        · cases hm; exact ⟨i, [], rfl, by simp⟩
        · obtain ⟨rr, e⟩ := mtP_pre _ _ hm
          exact ⟨i, rr, e, by simp⟩
      · simp at hm
    · obtain ⟨j, rr, e, hj⟩ := ih hm
      exact ⟨j, rr, e, by simp [hj]⟩
end
section
variable {X : Fix} {I : Nat → Prop} {ρ : Rho} {ow : Own} {s : St} {tm : Array Value} {w : World}
def endRho (ρ : Rho) (r : List (Nat × Nat)) (hs : List (Nat × Blk)) : Rho := fun k => if 100000 ≤ k then ρ k else if (hs.any fun p => p.1 == k) then ρ (lkN r k) else none
def endOw (ow : Own) (π : List (Nat × List Nat)) : Own := fun b => match ow b with
  | some (y :: rr) => (look π y).map (· ++ rr)
  | _ => none
/-- The last state, told by what is handed over. -/
theorem Rep.close (h : Rep X I ρ ow s tm w) (hr0 : ∀ k l, X.r0 k = some l → 100000 ≤ k) {v ov : V} {hs : List (Nat × Blk)} {r : List (Nat × Nat)} {u : Unit} (hE : (endR apf s v ov hs r).to u) :
    ∃ ρ' ow', Rep ⟨X.F, X.I0, X.w0, 0, X.r0⟩ I ρ' ow' ⟨fun _ => .any, look hs⟩ #[] w ∧ ∀ x, VRep I w ρ v x → VRep I w ρ' ov x := by
  obtain ⟨h1, hE⟩ := rif_to hE
  obtain ⟨x, h2, hE⟩ := bind_to hE
  obtain ⟨h3, hE⟩ := rif_to hE
  obtain ⟨ys, h4, hE⟩ := bind_to hE
  obtain ⟨h5, _⟩ := rif_to hE
  simp only [Bool.and_eq_true, List.all_eq_true, decide_eq_true_eq, List.isEmpty_iff] at h1 h3
  obtain ⟨n1, n3⟩ := h1
  obtain ⟨⟨rfl, hno⟩, hall⟩ := h3
  have n1 := nodupN_spec n1
  have n2 := nodupN_spec h5
  obtain ⟨rfl, hH⟩ := mtHs_spec h4
  have big : ∀ k, 100000 ≤ k → lkN r k = k := fun k hk => by
    simp only [lkN]
    cases hq : look r k with
    | none => rfl
    | some j =>
      have := (n3 _ (look_mem hq)).1
      omega
  have ham : ∀ k, (hs.any fun p => p.1 == k) = true ↔ k ∈ hs.map (·.1) := fun k => by simp [List.any_eq_true, List.mem_map]
  have hρk : ∀ k, k ∈ hs.map (·.1) → endRho ρ r hs k = ρ (lkN r k) := fun k hk => by
    simp only [endRho]
    split
    · rename_i e; rw [big k e]
    · rw [if_pos ((ham k).2 hk)]
  have hπ : ∀ y path rr b, (y, path) ∈ pths r s.h hs → ow b = some (y :: rr) → endOw ow (pths r s.h hs) b = some (path ++ rr) := fun y path rr b hy hb => by
    simp only [endOw, hb, look_of n2 hy, Option.map_some]
  have hnone : ∀ b, ow b = none → endOw ow (pths r s.h hs) b = none := fun b hb => by simp [endOw, hb]
  refine ⟨endRho ρ r hs, endOw ow (pths r s.h hs), ?_, fun x hx => mtV (has := fun k => hs.any fun p => p.1 == k) (fun a l ha hl => by rw [hρk a ((ham a).1 ha), hl]) h2 hno hall hx⟩
  exact
    { frame := h.frame
      size := h.size
      os := h.os
      tape := h.tape
      output := h.output
      iold := h.iold
      inew := h.inew
      ilt := h.ilt
      iow := fun b hb => hnone b (h.iow b hb)
      owf := fun b q hb => by
        simp only [endOw] at hb
        split at hb
        · rename_i y rr hy
          cases hl : look (pths r s.h hs) y with
          | none => rw [hl] at hb; cases hb
          | some path =>
            rw [hl] at hb
            cases hb
            obtain ⟨i, r2, rfl, hi⟩ := pths_key (look_mem hl)
            obtain ⟨g1, g2, _⟩ := h.owf b _ hy
            obtain ⟨p, hp, rfl⟩ := List.mem_map.1 hi
            obtain ⟨c', x', _, k2, _⟩ := hH p hp
            refine ⟨g1, g2, p.1, r2 ++ rr, p.2.c, by simp, ?_⟩
            show look hs p.1 = _
            obtain ⟨i, ⟨bk, bc⟩⟩ := p
            simp only at k2 ⊢
            rw [look_of n1 hp, k2]
        · cases hb
      dom := fun k l hk hlt => by
        simp only [endRho] at hk
        rw [if_neg (by omega)] at hk
        split at hk
        · rename_i e
          obtain ⟨v, hv⟩ := look_some ((ham k).1 e)
          show look hs k ≠ none
          rw [hv]; simp
        · cases hk
      glob := fun n => by
        obtain ⟨sz, hg⟩ := h.glob n
        refine ⟨sz, ?_⟩
        simp only [endRho]
        rw [if_pos (by simp only [globH]; omega)]
        exact hg
      tsz := rfl
      nle := by simp
      rle := fun k l hk => by
        simp only [endRho]
        rw [if_pos (hr0 k l hk)]
        exact h.rle k l hk
      tmps := fun i => VRep.any _ _ _ _
      heap := fun k blk hk => by
        have hk : look hs k = some blk := hk
        have hm := look_mem hk
        have hkm : k ∈ hs.map (·.1) := List.mem_map.2 ⟨_, hm, rfl⟩
        obtain ⟨c', x', g1, g2, g3, g4, g5⟩ := hH _ hm
        obtain ⟨bk, bc⟩ := blk
        simp only at g1 g2 g3 g4 g5
        subst g2
        obtain ⟨l, g6, g7⟩ := h.heap _ _ g1
        refine ⟨l, by rw [hρk k hkm]; exact g6, ?_⟩
        have hheap : ∀ b blk, s.h b = some blk → ∃ l, ρ b = some l ∧ BRep I w ρ ow b l blk := h.heap
        have hself : ∀ rr b, ow b = some (lkN r k :: rr) → endOw ow (pths r s.h hs) b = some (k :: rr) := fun rr b hb => by
          simpa using hπ _ [k] rr b (g5 _ (by simp)) hb
        have hcons : ∀ y path rr b, (y, path) ∈ mtP s.h bc c' [k] 0 → ow b = some (y :: rr) → endOw ow (pths r s.h hs) b = some (path ++ rr) := fun y path rr b hy hb => hπ y path rr b (g5 _ (List.mem_cons_of_mem _ hy)) hb
        have hO : [lkN r k] ≠ [] → [k] ≠ [] ∧ ∀ b p rr, ow b = some ([lkN r k] ++ p :: rr) → endOw ow (pths r s.h hs) b = some ([k] ++ p :: rr) := fun _ => ⟨by simp, fun b p rr hb => hself _ _ hb⟩
        have hsz := (mtC_size bc c' g4).1
        rcases g7 with ⟨rfl, q1, q2⟩ | ⟨b, off, sz, cur, rfl, q1, q2, q3, q4⟩
        · refine .inl ⟨rfl, hsz.trans q1, ?_⟩
          have := mtC_own hheap bc c' (ρ' := endRho ρ r hs) g3 (Rho.le_refl _) g4 hO hcons (.inl (by simp)) (CRep.anyq c' ρ [lkN r k] 0 0 _ q2)
          exact CRep.phq _ _ _ _ _ _ this
        · exact .inr ⟨b, off, sz, cur, rfl, hself [] b q1, q2, q3, mtC_own hheap bc c' g3 (Rho.le_refl _) g4 hO hcons (.inl (by simp)) q4⟩ }
end
end Go.Cx
/- CxFn4 -/
namespace Go.Cx
open Go
def okAs : List Arg → Prop
  | [] => True
  | .v v :: r => v.okv ∧ okAs r
  | .b n e c :: r => (n ≤ 9223372036854775807 ∧ isRow e n c ∧ c.okv) ∧ okAs r
  | .o c _ :: r => c.okv ∧ okAs r
def st0 (G : List (Nat × V)) (pure : Bool) (args : List Arg) : St := ⟨lkT (inT 0 args), opn 40 9000 ((List.range args.length).map parH) (parHs G pure args)⟩
def fnQ (ap : AP) (args : List Arg) (out : Out) (res : List IRes) : Ex → St → Prop
  | .exit _, _ => False
  | _, s => (finR ap s args out res).all fun _ => True
/-- the slots, guards and results of a function are in order -/
def fnOk (P : Program) (f : Nat) : Bool := match P.funcs[f]? with
  | some fn => (match fn.body with | some c => codeOk fn.ntmps c | none => false) && decide (fn.ntmps ≤ 9000) && decide (fn.results.size ≤ 4) &&
      fn.results.toList.all fun r => match r with | .tmp _ => true | .cell _ t => sz P t != 0 && (P.underlying t).isSome
  | none => false
section
variable {P : Program} {X : Fix} {I : Nat → Prop} {ρ : Rho} {ow : Own} {s : St} {a : Act} {w : World}
def resOne (tm : Array Value) : ResultVar → Sem Value
  | .tmp t => pure (tm.getD t undef)
  | .cell a t => do loadVar t (← asAddr (tm.getD a undef))
theorem results_eq (fn : Func) (tm : Array Value) : results fn tm = (do let vs ← fn.results.mapM (resOne tm); pure (if h : vs.size = 1 then vs[0] else .tuple vs)) := rfl
def irOf (P : Program) : ResultVar → IRes
  | .tmp t => .t t
  | .cell a t => .cell a (sz P t) (aggT P t)
theorem resOne_run (h : Rep X I ρ ow s a.tmps w) {r : ResultVar} (hr : (match r with | .tmp _ => true | .cell _ t => sz P t != 0 && (P.underlying t).isSome) = true) {v : V} (hv : (resV apf s (irOf P r)).to v) :
    ∃ x, (resOne a.tmps r).run P w = .ok x w ∧ VRep I w ρ v x := by
  cases r with
  | tmp t =>
    cases hv
    exact ⟨_, rfl, h.tmps t⟩
  | cell n t =>
    simp only [Bool.and_eq_true, bne_iff_ne, Option.isSome_iff_exists] at hr
    obtain ⟨hz, d, hd⟩ := hr
    obtain ⟨e, he, hve⟩ := bind_to hv
    cases hve
    have hv := ev_rep h (x := .tmp n) (i := .t n) rfl
    simp only [stepR] at he
    have fin : ∀ (b off : Nat) (v u : V) (q : List Nat) (pos : Nat) (ow : Own), a.tmps.getD n undef = .pointer (some ⟨b, off, none⟩) → CRep I w ow v ρ q pos (cellsAt w b off) → v.size = sz P t → v.noown = true → (wrapV (aggT P t) v).to u →
        ∃ x, (resOne a.tmps (.cell n t)).run P w = .ok x w ∧ VRep I w ρ u x := by
      intro b off v u q pos ow hp hc hs hno hw
      obtain ⟨y, hy, hvy⟩ := load_run (P := P) hd hz hc hno hs hw
      exact ⟨y, by simp [resOne, hp, asAddr, hy], hvy⟩
    split at he
    · rename_i hh p e1
      rw [e1] at hv
      obtain ⟨b, off, sz', h1, h2⟩ := vr_ptr hv
      split at he
      · exact he.elim
      · rename_i kk c hnd hh2
        obtain ⟨v, hat, he⟩ := bind_to he
        obtain ⟨hs, he⟩ := rif_to he
        simp only [Bool.and_eq_true, beq_iff_eq] at hs
        obtain ⟨hs, hno⟩ := hs
        obtain ⟨u, hu, he⟩ := bind_to he
        cases he
        obtain ⟨q, hg⟩ := blk_cells h hh2 h1 (fun e => hnd e)
        obtain ⟨h9, _⟩ := at_rep _ _ hat hg
        refine fin b (off + poff p) v u q (0 + poff p) ow h2 ?_ hs hno hu
        have e2 : cellsAt w b (off + poff p) = fun j => cellsAt w b off (poff p + j) := by funext j; simp [cellsAt, Nat.add_assoc]
        rw [e2]; exact h9
      · exact he.elim
    · rename_i c p e1
      rw [e1] at hv
      obtain ⟨b, off, hI, h2, h3⟩ := vr_dptr hv
      obtain ⟨v, hat, he⟩ := bind_to he
      obtain ⟨hs, he⟩ := rif_to he
      simp only [Bool.and_eq_true, beq_iff_eq] at hs
      obtain ⟨hs, hno⟩ := hs
      obtain ⟨u, hu, he⟩ := bind_to he
      cases he
      have h3' : CRep I w (fun _ => none) c ρ [] 0 (cellsAt w b off) := CRep.mono (fun b hb => ⟨hb, rfl⟩) _ _ _ _ _ _ _ (noR_le ρ) (fun h => absurd rfl h) (fun _ _ => rfl) h3
      obtain ⟨h9, _⟩ := at_rep _ _ hat h3'
      refine fin b (off + poff p) v u [] (0 + poff p) (fun _ => none) h2 ?_ hs hno hu
      have e2 : cellsAt w b (off + poff p) = fun j => cellsAt w b off (poff p + j) := by funext j; simp [cellsAt, Nat.add_assoc]
      rw [e2]; exact h9
    · exact he.elim
theorem vr0_of {v : V} {x : Value} (ht : v.isTup = false) (h : VRep I w ρ v x) : VRep0 I w ρ v x := by
  cases v <;> first | exact h | cases ht
theorem resL_run (h : Rep X I ρ ow s a.tmps w) : ∀ {rs : List ResultVar} {v : V}, (rs.all fun r => match r with | .tmp _ => true | .cell _ t => sz P t != 0 && (P.underlying t).isSome) = true → (resL apf s (rs.map (irOf P))).to v →
    ∃ l, F2 (fun r x => (resOne a.tmps r).run P w = .ok x w) rs l ∧ TRep I w ρ v l := by
  intro rs
  induction rs with
  | nil => intro v _ hv; cases hv; exact ⟨[], .nil, rfl⟩
  | cons r rs ih =>
    intro v hok hv
    simp only [List.all_cons, Bool.and_eq_true] at hok
    obtain ⟨u, h1, hv⟩ := bind_to hv
    obtain ⟨h2, hv⟩ := rif_to hv
    obtain ⟨t, h3, hv⟩ := bind_to hv
    cases hv
    obtain ⟨x, g1, g2⟩ := resOne_run h hok.1 h1
    obtain ⟨l, g3, g4⟩ := ih hok.2 h3
    exact ⟨x :: l, .cons g1 g3, x, l, rfl, vr0_of (by simpa using h2) g2, g4⟩
theorem tup_vr {v : V} {l : List Value} (h : TRep I w ρ v l) : VRep I w ρ v (.tuple l.toArray) := by
  cases v <;> first | exact h.elim | skip
  · have : l = [] := h
    subst this; rfl
  · exact ⟨l, rfl, h⟩
theorem results_run (h : Rep X I ρ ow s a.tmps w) {fn : Func} (hn : fn.results.size ≤ 4) (hok : (fn.results.toList.all fun r => match r with | .tmp _ => true | .cell _ t => sz P t != 0 && (P.underlying t).isSome) = true) {v : V}
    (hv : (resR apf s (fn.results.toList.map (irOf P))).to v) : ∃ x, (results fn a.tmps).run P w = .ok x w ∧ VRep I w ρ v x := by
  rw [results_eq]
  obtain ⟨rs, hrs⟩ : ∃ rs, fn.results = List.toArray rs := ⟨fn.results.toList, by simp⟩
  rw [hrs] at hn hok hv ⊢
  simp only at hok hv
  have multi : ∀ {rs : List ResultVar}, rs.length ≠ 1 → rs.length ≤ 4 → (rs.all fun r => match r with | .tmp _ => true | .cell _ t => sz P t != 0 && (P.underlying t).isSome) = true → (resL apf s (rs.map (irOf P))).to v →
      ∃ x, (do let vs ← rs.toArray.mapM (resOne a.tmps); pure (if h : vs.size = 1 then vs[0] else .tuple vs) : Sem Value).run P w = .ok x w ∧ VRep I w ρ v x := by
    intro rs h1 h4 hok hv
    obtain ⟨l, g1, g2⟩ := resL_run h hok hv
    refine ⟨.tuple l.toArray, ?_, tup_vr g2⟩
    cases g1 with
    | nil => simp
    | cons a1 g1 =>
      cases g1 with
      | nil => simp at h1
      | cons a2 g1 =>
        cases g1 with
        | nil => simp [a1, a2]
        | cons a3 g1 =>
          cases g1 with
          | nil => simp [a1, a2, a3]
          | cons a4 g1 =>
            cases g1 with
            | nil => simp [a1, a2, a3, a4]
            | cons a5 g1 => simp at h4
  match rs, hn, hok, hv with
  | [], _, hok, hv => exact multi (by simp) (by simp) hok hv
  | [r], _, hok, hv =>
    simp only [List.all_cons, Bool.and_eq_true] at hok
    obtain ⟨x, g1, g2⟩ := resOne_run h hok.1 hv
    exact ⟨x, by simp [g1], g2⟩
  | a :: b :: l, hn, hok, hv => exact multi (by simp) (by simpa using hn) hok hv
theorem compRes_eq {rs : List ResultVar} : compRes P rs = some (rs.map (irOf P)) := by
  induction rs with
  | nil => rfl
  | cons r rs ih =>
    simp only [compRes, List.map_cons] at ih ⊢
    cases r <;> simp only [optL, ih] <;> rfl
theorem okAs_of : ∀ {args : List Arg} {i0 : Nat} {G : List (Nat × V)} {pure : Bool} {all : List Arg}, (∀ (i : Nat) (a : Arg), args[i]? = some a → all[i0 + i]? = some a) → all.length ≤ 100000 →
    Rep X I ρ ow ⟨fun _ => .any, parHs G pure all⟩ #[] w → (∀ (i : Nat) (a : Arg), all[i]? = some a → ∃ x, VRep I w ρ (parV i a) x) → (∀ (i n e : Nat) (c : V), all[i]? = some (.b n e c) → isRow e n c) → okAs args := by
  intro args
  induction args with
  | nil => intros; trivial
  | cons a args ih =>
    intro i0 G pure all hsub hlen h hv hrow
    have h0 := hsub 0 a rfl
    rw [Nat.add_zero] at h0
    have hrest : okAs args := ih (i0 := i0 + 1) (fun i b hb => by
      have := hsub (i + 1) b (by simpa using hb)
      rwa [show i0 + (i + 1) = i0 + 1 + i by omega] at this) hlen h hv hrow
    obtain ⟨x, hx⟩ := hv i0 a h0
    have hil : i0 < all.length := (List.getElem?_eq_some_iff.1 h0).1
    cases a with
    | v v => exact ⟨VRep.okv hx, hrest⟩
    | b n e c =>
      have h1 : V.okv (.sl (parH i0) [] 0 n e none) := VRep.okv hx
      obtain ⟨l, _, g2⟩ := h.heap (parH i0) ⟨.bor, c⟩ (by
        show parHs G pure all (parH i0) = _
        rw [parHs_par (by omega), h0]; rfl)
      exact ⟨⟨h1, hrow _ _ _ _ h0, blk_okv (by simp) g2⟩, hrest⟩
    | o c vw =>
      obtain ⟨l, _, g2⟩ := h.heap (parH i0) ⟨if pure then .bor else .own, c⟩ (by
        show parHs G pure all (parH i0) = _
        rw [parHs_par (by omega), h0]; rfl)
      exact ⟨blk_okv (by cases pure <;> simp) g2, hrest⟩
theorem lkT_inT : ∀ {args : List Arg} {i0 i : Nat}, (∃ a, args[i]? = some a ∧ lkT (inT i0 args) (i0 + i) = parV (i0 + i) a) ∨ (args[i]? = none ∧ lkT (inT i0 args) (i0 + i) = .any) := by
  intro args
  induction args with
  | nil => intro i0 i; exact .inr ⟨by simp, rfl⟩
  | cons a args ih =>
    intro i0 i
    cases i with
    | zero => refine .inl ⟨a, rfl, ?_⟩; rcases a with v | ⟨n, e, c⟩ | ⟨c, _ | ⟨j, n, e, cap⟩⟩ <;> simp [inT, lkT, parV]
    | succ i =>
      have := ih (i0 := i0 + 1) (i := i)
      rw [show i0 + 1 + i = i0 + (i + 1) by omega] at this
      have e : lkT (inT i0 (a :: args)) (i0 + (i + 1)) = lkT (inT (i0 + 1) args) (i0 + (i + 1)) := by
        rcases a with v | ⟨n, e, c⟩ | ⟨c, _ | ⟨j, n, e, cap⟩⟩ <;> simp [inT, lkT]
      rw [e]
      simpa using this
/-- A function whose code keeps the contract, step by step in the small code, keeps it. -/
theorem fn_sound {G : List (Nat × V)} {pure : Nat → Bool} {E : List (Nat × Ctr)} {f : Nat} {ic : IFn} {ctr : Ctr} (hm : P.follows .mixedOrders = true) (hcall : ∀ xs w, (callFunc f xs).run P w = .ok (.enter f xs) w)
    (hok : fnOk P f = true) (hic : comp P pure f = some ic) (hE : EnvSound P G pure E)
    (hvc : ∀ args out, (ctr args).to out → okAs args → args.length = ic.nargs ∧ ic.nargs ≤ ic.ntmps ∧ ∃ A : List (Nat × Ann), run apf E A ic.body (fnQ apf args out ic.res) (st0 G (pure f) args)) : Sound P G f (pure f) ctr := by
  refine ⟨hcall, ?_⟩
  intro args out vals w F I ρ ow hctr hlen hlen2 hrow hIF hR hV
  simp only [fnOk] at hok
  split at hok
  · rename_i fn hfn
    cases hbody : fn.body with
    | none => rw [hbody] at hok; simp at hok
    | some c =>
      rw [hbody] at hok
      simp only [Bool.and_eq_true, decide_eq_true_eq] at hok
      obtain ⟨⟨⟨hco, hnt⟩, hrs⟩, hrok⟩ := hok
      simp only [comp, hfn, hbody, compRes_eq, Option.some.injEq] at hic
      have hvget : ∀ (i : Nat) (a : Arg), args[i]? = some a → ∃ x, VRep I w ρ (parV i a) x := fun i a hi => ⟨_, hV i a hi⟩
      have hokas : okAs args := okAs_of (i0 := 0) (all := args) (fun i a h => by rwa [Nat.zero_add]) hlen2 hR hvget hrow
      obtain ⟨hn1, hn2, A, hrun⟩ := hvc args out hctr hokas
      subst hic
      simp only at hn1 hn2 hrun
      let X : Fix := ⟨F, I, w, fn.ntmps, ρ⟩
      have hr0 : ∀ k l, X.r0 k = some l → 100000 ≤ k := fun k l hk => by
        rcases Nat.lt_or_ge k 100000 with h | h
        · have := hR.dom k l hk h
          exfalso
          apply this
          show parHs G (pure f) args k = none
          simp only [parHs]
          rw [if_neg (by omega), if_neg (by omega)]
        · exact h
      -- the first state
      have hsz : vals.toArray.size = args.length := by simp [hlen]
      have htsz : (vals.toArray ++ Array.replicate (fn.ntmps - vals.toArray.size) undef).size = fn.ntmps := by
        simp only [Array.size_append, Array.size_replicate]; omega
      have hfirst : Rep X I ρ ow ⟨lkT (inT 0 args), parHs G (pure f) args⟩ (vals.toArray ++ Array.replicate (fn.ntmps - vals.toArray.size) undef) w :=
        { hR with
          tsz := htsz
          nle := by show fn.ntmps ≤ 100000; omega
          tmps := fun i => by
            show VRep I w ρ (lkT (inT 0 args) i) _
            rcases lkT_inT (args := args) (i0 := 0) (i := i) with ⟨a, h1, h2⟩ | ⟨_, h2⟩
            · rw [Nat.zero_add] at h2
              rw [h2]
              have hil : i < args.length := (List.getElem?_eq_some_iff.1 h1).1
              have e : (vals.toArray ++ Array.replicate (fn.ntmps - vals.toArray.size) undef).getD i undef = vals.toArray.getD i undef := by
                rw [Array.getD_eq_getD_getElem?, Array.getD_eq_getD_getElem?, Array.getElem?_append_left (by omega)]
              rw [e]
              exact hV i a h1
            · rw [Nat.zero_add] at h2
              rw [h2]
              exact VRep.any _ _ _ _ }
      obtain ⟨ρ1, ow1, _, hopen⟩ := Rep.opens (s := ⟨lkT (inT 0 args), parHs G (pure f) args⟩) 40 9000 ((List.range args.length).map parH) (by omega) hfirst
      have hRA : RA X (st0 G (pure f) args) { tmps := vals.toArray ++ Array.replicate (fn.ntmps - vals.toArray.size) undef, defers := [] } w := ⟨⟨I, ρ1, ow1, hopen⟩, rfl⟩
      have hG : GOk G X :=
        { i0 := fun b hb => ⟨hIF b hb, hR.ilt b hb⟩
          g := fun n c hn => by
            obtain ⟨l, h1, h2⟩ := hR.heap (globH n) ⟨.imm, c⟩ (by
              show parHs G (pure f) args (globH n) = _
              simp [parHs, globH, hn])
            obtain ⟨sz, h3⟩ := hR.glob n
            rw [h1] at h3
            cases h3
            rcases h2 with ⟨h4, _⟩ | ⟨k, off, sz', h4, h5, h6, h7⟩
            · cases h4
            · cases h4
              exact ⟨h5, ⟨sz, h1, h6⟩, h7.noow⟩ }
      refine calls_of_wp hfn hbody (Code.wp_mono (fun e a' w' hq => ?_) (code_sound hm hG hE (head_ok hr0) _ c A 0 _ _ _ _ hco hRA hrun))
      have fin : ∀ s, fnQ apf args out (fn.results.toList.map (irOf P)) .nrm s → RA X s a' w' → bodyPost P fn (fun en w' => ∃ x I' ρ' ow', en = .returned x ∧ VRep I' w' ρ' out.v x ∧ Rep ⟨F, I, w, 0, ρ⟩ I' ρ' ow' ⟨fun _ => .any, outHs args out⟩ #[] w') .normal a' w' := by
        rintro s hs ⟨⟨I', ρ', ow', h'⟩, hdf⟩
        obtain ⟨u, hu, _⟩ := all_to hs
        obtain ⟨v, hv, hend⟩ := bind_to hu
        obtain ⟨x, hx1, hx2⟩ := results_run h' hrs hrok hv
        obtain ⟨ρ2, ow2, g1, g2⟩ := h'.close hr0 hend
        exact bodyPost_end hx1 hdf ⟨x, I', ρ2, ow2, rfl, g2 x hx2, g1⟩
      cases e with
      | normal => obtain ⟨s, h1, h2⟩ := hq; exact fin s h1 h2
      | ret => obtain ⟨s, h1, h2⟩ := hq; exact fin s h1 h2
      | exit i => obtain ⟨s, h1, h2⟩ := hq; exact h1.elim
      | goto l => exact hq.elim
      | panic c => exact hq.elim
      | outgrown => exact hq.elim
  · cases hok
end
end Go.Cx
/- CxL -/
namespace Go.Cx
open Go
theorem wadd_i64 {x y : Int} (h : -9223372036854775808 ≤ x + y ∧ x + y ≤ 9223372036854775807) : wadd .i64 x y = x + y := IntWalk.i64_in _ h
theorem wsub_i64 {x y : Int} (h : -9223372036854775808 ≤ x - y ∧ x - y ≤ 9223372036854775807) : wsub .i64 x y = x - y := IntWalk.i64_in _ h
theorem wmul_i64 {x y : Int} (h : -9223372036854775808 ≤ x * y ∧ x * y ≤ 9223372036854775807) : wmul .i64 x y = x * y := IntWalk.i64_in _ h
theorem wadd_u64 {x y : Int} (h : 0 ≤ x + y ∧ x + y ≤ 18446744073709551615) : wadd .u64 x y = x + y := IntWalk.u64_in _ h
theorem wcv_i64 {x : Int} (h : -9223372036854775808 ≤ x ∧ x ≤ 9223372036854775807) : wcv .i64 x = x := IntWalk.i64_in _ h
theorem wcv_u64 {x : Int} (h : 0 ≤ x ∧ x ≤ 18446744073709551615) : wcv .u64 x = x := IntWalk.u64_in _ h
theorem wcv_u32 {x : Int} (h : 0 ≤ x ∧ x ≤ 4294967295) : wcv .u32 x = x := IntWalk.u32_in _ h
theorem wcv_u8 {x : Int} (h : 0 ≤ x ∧ x ≤ 255) : wcv .u8 x = x := IntWalk.u8_in _ h
theorem inc_i64 {i : Nat} (h : i + 1 ≤ 9223372036854775807) : wadd .i64 (i : Int) 1 = ((i + 1 : Nat) : Int) := (wadd_i64 (by omega)).trans (by omega)
theorem quo_i64 {i k : Nat} (h : i ≤ 9223372036854775807) : wquo .i64 (i : Int) (k : Int) = ((i / k : Nat) : Int) := by
  have e : ((i : Int).tdiv (k : Int)) = ((i / k : Nat) : Int) := rfl
  rw [wquo, e]
  have h2 := Nat.div_le_self i k
  generalize i / k = q at h2
  exact IntWalk.i64_in _ ⟨by omega, by omega⟩
theorem rem_i64 {i k : Nat} : wrem .i64 (i : Int) (k : Int) = ((i % k : Nat) : Int) := rfl
theorem inR_u64 {x : Int} : inR .u64 x ↔ 0 ≤ x ∧ x ≤ 18446744073709551615 := by simp [inR, IntKind.min, IntKind.max, IntKind.bits, IntKind.signed]
theorem inR_u32 {x : Int} : inR .u32 x ↔ 0 ≤ x ∧ x ≤ 4294967295 := by simp [inR, IntKind.min, IntKind.max, IntKind.bits, IntKind.signed]
theorem inR_u8 {x : Int} : inR .u8 x ↔ 0 ≤ x ∧ x ≤ 255 := by simp [inR, IntKind.min, IntKind.max, IntKind.bits, IntKind.signed]
theorem bor_comm (k : IntKind) (x y : Int) : bor k x y = bor k y x := by simp only [bor, BitVec.or_comm]
theorem bxor_comm (k : IntKind) (x y : Int) : bxor k x y = bxor k y x := by simp only [bxor, BitVec.xor_comm]
/-- the next place of a row that is filled from the front -/
theorem setI_fill {a : List Int} {m i : Nat} {x z : Int} (h : a.length = i) (hm : 0 < m) : setI (a ++ List.replicate m z) i x = a ++ [x] ++ List.replicate (m - 1) z := by
  subst h
  obtain ⟨m, rfl⟩ : ∃ k, m = k + 1 := ⟨m - 1, by omega⟩
  simp [setI, List.replicate_succ]
theorem fillL_set {f : Nat → Int} {i m : Nat} {x : Int} (h : i < m) (hx : x = f i) : setI ((List.range i).map f ++ List.replicate (m - i) 0) i x = (List.range (i + 1)).map f ++ List.replicate (m - (i + 1)) 0 := by
  rw [setI_fill (by simp) (by omega), hx, List.range_succ, List.map_append]
  rfl
theorem subL_all {b : List Int} {n : Nat} (h : b.length ≤ n) : subL b 0 n = b := by
  rw [subL, List.drop_zero, List.take_of_length_le h]
theorem subL_one {x : Int} : subL [x] 0 1 = [x] := rfl
theorem nthI_app_lt {a b : List Int} {i : Nat} (h : i < a.length) : nthI (a ++ b) i = nthI a i := by
  simp [nthI, List.getD_eq_getElem?_getD, List.getElem?_append_left h]
theorem nthI_take {a : List Int} {i n : Nat} (h : i < n) : nthI (a.take n) i = nthI a i := by
  simp [nthI, List.getD_eq_getElem?_getD, h]
theorem nthI_drop {a : List Int} {i n : Nat} : nthI (a.drop n) i = nthI a (n + i) := by
  simp [nthI, List.getD_eq_getElem?_getD, List.getElem?_drop]
theorem nthI_subL {a : List Int} {i n j : Nat} (h : j < n) : nthI (subL a i n) j = nthI a (i + j) := by
  rw [subL, nthI_take h, nthI_drop]
theorem nthI_cat {a b : List Int} {j : Nat} : nthI (a ++ b) j = if j < a.length then nthI a j else nthI b (j - a.length) := by
  split
  · exact nthI_app_lt ‹_›
  · simp only [nthI, List.getD_eq_getElem?_getD]
    rw [List.getElem?_append_right (by omega)]
theorem subL_len {a : List Int} {i n : Nat} (h : i + n ≤ a.length) : (subL a i n).length = n := by simp [subL]; omega
theorem catL_nil {a : List Int} {i : Nat} {b : List Int} : catL (subL a i 0) b = b := by simp [catL, subL]
theorem nthI_map {f : Nat → Int} {n i : Nat} (h : i < n) : nthI ((List.range n).map f) i = f i := by
  simp [nthI, List.getD_eq_getElem?_getD, h]
theorem lss_t {x y : Int} (h : cmF .lss x y = true) : x < y := of_decide_eq_true h
theorem lss_f {x y : Int} (h : cmF .lss x y = false) : y ≤ x := by have : ¬ x < y := of_decide_eq_false h; omega
theorem gtr_t {x y : Int} (h : cmF .gtr x y = true) : y < x := of_decide_eq_true h
theorem gtr_f {x y : Int} (h : cmF .gtr x y = false) : x ≤ y := by have : ¬ y < x := of_decide_eq_false h; omega
theorem geq_t {x y : Int} (h : cmF .geq x y = true) : y ≤ x := of_decide_eq_true h
theorem geq_f {x y : Int} (h : cmF .geq x y = false) : x < y := by have : ¬ y ≤ x := of_decide_eq_false h; omega
theorem neq_t {x y : Int} (h : cmF .neq x y = true) : x ≠ y := by
  have h : (!decide (x = y)) = true := h
  simpa using h
theorem neq_f {x y : Int} (h : cmF .neq x y = false) : x = y := by
  have h : (!decide (x = y)) = false := h
  simpa using h
end Go.Cx
namespace Go.Cx
open Go
theorem env_nil {P : Program} {G : List (Nat × V)} {pure : Nat → Bool} : EnvSound P G pure [] := fun _ _ h => by cases h
theorem env_cons {P : Program} {G : List (Nat × V)} {pure : Nat → Bool} {f : Nat} {c : Ctr} {E : List (Nat × Ctr)} (h : Sound P G f (pure f) c) (hE : EnvSound P G pure E) : EnvSound P G pure ((f, c) :: E) := fun g d hl => by
  simp only [look] at hl
  split at hl
  · rename_i e; cases hl; cases e; exact h
  · exact hE g d hl
end Go.Cx
/- CxMore -/
namespace Go.Cx
open Go
theorem Sound.more {P : Program} {G G' : List (Nat × V)} {f : FuncId} {pure : Bool} {c : Ctr} (hG : ∀ n v, look G n = some v → look G' n = some v) (h : Sound P G f pure c) : Sound P G' f pure c := by
  refine ⟨h.1, fun args out vals w F I ρ ow h1 h2 h3 h4 h5 hR hV => h.2 args out vals w F I ρ ow h1 h2 h3 h4 h5 ?_ hV⟩
  have sub : ∀ k blk, parHs G pure args k = some blk → parHs G' pure args k = some blk := fun k blk hk => by
    simp only [parHs] at hk ⊢
    split at hk
    · rename_i e
      rw [if_pos e]
      simp only [Option.map_eq_some_iff] at hk ⊢
      obtain ⟨v, hv, rfl⟩ := hk
      exact ⟨v, hG _ _ hv, rfl⟩
    · rename_i e
      rw [if_neg e]
      exact hk
  exact
    { hR with
      owf := fun b q hb => by
        obtain ⟨g1, g2, x, r, v, g3, g4⟩ := hR.owf b q hb
        refine ⟨g1, g2, x, r, v, g3, ?_⟩
        simp only [parHs] at g4 ⊢
        split at g4
        · simp only [Option.map_eq_some_iff] at g4
          obtain ⟨v, _, e⟩ := g4
          cases e
        · rename_i e
          rw [if_neg e]; exact g4
      dom := fun k l hk hlt => by
        have := hR.dom k l hk hlt
        exfalso
        apply this
        show parHs G' pure args k = none
        simp only [parHs]
        rw [if_neg (by omega), if_neg (by omega)]
      heap := fun k blk hk => hR.heap k blk (sub k blk hk) }
end Go.Cx
/- CxLaw -/
namespace Go.Cx
open Go Go.ChangeShapes Go.WideShapes Go.ChangeAt Go.RowKit
def bsize (W : World) (b : Nat) : Nat := match W.heap[b]? with
  | some (.cells cs _ _) => cs.size
  | _ => 0
def lawRho (W : World) : Rho := fun h => if 200000 ≤ h then some (.at (h - 200000) 0 (bsize W (h - 200000))) else none
theorem lawRho_glob (W : World) (n : Nat) : lawRho W (globH n) = some (.at n 0 (bsize W n)) := by simp [lawRho, globH]
def lawX (W : World) : Fix := ⟨fun _ => False, fun b => b < W.heap.size, W, 0, lawRho W⟩
theorem law_rep (W : World) : Rep (lawX W) (fun b => b < W.heap.size) (lawRho W) (fun _ => none) ⟨fun _ => .any, fun _ => none⟩ #[] W :=
  { frame := fun _ _ _ => rfl
    size := Nat.le_refl _
    os := rfl
    tape := rfl
    output := rfl
    iold := fun _ h => h
    inew := fun _ h => .inl h
    ilt := fun _ h => h
    iow := fun _ _ => rfl
    owf := fun _ _ h => by cases h
    dom := fun k l hk hlt => by
      simp only [lawRho] at hk
      rw [if_neg (by omega)] at hk
      cases hk
    glob := fun n => ⟨_, lawRho_glob W n⟩
    tsz := rfl
    nle := by simp [lawX]
    rle := Rho.le_refl _
    tmps := fun _ => VRep.any _ _ _ _
    heap := fun _ _ h => by cases h }
/-- a package variable that is known -/
def GloIs (W : World) (n : Nat) (c : V) : Prop := n < W.heap.size ∧ c.size ≤ bsize W n ∧ CRep (fun b => b < W.heap.size) W (fun _ => none) c noR [] 0 (cellsAt W n 0)
theorem law_gok {W : World} {G : List (Nat × V)} (hG : ∀ n c, look G n = some c → GloIs W n c) : GOk G (lawX W) :=
  { i0 := fun b hb => ⟨fun h => h, hb⟩
    g := fun n c hn => by
      obtain ⟨h1, h2, h3⟩ := hG n c hn
      exact ⟨h1, ⟨bsize W n, lawRho_glob W n, h2⟩, h3⟩ }
/-- what a call leaves of what was there -/
structure Left0 (W W' : World) : Prop where
  heap : ∀ b, b < W.heap.size → W'.heap[b]? = W.heap[b]?
  size : W.heap.size ≤ W'.heap.size
  os : W'.os = W.os
  output : W'.output = W.output
theorem law_calls {P : Program} {G : List (Nat × V)} {f : FuncId} {ctr : Ctr} {W : World} (hS : Sound P G f true ctr) (hG : ∀ n c, look G n = some c → GloIs W n c) {args : List Arg} {vals : List Value} {los : List Lo}
    (hok : ArgsOk (fun b => b < W.heap.size) W (lawRho W) (fun _ => none) ⟨fun _ => .any, fun _ => none⟩ true [] args vals los (vals.map fun _ => none)) (hlen : vals.length ≤ 100000) {out : Out} (hout : (ctr args).to out) :
    Calls P f vals.toArray W fun en W' => ∃ x I' ρ', en = .returned x ∧ VRep I' W' ρ' out.v x ∧ Left0 W W' := by
  have hnil : ∀ l : List Value, (l.map fun _ => (none : Option Nat)).filterMap id = [] := by
    intro l
    induction l with
    | nil => rfl
    | cons x l ih => simp
  obtain ⟨k1, k2, k3, hget⟩ := hok.get
  obtain ⟨hR, hV⟩ := (law_rep W).forth (law_gok hG) (args := args) (vals := vals) (los := los) (hos := vals.map fun _ => none) (pure := true) (by omega) (by rw [hnil]; exact List.nodup_nil) (by rw [hnil]; exact hok)
  have hF : ∀ b, ¬ overF (fun _ => none) ((vals.map fun _ => (none : Option Nat)).filterMap id) b := fun b ⟨x, r, e, _⟩ => by cases e
  refine Calls.mono (hS.2 args out vals W _ _ _ _ hout k1 (by omega) (fun i n e c hi => ?_) (fun b _ => hF b) hR hV) ?_
  · obtain ⟨x, l, ho, _, _, _, g⟩ := hget i _ hi
    exact g.2.1
  · rintro en W' ⟨x, I', ρ', ow', rfl, hx, hr⟩
    exact ⟨x, I', ρ', rfl, hx, fun b hb => hr.frame b hb (hF b), hr.size, hr.os, hr.output⟩
theorem Left0.kept {W W' : World} (h : Left0 W W') (may : MemPlace → Prop) : W.keptBut W' may := by
  refine ⟨h.os, h.output, fun i hi => ?_⟩
  rw [h.heap i hi]
  cases hh : W.heap[i]? with
  | none => rfl
  | some o => cases o <;> simp
theorem Left0.cell {W W' : World} (h : Left0 W W') {a : Addr} {v : Value} (hc : W.cell? a = some v) : W'.cell? a = some v := by
  have hb : a.block < W.heap.size := by
    simp only [World.cell?] at hc
    split at hc
    · rename_i hh; exact heap_lt hh
    · cases hc
  rw [World.cell?_of_block (h.heap _ hb)]
  exact hc
theorem mapM_some {α β : Type} {f g : α → Option β} : ∀ {l : List α} {ys : List β}, l.mapM f = some ys → (∀ a ∈ l, ∀ y, f a = some y → g a = some y) → l.mapM g = some ys
  | [], ys, h, _ => by simpa using h
  | a :: l, ys, h, hg => by
    simp only [List.mapM_cons, Option.bind_eq_bind, Option.bind_eq_some_iff, Option.pure_def, Option.some.injEq] at h ⊢
    obtain ⟨y, h1, r, h2, rfl⟩ := h
    exact ⟨y, hg a (by simp) y h1, r, mapM_some h2 (fun b hb => hg b (by simp [hb])), rfl⟩
theorem Left0.cells {W W' : World} (h : Left0 W W') {base : Nat} {a : Addr} {n : Nat} {cs : List Value} (hc : W.cells? base a n = some cs) : W'.cells? base a n = some cs := by
  simp only [World.cells?] at hc ⊢
  split at hc
  · rename_i hb
    rw [if_pos hb]
    exact mapM_some hc (fun i _ y hy => h.cell hy)
  · cases hc
/-- types of plain data -/
def plainT (P : Program) : Nat → TypeId → Bool
  | 0, _ => false
  | d + 1, t => match P.underlying t with
    | some .bool | some (.int _) | some .string => true
    | some (.slice e) => P.cellsOf e != 0 && plainT P d e
    | some (.array _ e) => plainT P d e
    | some (.struct fs) => fs.toList.all fun f => plainT P d f.type
    | _ => false
theorem mapM_of {α β : Type} {f : α → Option β} : ∀ {l : List α} {ys : List β}, ys.length = l.length → (∀ (i : Nat) (a : α), l[i]? = some a → f a = ys[i]?) → l.mapM f = some ys
  | [], [], _, _ => rfl
  | [], _ :: _, h, _ => by simp at h
  | _ :: _, [], h, _ => by simp at h
  | a :: l, y :: ys, h, hf => by
    have h0 := hf 0 a rfl
    have ih := mapM_of (l := l) (ys := ys) (by simpa using h) (fun i b hb => by simpa using hf (i + 1) b (by simpa using hb))
    simp only [List.getElem?_cons_zero] at h0
    simp [h0, ih]
theorem range_at {n i j : Nat} (h : (List.range n)[i]? = some j) : i = j ∧ i < n := by
  have h1 := (List.getElem?_eq_some_iff.1 h).1
  simp at h1
  rw [List.getElem?_range h1] at h
  cases h
  exact ⟨rfl, h1⟩
section
variable {H : Type} {enc : TypeId × Value → H} {P : Program} {W W' : World}
/-- Plain data read as before. -/
theorem Left0.trod (hW : Left0 W W') : ∀ (d fuel : Nat) (t : TypeId) (cs : List Value) (x : DataW H × List MemPlace), plainT P d t = true → DataW.trod enc P W 0 (fun _ => true) true fuel t cs = some x →
    DataW.trod enc P W' 0 (fun b => decide (b < W.heap.size)) true fuel t cs = some x := by
  intro d
  induction d with
  | zero => intro fuel t cs x h; cases h
  | succ d ih =>
    intro fuel t cs x hp h
    cases fuel with
    | zero => cases h
    | succ fuel =>
      simp only [plainT] at hp
      have leaf : ∀ {d : TypeDesc}, P.underlying t = some d → (d = .bool ∨ (∃ k, d = .int k) ∨ d = .string) → DataW.trod enc P W' 0 (fun b => decide (b < W.heap.size)) true (fuel + 1) t cs = DataW.trod enc P W 0 (fun _ => true) true (fuel + 1) t cs := fun ht hd => by
        unfold DataW.trod
        rw [ht]
        rcases hd with rfl | ⟨k, rfl⟩ | rfl <;> (rcases cs with _ | ⟨c, _ | ⟨c2, cs⟩⟩ <;> first | rfl | (cases c <;> rfl))
      split at hp
      · rename_i ht; rw [leaf ht (.inl rfl)]; exact h
      · rename_i k ht; rw [leaf ht (.inr (.inl ⟨k, rfl⟩))]; exact h
      · rename_i ht; rw [leaf ht (.inr (.inr rfl))]; exact h
      · rename_i e ht
        simp only [Bool.and_eq_true, bne_iff_ne] at hp
        obtain ⟨hz, hp⟩ := hp
        rcases DataW.trod_slice ht h with ⟨rfl, rfl⟩ | ⟨a, len, cap, elems, rest, n, e1, rfl, rfl, hb, hl, hm, hlen, hel, hsp, _⟩
        · unfold DataW.trod; rw [ht]; rfl
        · cases e1
          obtain ⟨hr1, hr2⟩ := hsp rfl
          have step : ∀ (o : Addr) (y : DataW H × List MemPlace), (W.cells? 0 o (P.cellsOf e)).bind (DataW.trod enc P W 0 (fun _ => true) true fuel e) = some y →
              (W'.cells? 0 o (P.cellsOf e)).bind (DataW.trod enc P W' 0 (fun b => decide (b < W.heap.size)) true fuel e) = some y := fun o y hy => by
            obtain ⟨c, hc, hy⟩ := Option.bind_eq_some_iff.1 hy
            rw [hW.cells hc]
            exact ih fuel e c y hp hy
          have blk : ∀ (o : Addr) (y : DataW H × List MemPlace), (W.cells? 0 o (P.cellsOf e)).bind (DataW.trod enc P W 0 (fun _ => true) true fuel e) = some y → o.block < W.heap.size := fun o y hy => by
            obtain ⟨c, hc, hy⟩ := Option.bind_eq_some_iff.1 hy
            have := (World.cells?_some hc).2.2 0 (by omega)
            simp only [World.cell?] at this
            split at this
            · rename_i hh; exact heap_lt hh
            · have hcs : 0 < c.length := by have := (World.cells?_some hc).2.1; omega
              rw [List.getElem?_eq_getElem hcs] at this
              cases this
          have hE : (List.range len).mapM (fun i => (W'.cells? 0 (a.add (i * P.cellsOf e)) (P.cellsOf e)).bind (DataW.trod enc P W' 0 (fun b => decide (b < W.heap.size)) true fuel e)) = some elems := by
            refine mapM_of (by simp [hlen]) fun i j hj => ?_
            replace hj := range_at hj
            obtain ⟨rfl, hj⟩ := hj
            rw [List.getElem?_eq_getElem (by omega)]
            exact step _ _ ((hel i hj).trans (List.getElem?_eq_getElem (by omega)))
          have hR : (if decide (a.block < W.heap.size) = true then (List.range (cap - len)).mapM (fun j => (W'.cells? 0 (a.add ((len + j) * P.cellsOf e)) (P.cellsOf e)).bind (DataW.trod enc P W' 0 (fun b => decide (b < W.heap.size)) true fuel e)) else some []) = some rest := by
            have hmap : (List.range (cap - len)).mapM (fun j => (W'.cells? 0 (a.add ((len + j) * P.cellsOf e)) (P.cellsOf e)).bind (DataW.trod enc P W' 0 (fun b => decide (b < W.heap.size)) true fuel e)) = some rest := by
              refine mapM_of (by simp [hr1]) fun i j hj => ?_
              replace hj := range_at hj
              obtain ⟨rfl, hj⟩ := hj
              rw [List.getElem?_eq_getElem (by omega)]
              exact step _ _ ((hr2 i hj).trans (List.getElem?_eq_getElem (by omega)))
            split
            · exact hmap
            · rename_i hnb
              cases rest with
              | nil => rfl
              | cons y rest =>
                exfalso
                have hpos : 0 < cap - len := by simp at hr1; omega
                have := blk _ y (hr2 0 hpos)
                refine hnb ?_
                simp only [Addr.add] at this
                split at this <;> simpa using this
          unfold DataW.trod
          rw [ht]
          simp only
          rw [if_pos ⟨hb, hl, hm⟩, hE]
          simp only [Option.bind_some]
          rw [hR]
          rfl
      · rename_i n e ht
        obtain ⟨xs, m, e1, rfl, hl, hlen, hel⟩ := DataW.trod_array ht h
        cases e1
        have hE : (List.range n).mapM (fun i => DataW.trod enc P W' 0 (fun b => decide (b < W.heap.size)) true fuel e ((cs.drop (i * P.cellsOf e)).take (P.cellsOf e))) = some xs := by
          refine mapM_of (by simp [hlen]) fun i j hj => ?_
          replace hj := range_at hj
          obtain ⟨rfl, hj⟩ := hj
          rw [List.getElem?_eq_getElem (by omega)]
          exact ih fuel e _ _ hp ((hel i hj).trans (List.getElem?_eq_getElem (by omega)))
        unfold DataW.trod
        rw [ht]
        rcases cs with _ | ⟨c, _ | ⟨c2, cs⟩⟩ <;> (simp only; rw [if_pos hl, hE]; rfl)
      · rename_i fs ht
        obtain ⟨xs, m, e1, rfl, hl, hlen, hel⟩ := DataW.trod_struct ht h
        cases e1
        have hE : fs.toList.mapM (fun f => DataW.trod enc P W' 0 (fun b => decide (b < W.heap.size)) true fuel f.type ((cs.drop f.offset).take (P.cellsOf f.type))) = some xs := by
          refine mapM_of (by simp [hlen]) fun i f hj => ?_
          have hj' : fs[i]? = some f := by simpa using hj
          have hi : i < xs.length := by have := (List.getElem?_eq_some_iff.1 hj).1; simp at this; omega
          rw [List.getElem?_eq_getElem hi]
          refine ih fuel f.type _ _ ?_ ((hel i f hj').trans (List.getElem?_eq_getElem hi))
          simp only [List.all_eq_true] at hp
          exact hp f (List.mem_of_getElem? hj)
        unfold DataW.trod
        rw [ht]
        rcases cs with _ | ⟨c, _ | ⟨c2, cs⟩⟩ <;> (simp only; rw [if_pos hl, hE]; rfl)
      · cases hp
theorem Left0.trodAll (hW : Left0 W W') : ∀ {ts : List TypeId} {vs : List Value} {ds : List (DataW H)} {ps : List MemPlace}, (∀ t ∈ ts, ∃ d, plainT P d t = true) → DataW.TrodAll enc P W 0 (fun _ => true) true ts vs ds ps →
    DataW.TrodAll enc P W' 0 (fun b => decide (b < W.heap.size)) true ts vs ds ps
  | [], [], [], _, _, h => h
  | t :: ts, v :: vs, d :: ds, ps, hp, ⟨p, q, ⟨fuel, h1⟩, h2, h3⟩ => by
    obtain ⟨dd, hd⟩ := hp t (by simp)
    exact ⟨p, q, ⟨fuel, hW.trod dd fuel t _ _ hd h1⟩, hW.trodAll (fun t ht => hp t (by simp [ht])) h2, h3⟩
  | [], _ :: _, _, _, _, h => h.elim
  | [], [], _ :: _, _, _, h => h.elim
  | _ :: _, [], _, _, _, h => h.elim
  | _ :: _, _ :: _, [], _, _, h => h.elim
/-- A law that returned true and left all as it was. -/
theorem law_post {f : Func} {s : ChangeSpec} {W W' : World} {args : Array Value} {ds : List (DataW H)} {p : List MemPlace} {t : TypeId} (hW : DataW.Whole enc P f.params.toList s.vars false W args.toList ds [] p) (hvars : s.vars = [])
    (hA : DataW.TrodAll enc P W 0 (fun _ => true) true f.params.toList args.toList ds p) (hres : f.resultTypes = #[t]) (ht : P.underlying t = some .bool) (hfn : s.fn H ds = { results := [.lit (.bool true)], args := ds })
    (hp : ∀ t ∈ f.params.toList, ∃ d, plainT P d t = true) (hL : Left0 W W') : s.post enc P f false true false false W args (.bool true) W' := by
  refine ⟨ds, [], p, [], p, [], hW, ?_, ?_, ?_, hL.kept _, fun h => by cases h⟩
  · rw [hres, List.append_nil, hfn]
    refine ⟨[], [], ⟨1, ?_⟩, rfl, rfl⟩
    unfold DataW.trod
    rw [ht]
    rfl
  · rw [List.append_nil, hfn]
    exact hL.trodAll hp hA
  · rw [hvars, List.append_nil, hfn]
    rfl
abbrev LArg (W : World) : Arg → Value → Lo → Option Nat → Prop := ArgOk (fun b => b < W.heap.size) W (lawRho W) (fun _ => none) ⟨fun _ => .any, fun _ => none⟩ true []
theorem lit_wf {k : IntKind} {n : Int} (h : (Lit.int k n).wf = true) : inR k n := by
  simp only [Lit.wf, Bool.and_eq_true, decide_eq_true_eq] at h
  exact h
theorem slice_has {t e : TypeId} (ht : P.underlying t = some (.slice e)) {base : Nat} {a : Addr} {n c : Nat} (hval : Value.okWide P W .any base t (.slice (some a) n c)) : a.spot = none ∧ a.block < W.heap.size := by
  have h : W.has P .any base a e c := by
    simp only [Value.okWide, ht, Cell.okWide, Cell.ok] at hval
    exact hval.2.2
  refine ⟨h.2.1, ?_⟩
  obtain ⟨row, cells, h3, _⟩ := h.2.2
  simp only [World.shape?] at h3
  split at h3
  · rename_i hh; exact heap_lt hh
  · cases h3
theorem slice_is {t e : TypeId} (ht : P.underlying t = some (.slice e)) {base : Nat} {v : Value} (hval : Value.okWide P W .any base t v) : ∃ ad n c, v = .slice ad n c := by
  simp only [Value.okWide, ht, Cell.okWide, Cell.ok] at hval
  cases v <;> simp_all
/-- bytes, as a statement reads them -/
theorem law_bytes {t e : TypeId} (ht : P.underlying t = some (.slice e)) (he : P.underlying e = some (.int .u8)) (hc : P.cellsOf e = 1) (hb : P.bytesOf e = 1) {base : Nat} {v : Value} {d : DataW H} {p : List MemPlace}
    (hval : Value.okWide P W .any base t v) (h : DataW.Trod enc P W 0 (fun _ => true) true t v d p) : ∃ n l lo, LArg W (.b n 1 (.ints .u8 n l)) v lo none ∧ ((d.weights P t).all (· ≤ reachBytes) = true → n ≤ 140737488351232) := by
  obtain ⟨fuel, h⟩ := h
  obtain ⟨ad, n, c, rfl⟩ := slice_is ht hval
  rcases open_ints ht he hc h with ⟨h1, h2⟩ | ⟨a, len, cap, zs, h1, h2, h3, h4, h5, h6, h7, h8⟩
  · simp only [Value.cells, List.cons.injEq, Value.slice.injEq, and_true] at h1
    obtain ⟨rfl, rfl, rfl⟩ := h1
    exact ⟨0, [], .ph, ⟨rfl, ⟨rfl, rfl⟩, none, 0, rfl, Nat.le_refl _, by simp, ⟨rfl, by simp, fun j hj => by omega⟩, .inl ⟨rfl, rfl⟩⟩, fun _ => by omega⟩
  · simp only [Value.cells, List.cons.injEq, Value.slice.injEq, and_true] at h1
    obtain ⟨rfl, rfl, rfl⟩ := h1
    cases h6
    simp only [if_true] at h5
    obtain ⟨ha, hblk⟩ := slice_has ht hval
    obtain ⟨b, off, sp⟩ := a
    simp only at ha hblk
    subst ha
    refine ⟨n, zs.take n, .at b off (c * 1), ⟨rfl, ⟨rfl, rfl⟩, _, c, rfl, h3, h4, ⟨by simp; omega, fun y hy => lit_wf (h8 y (List.mem_of_mem_take hy)), fun j hj => ?_⟩, .inr ⟨b, off, rfl, rfl, hblk, fun q hq => by cases hq⟩⟩, fun hw => ?_⟩
    · have := h7 j (by omega)
      have e1 : (⟨b, off, none⟩ : Addr).add j = ⟨b, off + j, none⟩ := by
        simp only [Addr.add]
        split
        · rename_i e; subst e; rfl
        · rfl
      rw [e1] at this
      show W.cell? ⟨b, off + j, none⟩ = _
      rw [this]
      simp [nthI, List.getD_eq_getElem?_getD, hj]
    · simp only [DataW.weights, ht, List.all_cons, Bool.and_eq_true, hb, reachBytes] at hw
      have := of_decide_eq_true hw.1
      simp only [lits, List.length_map, List.length_take, List.length_drop, Nat.mul_one] at this
      omega
end
end Go.Cx
/- CxFrz -/
namespace Go.Cx
open Go
/-- one part of a result, its new rows told for good -/
def FrzV (news : List V) : V → V → Prop
  | .sl h p i n e _, v => p = [] ∧ i = 0 ∧ ∃ c, news[h]? = some c ∧ isRow e n c ∧ v = .dsl n e c
  | .tcons a b, v => ∃ a' b', v = .tcons a' b' ∧ FrzV news a a' ∧ FrzV news b b'
  | .nsl, v => v = .nsl ∨ ∃ k, v = .dsl 0 1 (.ints k 0 [])
  | v, v' => v.clo = true ∧ v' = v
def Frz (out out' : Out) : Prop := out.news.length ≤ 1000 ∧ out'.objs = out.objs ∧ out'.news = [] ∧ (∀ c ∈ out.news, c.clo = true ∧ c.noown = true) ∧ (∀ c ∈ out.objs, c.clo = true) ∧ FrzV out.news out.v out'.v
theorem outO_mem {b : Nat} {blk : Blk} : ∀ {args : List Arg} {objs : List V} {i : Nat}, (b, blk) ∈ outO i args objs → 100000 ≤ b ∧ blk.k = .own ∧ blk.c ∈ objs := by
  intro args
  induction args with
  | nil => intro objs i h; simp [outO] at h
  | cons a args ih =>
    intro objs i h
    cases a with
    | v _ => exact ih h
    | b _ _ _ => exact ih h
    | o _ _ =>
      cases objs with
      | nil => simp [outO] at h
      | cons c cs =>
        simp only [outO, List.mem_cons, Prod.mk.injEq] at h
        rcases h with ⟨rfl, rfl⟩ | h
        · exact ⟨by simp only [parH]; omega, rfl, by simp⟩
        · obtain ⟨h1, h2, h3⟩ := ih h
          exact ⟨h1, h2, List.mem_cons_of_mem _ h3⟩
theorem outN_at {b : Nat} {blk : Blk} : ∀ {news : List V} {i : Nat}, look (outN i news) b = some blk → i ≤ b ∧ ∃ c, news[b - i]? = some c ∧ blk = ⟨.own, c⟩ := by
  intro news
  induction news with
  | nil => intro i h; simp [outN, look] at h
  | cons c news ih =>
    intro i h
    simp only [outN, look] at h
    split at h
    · rename_i e
      subst e
      simp only [Option.some.injEq] at h
      exact ⟨Nat.le_refl _, c, by simp, h.symm⟩
    · obtain ⟨h1, c', h2, h3⟩ := ih h
      refine ⟨by omega, c', ?_, h3⟩
      rw [show b - i = (b - (i + 1)) + 1 by omega]
      simpa using h2
theorem outN_of {news : List V} {j : Nat} {c : V} (h : news[j]? = some c) : ∀ {i : Nat}, look (outN i news) (i + j) = some ⟨.own, c⟩ := by
  induction news generalizing j with
  | nil => simp at h
  | cons c0 news ih =>
    intro i
    simp only [outN, look]
    cases j with
    | zero =>
      simp at h
      subst h
      simp
    | succ j =>
      rw [if_neg (by omega)]
      have := ih (by simpa using h) (i := i + 1)
      rw [← this]; congr 1; omega
theorem look_app {α : Type} : ∀ {l m : List (Nat × α)} {k : Nat}, look (l ++ m) k = match look l k with | some a => some a | none => look m k := by
  intro l
  induction l with
  | nil => intro m k; rfl
  | cons p l ih =>
    intro m k
    obtain ⟨i, a⟩ := p
    simp only [List.cons_append, look]
    split
    · rfl
    · exact ih
theorem Sound.freezeOk {P : Program} {G : List (Nat × V)} {f : FuncId} {pure : Bool} {c c' : Ctr} (h : Sound P G f pure c) (hc : ∀ args out', okAs args → (c' args).to out' → ∃ out, (c args).to out ∧ Frz out out') : Sound P G f pure c' := by
  refine ⟨h.1, fun args out' vals w F I ρ ow h1 h2 h3 h4 h5 hR hV => ?_⟩
  have hokas : okAs args := okAs_of (i0 := 0) (all := args) (fun i a h => by rwa [Nat.zero_add]) h3 hR (fun i a hi => ⟨_, hV i a hi⟩) h4
  obtain ⟨out, g1, g0, g2, g3, g4, g5, g6⟩ := hc args out' hokas h1
  refine Calls.mono (h.2 args out vals w F I ρ ow g1 h2 h3 h4 h5 hR hV) ?_
  rintro en w' ⟨x, I', ρ', ow', rfl, hx, hR'⟩
  have hr0 : ∀ k l, ρ k = some l → 100000 ≤ k := fun k l hk => by
    rcases Nat.lt_or_ge k 100000 with h | h
    · exfalso
      apply hR.dom k l hk h
      show parHs G pure args k = none
      simp only [parHs]
      rw [if_neg (by omega), if_neg (by omega)]
    · exact h
  have hO : ∀ k blk, look (outO 0 args out.objs) k = some blk → 100000 ≤ k ∧ blk.k = .own ∧ blk.c ∈ out.objs := fun k blk hk => outO_mem (look_mem hk)
  have hlow : ∀ k, k < 100000 → outHs args out k = look (outN 0 out.news) k := fun k hk => by
    simp only [outHs, look_app]
    cases hq : look (outO 0 args out.objs) k with
    | none => rfl
    | some blk => have := (hO k blk hq).1; omega
  have hhigh : ∀ k, 100000 ≤ k → outHs args out k = look (outO 0 args out.objs) k := fun k hk => by
    simp only [outHs, look_app]
    cases hq : look (outO 0 args out.objs) k with
    | none =>
      cases hq2 : look (outN 0 out.news) k with
      | none => rfl
      | some blk =>
        obtain ⟨_, c, e, _⟩ := outN_at hq2
        have := (List.getElem?_eq_some_iff.1 e).1
        omega
    | some blk => rfl
  have hhs' : outHs args out' = look (outO 0 args out.objs) := by
    funext k
    simp only [outHs, g2, g3, outN, List.append_nil]
  let own' : Own := fun b => match ow' b with
    | some (k :: r) => if 100000 ≤ k then some (k :: r) else none
    | _ => none
  let I2 : Nat → Prop := fun b => I' b ∨ ∃ k, k < 100000 ∧ ow' b = some [k]
  let ρ2 : Rho := fun k => if k < 100000 then none else ρ' k
  have hII : ∀ b, I' b → I2 b ∧ w'.heap[b]? = w'.heap[b]? := fun b hb => ⟨.inl hb, rfl⟩
  have keepO : ∀ b k r, ow' b = some (k :: r) → 100000 ≤ k → own' b = some (k :: r) := fun b k r h1 h2 => by
    simp only [own', h1, h2, if_true]
  have hcell : ∀ k c, out.news[k]? = some c → ∀ {e n : Nat} {cap : Option Nat} {v : Value}, isRow e n c → CRep I' w' (fun _ => none) (.sl k [] 0 n e cap) ρ' [] 0 (fun _ => some v) →
      CRep I2 w' (fun _ => none) (.dsl n e c) ρ2 [] 0 (fun _ => some v) := by
    intro k c hk e n cap v hrow hv
    have hkl : k < 100000 := by have := (List.getElem?_eq_some_iff.1 hk).1; omega
    obtain ⟨k1, k2⟩ := g4 c (List.mem_of_getElem? hk)
    have hN : look (outN 0 out.news) k = some ⟨.own, c⟩ := by have := outN_of hk (i := 0); rwa [Nat.zero_add] at this
    have hkk : outHs args out k = some ⟨.own, c⟩ := by rw [hlow k hkl, hN]
    obtain ⟨a, cp, l, j1, j2, j3, j4, _, j5⟩ := hv
    obtain ⟨l', m1, m2⟩ := hR'.heap k _ hkk
    rw [j2] at m1
    cases m1
    have turn : ∀ {q : List Nat} {g : Nat → Option Value}, CRep I' w' ow' c ρ' q 0 g → (∀ j, j < c.size → behind w' a j = g j) → CRep I2 w' (fun _ => none) c noR [] 0 (behind w' a) := fun {q g} m hg => by
      have m4 := CRep.noq _ _ _ [] _ 0 _ k2 m
      exact CRep.noow (ow := ow') (CRep.closed _ _ noR _ _ _ k1 (CRep.mono (g' := behind w' a) hII _ _ _ _ _ _ (Rho.le_refl _) (fun h => absurd rfl h) hg m4))
    refine ⟨a, cp, j1, j3, j4, hrow, ?_, ?_⟩
    · rcases j5 with rfl | ⟨b, off, sz, rfl, rfl, j6⟩
      · obtain rfl : n = 0 := by omega
        have hz : c.size = 0 := isRow_zero hrow
        rcases m2 with ⟨_, _, m3⟩ | ⟨_, _, _, _, _, _, _, _, m3⟩
        · exact turn m3 (fun j hj => by omega)
        · exact turn m3 (fun j hj => by omega)
      · rcases m2 with ⟨m3, _⟩ | ⟨b', off', sz', cur, m3, m4, m5, m6, m7⟩
        · cases m3
        · cases m3
          refine turn m7 (fun j hj => ?_)
          obtain ⟨ty, fr, m9, _⟩ := m5
          simp only [behind, poff, Nat.zero_mul, Nat.add_zero, World.cell?, m9]
          rfl
    · rcases j5 with rfl | ⟨b, off, sz, rfl, rfl, j6⟩
      · exact .inl rfl
      · rcases m2 with ⟨m3, _⟩ | ⟨b', off', sz', cur, m3, m4, m5, m6, m7⟩
        · cases m3
        · cases m3
          exact .inr ⟨b, _, rfl, .inr ⟨k, hkl, m4⟩⟩
  have one : ∀ {v v' : V} {y : Value}, FrzV out.news v v' → v.isTup = false → VRep0 I' w' ρ' v y → VRep0 I2 w' ρ2 v' y := by
    intro v v' y hf ht hy
    have plain : v.clo = true ∧ v' = v → VRep0 I2 w' ρ2 v' y := by
      rintro ⟨k1, rfl⟩
      rcases hy with rfl | ⟨e1, e2, e3⟩
      · exact .inl rfl
      · exact .inr ⟨e1, e2, CRep.closed _ _ _ _ _ _ k1 (CRep.mono hII _ _ _ _ _ _ _ (Rho.le_refl _) (fun h => absurd rfl h) (fun _ _ => rfl) e3)⟩
    cases v <;> first | exact plain hf | (cases ht; done) | skip
    case nsl =>
      rcases hf with rfl | ⟨k, rfl⟩
      · exact plain ⟨rfl, rfl⟩
      · obtain ⟨e1, e2, e3⟩ := hy.leaf (by simp) rfl
        exact VRep0.ofLeaf rfl rfl e1 ⟨none, 0, e3, Nat.le_refl _, by simp, ⟨rfl, rfl⟩, ⟨rfl, by simp, fun j hj => by omega⟩, .inl rfl⟩
    rename_i k p i n e cap
    obtain ⟨rfl, rfl, c, hk, hrow, rfl⟩ := hf
    obtain ⟨e1, e2, e3⟩ := hy.leaf (by simp) rfl
    have e4 : CRep I' w' (fun _ => none) (.sl k [] 0 n e cap) ρ' [] 0 (fun _ => some y) := CRep.mono (fun b hb => ⟨hb, rfl⟩) _ _ _ _ _ _ _ (Rho.le_refl _) (fun h => absurd rfl h) (fun j hj => by simp only [V.size] at hj; obtain rfl : j = 0 := (by omega); rfl) e3
    exact VRep0.ofLeaf rfl rfl e1 (hcell k c hk hrow e4)
  have tup : ∀ {v v' : V} {l : List Value}, FrzV out.news v v' → TRep I' w' ρ' v l → TRep I2 w' ρ2 v' l := by
    intro v
    induction v with
    | tnil => rintro v' l ⟨_, rfl⟩ hl; exact hl
    | tcons a b _ ihb =>
      rintro v' l ⟨a', b', rfl, f1, f2⟩ ⟨y, r, rfl, hy, hr⟩
      refine ⟨y, r, rfl, ?_, ihb f2 hr⟩
      by_cases ht : a.isTup = false
      · exact one f1 ht hy
      · exfalso
        rcases hy with rfl | ⟨_, _, hy⟩
        · exact ht rfl
        · cases a <;> first | exact ht rfl | exact hy.elim
    | _ => intro v' l _ hl; exact hl.elim
  have hval : VRep I2 w' ρ2 out'.v x := by
    generalize out.v = v, out'.v = v' at hx g6
    cases v with
    | tnil => obtain ⟨_, rfl⟩ := g6; exact hx
    | tcons a b =>
      obtain ⟨l, rfl, hl⟩ := hx
      have := tup g6 hl
      obtain ⟨a', b', rfl, _⟩ := g6
      exact ⟨l, rfl, this⟩
    | _ => exact (one g6 rfl hx).up
  refine ⟨x, I2, ρ2, own', rfl, hval, ?_⟩
  exact
    { frame := hR'.frame
      size := hR'.size
      os := hR'.os
      tape := hR'.tape
      output := hR'.output
      iold := fun b hb => .inl (hR'.iold b hb)
      inew := fun b hb => by
        rcases hb with hb | ⟨k, hk, hb⟩
        · exact hR'.inew b hb
        · exact .inr (hR'.owf b _ hb).2.1
      ilt := fun b hb => by
        rcases hb with hb | ⟨k, hk, hb⟩
        · exact hR'.ilt b hb
        · exact (hR'.owf b _ hb).1
      iow := fun b hb => by
        rcases hb with hb | ⟨k, hk, hb⟩
        · simp only [own', hR'.iow b hb]
        · simp only [own', hb]
          rw [if_neg (by omega)]
      owf := fun b q hb => by
        simp only [own'] at hb
        split at hb
        · rename_i k r hk
          split at hb
          · rename_i hge
            cases hb
            obtain ⟨m1, m2, hh, r', c0, m3, m4⟩ := hR'.owf b _ hk
            injection m3 with e1 e2
            subst e1
            refine ⟨m1, m2, k, r, c0, rfl, ?_⟩
            show outHs args out' k = _
            rw [hhs', ← hhigh k hge]
            exact m4
          · cases hb
        · cases hb
      dom := fun k l hk hlt => by
        simp only [ρ2, if_pos hlt] at hk
        cases hk
      glob := fun n => by
        obtain ⟨sz, hg⟩ := hR'.glob n
        refine ⟨sz, ?_⟩
        simp only [ρ2]
        rw [if_neg (by simp only [globH]; omega)]
        exact hg
      tsz := hR'.tsz
      nle := hR'.nle
      rle := fun k l hk => by
        have := hr0 k l hk
        simp only [ρ2]
        rw [if_neg (by omega)]
        exact hR'.rle k l hk
      tmps := fun i => VRep.any _ _ _ _
      heap := fun k blk hk => by
        have hk : outHs args out' k = some blk := hk
        rw [hhs'] at hk
        obtain ⟨hge, hown, hmem⟩ := hO k blk hk
        obtain ⟨l, m1, m2⟩ := hR'.heap k blk (by show outHs args out k = _; rw [hhigh k hge, hk])
        refine ⟨l, by simp only [ρ2]; rw [if_neg (by omega)]; exact m1, ?_⟩
        obtain ⟨bk, bc⟩ := blk
        simp only at hown hmem
        subst hown
        have hclo := g5 _ hmem
        rcases m2 with ⟨rfl, m3, m4⟩ | ⟨b, off, sz, cur, rfl, m3, m4, m5, m6⟩
        · exact .inl ⟨rfl, m3, CRep.reown (ow := ow') _ _ _ _ _ _ _ hclo (fun h => absurd rfl h) (CRep.mono hII _ _ _ _ _ _ _ (Rho.le_refl _) (fun h => absurd rfl h) (fun _ _ => rfl) m4)⟩
        · refine .inr ⟨b, off, sz, cur, rfl, keepO _ _ _ m3 hge, m4, m5, CRep.reown (ow := ow') _ _ _ _ [k] _ _ hclo (fun _ => ⟨by simp, fun b r hr hb => keepO _ _ _ hb hge⟩) (CRep.mono hII _ _ _ _ _ _ _ (Rho.le_refl _) (fun _ b r _ hb => ⟨hb, rfl⟩) (fun _ _ => rfl) m6)⟩ }
theorem Sound.freeze {P : Program} {G : List (Nat × V)} {f : FuncId} {pure : Bool} {c c' : Ctr} (h : Sound P G f pure c) (hc : ∀ args out', (c' args).to out' → ∃ out, (c args).to out ∧ Frz out out') : Sound P G f pure c' :=
  h.freezeOk fun args out' _ => hc args out'
/-- a contract that says less -/
theorem Sound.sub {P : Program} {G : List (Nat × V)} {f : FuncId} {pure : Bool} {c c' : Ctr} (h : Sound P G f pure c) (hc : ∀ args out, (c' args).to out → (c args).to out) : Sound P G f pure c' :=
  ⟨h.1, fun args out vals w F I ρ ow h1 => h.2 args out vals w F I ρ ow (hc args out h1)⟩
end Go.Cx
/- CxLit -/
namespace Go.Cx
open Go
def litA : Arg → Arg
  | .v v => .v (nV v)
  | .o c w => .o (nV c) w
  | a => a
theorem nV_val {I : Nat → Prop} {w : World} {ρ : Rho} {v : V} {x : Value} (h : VRep I w ρ v x) : VRep I w ρ (nV v) x := by
  have go : VRep0 I w ρ v x → VRep0 I w ρ (nV v) x := fun h => by
    rcases h with rfl | ⟨h1, h2, h3⟩
    · exact .inl rfl
    · exact .inr ⟨h1.trans (nV_size v).symm, h2.trans (nV_agg v).symm, nV_rep v h3⟩
  cases v <;> first | exact h | exact go h
theorem outO_lit : ∀ (args : List Arg) (i : Nat) (cs : List V), outO i (args.map litA) cs = outO i args cs
  | [], i, cs => rfl
  | .b _ _ _ :: r, i, cs => by
    show outO (i + 1) (r.map litA) cs = outO (i + 1) r cs
    exact outO_lit r _ _
  | .o _ _ :: r, i, [] => rfl
  | .o _ _ :: r, i, c :: cs => by
    show (parH i, _) :: outO (i + 1) (r.map litA) cs = (parH i, _) :: outO (i + 1) r cs
    rw [outO_lit r _ _]
  | .v v :: r, i, cs => outO_lit r (i + 1) cs
theorem Sound.lits {P : Program} {G : List (Nat × V)} {f : FuncId} {pure : Bool} {c : Ctr} (h : Sound P G f pure c) : Sound P G f pure (fun args => c (args.map litA)) := by
  refine ⟨h.1, fun args out vals w F I ρ ow h1 h2 h3 h4 h5 hR hV => ?_⟩
  have hget : ∀ (i : Nat), (args.map litA)[i]? = (args[i]?).map litA := fun i => by simp
  have hpar : ∀ k blk, parHs G pure (args.map litA) k = some blk → ∃ c, parHs G pure args k = some ⟨blk.k, c⟩ ∧ (blk.c = c ∨ blk.c = nV c) := fun k blk hk => by
    simp only [parHs] at hk ⊢
    split at hk
    · rename_i e
      rw [if_pos e]
      exact ⟨blk.c, hk, .inl rfl⟩
    · rename_i e
      rw [if_neg e]
      split at hk
      · rename_i e2
        rw [if_pos e2]
        rw [hget] at hk
        cases ha : args[k - 100000]? with
        | none => rw [ha] at hk; cases hk
        | some a =>
          rw [ha] at hk
          rcases a with v | ⟨n, e, c⟩ | ⟨c, w⟩
          · cases hk
          · exact ⟨blk.c, hk, .inl rfl⟩
          · cases hk; exact ⟨c, rfl, .inr rfl⟩
      · cases hk
  have hpar2 : ∀ k blk, parHs G pure args k = some blk → ∃ c, parHs G pure (args.map litA) k = some ⟨blk.k, c⟩ := fun k blk hk => by
    simp only [parHs] at hk ⊢
    split at hk
    · rename_i e
      rw [if_pos e]
      exact ⟨blk.c, hk⟩
    · rename_i e
      rw [if_neg e]
      split at hk
      · rename_i e2
        rw [if_pos e2]
        rw [hget]
        cases ha : args[k - 100000]? with
        | none => rw [ha] at hk; cases hk
        | some a =>
          rw [ha] at hk
          rcases a with v | ⟨n, e, c⟩ | ⟨c, w⟩
          · cases hk
          · exact ⟨blk.c, hk⟩
          · cases hk; exact ⟨nV c, rfl⟩
      · cases hk
  have hout : outHs (args.map litA) out = outHs args out := by
    simp only [outHs, outO_lit]
  have hR2 : Rep ⟨F, I, w, 0, ρ⟩ I ρ ow ⟨fun _ => .any, parHs G pure (args.map litA)⟩ #[] w :=
    { hR with
      owf := fun b q hb => by
        obtain ⟨g1, g2, x, r, v, g3, g4⟩ := hR.owf b q hb
        obtain ⟨c, g5⟩ := hpar2 x _ g4
        exact ⟨g1, g2, x, r, c, g3, g5⟩
      dom := fun k l hk hlt => by
        intro e
        apply hR.dom k l hk hlt
        show parHs G pure args k = none
        cases hq : parHs G pure args k with
        | none => rfl
        | some blk =>
          obtain ⟨c, hc⟩ := hpar2 k blk hq
          have e : parHs G pure (args.map litA) k = none := e
          rw [e] at hc; cases hc
      heap := fun k blk hk => by
        obtain ⟨c, h6, h7⟩ := hpar k blk hk
        obtain ⟨l, h8, h9⟩ := hR.heap k _ h6
        refine ⟨l, h8, ?_⟩
        obtain ⟨bk, bc⟩ := blk
        simp only at h7 h9 ⊢
        rcases h7 with rfl | rfl
        · exact h9
        · cases bk with
          | own =>
            rcases h9 with ⟨e1, e2, e3⟩ | ⟨b, off, sz, cur, e1, e2, e3, e4, e5⟩
            · exact .inl ⟨e1, (nV_size c).trans e2, nV_rep c e3⟩
            · exact .inr ⟨b, off, sz, cur, e1, e2, e3, e4, nV_rep c e5⟩
          | bor =>
            rcases h9 with ⟨e1, e2, e3⟩ | ⟨b, off, sz, e1, e2, e3, e4, e5⟩
            · exact .inl ⟨e1, (nV_size c).trans e2, nV_rep c e3⟩
            · exact .inr ⟨b, off, sz, e1, e2, e3, (show (nV c).size ≤ sz from (nV_size c).symm ▸ e4), nV_rep c e5⟩
          | imm =>
            rcases h9 with ⟨e1, e2, e3⟩ | ⟨b, off, sz, e1, e2, e3, e4⟩
            · exact .inl ⟨e1, (nV_size c).trans e2, nV_rep c e3⟩
            · exact .inr ⟨b, off, sz, e1, e2, (show (nV c).size ≤ sz from (nV_size c).symm ▸ e3), nV_rep c e4⟩
          | dead => trivial }
  have := h.2 (args.map litA) out vals w F I ρ ow h1 (by simpa using h2) (by simpa using h3) (fun i n e c hi => by
    rw [hget] at hi
    cases ha : args[i]? with
    | none => rw [ha] at hi; cases hi
    | some a =>
      rw [ha] at hi
      rcases a with v | ⟨n', e', c'⟩ | ⟨c', w'⟩
      · cases hi
      · cases hi; exact h4 i _ _ _ ha
      · cases hi) h5 hR2 (fun i a hi => by
    rw [hget] at hi
    cases ha : args[i]? with
    | none => rw [ha] at hi; cases hi
    | some b =>
      rw [ha] at hi
      have hb := hV i b ha
      cases hi
      rcases b with v | _ | ⟨c, _ | ⟨j, n, e, cap⟩⟩
      · exact nV_val hb
      · exact hb
      · exact hb
      · exact hb)
  rw [hout] at this
  exact this
end Go.Cx
/- CxL2 -/
namespace Go.Cx
open Go
theorem tf_no (h : true = false) : False := by cases h
theorem cast_fix (n : Nat) : (NatCast.natCast n : Int) = (n : Int) := rfl
theorem lt_t {x y : Int} : (ltI x y = true) ↔ x < y := by simp [ltI]
theorem lt_f {x y : Int} : (ltI x y = false) ↔ y ≤ x := by simp [ltI]
theorem le_t {x y : Int} : (leI x y = true) ↔ x ≤ y := by simp [leI]
theorem le_f {x y : Int} : (leI x y = false) ↔ y < x := by simp [leI]
theorem gt_t {x y : Int} : (gtI x y = true) ↔ y < x := by simp [gtI]
theorem gt_f {x y : Int} : (gtI x y = false) ↔ x ≤ y := by simp [gtI]
theorem ge_t {x y : Int} : (geI x y = true) ↔ y ≤ x := by simp [geI]
theorem ge_f {x y : Int} : (geI x y = false) ↔ x < y := by simp [geI]
theorem eq_t {x y : Int} : (eqI x y = true) ↔ x = y := by simp [eqI]
theorem eq_f {x y : Int} : (eqI x y = false) ↔ x ≠ y := by simp [eqI]
theorem ne_t {x y : Int} : (neI x y = true) ↔ x ≠ y := by simp [neI]
theorem ne_f {x y : Int} : (neI x y = false) ↔ x = y := by simp [neI]
theorem eqL_t {x y : List Int} : (eqL x y = true) ↔ x = y := by simp [eqL]
theorem eqL_f {x y : List Int} : (eqL x y = false) ↔ x ≠ y := by simp [eqL]
theorem notB_t {x : Bool} : (notB x = true) ↔ x = false := by simp [notB]
theorem notB_f {x : Bool} : (notB x = false) ↔ x = true := by simp [notB]
end Go.Cx
/- CxbSpec -/
namespace Go.Cx.Rb
open Go Go.Cx
def kk : List Int := [1116352408, 1899447441, 3049323471, 3921009573, 961987163, 1508970993, 2453635748, 2870763221, 3624381080, 310598401, 607225278, 1426881987, 1925078388, 2162078206, 2614888103, 3248222580, 3835390401, 4022224774, 264347078, 604807628, 770255983, 1249150122, 1555081692, 1996064986, 2554220882, 2821834349, 2952996808, 3210313671, 3336571891, 3584528711, 113926993, 338241895, 666307205, 773529912, 1294757372, 1396182291, 1695183700, 1986661051, 2177026350, 2456956037, 2730485921, 2820302411, 3259730800, 3345764771, 3516065817, 3600352804, 4094571909, 275423344, 430227734, 506948616, 659060556, 883997877, 958139571, 1322822218, 1537002063, 1747873779, 1955562222, 2024104815, 2227730452, 2361852424, 2428436474, 2756734187, 3204031479, 3329325298]
def iv : List Int := [1779033703, 3144134277, 1013904242, 2773480762, 1359893119, 2600822924, 528734635, 1541459225]
/-- a word turned right -/
def rr (x n : Int) : Int := bor .u32 (bshr .u32 x n) (bshl .u32 x (wsub .u64 32 n))
/-- the word that stands at a place -/
def wordS (b : List Int) (i : Nat) : Int :=
  bor .u32 (bor .u32 (bor .u32 (bshl .u32 (wcv .u32 (nthI b i)) 24) (bshl .u32 (wcv .u32 (nthI b (i + 1))) 16)) (bshl .u32 (wcv .u32 (nthI b (i + 2))) 8)) (wcv .u32 (nthI b (i + 3)))
def s0 (x : Int) : Int := bxor .u32 (bxor .u32 (rr x 7) (rr x 18)) (bshr .u32 x 3)
def s1 (x : Int) : Int := bxor .u32 (bxor .u32 (rr x 17) (rr x 19)) (bshr .u32 x 10)
def mix (w : List Int) (k : Nat) : Int := wadd .u32 (wadd .u32 (wadd .u32 (nthI w (k - 16)) (s0 (nthI w (k - 15)))) (nthI w (k - 7))) (s1 (nthI w (k - 2)))
/-- the first words of a piece -/
def schedL (b : List Int) : Nat → List Int
  | 0 => []
  | k + 1 => schedL b k ++ [if k < 16 then wordS b (4 * k) else mix (schedL b k) k]
def t1 (v : List Int) (k w : Int) : Int :=
  wadd .u32 (wadd .u32 (wadd .u32 (wadd .u32 (nthI v 7) (bxor .u32 (bxor .u32 (rr (nthI v 4) 6) (rr (nthI v 4) 11)) (rr (nthI v 4) 25)))
    (bxor .u32 (band .u32 (nthI v 4) (nthI v 5)) (band .u32 (bcpl .u32 (nthI v 4)) (nthI v 6)))) k) w
def t2 (v : List Int) : Int :=
  wadd .u32 (bxor .u32 (bxor .u32 (rr (nthI v 0) 2) (rr (nthI v 0) 13)) (rr (nthI v 0) 22))
    (bxor .u32 (bxor .u32 (band .u32 (nthI v 0) (nthI v 1)) (band .u32 (nthI v 0) (nthI v 2))) (band .u32 (nthI v 1) (nthI v 2)))
def rnd (v : List Int) (k w : Int) : List Int :=
  [wadd .u32 (t1 v k w) (t2 v), nthI v 0, nthI v 1, nthI v 2, wadd .u32 (nthI v 3) (t1 v k w), nthI v 4, nthI v 5, nthI v 6]
def rndL (h w : List Int) : Nat → List Int
  | 0 => h
  | i + 1 => rnd (rndL h w i) (nthI kk i) (nthI w i)
def addL (h v : List Int) : List Int := (List.range 8).map fun i => wadd .u32 (nthI h i) (nthI v i)
/-- a piece of 64 bytes gone through -/
def piece (h b : List Int) : List Int := addL h (rndL h (schedL b 64) 64)
/-- k pieces -/
def blk (h b : List Int) : Nat → List Int
  | 0 => h
  | k + 1 => piece (blk h b k) (b.drop (64 * k))
def outB (h : List Int) (i : Nat) : Int := wcv .u8 (bshr .u32 (nthI h (i / 4)) (24 - 8 * (i % 4 : Nat)))
/-- the digest's bytes -/
def outL (h : List Int) : List Int := (List.range 32).map (outB h)
def lenB (n : Nat) (i : Nat) : Int := wcv .u8 (bshr .u64 (wmul .u64 n 8) (56 - 8 * (i : Int)))
/-- what stands behind n bytes -/
def padL (n : Nat) : List Int := 128 :: List.replicate ((119 - n % 64) % 64) 0 ++ (List.range 8).map (lenB n)
def digest (b : List Int) : List Int := outL (blk iv (b ++ padL b.length) ((b ++ padL b.length).length / 64))
end Go.Cx.Rb
/- CxbSpec2 -/
namespace Go.Cx.Rb
open Go Go.Cx
theorem wordS_congr {x y : List Int} {i : Nat} (h : ∀ j, j < 64 → nthI x j = nthI y j) (hi : i + 3 < 64) : wordS x i = wordS y i := by
  simp only [wordS, h i (by omega), h (i + 1) (by omega), h (i + 2) (by omega), h (i + 3) (by omega)]
theorem schedL_congr {x y : List Int} (h : ∀ j, j < 64 → nthI x j = nthI y j) : ∀ k, schedL x k = schedL y k
  | 0 => rfl
  | k + 1 => by
    simp only [schedL, schedL_congr h k]
    by_cases hk : k < 16
    · rw [if_pos hk, if_pos hk, wordS_congr h (by omega)]
    · rw [if_neg hk, if_neg hk]
theorem piece_congr {h x y : List Int} (hx : ∀ j, j < 64 → nthI x j = nthI y j) : piece h x = piece h y := by
  simp only [piece, schedL_congr hx]
/-- the words behind more bytes, and what is left of them -/
def addW (h l b : List Int) : List Int := blk h (l ++ b) ((l.length + b.length) / 64)
def addR (l b : List Int) : List Int := (l ++ b).drop (64 * ((l.length + b.length) / 64))
def addM (n m : Nat) : Nat := (n + m) % 64
def addS (s : Int) (m : Nat) : Int := wadd .u64 s (wcv .u64 (m : Int))
/-- the words behind k pieces of these -/
def runW (h l b : List Int) (k : Nat) : List Int := blk h (l ++ b) k
theorem runW_next {h l b : List Int} {k n : Nat} (h1 : l.length ≤ 64 * k) (h2 : 64 ≤ n) : piece (runW h l b k) (subL b (64 * k - l.length) n) = runW h l b (k + 1) := by
  simp only [runW, blk]
  refine piece_congr fun j hj => ?_
  rw [nthI_subL (by omega), nthI_drop, nthI_cat, if_neg (by omega)]
  congr 1
  omega
theorem runW_first {h l b : List Int} {n t : Nat} (h1 : l.length + t = 64) : piece h (subL (catL (subL l 0 l.length) (subL b 0 t)) 0 n) = runW h l b 1 ∨ n < 64 := by
  by_cases hn : n < 64
  · exact .inr hn
  · refine .inl ?_
    simp only [runW, blk]
    refine piece_congr fun j hj => ?_
    rw [nthI_subL (by omega), nthI_drop, catL, subL_all (Nat.le_refl _), nthI_cat, nthI_cat]
    simp only [Nat.zero_add, Nat.mul_zero]
    split
    · rfl
    · rw [nthI_subL (by omega), Nat.zero_add]
theorem addR_few {l b : List Int} (h : l.length + b.length < 64) : addR l b = l ++ b := by
  rw [addR, Nat.div_eq_of_lt h]; rfl
theorem addW_few {h l b : List Int} (h1 : l.length + b.length < 64) : addW h l b = h := by
  rw [addW, Nat.div_eq_of_lt h1]; rfl
theorem addR_end {l b : List Int} {k : Nat} (h1 : l.length ≤ 64 * k) (h2 : 64 * k ≤ l.length + b.length) (h3 : l.length + b.length < 64 * k + 64) : addR l b = subL b (64 * k - l.length) (b.length - (64 * k - l.length)) := by
  have e : (l.length + b.length) / 64 = k := by omega
  rw [addR, e, subL, List.drop_append, List.drop_of_length_le (by omega), List.nil_append, List.take_of_length_le (by simp)]
theorem addW_end {h l b : List Int} {k : Nat} (h2 : 64 * k ≤ l.length + b.length) (h3 : l.length + b.length < 64 * k + 64) : runW h l b k = addW h l b := by
  have e : (l.length + b.length) / 64 = k := by omega
  rw [addW, e, runW]
end Go.Cx.Rb
namespace Go.Cx.Rb
open Go Go.Cx
/-- a byte of the length -/
def lenS (s : Int) (i : Nat) : Int := wcv .u8 (bshr .u64 (wmul .u64 s 8) (56 - 8 * (i : Int)))
def pN (n z : Nat) : Nat := n + (1 + z)
def pL (l : List Int) (z : Nat) : List Int := l ++ 128 :: List.replicate z 0
def qN (n i : Nat) : Nat := n + (1 + (119 - n) % 64) + i
def qL (l : List Int) (s : Int) (i : Nat) : List Int := pL l ((119 - l.length) % 64) ++ (List.range i).map (lenS s)
def endW (h l : List Int) (s : Int) (k : Nat) : List Int := blk h (qL l s 8) k
def digW (h l : List Int) (s : Int) : List Int := outL (blk h (qL l s 8) ((qL l s 8).length / 64))
def outF (h : List Int) (i : Nat) : List Int := (List.range i).map (outB h) ++ List.replicate (32 - i) 0
theorem outF_set {h : List Int} {i : Nat} (hi : i < 32) : setI (outF h i) i (outB h i) = outF h (i + 1) := fillL_set hi rfl
theorem pL_len (l : List Int) (z : Nat) : (pL l z).length = pN l.length z := by simp [pL, pN]; omega
theorem qL_len (l : List Int) (s : Int) (i : Nat) : (qL l s i).length = qN l.length i := by simp [qL, qN, pL_len, pN]
theorem pL_next (l : List Int) (z : Nat) : pL l z ++ [0] = pL l (z + 1) := by simp [pL, List.replicate_succ']
theorem qL_next (l : List Int) (s : Int) (i : Nat) : qL l s i ++ [lenS s i] = qL l s (i + 1) := by simp [qL, List.range_succ]
theorem endW_next {h l : List Int} {s : Int} {k n : Nat} (h2 : 64 ≤ n) : piece (endW h l s k) (subL (qL l s 8) (64 * k) n) = endW h l s (k + 1) := by
  simp only [endW, blk]
  refine piece_congr fun j hj => ?_
  rw [nthI_subL (by omega), nthI_drop]
end Go.Cx.Rb
/- CxbSpec3 -/
namespace Go.Cx.Rb
open Go Go.Cx
theorem blk_congr {h x y : List Int} : ∀ {k : Nat}, (∀ j, j < 64 * k → nthI x j = nthI y j) → blk h x k = blk h y k
  | 0, _ => rfl
  | k + 1, hx => by
    simp only [blk]
    rw [blk_congr (fun j hj => hx j (by omega))]
    exact piece_congr fun j hj => by rw [nthI_drop, nthI_drop]; exact hx _ (by omega)
theorem blk_more {h x : List Int} {K : Nat} : ∀ {k : Nat}, blk h x (K + k) = blk (blk h x K) (x.drop (64 * K)) k
  | 0 => rfl
  | k + 1 => by
    rw [← Nat.add_assoc]
    simp only [blk]
    rw [blk_more, List.drop_drop, show 64 * K + 64 * k = 64 * (K + k) by omega]
theorem wcv_u64_nat {n : Nat} (h : n ≤ 9223372036854775807) : wcv .u64 (n : Int) = (n : Int) := wcv_u64 (by omega)
theorem addS_zero {n : Nat} (h : n ≤ 9223372036854775807) : addS 0 n = (n : Int) := by
  rw [addS, wcv_u64_nat h, wadd_u64 (by omega), Int.zero_add]
theorem padL_len (n : Nat) : (padL n).length = 1 + (119 - n % 64) % 64 + 8 := by simp [padL]; omega
theorem digW_digest {b : List Int} (hb : b.length ≤ 9223372036854775807) : digW (addW iv [] b) (addR [] b) (addS 0 b.length) = digest b := by
  have hR : addR [] b = b.drop (64 * (b.length / 64)) := by simp [addR]
  have hRl : (addR [] b).length = b.length % 64 := by rw [hR, List.length_drop]; omega
  have hq : qL (addR [] b) (addS 0 b.length) 8 = (b ++ padL b.length).drop (64 * (b.length / 64)) := by
    rw [List.drop_append, show 64 * (b.length / 64) - b.length = 0 by omega, List.drop_zero, qL, pL, hRl, hR, padL, addS_zero hb]
    simp only [List.append_assoc, List.cons_append]
    rfl
  have hd : (b ++ padL b.length).length / 64 = b.length / 64 + ((b ++ padL b.length).drop (64 * (b.length / 64))).length / 64 := by
    rw [List.length_drop, List.length_append, padL_len]; omega
  rw [digW, digest, hd, blk_more, hq]
  congr 2
  rw [addW]
  simp only [List.nil_append, List.length_nil, Nat.zero_add]
  exact blk_congr fun j hj => by rw [nthI_cat, if_pos (by omega)]
end Go.Cx.Rb
namespace Go.Cx.Rb
open Go Go.Cx
def padZ (n : Nat) : Nat := (119 - n % 64) % 64
def padN (n : Nat) : Nat := n + (1 + padZ n) + 8
def padW (b : List Int) : List Int := b ++ padL b.length
def nsh (x : Int) : Nat → Int
  | 0 => x
  | i + 1 => bshl .u64 (nsh x i) 8
def lenR (x : Int) (i : Nat) : Int := wcv .u8 (bshr .u64 (nsh x i) 56)
def rN (n i : Nat) : Nat := n + (1 + padZ n) + i
def rL (b : List Int) (x : Int) (i : Nat) : List Int := pL b (padZ b.length) ++ (List.range i).map (lenR x)
def len8 (n : Nat) : Int := wmul .u64 (n : Int) 8
theorem rL_len (l : List Int) (s : Int) (i : Nat) : (rL l s i).length = rN l.length i := by simp [rL, rN, pL_len, pN]
theorem rL_next (l : List Int) (s : Int) (i : Nat) : rL l s i ++ [lenR s i] = rL l s (i + 1) := by simp [rL, List.range_succ]
theorem u64_emod (n : Int) : IntKind.u64.wrap n = n % 18446744073709551616 := by simp [IntKind.wrap, IntKind.bits, IntKind.signed]
theorem u8_emod (n : Int) : IntKind.u8.wrap n = n % 256 := by simp [IntKind.wrap, IntKind.bits, IntKind.signed]
theorem lenR_eq {x : Int} (_h0 : 0 ≤ x ∧ x ≤ 18446744073709551615) {i : Nat} (hi : i < 8) : lenR x i = wcv .u8 (bshr .u64 x (56 - 8 * (i : Int))) := by
  have e : ∀ (y : Int) (k : Nat), k ≤ 64 → bshr .u64 y (k : Int) = y / 2 ^ k := fun y k hk => by
    simp only [bshr, Int.toNat_natCast, IntKind.bits]
    rw [Nat.min_eq_left hk, Int.fdiv_eq_ediv_of_nonneg _ (Int.pow_nonneg (by omega))]
  have e8 : ∀ y : Int, bshl .u64 y 8 = (y * 256) % 18446744073709551616 := fun y => by simp [bshl, u64_emod, IntKind.bits]
  have e56 : ∀ y : Int, bshr .u64 y 56 = y / 72057594037927936 := fun y => (e y 56 (by omega)).trans rfl
  have hj : (56 - 8 * (i : Int)) = ((56 - 8 * i : Nat) : Int) := by omega
  rw [hj, e _ _ (by omega), lenR, e56]
  simp only [wcv, u8_emod]
  obtain rfl | rfl | rfl | rfl | rfl | rfl | rfl | rfl : i = 0 ∨ i = 1 ∨ i = 2 ∨ i = 3 ∨ i = 4 ∨ i = 5 ∨ i = 6 ∨ i = 7 := by omega
  all_goals simp only [nsh, e8, Nat.mul_zero, Nat.sub_zero, Nat.reduceMul, Nat.reduceSub, Int.reducePow, Nat.sub_self]
  all_goals omega
end Go.Cx.Rb
namespace Go.Cx.Rb
open Go Go.Cx
theorem rL_end (b : List Int) : rL b (len8 b.length) 8 = padW b := by
  have h0 : 0 ≤ len8 b.length ∧ len8 b.length ≤ 18446744073709551615 := by
    simp only [len8, wmul, u64_emod]; omega
  rw [rL, padW, padL, pL, List.append_assoc, ← List.append_assoc]
  simp only [List.append_assoc, List.cons_append]
  congr 3
  refine List.map_congr_left fun i hi => ?_
  have hi : i < 8 := by simpa using hi
  rw [lenR_eq h0 hi]; rfl
theorem padW_len (b : List Int) : (padW b).length = padN b.length := by rw [← rL_end, rL_len]; rfl
end Go.Cx.Rb
/- CxbSpec4 -/
namespace Go.Cx.Rb
open Go Go.Cx
def dropB (D : List Int) (k : Nat) : List Int := D.drop (64 * k)
def blkI (D : List Int) (k : Nat) : List Int := blk iv D k
/-- a word, by j of its bytes -/
def pw (D : List Int) (p : Nat) : Nat → Int
  | 0 => 0
  | j + 1 => bor .u32 (bshl .u32 (pw D p j) 8) (wcv .u32 (nthI D (p + j)))
def fillW (W B : List Int) (i : Nat) : List Int := schedL B i ++ W.drop i
def fillP (W B : List Int) (i j : Nat) : List Int := setI (fillW W B i) i (pw B (4 * i) j)
theorem fillW_len {W B : List Int} {i : Nat} (hW : W.length = 64) (hi : i ≤ 64) : (fillW W B i).length = 64 := by
  simp [fillW, schedL_len, hW]; omega
where
  schedL_len (b : List Int) : ∀ i, (schedL b i).length = i
    | 0 => rfl
    | i + 1 => by simp [schedL, schedL_len b i]
theorem setI_setI {l : List Int} {i : Nat} {x y : Int} : setI (setI l i x) i y = setI l i y := by simp [setI]
theorem nthI_setI {l : List Int} {i : Nat} {x : Int} (h : i < l.length) : nthI (setI l i x) i = x := by
  simp [nthI, setI, List.getD_eq_getElem?_getD, h]
theorem fillW_set {W B : List Int} {i : Nat} {x : Int} (hW : W.length = 64) (hi : i < 64) (hx : x = if i < 16 then wordS B (4 * i) else mix (schedL B i) i) : setI (fillW W B i) i x = fillW W B (i + 1) := by
  subst hx
  have e : W.drop i = W[i] :: W.drop (i + 1) := List.drop_eq_getElem_cons (by omega)
  simp only [fillW, setI]
  rw [List.set_append_right _ _ (by rw [fillW_len.schedL_len]; exact Nat.le_refl _), fillW_len.schedL_len, Nat.sub_self]
  simp only [schedL, List.append_assoc]
  congr 1
  rw [e]
  rfl
theorem fillW_get {W B : List Int} {i j : Nat} (h : j < i) : nthI (fillW W B i) j = nthI (schedL B i) j := nthI_app_lt (by rw [fillW_len.schedL_len]; exact h)
theorem fillW_end {W B : List Int} (hW : W.length = 64) : fillW W B 64 = schedL B 64 := by
  rw [fillW, List.drop_of_length_le (by omega), List.append_nil]
theorem u32_emod (n : Int) : IntKind.u32.wrap n = n % 4294967296 := by simp [IntKind.wrap, IntKind.bits, IntKind.signed]
/-- bits that do not meet: a sum -/
theorem bor_add {X x y z : Nat} (k : Nat) (hX : X = x * 2 ^ k) (hy : y < 2 ^ k) (hz : z = X + y) (hx : z < 2 ^ 32) : bor .u32 (X : Int) (y : Int) = (z : Int) := by
  have e : X ||| y = z := by
    rw [hz, hX, ← Nat.shiftLeft_eq, ← Nat.shiftLeft_add_eq_or_of_lt hy]
  show IntKind.u32.wrap (((BitVec.ofInt 32 (X : Int) ||| BitVec.ofInt 32 (y : Int)).toNat : Nat) : Int) = _
  rw [BitVec.ofInt_natCast, BitVec.ofInt_natCast, BitVec.toNat_or, BitVec.toNat_ofNat, BitVec.toNat_ofNat, Nat.mod_eq_of_lt (by omega), Nat.mod_eq_of_lt (by omega), e, u32_emod]
  omega
theorem bshl_lit {x z : Nat} (k : Nat) (hk : k ≤ 32) (hz : z = x * 2 ^ k) (hx : z < 4294967296) : bshl .u32 (x : Int) (k : Int) = (z : Int) := by
  simp only [bshl, IntKind.bits, Int.toNat_natCast, Nat.min_eq_left hk, u32_emod]
  have : ((x : Int) * 2 ^ k) = (z : Int) := by rw [hz]; push_cast; rfl
  rw [this]
  omega
theorem byte_at {B : List Int} (hB : ∀ y ∈ B, inR .u8 y) (i : Nat) : ∃ n : Nat, n < 256 ∧ nthI B i = (n : Int) := by
  have h : 0 ≤ nthI B i ∧ nthI B i ≤ 255 := by
    by_cases hi : i < B.length
    · have : nthI B i ∈ B := by
        simp only [nthI, List.getD_eq_getElem?_getD, List.getElem?_eq_getElem hi]
        exact List.getElem_mem hi
      exact inR_u8.1 (hB _ this)
    · simp [nthI, List.getD_eq_getElem?_getD, List.getElem?_eq_none (by omega : B.length ≤ i)]
  exact ⟨(nthI B i).toNat, by omega, by omega⟩
theorem wcv_u32_nat {n : Nat} (h : n < 4294967296) : wcv .u32 (n : Int) = (n : Int) := wcv_u32 (by omega)
theorem pw_word {B : List Int} (hB : ∀ y ∈ B, inR .u8 y) (p : Nat) : pw B p 4 = wordS B p := by
  obtain ⟨a, ha, ea⟩ := byte_at hB p
  obtain ⟨b, hb, eb⟩ := byte_at hB (p + 1)
  obtain ⟨c, hc, ec⟩ := byte_at hB (p + 2)
  obtain ⟨d, hd, ed⟩ := byte_at hB (p + 3)
  simp only [pw, wordS, Nat.add_zero, ea, eb, ec, ed, wcv_u32_nat (show a < 4294967296 by omega), wcv_u32_nat (show b < 4294967296 by omega), wcv_u32_nat (show c < 4294967296 by omega), wcv_u32_nat (show d < 4294967296 by omega)]
  obtain ⟨n2, h2⟩ : ∃ n, n = a * 256 + b := ⟨_, rfl⟩
  obtain ⟨n3, h3⟩ : ∃ n, n = n2 * 256 + c := ⟨_, rfl⟩
  obtain ⟨n4, h4⟩ : ∃ n, n = n3 * 256 + d := ⟨_, rfl⟩
  obtain ⟨m1, k1⟩ : ∃ n, n = a * 256 := ⟨_, rfl⟩
  obtain ⟨m2, k2⟩ : ∃ n, n = n2 * 256 := ⟨_, rfl⟩
  obtain ⟨m3, k3⟩ : ∃ n, n = n3 * 256 := ⟨_, rfl⟩
  obtain ⟨p1, j1⟩ : ∃ n, n = a * 16777216 := ⟨_, rfl⟩
  obtain ⟨p2, j2⟩ : ∃ n, n = b * 65536 := ⟨_, rfl⟩
  obtain ⟨p3, j3⟩ : ∃ n, n = c * 256 := ⟨_, rfl⟩
  obtain ⟨q2, i2⟩ : ∃ n, n = p1 + p2 := ⟨_, rfl⟩
  obtain ⟨q3, i3⟩ : ∃ n, n = q2 + p3 := ⟨_, rfl⟩
  have l0 : bshl .u32 0 8 = ((0 : Nat) : Int) := bshl_lit (x := 0) 8 (by omega) (by omega) (by omega)
  have l1 : bor .u32 ((0 : Nat) : Int) (a : Int) = (a : Int) := bor_add (x := 0) 8 (by omega) (by omega) (by omega) (by omega)
  have l2 : bshl .u32 (a : Int) 8 = (m1 : Int) := bshl_lit 8 (by omega) (by omega) (by omega)
  have l3 : bor .u32 (m1 : Int) (b : Int) = (n2 : Int) := bor_add (x := a) 8 (by omega) (by omega) (by omega) (by omega)
  have l4 : bshl .u32 (n2 : Int) 8 = (m2 : Int) := bshl_lit 8 (by omega) (by omega) (by omega)
  have l5 : bor .u32 (m2 : Int) (c : Int) = (n3 : Int) := bor_add (x := n2) 8 (by omega) (by omega) (by omega) (by omega)
  have l6 : bshl .u32 (n3 : Int) 8 = (m3 : Int) := bshl_lit 8 (by omega) (by omega) (by omega)
  have l7 : bor .u32 (m3 : Int) (d : Int) = (n4 : Int) := bor_add (x := n3) 8 (by omega) (by omega) (by omega) (by omega)
  have r1 : bshl .u32 (a : Int) 24 = (p1 : Int) := bshl_lit 24 (by omega) (by omega) (by omega)
  have r2 : bshl .u32 (b : Int) 16 = (p2 : Int) := bshl_lit 16 (by omega) (by omega) (by omega)
  have r3 : bshl .u32 (c : Int) 8 = (p3 : Int) := bshl_lit 8 (by omega) (by omega) (by omega)
  have r4 : bor .u32 (p1 : Int) (p2 : Int) = (q2 : Int) := bor_add (x := a) 24 (by omega) (by omega) (by omega) (by omega)
  have r5 : bor .u32 (q2 : Int) (p3 : Int) = (q3 : Int) := bor_add (x := a * 256 + b) 16 (by omega) (by omega) (by omega) (by omega)
  have r6 : bor .u32 (q3 : Int) (d : Int) = (n4 : Int) := bor_add (x := n3) 8 (by omega) (by omega) (by omega) (by omega)
  rw [r1, r2, r3, r4, r5, r6]
  rw [l0, l1, l2, l3, l4, l5, l6, l7]
end Go.Cx.Rb
/- CxbSpec5 -/
namespace Go.Cx.Rb
open Go Go.Cx
def shortL (key : List Int) : List Int := if 64 < key.length then digest key else key
/-- a key of 64 bytes -/
def keyL (key : List Int) : List Int := shortL key ++ List.replicate (64 - (shortL key).length) 0
def padX (key : List Int) (x : Int) : List Int := (keyL key).map fun b => bxor .u8 b x
def macS (key msg : List Int) : List Int := digest (padX key 92 ++ digest (padX key 54 ++ msg))
/-- the first i bytes turned -/
def xorL (l : List Int) (x : Int) (i : Nat) : List Int := ((l.take i).map fun b => bxor .u8 b x) ++ l.drop i
theorem outL_len (h : List Int) : (outL h).length = 32 := by simp [outL]
theorem digest_len (b : List Int) : (digest b).length = 32 := outL_len _
theorem shortL_len (key : List Int) : (shortL key).length ≤ 64 := by
  unfold shortL
  split
  · rw [digest_len]; omega
  · omega
theorem keyL_len (key : List Int) : (keyL key).length = 64 := by
  have := shortL_len key
  simp [keyL]; omega
theorem padX_len (key : List Int) (x : Int) : (padX key x).length = 64 := by simp [padX, keyL_len]
theorem xorL_set {l : List Int} {x : Int} {i : Nat} (hi : i < l.length) : setI (xorL l x i) i (bxor .u8 (nthI (xorL l x i) i) x) = xorL l x (i + 1) := by
  have e : l.drop i = l[i] :: l.drop (i + 1) := List.drop_eq_getElem_cons hi
  have hl : ((l.take i).map fun b => bxor .u8 b x).length = i := by simp; omega
  have hg : nthI (xorL l x i) i = l[i] := by
    simp only [xorL, nthI, List.getD_eq_getElem?_getD]
    rw [List.getElem?_append_right (by omega), hl, Nat.sub_self, e]
    rfl
  rw [hg]
  simp only [xorL, setI]
  rw [List.set_append_right _ _ (by omega), hl, Nat.sub_self, e, List.take_add_one, List.getElem?_eq_getElem hi]
  simp only [List.set_cons_zero, List.map_append, List.map_cons, List.map_nil, List.append_assoc, List.cons_append, List.nil_append, Option.toList_some]
theorem xorL_end {l : List Int} {x : Int} (hl : l.length = 64) : xorL l x 64 = l.map fun b => bxor .u8 b x := by
  rw [xorL, List.take_of_length_le (by omega), List.drop_of_length_le (by omega), List.append_nil]
/-- Bytes that come behind others. -/
theorem addW_more {h l b : List Int} : addW (addW h [] l) (addR [] l) b = addW h [] (l ++ b) := by
  have hR : addR [] l = l.drop (64 * (l.length / 64)) := by simp [addR]
  have hRl : (addR [] l).length = l.length % 64 := by rw [hR, List.length_drop]; omega
  have hk : (l.length + b.length) / 64 = l.length / 64 + (l.length % 64 + b.length) / 64 := by omega
  simp only [addW, List.nil_append, List.length_nil, Nat.zero_add, List.length_append]
  rw [hRl, hk, blk_more, List.drop_append_of_le_length (by omega), ← hR]
  congr 1
  exact blk_congr fun j hj => by rw [nthI_cat, if_pos (by omega)]
theorem addR_more {l b : List Int} : addR (addR [] l) b = addR [] (l ++ b) := by
  have hR : addR [] l = l.drop (64 * (l.length / 64)) := by simp [addR]
  have hRl : (addR [] l).length = l.length % 64 := by rw [hR, List.length_drop]; omega
  have e1 : addR [] (l ++ b) = (l ++ b).drop (64 * ((l.length + b.length) / 64)) := by simp [addR]
  have hk : 64 * ((l.length + b.length) / 64) = 64 * (l.length / 64) + 64 * ((l.length % 64 + b.length) / 64) := by omega
  rw [e1, hk, ← List.drop_drop, List.drop_append_of_le_length (by omega), ← hR, addR, hRl]
theorem addS_more {a b : Nat} (h : a + b ≤ 9223372036854775807) : addS (addS 0 a) b = addS 0 (a + b) := by
  rw [addS_zero (by omega), addS_zero h, addS, wcv_u64_nat (by omega), wadd_u64 (by omega)]; omega
/-- a key copied as far as i -/
def cpL (s : List Int) (i : Nat) : List Int := s.take i ++ List.replicate (64 - i) 0
theorem cpL_set {s : List Int} {i : Nat} (h1 : i < s.length) (h2 : i < 64) : setI (cpL s i) i (nthI s i) = cpL s (i + 1) := by
  have hg : nthI s i = s[i] := by simp [nthI, List.getD_eq_getElem?_getD, h1]
  rw [cpL, setI_fill (by simp; omega) (by omega), hg, cpL, List.take_add_one, List.getElem?_eq_getElem h1]
  rfl
theorem cpL_zero {s : List Int} : cpL s 0 = zerosI 64 := rfl
theorem cpL_end {s : List Int} : cpL s s.length = s ++ List.replicate (64 - s.length) 0 := by rw [cpL, List.take_length]
def xm (l : List Int) (x : Int) (i : Nat) : List Int := (l.take i).map fun b => bxor .u8 b x
theorem xm_len {l : List Int} {x : Int} {i : Nat} (h : i ≤ l.length) : (xm l x i).length = i := by simp [xm]; omega
theorem xm_next {l : List Int} {x : Int} {i : Nat} (h : i < l.length) : xm l x i ++ [bxor .u8 (nthI l i) x] = xm l x (i + 1) := by
  have hg : nthI l i = l[i] := by simp [nthI, List.getD_eq_getElem?_getD, h]
  rw [hg, xm, xm, List.take_add_one, List.getElem?_eq_getElem h, List.map_append]
  rfl
theorem xm_end {key : List Int} {x : Int} : xm (keyL key) x 64 = padX key x := by
  rw [xm, List.take_of_length_le (by rw [keyL_len]; omega), padX]
end Go.Cx.Rb
/- CxbSpec6 -/
namespace Go.Cx.Rb
open Go Go.Cx
theorem macS_len (k m : List Int) : (macS k m).length = 32 := digest_len _
theorem outL_rng (h : List Int) : ∀ y ∈ outL h, 0 ≤ y ∧ y ≤ 255 := fun y hy => by
  simp only [outL, List.mem_map] at hy
  obtain ⟨i, _, rfl⟩ := hy
  have : ∀ n, 0 ≤ IntKind.u8.wrap n ∧ IntKind.u8.wrap n ≤ 255 := fun n => by rw [u8_emod]; omega
  exact this _
end Go.Cx.Rb
/- CxbSpec7 -/
namespace Go.Cx.Rb
open Go Go.Cx
/-- may n bytes be read? -/
def okR (l : List Int) (s : Bool) (k : Int) : Bool := !s && decide (0 ≤ k) && decide (k ≤ l.length)
theorem okR_t {l : List Int} {s : Bool} {k : Int} : okR l s k = true ↔ s = false ∧ 0 ≤ k ∧ k ≤ l.length := by simp [okR, and_assoc]
theorem okR_f {l : List Int} {s : Bool} {k : Int} (h : s = true ∨ k < 0 ∨ (l.length : Int) < k) : okR l s k = false := by
  cases e : okR l s k with
  | false => rfl
  | true => obtain ⟨h1, h2, h3⟩ := okR_t.1 e; subst h1; simp at h; omega
def tkL (l : List Int) (s : Bool) (k : Int) : List Int := if okR l s k then l.take k.toNat else []
def rsL (l : List Int) (s : Bool) (k : Int) : List Int := if okR l s k then l.drop k.toNat else l
def flS (l : List Int) (s : Bool) (k : Int) : Bool := !okR l s k
def allZ (l : List Int) : Bool := decide (∀ x ∈ l, x = 0)
def zrS (l : List Int) (s : Bool) (k : Int) : Bool := !(okR l s k && allZ (tkL l s k))
/-- the number that bytes say -/
def numL (l : List Int) : Int := l.foldl (fun v x => v * 256 + x) 0
def endE (l : List Int) (s : Bool) : Int := if s || decide (0 < l.length) then 12 else 0
/-- a reader's content -/
def rdV (n : Nat) (l : List Int) (s : Bool) : V := .cat 1 1 (.dsl n 1 (.ints .u8 n l)) (.bool s)
def rdA (ap : AP) (l : List Int) (s : Bool) : V := rdV (ap _ _ llen l) l s
/-- bytes for good -/
def dslA (ap : AP) (l : List Int) : V := .dsl (ap _ _ llen l) 1 (.ints .u8 (ap _ _ llen l) l)
theorem subL_take {l : List Int} {k : Nat} : subL l 0 k = l.take k := by simp [subL]
theorem subL_drop {l : List Int} {k m : Nat} (h : l.length ≤ k + m) : subL l k m = l.drop k := by
  rw [subL, List.take_of_length_le]; simp; omega
theorem numL_app (l : List Int) (x : Int) : numL (l ++ [x]) = numL l * 256 + x := by simp [numL]
theorem foldN_rng : ∀ (l : List Int) (v : Int), 0 ≤ v → (∀ y ∈ l, inR .u8 y) → 0 ≤ l.foldl (fun v x => v * 256 + x) v ∧ l.foldl (fun v x => v * 256 + x) v < (v + 1) * 256 ^ l.length
  | [], v, hv, _ => by simp; omega
  | x :: l, v, hv, h => by
    have hx : 0 ≤ x ∧ x ≤ 255 := h x (by simp)
    obtain ⟨h1, h2⟩ := foldN_rng l (v * 256 + x) (by omega) fun y hy => h y (by simp [hy])
    refine ⟨h1, Int.lt_of_lt_of_le h2 ?_⟩
    rw [List.length_cons, Int.pow_succ, ← Int.mul_assoc, Int.mul_right_comm]
    refine Int.mul_le_mul_of_nonneg_right (by omega) ?_
    exact Int.pow_nonneg (by omega)
theorem numL_rng (l : List Int) (h : ∀ y ∈ l, inR .u8 y) : 0 ≤ numL l ∧ numL l < 256 ^ l.length := by
  have := foldN_rng l 0 (by omega) h
  simpa [numL] using this
theorem tkL_rng {l : List Int} {s : Bool} {k : Int} (h : ∀ y ∈ l, inR .u8 y) : ∀ y ∈ tkL l s k, inR .u8 y := by
  intro y hy
  unfold tkL at hy
  split at hy
  · exact h y (List.mem_of_mem_take hy)
  · simp at hy
theorem tkL_le {l : List Int} {s : Bool} {k : Int} : ((tkL l s k).length : Int) ≤ max k 0 := by
  unfold tkL
  split
  · simp; omega
  · simp; omega
theorem or_shift {v x : Int} (hv : 0 ≤ v) (hv2 : v < 256 ^ 7) (hx : 0 ≤ x ∧ x ≤ 255) : bor .u64 (bshl .u64 v 8) (wcv .u64 x) = v * 256 + x := by
  obtain ⟨a, rfl⟩ := Int.eq_ofNat_of_zero_le hv
  obtain ⟨b, rfl⟩ := Int.eq_ofNat_of_zero_le hx.1
  have ha : a < 256 ^ 7 := by omega
  have hb : b < 256 := by omega
  have e1 : bshl .u64 (a : Int) 8 = ((a * 256 : Nat) : Int) := by
    show IntKind.u64.wrap ((a : Int) * 2 ^ (min 8 64)) = _
    rw [u64_emod]
    have : (2 : Int) ^ (min 8 64) = 256 := by decide
    rw [this]
    omega
  have e2 : wcv .u64 (b : Int) = (b : Int) := by
    show IntKind.u64.wrap (b : Int) = _
    rw [u64_emod]; omega
  rw [e1, e2]
  show IntKind.u64.wrap (((BitVec.ofInt 64 ((a * 256 : Nat) : Int) ||| BitVec.ofInt 64 (b : Int)).toNat : Nat) : Int) = _
  rw [BitVec.ofInt_natCast, BitVec.ofInt_natCast, BitVec.toNat_or, BitVec.toNat_ofNat, BitVec.toNat_ofNat, Nat.mod_eq_of_lt (by omega), Nat.mod_eq_of_lt (by omega), u64_emod]
  have e3 : a * 256 ||| b = a * 256 + b := by
    have := Nat.shiftLeft_add_eq_or_of_lt (b := b) (i := 8) (by simpa using hb) a
    rw [Nat.shiftLeft_eq] at this
    exact this.symm
  rw [e3]
  omega
end Go.Cx.Rb
/- CxbPu -/
namespace Go.Cx.Rb
open Go Go.Cx Go.Proofs
/-- the functions that write to no object of the caller's; the slices that are handed over as they are, or to be written -/
def pu (f : Nat) : Bool := f != 24 && f != 96 && f != 97 && f != 98 && f != 127 && f != 143 && f != 100 && f != 101 && f != 102 && f != 103 && f != 137 && f != 138 && f != 155 && f != 156 && f != 148 && f != 2004300 && f != 2006100 && f != 2007100 && f != 2007200 && f != 2011700 && f != 2005001 && f != 2005200 && f != 1015600
end Go.Cx.Rb
/- CxbCodeB -/
namespace Go.Cx.Rb
open Go Go.Cx Go.Proofs
def ic94 : IFn := ⟨1,14,[.t 2],
  (.seq (.reg [0,5,7,6,8,4,12,2] [⟨some 2,none,.mv (.c .ff)⟩])
  (.seq (.seq (.reg [0,5,7,6,8,4,12,2] [⟨some 5,none,.mv (.t 0)⟩,⟨some 6,none,.lenS (.t 5)⟩,⟨some 7,none,.mv (.c (.lit .i64 0))⟩])
  (.block 0 (.loop 0 (.seq (.reg [0,5,7,6,8,4,12,2] [⟨some 8,none,.cmp .lss (.t 7) (.t 6)⟩])
   (.seq (.cond (.t 8)
     .skip
     (.exit 0))
   (.seq (.block 1 (.seq (.reg [0,5,7,6,8,4,12,2] [⟨some 9,none,.iaS 1 (.t 5) (.t 7)⟩,⟨some 10,none,.ld 1 false (.t 9)⟩,⟨some 4,none,.mv (.t 10)⟩])
   (.seq (.reg [0,5,7,6,8,4,12,2] [⟨some 11,none,.mv (.t 4)⟩,⟨some 12,none,.cmp .neq (.t 11) (.c (.lit .u8 0))⟩])
   (.cond (.t 12)
     (.seq (.reg [0,5,7,6,8,4,12,2] [⟨some 2,none,.mv (.c .ff)⟩])
     .ret)
     .skip))))
   (.reg [0,5,7,6,8,4,12,2] [⟨some 13,none,.ar .add .i64 (.t 7) (.c (.lit .i64 1))⟩,⟨some 7,none,.mv (.t 13)⟩])))))))
  (.seq (.reg [0,5,7,6,8,4,12,2] [⟨some 2,none,.mv (.c .tt)⟩])
  .ret)))⟩
def ic95 : IFn := ⟨1,7,[.t 2],
  (.seq (.reg [0,2] [⟨some 2,none,.mv (.c .nilp)⟩])
  (.seq (.reg [0,2] [⟨some 3,none,.mv (.t 0)⟩,⟨some 4,none,.call 110 true [((.t 3),.b (.i .u8))]⟩,⟨some 5,none,.bldS (.cat 1 1 (.v .nsl) (.v .ff)) [(0,1,(.t 4))]⟩,⟨some 6,none,.box (.t 5)⟩,⟨some 2,none,.mv (.t 6)⟩])
  .ret))⟩
def ic96 : IFn := ⟨2,31,[.t 4],
  (.seq (.reg [1,13,0,18,20,19,21,5,7,4] [⟨some 4,none,.mv (.c (.lit .u64 0))⟩])
  (.seq (.seq (.reg [1,13,0,18,20,19,21,5,7,4] [⟨some 8,none,.mv (.t 1)⟩,⟨some 9,none,.cmp .lss (.t 8) (.c (.lit .i64 1))⟩,⟨some 10,none,.mv (.t 9)⟩,⟨some 11,some (10,false),.mv (.t 1)⟩,⟨some 12,some (10,false),.cmp .gtr (.t 11) (.c (.lit .i64 8))⟩,⟨some 13,none,.pick (.t 10) (.c .tt) (.t 12)⟩])
  (.cond (.t 13)
    (.reg [1,13,0,18,20,19,21,5,7,4] [⟨some 14,none,.mv (.t 0)⟩,⟨some 15,none,.call 127 false [((.t 14),.v)]⟩])
    .skip))
  (.seq (.reg [1,13,0,18,20,19,21,5,7,4] [⟨some 5,none,.mv (.c (.lit .u64 0))⟩])
  (.seq (.seq (.reg [1,13,0,18,20,19,21,5,7,4] [⟨some 16,none,.mv (.t 0)⟩,⟨some 17,none,.mv (.t 1)⟩,⟨some 18,none,.call 143 false [((.t 16),.v),((.t 17),.v)]⟩,⟨some 19,none,.lenS (.t 18)⟩,⟨some 20,none,.mv (.c (.lit .i64 0))⟩])
  (.block 0 (.loop 0 (.seq (.reg [1,13,0,18,20,19,21,5,7,4] [⟨some 21,none,.cmp .lss (.t 20) (.t 19)⟩])
   (.seq (.cond (.t 21)
     .skip
     (.exit 0))
   (.seq (.block 1 (.seq (.reg [1,13,0,18,20,19,21,5,7,4] [⟨some 22,none,.iaS 1 (.t 18) (.t 20)⟩,⟨some 23,none,.ld 1 false (.t 22)⟩,⟨some 7,none,.mv (.t 23)⟩])
   (.reg [1,13,0,18,20,19,21,5,7,4] [⟨some 24,none,.mv (.t 5)⟩,⟨some 25,none,.shf .shl .u64 (.t 24) (.c (.lit .u64 8))⟩,⟨some 26,none,.mv (.t 7)⟩,⟨some 27,none,.cv .u64 (.t 26)⟩,⟨some 28,none,.ar .or .u64 (.t 25) (.t 27)⟩,⟨some 5,none,.mv (.t 28)⟩])))
   (.reg [1,13,0,18,20,19,21,5,7,4] [⟨some 29,none,.ar .add .i64 (.t 20) (.c (.lit .i64 1))⟩,⟨some 20,none,.mv (.t 29)⟩])))))))
  (.seq (.reg [1,13,0,18,20,19,21,5,7,4] [⟨some 30,none,.mv (.t 5)⟩,⟨some 4,none,.mv (.t 30)⟩])
  .ret)))))⟩
def ic97 : IFn := ⟨2,11,[],
  (.seq (.reg [0,1,8] [⟨some 4,none,.mv (.t 0)⟩,⟨some 5,none,.mv (.t 1)⟩,⟨some 6,none,.call 143 false [((.t 4),.v),((.t 5),.v)]⟩,⟨some 7,none,.call 94 true [((.t 6),.b (.i .u8))]⟩,⟨some 8,none,.not (.t 7)⟩])
  (.cond (.t 8)
    (.reg [0,1,8] [⟨some 9,none,.mv (.t 0)⟩,⟨some 10,none,.call 127 false [((.t 9),.v)]⟩])
    .skip))⟩
def ic98 : IFn := ⟨2,8,[.t 4],
  (.seq (.reg [0,1,4] [⟨some 4,none,.mv (.c .nsl)⟩])
  (.seq (.reg [0,1,4] [⟨some 5,none,.mv (.t 0)⟩,⟨some 6,none,.mv (.t 1)⟩,⟨some 7,none,.call 143 false [((.t 5),.v),((.t 6),.v)]⟩,⟨some 4,none,.mv (.t 7)⟩])
  .ret))⟩
def ic99 : IFn := ⟨1,19,[.t 2],
  (.seq (.reg [0,3,6,2] [⟨some 2,none,.mv (.c (.lit .i64 0))⟩])
  (.seq (.block 0 (.seq (.reg [0,3,6,2] [⟨some 4,none,.mv (.t 0)⟩,⟨some 5,none,.eq .p false (.t 4) (.c .nilp)⟩,⟨some 3,none,.mv (.t 5)⟩])
  (.cond (.t 3)
    (.seq (.reg [0,3,6,2] [⟨some 2,none,.mv (.c (.lit .i64 1))⟩])
    .ret)
    (.seq (.reg [0,3,6,2] [⟨some 7,none,.mv (.t 0)⟩,⟨some 8,none,.nck (.t 7)⟩,⟨some 9,none,.fa 1 1 (.t 8)⟩,⟨some 10,none,.ld 1 false (.t 9)⟩,⟨some 11,none,.mv (.t 10)⟩,⟨some 12,some (11,false),.mv (.t 0)⟩,⟨some 13,some (11,false),.nck (.t 12)⟩,⟨some 14,some (11,false),.fa 0 1 (.t 13)⟩,⟨some 15,some (11,false),.ld 1 false (.t 14)⟩,⟨some 16,some (11,false),.lenS (.t 15)⟩,⟨some 17,some (11,false),.cmp .gtr (.t 16) (.c (.lit .i64 0))⟩,⟨some 18,none,.pick (.t 11) (.c .tt) (.t 17)⟩,⟨some 6,none,.mv (.t 18)⟩])
    (.cond (.t 6)
      (.seq (.reg [0,3,6,2] [⟨some 2,none,.mv (.c (.lit .i64 12))⟩])
      .ret)
      .skip)))))
  (.seq (.reg [0,3,6,2] [⟨some 2,none,.mv (.c (.lit .i64 0))⟩])
  .ret)))⟩
def ic100 : IFn := ⟨2,35,[.t 4],
  (.seq (.reg [1,13,0,7,6,23,5,4] [⟨some 4,none,.mv (.c (.lit .u64 0))⟩])
  (.seq (.seq (.reg [1,13,0,7,6,23,5,4] [⟨some 8,none,.mv (.t 1)⟩,⟨some 9,none,.cmp .lss (.t 8) (.c (.lit .i64 1))⟩,⟨some 10,none,.mv (.t 9)⟩,⟨some 11,some (10,false),.mv (.t 1)⟩,⟨some 12,some (10,false),.cmp .gtr (.t 11) (.c (.lit .i64 8))⟩,⟨some 13,none,.pick (.t 10) (.c .tt) (.t 12)⟩])
  (.cond (.t 13)
    (.reg [1,13,0,7,6,23,5,4] [⟨some 14,none,.mv (.t 0)⟩,⟨some 15,none,.nck (.t 14)⟩,⟨some 16,none,.fa 2 1 (.t 15)⟩,⟨none,none,.st 1 (.t 16) (.c .tt)⟩])
    .skip))
  (.seq (.reg [1,13,0,7,6,23,5,4] [⟨some 5,none,.mv (.c (.lit .u64 0))⟩])
  (.seq (.reg [1,13,0,7,6,23,5,4] [⟨some 17,none,.mv (.t 0)⟩,⟨some 18,none,.mv (.t 1)⟩,⟨some 19,none,.call 103 false [((.t 17),.v),((.t 18),.v)]⟩,⟨some 6,none,.mv (.t 19)⟩])
  (.seq (.seq (.reg [1,13,0,7,6,23,5,4] [⟨some 7,none,.mv (.c (.lit .i64 0))⟩])
  (.block 0 (.loop 0 (.seq (.seq (.reg [1,13,0,7,6,23,5,4] [⟨some 20,none,.mv (.t 7)⟩,⟨some 21,none,.mv (.t 6)⟩,⟨some 22,none,.lenS (.t 21)⟩,⟨some 23,none,.cmp .lss (.t 20) (.t 22)⟩])
   (.cond (.t 23)
     .skip
     (.exit 0)))
   (.seq (.block 1 (.reg [1,13,0,7,6,23,5,4] [⟨some 26,none,.mv (.t 5)⟩,⟨some 27,none,.ar .mul .u64 (.t 26) (.c (.lit .u64 256))⟩,⟨some 28,none,.mv (.t 6)⟩,⟨some 29,none,.mv (.t 7)⟩,⟨some 30,none,.iaS 1 (.t 28) (.t 29)⟩,⟨some 31,none,.ld 1 false (.t 30)⟩,⟨some 32,none,.cv .u64 (.t 31)⟩,⟨some 33,none,.ar .add .u64 (.t 27) (.t 32)⟩,⟨some 5,none,.mv (.t 33)⟩]))
   (.reg [1,13,0,7,6,23,5,4] [⟨some 24,none,.mv (.t 7)⟩,⟨some 25,none,.ar .add .i64 (.t 24) (.c (.lit .i64 1))⟩,⟨some 7,none,.mv (.t 25)⟩]))))))
  (.seq (.reg [1,13,0,7,6,23,5,4] [⟨some 34,none,.mv (.t 5)⟩,⟨some 4,none,.mv (.t 34)⟩])
  .ret))))))⟩
def ic101 : IFn := ⟨2,9,[.t 4],
  (.seq (.reg [0,1,4] [⟨some 4,none,.mv (.c (.lit .i64 0))⟩])
  (.seq (.reg [0,1,4] [⟨some 5,none,.mv (.t 0)⟩,⟨some 6,none,.mv (.t 1)⟩,⟨some 7,none,.call 100 false [((.t 5),.v),((.t 6),.v)]⟩,⟨some 8,none,.cv .i64 (.t 7)⟩,⟨some 4,none,.mv (.t 8)⟩])
  .ret))⟩
def ic102 : IFn := ⟨2,23,[],
  (.seq (.reg [0,1,5,4,12,19] [⟨some 6,none,.mv (.t 0)⟩,⟨some 7,none,.mv (.t 1)⟩,⟨some 8,none,.call 103 false [((.t 6),.v),((.t 7),.v)]⟩,⟨some 4,none,.mv (.t 8)⟩])
  (.seq (.reg [0,1,5,4,12,19] [⟨some 5,none,.mv (.c (.lit .i64 0))⟩])
  (.block 0 (.loop 0 (.seq (.seq (.reg [0,1,5,4,12,19] [⟨some 9,none,.mv (.t 5)⟩,⟨some 10,none,.mv (.t 4)⟩,⟨some 11,none,.lenS (.t 10)⟩,⟨some 12,none,.cmp .lss (.t 9) (.t 11)⟩])
   (.cond (.t 12)
     .skip
     (.exit 0)))
   (.seq (.block 1 (.seq (.reg [0,1,5,4,12,19] [⟨some 15,none,.mv (.t 4)⟩,⟨some 16,none,.mv (.t 5)⟩,⟨some 17,none,.iaS 1 (.t 15) (.t 16)⟩,⟨some 18,none,.ld 1 false (.t 17)⟩,⟨some 19,none,.cmp .neq (.t 18) (.c (.lit .u8 0))⟩])
   (.cond (.t 19)
     (.reg [0,1,5,4,12,19] [⟨some 20,none,.mv (.t 0)⟩,⟨some 21,none,.nck (.t 20)⟩,⟨some 22,none,.fa 2 1 (.t 21)⟩,⟨none,none,.st 1 (.t 22) (.c .tt)⟩])
     .skip)))
   (.reg [0,1,5,4,12,19] [⟨some 13,none,.mv (.t 5)⟩,⟨some 14,none,.ar .add .i64 (.t 13) (.c (.lit .i64 1))⟩,⟨some 5,none,.mv (.t 14)⟩])))))))⟩
def ic103 : IFn := ⟨2,55,[.t 4],
  (.seq (.reg [0,1,26,4] [⟨some 4,none,.mv (.c .nsl)⟩])
  (.seq (.seq (.dreg [0,1,26,4] [⟨⟨some 5,none,.mv (.t 0)⟩,[],[],none⟩,⟨⟨some 6,none,.nck (.t 5)⟩,[],[],none⟩,⟨⟨some 7,none,.fa 2 1 (.t 6)⟩,[],[],none⟩,⟨⟨some 8,none,.ld 1 false (.t 7)⟩,[],[],none⟩,⟨⟨some 9,none,.mv (.t 8)⟩,[],[],none⟩,⟨⟨some 10,some (9,false),.mv (.t 1)⟩,[],[],none⟩,⟨⟨some 11,some (9,false),.cmp .lss (.t 10) (.c (.lit .i64 0))⟩,[],[],none⟩,⟨⟨some 12,none,.pick (.t 9) (.c .tt) (.t 11)⟩,[],[],none⟩,⟨⟨some 13,none,.mv (.t 12)⟩,[],[],none⟩,⟨⟨some 14,some (13,false),.mv (.t 1)⟩,[],[],none⟩,⟨⟨some 15,some (13,false),.mv (.t 0)⟩,[],[],none⟩,⟨⟨some 16,some (13,false),.nck (.t 15)⟩,[],[],none⟩,⟨⟨some 17,some (13,false),.fa 0 1 (.t 16)⟩,[],[],none⟩,⟨⟨some 18,some (13,false),.ld 1 false (.t 17)⟩,[],[],none⟩,⟨⟨some 19,some (13,false),.lenS (.t 18)⟩,[],[],none⟩,⟨⟨some 20,some (13,false),.mv (.t 0)⟩,[],[],none⟩,⟨⟨some 21,some (13,false),.nck (.t 20)⟩,[],[],none⟩,⟨⟨some 22,some (13,false),.fa 1 1 (.t 21)⟩,[],[],none⟩,⟨⟨some 23,some (13,false),.ld 1 false (.t 22)⟩,[],[],none⟩,⟨⟨some 24,some (13,false),.ar .sub .i64 (.t 19) (.t 23)⟩,[],[],none⟩,⟨⟨some 25,some (13,false),.cmp .gtr (.t 14) (.t 24)⟩,[],[],none⟩,⟨⟨some 26,none,.pick (.t 13) (.c .tt) (.t 25)⟩,[],[],none⟩])
  (.cond (.t 26)
    (.seq (.reg [0,1,26,4] [⟨some 27,none,.mv (.t 0)⟩,⟨some 28,none,.nck (.t 27)⟩,⟨some 29,none,.fa 2 1 (.t 28)⟩,⟨none,none,.st 1 (.t 29) (.c .tt)⟩])
    (.seq (.reg [0,1,26,4] [⟨some 4,none,.mv (.c .nsl)⟩])
    .ret))
    .skip))
  (.seq (.reg [0,1,26,4] [⟨some 30,none,.mv (.t 0)⟩,⟨some 31,none,.nck (.t 30)⟩,⟨some 32,none,.fa 1 1 (.t 31)⟩,⟨some 33,none,.ld 1 false (.t 32)⟩,⟨some 34,none,.mv (.t 1)⟩,⟨some 35,none,.ar .add .i64 (.t 33) (.t 34)⟩,⟨some 36,none,.nck (.t 30)⟩,⟨some 37,none,.fa 1 1 (.t 36)⟩,⟨none,none,.st 1 (.t 37) (.t 35)⟩])
  (.seq (.dreg [0,1,26,4] [⟨⟨some 38,none,.bsl (.i .u8) 0 []⟩,[],[],none⟩,⟨⟨some 39,none,.mv (.t 0)⟩,[38],[],none⟩,⟨⟨some 40,none,.nck (.t 39)⟩,[38],[],none⟩,⟨⟨some 41,none,.fa 0 1 (.t 40)⟩,[38],[],none⟩,⟨⟨some 42,none,.ld 1 false (.t 41)⟩,[38],[],none⟩,⟨⟨some 43,none,.mv (.t 0)⟩,[38],[],none⟩,⟨⟨some 44,none,.nck (.t 43)⟩,[38],[],none⟩,⟨⟨some 45,none,.fa 1 1 (.t 44)⟩,[38],[],none⟩,⟨⟨some 46,none,.ld 1 false (.t 45)⟩,[38],[],none⟩,⟨⟨some 47,none,.mv (.t 1)⟩,[38],[],none⟩,⟨⟨some 48,none,.ar .sub .i64 (.t 46) (.t 47)⟩,[38],[],none⟩,⟨⟨some 49,none,.mv (.t 0)⟩,[38],[],none⟩,⟨⟨some 50,none,.nck (.t 49)⟩,[38],[],none⟩,⟨⟨some 51,none,.fa 1 1 (.t 50)⟩,[38],[],none⟩,⟨⟨some 52,none,.ld 1 false (.t 51)⟩,[38],[],none⟩,⟨⟨some 53,none,.slS 1 (.t 42) (some (.t 48)) (some (.t 52)) none⟩,[38],[],none⟩,⟨⟨some 54,none,.app0 (.i .u8) 1 (.t 38) (.t 53)⟩,[],[],none⟩,⟨⟨some 4,none,.mv (.t 54)⟩,[],[],none⟩])
  .ret))))⟩
def ic104 : IFn := ⟨1,19,[.t 2],
  (.seq (.reg [0,18,2] [⟨some 2,none,.mv (.c (.lit .i64 0))⟩])
  (.seq (.seq (.dreg [0,18,2] [⟨⟨some 3,none,.mv (.t 0)⟩,[],[],none⟩,⟨⟨some 4,none,.nck (.t 3)⟩,[],[],none⟩,⟨⟨some 5,none,.fa 2 1 (.t 4)⟩,[],[],none⟩,⟨⟨some 6,none,.ld 1 false (.t 5)⟩,[],[],none⟩,⟨⟨some 7,none,.mv (.t 6)⟩,[],[],none⟩,⟨⟨some 8,some (7,false),.mv (.t 0)⟩,[],[],none⟩,⟨⟨some 9,some (7,false),.nck (.t 8)⟩,[],[],none⟩,⟨⟨some 10,some (7,false),.fa 1 1 (.t 9)⟩,[],[],none⟩,⟨⟨some 11,some (7,false),.ld 1 false (.t 10)⟩,[],[],none⟩,⟨⟨some 12,some (7,false),.mv (.t 0)⟩,[],[],none⟩,⟨⟨some 13,some (7,false),.nck (.t 12)⟩,[],[],none⟩,⟨⟨some 14,some (7,false),.fa 0 1 (.t 13)⟩,[],[],none⟩,⟨⟨some 15,some (7,false),.ld 1 false (.t 14)⟩,[],[],none⟩,⟨⟨some 16,some (7,false),.lenS (.t 15)⟩,[],[],none⟩,⟨⟨some 17,some (7,false),.cmp .lss (.t 11) (.t 16)⟩,[],[],none⟩,⟨⟨some 18,none,.pick (.t 7) (.c .tt) (.t 17)⟩,[],[],none⟩])
  (.cond (.t 18)
    (.seq (.reg [0,18,2] [⟨some 2,none,.mv (.c (.lit .i64 12))⟩])
    .ret)
    .skip))
  (.seq (.reg [0,18,2] [⟨some 2,none,.mv (.c (.lit .i64 0))⟩])
  .ret)))⟩
def ic107 : IFn := ⟨2,45,[.t 4,.t 5],
  (.seq (.reg [1,0,24,6,29,28,30,7,4,5] [⟨some 4,none,.mv (.c .nsl)⟩,⟨some 5,none,.mv (.c (.lit .i64 0))⟩])
  (.seq (.seq (.reg [1,0,24,6,29,28,30,7,4,5] [⟨some 8,none,.mv (.t 1)⟩,⟨some 9,none,.cmp .lss (.t 8) (.c (.lit .i64 1))⟩,⟨some 10,none,.mv (.t 9)⟩,⟨some 11,some (10,false),.mv (.t 1)⟩,⟨some 12,some (10,false),.cmp .gtr (.t 11) (.c (.lit .i64 8))⟩,⟨some 13,none,.pick (.t 10) (.c .tt) (.t 12)⟩,⟨some 14,none,.mv (.t 13)⟩,⟨some 15,some (14,false),.mv (.t 1)⟩,⟨some 16,some (14,false),.cmp .lss (.t 15) (.c (.lit .i64 8))⟩,⟨some 17,some (14,false),.mv (.t 16)⟩,⟨some 18,some (17,true),.mv (.t 0)⟩,⟨some 19,some (17,true),.mv (.t 1)⟩,⟨some 20,some (17,true),.ar .mul .i64 (.c (.lit .i64 8)) (.t 19)⟩,⟨some 21,some (17,true),.shf .shr .u64 (.t 18) (.t 20)⟩,⟨some 22,some (17,true),.cmp .neq (.t 21) (.c (.lit .u64 0))⟩,⟨some 23,some (14,false),.pick (.t 17) (.t 22) (.c .ff)⟩,⟨some 24,none,.pick (.t 14) (.c .tt) (.t 23)⟩])
  (.cond (.t 24)
    (.seq (.reg [1,0,24,6,29,28,30,7,4,5] [⟨some 4,none,.mv (.c .nsl)⟩,⟨some 5,none,.mv (.c (.lit .i64 2))⟩])
    .ret)
    .skip))
  (.seq (.reg [1,0,24,6,29,28,30,7,4,5] [⟨some 25,none,.mv (.t 1)⟩,⟨some 26,none,.mks (.i .u8) 1 (.t 25)⟩,⟨some 6,none,.mv (.t 26)⟩])
  (.seq (.seq (.reg [1,0,24,6,29,28,30,7,4,5] [⟨some 27,none,.mv (.t 6)⟩,⟨some 28,none,.lenS (.t 27)⟩,⟨some 29,none,.mv (.c (.lit .i64 0))⟩])
  (.block 0 (.loop 0 (.seq (.reg [1,0,24,6,29,28,30,7,4,5] [⟨some 30,none,.cmp .lss (.t 29) (.t 28)⟩])
   (.seq (.cond (.t 30)
     .skip
     (.exit 0))
   (.seq (.block 1 (.seq (.reg [1,0,24,6,29,28,30,7,4,5] [⟨some 31,none,.mv (.t 29)⟩,⟨some 7,none,.mv (.t 31)⟩])
   (.reg [1,0,24,6,29,28,30,7,4,5] [⟨some 32,none,.mv (.t 6)⟩,⟨some 33,none,.mv (.t 7)⟩,⟨some 34,none,.mv (.t 0)⟩,⟨some 35,none,.mv (.t 1)⟩,⟨some 36,none,.ar .sub .i64 (.t 35) (.c (.lit .i64 1))⟩,⟨some 37,none,.mv (.t 7)⟩,⟨some 38,none,.ar .sub .i64 (.t 36) (.t 37)⟩,⟨some 39,none,.ar .mul .i64 (.c (.lit .i64 8)) (.t 38)⟩,⟨some 40,none,.shf .shr .u64 (.t 34) (.t 39)⟩,⟨some 41,none,.cv .u8 (.t 40)⟩,⟨some 42,none,.iaS 1 (.t 32) (.t 33)⟩,⟨none,none,.st 1 (.t 42) (.t 41)⟩])))
   (.reg [1,0,24,6,29,28,30,7,4,5] [⟨some 43,none,.ar .add .i64 (.t 29) (.c (.lit .i64 1))⟩,⟨some 29,none,.mv (.t 43)⟩])))))))
  (.seq (.reg [1,0,24,6,29,28,30,7,4,5] [⟨some 44,none,.mv (.t 6)⟩,⟨some 4,none,.mv (.t 44)⟩,⟨some 5,none,.mv (.c (.lit .i64 0))⟩])
  .ret)))))⟩
def ic110 : IFn := ⟨1,8,[.t 2],
  (.seq (.reg [0,4,2] [⟨some 2,none,.mv (.c .nsl)⟩])
  (.seq (.seq (.reg [0,4,2] [⟨some 3,none,.mv (.t 0)⟩,⟨some 4,none,.eq .l false (.t 3) (.c .nsl)⟩])
  (.cond (.t 4)
    (.seq (.reg [0,4,2] [⟨some 2,none,.mv (.c .nsl)⟩])
    .ret)
    .skip))
  (.seq (.reg [0,4,2] [⟨some 5,none,.bsl (.i .u8) 0 []⟩,⟨some 6,none,.mv (.t 0)⟩,⟨some 7,none,.app0 (.i .u8) 1 (.t 5) (.t 6)⟩,⟨some 2,none,.mv (.t 7)⟩])
  .ret)))⟩
def ic113 : IFn := ⟨2,14,[.t 4],
  (.seq (.reg [0,1,5,4] [⟨some 4,none,.mv (.c .nsl)⟩])
  (.seq (.reg [0,1,5,4] [⟨some 8,none,.mv (.t 0)⟩,⟨some 9,none,.mv (.t 1)⟩,⟨some 10,none,.call 145 true [((.t 8),.v),((.t 9),.v)]⟩,⟨some 7,none,.mv (.t 10)⟩,⟨some 11,none,.ext 0 (.t 7)⟩,⟨some 12,none,.ext 1 (.t 7)⟩,⟨some 5,none,.mv (.t 11)⟩,⟨some 6,none,.mv (.t 12)⟩])
  (.seq (.reg [0,1,5,4] [⟨some 13,none,.mv (.t 5)⟩,⟨some 4,none,.mv (.t 13)⟩])
  .ret)))⟩
def ic127 : IFn := ⟨1,7,[],
  (.seq (.reg [0,3] [⟨some 2,none,.mv (.t 0)⟩,⟨some 3,none,.eq .p true (.t 2) (.c .nilp)⟩])
  (.cond (.t 3)
    (.reg [0,3] [⟨some 4,none,.mv (.t 0)⟩,⟨some 5,none,.nck (.t 4)⟩,⟨some 6,none,.fa 1 1 (.t 5)⟩,⟨none,none,.st 1 (.t 6) (.c .tt)⟩])
    .skip))⟩
def ic143 : IFn := ⟨2,45,[.t 4],
  (.seq (.reg [0,7,1,24,5,4] [⟨some 4,none,.mv (.c .nsl)⟩])
  (.seq (.seq (.reg [0,7,1,24,5,4] [⟨some 6,none,.mv (.t 0)⟩,⟨some 7,none,.eq .p false (.t 6) (.c .nilp)⟩])
  (.cond (.t 7)
    (.seq (.reg [0,7,1,24,5,4] [⟨some 4,none,.mv (.c .nsl)⟩])
    .ret)
    .skip))
  (.seq (.seq (.reg [0,7,1,24,5,4] [⟨some 8,none,.mv (.t 0)⟩,⟨some 9,none,.nck (.t 8)⟩,⟨some 10,none,.fa 1 1 (.t 9)⟩,⟨some 11,none,.ld 1 false (.t 10)⟩,⟨some 12,none,.mv (.t 11)⟩,⟨some 13,some (12,false),.mv (.t 1)⟩,⟨some 14,some (12,false),.cmp .lss (.t 13) (.c (.lit .i64 0))⟩,⟨some 15,none,.pick (.t 12) (.c .tt) (.t 14)⟩,⟨some 16,none,.mv (.t 15)⟩,⟨some 17,some (16,false),.mv (.t 1)⟩,⟨some 18,some (16,false),.mv (.t 0)⟩,⟨some 19,some (16,false),.nck (.t 18)⟩,⟨some 20,some (16,false),.fa 0 1 (.t 19)⟩,⟨some 21,some (16,false),.ld 1 false (.t 20)⟩,⟨some 22,some (16,false),.lenS (.t 21)⟩,⟨some 23,some (16,false),.cmp .gtr (.t 17) (.t 22)⟩,⟨some 24,none,.pick (.t 16) (.c .tt) (.t 23)⟩])
  (.cond (.t 24)
    (.seq (.reg [0,7,1,24,5,4] [⟨some 25,none,.mv (.t 0)⟩,⟨some 26,none,.nck (.t 25)⟩,⟨some 27,none,.fa 1 1 (.t 26)⟩,⟨none,none,.st 1 (.t 27) (.c .tt)⟩])
    (.seq (.reg [0,7,1,24,5,4] [⟨some 4,none,.mv (.c .nsl)⟩])
    .ret))
    .skip))
  (.seq (.reg [0,7,1,24,5,4] [⟨some 28,none,.mv (.t 0)⟩,⟨some 29,none,.nck (.t 28)⟩,⟨some 30,none,.fa 0 1 (.t 29)⟩,⟨some 31,none,.ld 1 false (.t 30)⟩,⟨some 32,none,.mv (.t 1)⟩,⟨some 33,none,.mv (.t 1)⟩,⟨some 34,none,.slX 1 (.t 31) (.t 32) (.t 33)⟩,⟨some 5,none,.mv (.t 34)⟩])
  (.seq (.reg [0,7,1,24,5,4] [⟨some 35,none,.mv (.t 0)⟩,⟨some 36,none,.mv (.t 0)⟩,⟨some 37,none,.nck (.t 36)⟩,⟨some 38,none,.fa 0 1 (.t 37)⟩,⟨some 39,none,.ld 1 false (.t 38)⟩,⟨some 40,none,.mv (.t 1)⟩,⟨some 41,none,.slS 1 (.t 39) (some (.t 40)) none none⟩,⟨some 42,none,.nck (.t 35)⟩,⟨some 43,none,.fa 0 1 (.t 42)⟩,⟨none,none,.st 1 (.t 43) (.t 41)⟩])
  (.seq (.reg [0,7,1,24,5,4] [⟨some 44,none,.mv (.t 5)⟩,⟨some 4,none,.mv (.t 44)⟩])
  .ret))))))⟩
def ic145 : IFn := ⟨2,33,[.t 4,.t 5],
  (.seq (.reg [1,13,7,19,6,0,31,4,5] [⟨some 4,none,.mv (.c .nsl)⟩,⟨some 5,none,.mv (.c (.lit .i64 0))⟩])
  (.seq (.seq (.reg [1,13,7,19,6,0,31,4,5] [⟨some 8,none,.mv (.t 1)⟩,⟨some 9,none,.cmp .lss (.t 8) (.c (.lit .i64 1))⟩,⟨some 10,none,.mv (.t 9)⟩,⟨some 11,some (10,false),.mv (.t 1)⟩,⟨some 12,some (10,false),.cmp .gtr (.t 11) (.c (.lit .i64 8))⟩,⟨some 13,none,.pick (.t 10) (.c .tt) (.t 12)⟩])
  (.cond (.t 13)
    (.seq (.reg [1,13,7,19,6,0,31,4,5] [⟨some 4,none,.mv (.c .nsl)⟩,⟨some 5,none,.mv (.c (.lit .i64 2))⟩])
    .ret)
    .skip))
  (.seq (.reg [1,13,7,19,6,0,31,4,5] [⟨some 14,none,.mv (.t 1)⟩,⟨some 15,none,.mks (.i .u8) 1 (.t 14)⟩,⟨some 6,none,.mv (.t 15)⟩])
  (.seq (.seq (.reg [1,13,7,19,6,0,31,4,5] [⟨some 16,none,.mv (.t 1)⟩,⟨some 17,none,.ar .sub .i64 (.t 16) (.c (.lit .i64 1))⟩,⟨some 7,none,.mv (.t 17)⟩])
  (.block 0 (.loop 0 (.seq (.seq (.reg [1,13,7,19,6,0,31,4,5] [⟨some 18,none,.mv (.t 7)⟩,⟨some 19,none,.cmp .geq (.t 18) (.c (.lit .i64 0))⟩])
   (.cond (.t 19)
     .skip
     (.exit 0)))
   (.seq (.block 1 (.seq (.reg [1,13,7,19,6,0,31,4,5] [⟨some 22,none,.mv (.t 6)⟩,⟨some 23,none,.mv (.t 7)⟩,⟨some 24,none,.mv (.t 0)⟩,⟨some 25,none,.ar .rem .u64 (.t 24) (.c (.lit .u64 256))⟩,⟨some 26,none,.cv .u8 (.t 25)⟩,⟨some 27,none,.iaS 1 (.t 22) (.t 23)⟩,⟨none,none,.st 1 (.t 27) (.t 26)⟩])
   (.reg [1,13,7,19,6,0,31,4,5] [⟨some 28,none,.mv (.t 0)⟩,⟨some 29,none,.ar .quo .u64 (.t 28) (.c (.lit .u64 256))⟩,⟨some 0,none,.mv (.t 29)⟩])))
   (.reg [1,13,7,19,6,0,31,4,5] [⟨some 20,none,.mv (.t 7)⟩,⟨some 21,none,.ar .sub .i64 (.t 20) (.c (.lit .i64 1))⟩,⟨some 7,none,.mv (.t 21)⟩]))))))
  (.seq (.seq (.reg [1,13,7,19,6,0,31,4,5] [⟨some 30,none,.mv (.t 0)⟩,⟨some 31,none,.cmp .neq (.t 30) (.c (.lit .u64 0))⟩])
  (.cond (.t 31)
    (.seq (.reg [1,13,7,19,6,0,31,4,5] [⟨some 4,none,.mv (.c .nsl)⟩,⟨some 5,none,.mv (.c (.lit .i64 2))⟩])
    .ret)
    .skip))
  (.seq (.reg [1,13,7,19,6,0,31,4,5] [⟨some 32,none,.mv (.t 6)⟩,⟨some 4,none,.mv (.t 32)⟩,⟨some 5,none,.mv (.c (.lit .i64 0))⟩])
  .ret))))))⟩
theorem ok94 : fnOk Tryd.prog 94 = true := by kernel_rfl
theorem co94 : comp Tryd.prog pu 94 = some ic94 := by kernel_rfl
theorem ok95 : fnOk Tryd.prog 95 = true := by kernel_rfl
theorem co95 : comp Tryd.prog pu 95 = some ic95 := by kernel_rfl
theorem ok96 : fnOk Tryd.prog 96 = true := by kernel_rfl
theorem co96 : comp Tryd.prog pu 96 = some ic96 := by kernel_rfl
theorem ok97 : fnOk Tryd.prog 97 = true := by kernel_rfl
theorem co97 : comp Tryd.prog pu 97 = some ic97 := by kernel_rfl
theorem ok98 : fnOk Tryd.prog 98 = true := by kernel_rfl
theorem co98 : comp Tryd.prog pu 98 = some ic98 := by kernel_rfl
theorem ok99 : fnOk Tryd.prog 99 = true := by kernel_rfl
theorem co99 : comp Tryd.prog pu 99 = some ic99 := by kernel_rfl
theorem ok100 : fnOk Tryd.prog 100 = true := by kernel_rfl
theorem co100 : comp Tryd.prog pu 100 = some ic100 := by kernel_rfl
theorem ok101 : fnOk Tryd.prog 101 = true := by kernel_rfl
theorem co101 : comp Tryd.prog pu 101 = some ic101 := by kernel_rfl
theorem ok102 : fnOk Tryd.prog 102 = true := by kernel_rfl
theorem co102 : comp Tryd.prog pu 102 = some ic102 := by kernel_rfl
theorem ok103 : fnOk Tryd.prog 103 = true := by kernel_rfl
theorem co103 : comp Tryd.prog pu 103 = some ic103 := by kernel_rfl
theorem ok104 : fnOk Tryd.prog 104 = true := by kernel_rfl
theorem co104 : comp Tryd.prog pu 104 = some ic104 := by kernel_rfl
theorem ok107 : fnOk Tryd.prog 107 = true := by kernel_rfl
theorem co107 : comp Tryd.prog pu 107 = some ic107 := by kernel_rfl
theorem ok110 : fnOk Tryd.prog 110 = true := by kernel_rfl
theorem co110 : comp Tryd.prog pu 110 = some ic110 := by kernel_rfl
theorem ok113 : fnOk Tryd.prog 113 = true := by kernel_rfl
theorem co113 : comp Tryd.prog pu 113 = some ic113 := by kernel_rfl
theorem ok127 : fnOk Tryd.prog 127 = true := by kernel_rfl
theorem co127 : comp Tryd.prog pu 127 = some ic127 := by kernel_rfl
theorem ok143 : fnOk Tryd.prog 143 = true := by kernel_rfl
theorem co143 : comp Tryd.prog pu 143 = some ic143 := by kernel_rfl
theorem ok145 : fnOk Tryd.prog 145 = true := by kernel_rfl
theorem co145 : comp Tryd.prog pu 145 = some ic145 := by kernel_rfl
end Go.Cx.Rb
