/-
  Cx 32: a function's first state: what its objects own gets handles of its own.
-/
import Derived.Test.YtojllgpnhaaagaaDoorCxE
import Derived.IntWalk
import Derived.WalkKit
import Derived.ProofKit
import Derived.OpenShut
import Derived.Deep.DeepHandedRow
import Derived.Lib.LaidTab
namespace Go.Cx
open Go

/-- the first owned leaf of content, replaced by a handle: the rest, the leaf's content, its place -/
def opn1 (hk : Nat) : V → Option (V × V × Nat)
  | .osl n e c => some (.sl hk [] 0 n e none, c, 0)
  | .optr c => some (.ptr hk [], c, 0)
  | .cat n m a b => match opn1 hk a with
    | some r => some (.cat n m r.1 b, r.2.1, r.2.2)
    | none => match opn1 hk b with
      | some r => some (.cat n m a r.1, r.2.1, n + r.2.2)
      | none => none
  | _ => none

def opn : Nat → Nat → List Nat → (Nat → Option Blk) → Nat → Option Blk
  | 0, _, _, h => h
  | _, _, [], h => h
  | f + 1, hk, k :: ks, h => match h k with
    | some ⟨.own, c⟩ => match h hk with
      | some _ => h
      | none => match opn1 hk c with
        | some r => opn f (hk + 1) (k :: ks ++ [hk]) (upd (upd h k (some ⟨.own, r.1⟩)) hk (some ⟨.own, r.2.1⟩))
        | none => opn f hk ks h
    | _ => opn f hk ks h

section
variable {I : Nat → Prop} {w : World} {ow ow' : Own}

/-- content hangs on the owners of its own places alone -/
theorem CRep.sub (c : V) : ∀ (ρ ρ' : Rho) (q q' : List Nat) (pos pos' : Nat) (g : Nat → Option Value), Rho.le ρ ρ' →
    (q ≠ [] → q' ≠ [] ∧ ∀ b p r, p < c.size → ow b = some (q ++ (pos + p) :: r) → ow' b = some (q' ++ (pos' + p) :: r)) → CRep I w ow c ρ q pos g → CRep I w ow' c ρ' q' pos' g := by
  induction c with
  | ptr h p => intro ρ ρ' q q' pos pos' g hρ _ hc; obtain ⟨b, off, sz, h1, h2⟩ := hc; exact ⟨b, off, sz, hρ _ _ h1, h2⟩
  | sl h p i n e cap => intro ρ ρ' q q' pos pos' g hρ _ hc; obtain ⟨a, c, l, h1, h2, h3⟩ := hc; exact ⟨a, c, l, h1, hρ _ _ h2, h3⟩
  | dptr c p ih => intro ρ ρ' q q' pos pos' g hρ _ hc; obtain ⟨b, off, h1, h2, h3⟩ := hc; exact ⟨b, off, h1, h2, ih _ _ _ _ _ _ _ (Rho.le_refl _) (fun e => absurd rfl e) h3⟩
  | dsl n e c ih => intro ρ ρ' q q' pos pos' g hρ _ hc; obtain ⟨a, cp, h1, h2, h3, h4, h5, h6⟩ := hc; exact ⟨a, cp, h1, h2, h3, h4, ih _ _ _ _ _ _ _ (Rho.le_refl _) (fun e => absurd rfl e) h5, h6⟩
  | cat n m a b iha ihb =>
    intro ρ ρ' q q' pos pos' g hρ ho hc
    obtain ⟨h1, h2, h3, h4⟩ := hc
    refine ⟨h1, h2, iha _ _ _ _ _ _ _ hρ (fun e => ⟨(ho e).1, fun b p r hp hb => (ho e).2 b p r (by simp only [V.size]; omega) hb⟩) h3, ihb _ _ _ _ _ _ _ hρ (fun e => ⟨(ho e).1, fun b p r hp hb => ?_⟩) h4⟩
    have := (ho e).2 b (n + p) r (by simp only [V.size]; omega) (by rw [Nat.add_assoc] at hb; exact hb)
    rw [Nat.add_assoc]; exact this
  | rows e n f ih => intro ρ ρ' q q' pos pos' g hρ _ hc j hj; exact ⟨(hc j hj).1, ih j _ _ _ _ _ _ _ (Rho.le_refl _) (fun e => absurd rfl e) (hc j hj).2⟩
  | one a ih => intro ρ ρ' q q' pos pos' g hρ ho hc; exact ⟨hc.1, ih _ _ _ _ _ _ _ hρ ho hc.2⟩
  | osl n e c ih =>
    intro ρ ρ' q q' pos pos' g hρ ho hc
    obtain ⟨hq, a, cp, h1, h2, h3, hrow, h4⟩ := hc
    obtain ⟨hq', ho⟩ := ho hq
    refine ⟨hq', a, cp, h1, h2, h3, hrow, ?_⟩
    rcases h4 with ⟨h5, h6⟩ | ⟨b, off, cur, ha, hb, hc, hsz, h6⟩
    · exact .inl ⟨h5, ih _ _ _ _ _ _ _ (Rho.le_refl _) (fun e => absurd rfl e) h6⟩
    · refine .inr ⟨b, off, cur, ha, ho b 0 [] (by simp [V.size]) hb, hc, hsz, ih _ _ _ _ _ _ _ (Rho.le_refl _) (fun _ => ⟨by simp, fun b' p r _ hb' => ?_⟩) h6⟩
      have := ho b' 0 ((0 + p) :: r) (by simp [V.size]) (by simpa using hb')
      simpa using this
  | optr c ih =>
    intro ρ ρ' q q' pos pos' g hρ ho hc
    obtain ⟨hq, b, off, cur, h1, hb, hc, h5, h6⟩ := hc
    obtain ⟨hq', ho⟩ := ho hq
    refine ⟨hq', b, off, cur, h1, ho b 0 [] (by simp [V.size]) hb, hc, h5, ih _ _ _ _ _ _ _ (Rho.le_refl _) (fun _ => ⟨by simp, fun b' p r _ hb' => ?_⟩) h6⟩
    have := ho b' 0 ((0 + p) :: r) (by simp [V.size]) (by simpa using hb')
    simpa using this
  | _ => intro ρ ρ' q q' pos pos' g _ _ hc; exact hc

def LeafAt (I : Nat → Prop) (w : World) (ow : Own) (c2 : V) (q : List Nat) (p : Nat) (lo : Lo) : Prop :=
  (lo = .ph ∧ c2.size = 0 ∧ CRep I w ow c2 noR [] 0 (fun _ => none)) ∨
    ∃ k off sz cur, lo = .at k off sz ∧ ow k = some (q ++ [p]) ∧ OwnBlk w k cur ∧ cur.size = off + sz ∧ CRep I w ow c2 noR (q ++ [p]) 0 (fun j => cur[off + j]?)

theorem opn1_spec {hk : Nat} : ∀ (c : V) {c' c2 : V} {p : Nat} {ρ : Rho} {q : List Nat} {pos : Nat} {g : Nat → Option Value}, opn1 hk c = some (c', c2, p) → CRep I w ow c ρ q pos g →
    q ≠ [] ∧ c'.size = c.size ∧ c'.isAgg = c.isAgg ∧ ∃ lo, LeafAt I w ow c2 q (pos + p) lo ∧ ∀ (ρ' : Rho) (ow' : Own), Rho.le ρ ρ' → ρ' hk = some lo →
      (∀ b p' r, p' ≠ pos + p → ow b = some (q ++ p' :: r) → ow' b = some (q ++ p' :: r)) → CRep I w ow' c' ρ' q pos g := by
  intro c
  induction c with
  | osl n e c _ =>
    intro c' c2 p ρ q pos g h hc
    cases h
    obtain ⟨hq, a, cp, h1, h2, h3, hrow, h4⟩ := hc
    refine ⟨hq, rfl, rfl, ?_⟩
    rcases h4 with ⟨rfl, h6⟩ | ⟨b, off, cur, rfl, hb, hcb, hsz, h6⟩
    · obtain rfl : n = 0 := by omega
      exact ⟨.ph, .inl ⟨rfl, isRow_zero hrow, h6⟩, fun ρ' ow' _ hl _ => ⟨a, 0, .ph, h1, hl, by omega, h3, trivial, .inl rfl⟩⟩
    · refine ⟨.at b off (cur.size - off), .inr ⟨b, off, _, cur, rfl, hb, hcb, by omega, h6⟩, fun ρ' ow' _ hl _ => ⟨_, cp, _, h1, hl, h2, h3, trivial, .inr ⟨b, off, _, rfl, by simp [poff], by simp only [poff]; omega⟩⟩⟩
  | optr c _ =>
    intro c' c2 p ρ q pos g h hc
    cases h
    obtain ⟨hq, b, off, cur, h1, hb, hcb, h5, h6⟩ := hc
    refine ⟨hq, rfl, rfl, .at b off (cur.size - off), .inr ⟨b, off, _, cur, rfl, hb, hcb, by omega, h6⟩, fun ρ' ow' _ hl _ => ⟨b, off, _, hl, by simpa [poff] using h1⟩⟩
  | cat n m a b iha ihb =>
    intro c' c2 p ρ q pos g h hc
    simp only [opn1] at h
    obtain ⟨h1, h2, h3, h4⟩ := hc
    split at h
    · rename_i r hr
      obtain ⟨a', c2', p'⟩ := r
      cases h
      obtain ⟨g1, g2, _, lo, g4, g5⟩ := iha hr h3
      refine ⟨g1, rfl, rfl, lo, g4, fun ρ' ow' hρ hl ho => ⟨g2.trans h1, h2, g5 ρ' ow' hρ hl ho, ?_⟩⟩
      have hp : p' < n := by
        rw [← h1]
        exact opn1_lt hr h3
      exact CRep.sub _ _ _ _ _ _ _ _ hρ (fun _ => ⟨g1, fun b' p2 r _ hb' => ho b' _ r (by simp only; omega) hb'⟩) h4
    · split at h
      · rename_i r hr
        obtain ⟨b', c2', p'⟩ := r
        cases h
        obtain ⟨g1, g2, _, lo, g4, g5⟩ := ihb hr h4
        rw [Nat.add_assoc] at g4
        refine ⟨g1, rfl, rfl, lo, g4, fun ρ' ow' hρ hl ho => ⟨h1, g2.trans h2, ?_, g5 ρ' ow' hρ hl (fun b p' r hne hb => ho b p' r (by simp only; omega) hb)⟩⟩
        exact CRep.sub _ _ _ _ _ _ _ _ hρ (fun _ => ⟨g1, fun b' p' r hp' hb' => ho b' _ r (by simp only; omega) hb'⟩) h3
      · cases h
  | _ => intro c' c2 p ρ q pos g h; cases h
where
  opn1_lt {hk : Nat} : ∀ {c : V} {c' c2 : V} {p : Nat} {ρ : Rho} {q : List Nat} {pos : Nat} {g : Nat → Option Value}, opn1 hk c = some (c', c2, p) → CRep I w ow c ρ q pos g → p < c.size := by
    intro c
    induction c with
    | osl n e c _ => intro c' c2 p ρ q pos g h _; cases h; simp [V.size]
    | optr c _ => intro c' c2 p ρ q pos g h _; cases h; simp [V.size]
    | cat n m a b iha ihb =>
      intro c' c2 p ρ q pos g h hc
      simp only [opn1] at h
      obtain ⟨h1, h2, h3, h4⟩ := hc
      split at h
      · rename_i r hr
        obtain ⟨a', c2', p'⟩ := r
        cases h
        have := iha hr h3
        simp only [V.size]; omega
      · split at h
        · rename_i r hr
          obtain ⟨b', c2', p'⟩ := r
          cases h
          have := ihb hr h4
          simp only [V.size]; omega
        · cases h
    | _ => intro c' c2 p ρ q pos g h; cases h
end

section
variable {X : Fix} {I : Nat → Prop} {ρ : Rho} {ow : Own} {s : St} {tm : Array Value} {w : World}

theorem Rep.open1 (h : Rep X I ρ ow s tm w) {hd hk : Nat} {c c' c2 : V} {p : Nat} (hh : s.h hd = some ⟨.own, c⟩) (hn : s.h hk = none) (hlt : hk < 100000) (ho : opn1 hk c = some (c', c2, p)) :
    ∃ ρ' ow', Rho.le ρ ρ' ∧ Rep X I ρ' ow' ⟨s.t, upd (upd s.h hd (some ⟨.own, c'⟩)) hk (some ⟨.own, c2⟩)⟩ tm w := by
  have hne : hd ≠ hk := fun e => by rw [e, hn] at hh; cases hh
  have hnk : ρ hk = none := by
    cases hρ : ρ hk with
    | none => rfl
    | some l => exact absurd hn (h.dom hk l hρ hlt)
  obtain ⟨l, hl, hB⟩ := h.heap hd _ hh
  obtain ⟨k, off, sz, cur, rfl, hk1, hk2, hk3, hk4⟩ : ∃ k off sz cur, l = .at k off sz ∧ ow k = some [hd] ∧ OwnBlk w k cur ∧ cur.size = off + sz ∧ CRep I w ow c ρ [hd] 0 (fun j => cur[off + j]?) := by
    rcases hB with ⟨_, _, h3⟩ | h3
    · exact absurd rfl (opn1_spec c ho h3).1
    · exact h3
  obtain ⟨_, g2, _, lo, g4, g5⟩ := opn1_spec c ho hk4
  rw [Nat.zero_add] at g4 g5
  let ρ' : Rho := fun b => if b = hk then some lo else ρ b
  let ow' : Own := fun b => match ow b with
    | some (x :: y :: r) => if x = hd ∧ y = p then some (hk :: r) else some (x :: y :: r)
    | o => o
  have hle : Rho.le ρ ρ' := fun b l hb => by
    have : b ≠ hk := fun e => by rw [e, hnk] at hb; cases hb
    simp only [ρ', if_neg this, hb]
  have o1 : ∀ b x, ow b = some [x] → ow' b = some [x] := fun b x hb => by simp only [ow', hb]
  have o2 : ∀ b x r, x ≠ hd → ow b = some (x :: r) → ow' b = some (x :: r) := fun b x r hx hb => by
    cases r with
    | nil => exact o1 b x hb
    | cons y r => simp only [ow', hb]; rw [if_neg (fun e => hx e.1)]
  have o3 : ∀ b y r, y ≠ p → ow b = some (hd :: y :: r) → ow' b = some (hd :: y :: r) := fun b y r hy hb => by
    simp only [ow', hb]; rw [if_neg (fun e => hy e.2)]
  have o4 : ∀ b r, ow b = some (hd :: p :: r) → ow' b = some (hk :: r) := fun b r hb => by simp [ow', hb]
  have o5 : ∀ b, ow b = none → ow' b = none := fun b hb => by simp [ow', hb]
  have o6 : ∀ b q, ow' b = some q → ∃ x r, ow b = some (x :: r) ∧ (q = x :: r ∨ (x = hd ∧ ∃ r', q = hk :: r')) := fun b q hb => by
    simp only [ow'] at hb
    split at hb
    · rename_i x y r hxy
      split at hb
      · rename_i e
        cases hb
        exact ⟨x, y :: r, hxy, .inr ⟨e.1, r, rfl⟩⟩
      · cases hb
        exact ⟨x, y :: r, hxy, .inl rfl⟩
    · obtain ⟨_, _, x, r, c, e, _⟩ := h.owf b q hb
      subst e
      exact ⟨x, r, hb, .inl rfl⟩
  refine ⟨ρ', ow', hle, ?_⟩
  exact
    { h with
      iow := fun b hb => o5 b (h.iow b hb)
      owf := fun b q hb => by
        obtain ⟨x, r, e1, e2⟩ := o6 b q hb
        obtain ⟨g6, g7, x', r', cx, g8, g9⟩ := h.owf b _ e1
        cases g8
        refine ⟨g6, g7, ?_⟩
        rcases e2 with rfl | ⟨rfl, r'', rfl⟩
        · have hxk : x ≠ hk := fun e => by rw [e, hn] at g9; cases g9
          by_cases e : x = hd
          · subst e; exact ⟨x, r, c', rfl, by simp only [upd_ne _ _ hxk, upd_same]⟩
          · exact ⟨x, r, cx, rfl, by simp only [upd_ne _ _ hxk, upd_ne _ _ e]; exact g9⟩
        · exact ⟨hk, r'', c2, rfl, by simp only [upd_same]⟩
      dom := fun b l hb hb2 => by
        by_cases e : b = hk
        · subst e; simp [upd]
        · simp only [ρ', if_neg e] at hb
          simp only [upd_ne _ _ e]
          by_cases e2 : b = hd
          · subst e2; simp [upd]
          · simp only [upd_ne _ _ e2]; exact h.dom b l hb hb2
      glob := fun n => by
        obtain ⟨sz, hg⟩ := h.glob n
        exact ⟨sz, hle _ _ hg⟩
      rle := fun b l hb => hle _ _ (h.rle b l hb)
      tmps := fun i => (h.tmps i).mono (fun b hb => ⟨hb, rfl⟩) hle
      heap := fun b blk hb => by
        by_cases e : b = hk
        · subst e
          simp only [upd_same, Option.some.injEq] at hb
          subst hb
          refine ⟨lo, by simp [ρ'], ?_⟩
          rcases g4 with ⟨rfl, h2, h3⟩ | ⟨k', off', sz', cur', rfl, h2, h3, h4, h5⟩
          · exact .inl ⟨rfl, h2, CRep.sub _ _ _ _ _ _ _ _ (noR_le _) (fun e => absurd rfl e) h3⟩
          · refine .inr ⟨k', off', sz', cur', rfl, o4 _ _ (by simpa using h2), h3, h4, CRep.sub _ _ _ _ _ _ _ _ (noR_le _) (fun _ => ⟨by simp, fun b' p' r _ hb' => ?_⟩) h5⟩
            have := o4 b' ((0 + p') :: r) (by simpa using hb')
            simpa using this
        · simp only [upd_ne _ _ e] at hb
          by_cases e2 : b = hd
          · subst e2
            simp only [upd_same, Option.some.injEq] at hb
            subst hb
            refine ⟨_, hle _ _ hl, .inr ⟨k, off, sz, cur, rfl, o1 _ _ hk1, hk2, hk3, g5 ρ' ow' hle (by simp [ρ']) (fun b' p' r hp hb' => ?_)⟩⟩
            exact o3 b' p' r (by omega) (by simpa using hb')
          · simp only [upd_ne _ _ e2] at hb
            obtain ⟨l', h1, h2⟩ := h.heap b blk hb
            exact ⟨l', hle _ _ h1, BRep.keep h (Only.refl w none) (fun k e => by cases e) (fun _ h => h) hle h2 (fun k' r hk' => ⟨by simp, o2 _ _ _ e2 hk'⟩) (fun b' _ h => o5 b' h)⟩ }

theorem Rep.opens : ∀ (f hk : Nat) (ks : List Nat) {ρ : Rho} {ow : Own} {hh : Nat → Option Blk}, hk + f ≤ 100000 → Rep X I ρ ow ⟨s.t, hh⟩ tm w → ∃ ρ' ow', Rho.le ρ ρ' ∧ Rep X I ρ' ow' ⟨s.t, opn f hk ks hh⟩ tm w := by
  intro f
  induction f with
  | zero => intro hk ks ρ ow hh _ h; exact ⟨ρ, ow, Rho.le_refl _, h⟩
  | succ f ih =>
    intro hk ks ρ ow hh hlt h
    cases ks with
    | nil => exact ⟨ρ, ow, Rho.le_refl _, h⟩
    | cons k ks =>
      simp only [opn]
      split
      · rename_i c hc
        split
        · exact ⟨ρ, ow, Rho.le_refl _, h⟩
        · rename_i hn
          split
          · rename_i r hr
            obtain ⟨c', c2, p⟩ := r
            obtain ⟨ρ1, ow1, h1, h2⟩ := h.open1 (hd := k) (hk := hk) hc hn (by omega) hr
            obtain ⟨ρ2, ow2, h3, h4⟩ := ih (hk + 1) (k :: ks ++ [hk]) (by omega) h2
            exact ⟨ρ2, ow2, fun b l hb => h3 b l (h1 b l hb), h4⟩
          · exact ih hk ks (by omega) h
      · exact ih hk ks (by omega) h
end
end Go.Cx

/- Cx 33: a function's last state, told by what it hands over. -/
namespace Go.Cx
open Go

/-- which handles go into content, and where -/
def mtP (h : Nat → Option Blk) : V → V → List Nat → Nat → List (Nat × List Nat)
  | .cat n _ a b, .cat _ _ a' b', q, pos => mtP h a a' q pos ++ mtP h b b' q (pos + n)
  | .one a, .one b, q, pos => mtP h a b q pos
  | .tcons a b, .tcons a' b', q, pos => mtP h a a' q pos ++ mtP h b b' q pos
  | .osl _ _ _, .sl b _ _ _ _ _, q, pos => [(b, q ++ [pos])]
  | .optr c, .optr c', q, pos => mtP h c c' (q ++ [pos]) 0
  | .optr c, .ptr b _, q, pos => match h b with
    | some blk => (b, q ++ [pos]) :: mtP h c blk.c (q ++ [pos]) 0
    | none => []
  | _, _, _, _ => []

theorem clo_hAll {f : Nat → Bool} : ∀ (c : V), c.clo = true → c.hAll f = true := by
  intro c
  induction c with
  | cat n m a b iha ihb => intro h; simp only [V.clo, Bool.and_eq_true] at h; simp [V.hAll, iha h.1, ihb h.2]
  | tcons a b iha ihb => intro h; simp only [V.clo, Bool.and_eq_true] at h; simp [V.hAll, iha h.1, ihb h.2]
  | one a ih => intro h; simpa [V.hAll] using ih (by simpa [V.clo] using h)
  | ptr hd p => intro h; simp [V.clo] at h
  | sl hd p i n e cap => intro h; simp [V.clo] at h
  | _ => intro _; rfl

theorem mtP_pre {h : Nat → Option Blk} : ∀ (c c' : V) {q : List Nat} {pos y : Nat} {path : List Nat}, (y, path) ∈ mtP h c c' q pos → ∃ r, path = q ++ r := by
  intro c
  induction c with
  | cat n m a b iha ihb =>
    intro c' q pos y path hm
    cases c' <;> simp only [mtP, List.not_mem_nil] at hm
    rcases List.mem_append.1 hm with hm | hm
    · exact iha _ hm
    · exact ihb _ hm
  | tcons a b iha ihb =>
    intro c' q pos y path hm
    cases c' <;> simp only [mtP, List.not_mem_nil] at hm
    rcases List.mem_append.1 hm with hm | hm
    · exact iha _ hm
    · exact ihb _ hm
  | one a ih =>
    intro c' q pos y path hm
    cases c' <;> simp only [mtP, List.not_mem_nil] at hm
    exact ih _ hm
  | osl n e c _ =>
    intro c' q pos y path hm
    cases c' <;> simp only [mtP, List.not_mem_nil, List.mem_singleton, Prod.mk.injEq] at hm
    exact ⟨[pos], hm.2⟩
  | optr c ih =>
    intro c' q pos y path hm
    cases c' <;> simp only [mtP, List.not_mem_nil] at hm
    · split at hm
      · rename_i blk hblk
        rcases List.mem_cons.1 hm with hm | hm
        · cases hm; exact ⟨[pos], rfl⟩
        · obtain ⟨r, e⟩ := ih _ hm
          exact ⟨pos :: r, by simp [e]⟩
      · simp at hm
    · obtain ⟨r, e⟩ := ih _ hm
      exact ⟨pos :: r, by simp [e]⟩
  | _ => intro c' q pos y path hm; cases c' <;> simp [mtP] at hm

section
variable {I : Nat → Prop} {w : World} {r : List (Nat × Nat)} {h : Nat → Option Blk}

theorem row_fst {c c' : V} {x : List Nat} (hb : c.isRowB = true) (hm : (mtC apf r h c c').to x) : x = [] := by
  cases c <;> first | cases hb | skip
  · cases c' <;> first | exact hm.elim | skip
    obtain ⟨_, _, _, h2⟩ := rif_to hm
    exact h2.symm
  · cases c' <;> first | exact hm.elim | skip
    obtain ⟨_, _, _, h2⟩ := rif_to hm
    exact h2.symm

theorem nilR_fst {n e : Nat} {c : V} {x : List Nat} (hm : (nilR apf n e c).to x) : x = [] := by
  cases c <;> first | exact hm.elim | skip
  · obtain ⟨_, _, _, _, h2⟩ := rif_to hm
    exact h2.symm
  · obtain ⟨_, _, _, h2⟩ := rif_to hm
    exact h2.symm

theorem mtC_fst : ∀ (c c' : V) {x : List Nat} {q : List Nat} {pos : Nat}, c.clo = true → (mtC apf r h c c').to x → x = (mtP h c c' q pos).map (·.1) := by
  intro c
  induction c with
  | cat n m a b iha ihb =>
    intro c' x q pos hc hm
    simp only [V.clo, Bool.and_eq_true] at hc
    cases c' <;> first | exact hm.elim | skip
    obtain ⟨h1, hm1⟩ := rif_to hm
    obtain ⟨x1, h2, hm2⟩ := bind_to hm1
    obtain ⟨x2, h3, h4⟩ := bind_to hm2
    have h4 : x1 ++ x2 = x := h4
    simp only [mtP, List.map_append]
    rw [← iha _ hc.1 h2, ← ihb _ hc.2 h3, h4]
  | one a ih =>
    intro c' x q pos hc hm
    cases c' <;> first | exact hm.elim | skip
    exact ih _ (by simpa [V.clo] using hc) hm
  | osl n e c _ =>
    intro c' x q pos hc hm
    cases c' with
    | osl n' e' c' =>
      obtain ⟨h1, h2, h3⟩ := rif_to hm
      simp only [Bool.and_eq_true] at h1
      exact row_fst h1.2 h3
    | nsl => exact nilR_fst (show (nilR apf n e c).to x from hm)
    | zsl => exact nilR_fst (show (nilR apf n e c).to x from hm)
    | sl b' p' i' n' e' cap' =>
      simp only [mtC] at hm
      split at hm
      · obtain ⟨h1, _, hm1⟩ := rif_to hm
        obtain ⟨c2, _, _, hm2⟩ := bind_to hm1
        obtain ⟨x2, h3, hm3⟩ := bind_to hm2
        simp only [Bool.and_eq_true] at h1
        have h4 := row_fst h1.1.2 h3
        subst h4
        exact hm3.symm
      · exact hm.elim
    | _ => exact hm.elim
  | optr c ih =>
    intro c' x q pos hc hm
    simp only [V.clo] at hc
    cases c' with
    | optr c' => exact ih _ hc hm
    | ptr b p =>
      cases p with
      | cons _ _ => exact hm.elim
      | nil =>
        simp only [mtC] at hm
        split at hm
        · rename_i c2 hb
          obtain ⟨x2, h3, hm3⟩ := bind_to hm
          have hm3 : b :: x2 = x := hm3
          simp only [mtP, hb, List.map_cons]
          rw [← hm3, ih c2 (q := q ++ [pos]) (pos := 0) hc h3]
        · exact hm.elim
    | _ => exact hm.elim
  | tcons a b iha ihb =>
    intro c' x q pos hc hm
    simp only [V.clo, Bool.and_eq_true] at hc
    cases c' <;> first | exact hm.elim | skip
    obtain ⟨x1, h2, hm2⟩ := bind_to hm
    obtain ⟨x2, h3, h4⟩ := bind_to hm2
    have h4 : x1 ++ x2 = x := h4
    simp only [mtP, List.map_append]
    rw [← iha _ hc.1 h2, ← ihb _ hc.2 h3, h4]
  | dsl n e c _ =>
    intro c' x q pos hc hm
    cases c' <;> first | exact hm.elim | skip
    case nsl => exact nilR_fst (show (nilR apf n e c).to x from hm)
    case zsl => exact nilR_fst (show (nilR apf n e c).to x from hm)
    obtain ⟨h1, h2, h3⟩ := rif_to hm
    simp only [Bool.and_eq_true] at h1
    exact row_fst h1.2 h3
  | any => intro c' x q pos hc; cases hc
  | ptr hd p => intro c' x q pos hc; cases hc
  | sl hd p i n e cap => intro c' x q pos hc; cases hc
  | ints k n l => intro c' x q pos hc hm; have := row_fst rfl hm; subst this; cases c' <;> rfl
  | rows e n f => intro c' x q pos hc hm; have := row_fst rfl hm; subst this; cases c' <;> rfl
  | _ =>
    intro c' x q pos hc hm
    cases c' <;> first | exact hm.elim | exact hm.symm | exact hm.2.symm | exact (rif_to hm).2.2.symm

variable {ow ow' : Own} {ρ : Rho}

/-- no element behind nothing -/
theorem subs_none {c c2 : V} {j : Nat} (h : (c.subs apf j 0).to c2) : CRep I w ow' c2 noR [] 0 (fun _ => none) := by
  cases c <;> simp only [V.subs] at h <;> first | exact h.elim | skip
  · cases h
    exact ⟨by simp [apf, subL], by simp [apf, subL], fun j hj => by omega⟩
  · cases h
    exact fun j hj => by omega

theorem subs_row {c c2 : V} {i m e n : Nat} (h : (c.subs apf i m).to c2) (hr : isRow e n c) : isRow e m c2 := by
  cases c <;> simp only [V.subs] at h <;> first | exact h.elim | skip
  · cases h; exact ⟨rfl, hr.2⟩
  · cases h; exact ⟨rfl, hr.2⟩

/-- Content that matches a shape is told by the shape, with what goes into it. -/
theorem mtC_own (hheap : ∀ b blk, h b = some blk → ∃ l, ρ b = some l ∧ BRep I w ρ ow b l blk) : ∀ (c c' : V) {ρ1 ρ' : Rho} {q q' : List Nat} {pos : Nat} {g : Nat → Option Value} {x : List Nat}, c.clo = true → Rho.le ρ1 ρ → (mtC apf r h c c').to x →
    (q ≠ [] → q' ≠ [] ∧ ∀ b p rr, ow b = some (q ++ p :: rr) → ow' b = some (q' ++ p :: rr)) → (∀ y path rr b, (y, path) ∈ mtP h c c' q' pos → ow b = some (y :: rr) → ow' b = some (path ++ rr)) → (q' ≠ [] ∨ c.noown = true) →
    CRep I w ow c' ρ1 q pos g → CRep I w ow' c ρ' q' pos g := by
  intro c
  have plain : ∀ (c c' : V) {ρ1 ρ' : Rho} {q q' : List Nat} {pos : Nat} {g : Nat → Option Value}, c.clo = true → (mtC apf r h c c').to [] →
      (q ≠ [] → q' ≠ [] ∧ ∀ b p rr, ow b = some (q ++ p :: rr) → ow' b = some (q' ++ p :: rr)) → (q' ≠ [] ∨ c.noown = true) → CRep I w ow c' ρ1 q pos g → CRep I w ow' c ρ' q' pos g := by
    intro c c' ρ1 ρ' q q' pos g hc hm ho hq hr
    refine mtC_rep c c' (has := fun _ => false) hm (clo_hAll c hc) (fun _ _ e => by cases e) (fun e => ⟨(ho e).1, fun b rr hrr hb => ?_⟩) hq hr
    cases rr with
    | nil => exact absurd rfl hrr
    | cons p rr => exact (ho e).2 b p rr hb
  induction c with
  | cat n m a b iha ihb =>
    intro c' ρ1 ρ' q q' pos g x hc hρ hm ho hp hq hr
    simp only [V.clo, Bool.and_eq_true] at hc
    simp only [V.noown, Bool.and_eq_true] at hq
    cases c' <;> first | exact hm.elim | skip
    rename_i n' m' a' b'
    obtain ⟨h1, hm1⟩ := rif_to hm
    obtain ⟨x1, h2, hm2⟩ := bind_to hm1
    obtain ⟨x2, h3, h4⟩ := bind_to hm2
    simp only [Bool.and_eq_true, beq_iff_eq] at h1
    obtain ⟨rfl, rfl⟩ := h1
    obtain ⟨g1, g2, g3, g4⟩ := hr
    refine ⟨(mtC_size a _ h2).1.trans g1, (mtC_size b _ h3).1.trans g2, iha _ hc.1 hρ h2 ho (fun y path rr b hy => hp y path rr b ?_) (hq.imp id (·.1)) g3, ihb _ hc.2 hρ h3 ho (fun y path rr b hy => hp y path rr b ?_) (hq.imp id (·.2)) g4⟩
    · exact List.mem_append.2 (.inl hy)
    · exact List.mem_append.2 (.inr hy)
  | one a ih =>
    intro c' ρ1 ρ' q q' pos g x hc hρ hm ho hp hq hr
    cases c' <;> first | exact hm.elim | skip
    rename_i b
    have hs := mtC_size a b hm
    obtain ⟨g1, g2⟩ := hr
    refine ⟨?_, ih b (by simpa [V.clo] using hc) hρ hm ho hp hq g2⟩
    by_cases e : a = .any
    · rw [e]; rfl
    · exact (hs.2 e).trans g1
  | osl n e c _ =>
    intro c' ρ1 ρ' q q' pos g x hc hρ hm ho hp hq hr
    have hx := mtC_fst (q := q') (pos := pos) _ _ hc hm
    cases c' with
    | osl n' e' c' => rw [show x = [] from hx] at hm; exact plain _ _ hc hm ho hq hr
    | nsl => rw [show x = [] from hx] at hm; exact plain _ _ hc hm ho hq hr
    | zsl => rw [show x = [] from hx] at hm; exact plain _ _ hc hm ho hq hr
    | sl b p i m e' cap =>
      have hq' : q' ≠ [] := hq.resolve_right (by simp [V.noown])
      simp only [V.clo] at hc
      simp only [mtC] at hm
      split at hm
      · rename_i c1 hb
        obtain ⟨h1, h2, hm1⟩ := rif_to hm
        obtain ⟨c2, h3, h4, hm2⟩ := bind_to hm1
        obtain ⟨x2, h5, hm3⟩ := bind_to hm2
        simp only [Bool.and_eq_true, beq_iff_eq] at h1
        obtain ⟨⟨rfl, hrow⟩, hre⟩ := h1
        have h2 : n = m := h2
        subst h2
        have h4 : i + n ≤ c1.cnt := h4
        rw [row_fst hrow h5] at h5
        obtain ⟨a, cp, l, k1, k2, k3, k4, _, k6⟩ := hr
        obtain ⟨l', k7, k8⟩ := hheap b _ hb
        rw [hρ _ _ k2] at k7
        cases k7
        have hrow1 := isRow_cnt h3
        rw [hre] at hrow1
        by_cases hcp : cp = 0
        · subst hcp
          obtain rfl : n = 0 := by omega
          have hr2 : isRow e 0 c2 := subs_row h3 hrow1
          exact ⟨hq', a, 0, k1, k3, k4, mtC_row hrow h5 hr2, .inl ⟨rfl, plain c c2 hc h5 (fun e => absurd rfl e) (.inr (row_noown hrow)) (subs_none (ow' := ow) h3)⟩⟩
        · obtain ⟨bk, off, sz, rfl, rfl, k9⟩ := k6.resolve_left hcp
          rcases k8 with ⟨k8, _⟩ | ⟨bk', off', sz', cur, k8, j1, j2, j3, j4⟩
          · cases k8
          cases k8
          obtain ⟨j5, j6⟩ := subs_rep h3 hrow1 h4 j4
          simp only [poff, Nat.zero_add] at k9
          refine ⟨hq', _, cp, k1, k3, k4, mtC_row hrow h5 j5, .inr ⟨bk, off + i * e, cur, by simp [poff], ?_, j2, by omega, ?_⟩⟩
          · simpa using hp b (q' ++ [pos]) [] bk (by simp [mtP]) j1
          · have j7 := plain (q' := q' ++ [pos]) (ρ' := noR) c c2 hc h5 (fun e => absurd rfl e) (.inl (by simp)) j6
            simpa [Nat.add_assoc] using j7
      · exact hm.elim
    | _ => exact hm.elim
  | optr c ih =>
    intro c' ρ1 ρ' q q' pos g x hc hρ hm ho hp hq hr
    have hq' : q' ≠ [] := hq.resolve_right (by simp [V.noown])
    simp only [V.clo] at hc
    cases c' with
    | optr c' =>
      obtain ⟨k0, b, off, cur, k1, k2, k3, k5, k4⟩ := hr
      obtain ⟨_, ho2⟩ := ho k0
      refine ⟨hq', b, off, cur, k1, ho2 b pos [] k2, k3, k5, ih c' hc (noR_le _) hm (fun _ => ⟨by simp, fun b' p rr hb => ?_⟩) (fun y path rr b' hy => hp y path rr b' hy) (.inl (by simp)) k4⟩
      have := ho2 b' pos (p :: rr) (by simpa using hb)
      simpa using this
    | ptr b p =>
      cases p with
      | cons _ _ => exact hm.elim
      | nil =>
        simp only [mtC] at hm
        split at hm
        · rename_i c1 hb
          obtain ⟨x2, h3, _⟩ := bind_to hm
          obtain ⟨bk, off, sz, k1, k2⟩ := hr
          obtain ⟨l', k7, k8⟩ := hheap b _ hb
          rw [hρ _ _ k1] at k7
          cases k7
          rcases k8 with ⟨k8, _⟩ | ⟨bk', off', sz', cur, k8, j1, j2, j3, j4⟩
          · cases k8
          cases k8
          refine ⟨hq', bk, off, cur, by simpa [poff] using k2, ?_, j2, by omega, ih c1 hc (Rho.le_refl _) h3 (fun _ => ⟨by simp, fun b' p rr hb' => ?_⟩) (fun y path rr b' hy hb' => hp y path rr b' ?_ hb') (.inl (by simp)) j4⟩
          · simpa using hp b (q' ++ [pos]) [] bk (by simp [mtP, hb]) j1
          · exact hp b (q' ++ [pos]) (p :: rr) b' (by simp [mtP, hb]) hb'
          · simp only [mtP, hb]
            exact List.mem_cons_of_mem _ hy
        · exact hm.elim
    | _ => exact hm.elim
  | tcons a b _ _ => intro c' ρ1 ρ' q q' pos g x hc hρ hm ho hp hq hr; cases c' <;> first | exact hm.elim | exact hr.elim
  | _ =>
    intro c' ρ1 ρ' q q' pos g x hc hρ hm ho hp hq hr
    first
      | cases hc; done
      | exact plain _ _ hc (by have hx := mtC_fst (q := q') (pos := pos) _ _ hc hm; rw [show x = [] from by rw [hx]; cases c' <;> rfl] at hm; exact hm) ho hq hr
end
end Go.Cx

/- Cx 34: a function's end: its results, and what it hands over. -/
namespace Go.Cx
open Go

def resV (ap : AP) (s : St) : IRes → R V
  | .t n => .ok (s.t n)
  | .cell n z agg => (stepR ap [] s.t s.h none (.ld z agg (.t n))).bind fun e => .ok e.v
def resL (ap : AP) (s : St) : List IRes → R V
  | [] => .ok .tnil
  | r :: l => (resV ap s r).bind fun v => rif (!v.isTup) 135 ((resL ap s l).bind fun t => .ok (.tcons v t))
def resR (ap : AP) (s : St) : List IRes → R V
  | [r] => resV ap s r
  | l => resL ap s l

def renOf : V → V → List (Nat × Nat)
  | .ptr a _, .ptr b _ => [(a, b)]
  | .sl a _ _ _ _ _, .sl b _ _ _ _ _ => [(a, b)]
  | .tcons a b, .tcons a' b' => renOf a a' ++ renOf b b'
  | .cat _ _ a b, .cat _ _ a' b' => renOf a a' ++ renOf b b'
  | .one a, .one b => renOf a b
  | _, _ => []

def mtHs (ap : AP) (r : List (Nat × Nat)) (h : Nat → Option Blk) : List (Nat × Blk) → R (List Nat)
  | [] => .ok []
  | (i, b) :: l => match h (lkN r i) with
    | some ⟨.own, c'⟩ => rif (b.k.isOwn && b.c.clo) 130 ((mtC ap r h b.c c').bind fun x => (mtHs ap r h l).bind fun y => .ok (lkN r i :: x ++ y))
    | _ => .fail 131

/-- the last state, against what is handed over -/
def endR (ap : AP) (s : St) (v : V) (ov : V) (hs : List (Nat × Blk)) (r : List (Nat × Nat)) : R Unit :=
  rif (nodupN (hs.map fun p => p.1) && r.all fun p => decide (p.1 < 100000) && decide (p.2 < 100000)) 132 <|
  (mtC ap r s.h ov v).bind fun x => rif (x.isEmpty && ov.noown && ov.hAll (fun k => hs.any fun p => p.1 == k)) 133 <|
  (mtHs ap r s.h hs).bind fun ys => rif (nodupN ys) 134 (.ok ())
def finR (ap : AP) (s : St) (args : List Arg) (out : Out) (res : List IRes) : R Unit :=
  (resR ap s res).bind fun v => endR ap s v out.v (outO 0 args out.objs ++ outN 0 out.news) (renOf out.v v)

/-- the places of all that is handed over -/
def pths (r : List (Nat × Nat)) (h : Nat → Option Blk) : List (Nat × Blk) → List (Nat × List Nat)
  | [] => []
  | (i, b) :: l => (match h (lkN r i) with | some blk => (lkN r i, [i]) :: mtP h b.c blk.c [i] 0 | none => []) ++ pths r h l

section
variable {r : List (Nat × Nat)} {h : Nat → Option Blk}

theorem mtHs_spec : ∀ {l : List (Nat × Blk)} {ys : List Nat}, (mtHs apf r h l).to ys → ys = (pths r h l).map (·.1) ∧
    ∀ p ∈ l, ∃ c' x, h (lkN r p.1) = some ⟨.own, c'⟩ ∧ p.2.k = .own ∧ p.2.c.clo = true ∧ (mtC apf r h p.2.c c').to x ∧ (∀ z ∈ (lkN r p.1, [p.1]) :: mtP h p.2.c c' [p.1] 0, z ∈ pths r h l) := by
  intro l
  induction l with
  | nil => intro ys hm; cases hm; exact ⟨rfl, fun p hp => by simp at hp⟩
  | cons q l ih =>
    intro ys hm
    obtain ⟨i, b⟩ := q
    simp only [mtHs] at hm
    split at hm
    · rename_i c' hc
      obtain ⟨h1, hm⟩ := rif_to hm
      obtain ⟨x, h2, hm⟩ := bind_to hm
      obtain ⟨y, h3, h4⟩ := bind_to hm
      have h4 : lkN r i :: x ++ y = ys := h4
      obtain ⟨g1, g2⟩ := ih h3
      simp only [Bool.and_eq_true] at h1
      have hx := mtC_fst (q := [i]) (pos := 0) _ _ h1.2 h2
      refine ⟨?_, fun p hp => ?_⟩
      · simp only [pths, hc, List.map_append, List.map_cons]
        rw [← h4, ← g1, ← hx]
      · rcases List.mem_cons.1 hp with rfl | hp
        · refine ⟨c', x, hc, ?_, h1.2, h2, fun z hz => ?_⟩
          · have := h1.1
            cases hk : b.k <;> simp_all [Bk.isOwn]
          · simp only [pths, hc]
            exact List.mem_append.2 (.inl hz)
        · obtain ⟨c1, x1, k1, k2, k3, k4, k5⟩ := g2 p hp
          refine ⟨c1, x1, k1, k2, k3, k4, fun z hz => ?_⟩
          simp only [pths]
          exact List.mem_append.2 (.inr (k5 z hz))
    · exact hm.elim

theorem pths_key : ∀ {l : List (Nat × Blk)} {y : Nat} {path : List Nat}, (y, path) ∈ pths r h l → ∃ i rr, path = i :: rr ∧ i ∈ l.map (·.1) := by
  intro l
  induction l with
  | nil => intro y path hm; simp [pths] at hm
  | cons q l ih =>
    intro y path hm
    obtain ⟨i, b⟩ := q
    simp only [pths] at hm
    rcases List.mem_append.1 hm with hm | hm
    · split at hm
      · rename_i blk _
        rcases List.mem_cons.1 hm with hm | hm
        · cases hm; exact ⟨i, [], rfl, by simp⟩
        · obtain ⟨rr, e⟩ := mtP_pre _ _ hm
          exact ⟨i, rr, e, by simp⟩
      · simp at hm
    · obtain ⟨j, rr, e, hj⟩ := ih hm
      exact ⟨j, rr, e, by simp [hj]⟩
end

section
variable {X : Fix} {I : Nat → Prop} {ρ : Rho} {ow : Own} {s : St} {tm : Array Value} {w : World}

def endRho (ρ : Rho) (r : List (Nat × Nat)) (hs : List (Nat × Blk)) : Rho := fun k => if 100000 ≤ k then ρ k else if (hs.any fun p => p.1 == k) then ρ (lkN r k) else none
def endOw (ow : Own) (π : List (Nat × List Nat)) : Own := fun b => match ow b with
  | some (y :: rr) => (look π y).map (· ++ rr)
  | _ => none

/-- The last state, told by what is handed over. -/
theorem Rep.close (h : Rep X I ρ ow s tm w) (hr0 : ∀ k l, X.r0 k = some l → 100000 ≤ k) {v ov : V} {hs : List (Nat × Blk)} {r : List (Nat × Nat)} {u : Unit} (hE : (endR apf s v ov hs r).to u) :
    ∃ ρ' ow', Rep ⟨X.F, X.I0, X.w0, 0, X.r0⟩ I ρ' ow' ⟨fun _ => .any, look hs⟩ #[] w ∧ ∀ x, VRep I w ρ v x → VRep I w ρ' ov x := by
  obtain ⟨h1, hE⟩ := rif_to hE
  obtain ⟨x, h2, hE⟩ := bind_to hE
  obtain ⟨h3, hE⟩ := rif_to hE
  obtain ⟨ys, h4, hE⟩ := bind_to hE
  obtain ⟨h5, _⟩ := rif_to hE
  simp only [Bool.and_eq_true, List.all_eq_true, decide_eq_true_eq, List.isEmpty_iff] at h1 h3
  obtain ⟨n1, n3⟩ := h1
  obtain ⟨⟨rfl, hno⟩, hall⟩ := h3
  have n1 := nodupN_spec n1
  have n2 := nodupN_spec h5
  obtain ⟨rfl, hH⟩ := mtHs_spec h4
  have big : ∀ k, 100000 ≤ k → lkN r k = k := fun k hk => by
    simp only [lkN]
    cases hq : look r k with
    | none => rfl
    | some j =>
      have := (n3 _ (look_mem hq)).1
      omega
  have ham : ∀ k, (hs.any fun p => p.1 == k) = true ↔ k ∈ hs.map (·.1) := fun k => by simp [List.any_eq_true, List.mem_map]
  have hρk : ∀ k, k ∈ hs.map (·.1) → endRho ρ r hs k = ρ (lkN r k) := fun k hk => by
    simp only [endRho]
    split
    · rename_i e; rw [big k e]
    · rw [if_pos ((ham k).2 hk)]
  have hπ : ∀ y path rr b, (y, path) ∈ pths r s.h hs → ow b = some (y :: rr) → endOw ow (pths r s.h hs) b = some (path ++ rr) := fun y path rr b hy hb => by
    simp only [endOw, hb, look_of n2 hy, Option.map_some]
  have hnone : ∀ b, ow b = none → endOw ow (pths r s.h hs) b = none := fun b hb => by simp [endOw, hb]
  refine ⟨endRho ρ r hs, endOw ow (pths r s.h hs), ?_, fun x hx => mtV (has := fun k => hs.any fun p => p.1 == k) (fun a l ha hl => by rw [hρk a ((ham a).1 ha), hl]) h2 hno hall hx⟩
  exact
    { frame := h.frame
      size := h.size
      os := h.os
      tape := h.tape
      output := h.output
      iold := h.iold
      inew := h.inew
      ilt := h.ilt
      iow := fun b hb => hnone b (h.iow b hb)
      owf := fun b q hb => by
        simp only [endOw] at hb
        split at hb
        · rename_i y rr hy
          cases hl : look (pths r s.h hs) y with
          | none => rw [hl] at hb; cases hb
          | some path =>
            rw [hl] at hb
            cases hb
            obtain ⟨i, r2, rfl, hi⟩ := pths_key (look_mem hl)
            obtain ⟨g1, g2, _⟩ := h.owf b _ hy
            obtain ⟨p, hp, rfl⟩ := List.mem_map.1 hi
            obtain ⟨c', x', _, k2, _⟩ := hH p hp
            refine ⟨g1, g2, p.1, r2 ++ rr, p.2.c, by simp, ?_⟩
            show look hs p.1 = _
            obtain ⟨i, ⟨bk, bc⟩⟩ := p
            simp only at k2 ⊢
            rw [look_of n1 hp, k2]
        · cases hb
      dom := fun k l hk hlt => by
        simp only [endRho] at hk
        rw [if_neg (by omega)] at hk
        split at hk
        · rename_i e
          obtain ⟨v, hv⟩ := look_some ((ham k).1 e)
          show look hs k ≠ none
          rw [hv]; simp
        · cases hk
      glob := fun n => by
        obtain ⟨sz, hg⟩ := h.glob n
        refine ⟨sz, ?_⟩
        simp only [endRho]
        rw [if_pos (by simp only [globH]; omega)]
        exact hg
      tsz := rfl
      nle := by simp
      rle := fun k l hk => by
        simp only [endRho]
        rw [if_pos (hr0 k l hk)]
        exact h.rle k l hk
      tmps := fun i => VRep.any _ _ _ _
      heap := fun k blk hk => by
        have hk : look hs k = some blk := hk
        have hm := look_mem hk
        have hkm : k ∈ hs.map (·.1) := List.mem_map.2 ⟨_, hm, rfl⟩
        obtain ⟨c', x', g1, g2, g3, g4, g5⟩ := hH _ hm
        obtain ⟨bk, bc⟩ := blk
        simp only at g1 g2 g3 g4 g5
        subst g2
        obtain ⟨l, g6, g7⟩ := h.heap _ _ g1
        refine ⟨l, by rw [hρk k hkm]; exact g6, ?_⟩
        have hheap : ∀ b blk, s.h b = some blk → ∃ l, ρ b = some l ∧ BRep I w ρ ow b l blk := h.heap
        have hself : ∀ rr b, ow b = some (lkN r k :: rr) → endOw ow (pths r s.h hs) b = some (k :: rr) := fun rr b hb => by
          simpa using hπ _ [k] rr b (g5 _ (by simp)) hb
        have hcons : ∀ y path rr b, (y, path) ∈ mtP s.h bc c' [k] 0 → ow b = some (y :: rr) → endOw ow (pths r s.h hs) b = some (path ++ rr) := fun y path rr b hy hb => hπ y path rr b (g5 _ (List.mem_cons_of_mem _ hy)) hb
        have hO : [lkN r k] ≠ [] → [k] ≠ [] ∧ ∀ b p rr, ow b = some ([lkN r k] ++ p :: rr) → endOw ow (pths r s.h hs) b = some ([k] ++ p :: rr) := fun _ => ⟨by simp, fun b p rr hb => hself _ _ hb⟩
        have hsz := (mtC_size bc c' g4).1
        rcases g7 with ⟨rfl, q1, q2⟩ | ⟨b, off, sz, cur, rfl, q1, q2, q3, q4⟩
        · refine .inl ⟨rfl, hsz.trans q1, ?_⟩
          have := mtC_own hheap bc c' (ρ' := endRho ρ r hs) g3 (Rho.le_refl _) g4 hO hcons (.inl (by simp)) (CRep.anyq c' ρ [lkN r k] 0 0 _ q2)
          exact CRep.phq _ _ _ _ _ _ this
        · exact .inr ⟨b, off, sz, cur, rfl, hself [] b q1, q2, q3, mtC_own hheap bc c' g3 (Rho.le_refl _) g4 hO hcons (.inl (by simp)) q4⟩ }
end
end Go.Cx

/- Cx 35: a function keeps its contract. -/
namespace Go.Cx
open Go

def okAs : List Arg → Prop
  | [] => True
  | .v v :: r => v.okv ∧ okAs r
  | .b n e c :: r => (n ≤ 9223372036854775807 ∧ isRow e n c ∧ c.okv) ∧ okAs r
  | .o c _ :: r => c.okv ∧ okAs r

def st0 (G : List (Nat × V)) (pure : Bool) (args : List Arg) : St := ⟨lkT (inT 0 args), opn 40 9000 ((List.range args.length).map parH) (parHs G pure args)⟩

def fnQ (ap : AP) (args : List Arg) (out : Out) (res : List IRes) : Ex → St → Prop
  | .exit _, _ => False
  | _, s => (finR ap s args out res).all fun _ => True

/-- the slots, guards and results of a function are in order -/
def fnOk (P : Program) (f : Nat) : Bool := match P.funcs[f]? with
  | some fn => (match fn.body with | some c => codeOk fn.ntmps c | none => false) && decide (fn.ntmps ≤ 9000) && decide (fn.results.size ≤ 4) &&
      fn.results.toList.all fun r => match r with | .tmp _ => true | .cell _ t => sz P t != 0 && (P.underlying t).isSome
  | none => false

section
variable {P : Program} {X : Fix} {I : Nat → Prop} {ρ : Rho} {ow : Own} {s : St} {a : Act} {w : World}

def resOne (tm : Array Value) : ResultVar → Sem Value
  | .tmp t => pure (tm.getD t undef)
  | .cell a t => do loadVar t (← asAddr (tm.getD a undef))

theorem results_eq (fn : Func) (tm : Array Value) : results fn tm = (do let vs ← fn.results.mapM (resOne tm); pure (if h : vs.size = 1 then vs[0] else .tuple vs)) := rfl

def irOf (P : Program) : ResultVar → IRes
  | .tmp t => .t t
  | .cell a t => .cell a (sz P t) (aggT P t)

theorem resOne_run (h : Rep X I ρ ow s a.tmps w) {r : ResultVar} (hr : (match r with | .tmp _ => true | .cell _ t => sz P t != 0 && (P.underlying t).isSome) = true) {v : V} (hv : (resV apf s (irOf P r)).to v) :
    ∃ x, (resOne a.tmps r).run P w = .ok x w ∧ VRep I w ρ v x := by
  cases r with
  | tmp t =>
    cases hv
    exact ⟨_, rfl, h.tmps t⟩
  | cell n t =>
    simp only [Bool.and_eq_true, bne_iff_ne, Option.isSome_iff_exists] at hr
    obtain ⟨hz, d, hd⟩ := hr
    obtain ⟨e, he, hve⟩ := bind_to hv
    cases hve
    have hv := ev_rep h (x := .tmp n) (i := .t n) rfl
    simp only [stepR] at he
    have fin : ∀ (b off : Nat) (v u : V) (q : List Nat) (pos : Nat) (ow : Own), a.tmps.getD n undef = .pointer (some ⟨b, off, none⟩) → CRep I w ow v ρ q pos (cellsAt w b off) → v.size = sz P t → v.noown = true → (wrapV (aggT P t) v).to u →
        ∃ x, (resOne a.tmps (.cell n t)).run P w = .ok x w ∧ VRep I w ρ u x := by
      intro b off v u q pos ow hp hc hs hno hw
      obtain ⟨y, hy, hvy⟩ := load_run (P := P) hd hz hc hno hs hw
      exact ⟨y, by simp [resOne, hp, asAddr, hy], hvy⟩
    split at he
    · rename_i hh p e1
      rw [e1] at hv
      obtain ⟨b, off, sz', h1, h2⟩ := vr_ptr hv
      split at he
      · exact he.elim
      · rename_i kk c hnd hh2
        obtain ⟨v, hat, he⟩ := bind_to he
        obtain ⟨hs, he⟩ := rif_to he
        simp only [Bool.and_eq_true, beq_iff_eq] at hs
        obtain ⟨hs, hno⟩ := hs
        obtain ⟨u, hu, he⟩ := bind_to he
        cases he
        obtain ⟨q, hg⟩ := blk_cells h hh2 h1 (fun e => hnd e)
        obtain ⟨h9, _⟩ := at_rep _ _ hat hg
        refine fin b (off + poff p) v u q (0 + poff p) ow h2 ?_ hs hno hu
        have e2 : cellsAt w b (off + poff p) = fun j => cellsAt w b off (poff p + j) := by funext j; simp [cellsAt, Nat.add_assoc]
        rw [e2]; exact h9
      · exact he.elim
    · rename_i c p e1
      rw [e1] at hv
      obtain ⟨b, off, hI, h2, h3⟩ := vr_dptr hv
      obtain ⟨v, hat, he⟩ := bind_to he
      obtain ⟨hs, he⟩ := rif_to he
      simp only [Bool.and_eq_true, beq_iff_eq] at hs
      obtain ⟨hs, hno⟩ := hs
      obtain ⟨u, hu, he⟩ := bind_to he
      cases he
      have h3' : CRep I w (fun _ => none) c ρ [] 0 (cellsAt w b off) := CRep.mono (fun b hb => ⟨hb, rfl⟩) _ _ _ _ _ _ _ (noR_le ρ) (fun h => absurd rfl h) (fun _ _ => rfl) h3
      obtain ⟨h9, _⟩ := at_rep _ _ hat h3'
      refine fin b (off + poff p) v u [] (0 + poff p) (fun _ => none) h2 ?_ hs hno hu
      have e2 : cellsAt w b (off + poff p) = fun j => cellsAt w b off (poff p + j) := by funext j; simp [cellsAt, Nat.add_assoc]
      rw [e2]; exact h9
    · exact he.elim

theorem vr0_of {v : V} {x : Value} (ht : v.isTup = false) (h : VRep I w ρ v x) : VRep0 I w ρ v x := by
  cases v <;> first | exact h | cases ht

theorem resL_run (h : Rep X I ρ ow s a.tmps w) : ∀ {rs : List ResultVar} {v : V}, (rs.all fun r => match r with | .tmp _ => true | .cell _ t => sz P t != 0 && (P.underlying t).isSome) = true → (resL apf s (rs.map (irOf P))).to v →
    ∃ l, F2 (fun r x => (resOne a.tmps r).run P w = .ok x w) rs l ∧ TRep I w ρ v l := by
  intro rs
  induction rs with
  | nil => intro v _ hv; cases hv; exact ⟨[], .nil, rfl⟩
  | cons r rs ih =>
    intro v hok hv
    simp only [List.all_cons, Bool.and_eq_true] at hok
    obtain ⟨u, h1, hv⟩ := bind_to hv
    obtain ⟨h2, hv⟩ := rif_to hv
    obtain ⟨t, h3, hv⟩ := bind_to hv
    cases hv
    obtain ⟨x, g1, g2⟩ := resOne_run h hok.1 h1
    obtain ⟨l, g3, g4⟩ := ih hok.2 h3
    exact ⟨x :: l, .cons g1 g3, x, l, rfl, vr0_of (by simpa using h2) g2, g4⟩

theorem tup_vr {v : V} {l : List Value} (h : TRep I w ρ v l) : VRep I w ρ v (.tuple l.toArray) := by
  cases v <;> first | exact h.elim | skip
  · have : l = [] := h
    subst this; rfl
  · exact ⟨l, rfl, h⟩

theorem results_run (h : Rep X I ρ ow s a.tmps w) {fn : Func} (hn : fn.results.size ≤ 4) (hok : (fn.results.toList.all fun r => match r with | .tmp _ => true | .cell _ t => sz P t != 0 && (P.underlying t).isSome) = true) {v : V}
    (hv : (resR apf s (fn.results.toList.map (irOf P))).to v) : ∃ x, (results fn a.tmps).run P w = .ok x w ∧ VRep I w ρ v x := by
  rw [results_eq]
  obtain ⟨rs, hrs⟩ : ∃ rs, fn.results = List.toArray rs := ⟨fn.results.toList, by simp⟩
  rw [hrs] at hn hok hv ⊢
  simp only at hok hv
  have multi : ∀ {rs : List ResultVar}, rs.length ≠ 1 → rs.length ≤ 4 → (rs.all fun r => match r with | .tmp _ => true | .cell _ t => sz P t != 0 && (P.underlying t).isSome) = true → (resL apf s (rs.map (irOf P))).to v →
      ∃ x, (do let vs ← rs.toArray.mapM (resOne a.tmps); pure (if h : vs.size = 1 then vs[0] else .tuple vs) : Sem Value).run P w = .ok x w ∧ VRep I w ρ v x := by
    intro rs h1 h4 hok hv
    obtain ⟨l, g1, g2⟩ := resL_run h hok hv
    refine ⟨.tuple l.toArray, ?_, tup_vr g2⟩
    cases g1 with
    | nil => simp
    | cons a1 g1 =>
      cases g1 with
      | nil => simp at h1
      | cons a2 g1 =>
        cases g1 with
        | nil => simp [a1, a2]
        | cons a3 g1 =>
          cases g1 with
          | nil => simp [a1, a2, a3]
          | cons a4 g1 =>
            cases g1 with
            | nil => simp [a1, a2, a3, a4]
            | cons a5 g1 => simp at h4
  match rs, hn, hok, hv with
  | [], _, hok, hv => exact multi (by simp) (by simp) hok hv
  | [r], _, hok, hv =>
    simp only [List.all_cons, Bool.and_eq_true] at hok
    obtain ⟨x, g1, g2⟩ := resOne_run h hok.1 hv
    exact ⟨x, by simp [g1], g2⟩
  | a :: b :: l, hn, hok, hv => exact multi (by simp) (by simpa using hn) hok hv

theorem compRes_eq {rs : List ResultVar} : compRes P rs = some (rs.map (irOf P)) := by
  induction rs with
  | nil => rfl
  | cons r rs ih =>
    simp only [compRes, List.map_cons] at ih ⊢
    cases r <;> simp only [optL, ih] <;> rfl

theorem okAs_of : ∀ {args : List Arg} {i0 : Nat} {G : List (Nat × V)} {pure : Bool} {all : List Arg}, (∀ (i : Nat) (a : Arg), args[i]? = some a → all[i0 + i]? = some a) → all.length ≤ 100000 →
    Rep X I ρ ow ⟨fun _ => .any, parHs G pure all⟩ #[] w → (∀ (i : Nat) (a : Arg), all[i]? = some a → ∃ x, VRep I w ρ (parV i a) x) → (∀ (i n e : Nat) (c : V), all[i]? = some (.b n e c) → isRow e n c) → okAs args := by
  intro args
  induction args with
  | nil => intros; trivial
  | cons a args ih =>
    intro i0 G pure all hsub hlen h hv hrow
    have h0 := hsub 0 a rfl
    rw [Nat.add_zero] at h0
    have hrest : okAs args := ih (i0 := i0 + 1) (fun i b hb => by
      have := hsub (i + 1) b (by simpa using hb)
      rwa [show i0 + (i + 1) = i0 + 1 + i by omega] at this) hlen h hv hrow
    obtain ⟨x, hx⟩ := hv i0 a h0
    have hil : i0 < all.length := (List.getElem?_eq_some_iff.1 h0).1
    cases a with
    | v v => exact ⟨VRep.okv hx, hrest⟩
    | b n e c =>
      have h1 : V.okv (.sl (parH i0) [] 0 n e none) := VRep.okv hx
      obtain ⟨l, _, g2⟩ := h.heap (parH i0) ⟨.bor, c⟩ (by
        show parHs G pure all (parH i0) = _
        rw [parHs_par (by omega), h0]; rfl)
      exact ⟨⟨h1, hrow _ _ _ _ h0, blk_okv (by simp) g2⟩, hrest⟩
    | o c vw =>
      obtain ⟨l, _, g2⟩ := h.heap (parH i0) ⟨if pure then .bor else .own, c⟩ (by
        show parHs G pure all (parH i0) = _
        rw [parHs_par (by omega), h0]; rfl)
      exact ⟨blk_okv (by cases pure <;> simp) g2, hrest⟩

theorem lkT_inT : ∀ {args : List Arg} {i0 i : Nat}, (∃ a, args[i]? = some a ∧ lkT (inT i0 args) (i0 + i) = parV (i0 + i) a) ∨ (args[i]? = none ∧ lkT (inT i0 args) (i0 + i) = .any) := by
  intro args
  induction args with
  | nil => intro i0 i; exact .inr ⟨by simp, rfl⟩
  | cons a args ih =>
    intro i0 i
    cases i with
    | zero => refine .inl ⟨a, rfl, ?_⟩; rcases a with v | ⟨n, e, c⟩ | ⟨c, _ | ⟨j, n, e, cap⟩⟩ <;> simp [inT, lkT, parV]
    | succ i =>
      have := ih (i0 := i0 + 1) (i := i)
      rw [show i0 + 1 + i = i0 + (i + 1) by omega] at this
      have e : lkT (inT i0 (a :: args)) (i0 + (i + 1)) = lkT (inT (i0 + 1) args) (i0 + (i + 1)) := by
        rcases a with v | ⟨n, e, c⟩ | ⟨c, _ | ⟨j, n, e, cap⟩⟩ <;> simp [inT, lkT]
      rw [e]
      simpa using this

/-- A function whose code keeps the contract, step by step in the small code, keeps it. -/
theorem fn_sound {G : List (Nat × V)} {pure : Nat → Bool} {E : List (Nat × Ctr)} {f : Nat} {ic : IFn} {ctr : Ctr} (hm : P.follows .mixedOrders = true) (hcall : ∀ xs w, (callFunc f xs).run P w = .ok (.enter f xs) w)
    (hok : fnOk P f = true) (hic : comp P pure f = some ic) (hE : EnvSound P G pure E)
    (hvc : ∀ args out, (ctr args).to out → okAs args → args.length = ic.nargs ∧ ic.nargs ≤ ic.ntmps ∧ ∃ A : List (Nat × Ann), run apf E A ic.body (fnQ apf args out ic.res) (st0 G (pure f) args)) : Sound P G f (pure f) ctr := by
  refine ⟨hcall, ?_⟩
  intro args out vals w F I ρ ow hctr hlen hlen2 hrow hIF hR hV
  simp only [fnOk] at hok
  split at hok
  · rename_i fn hfn
    cases hbody : fn.body with
    | none => rw [hbody] at hok; simp at hok
    | some c =>
      rw [hbody] at hok
      simp only [Bool.and_eq_true, decide_eq_true_eq] at hok
      obtain ⟨⟨⟨hco, hnt⟩, hrs⟩, hrok⟩ := hok
      simp only [comp, hfn, hbody, compRes_eq, Option.some.injEq] at hic
      have hvget : ∀ (i : Nat) (a : Arg), args[i]? = some a → ∃ x, VRep I w ρ (parV i a) x := fun i a hi => ⟨_, hV i a hi⟩
      have hokas : okAs args := okAs_of (i0 := 0) (all := args) (fun i a h => by rwa [Nat.zero_add]) hlen2 hR hvget hrow
      obtain ⟨hn1, hn2, A, hrun⟩ := hvc args out hctr hokas
      subst hic
      simp only at hn1 hn2 hrun
      let X : Fix := ⟨F, I, w, fn.ntmps, ρ⟩
      have hr0 : ∀ k l, X.r0 k = some l → 100000 ≤ k := fun k l hk => by
        rcases Nat.lt_or_ge k 100000 with h | h
        · have := hR.dom k l hk h
          exfalso
          apply this
          show parHs G (pure f) args k = none
          simp only [parHs]
          rw [if_neg (by omega), if_neg (by omega)]
        · exact h
      -- the first state
      have hsz : vals.toArray.size = args.length := by simp [hlen]
      have htsz : (vals.toArray ++ Array.replicate (fn.ntmps - vals.toArray.size) undef).size = fn.ntmps := by
        simp only [Array.size_append, Array.size_replicate]; omega
      have hfirst : Rep X I ρ ow ⟨lkT (inT 0 args), parHs G (pure f) args⟩ (vals.toArray ++ Array.replicate (fn.ntmps - vals.toArray.size) undef) w :=
        { hR with
          tsz := htsz
          nle := by show fn.ntmps ≤ 100000; omega
          tmps := fun i => by
            show VRep I w ρ (lkT (inT 0 args) i) _
            rcases lkT_inT (args := args) (i0 := 0) (i := i) with ⟨a, h1, h2⟩ | ⟨_, h2⟩
            · rw [Nat.zero_add] at h2
              rw [h2]
              have hil : i < args.length := (List.getElem?_eq_some_iff.1 h1).1
              have e : (vals.toArray ++ Array.replicate (fn.ntmps - vals.toArray.size) undef).getD i undef = vals.toArray.getD i undef := by
                rw [Array.getD_eq_getD_getElem?, Array.getD_eq_getD_getElem?, Array.getElem?_append_left (by omega)]
              rw [e]
              exact hV i a h1
            · rw [Nat.zero_add] at h2
              rw [h2]
              exact VRep.any _ _ _ _ }
      obtain ⟨ρ1, ow1, _, hopen⟩ := Rep.opens (s := ⟨lkT (inT 0 args), parHs G (pure f) args⟩) 40 9000 ((List.range args.length).map parH) (by omega) hfirst
      have hRA : RA X (st0 G (pure f) args) { tmps := vals.toArray ++ Array.replicate (fn.ntmps - vals.toArray.size) undef, defers := [] } w := ⟨⟨I, ρ1, ow1, hopen⟩, rfl⟩
      have hG : GOk G X :=
        { i0 := fun b hb => ⟨hIF b hb, hR.ilt b hb⟩
          g := fun n c hn => by
            obtain ⟨l, h1, h2⟩ := hR.heap (globH n) ⟨.imm, c⟩ (by
              show parHs G (pure f) args (globH n) = _
              simp [parHs, globH, hn])
            obtain ⟨sz, h3⟩ := hR.glob n
            rw [h1] at h3
            cases h3
            rcases h2 with ⟨h4, _⟩ | ⟨k, off, sz', h4, h5, h6, h7⟩
            · cases h4
            · cases h4
              exact ⟨h5, ⟨sz, h1, h6⟩, h7.noow⟩ }
      refine calls_of_wp hfn hbody (Code.wp_mono (fun e a' w' hq => ?_) (code_sound hm hG hE (head_ok hr0) _ c A 0 _ _ _ _ hco hRA hrun))
      have fin : ∀ s, fnQ apf args out (fn.results.toList.map (irOf P)) .nrm s → RA X s a' w' → bodyPost P fn (fun en w' => ∃ x I' ρ' ow', en = .returned x ∧ VRep I' w' ρ' out.v x ∧ Rep ⟨F, I, w, 0, ρ⟩ I' ρ' ow' ⟨fun _ => .any, outHs args out⟩ #[] w') .normal a' w' := by
        rintro s hs ⟨⟨I', ρ', ow', h'⟩, hdf⟩
        obtain ⟨u, hu, _⟩ := all_to hs
        obtain ⟨v, hv, hend⟩ := bind_to hu
        obtain ⟨x, hx1, hx2⟩ := results_run h' hrs hrok hv
        obtain ⟨ρ2, ow2, g1, g2⟩ := h'.close hr0 hend
        exact bodyPost_end hx1 hdf ⟨x, I', ρ2, ow2, rfl, g2 x hx2, g1⟩
      cases e with
      | normal => obtain ⟨s, h1, h2⟩ := hq; exact fin s h1 h2
      | ret => obtain ⟨s, h1, h2⟩ := hq; exact fin s h1 h2
      | exit i => obtain ⟨s, h1, h2⟩ := hq; exact h1.elim
      | goto l => exact hq.elim
      | panic c => exact hq.elim
      | outgrown => exact hq.elim
  · cases hok
end
end Go.Cx

/- Cx 36: laws of the payload's reckoning. -/
namespace Go.Cx
open Go

theorem wadd_i64 {x y : Int} (h : -9223372036854775808 ≤ x + y ∧ x + y ≤ 9223372036854775807) : wadd .i64 x y = x + y := IntWalk.i64_in _ h
theorem wsub_i64 {x y : Int} (h : -9223372036854775808 ≤ x - y ∧ x - y ≤ 9223372036854775807) : wsub .i64 x y = x - y := IntWalk.i64_in _ h
theorem wmul_i64 {x y : Int} (h : -9223372036854775808 ≤ x * y ∧ x * y ≤ 9223372036854775807) : wmul .i64 x y = x * y := IntWalk.i64_in _ h
theorem wadd_u64 {x y : Int} (h : 0 ≤ x + y ∧ x + y ≤ 18446744073709551615) : wadd .u64 x y = x + y := IntWalk.u64_in _ h
theorem wsub_u64 {x y : Int} (h : 0 ≤ x - y ∧ x - y ≤ 18446744073709551615) : wsub .u64 x y = x - y := IntWalk.u64_in _ h
theorem wmul_u64 {x y : Int} (h : 0 ≤ x * y ∧ x * y ≤ 18446744073709551615) : wmul .u64 x y = x * y := IntWalk.u64_in _ h
theorem wcv_i64 {x : Int} (h : -9223372036854775808 ≤ x ∧ x ≤ 9223372036854775807) : wcv .i64 x = x := IntWalk.i64_in _ h
theorem wcv_u64 {x : Int} (h : 0 ≤ x ∧ x ≤ 18446744073709551615) : wcv .u64 x = x := IntWalk.u64_in _ h
theorem wcv_u32 {x : Int} (h : 0 ≤ x ∧ x ≤ 4294967295) : wcv .u32 x = x := IntWalk.u32_in _ h
theorem wcv_u8 {x : Int} (h : 0 ≤ x ∧ x ≤ 255) : wcv .u8 x = x := IntWalk.u8_in _ h

theorem inc_i64 {i : Nat} (h : i + 1 ≤ 9223372036854775807) : wadd .i64 (i : Int) 1 = ((i + 1 : Nat) : Int) := (wadd_i64 (by omega)).trans (by omega)

theorem quo_i64 {i k : Nat} (h : i ≤ 9223372036854775807) : wquo .i64 (i : Int) (k : Int) = ((i / k : Nat) : Int) := by
  have e : ((i : Int).tdiv (k : Int)) = ((i / k : Nat) : Int) := rfl
  rw [wquo, e]
  have h2 := Nat.div_le_self i k
  generalize i / k = q at h2
  exact IntWalk.i64_in _ ⟨by omega, by omega⟩
theorem rem_i64 {i k : Nat} : wrem .i64 (i : Int) (k : Int) = ((i % k : Nat) : Int) := rfl

theorem inR_i64 {x : Int} : inR .i64 x ↔ -9223372036854775808 ≤ x ∧ x ≤ 9223372036854775807 := by simp [inR, IntKind.min, IntKind.max, IntKind.bits, IntKind.signed]
theorem inR_u64 {x : Int} : inR .u64 x ↔ 0 ≤ x ∧ x ≤ 18446744073709551615 := by simp [inR, IntKind.min, IntKind.max, IntKind.bits, IntKind.signed]
theorem inR_u32 {x : Int} : inR .u32 x ↔ 0 ≤ x ∧ x ≤ 4294967295 := by simp [inR, IntKind.min, IntKind.max, IntKind.bits, IntKind.signed]
theorem inR_u8 {x : Int} : inR .u8 x ↔ 0 ≤ x ∧ x ≤ 255 := by simp [inR, IntKind.min, IntKind.max, IntKind.bits, IntKind.signed]

theorem bor_comm (k : IntKind) (x y : Int) : bor k x y = bor k y x := by simp only [bor, BitVec.or_comm]
theorem bxor_comm (k : IntKind) (x y : Int) : bxor k x y = bxor k y x := by simp only [bxor, BitVec.xor_comm]
theorem band_comm (k : IntKind) (x y : Int) : band k x y = band k y x := by simp only [band, BitVec.and_comm]

/-- the next place of a row that is filled from the front -/
theorem setI_fill {a : List Int} {m i : Nat} {x z : Int} (h : a.length = i) (hm : 0 < m) : setI (a ++ List.replicate m z) i x = a ++ [x] ++ List.replicate (m - 1) z := by
  subst h
  obtain ⟨m, rfl⟩ : ∃ k, m = k + 1 := ⟨m - 1, by omega⟩
  simp [setI, List.replicate_succ]

theorem fillL_set {f : Nat → Int} {i m : Nat} {x : Int} (h : i < m) (hx : x = f i) : setI ((List.range i).map f ++ List.replicate (m - i) 0) i x = (List.range (i + 1)).map f ++ List.replicate (m - (i + 1)) 0 := by
  rw [setI_fill (by simp) (by omega), hx, List.range_succ, List.map_append]
  rfl
theorem subL_all {b : List Int} {n : Nat} (h : b.length ≤ n) : subL b 0 n = b := by
  rw [subL, List.drop_zero, List.take_of_length_le h]
theorem subL_one {x : Int} : subL [x] 0 1 = [x] := rfl
theorem subL_zero {b : List Int} {n : Nat} : subL b 0 n = b.take n := by rw [subL, List.drop_zero]
theorem nthI_app_lt {a b : List Int} {i : Nat} (h : i < a.length) : nthI (a ++ b) i = nthI a i := by
  simp [nthI, List.getD_eq_getElem?_getD, List.getElem?_append_left h]
theorem nthI_take {a : List Int} {i n : Nat} (h : i < n) : nthI (a.take n) i = nthI a i := by
  simp [nthI, List.getD_eq_getElem?_getD, h]
theorem nthI_drop {a : List Int} {i n : Nat} : nthI (a.drop n) i = nthI a (n + i) := by
  simp [nthI, List.getD_eq_getElem?_getD, List.getElem?_drop]
theorem nthI_subL {a : List Int} {i n j : Nat} (h : j < n) : nthI (subL a i n) j = nthI a (i + j) := by
  rw [subL, nthI_take h, nthI_drop]
theorem nthI_cat {a b : List Int} {j : Nat} : nthI (a ++ b) j = if j < a.length then nthI a j else nthI b (j - a.length) := by
  split
  · exact nthI_app_lt ‹_›
  · simp only [nthI, List.getD_eq_getElem?_getD]
    rw [List.getElem?_append_right (by omega)]
theorem subL_len {a : List Int} {i n : Nat} (h : i + n ≤ a.length) : (subL a i n).length = n := by simp [subL]; omega
theorem catL_nil {a : List Int} {i : Nat} {b : List Int} : catL (subL a i 0) b = b := by simp [catL, subL]
theorem nthI_map {f : Nat → Int} {n i : Nat} (h : i < n) : nthI ((List.range n).map f) i = f i := by
  simp [nthI, List.getD_eq_getElem?_getD, h]
theorem lss_t {x y : Int} (h : cmF .lss x y = true) : x < y := of_decide_eq_true h
theorem lss_f {x y : Int} (h : cmF .lss x y = false) : y ≤ x := by have : ¬ x < y := of_decide_eq_false h; omega
theorem leq_t {x y : Int} (h : cmF .leq x y = true) : x ≤ y := of_decide_eq_true h
theorem leq_f {x y : Int} (h : cmF .leq x y = false) : y < x := by have : ¬ x ≤ y := of_decide_eq_false h; omega
theorem gtr_t {x y : Int} (h : cmF .gtr x y = true) : y < x := of_decide_eq_true h
theorem gtr_f {x y : Int} (h : cmF .gtr x y = false) : x ≤ y := by have : ¬ y < x := of_decide_eq_false h; omega
theorem geq_t {x y : Int} (h : cmF .geq x y = true) : y ≤ x := of_decide_eq_true h
theorem geq_f {x y : Int} (h : cmF .geq x y = false) : x < y := by have : ¬ y ≤ x := of_decide_eq_false h; omega
theorem eql_t {x y : Int} (h : cmF .eql x y = true) : x = y := of_decide_eq_true h
theorem eql_f {x y : Int} (h : cmF .eql x y = false) : x ≠ y := of_decide_eq_false h
theorem neq_t {x y : Int} (h : cmF .neq x y = true) : x ≠ y := by
  have h : (!decide (x = y)) = true := h
  simpa using h
theorem neq_f {x y : Int} (h : cmF .neq x y = false) : x = y := by
  have h : (!decide (x = y)) = false := h
  simpa using h
end Go.Cx
namespace Go.Cx
open Go
theorem env_nil {P : Program} {G : List (Nat × V)} {pure : Nat → Bool} : EnvSound P G pure [] := fun _ _ h => by cases h
theorem env_cons {P : Program} {G : List (Nat × V)} {pure : Nat → Bool} {f : Nat} {c : Ctr} {E : List (Nat × Ctr)} (h : Sound P G f (pure f) c) (hE : EnvSound P G pure E) : EnvSound P G pure ((f, c) :: E) := fun g d hl => by
  simp only [look] at hl
  split at hl
  · rename_i e; cases hl; cases e; exact h
  · exact hE g d hl
end Go.Cx

/- Cx 37: a contract holds where more package variables are known. -/
namespace Go.Cx
open Go

theorem Sound.more {P : Program} {G G' : List (Nat × V)} {f : FuncId} {pure : Bool} {c : Ctr} (hG : ∀ n v, look G n = some v → look G' n = some v) (h : Sound P G f pure c) : Sound P G' f pure c := by
  refine ⟨h.1, fun args out vals w F I ρ ow h1 h2 h3 h4 h5 hR hV => h.2 args out vals w F I ρ ow h1 h2 h3 h4 h5 ?_ hV⟩
  have sub : ∀ k blk, parHs G pure args k = some blk → parHs G' pure args k = some blk := fun k blk hk => by
    simp only [parHs] at hk ⊢
    split at hk
    · rename_i e
      rw [if_pos e]
      simp only [Option.map_eq_some_iff] at hk ⊢
      obtain ⟨v, hv, rfl⟩ := hk
      exact ⟨v, hG _ _ hv, rfl⟩
    · rename_i e
      rw [if_neg e]
      exact hk
  exact
    { hR with
      owf := fun b q hb => by
        obtain ⟨g1, g2, x, r, v, g3, g4⟩ := hR.owf b q hb
        refine ⟨g1, g2, x, r, v, g3, ?_⟩
        simp only [parHs] at g4 ⊢
        split at g4
        · simp only [Option.map_eq_some_iff] at g4
          obtain ⟨v, _, e⟩ := g4
          cases e
        · rename_i e
          rw [if_neg e]; exact g4
      dom := fun k l hk hlt => by
        have := hR.dom k l hk hlt
        exfalso
        apply this
        show parHs G' pure args k = none
        simp only [parHs]
        rw [if_neg (by omega), if_neg (by omega)]
      heap := fun k blk hk => hR.heap k blk (sub k blk hk) }
end Go.Cx

/- Cx 38: from a call's arguments, as a statement reads them, to the first state, and back. -/
namespace Go.Cx
open Go Go.ChangeShapes Go.WideShapes Go.ChangeAt Go.RowKit

def bsize (W : World) (b : Nat) : Nat := match W.heap[b]? with
  | some (.cells cs _ _) => cs.size
  | _ => 0
def lawRho (W : World) : Rho := fun h => if 200000 ≤ h then some (.at (h - 200000) 0 (bsize W (h - 200000))) else none
theorem lawRho_glob (W : World) (n : Nat) : lawRho W (globH n) = some (.at n 0 (bsize W n)) := by simp [lawRho, globH]
def lawX (W : World) : Fix := ⟨fun _ => False, fun b => b < W.heap.size, W, 0, lawRho W⟩

theorem law_rep (W : World) : Rep (lawX W) (fun b => b < W.heap.size) (lawRho W) (fun _ => none) ⟨fun _ => .any, fun _ => none⟩ #[] W :=
  { frame := fun _ _ _ => rfl
    size := Nat.le_refl _
    os := rfl
    tape := rfl
    output := rfl
    iold := fun _ h => h
    inew := fun _ h => .inl h
    ilt := fun _ h => h
    iow := fun _ _ => rfl
    owf := fun _ _ h => by cases h
    dom := fun k l hk hlt => by
      simp only [lawRho] at hk
      rw [if_neg (by omega)] at hk
      cases hk
    glob := fun n => ⟨_, lawRho_glob W n⟩
    tsz := rfl
    nle := by simp [lawX]
    rle := Rho.le_refl _
    tmps := fun _ => VRep.any _ _ _ _
    heap := fun _ _ h => by cases h }

/-- a package variable that is known -/
def GloIs (W : World) (n : Nat) (c : V) : Prop := n < W.heap.size ∧ c.size ≤ bsize W n ∧ CRep (fun b => b < W.heap.size) W (fun _ => none) c noR [] 0 (cellsAt W n 0)

theorem law_gok {W : World} {G : List (Nat × V)} (hG : ∀ n c, look G n = some c → GloIs W n c) : GOk G (lawX W) :=
  { i0 := fun b hb => ⟨fun h => h, hb⟩
    g := fun n c hn => by
      obtain ⟨h1, h2, h3⟩ := hG n c hn
      exact ⟨h1, ⟨bsize W n, lawRho_glob W n, h2⟩, h3⟩ }

/-- what a call leaves of what was there -/
structure Left0 (W W' : World) : Prop where
  heap : ∀ b, b < W.heap.size → W'.heap[b]? = W.heap[b]?
  size : W.heap.size ≤ W'.heap.size
  os : W'.os = W.os
  output : W'.output = W.output

theorem law_calls {P : Program} {G : List (Nat × V)} {f : FuncId} {ctr : Ctr} {W : World} (hS : Sound P G f true ctr) (hG : ∀ n c, look G n = some c → GloIs W n c) {args : List Arg} {vals : List Value} {los : List Lo}
    (hok : ArgsOk (fun b => b < W.heap.size) W (lawRho W) (fun _ => none) ⟨fun _ => .any, fun _ => none⟩ true [] args vals los (vals.map fun _ => none)) (hlen : vals.length ≤ 100000) {out : Out} (hout : (ctr args).to out) :
    Calls P f vals.toArray W fun en W' => ∃ x I' ρ', en = .returned x ∧ VRep I' W' ρ' out.v x ∧ Left0 W W' := by
  have hnil : ∀ l : List Value, (l.map fun _ => (none : Option Nat)).filterMap id = [] := by
    intro l
    induction l with
    | nil => rfl
    | cons x l ih => simp
  obtain ⟨k1, k2, k3, hget⟩ := hok.get
  obtain ⟨hR, hV⟩ := (law_rep W).forth (law_gok hG) (args := args) (vals := vals) (los := los) (hos := vals.map fun _ => none) (pure := true) (by omega) (by rw [hnil]; exact List.nodup_nil) (by rw [hnil]; exact hok)
  have hF : ∀ b, ¬ overF (fun _ => none) ((vals.map fun _ => (none : Option Nat)).filterMap id) b := fun b ⟨x, r, e, _⟩ => by cases e
  refine Calls.mono (hS.2 args out vals W _ _ _ _ hout k1 (by omega) (fun i n e c hi => ?_) (fun b _ => hF b) hR hV) ?_
  · obtain ⟨x, l, ho, _, _, _, g⟩ := hget i _ hi
    exact g.2.1
  · rintro en W' ⟨x, I', ρ', ow', rfl, hx, hr⟩
    exact ⟨x, I', ρ', rfl, hx, fun b hb => hr.frame b hb (hF b), hr.size, hr.os, hr.output⟩

theorem Left0.kept {W W' : World} (h : Left0 W W') (may : MemPlace → Prop) : W.keptBut W' may := by
  refine ⟨h.os, h.output, fun i hi => ?_⟩
  rw [h.heap i hi]
  cases hh : W.heap[i]? with
  | none => rfl
  | some o => cases o <;> simp

theorem Left0.cell {W W' : World} (h : Left0 W W') {a : Addr} {v : Value} (hc : W.cell? a = some v) : W'.cell? a = some v := by
  have hb : a.block < W.heap.size := by
    simp only [World.cell?] at hc
    split at hc
    · rename_i hh; exact heap_lt hh
    · cases hc
  rw [World.cell?_of_block (h.heap _ hb)]
  exact hc

theorem mapM_some {α β : Type} {f g : α → Option β} : ∀ {l : List α} {ys : List β}, l.mapM f = some ys → (∀ a ∈ l, ∀ y, f a = some y → g a = some y) → l.mapM g = some ys
  | [], ys, h, _ => by simpa using h
  | a :: l, ys, h, hg => by
    simp only [List.mapM_cons, Option.bind_eq_bind, Option.bind_eq_some_iff, Option.pure_def, Option.some.injEq] at h ⊢
    obtain ⟨y, h1, r, h2, rfl⟩ := h
    exact ⟨y, hg a (by simp) y h1, r, mapM_some h2 (fun b hb => hg b (by simp [hb])), rfl⟩

theorem Left0.cells {W W' : World} (h : Left0 W W') {base : Nat} {a : Addr} {n : Nat} {cs : List Value} (hc : W.cells? base a n = some cs) : W'.cells? base a n = some cs := by
  simp only [World.cells?] at hc ⊢
  split at hc
  · rename_i hb
    rw [if_pos hb]
    exact mapM_some hc (fun i _ y hy => h.cell hy)
  · cases hc

/-- types of plain data -/
def plainT (P : Program) : Nat → TypeId → Bool
  | 0, _ => false
  | d + 1, t => match P.underlying t with
    | some .bool | some (.int _) | some .string => true
    | some (.slice e) => P.cellsOf e != 0 && plainT P d e
    | some (.array _ e) => plainT P d e
    | some (.struct fs) => fs.toList.all fun f => plainT P d f.type
    | _ => false

theorem mapM_of {α β : Type} {f : α → Option β} : ∀ {l : List α} {ys : List β}, ys.length = l.length → (∀ (i : Nat) (a : α), l[i]? = some a → f a = ys[i]?) → l.mapM f = some ys
  | [], [], _, _ => rfl
  | [], _ :: _, h, _ => by simp at h
  | _ :: _, [], h, _ => by simp at h
  | a :: l, y :: ys, h, hf => by
    have h0 := hf 0 a rfl
    have ih := mapM_of (l := l) (ys := ys) (by simpa using h) (fun i b hb => by simpa using hf (i + 1) b (by simpa using hb))
    simp only [List.getElem?_cons_zero] at h0
    simp [h0, ih]

theorem range_at {n i j : Nat} (h : (List.range n)[i]? = some j) : i = j ∧ i < n := by
  have h1 := (List.getElem?_eq_some_iff.1 h).1
  simp at h1
  rw [List.getElem?_range h1] at h
  cases h
  exact ⟨rfl, h1⟩

theorem mapM_mem {α β : Type} {f : α → Option β} : ∀ {l : List α} {ys : List β}, l.mapM f = some ys → ∀ a ∈ l, ∃ y, f a = some y
  | [], _, _, a, ha => by simp at ha
  | b :: l, ys, h, a, ha => by
    simp only [List.mapM_cons, Option.bind_eq_bind, Option.bind_eq_some_iff, Option.pure_def, Option.some.injEq] at h
    obtain ⟨y, h1, r, h2, rfl⟩ := h
    rcases List.mem_cons.1 ha with rfl | ha
    · exact ⟨y, h1⟩
    · exact mapM_mem h2 a ha

section
variable {H : Type} {enc : TypeId × Value → H} {P : Program} {W W' : World}

/-- Plain data read as before. -/
theorem Left0.trod (hW : Left0 W W') : ∀ (d fuel : Nat) (t : TypeId) (cs : List Value) (x : DataW H × List MemPlace), plainT P d t = true → DataW.trod enc P W 0 (fun _ => true) true fuel t cs = some x →
    DataW.trod enc P W' 0 (fun b => decide (b < W.heap.size)) true fuel t cs = some x := by
  intro d
  induction d with
  | zero => intro fuel t cs x h; cases h
  | succ d ih =>
    intro fuel t cs x hp h
    cases fuel with
    | zero => cases h
    | succ fuel =>
      simp only [plainT] at hp
      have leaf : ∀ {d : TypeDesc}, P.underlying t = some d → (d = .bool ∨ (∃ k, d = .int k) ∨ d = .string) → DataW.trod enc P W' 0 (fun b => decide (b < W.heap.size)) true (fuel + 1) t cs = DataW.trod enc P W 0 (fun _ => true) true (fuel + 1) t cs := fun ht hd => by
        unfold DataW.trod
        rw [ht]
        rcases hd with rfl | ⟨k, rfl⟩ | rfl <;> (rcases cs with _ | ⟨c, _ | ⟨c2, cs⟩⟩ <;> first | rfl | (cases c <;> rfl))
      split at hp
      · rename_i ht; rw [leaf ht (.inl rfl)]; exact h
      · rename_i k ht; rw [leaf ht (.inr (.inl ⟨k, rfl⟩))]; exact h
      · rename_i ht; rw [leaf ht (.inr (.inr rfl))]; exact h
      · rename_i e ht
        simp only [Bool.and_eq_true, bne_iff_ne] at hp
        obtain ⟨hz, hp⟩ := hp
        rcases DataW.trod_slice ht h with ⟨rfl, rfl⟩ | ⟨a, len, cap, elems, rest, n, e1, rfl, rfl, hb, hl, hm, hlen, hel, hsp, _⟩
        · unfold DataW.trod; rw [ht]; rfl
        · cases e1
          obtain ⟨hr1, hr2⟩ := hsp rfl
          have step : ∀ (o : Addr) (y : DataW H × List MemPlace), (W.cells? 0 o (P.cellsOf e)).bind (DataW.trod enc P W 0 (fun _ => true) true fuel e) = some y →
              (W'.cells? 0 o (P.cellsOf e)).bind (DataW.trod enc P W' 0 (fun b => decide (b < W.heap.size)) true fuel e) = some y := fun o y hy => by
            obtain ⟨c, hc, hy⟩ := Option.bind_eq_some_iff.1 hy
            rw [hW.cells hc]
            exact ih fuel e c y hp hy
          have blk : ∀ (o : Addr) (y : DataW H × List MemPlace), (W.cells? 0 o (P.cellsOf e)).bind (DataW.trod enc P W 0 (fun _ => true) true fuel e) = some y → o.block < W.heap.size := fun o y hy => by
            obtain ⟨c, hc, hy⟩ := Option.bind_eq_some_iff.1 hy
            have := (World.cells?_some hc).2.2 0 (by omega)
            simp only [World.cell?] at this
            split at this
            · rename_i hh; exact heap_lt hh
            · have hcs : 0 < c.length := by have := (World.cells?_some hc).2.1; omega
              rw [List.getElem?_eq_getElem hcs] at this
              cases this
          have hE : (List.range len).mapM (fun i => (W'.cells? 0 (a.add (i * P.cellsOf e)) (P.cellsOf e)).bind (DataW.trod enc P W' 0 (fun b => decide (b < W.heap.size)) true fuel e)) = some elems := by
            refine mapM_of (by simp [hlen]) fun i j hj => ?_
            replace hj := range_at hj
            obtain ⟨rfl, hj⟩ := hj
            rw [List.getElem?_eq_getElem (by omega)]
            exact step _ _ ((hel i hj).trans (List.getElem?_eq_getElem (by omega)))
          have hR : (if decide (a.block < W.heap.size) = true then (List.range (cap - len)).mapM (fun j => (W'.cells? 0 (a.add ((len + j) * P.cellsOf e)) (P.cellsOf e)).bind (DataW.trod enc P W' 0 (fun b => decide (b < W.heap.size)) true fuel e)) else some []) = some rest := by
            have hmap : (List.range (cap - len)).mapM (fun j => (W'.cells? 0 (a.add ((len + j) * P.cellsOf e)) (P.cellsOf e)).bind (DataW.trod enc P W' 0 (fun b => decide (b < W.heap.size)) true fuel e)) = some rest := by
              refine mapM_of (by simp [hr1]) fun i j hj => ?_
              replace hj := range_at hj
              obtain ⟨rfl, hj⟩ := hj
              rw [List.getElem?_eq_getElem (by omega)]
              exact step _ _ ((hr2 i hj).trans (List.getElem?_eq_getElem (by omega)))
            split
            · exact hmap
            · rename_i hnb
              cases rest with
              | nil => rfl
              | cons y rest =>
                exfalso
                have hpos : 0 < cap - len := by simp at hr1; omega
                have := blk _ y (hr2 0 hpos)
                refine hnb ?_
                simp only [Addr.add] at this
                split at this <;> simpa using this
          unfold DataW.trod
          rw [ht]
          simp only
          rw [if_pos ⟨hb, hl, hm⟩, hE]
          simp only [Option.bind_some]
          rw [hR]
          rfl
      · rename_i n e ht
        obtain ⟨xs, m, e1, rfl, hl, hlen, hel⟩ := DataW.trod_array ht h
        cases e1
        have hE : (List.range n).mapM (fun i => DataW.trod enc P W' 0 (fun b => decide (b < W.heap.size)) true fuel e ((cs.drop (i * P.cellsOf e)).take (P.cellsOf e))) = some xs := by
          refine mapM_of (by simp [hlen]) fun i j hj => ?_
          replace hj := range_at hj
          obtain ⟨rfl, hj⟩ := hj
          rw [List.getElem?_eq_getElem (by omega)]
          exact ih fuel e _ _ hp ((hel i hj).trans (List.getElem?_eq_getElem (by omega)))
        unfold DataW.trod
        rw [ht]
        rcases cs with _ | ⟨c, _ | ⟨c2, cs⟩⟩ <;> (simp only; rw [if_pos hl, hE]; rfl)
      · rename_i fs ht
        obtain ⟨xs, m, e1, rfl, hl, hlen, hel⟩ := DataW.trod_struct ht h
        cases e1
        have hE : fs.toList.mapM (fun f => DataW.trod enc P W' 0 (fun b => decide (b < W.heap.size)) true fuel f.type ((cs.drop f.offset).take (P.cellsOf f.type))) = some xs := by
          refine mapM_of (by simp [hlen]) fun i f hj => ?_
          have hj' : fs[i]? = some f := by simpa using hj
          have hi : i < xs.length := by have := (List.getElem?_eq_some_iff.1 hj).1; simp at this; omega
          rw [List.getElem?_eq_getElem hi]
          refine ih fuel f.type _ _ ?_ ((hel i f hj').trans (List.getElem?_eq_getElem hi))
          simp only [List.all_eq_true] at hp
          exact hp f (List.mem_of_getElem? hj)
        unfold DataW.trod
        rw [ht]
        rcases cs with _ | ⟨c, _ | ⟨c2, cs⟩⟩ <;> (simp only; rw [if_pos hl, hE]; rfl)
      · cases hp

theorem Left0.trodAll (hW : Left0 W W') : ∀ {ts : List TypeId} {vs : List Value} {ds : List (DataW H)} {ps : List MemPlace}, (∀ t ∈ ts, ∃ d, plainT P d t = true) → DataW.TrodAll enc P W 0 (fun _ => true) true ts vs ds ps →
    DataW.TrodAll enc P W' 0 (fun b => decide (b < W.heap.size)) true ts vs ds ps
  | [], [], [], _, _, h => h
  | t :: ts, v :: vs, d :: ds, ps, hp, ⟨p, q, ⟨fuel, h1⟩, h2, h3⟩ => by
    obtain ⟨dd, hd⟩ := hp t (by simp)
    exact ⟨p, q, ⟨fuel, hW.trod dd fuel t _ _ hd h1⟩, hW.trodAll (fun t ht => hp t (by simp [ht])) h2, h3⟩
  | [], _ :: _, _, _, _, h => h.elim
  | [], [], _ :: _, _, _, h => h.elim
  | _ :: _, [], _, _, _, h => h.elim
  | _ :: _, _ :: _, [], _, _, h => h.elim

/-- A law that returned true and left all as it was. -/
theorem law_post {f : Func} {s : ChangeSpec} {W W' : World} {args : Array Value} {ds : List (DataW H)} {p : List MemPlace} {t : TypeId} (hW : DataW.Whole enc P f.params.toList s.vars false W args.toList ds [] p) (hvars : s.vars = [])
    (hA : DataW.TrodAll enc P W 0 (fun _ => true) true f.params.toList args.toList ds p) (hres : f.resultTypes = #[t]) (ht : P.underlying t = some .bool) (hfn : s.fn H ds = { results := [.lit (.bool true)], args := ds })
    (hp : ∀ t ∈ f.params.toList, ∃ d, plainT P d t = true) (hL : Left0 W W') : s.post enc P f false true false false W args (.bool true) W' := by
  refine ⟨ds, [], p, [], p, [], hW, ?_, ?_, ?_, hL.kept _, fun h => by cases h⟩
  · rw [hres, List.append_nil, hfn]
    refine ⟨[], [], ⟨1, ?_⟩, rfl, rfl⟩
    unfold DataW.trod
    rw [ht]
    rfl
  · rw [List.append_nil, hfn]
    exact hL.trodAll hp hA
  · rw [hvars, List.append_nil, hfn]
    rfl

abbrev LArg (W : World) : Arg → Value → Lo → Option Nat → Prop := ArgOk (fun b => b < W.heap.size) W (lawRho W) (fun _ => none) ⟨fun _ => .any, fun _ => none⟩ true []

theorem lit_wf {k : IntKind} {n : Int} (h : (Lit.int k n).wf = true) : inR k n := by
  simp only [Lit.wf, Bool.and_eq_true, decide_eq_true_eq] at h
  exact h

theorem slice_has {t e : TypeId} (ht : P.underlying t = some (.slice e)) {base : Nat} {a : Addr} {n c : Nat} (hval : Value.okWide P W .any base t (.slice (some a) n c)) : a.spot = none ∧ a.block < W.heap.size := by
  have h : W.has P .any base a e c := by
    simp only [Value.okWide, ht, Cell.okWide, Cell.ok] at hval
    exact hval.2.2
  refine ⟨h.2.1, ?_⟩
  obtain ⟨row, cells, h3, _⟩ := h.2.2
  simp only [World.shape?] at h3
  split at h3
  · rename_i hh; exact heap_lt hh
  · cases h3

theorem slice_is {t e : TypeId} (ht : P.underlying t = some (.slice e)) {base : Nat} {v : Value} (hval : Value.okWide P W .any base t v) : ∃ ad n c, v = .slice ad n c := by
  simp only [Value.okWide, ht, Cell.okWide, Cell.ok] at hval
  cases v <;> simp_all

/-- bytes, as a statement reads them -/
theorem law_bytes {t e : TypeId} (ht : P.underlying t = some (.slice e)) (he : P.underlying e = some (.int .u8)) (hc : P.cellsOf e = 1) (hb : P.bytesOf e = 1) {base : Nat} {v : Value} {d : DataW H} {p : List MemPlace}
    (hval : Value.okWide P W .any base t v) (h : DataW.Trod enc P W 0 (fun _ => true) true t v d p) : ∃ n l lo, LArg W (.b n 1 (.ints .u8 n l)) v lo none ∧ ((d.weights P t).all (· ≤ reachBytes) = true → n ≤ 140737488351232) := by
  obtain ⟨fuel, h⟩ := h
  obtain ⟨ad, n, c, rfl⟩ := slice_is ht hval
  rcases open_ints ht he hc h with ⟨h1, h2⟩ | ⟨a, len, cap, zs, h1, h2, h3, h4, h5, h6, h7, h8⟩
  · simp only [Value.cells, List.cons.injEq, Value.slice.injEq, and_true] at h1
    obtain ⟨rfl, rfl, rfl⟩ := h1
    exact ⟨0, [], .ph, ⟨rfl, ⟨rfl, rfl⟩, none, 0, rfl, Nat.le_refl _, by simp, ⟨rfl, by simp, fun j hj => by omega⟩, .inl ⟨rfl, rfl⟩⟩, fun _ => by omega⟩
  · simp only [Value.cells, List.cons.injEq, Value.slice.injEq, and_true] at h1
    obtain ⟨rfl, rfl, rfl⟩ := h1
    cases h6
    simp only [if_true] at h5
    obtain ⟨ha, hblk⟩ := slice_has ht hval
    obtain ⟨b, off, sp⟩ := a
    simp only at ha hblk
    subst ha
    refine ⟨n, zs.take n, .at b off (c * 1), ⟨rfl, ⟨rfl, rfl⟩, _, c, rfl, h3, h4, ⟨by simp; omega, fun y hy => lit_wf (h8 y (List.mem_of_mem_take hy)), fun j hj => ?_⟩, .inr ⟨b, off, rfl, rfl, hblk, fun q hq => by cases hq⟩⟩, fun hw => ?_⟩
    · have := h7 j (by omega)
      have e1 : (⟨b, off, none⟩ : Addr).add j = ⟨b, off + j, none⟩ := by
        simp only [Addr.add]
        split
        · rename_i e; subst e; rfl
        · rfl
      rw [e1] at this
      show W.cell? ⟨b, off + j, none⟩ = _
      rw [this]
      simp [nthI, List.getD_eq_getElem?_getD, hj]
    · simp only [DataW.weights, ht, List.all_cons, Bool.and_eq_true, hb, reachBytes] at hw
      have := of_decide_eq_true hw.1
      simp only [lits, List.length_map, List.length_take, List.length_drop, Nat.mul_one] at this
      omega
end
end Go.Cx
