/-
  Cx 18: calls: what a callee leaves, seen by the caller.
-/
import Derived.Test.YtojllgpnhaaagaaDoorCxC2
import Derived.Orders
namespace Go.Cx
open Go

/-- content of a block whose owner has a new name -/
theorem CRep.reown {I : Nat → Prop} {w : World} {ow ow' : Own} (c : V) : ∀ (ρ ρ' : Rho) (q q' : List Nat) (pos : Nat) (g : Nat → Option Value), c.clo = true →
    (q ≠ [] → q' ≠ [] ∧ ∀ b r, r ≠ [] → ow b = some (q ++ r) → ow' b = some (q' ++ r)) → CRep I w ow c ρ q pos g → CRep I w ow' c ρ' q' pos g := by
  induction c with
  | cat n m a b iha ihb =>
    intro ρ ρ' q q' pos g hc ho h
    simp only [V.clo, Bool.and_eq_true] at hc
    exact ⟨h.1, h.2.1, iha _ _ _ _ _ _ hc.1 ho h.2.2.1, ihb _ _ _ _ _ _ hc.2 ho h.2.2.2⟩
  | one a ih =>
    intro ρ ρ' q q' pos g hc ho h
    exact ⟨h.1, ih _ _ _ _ _ _ (by simpa [V.clo] using hc) ho h.2⟩
  | ptr h p => intro ρ ρ' q q' pos g hc; simp [V.clo] at hc
  | sl h p i n e cap => intro ρ ρ' q q' pos g hc; simp [V.clo] at hc
  | any => intro ρ ρ' q q' pos g hc; simp [V.clo] at hc
  | tcons a b => intro ρ ρ' q q' pos g hc ho h; exact h.elim
  | tnil => intro ρ ρ' q q' pos g hc ho h; exact h.elim
  | osl n e c ih =>
    intro ρ ρ' q q' pos g hc ho h
    simp only [V.clo] at hc
    obtain ⟨h1, a, cp, h2, h3, h4, h5, h6⟩ := h
    obtain ⟨k1, k2⟩ := ho h1
    have key : ∀ b r, r ≠ [] → ow b = some (q ++ [pos] ++ r) → ow' b = some (q' ++ [pos] ++ r) := fun b r hr hb => by
      have := k2 b ([pos] ++ r) (by simp) (by simpa using hb)
      simpa using this
    refine ⟨k1, a, cp, h2, h3, h4, h5, h6.imp (fun ⟨e1, e2⟩ => ⟨e1, ?_⟩) (fun ⟨b, off, cur, e1, e2, e3, e4, e5⟩ => ⟨b, off, cur, e1, k2 b _ (by simp) e2, e3, e4, ?_⟩)⟩
    · exact CRep.mono (fun b hb => ⟨hb, rfl⟩) _ _ _ _ _ _ _ (Rho.le_refl _) (fun h => absurd rfl h) (fun _ _ => rfl) e2
    · exact ih _ _ _ _ _ _ hc (fun _ => ⟨by simp, key⟩) e5
  | optr c ih =>
    intro ρ ρ' q q' pos g hc ho h
    simp only [V.clo] at hc
    obtain ⟨h1, b, off, cur, h2, h3, h4, h6, h5⟩ := h
    obtain ⟨k1, k2⟩ := ho h1
    have key : ∀ b r, r ≠ [] → ow b = some (q ++ [pos] ++ r) → ow' b = some (q' ++ [pos] ++ r) := fun b r hr hb => by
      have := k2 b ([pos] ++ r) (by simp) (by simpa using hb)
      simpa using this
    exact ⟨k1, b, off, cur, h2, k2 b _ (by simp) h3, h4, h6, ih _ _ _ _ _ _ hc (fun _ => ⟨by simp, key⟩) h5⟩
  | dptr c p => intro ρ ρ' q q' pos g hc ho h; obtain ⟨b, off, h1, h2, h3⟩ := h; exact ⟨b, off, h1, h2, h3.noow⟩
  | dsl n e c => intro ρ ρ' q q' pos g hc ho h; obtain ⟨a, cp, h1, h2, h3, h4, h5, h6⟩ := h; exact ⟨a, cp, h1, h2, h3, h4, h5.noow, h6⟩
  | rows e n f => intro ρ ρ' q q' pos g hc ho h j hj; exact ⟨(h j hj).1, (h j hj).2.noow⟩
  | _ => intro ρ ρ' q q' pos g hc ho h; exact h

/-- a value whose handles have new names -/
theorem CRep.rename {I : Nat → Prop} {w : World} {n : Nat} {f : Nat → Nat} (v : V) : ∀ (ρ ρ' : Rho) (pos : Nat) (g : Nat → Option Value), v.hOk n = true → (∀ a l, a < n → ρ a = some l → ρ' (f a) = some l) →
    CRep I w (fun _ => none) v ρ [] pos g → CRep I w (fun _ => none) (renV f v) ρ' [] pos g ∧ (renV f v).size = v.size ∧ (renV f v).isAgg = v.isAgg := by
  induction v with
  | ptr h p =>
    intro ρ ρ' pos g hc hr hh
    obtain ⟨b, off, sz, h1, h2⟩ := hh
    exact ⟨⟨b, off, sz, hr _ _ (by simpa [V.hOk] using hc) h1, h2⟩, rfl, rfl⟩
  | sl h p i n e cap =>
    intro ρ ρ' pos g hc hr hh
    obtain ⟨a, c, l, h1, h2, h3⟩ := hh
    exact ⟨⟨a, c, l, h1, hr _ _ (by simpa [V.hOk] using hc) h2, h3⟩, rfl, rfl⟩
  | cat n m a b iha ihb =>
    intro ρ ρ' pos g hc hr hh
    simp only [V.hOk, Bool.and_eq_true] at hc
    obtain ⟨h1, h2, h3, h4⟩ := hh
    have ha := iha _ _ _ _ hc.1 hr h3
    have hb := ihb _ _ _ _ hc.2 hr h4
    exact ⟨⟨ha.2.1.trans h1, hb.2.1.trans h2, ha.1, hb.1⟩, rfl, rfl⟩
  | tcons a b => intro ρ ρ' pos g hc hr hh; exact hh.elim
  | _ => intro ρ ρ' pos g hc hr hh; exact ⟨CRep.closed _ _ _ _ _ _ hc hh, rfl, rfl⟩

theorem VRep0.rename {I : Nat → Prop} {w : World} {n : Nat} {f : Nat → Nat} {v : V} {x : Value} {ρ ρ' : Rho} (hc : v.hOk n = true) (hr : ∀ a l, a < n → ρ a = some l → ρ' (f a) = some l) (h : VRep0 I w ρ v x) : VRep0 I w ρ' (renV f v) x := by
  rcases h with rfl | ⟨h1, h2, h3⟩
  · simp [V.hOk, V.clo] at hc
  · obtain ⟨k1, k2, k3⟩ := CRep.rename v _ _ _ _ hc hr h3
    exact .inr ⟨by rw [k2, h1], by rw [k3, h2], k1⟩

theorem TRep.rename {I : Nat → Prop} {w : World} {n : Nat} {f : Nat → Nat} {ρ ρ' : Rho} (hr : ∀ a l, a < n → ρ a = some l → ρ' (f a) = some l) : ∀ {v : V} {l : List Value}, v.hOk n = true → TRep I w ρ v l → TRep I w ρ' (renV f v) l := by
  intro v
  induction v with
  | tnil => intro l _ h; exact h
  | tcons a b _ ihb =>
    intro l hc h
    simp only [V.hOk, Bool.and_eq_true] at hc
    obtain ⟨y, r, h1, h2, h3⟩ := h
    exact ⟨y, r, h1, h2.rename hc.1 hr, ihb hc.2 h3⟩
  | _ => intro l _ h; exact h.elim

theorem VRep.rename {I : Nat → Prop} {w : World} {n : Nat} {f : Nat → Nat} {v : V} {x : Value} {ρ ρ' : Rho} (hc : v.hOk n = true) (hr : ∀ a l, a < n → ρ a = some l → ρ' (f a) = some l) (h : VRep I w ρ v x) : VRep I w ρ' (renV f v) x := by
  cases v with
  | tnil => exact h
  | tcons a b => obtain ⟨l, h1, h2⟩ := h; exact ⟨l, h1, TRep.rename hr hc h2⟩
  | _ => exact VRep0.up (VRep0.rename hc hr h)

section
variable {X : Fix} {I : Nat → Prop} {ρ : Rho} {ow : Own} {s : St} {tm : Array Value} {w : World}

/-- the blocks that go with the objects handed over -/
def overF (ow : Own) (hs : List Nat) : Nat → Prop := fun b => ∃ x r, ow b = some (x :: r) ∧ x ∈ hs

open Classical in
noncomputable def backRho (ρ ρ' : Rho) (rn : Nat → Option Nat) : Rho := fun b => if h : ∃ a, rn a = some b then ρ' h.choose else ρ b
open Classical in
noncomputable def backOw (ow ow' : Own) (F' : Nat → Prop) (n : Nat) (rn : Nat → Option Nat) : Own := fun b =>
  if b < n ∧ ¬ F' b then ow b else match ow' b with | some (a :: r) => (rn a).map (· :: r) | _ => none

/-- The caller's state behind a call. -/
theorem Rep.back (h : Rep X I ρ ow s tm w) {hs : List Nat} {I' : Nat → Prop} {ρ' r0 : Rho} {ow' : Own} {hc' hh : Nat → Option Blk} {w' : World} {rn : Nat → Option Nat}
    (h' : Rep ⟨overF ow hs, I, w, 0, r0⟩ I' ρ' ow' ⟨fun _ => .any, hc'⟩ #[] w')
    (inj : ∀ a a' b, rn a = some b → rn a' = some b → a = a')
    (h1 : ∀ a b, rn a = some b → (∃ c, hc' a = some ⟨.own, c⟩ ∧ c.clo = true ∧ hh b = some ⟨.own, c⟩) ∧ ((b ∈ hs ∧ ρ b = ρ' a) ∨ (b < 100000 ∧ s.h b = none)))
    (h2 : ∀ b, (∀ a, rn a ≠ some b) → b ∉ hs ∧ hh b = s.h b) :
    ∃ ρ'' ow'', Rho.le ρ ρ'' ∧ (∀ a b, rn a = some b → ρ'' b = ρ' a) ∧ Rep X I' ρ'' ow'' ⟨s.t, hh⟩ tm w' := by
  classical
  have hnew : ∀ a b, rn a = some b → backRho ρ ρ' rn b = ρ' a := fun a b hab => by
    have hex : ∃ a, rn a = some b := ⟨a, hab⟩
    simp only [backRho, dif_pos hex]
    rw [inj _ _ _ hex.choose_spec hab]
  have hold : ∀ b, (∀ a, rn a ≠ some b) → backRho ρ ρ' rn b = ρ b := fun b hb => by
    have hex : ¬ ∃ a, rn a = some b := fun ⟨a, ha⟩ => hb a ha
    simp only [backRho, dif_neg hex]
  have hle : Rho.le ρ (backRho ρ ρ' rn) := fun b l hl => by
    by_cases hex : ∃ a, rn a = some b
    · obtain ⟨a, ha⟩ := hex
      rw [hnew a b ha]
      obtain ⟨_, ⟨_, e⟩ | ⟨hb, e⟩⟩ := h1 a b ha
      · rw [← e]; exact hl
      · exact absurd e (h.dom b l hl hb)
    · rw [hold b (fun a ha => hex ⟨a, ha⟩)]; exact hl
  have hF : ∀ b, overF ow hs b → b < w.heap.size ∧ (X.F b ∨ X.w0.heap.size ≤ b) := fun b ⟨x, r, hb, _⟩ => ⟨(h.owf b _ hb).1, (h.owf b _ hb).2.1⟩
  have hnF : ∀ b, ow b = none → ¬ overF ow hs b := fun b hb ⟨x, r, e, _⟩ => by rw [hb] at e; cases e
  have hnF2 : ∀ b x r, ow b = some (x :: r) → x ∉ hs → ¬ overF ow hs b := fun b x r hb hx ⟨x', r', e, hx'⟩ => by
    rw [hb] at e; cases e; exact hx hx'
  have owold : ∀ b, b < w.heap.size → ¬ overF ow hs b → backOw ow ow' (overF ow hs) w.heap.size rn b = ow b := fun b hb hn => by
    simp only [backOw, if_pos (And.intro hb hn)]
  have ownew : ∀ b, (overF ow hs b ∨ w.heap.size ≤ b) → backOw ow ow' (overF ow hs) w.heap.size rn b = match ow' b with | some (a :: r) => (rn a).map (· :: r) | _ => none := fun b hb => by
    have : ¬ (b < w.heap.size ∧ ¬ overF ow hs b) := fun ⟨e1, e2⟩ => by
      rcases hb with hb | hb
      · exact e2 hb
      · omega
    simp only [backOw, if_neg this]
  have hframe : ∀ b, b < w.heap.size → ¬ overF ow hs b → w'.heap[b]? = w.heap[b]? := fun b hb hn => h'.frame b hb hn
  have hII : ∀ b, I b → I' b ∧ w'.heap[b]? = w.heap[b]? := fun b hb => ⟨h'.iold b hb, hframe b (h.ilt b hb) (hnF b (h.iow b hb))⟩
  refine ⟨backRho ρ ρ' rn, backOw ow ow' (overF ow hs) w.heap.size rn, hle, hnew, ?_⟩
  exact
    { frame := fun b hb hFb => (hframe b (Nat.lt_of_lt_of_le hb h.size) (fun e => by
        rcases (hF b e).2 with e | e
        · exact hFb e
        · omega)).trans (h.frame b hb hFb)
      size := Nat.le_trans h.size h'.size
      os := h'.os.trans h.os
      tape := h'.tape.trans h.tape
      output := h'.output.trans h.output
      iold := fun b hb => h'.iold b (h.iold b hb)
      inew := fun b hb => by
        rcases h'.inew b hb with e | e | e
        · exact h.inew b e
        · exact .inr (hF b e).2
        · exact .inr (.inr (Nat.le_trans h.size e))
      ilt := h'.ilt
      iow := fun b hb => by
        by_cases hc : b < w.heap.size ∧ ¬ overF ow hs b
        · rw [owold b hc.1 hc.2]
          rcases h'.inew b hb with e | e | e
          · exact h.iow b e
          · exact absurd e hc.2
          · have e : w.heap.size ≤ b := e
            omega
        · have hc2 : overF ow hs b ∨ w.heap.size ≤ b := by
            by_cases e : overF ow hs b
            · exact .inl e
            · exact .inr (Nat.le_of_not_lt fun e2 => hc ⟨e2, e⟩)
          rw [ownew b hc2, h'.iow b hb]
      owf := fun b q hb => by
        by_cases hc : b < w.heap.size ∧ ¬ overF ow hs b
        · rw [owold b hc.1 hc.2] at hb
          obtain ⟨g1, g2, x, r, c, rfl, g3⟩ := h.owf b q hb
          refine ⟨Nat.lt_of_lt_of_le g1 h'.size, g2, x, r, c, rfl, ?_⟩
          by_cases hex : ∃ a, rn a = some x
          · obtain ⟨a, ha⟩ := hex
            obtain ⟨_, ⟨e, _⟩ | ⟨_, e⟩⟩ := h1 a x ha
            · exact absurd ⟨x, r, hb, e⟩ hc.2
            · rw [e] at g3; cases g3
          · exact (h2 x (fun a ha => hex ⟨a, ha⟩)).2.trans g3
        · have hc2 : overF ow hs b ∨ w.heap.size ≤ b := by
            by_cases e : overF ow hs b
            · exact .inl e
            · exact .inr (Nat.le_of_not_lt fun e2 => hc ⟨e2, e⟩)
          rw [ownew b hc2] at hb
          split at hb
          · rename_i a r hab
            obtain ⟨g1, g2, _⟩ := h'.owf b _ hab
            cases hra : rn a with
            | none => rw [hra] at hb; cases hb
            | some y =>
              rw [hra] at hb
              cases hb
              obtain ⟨⟨c, _, _, e⟩, _⟩ := h1 a y hra
              refine ⟨g1, ?_, y, r, c, rfl, e⟩
              rcases g2 with g2 | g2
              · exact (hF b g2).2
              · exact .inr (Nat.le_trans h.size g2)
          · cases hb
      dom := fun b l hl hb => by
        by_cases hex : ∃ a, rn a = some b
        · obtain ⟨a, ha⟩ := hex
          obtain ⟨⟨c, _, _, e⟩, _⟩ := h1 a b ha
          simp only [e]; simp
        · rw [hold b (fun a ha => hex ⟨a, ha⟩)] at hl
          simp only [(h2 b (fun a ha => hex ⟨a, ha⟩)).2]
          exact h.dom b l hl hb
      glob := fun n => by
        obtain ⟨sz, hg⟩ := h.glob n
        exact ⟨sz, hle _ _ hg⟩
      tsz := h.tsz
      nle := h.nle
      rle := fun b l hl => hle _ _ (h.rle b l hl)
      tmps := fun i => (h.tmps i).mono hII hle
      heap := fun b blk hb => by
        by_cases hex : ∃ a, rn a = some b
        · obtain ⟨a, ha⟩ := hex
          obtain ⟨⟨c, e1, e2, e3⟩, _⟩ := h1 a b ha
          simp only [e3, Option.some.injEq] at hb
          subst hb
          obtain ⟨l, g1, g2⟩ := h'.heap a _ e1
          refine ⟨l, by rw [hnew a b ha]; exact g1, ?_⟩
          rcases g2 with ⟨rfl, g3, g4⟩ | ⟨k, off, sz, cur, rfl, g3, g4, g5, g6⟩
          · exact .inl ⟨rfl, g3, CRep.reown _ _ _ _ _ _ _ e2 (fun h => absurd rfl h) g4⟩
          · have hk := (h'.owf k _ g3).2.1
            refine .inr ⟨k, off, sz, cur, rfl, by rw [ownew k hk, g3]; simp [ha], g4, g5, CRep.reown _ _ _ _ _ _ _ e2 (fun _ => ⟨by simp, fun b' r hr hb' => ?_⟩) g6⟩
            have hk' := (h'.owf b' _ hb').2.1
            rw [ownew b' hk', hb']
            simp [ha]
        · obtain ⟨hnb, e⟩ := h2 b (fun a ha => hex ⟨a, ha⟩)
          simp only [e] at hb
          obtain ⟨l, g1, g2⟩ := h.heap b blk hb
          refine ⟨l, hle _ _ g1, ?_⟩
          unfold BRep at *
          split at g2
          · rcases g2 with ⟨g3, g4, g5⟩ | ⟨k, off, sz, cur, g3, g4, g5, g6, g7⟩
            · exact .inl ⟨g3, g4, CRep.mono hII _ _ _ _ _ _ _ hle (fun h => absurd rfl h) (fun _ _ => rfl) g5⟩
            · have hkF := hnF2 k b [] g4 hnb
              refine .inr ⟨k, off, sz, cur, g3, by rw [owold k g5.lt hkF]; exact g4, g5.same (hframe k g5.lt hkF), g6, CRep.mono hII _ _ _ _ _ _ _ hle (fun _ b' r _ hb' => ?_) (fun _ _ => rfl) g7⟩
              have hbF := hnF2 b' b r hb' hnb
              have hbl := (h.owf b' _ hb').1
              exact ⟨by rw [owold b' hbl hbF]; exact hb', hframe b' hbl hbF⟩
          · rcases g2 with ⟨g3, g4, g5⟩ | ⟨k, off, sz, g3, g4, g5, g6, g7⟩
            · exact .inl ⟨g3, g4, CRep.mono hII _ _ _ _ _ _ _ hle (fun h => absurd rfl h) (fun _ _ => rfl) g5⟩
            · have hkF := hnF k g5
              refine .inr ⟨k, off, sz, g3, Nat.lt_of_lt_of_le g4 h'.size, by rw [owold k g4 hkF]; exact g5, g6, ?_⟩
              rw [cellsAt_same (hframe k g4 hkF)]
              exact CRep.mono hII _ _ _ _ _ _ _ hle (fun h => absurd rfl h) (fun _ _ => rfl) g7
          · rcases g2 with ⟨g3, g4, g5⟩ | ⟨k, off, sz, g3, g4, g5, g6⟩
            · exact .inl ⟨g3, g4, CRep.mono hII _ _ _ _ _ _ _ (Rho.le_refl _) (fun h => absurd rfl h) (fun _ _ => rfl) g5⟩
            · refine .inr ⟨k, off, sz, g3, (hII k g4).1, g5, ?_⟩
              rw [cellsAt_same (hII k g4).2]
              exact CRep.mono hII _ _ _ _ _ _ _ (Rho.le_refl _) (fun h => absurd rfl h) (fun _ _ => rfl) g6
          · trivial }
end
end Go.Cx

/- Cx 19: calls: what a callee is given. -/
namespace Go.Cx
open Go

def parV (i : Nat) : Arg → V
  | .v v => v
  | .b n e _ => .sl (parH i) [] 0 n e none
  | .o _ none => .ptr (parH i) []
  | .o _ (some (j, n, e, cap)) => .sl (parH i) [] j n e cap
/-- an object, as it is handed over -/
def vwV : Option (Nat × Nat × Nat × Option Nat) → Nat → V
  | none, hd => .ptr hd []
  | some (j, n, e, cap), hd => .sl hd [] j n e cap
def parB (pure : Bool) : Arg → Option Blk
  | .v _ => none
  | .b _ _ c => some ⟨.bor, c⟩
  | .o c _ => some ⟨if pure then .bor else .own, c⟩
def parHs (G : List (Nat × V)) (pure : Bool) (args : List Arg) : Nat → Option Blk := fun h =>
  if 200000 ≤ h then (look G (h - 200000)).map fun c => ⟨.imm, c⟩ else if 100000 ≤ h then (args[h - 100000]?).bind (parB pure) else none
def outO : Nat → List Arg → List V → List (Nat × Blk)
  | i, .o _ _ :: r, c :: cs => (parH i, ⟨.own, c⟩) :: outO (i + 1) r cs
  | _, .o _ _ :: _, [] => []
  | i, _ :: r, cs => outO (i + 1) r cs
  | _, [], _ => []
def outN : Nat → List V → List (Nat × Blk)
  | _, [] => []
  | j, c :: r => (j, ⟨.own, c⟩) :: outN (j + 1) r
def outHs (args : List Arg) (out : Out) : Nat → Option Blk := look (outO 0 args out.objs ++ outN 0 out.news)

/-- the package's variables that are known: laid once, never written -/
structure GOk (G : List (Nat × V)) (X : Fix) : Prop where
  i0 : ∀ b, X.I0 b → ¬ X.F b ∧ b < X.w0.heap.size
  g : ∀ n c, look G n = some c → X.I0 n ∧ (∃ sz, X.r0 (globH n) = some (.at n 0 sz) ∧ c.size ≤ sz) ∧ CRep X.I0 X.w0 (fun _ => none) c noR [] 0 (cellsAt X.w0 n 0)

section
variable {G : List (Nat × V)} {X : Fix} {I : Nat → Prop} {ρ : Rho} {ow : Own} {s : St} {tm : Array Value} {w : World}

theorem Rep.glo (h : Rep X I ρ ow s tm w) (hG : GOk G X) {n : Nat} {c : V} (hn : look G n = some c) :
    I n ∧ (∃ sz, ρ (globH n) = some (.at n 0 sz) ∧ c.size ≤ sz) ∧ CRep I w (fun _ => none) c noR [] 0 (cellsAt w n 0) := by
  obtain ⟨h1, ⟨sz, h2, h3⟩, h4⟩ := hG.g n c hn
  have hII : ∀ b, X.I0 b → I b ∧ w.heap[b]? = X.w0.heap[b]? := fun b hb => ⟨h.iold b hb, h.frame b (hG.i0 b hb).2 (hG.i0 b hb).1⟩
  refine ⟨h.iold n h1, ⟨sz, h.rle _ _ h2, h3⟩, ?_⟩
  rw [cellsAt_same (hII n h1).2]
  exact CRep.mono hII _ _ _ _ _ _ _ (Rho.le_refl _) (fun h => absurd rfl h) (fun _ _ => rfl) h4
end

section
variable (I : Nat → Prop) (w : World) (ρ : Rho) (ow : Own) (s : St) (pure : Bool) (HS : List Nat)

/-- one argument -/
def ArgOk (arg : Arg) (x : Value) (lo : Lo) (ho : Option Nat) : Prop := match arg with
  | .v v => VRep I w noR v x ∧ ho = none
  | .b n e c => ho = none ∧ isRow e n c ∧ ∃ ad cp, x = .slice ad n cp ∧ n ≤ cp ∧ cp ≤ maxLen ∧ CRep I w (fun _ => none) c noR [] 0 (behind w ad) ∧
      ((cp = 0 ∧ lo = .ph) ∨ ∃ b off, ad = some ⟨b, off, none⟩ ∧ lo = .at b off (cp * e) ∧ b < w.heap.size ∧ ∀ q, ow b = some q → ∃ hd, q = [hd] ∧ hd ∉ HS)
  | .o c vw => ∃ hd kk, s.h hd = some ⟨kk, c⟩ ∧ c.clo = true ∧ ρ hd = some lo ∧ VRep I w ρ (vwV vw hd) x ∧
      ((pure = false ∧ kk = .own ∧ ho = some hd) ∨ (pure = true ∧ c.noown = true ∧ (kk = .own ∨ kk = .bor) ∧ ho = none))

def ArgsOk : List Arg → List Value → List Lo → List (Option Nat) → Prop
  | a :: as, x :: xs, l :: ls, h :: hs => ArgOk I w ρ ow s pure HS a x l h ∧ ArgsOk as xs ls hs
  | [], [], [], [] => True
  | _, _, _, _ => False
end

section
variable {I : Nat → Prop} {w : World} {ρ : Rho} {ow : Own} {s : St} {pure : Bool} {HS : List Nat}

theorem ArgsOk.get : ∀ {as : List Arg} {xs : List Value} {ls : List Lo} {hs : List (Option Nat)}, ArgsOk I w ρ ow s pure HS as xs ls hs → as.length = xs.length ∧ as.length = ls.length ∧ as.length = hs.length ∧
    ∀ (i : Nat) (a : Arg), as[i]? = some a → ∃ x l h, xs[i]? = some x ∧ ls[i]? = some l ∧ hs[i]? = some h ∧ ArgOk I w ρ ow s pure HS a x l h
  | [], [], [], [], _ => ⟨rfl, rfl, rfl, fun i a h => by simp at h⟩
  | a :: as, x :: xs, l :: ls, h :: hs, ⟨h1, h2⟩ => by
    obtain ⟨g1, g2, g3, g4⟩ := ArgsOk.get h2
    refine ⟨by simp [g1], by simp [g2], by simp [g3], fun i b hb => ?_⟩
    cases i with
    | zero => cases hb; exact ⟨x, l, h, rfl, rfl, rfl, h1⟩
    | succ i => simpa using g4 i b (by simpa using hb)
  | [], _ :: _, _, _, h => h.elim
  | [], [], _ :: _, _, h => h.elim
  | [], [], [], _ :: _, h => h.elim
  | _ :: _, [], _, _, h => h.elim
  | _ :: _, _ :: _, [], _, h => h.elim
  | _ :: _, _ :: _, _ :: _, [], h => h.elim
end

section
variable {P : Program} {X : Fix} {I : Nat → Prop} {ρ : Rho} {ow : Own} {s : St} {a : Act} {w : World} {o : Oper} {pure : Bool} {HS : List Nat}

theorem closed_vr {v : V} {x : Value} (hc : v.clo = true) (hn : ∀ n e c, v ≠ .osl n e c) (hn2 : ∀ c, v ≠ .optr c) (h : VRep I w ρ v x) : VRep I w noR v x := by
  have go0 : ∀ {v : V} {x : Value}, v.clo = true → VRep0 I w ρ v x → VRep0 I w noR v x := by
    intro v x hc h
    rcases h with rfl | ⟨h1, h2, h3⟩
    · simp [V.clo] at hc
    · exact .inr ⟨h1, h2, CRep.closed _ _ _ _ _ _ hc h3⟩
  have goT : ∀ {v : V} {l : List Value}, v.clo = true → TRep I w ρ v l → TRep I w noR v l := by
    intro v
    induction v with
    | tnil => intro l _ h; exact h
    | tcons a b _ ihb =>
      intro l hc h
      simp only [V.clo, Bool.and_eq_true] at hc
      obtain ⟨y, r, h1, h2, h3⟩ := h
      exact ⟨y, r, h1, go0 hc.1 h2, ihb hc.2 h3⟩
    | _ => intro l _ h; exact h.elim
  cases v with
  | tnil => exact h
  | tcons a b => obtain ⟨l, h1, h2⟩ := h; exact ⟨l, h1, goT hc h2⟩
  | _ => exact go0 hc h

theorem resolve_ok (h : Rep X I ρ ow s a.tmps w) {k : AK} {v : V} {x : Value} {r : Arg × Option Nat} (hr : (resolve apf s.h pure k v).to r) (hv : VRep I w ρ v x) (hl : ∀ hd p i n e cap kk, v = .sl hd p i n e cap → k = .b kk → hd ∉ HS) :
    ∃ lo, ArgOk I w ρ ow s pure HS r.1 x lo r.2 := by
  unfold resolve at hr
  split at hr
  · rename_i k
    obtain ⟨⟨n, c⟩, hc, hr⟩ := bind_to hr
    cases hr
    have hsl := sliceC_rep h hc hv
    obtain ⟨⟨ad, cp, h1, h2, h3, h4, h5⟩, hrow⟩ := hsl
    by_cases hcp : cp = 0
    · exact ⟨.ph, rfl, hrow, ad, cp, h1, h2, h3, h5, .inl ⟨hcp, rfl⟩⟩
    · obtain ⟨b, off, rfl⟩ := h4.resolve_left hcp
      obtain ⟨g1, g2⟩ := sliceC_place h hc hv h1 hcp
      refine ⟨.at b off (cp * k.size), rfl, hrow, _, cp, h1, h2, h3, h5, .inr ⟨b, off, rfl, rfl, g1, fun q hq => ?_⟩⟩
      obtain ⟨hd, p, i, n, e, cap, e1, e2⟩ := g2 q hq
      exact ⟨hd, e2, hl _ _ _ _ _ _ _ e1 rfl⟩
  · split at hr
    · rename_i hd i n e cap
      split at hr
      · rename_i c hh
        obtain ⟨h1, hr⟩ := rif_to hr
        cases hr
        simp only [Bool.and_eq_true, Bool.not_eq_true'] at h1
        obtain ⟨l, g1, g2⟩ := h.heap _ _ hh
        exact ⟨l, hd, .own, hh, h1.1.1.1, g1, hv, .inl ⟨h1.1.1.2, rfl, rfl⟩⟩
      · exact hr.elim
    · exact hr.elim
  · split at hr
    · rename_i hd
      split at hr
      · rename_i c hh
        obtain ⟨h1, hr⟩ := rif_to hr
        cases hr
        simp only [Bool.and_eq_true, Bool.or_eq_true, Bool.not_eq_true'] at h1
        obtain ⟨l, g1, g2⟩ := h.heap _ _ hh
        refine ⟨l, hd, .own, hh, h1.1, g1, hv, ?_⟩
        cases pure with
        | true => exact .inr ⟨rfl, by simpa using h1.2, .inl rfl, rfl⟩
        | false => exact .inl ⟨rfl, rfl, rfl⟩
      · rename_i c hh
        obtain ⟨h1, hr⟩ := rif_to hr
        cases hr
        simp only [Bool.and_eq_true] at h1
        obtain ⟨l, g1, g2⟩ := h.heap _ _ hh
        exact ⟨l, hd, .bor, hh, h1.1.2, g1, hv, .inr ⟨h1.1.1, h1.2, .inr rfl, rfl⟩⟩
      · exact hr.elim
    · obtain ⟨h1, hr⟩ := rif_to hr
      cases hr
      simp only [Bool.and_eq_true] at h1
      refine ⟨.ph, closed_vr h1.1 (fun n e c e1 => ?_) (fun c e1 => ?_) hv, rfl⟩
      · rw [e1] at h1; simp at h1
      · rw [e1] at h1; simp at h1

theorem resolveL_ok (h : Rep X I ρ ow s a.tmps w) : ∀ {xs : List (V × AK)} {vals : List Value} {r : List Arg × List Nat}, (resolveL apf s.h pure xs).to r → F2 (fun x v => VRep I w ρ x.1 v) xs vals → (∀ i ∈ lent xs, i ∉ HS) →
    ∃ los hos, ArgsOk I w ρ ow s pure HS r.1 vals los hos ∧ hos.filterMap id = r.2 := by
  intro xs
  induction xs with
  | nil =>
    intro vals r hr hv _
    cases hv
    cases hr
    exact ⟨[], [], trivial, rfl⟩
  | cons x xs ih =>
    intro vals r hr hv hl
    cases hv with
    | cons hxv hv =>
      simp only [resolveL] at hr
      obtain ⟨r1, hr1, hr⟩ := bind_to hr
      obtain ⟨r2, hr2, hr⟩ := bind_to hr
      cases hr
      have hsub : ∀ i ∈ lent xs, i ∈ lent (x :: xs) := by
        intro i hi
        obtain ⟨v, k⟩ := x
        cases v <;> cases k <;> simp [lent, hi]
      obtain ⟨los, hos, g1, g2⟩ := ih hr2 hv (fun i hi => hl i (hsub i hi))
      obtain ⟨lo, g3⟩ := resolve_ok (HS := HS) h hr1 hxv (fun hd p i n e cap kk e1 e2 => hl hd (by
        obtain ⟨v, k⟩ := x
        simp only at e1 e2
        subst e1 e2
        simp [lent]))
      refine ⟨lo :: los, r1.2 :: hos, ⟨g3, g1⟩, ?_⟩
      cases hq : r1.2 <;> simp [g2]
end

theorem fm_inj : ∀ {l : List (Option Nat)} {i j x : Nat}, (l.filterMap id).Nodup → l[i]? = some (some x) → l[j]? = some (some x) → i = j := by
  intro l
  induction l with
  | nil => intro i j x _ h; simp at h
  | cons a l ih =>
    intro i j x hn hi hj
    have hmem : ∀ {k : Nat}, l[k]? = some (some x) → x ∈ l.filterMap id := fun {k} hk => by
      simp only [List.mem_filterMap, id]
      exact ⟨some x, List.mem_of_getElem? hk, rfl⟩
    cases a with
    | none =>
      cases i with
      | zero => simp at hi
      | succ i =>
        cases j with
        | zero => simp at hj
        | succ j => exact congrArg (· + 1) (ih (by simpa using hn) (by simpa using hi) (by simpa using hj))
    | some y =>
      simp only [List.filterMap_cons, id, List.nodup_cons] at hn
      cases i with
      | zero =>
        cases j with
        | zero => rfl
        | succ j =>
          simp at hi
          subst hi
          exact absurd (hmem (by simpa using hj)) hn.1
      | succ i =>
        cases j with
        | zero =>
          simp at hj
          subst hj
          exact absurd (hmem (by simpa using hi)) hn.1
        | succ j => exact congrArg (· + 1) (ih hn.2 (by simpa using hi) (by simpa using hj))

section
variable {G : List (Nat × V)} {X : Fix} {I : Nat → Prop} {ρ : Rho} {ow : Own} {s : St} {tm : Array Value} {w : World} {pure : Bool}

open Classical in
noncomputable def forthOw (ow : Own) (hos : List (Option Nat)) : Own := fun b => match ow b with
  | some (x :: r) => if h : ∃ i : Nat, hos[i]? = some (some x) then some (parH h.choose :: r) else none
  | _ => none
def forthRho (ρ : Rho) (los : List Lo) : Rho := fun h => if 200000 ≤ h then ρ h else if 100000 ≤ h then los[h - 100000]? else none

theorem forthRho_par {los : List Lo} {i : Nat} (h : i < 100000) : forthRho ρ los (parH i) = los[i]? := by
  have h1 : ¬ 200000 ≤ parH i := by simp only [parH]; omega
  have h2 : 100000 ≤ parH i := by simp only [parH]; omega
  have h3 : parH i - 100000 = i := by simp only [parH]; omega
  simp only [forthRho, if_neg h1, if_pos h2, h3]
theorem parHs_par {args : List Arg} {i : Nat} (h : i < 100000) : parHs G pure args (parH i) = (args[i]?).bind (parB pure) := by
  have h1 : ¬ 200000 ≤ parH i := by simp only [parH]; omega
  have h2 : 100000 ≤ parH i := by simp only [parH]; omega
  have h3 : parH i - 100000 = i := by simp only [parH]; omega
  simp only [parHs, if_neg h1, if_pos h2, h3]

theorem forthOw_at {ow : Own} {hos : List (Option Nat)} (hn : (hos.filterMap id).Nodup) {b x i : Nat} {r : List Nat} (hb : ow b = some (x :: r)) (hi : hos[i]? = some (some x)) : forthOw ow hos b = some (parH i :: r) := by
  have hex : ∃ i : Nat, hos[i]? = some (some x) := ⟨i, hi⟩
  simp only [forthOw, hb, dif_pos hex]
  rw [fm_inj hn hex.choose_spec hi]

theorem forthOw_none {ow : Own} {hos : List (Option Nat)} {b : Nat} (h : ∀ q, ow b = some q → ∃ x, q = [x] ∧ x ∉ hos.filterMap id) : forthOw ow hos b = none := by
  cases hb : ow b with
  | none => simp [forthOw, hb]
  | some q =>
    obtain ⟨x, rfl, hx⟩ := h q hb
    have hex : ¬ ∃ i : Nat, hos[i]? = some (some x) := fun ⟨i, hi⟩ => hx (by
      simp only [List.mem_filterMap, id]
      exact ⟨some x, List.mem_of_getElem? hi, rfl⟩)
    simp only [forthOw, hb, dif_neg hex]

theorem forthOw_some {ow : Own} {hos : List (Option Nat)} {b : Nat} {q : List Nat} (h : forthOw ow hos b = some q) : ∃ (x : Nat) (r : List Nat) (i : Nat), ow b = some (x :: r) ∧ hos[i]? = some (some x) ∧ q = parH i :: r := by
  simp only [forthOw] at h
  split at h
  · rename_i x r hb
    split at h
    · rename_i hex
      cases h
      exact ⟨x, r, hex.choose, hb, hex.choose_spec, rfl⟩
    · cases h
  · cases h

/-- The callee's first state. -/
theorem Rep.forth (h : Rep X I ρ ow s tm w) (hG : GOk G X) {args : List Arg} {vals : List Value} {los : List Lo} {hos : List (Option Nat)} (hlen : args.length ≤ 100000) (hn : (hos.filterMap id).Nodup)
    (hok : ArgsOk I w ρ ow s pure (hos.filterMap id) args vals los hos) :
    Rep ⟨overF ow (hos.filterMap id), I, w, 0, forthRho ρ los⟩ I (forthRho ρ los) (forthOw ow hos) ⟨fun _ => .any, parHs G pure args⟩ #[] w ∧
      ∀ (i : Nat) (a : Arg), args[i]? = some a → VRep I w (forthRho ρ los) (parV i a) (vals.toArray.getD i undef) := by
  obtain ⟨l1, l2, l3, hget⟩ := hok.get
  have hpar : ∀ (i : Nat), i < args.length → forthRho ρ los (parH i) = los[i]? := fun i hi => by
    exact forthRho_par (by omega)
  have hmem : ∀ {i x : Nat}, hos[i]? = some (some x) → x ∈ hos.filterMap id := fun {i x} hi => by
    simp only [List.mem_filterMap, id]
    exact ⟨some x, List.mem_of_getElem? hi, rfl⟩
  refine ⟨?_, fun i arg hi => ?_⟩
  · exact
      { frame := fun b _ _ => rfl
        size := Nat.le_refl _
        os := rfl
        tape := rfl
        output := rfl
        iold := fun _ h => h
        inew := fun _ h => .inl h
        ilt := h.ilt
        iow := fun b hb => forthOw_none (fun q hq => by rw [h.iow b hb] at hq; cases hq)
        owf := fun b q hb => by
          obtain ⟨x, r, i, h1, h2, rfl⟩ := forthOw_some hb
          refine ⟨(h.owf b _ h1).1, .inl ⟨x, r, h1, hmem h2⟩, parH i, r, ?_⟩
          have hil : i < args.length := by rw [l3]; exact (List.getElem?_eq_some_iff.1 h2).1
          obtain ⟨y, l, ho, g1, g2, g3, g4⟩ := hget i _ (List.getElem?_eq_getElem hil)
          rw [h2] at g3
          cases g3
          generalize hga : args[i] = arg at g4
          cases arg with
          | v v => cases g4.2
          | b n e c => cases g4.1
          | o c vw =>
            obtain ⟨hd, kk, _, _, _, _, g5⟩ := g4
            rcases g5 with ⟨g5, _, _⟩ | ⟨_, _, _, g5⟩
            · refine ⟨c, rfl, ?_⟩
              have : args[i]? = some (.o c vw) := by rw [List.getElem?_eq_getElem hil, hga]
              show parHs G pure args (parH i) = _
              rw [parHs_par (by omega), this]
              simp [parB, g5]
            · cases g5
        dom := fun k l hk hlt => by
          simp only [forthRho] at hk
          rw [if_neg (by omega), if_neg (by omega)] at hk
          cases hk
        glob := fun n => by
          obtain ⟨sz, hg⟩ := h.glob n
          refine ⟨sz, ?_⟩
          simp only [forthRho]
          rw [if_pos (by simp [globH])]
          exact hg
        tsz := rfl
        nle := by simp
        rle := Rho.le_refl _
        tmps := fun i => VRep.any _ _ _ _
        heap := fun k blk hk => by
          simp only [parHs] at hk
          split at hk
          · rename_i hk2
            simp only [Option.map_eq_some_iff] at hk
            obtain ⟨c, hc, rfl⟩ := hk
            obtain ⟨g1, ⟨sz, g2, g3⟩, g4⟩ := h.glo hG hc
            have e1 : globH (k - 200000) = k := by simp only [globH]; omega
            rw [e1] at g2
            refine ⟨.at (k - 200000) 0 sz, by simp only [forthRho]; rw [if_pos hk2]; exact g2, .inr ⟨k - 200000, 0, sz, rfl, g1, g3, g4.noow⟩⟩
          · split at hk
            · rename_i hk2 hk3
              simp only [Option.bind_eq_some_iff] at hk
              obtain ⟨arg, harg, hk⟩ := hk
              have hil : k - 100000 < args.length := (List.getElem?_eq_some_iff.1 harg).1
              obtain ⟨y, l, ho, g1, g2, g3, g4⟩ := hget _ _ harg
              have e1 : parH (k - 100000) = k := by simp only [parH]; omega
              have hρ := hpar _ hil
              rw [e1, g2] at hρ
              refine ⟨l, hρ, ?_⟩
              cases arg with
              | v v => cases hk
              | b n e c =>
                cases hk
                obtain ⟨_, hrow, ad, cp, g5, g6, g7, g8, g9⟩ := g4
                rcases g9 with ⟨rfl, rfl⟩ | ⟨b, off, rfl, rfl, g10, g11⟩
                · obtain rfl : n = 0 := by omega
                  have hz := isRow_zero hrow
                  exact .inl ⟨rfl, hz, CRep.mono (ow := forthOw ow hos) (fun b hb => ⟨hb, rfl⟩) _ _ _ _ _ _ _ (noR_le _) (fun h => absurd rfl h) (fun j hj => by have hj : j < c.size := hj; omega) g8.noow⟩
                · refine .inr ⟨b, off, cp * e, rfl, g10, forthOw_none g11, by rw [isRow_size hrow]; exact Nat.mul_le_mul_right _ g6, ?_⟩
                  exact CRep.mono (ow := forthOw ow hos) (fun b hb => ⟨hb, rfl⟩) _ _ _ _ _ _ _ (noR_le _) (fun h => absurd rfl h) (fun j hj => rfl) g8.noow
              | o c vw =>
                cases hk
                obtain ⟨hd, kk, g5, g6, g7, g8, g9⟩ := g4
                obtain ⟨l', g10, g11⟩ := h.heap _ _ g5
                rw [g7] at g10
                cases g10
                rcases g9 with ⟨rfl, rfl, rfl⟩ | ⟨rfl, g12, g13, rfl⟩
                · rcases g11 with ⟨rfl, q1, q2⟩ | ⟨b, off, sz, cur, rfl, q1, q2, q3, q4⟩
                  · exact .inl ⟨rfl, q1, CRep.reown _ _ _ _ _ _ _ g6 (fun h => absurd rfl h) q2⟩
                  · have hb := forthOw_at hn q1 g3
                    rw [e1] at hb
                    refine .inr ⟨b, off, sz, cur, rfl, hb, q2, q3, CRep.reown _ _ _ _ _ _ _ g6 (fun _ => ⟨by simp, fun b' r _ hb' => ?_⟩) q4⟩
                    have := forthOw_at hn hb' g3
                    rw [e1] at this
                    exact this
                · have hnil : ∀ b, forthOw ow hos b = none := fun b => by
                    cases hb : forthOw ow hos b with
                    | none => rfl
                    | some q =>
                      obtain ⟨x, r, i, h1, h2, _⟩ := forthOw_some hb
                      have hil' : i < args.length := by rw [l3]; exact (List.getElem?_eq_some_iff.1 h2).1
                      obtain ⟨y', l', ho', p1, p2, p3, p4⟩ := hget i _ (List.getElem?_eq_getElem hil')
                      rw [h2] at p3
                      cases p3
                      generalize args[i] = arg at p4
                      cases arg with
                      | v v => cases p4.2
                      | b n e c => cases p4.1
                      | o c vw =>
                        obtain ⟨hd, kk, _, _, _, _, p5⟩ := p4
                        rcases p5 with ⟨p5, _⟩ | ⟨_, _, _, p5⟩
                        · cases p5
                        · cases p5
                  rcases g13 with rfl | rfl
                  · rcases g11 with ⟨rfl, q1, q2⟩ | ⟨b, off, sz, cur, rfl, q1, q2, q3, q4⟩
                    · exact .inl ⟨rfl, q1, CRep.reown _ _ _ _ _ _ _ g6 (fun h => absurd rfl h) q2⟩
                    · have hs := own_size q3 q4
                      refine .inr ⟨b, off, sz, rfl, q2.lt, hnil b, hs, ?_⟩
                      rw [← q2.cells]
                      exact CRep.reown _ _ _ _ _ _ _ g6 (fun h => absurd rfl h) (CRep.noq _ _ _ [] _ 0 _ g12 q4)
                  · rcases g11 with ⟨rfl, q1, q2⟩ | ⟨b, off, sz, rfl, q1, q2, q3, q4⟩
                    · exact .inl ⟨rfl, q1, CRep.reown _ _ _ _ _ _ _ g6 (fun h => absurd rfl h) q2⟩
                    · exact .inr ⟨b, off, sz, rfl, q1, hnil b, q3, CRep.reown _ _ _ _ _ _ _ g6 (fun h => absurd rfl h) q4⟩
            · cases hk }
  · obtain ⟨x, l, ho, g1, g2, g3, g4⟩ := hget i arg hi
    have hil : i < args.length := (List.getElem?_eq_some_iff.1 hi).1
    have hx : vals.toArray.getD i undef = x := by simp [Array.getD_eq_getD_getElem?, g1]
    have hρ := hpar i hil
    rw [g2] at hρ
    rw [hx]
    cases arg with
    | v v => exact g4.1.mono (fun b hb => ⟨hb, rfl⟩) (noR_le _)
    | b n e c =>
      obtain ⟨_, hrow, ad, cp, rfl, g6, g7, g8, g9⟩ := g4
      refine leaf_vr rfl rfl rfl ⟨ad, cp, l, rfl, hρ, g6, g7, trivial, ?_⟩
      rcases g9 with ⟨g9, _⟩ | ⟨b, off, rfl, rfl, _⟩
      · exact .inl g9
      · exact .inr ⟨b, off, cp * e, rfl, by simp [poff], by simp [poff]⟩
    | o c vw =>
      obtain ⟨hd, kk, g5, g6, g7, g8, g9⟩ := g4
      cases vw with
      | none =>
        obtain ⟨b, off, sz, g10, rfl⟩ := vr_ptr g8
        rw [g7] at g10
        cases g10
        exact ptr_vr hρ
      | some q =>
        obtain ⟨j, n, e, cap⟩ := q
        obtain ⟨ad, c', l', k1, k2, k3, k4, k5, k6⟩ := vr_sl g8
        rw [g7] at k2
        cases k2
        subst k1
        exact leaf_vr rfl rfl rfl ⟨ad, c', l, rfl, hρ, k3, k4, k5, k6⟩
end
end Go.Cx

/- Cx 20: calls. -/
namespace Go.Cx
open Go

/-- what a contract promises of a function -/
def Sound (P : Program) (G : List (Nat × V)) (f : FuncId) (pure : Bool) (ctr : Ctr) : Prop :=
  (∀ xs w, (callFunc f xs).run P w = .ok (.enter f xs) w) ∧
  ∀ (args : List Arg) (out : Out) (vals : List Value) (w : World) (F I : Nat → Prop) (ρ : Rho) (ow : Own), (ctr args).to out → args.length = vals.length → args.length ≤ 100000 → (∀ (i n e : Nat) (c : V), args[i]? = some (.b n e c) → isRow e n c) → (∀ b, I b → ¬ F b) →
    Rep ⟨F, I, w, 0, ρ⟩ I ρ ow ⟨fun _ => .any, parHs G pure args⟩ #[] w → (∀ (i : Nat) (a : Arg), args[i]? = some a → VRep I w ρ (parV i a) (vals.toArray.getD i undef)) →
    Calls P f vals.toArray w fun en w' => ∃ x I' ρ' ow', en = .returned x ∧ VRep I' w' ρ' out.v x ∧ Rep ⟨F, I, w, 0, ρ⟩ I' ρ' ow' ⟨fun _ => .any, outHs args out⟩ #[] w'

def EnvSound (P : Program) (G : List (Nat × V)) (pure : Nat → Bool) (E : List (Nat × Ctr)) : Prop := ∀ f c, look E f = some c → Sound P G f (pure f) c

theorem putHs_append (h : Nat → Option Blk) : ∀ (l m : List (Nat × Blk)), putHs h (l ++ m) = putHs (putHs h l) m := by
  intro l
  induction l generalizing h with
  | nil => intro m; rfl
  | cons p l ih => intro m; exact ih _ m

theorem putHs_not {b : Nat} : ∀ {l : List (Nat × Blk)} {h : Nat → Option Blk}, b ∉ l.map (·.1) → putHs h l b = h b := by
  intro l
  induction l with
  | nil => intro h _; rfl
  | cons p l ih =>
    intro h hb
    simp only [List.map_cons, List.mem_cons, not_or] at hb
    show putHs (upd h p.1 (some p.2)) l b = h b
    rw [ih hb.2, upd_ne _ _ hb.1]

theorem objsL_keys : ∀ {hs : List Nat} {cs : List V} {b : Nat}, b ∈ (objsL hs cs).map (·.1) → b ∈ hs := by
  intro hs
  induction hs with
  | nil => intro cs b h; simp [objsL] at h
  | cons x hs ih =>
    intro cs b h
    cases cs with
    | nil => simp [objsL] at h
    | cons c cs =>
      simp only [objsL, List.map_cons, List.mem_cons] at h
      rcases h with h | h
      · simp [h]
      · exact List.mem_cons_of_mem _ (ih h)

theorem putHs_objs : ∀ {hs : List Nat} {cs : List V} {h : Nat → Option Blk} {m x : Nat} {c : V}, hs.Nodup → hs[m]? = some x → cs[m]? = some c → putHs h (objsL hs cs) x = some ⟨.own, c⟩ := by
  intro hs
  induction hs with
  | nil => intro cs h m x c _ hx; simp at hx
  | cons y hs ih =>
    intro cs h m x c hn hx hc
    cases cs with
    | nil => simp at hc
    | cons c0 cs =>
      simp only [List.nodup_cons] at hn
      cases m with
      | zero =>
        simp at hx hc
        subst hx hc
        show putHs (upd h y _) (objsL hs cs) y = _
        rw [putHs_not (fun hh => hn.1 (objsL_keys hh)), upd_same]
      | succ m => exact ih hn.2 (by simpa using hx) (by simpa using hc)

theorem newH_inj {d i j : Nat} (_hd : d < 10000) (h : newH d i = newH d j) : i = j := by
  simp only [newH] at h
  split at h <;> split at h <;> omega

theorem newsL_keys {d : Nat} : ∀ {news : List V} {j0 b : Nat}, b ∈ (newsL d j0 news).map (·.1) → ∃ j, j < news.length ∧ b = newH d (j0 + j) := by
  intro news
  induction news with
  | nil => intro j0 b h; simp [newsL] at h
  | cons c r ih =>
    intro j0 b h
    simp only [newsL, List.map_cons, List.mem_cons] at h
    rcases h with h | h
    · exact ⟨0, by simp, h⟩
    · obtain ⟨j, h1, h2⟩ := ih h
      exact ⟨j + 1, by simp; omega, by rw [h2]; congr 1; omega⟩

theorem putHs_news {d : Nat} (hd : d < 10000) : ∀ {news : List V} {j0 j : Nat} {h : Nat → Option Blk} {c : V}, news[j]? = some c → putHs h (newsL d j0 news) (newH d (j0 + j)) = some ⟨.own, c⟩ := by
  intro news
  induction news with
  | nil => intro j0 j h c hc; simp at hc
  | cons c0 r ih =>
    intro j0 j h c hc
    cases j with
    | zero =>
      simp at hc
      subst hc
      show putHs (upd h (newH d j0) _) (newsL d (j0 + 1) r) (newH d j0) = _
      rw [putHs_not (fun hh => ?_), upd_same]
      obtain ⟨j, _, e⟩ := newsL_keys hh
      have := newH_inj hd e
      omega
    | succ j =>
      have := ih (j0 := j0 + 1) (h := upd h (newH d j0) (some ⟨.own, c0⟩)) (j := j) (c := c) (by simpa using hc)
      rw [show j0 + 1 + j = j0 + (j + 1) by omega] at this
      exact this

theorem allFresh_spec {h : Nat → Option Blk} : ∀ {l : List (Nat × Blk)}, allFresh h l = true → ∀ p ∈ l, h p.1 = none ∧ p.1 < 100000 ∧ p.2.c.clo = true := by
  intro l
  induction l with
  | nil => intro _ p hp; simp at hp
  | cons x l ih =>
    intro hf p hp
    simp only [allFresh, Bool.and_eq_true, decide_eq_true_eq, Option.isNone_iff_eq_none] at hf
    rcases List.mem_cons.1 hp with rfl | hp
    · exact ⟨hf.1.1.1, hf.1.1.2, hf.1.2⟩
    · exact ih hf.2 p hp

theorem newsL_mem {d : Nat} : ∀ {news : List V} {j0 j : Nat} {c : V}, news[j]? = some c → (newH d (j0 + j), (⟨.own, c⟩ : Blk)) ∈ newsL d j0 news := by
  intro news
  induction news with
  | nil => intro j0 j c hc; simp at hc
  | cons c0 r ih =>
    intro j0 j c hc
    cases j with
    | zero => simp at hc; subst hc; simp [newsL]
    | succ j =>
      have := ih (j0 := j0 + 1) (j := j) (c := c) (by simpa using hc)
      rw [show j0 + 1 + j = j0 + (j + 1) by omega] at this
      exact List.mem_cons_of_mem _ this

theorem look_append {α : Type} {l m : List (Nat × α)} {b : Nat} : look (l ++ m) b = match look l b with | some x => some x | none => look m b := by
  induction l with
  | nil => rfl
  | cons p l ih =>
    obtain ⟨k, v⟩ := p
    simp only [List.cons_append, look]
    split
    · rfl
    · exact ih

theorem outO_keys {b : Nat} : ∀ {args : List Arg} {i : Nat} {cs : List V}, b < 100000 → look (outO i args cs) b = none := by
  intro args
  induction args with
  | nil => intro i cs _; cases cs <;> rfl
  | cons x args ih =>
    intro i cs hb
    cases x with
    | v v => exact ih hb
    | b n e c => exact ih hb
    | o c vw =>
      cases cs with
      | nil => rfl
      | cons c0 cs =>
        simp only [outO, look]
        rw [if_neg (by simp only [parH]; omega)]
        exact ih hb

theorem outN_look : ∀ {news : List V} {j0 j : Nat} {c : V}, news[j]? = some c → look (outN j0 news) (j0 + j) = some ⟨.own, c⟩ := by
  intro news
  induction news with
  | nil => intro j0 j c hc; simp at hc
  | cons c0 r ih =>
    intro j0 j c hc
    cases j with
    | zero => simp at hc; subst hc; simp [outN, look]
    | succ j =>
      have := ih (j0 := j0 + 1) (j := j) (c := c) (by simpa using hc)
      rw [show j0 + 1 + j = j0 + (j + 1) by omega] at this
      simp only [outN, look]
      rw [if_neg (by omega)]
      exact this

/-- arguments and objects handed over -/
def Al : List Arg → List (Option Nat) → Prop
  | .o _ _ :: as, some _ :: hs => Al as hs
  | .v _ :: as, none :: hs => Al as hs
  | .b _ _ _ :: as, none :: hs => Al as hs
  | [], [] => True
  | _, _ => False

theorem ArgsOk.al {I : Nat → Prop} {w : World} {ρ : Rho} {ow : Own} {s : St} {HS : List Nat} : ∀ {as : List Arg} {xs : List Value} {ls : List Lo} {hs : List (Option Nat)}, ArgsOk I w ρ ow s false HS as xs ls hs → Al as hs
  | [], [], [], [], _ => trivial
  | a :: as, x :: xs, l :: ls, h :: hs, ⟨h1, h2⟩ => by
    have := ArgsOk.al h2
    cases a with
    | v v => obtain ⟨_, rfl⟩ := h1; exact this
    | b n e c => obtain ⟨rfl, _⟩ := h1; exact this
    | o c vw =>
      obtain ⟨hd, kk, _, _, _, _, g⟩ := h1
      rcases g with ⟨_, _, rfl⟩ | ⟨g, _⟩
      · exact this
      · cases g
  | [], _ :: _, _, _, h => h.elim
  | [], [], _ :: _, _, h => h.elim
  | [], [], [], _ :: _, h => h.elim
  | _ :: _, [], _, _, h => h.elim
  | _ :: _, _ :: _, [], _, h => h.elim
  | _ :: _, _ :: _, _ :: _, [], h => h.elim

theorem Al.look : ∀ {args : List Arg} {hos : List (Option Nat)} {cs : List V} {i0 k x : Nat}, Al args hos → cs.length = (hos.filterMap id).length → hos[k]? = some (some x) →
    ∃ (m : Nat) (c : V), (hos.filterMap id)[m]? = some x ∧ cs[m]? = some c ∧ Cx.look (outO i0 args cs) (parH (i0 + k)) = some ⟨.own, c⟩ := by
  intro args
  induction args with
  | nil =>
    intro hos cs i0 k x hal _ hk
    cases hos with
    | nil => simp at hk
    | cons _ _ => exact hal.elim
  | cons a args ih =>
    intro hos cs i0 k x hal hlen hk
    cases hos with
    | nil => cases a <;> exact hal.elim
    | cons h hos =>
      have skip : h = none → Al args hos → outO i0 (a :: args) cs = outO (i0 + 1) args cs → ∃ (m : Nat) (c : V), ((h :: hos).filterMap id)[m]? = some x ∧ cs[m]? = some c ∧ Cx.look (outO i0 (a :: args) cs) (parH (i0 + k)) = some ⟨.own, c⟩ := fun e1 e2 e3 => by
        subst e1
        cases k with
        | zero => simp at hk
        | succ k =>
          obtain ⟨m, c, g1, g2, g3⟩ := ih (i0 := i0 + 1) (cs := cs) (k := k) (x := x) e2 (by simpa using hlen) (by simpa using hk)
          refine ⟨m, c, by simpa using g1, g2, ?_⟩
          rw [e3, show i0 + (k + 1) = i0 + 1 + k by omega]
          exact g3
      cases a with
      | v v => cases h with | none => exact skip rfl hal rfl | some _ => exact hal.elim
      | b n e c => cases h with | none => exact skip rfl hal rfl | some _ => exact hal.elim
      | o c0 vw =>
        cases h with
        | none => exact hal.elim
        | some y =>
          cases cs with
          | nil => simp at hlen
          | cons c1 cs =>
            cases k with
            | zero =>
              simp at hk
              subst hk
              exact ⟨0, c1, by simp, rfl, by simp [outO, Cx.look]⟩
            | succ k =>
              obtain ⟨m, c, g1, g2, g3⟩ := ih (i0 := i0 + 1) (cs := cs) (k := k) (x := x) hal (by simpa using hlen) (by simpa using hk)
              refine ⟨m + 1, c, by simpa using g1, by simpa using g2, ?_⟩
              simp only [outO, Cx.look]
              rw [if_neg (by simp only [parH]; omega), show i0 + (k + 1) = i0 + 1 + k by omega]
              exact g3
end Go.Cx

/- Cx 21: the call's step. -/
namespace Go.Cx
open Go

section
variable {P : Program} {G : List (Nat × V)} {pure : Nat → Bool} {X : Fix} {I : Nat → Prop} {ρ : Rho} {ow : Own} {s : St} {a : Act} {w : World} {o : Oper}

theorem F2.length {α β : Type} {R : α → β → Prop} {l : List α} {m : List β} (h : F2 R l m) : l.length = m.length := by
  induction h with
  | nil => rfl
  | cons _ _ ih => simp [ih]

theorem args_eval (h : Rep X I ρ ow s a.tmps w) {args : List Operand} {l : List (IX × AK)} (hl : F2 (fun x y => opIX x = some y.1) args l) :
    F2 (fun (x : V × AK) v => VRep I w ρ x.1 v) (l.map fun x => (ev s.t x.1, x.2)) (args.map a.eval) := by
  induction hl with
  | nil => exact .nil
  | cons hxy _ ih => exact .cons (ev_rep h hxy) ih

theorem nodupN_to {l : List Nat} (h : nodupN l = true) : l.Nodup := nodupN_spec h

theorem step_call (h : Rep X I ρ ow s a.tmps w) (hd : dstOk X o) (hG : GOk G X) {E : List (Nat × Ctr)} (hE : EnvSound P G pure E) {f : FuncId} {args : Array Operand} {ts : Array TypeId} {l : List (IX × AK)}
    (ho : o.op = .call { callee := .value (.func f), args, argTypes := ts }) (hl : F2 (fun x y => opIX x = some y.1) args.toList l) (hlen : l.length ≤ 100000) {e : Eff}
    (he : (stepR apf E s.t s.h o.dst (.call f (pure f) l)).to e) : StepOk P X o a w s e := by
  simp only [stepR, callR] at he
  split at he
  · exact he.elim
  · rename_i c hlook
    obtain ⟨hsnd1, hsnd2⟩ := hE f c hlook
    obtain ⟨⟨as, hs⟩, hres, he⟩ := bind_to he
    obtain ⟨hnd, he⟩ := rif_to he
    obtain ⟨out, hout, he⟩ := bind_to he
    obtain ⟨hchk, he⟩ := rif_to he
    simp only [Bool.and_eq_true, beq_iff_eq, List.all_eq_true, Bool.not_eq_true', List.contains_eq_mem, decide_eq_false_iff_not] at hchk
    obtain ⟨⟨hlen1, hclo⟩, hlent⟩ := hchk
    have hnd := nodupN_to hnd
    have hvals := args_eval h hl
    obtain ⟨los, hos, hok, hhs⟩ := resolveL_ok (HS := hs) h hres hvals hlent
    simp only at hok hhs hnd hlen1
    subst hhs
    obtain ⟨k1, k2, k3, hget⟩ := hok.get
    have hal : as.length ≤ 100000 := by
      rw [k1, List.length_map]
      have := F2.length hl
      omega
    obtain ⟨hR, hV⟩ := h.forth hG hal hnd hok
    have hI : ∀ b, I b → ¬ overF ow (hos.filterMap id) b := fun b hb ⟨x, r, e1, _⟩ => by rw [h.iow b hb] at e1; cases e1
    have hrow : ∀ (i n e : Nat) (c : V), as[i]? = some (.b n e c) → isRow e n c := fun i n e c hi => by
      obtain ⟨x, l, ho, _, _, _, g⟩ := hget i _ hi
      exact g.2.1
    have hcalls := hsnd2 as out (args.toList.map a.eval) w _ I _ _ hout k1 hal hrow hI hR hV
    refine .inr (.inr ⟨f, (args.toList.map a.eval).toArray, w, ?_, Calls.mono hcalls ?_⟩)
    · have e1 : (args.toList.map a.eval).toArray = args.map a.eval := by
        apply Array.ext'; simp
      rw [e1]
      simp [execOp, ho, Go.resolve, invoke, Deferred.ofValue, Act.eval, hsnd1]
    · rintro en w' ⟨x, I', ρ', ow', rfl, hx, hR'⟩
      refine ⟨x, rfl, ?_⟩
      -- objects: where they stand
      have hobj : ∀ (k hd : Nat), hos[k]? = some (some hd) → pure f = false ∧ ∃ c, s.h hd = some ⟨.own, c⟩ ∧ ∃ lo, ρ hd = some lo ∧ ρ' (parH k) = some lo := by
        intro k hd' hk
        have hkl : k < as.length := by rw [k3]; exact (List.getElem?_eq_some_iff.1 hk).1
        obtain ⟨y, lo, ho', g1, g2, g3, g4⟩ := hget k _ (List.getElem?_eq_getElem hkl)
        rw [hk] at g3
        cases g3
        generalize as[k] = arg at g4
        cases arg with
        | v v => cases g4.2
        | b n e c => cases g4.1
        | o c vw =>
          obtain ⟨hd2, kk, g5, g6, g7, g8, g9⟩ := g4
          rcases g9 with ⟨g9, rfl, g10⟩ | ⟨_, _, _, g10⟩
          · cases g10
            refine ⟨g9, c, g5, lo, g7, hR'.rle _ _ ?_⟩
            show forthRho ρ los (parH k) = some lo
            rw [forthRho_par (by omega)]
            exact g2
          · cases g10
      have hal2 : ∀ (k hd : Nat), hos[k]? = some (some hd) → Al as hos := fun k hd' hk => by
        obtain ⟨e1, _⟩ := hobj k hd' hk
        rw [e1] at hok
        exact hok.al
      have hmem : ∀ {i x : Nat}, hos[i]? = some (some x) → x ∈ hos.filterMap id := fun {i x} hi => by
        simp only [List.mem_filterMap, id]
        exact ⟨some x, List.mem_of_getElem? hi, rfl⟩
      have hmem2 : ∀ {x : Nat}, x ∈ hos.filterMap id → ∃ i : Nat, hos[i]? = some (some x) := fun {x} hx => by
        simp only [List.mem_filterMap, id] at hx
        obtain ⟨y, hy, rfl⟩ := hx
        exact List.mem_iff_getElem?.1 hy
      -- what is left, under which name
      obtain ⟨newN, d0, hnew, hefs⟩ : ∃ (newN : List V) (d0 : Nat), (∀ (j : Nat) (c : V), newN[j]? = some c → out.news[j]? = some c ∧ s.h (newH d0 j) = none ∧ newH d0 j < 100000 ∧ c.clo = true) ∧ d0 < 10000 ∧
          e.hs = objsL (hos.filterMap id) out.objs ++ newsL d0 0 newN ∧ ((o.dst = none ∧ e.v = .any) ∨ (o.dst = some d0 ∧ newN = out.news ∧ e.v = renV (newH d0) out.v ∧ out.v.hOk out.news.length = true)) := by
        split at he
        · rename_i d hdst
          obtain ⟨hch, he⟩ := rif_to he
          cases he
          simp only [Bool.and_eq_true, decide_eq_true_eq] at hch
          refine ⟨out.news, d, fun j c hc => ?_, hch.2, rfl, .inr ⟨hdst, rfl, rfl, hch.1.2⟩⟩
          obtain ⟨g1, g2, g3⟩ := allFresh_spec hch.1.1 _ (newsL_mem (j0 := 0) hc)
          rw [Nat.zero_add] at g1 g2
          exact ⟨hc, g1, g2, g3⟩
        · rename_i hdst
          cases he
          exact ⟨[], 0, fun j c hc => by simp at hc, by omega, by simp [newsL], .inl ⟨hdst, rfl⟩⟩
      obtain ⟨hd0, hehs, hev⟩ := hefs
      let rn : Nat → Option Nat := fun b => if 100000 ≤ b then (hos[b - 100000]?).join else if b < newN.length then some (newH d0 b) else none
      have rn_obj : ∀ b y, 100000 ≤ b → (rn b = some y ↔ hos[b - 100000]? = some (some y)) := fun b y hb => by
        simp only [rn, if_pos hb, Option.join_eq_some_iff]
      have rn_new : ∀ b y, ¬ 100000 ≤ b → (rn b = some y ↔ b < newN.length ∧ y = newH d0 b) := fun b y hb => by
        simp only [rn, if_neg hb]
        split
        · rename_i hl
          simp only [Option.some.injEq, hl, true_and, eq_comm]
        · rename_i hl
          simp [hl]
      have hnewj : ∀ j, j < newN.length → ∃ c, newN[j]? = some c := fun j hj => ⟨_, List.getElem?_eq_getElem hj⟩
      have hparH : ∀ b, 100000 ≤ b → parH (b - 100000) = b := fun b hb => by simp only [parH]; omega
      obtain ⟨ρ2, ow2, b1, b2, b3⟩ := h.back (hs := hos.filterMap id) (rn := rn) (hh := putHs s.h e.hs) hR' (by
        intro b b' y hb hb'
        by_cases c1 : 100000 ≤ b <;> by_cases c2 : 100000 ≤ b'
        · have e1 := (rn_obj b y c1).1 hb
          have e2 := (rn_obj b' y c2).1 hb'
          have := fm_inj hnd e1 e2
          omega
        · have e1 := (rn_obj b y c1).1 hb
          obtain ⟨e2, e3⟩ := (rn_new b' y c2).1 hb'
          obtain ⟨_, c, e4, _⟩ := hobj _ _ e1
          obtain ⟨c', hc'⟩ := hnewj _ e2
          have := (hnew _ _ hc').2.1
          rw [← e3, e4] at this
          cases this
        · have e1 := (rn_obj b' y c2).1 hb'
          obtain ⟨e2, e3⟩ := (rn_new b y c1).1 hb
          obtain ⟨_, c, e4, _⟩ := hobj _ _ e1
          obtain ⟨c', hc'⟩ := hnewj _ e2
          have := (hnew _ _ hc').2.1
          rw [← e3, e4] at this
          cases this
        · obtain ⟨_, e3⟩ := (rn_new b y c1).1 hb
          obtain ⟨_, e4⟩ := (rn_new b' y c2).1 hb'
          exact newH_inj hd0 (e3.symm.trans e4)) (by
        intro b y hb
        by_cases c1 : 100000 ≤ b
        · have e1 := (rn_obj b y c1).1 hb
          obtain ⟨m, c, g1, g2, g3⟩ := (hal2 _ _ e1).look (i0 := 0) hlen1 e1
          rw [Nat.zero_add, hparH b c1] at g3
          obtain ⟨_, c', e4, lo, e5, e6⟩ := hobj _ _ e1
          rw [hparH b c1] at e6
          refine ⟨⟨c, ?_, hclo c (List.mem_of_getElem? g2), ?_⟩, .inl ⟨hmem e1, by rw [e5, e6]⟩⟩
          · show look (outO 0 as out.objs ++ outN 0 out.news) b = _
            rw [look_append, g3]
          · rw [hehs, putHs_append, putHs_not (fun hh => ?_)]
            · exact putHs_objs hnd g1 g2
            · obtain ⟨j, hj, e7⟩ := newsL_keys hh
              rw [Nat.zero_add] at e7
              obtain ⟨c2, hc2⟩ := hnewj _ hj
              have := (hnew _ _ hc2).2.1
              rw [← e7, e4] at this
              cases this
        · obtain ⟨e2, e3⟩ := (rn_new b y c1).1 hb
          obtain ⟨c, hc⟩ := hnewj _ e2
          obtain ⟨g1, g2, g3, g4⟩ := hnew _ _ hc
          refine ⟨⟨c, ?_, g4, ?_⟩, .inr ⟨by rw [e3]; exact g3, by rw [e3]; exact g2⟩⟩
          · show look (outO 0 as out.objs ++ outN 0 out.news) b = _
            rw [look_append, outO_keys (by omega)]
            have := outN_look (j0 := 0) g1
            rw [Nat.zero_add] at this
            exact this
          · rw [hehs, putHs_append, e3]
            have := putHs_news hd0 (j0 := 0) (h := putHs s.h (objsL (hos.filterMap id) out.objs)) hc
            rw [Nat.zero_add] at this
            exact this) (by
        intro b hb
        have n1 : b ∉ hos.filterMap id := fun hh => by
          obtain ⟨i, hi⟩ := hmem2 hh
          refine hb (parH i) ((rn_obj _ _ (by simp only [parH]; omega)).2 ?_)
          rw [show parH i - 100000 = i by simp only [parH]; omega]
          exact hi
        refine ⟨n1, ?_⟩
        rw [hehs, putHs_append, putHs_not (fun hh => ?_), putHs_not (fun hh => n1 (objsL_keys hh))]
        obtain ⟨j, hj, e7⟩ := newsL_keys hh
        rw [Nat.zero_add] at e7
        obtain ⟨c2, hc2⟩ := hnewj _ hj
        have hlt := (hnew _ _ hc2).2.2.1
        have hj2 : j < 100000 := by
          simp only [newH] at hlt
          split at hlt <;> omega
        exact hb j ((rn_new _ _ (by omega)).2 ⟨hj, e7⟩))
      refine ⟨I', ρ2, ow2, ?_⟩
      rcases hev with ⟨e1, e2⟩ | ⟨e1, e2, e3, e4⟩
      · have := b3.putD (o := o) (a := a) hd (v := e.v) (x := x) (by rw [e2]; exact VRep.any _ _ _ _)
        exact this
      · subst e2
        refine b3.putD (o := o) (a := a) hd (v := e.v) (x := x) ?_
        rw [e3]
        refine hx.rename e4 (fun j lo hj hlo => ?_)
        have hlt := (hnew j _ (List.getElem?_eq_getElem hj)).2.2.1
        have hj2 : j < 100000 := by
          simp only [newH] at hlt
          split at hlt <;> omega
        rw [b2 j _ ((rn_new _ _ (by omega)).2 ⟨hj, rfl⟩)]
        exact hlo
end
end Go.Cx

/- Cx 22: every operation that is compiled, told by one lemma. -/
namespace Go.Cx
open Go

section
variable {P : Program} {G : List (Nat × V)} {pure : Nat → Bool} {X : Fix} {I : Nat → Prop} {ρ : Rho} {ow : Own} {s : St} {a : Act} {w : World} {o : Oper}

def storeOk (o : Oper) : Bool := match o.op, o.dst with
  | .store .., some _ => false
  | _, _ => true

theorem isU8_eq {d : Option TypeDesc} (h : isU8 d = true) : d = some (.int .u8) := by
  unfold isU8 at h
  split at h
  · rfl
  · cases h
theorem isEkU8_eq {d : Option EK} (h : isEkU8 d = true) : d = some (.i .u8) := by
  unfold isEkU8 at h
  split at h
  · rfl
  · cases h
theorem arr_one {α : Type} {as : Array α} {x : α} (h : as.toList = [x]) : as = #[x] := by apply Array.ext'; simpa using h
theorem arr_two {α : Type} {as : Array α} {x y : α} (h : as.toList = [x, y]) : as = #[x, y] := by apply Array.ext'; simpa using h

theorem sameOp_eval {x y : Operand} (h : sameOp x y = true) : a.eval y = a.eval x := by
  cases x <;> cases y <;> simp [sameOp] at h
  · subst h; rfl
  · rename_i v v'
    cases v <;> cases v' <;> simp at h
    obtain ⟨rfl, rfl⟩ := h
    rfl

theorem F2.mapR {α β γ : Type} {R : α → γ → Prop} {S : α → β → Prop} {T : β → γ → Prop} (hf : ∀ x y z, S x y → T y z → R x z) : ∀ {l : List α} {m : List β} {n : List γ}, F2 S l m → F2 T m n → F2 R l n := by
  intro l
  induction l with
  | nil => intro m n h1 h2; cases h1; cases h2; exact .nil
  | cons x l ih =>
    intro m n h1 h2
    cases h1 with
    | cons a1 a2 => cases h2 with | cons b1 b2 => exact .cons (hf _ _ _ a1 b1) (ih a2 b2)

theorem F2.zipL {α β : Type} {R : α → β → Prop} : ∀ {as : List α} {ts : List TypeId} {l : List β}, as.length = ts.length → F2 (fun p y => R p.1 y) (as.zip ts) l → F2 R as l := by
  intro as
  induction as with
  | nil => intro ts l _ h; simp at h; cases h; exact .nil
  | cons x as ih =>
    intro ts l hl h
    cases ts with
    | nil => simp at hl
    | cons t ts =>
      simp only [List.zip_cons_cons] at h
      cases h with
      | cons h1 h2 => exact .cons h1 (ih (by simpa using hl) h2)

theorem akL_fst : ∀ {l : List (IX × TypeId)} {m : List (IX × AK)} {j : Nat}, akL P pure j l = some m → F2 (fun (x : IX × TypeId) (y : IX × AK) => x.1 = y.1) l m := by
  intro l
  induction l with
  | nil => intro m j h; simp only [akL, Option.some.injEq] at h; subst h; exact .nil
  | cons p l ih =>
    obtain ⟨x, t⟩ := p
    intro m j h
    simp only [akL, Option.bind_eq_some_iff, Option.some.injEq] at h
    obtain ⟨k, _, r, hr, rfl⟩ := h
    exact .cons rfl (ih hr)

theorem step_sound (h : Rep X I ρ ow s a.tmps w) (hd : dstOk X o) (hG : GOk G X) {E : List (Nat × Ctr)} (hE : EnvSound P G pure E) (hst : storeOk o = true) {i i' : IOp} (hc : compOp P pure o.op = some i)
    (hi : i' = i ∨ ∃ k b x y, i = .app k b x y ∧ i' = .app0 k b x y) {e : Eff} (he : (stepR apf E s.t s.h o.dst i').to e) : StepOk P X o a w s e := by
  have same : (∀ k b x y, i ≠ .app k b x y) → i' = i := fun hn => hi.resolve_right (fun ⟨k, b, x, y, e1, _⟩ => hn k b x y e1)
  cases hop : o.op
  case move x =>
    rw [hop] at hc
    simp only [compOp, Option.map_eq_some_iff] at hc
    obtain ⟨ix, hx, rfl⟩ := hc
    cases same (by simp)
    exact step_mv h hd (.inl hop) hx he
  case assign x =>
    rw [hop] at hc
    simp only [compOp, Option.map_eq_some_iff] at hc
    obtain ⟨ix, hx, rfl⟩ := hc
    cases same (by simp)
    exact step_mv h hd (.inr hop) hx he
  case pick c x y =>
    rw [hop] at hc
    simp only [compOp, bind, Option.bind_eq_some_iff, Option.some.injEq] at hc
    obtain ⟨ic, h1, ix, h2, iy, h3, rfl⟩ := hc
    cases same (by simp)
    exact step_pick h hd hop h1 h2 h3 he
  case alloc t =>
    rw [hop] at hc
    simp only [compOp, Option.map_eq_some_iff] at hc
    obtain ⟨z, hz, rfl⟩ := hc
    cases same (by simp)
    exact step_alloc h hd hop (zeroK_ok hz) he
  case box t x =>
    rw [hop] at hc
    simp only [compOp, Option.map_eq_some_iff] at hc
    obtain ⟨ix, hx, rfl⟩ := hc
    cases same (by simp)
    exact step_box h hd hop hx he
  case build t ps =>
    rw [hop] at hc
    simp only [compOp] at hc
    split at hc
    · rename_i fs ht
      simp only [bind, Option.bind_eq_some_iff] at hc
      obtain ⟨z, hz, hc⟩ := hc
      split at hc
      · cases hc
      · rename_i hfs
        simp only [Option.bind_eq_some_iff, Option.some.injEq] at hc
        obtain ⟨l, hl, rfl⟩ := hc
        cases same (by simp)
        exact step_bldS h hd hop ht (zeroK_ok hz) (by simpa [← Option.isSome_iff_ne_none] using hfs) hl he
    · rename_i n el ht
      simp only [bind, Option.bind_eq_some_iff] at hc
      obtain ⟨k, hk, l, hl, hc⟩ := hc
      split at hc
      · rename_i hck
        cases hc
        simp only [Bool.and_eq_true] at hck
        cases same (by simp)
        exact step_bldA h hd hop ht hck.1 hck.2 hl he
      · cases hc
    · cases hc
  case buildSlice t n ps =>
    rw [hop] at hc
    simp only [compOp, bind, Option.bind_eq_some_iff] at hc
    obtain ⟨k, hk, l, hl, hc⟩ := hc
    simp only [ekSlice] at hk
    split at hk
    · rename_i el ht
      split at hc
      · rename_i hck
        cases hc
        simp only [Bool.and_eq_true, decide_eq_true_eq, Bool.or_eq_true, bne_iff_ne, ne_eq] at hck
        cases same (by simp)
        exact step_bsl h hd hop ht (ekOf_ok hk) hck.1 hl (fun hn => by
          rcases hck.2 with h1 | h1
          · exact absurd hn h1
          · simpa using h1) he
      · cases hc
    · cases hk
  case load t x =>
    rw [hop] at hc
    simp only [compOp] at hc
    split at hc
    · rename_i hck
      simp only [Bool.and_eq_true, bne_iff_ne, ne_eq] at hck
      obtain ⟨d, hu⟩ := Option.isSome_iff_exists.1 hck.2
      simp only [Option.map_eq_some_iff] at hc
      obtain ⟨ix, hx, rfl⟩ := hc
      cases same (by simp)
      exact step_ld h hd hop hu hck.1 hx he
    · cases hc
  case store t x y =>
    rw [hop] at hc
    simp only [compOp] at hc
    split at hc
    · rename_i hck
      simp only [bne_iff_ne, ne_eq] at hck
      simp only [bind, Option.bind_eq_some_iff, Option.some.injEq] at hc
      obtain ⟨ix, hx, iy, hy, rfl⟩ := hc
      cases same (by simp)
      have hdst : o.dst = none := by
        simp only [storeOk, hop] at hst
        cases hq : o.dst with
        | none => rfl
        | some d => rw [hq] at hst; cases hst
      exact step_st h hop hdst hck hx hy he
    · cases hc
  case nilCheck x =>
    rw [hop] at hc
    simp only [compOp, Option.map_eq_some_iff] at hc
    obtain ⟨ix, hx, rfl⟩ := hc
    cases same (by simp)
    exact step_nck h hd hop hx he
  case binOp op t x y yt =>
    rw [hop] at hc
    simp only [compOp] at hc
    split at hc
    · rename_i k ht
      split at hc
      · rename_i hcm
        simp only [bind, Option.bind_eq_some_iff, Option.some.injEq] at hc
        obtain ⟨ix, hx, iy, hy, rfl⟩ := hc
        cases same (by simp)
        exact step_cmp h hd hop hcm hx hy he
      · split at hc
        · rename_i har
          simp only [bind, Option.bind_eq_some_iff, Option.some.injEq] at hc
          obtain ⟨ix, hx, iy, hy, rfl⟩ := hc
          cases same (by simp)
          exact step_ar (k := k) h hd hop har hx hy he rfl
        · split at hc
          · rename_i hsh
            simp only [bind, Option.bind_eq_some_iff, Option.some.injEq] at hc
            obtain ⟨ix, hx, iy, hy, rfl⟩ := hc
            cases same (by simp)
            refine step_shf h hd hop ?_ hx hy he
            cases op <;> simp [isSh] at hsh <;> simp
          · cases hc
    · split at hc
      · rename_i k hk
        simp only [bind, Option.bind_eq_some_iff, Option.some.injEq] at hc
        obtain ⟨ix, hx, iy, hy, rfl⟩ := hc
        cases same (by simp)
        exact step_eq (ne := false) h hd hop hk hx hy he
      · rename_i k hk
        simp only [bind, Option.bind_eq_some_iff, Option.some.injEq] at hc
        obtain ⟨ix, hx, iy, hy, rfl⟩ := hc
        cases same (by simp)
        exact step_eq (ne := true) h hd hop hk hx hy he
      · simp only [bind, Option.bind_eq_some_iff, Option.some.injEq] at hc
        obtain ⟨ty, hty, ix, hx, iy, hy, rfl⟩ := hc
        cases same (by simp)
        exact step_eqZ (ne := false) h hd hop hty hx hy he
      · simp only [bind, Option.bind_eq_some_iff, Option.some.injEq] at hc
        obtain ⟨ty, hty, ix, hx, iy, hy, rfl⟩ := hc
        cases same (by simp)
        exact step_eqZ (ne := true) h hd hop hty hx hy he
      · cases hc
  case unOp op t x =>
    rw [hop] at hc
    simp only [compOp] at hc
    split at hc
    · rename_i k ht
      simp only [Option.map_eq_some_iff] at hc
      obtain ⟨ix, hx, rfl⟩ := hc
      cases same (by simp)
      exact step_neg h hd hop hx he
    · rename_i k ht
      simp only [Option.map_eq_some_iff] at hc
      obtain ⟨ix, hx, rfl⟩ := hc
      cases same (by simp)
      exact step_cpl h hd hop hx he
    · simp only [Option.map_eq_some_iff] at hc
      obtain ⟨ix, hx, rfl⟩ := hc
      cases same (by simp)
      exact step_not h hd hop hx he
    · cases hc
  case convert t u x =>
    rw [hop] at hc
    simp only [compOp] at hc
    split at hc
    · rename_i j k ht hu
      simp only [Option.map_eq_some_iff] at hc
      obtain ⟨ix, hx, rfl⟩ := hc
      cases same (by simp)
      exact step_cv h hd hop hu ht hx he
    · rename_i el ht hu
      split at hc
      · rename_i hel
        simp only [Option.map_eq_some_iff] at hc
        obtain ⟨ix, hx, rfl⟩ := hc
        cases same (by simp)
        exact step_b2s h hd hop ht hu (isU8_eq hel) hx he
      · cases hc
    · rename_i el ht hu
      split at hc
      · rename_i hel
        simp only [Option.map_eq_some_iff] at hc
        obtain ⟨ix, hx, rfl⟩ := hc
        cases same (by simp)
        exact step_s2b h hd hop ht hu (isU8_eq hel) hx he
      · cases hc
    · rename_i el0 el ht hu
      split at hc
      · rename_i hck
        simp only [Bool.and_eq_true, beq_iff_eq] at hck
        simp only [Option.map_eq_some_iff] at hc
        obtain ⟨ix, hx, rfl⟩ := hc
        cases same (by simp)
        obtain ⟨rfl, hel⟩ := hck
        exact step_mst h hd hop hu (isU8_eq hel) hx he
      · cases hc
    · cases hc
  case makeSlice t x y =>
    rw [hop] at hc
    simp only [compOp] at hc
    split at hc
    · rename_i el ht
      split at hc
      · rename_i hck
        simp only [Bool.and_eq_true, decide_eq_true_eq] at hck
        simp only [bind, Option.bind_eq_some_iff, Option.some.injEq] at hc
        obtain ⟨k, hk, ix, hx, rfl⟩ := hc
        cases same (by simp)
        exact step_mks h hd hop (sameOp_eval hck.1) ht (ekOf_ok hk) hck.2 hx he
      · cases hc
    · cases hc
  case slice t x lo hi' mx =>
    rw [hop] at hc
    simp only [compOp] at hc
    split at hc
    · rename_i n el ht
      split at hc
      · rename_i hck
        simp only [Bool.and_eq_true, bne_iff_ne, ne_eq, decide_eq_true_eq, Option.isNone_iff_eq_none] at hck
        obtain ⟨⟨rfl, hz⟩, hn⟩ := hck
        simp only [bind, Option.bind_eq_some_iff, Option.some.injEq] at hc
        obtain ⟨ix, hx, il, hl, ih, hh, rfl⟩ := hc
        cases same (by simp)
        exact step_slA h hd hop ht hz (by simp only [maxLen]; omega) hx hl hh he
      · cases hc
    · rename_i el ht
      split at hc
      · rename_i hz
        simp only [bne_iff_ne, ne_eq] at hz
        split at hc
        · simp only [bind, Option.bind_eq_some_iff, Option.some.injEq] at hc
          obtain ⟨ix, hx, ih, hh, rfl⟩ := hc
          cases same (by simp)
          exact step_slX h hd hop ht hz hx hh rfl he
        · simp only [bind, Option.bind_eq_some_iff, Option.some.injEq] at hc
          obtain ⟨ix, hx, il, hl, ih, hh, im, hm, rfl⟩ := hc
          cases same (by simp)
          exact step_slS h hd hop ht hz hx hl hh hm he
      · cases hc
    · rename_i ht
      split at hc
      · rename_i hmx
        simp only [Option.isNone_iff_eq_none] at hmx
        subst hmx
        simp only [bind, Option.bind_eq_some_iff, Option.some.injEq] at hc
        obtain ⟨ix, hx, il, hl, ih, hh, rfl⟩ := hc
        cases same (by simp)
        exact step_slT h hd hop ht hx hl hh he
      · cases hc
    · cases hc
  case sliceToArrayPointer t x =>
    rw [hop] at hc
    simp only [compOp] at hc
    split at hc
    · rename_i n el ht
      split at hc
      · simp only [Option.map_eq_some_iff] at hc
        obtain ⟨ix, hx, rfl⟩ := hc
        cases same (by simp)
        exact step_s2a h hd hop ht hx he
      · cases hc
    · cases hc
  case fieldAddr t x f =>
    rw [hop] at hc
    simp only [compOp] at hc
    split at hc
    · rename_i fs ht
      split at hc
      · rename_i fd hf
        split at hc
        · cases hc
        · rename_i hz
          simp only [Option.map_eq_some_iff] at hc
          obtain ⟨ix, hx, rfl⟩ := hc
          cases same (by simp)
          exact step_fa h hd hop ht hf hz hx he
      · cases hc
    · cases hc
  case field t x f =>
    rw [hop] at hc
    simp only [compOp] at hc
    split at hc
    · rename_i fs ht
      split at hc
      · rename_i fd hf
        split at hc
        · rename_i hck
          simp only [Bool.and_eq_true, bne_iff_ne, ne_eq] at hck
          obtain ⟨d, hu⟩ := Option.isSome_iff_exists.1 hck.2
          simp only [Option.map_eq_some_iff] at hc
          obtain ⟨ix, hx, rfl⟩ := hc
          cases same (by simp)
          exact step_fl h hd hop ht hf hck.1 hu hx he
        · cases hc
      · cases hc
    · cases hc
  case indexAddr t x j =>
    rw [hop] at hc
    simp only [compOp] at hc
    split at hc
    · rename_i n el ht
      split at hc
      · rename_i hz
        simp only [bne_iff_ne, ne_eq] at hz
        simp only [bind, Option.bind_eq_some_iff, Option.some.injEq] at hc
        obtain ⟨ix, hx, ii, hi2, rfl⟩ := hc
        cases same (by simp)
        exact step_iaA h hd hop ht hz hx hi2 he
      · cases hc
    · rename_i el ht
      split at hc
      · rename_i hz
        simp only [bne_iff_ne, ne_eq] at hz
        simp only [bind, Option.bind_eq_some_iff, Option.some.injEq] at hc
        obtain ⟨ix, hx, ii, hi2, rfl⟩ := hc
        cases same (by simp)
        exact step_iaS h hd hop ht hz hx hi2 he
      · cases hc
    · cases hc
  case index t x j =>
    rw [hop] at hc
    simp only [compOp] at hc
    split at hc
    · rename_i n el ht
      split at hc
      · rename_i hck
        simp only [Bool.and_eq_true, bne_iff_ne, ne_eq] at hck
        obtain ⟨d, hu⟩ := Option.isSome_iff_exists.1 hck.2
        simp only [bind, Option.bind_eq_some_iff, Option.some.injEq] at hc
        obtain ⟨ix, hx, ii, hi2, rfl⟩ := hc
        cases same (by simp)
        exact step_ixA h hd hop ht hck.1 hu hx hi2 he
      · cases hc
    · rename_i ht
      simp only [bind, Option.bind_eq_some_iff, Option.some.injEq] at hc
      obtain ⟨ix, hx, ii, hi2, rfl⟩ := hc
      cases same (by simp)
      exact step_ixT h hd hop ht hx hi2 he
    · cases hc
  case extract x j =>
    rw [hop] at hc
    simp only [compOp, Option.map_eq_some_iff] at hc
    obtain ⟨ix, hx, rfl⟩ := hc
    cases same (by simp)
    exact step_ext h hd hop hx he
  case call c =>
    obtain ⟨callee, args, ts⟩ := c
    rw [hop] at hc
    cases callee with
    | builtin b =>
      simp only [compOp, compCall] at hc
      split at hc
      · rename_i x t hxs hts
        cases arr_one hxs
        cases arr_one hts
        split at hc
        · rename_i hu
          simp only [Option.map_eq_some_iff] at hc
          obtain ⟨ix, hx, rfl⟩ := hc
          cases same (by simp)
          exact step_lenT h hd hop hu hx he
        · rename_i el hu
          simp only [Option.map_eq_some_iff] at hc
          obtain ⟨ix, hx, rfl⟩ := hc
          cases same (by simp)
          exact step_lenS h hd hop hu hx he
        · rename_i n el hu
          split at hc
          · rename_i hn
            cases hc
            cases same (by simp)
            exact step_lenA h hd hop hu (by simp only [maxLen]; omega) he
          · cases hc
        · cases hc
      · rename_i x y t u hxs hts
        cases arr_two hxs
        cases arr_two hts
        split at hc
        · rename_i el el' ht hu
          split at hc
          · rename_i hck
            simp only [Bool.and_eq_true, beq_iff_eq, decide_eq_true_eq] at hck
            obtain ⟨rfl, hb⟩ := hck
            simp only [bind, Option.bind_eq_some_iff, Option.some.injEq] at hc
            obtain ⟨k, hk, ix, hx, iy, hy, rfl⟩ := hc
            rcases hi with rfl | ⟨k', b', x', y', e1, rfl⟩
            · exact step_app h hd hop ht hu (ekOf_ok hk) hb hx hy he
            · cases e1
              exact step_app0 h hd hop ht hu (ekOf_ok hk) hb hx hy he
          · cases hc
        · rename_i el ht hu
          split at hc
          · rename_i hck
            simp only [Bool.and_eq_true, beq_iff_eq] at hck
            simp only [bind, Option.bind_eq_some_iff, Option.some.injEq] at hc
            obtain ⟨ix, hx, iy, hy, rfl⟩ := hc
            cases same (by simp)
            exact step_appT h hd hop ht hu (ekOf_ok (isEkU8_eq hck.1)) hck.2 hx hy he
          · cases hc
        · rename_i el ik ht hu
          split at hc
          · rename_i hb
            simp only [bind, Option.bind_eq_some_iff, Option.some.injEq] at hc
            obtain ⟨k, hk, ix, hx, iy, hy, rfl⟩ := hc
            cases same (by simp)
            exact step_appz h hd hop ht hu (ekOf_ok hk) hb hx hy he
          · cases hc
        · cases hc
      · rename_i x y t u hxs hts
        cases arr_two hxs
        cases arr_two hts
        split at hc
        · rename_i el el' ht hu
          split at hc
          · simp only [bind, Option.bind_eq_some_iff, Option.some.injEq] at hc
            obtain ⟨k, hk, ix, hx, iy, hy, rfl⟩ := hc
            cases same (by simp)
            exact step_cpy h hd hop ht (ekOf_ok hk) hx hy he
          · cases hc
        · cases hc
      · rename_i x y t u hxs hts
        cases arr_two hxs
        split at hc
        · simp only [bind, Option.bind_eq_some_iff, Option.some.injEq] at hc
          obtain ⟨ix, hx, iy, hy, rfl⟩ := hc
          cases same (by simp)
          exact step_min h hd hop hx hy he
        · cases hc
      · rename_i x y t u hxs hts
        cases arr_two hxs
        split at hc
        · simp only [bind, Option.bind_eq_some_iff, Option.some.injEq] at hc
          obtain ⟨ix, hx, iy, hy, rfl⟩ := hc
          cases same (by simp)
          exact step_max h hd hop hx hy he
        · cases hc
      · cases hc
    | invoke x nm => simp [compOp] at hc
    | value v =>
      cases v with
      | func f =>
        simp only [compOp, bind, Option.bind_eq_some_iff] at hc
        obtain ⟨l1, hl1, l2, hl2, hc⟩ := hc
        split at hc
        · rename_i hck
          simp only [Bool.and_eq_true, beq_iff_eq, decide_eq_true_eq] at hck
          cases hc
          cases same (by simp)
          have g1 := optL_map hl1
          have g3 : F2 (fun (p : Operand × TypeId) (y : IX × AK) => opIX p.1 = some y.1) (args.toList.zip ts.toList) l2 := F2.mapR (fun p y z h1 h2 => by
            simp only [Option.map_eq_some_iff] at h1
            obtain ⟨ix, h3, rfl⟩ := h1
            rw [h3]; exact congrArg some h2) g1 (akL_fst hl2)
          have g4 := F2.zipL (R := fun (x : Operand) (y : IX × AK) => opIX x = some y.1) (by simpa using hck.1) g3
          exact step_call h hd hG hE hop g4 (by omega) he
        · cases hc
      | _ => simp [compOp] at hc
  all_goals (rw [hop] at hc; simp [compOp] at hc)
end
end Go.Cx

/- Cx 23: regions whose order is fixed. -/
namespace Go.Cx
open Go

/-- the state of a function's run -/
def RA (X : Fix) (s : St) (a : Act) (w : World) : Prop := RepE X s a.tmps w ∧ a.defers = []

theorem put_defers (a : Act) (d : Option Tmp) (v : Value) : (a.put d v).defers = a.defers := by cases d <;> rfl

theorem toApp0_spec {P : Program} {pure : Nat → Bool} {ops : Array Oper} (i : IOp) : toApp0 P pure ops i = i ∨ ∃ k b x y, i = .app k b x y ∧ toApp0 P pure ops i = .app0 k b x y := by
  unfold toApp0
  split
  · split
    · exact .inr ⟨_, _, _, _, rfl, rfl⟩
    · exact .inl rfl
  · exact .inr ⟨_, _, _, _, rfl, rfl⟩
  · exact .inl rfl

section
variable {P : Program} {G : List (Nat × V)} {pure : Nat → Bool} {X : Fix} {E : List (Nat × Ctr)} {s : St} {a : Act} {w : World} {o : Oper} {ops : Array Oper}

structure OpOk (X : Fix) (ops : Array Oper) (o : Oper) : Prop where
  d : dstOk X o
  st : storeOk o = true
  g : guardOk ops o = true

theorem step_go (hG : GOk G X) (hE : EnvSound P G pure E) (hok : OpOk X ops o) (hRA : RA X s a w) {e : Eff} (he : (stepR apf E s.t s.h o.dst (compOper P pure ops o).o).to e) {next : Act → World → Prop} {Q : Exit → Act → World → Prop}
    (hn : ∀ a' w', RA X (e.on o.dst s) a' w' → next a' w') : o.wp P a w next Q := by
  obtain ⟨⟨I, ρ, ow, h⟩, hdf⟩ := hRA
  simp only [compOper] at he
  split at he
  · rename_i i hc
    have hsp := toApp0_spec (P := P) (pure := pure) (ops := ops) i
    have := step_sound h hok.d hG hE hok.st hc hsp he
    have df : ∀ x, (a.put o.dst x).defers = [] := fun x => by rw [put_defers]; exact hdf
    unfold Oper.wp
    rcases this with ⟨x, w', h1, h2⟩ | ⟨w', h1, h2⟩ | ⟨f, args, w1, h1, h2⟩
    · rw [h1]
      exact hn _ _ ⟨h2, df x⟩
    · rw [h1]
      exact hn _ _ ⟨h2, df undef⟩
    · rw [h1]
      refine Calls.mono h2 ?_
      rintro en w' ⟨x, rfl, h3⟩
      exact hn _ _ ⟨h3, df x⟩
  · exact he.elim

theorem RA.skip (hd : dstOk X o) (h : RA X s a w) : RA X ⟨putT s.t o.dst .tnil, s.h⟩ (a.put o.dst undef) w := by
  obtain ⟨⟨I, ρ, ow, h⟩, hdf⟩ := h
  exact ⟨⟨I, ρ, ow, h.putD hd (show VRep I w ρ .tnil undef from rfl)⟩, by rw [put_defers]; exact hdf⟩

theorem getD_bool {tm : Array Value} {g : Nat} {b : Bool} (h : tm.getD g undef = .bool b) : tm[g]? = some (.bool b) := by
  rw [Array.getD_eq_getD_getElem?] at h
  cases hq : tm[g]? with
  | none => rw [hq] at h; simp [undef] at h
  | some v => rw [hq] at h; simp at h; rw [h]

/-- the guard's slot, and what it says -/
theorem guard_says {j : Nat} {want : Bool} (hg : o.guard = some (j, want)) (hgo : guardOk ops o = true) {g : Nat} (hgs : (compOper P pure ops o).g = some (g, want)) {b : Bool} (hb : a.tmps.getD g undef = .bool b) :
    Region.wanted o (yielded ops a.tmps) = (b == want) := by
  simp only [guardOk, hg] at hgo
  obtain ⟨g', hg'⟩ := Option.isSome_iff_exists.1 hgo
  have e1 : g = g' := by
    simp only [compOper, hg, hg', Option.getD_some, Option.some.injEq, Prod.mk.injEq, and_true] at hgs
    exact hgs.symm
  subst e1
  simp only [Region.wanted, hg, yielded, hg', Option.bind_some, getD_bool hb]
  cases b <;> cases want <;> rfl

/-- the guard's slot says nothing -/
theorem guard_mute {j : Nat} {want : Bool} (hg : o.guard = some (j, want)) (hgo : guardOk ops o = true) {g : Nat} (hgs : (compOper P pure ops o).g = some (g, want)) (hb : a.tmps.getD g undef = undef) :
    Region.wanted o (yielded ops a.tmps) = false := by
  simp only [guardOk, hg] at hgo
  obtain ⟨g', hg'⟩ := Option.isSome_iff_exists.1 hgo
  have e1 : g = g' := by
    simp only [compOper, hg, hg', Option.getD_some, Option.some.injEq, Prod.mk.injEq, and_true] at hgs
    exact hgs.symm
  subst e1
  have e2 : a.tmps[g]? = none ∨ a.tmps[g]? = some undef := by
    rw [Array.getD_eq_getD_getElem?] at hb
    cases hq : a.tmps[g]? with
    | none => exact .inl rfl
    | some v => rw [hq] at hb; exact .inr (by rw [show v = undef from hb])
  simp only [Region.wanted, hg, yielded, hg', Option.bind_some]
  rcases e2 with e2 | e2 <;> rw [e2] <;> cases want <;> rfl

theorem comp_guard : (compOper P pure ops o).g = none ∧ o.guard = none ∨ ∃ j want g, o.guard = some (j, want) ∧ (compOper P pure ops o).g = some (g, want) := by
  cases hg : o.guard with
  | none => exact .inl ⟨by simp [compOper, hg], rfl⟩
  | some p => obtain ⟨j, want⟩ := p; exact .inr ⟨j, want, _, rfl, by simp [compOper, hg]; rfl⟩

theorem comp_d : (compOper P pure ops o).d = o.dst := rfl

theorem op_run (hG : GOk G X) (hE : EnvSound P G pure E) (hok : OpOk X ops o) (hRA : RA X s a w) {K : St → Prop} (h : (opR apf E (compOper P pure ops o) s).all K) {next : Act → World → Prop} {Q : Exit → Act → World → Prop}
    (hn : ∀ s' a' w', K s' → RA X s' a' w' → next a' w') :
    if Region.wanted o (yielded ops a.tmps) then o.wp P a w next Q else next (a.put o.dst undef) w := by
  have go : ∀ {s : St}, RA X s a w → ((stepR apf E s.t s.h o.dst (compOper P pure ops o).o).bind fun e => .ok (e.on o.dst s)).all K → o.wp P a w next Q := fun {s} hRA h => by
    obtain ⟨s', h1, h2⟩ := all_to h
    obtain ⟨e, h3, h4⟩ := bind_to h1
    cases h4
    exact step_go hG hE hok hRA h3 (fun a' w' hh => hn _ _ _ h2 hh)
  have sk : ∀ {s : St}, RA X s a w → K ⟨putT s.t o.dst .tnil, s.h⟩ → next (a.put o.dst undef) w := fun {s} hRA h => hn _ _ _ h (hRA.skip hok.d)
  rcases comp_guard (P := P) (pure := pure) (ops := ops) (o := o) with ⟨h1, h2⟩ | ⟨j, want, g, h1, h2⟩
  · have hw : Region.wanted o (yielded ops a.tmps) = true := by simp [Region.wanted, h2]
    rw [if_pos hw]
    simp only [opR, h1] at h
    exact go hRA h
  · simp only [opR, h2] at h
    obtain ⟨⟨I, ρ, ow, hr⟩, hdf⟩ := hRA
    have hv := hr.tmps g
    split at h
    · rename_i e1
      rw [e1] at hv
      rw [guard_says h1 hok.g h2 (vr_tt hv)]
      cases want
      · exact sk ⟨⟨I, ρ, ow, hr⟩, hdf⟩ h
      · exact go ⟨⟨I, ρ, ow, hr⟩, hdf⟩ h
    · rename_i e1
      rw [e1] at hv
      rw [guard_says h1 hok.g h2 (vr_ff hv)]
      cases want
      · exact go ⟨⟨I, ρ, ow, hr⟩, hdf⟩ h
      · exact sk ⟨⟨I, ρ, ow, hr⟩, hdf⟩ h
    · rename_i b e1
      rw [e1] at hv
      have hb := vr_bool hv
      rw [guard_says h1 hok.g h2 hb]
      obtain ⟨ht, hf⟩ := h
      cases b with
      | true =>
        have hk : RA X ⟨upd s.t g .tt, s.h⟩ a w := ⟨⟨I, ρ, ow, hr.know (by rw [hb]; exact boolV_vr true)⟩, hdf⟩
        have ht := ht rfl
        cases want
        · exact sk hk ht
        · exact go hk ht
      | false =>
        have hk : RA X ⟨upd s.t g .ff, s.h⟩ a w := ⟨⟨I, ρ, ow, hr.know (by rw [hb]; exact boolV_vr false)⟩, hdf⟩
        have hf := hf rfl
        cases want
        · exact go hk hf
        · exact sk hk hf
    · rename_i e1
      rw [e1] at hv
      rw [guard_mute h1 hok.g h2 hv]
      exact sk ⟨⟨I, ρ, ow, hr⟩, hdf⟩ h
    · exact h.elim

theorem reg_list (hG : GOk G X) (hE : EnvSound P G pure E) {Q : Exit → Act → World → Prop} {K : St → Prop} (hK : ∀ s' a' w', K s' → RA X s' a' w' → Q .normal a' w') :
    ∀ (rest : List Oper) {s : St} {a : Act} {w : World}, (∀ o ∈ rest, OpOk X ops o) → RA X s a w → runOps apf E (rest.map (compOper P pure ops)) s K → wpList P ops Q rest a w := by
  intro rest
  induction rest with
  | nil => intro s a w _ hRA h; exact hK _ _ _ h hRA
  | cons o rest ih =>
    intro s a w hok hRA h
    simp only [List.map_cons, runOps] at h
    have := op_run (next := wpList P ops Q rest) (Q := Q) hG hE (hok o (by simp)) hRA h (fun s' a' w' hk hr => ih (fun o ho => hok o (List.mem_cons_of_mem _ ho)) hr hk)
    simp only [wpList]
    split
    · rename_i hw
      rw [if_pos hw] at this
      exact .inl this
    · rename_i hw
      rw [if_neg hw] at this
      exact this

theorem RA.keep {X : Fix} {s : St} {a : Act} {w : World} (h : RA X s a w) (l : List Nat) : RA X ⟨keepT s.t l, s.h⟩ a w := by
  obtain ⟨⟨I, ρ, ow, h⟩, hdf⟩ := h
  exact ⟨⟨I, ρ, ow, h.keep l⟩, hdf⟩

/-- what a wp owes where the small code's run promises Q -/
def toQ (X : Fix) (Q : Ex → St → Prop) : Exit → Act → World → Prop
  | .normal, a, w => ∃ s, Q .nrm s ∧ RA X s a w
  | .ret, a, w => ∃ s, Q .ret s ∧ RA X s a w
  | .exit i, a, w => ∃ s, Q (.exit i) s ∧ RA X s a w
  | _, _, _ => False

theorem reg_sound (hG : GOk G X) (hE : EnvSound P G pure E) {A : List (Nat × Ann)} {Q : Ex → St → Prop} {id : Nat} {keep : List Nat} (hok : ∀ o ∈ ops.toList, OpOk X ops o) (hRA : RA X s a w)
    (h : run apf E A (.reg keep (ops.toList.map (compOper P pure ops))) Q s) : (Code.region id ops false).wp P (toQ X Q) a w :=
  wp_region_list (reg_list hG hE (fun _ _ _ hk hr => ⟨_, hk, hr.keep keep⟩) ops.toList hok hRA h)
end
end Go.Cx
