/-
  What the laws of this claim stand on, part D: proved parts, no statement of its own.
-/
import Derived.Test.YtojllgpnhaaagaaDoorMerPC
import Derived.Orders
import Derived.IntWalk
/- CxGh -/
namespace Go.Cx
open Go
section
variable {X : Fix} {I : Nat → Prop} {ρ : Rho} {ow : Own} {s : St} {tm : Array Value} {w : World}
/-- what stands at the leaf's place -/
def AtLeaf (I : Nat → Prop) (w : World) (ow' : Own) (q : List Nat) (c2 : V) (a : Option Addr) (cp e : Nat) : Prop :=
  (cp = 0 ∧ CRep I w ow' c2 noR [] 0 (fun _ => none)) ∨ ∃ b off cur, a = some ⟨b, off, none⟩ ∧ ow' b = some q ∧ OwnBlk w b cur ∧ off + cp * e ≤ cur.size ∧ CRep I w ow' c2 noR q 0 (fun j => cur[off + j]?)
/-- content with its first leaf owned -/
theorem shut1_spec {c2 : V} : ∀ (c : V) {k n e p : Nat} {q : List Nat} {pos : Nat} {g : Nat → Option Value}, leaf1 c = some (k, n, e, p) → CRep I w ow c ρ q pos g →
    (shut1 c2 c).size = c.size ∧ p < c.size ∧ ∃ a cp l, ρ k = some l ∧ n ≤ cp ∧ cp ≤ maxLen ∧ (cp = 0 ∨ ∃ b off sz, l = .at b off sz ∧ a = some ⟨b, off, none⟩ ∧ cp * e ≤ sz) ∧
      ∀ (ow' : Own), q ≠ [] → (∀ b p' r, p' ≠ pos + p → ow b = some (q ++ p' :: r) → ow' b = some (q ++ p' :: r)) →
        isRow e n c2 → AtLeaf I w ow' (q ++ [pos + p]) c2 a cp e → CRep I w ow' (shut1 c2 c) ρ q pos g := by
  intro c
  induction c with
  | sl h pt i m e' cap =>
    intro k n e p q pos g hl hc
    unfold leaf1 at hl
    split at hl
    · cases hl
      rename_i heq
      cases heq
      obtain ⟨a, cp, l, h1, h2, h3, h4, _, h5⟩ := hc
      refine ⟨rfl, by simp [V.size], a, cp, l, h2, h3, h4, ?_, fun ow' hq _ hrow hat => ?_⟩
      · rcases h5 with h5 | ⟨b, off, sz, e1, e2, e3⟩
        · exact .inl h5
        · refine .inr ⟨b, off, sz, e1, ?_, ?_⟩
          · simpa [poff] using e2
          · simpa [poff] using e3
      · exact ⟨hq, a, cp, h1, h3, h4, hrow, hat⟩
    · rename_i heq
      cases heq
    · cases hl
  | cat n' m' a b iha ihb =>
    intro k n e p q pos g hl hc
    obtain ⟨h1, h2, h3, h4⟩ := hc
    simp only [leaf1] at hl
    split at hl
    · rename_i r hr
      cases hl
      obtain ⟨g1, g2, x, cp, l, g3, g4, g5, g6, g7⟩ := iha hr h3
      rw [show shut1 c2 (.cat n' m' a b) = .cat n' m' (shut1 c2 a) b by simp only [shut1, hr]]
      refine ⟨rfl, by simp only [V.size]; omega, x, cp, l, g3, g4, g5, g6, fun ow' hq ho hrow hat => ⟨g1.trans h1, h2, g7 ow' hq ho hrow hat, ?_⟩⟩
      exact CRep.sub _ _ _ _ _ _ _ _ (Rho.le_refl _) (fun _ => ⟨hq, fun b' p' r _ hb' => ho b' _ r (by omega) hb'⟩) h4
    · rename_i hn
      split at hl
      · rename_i k' m p' hr
        cases hl
        obtain ⟨g1, g2, x, cp, l, g3, g4, g5, g6, g7⟩ := ihb hr h4
        rw [show shut1 c2 (.cat n' m' a b) = .cat n' m' a (shut1 c2 b) by simp only [shut1, hn]]
        refine ⟨rfl, by simp only [V.size]; omega, x, cp, l, g3, g4, g5, g6, fun ow' hq ho hrow hat => ⟨h1, g1.trans h2, ?_, ?_⟩⟩
        · exact CRep.sub _ _ _ _ _ _ _ _ (Rho.le_refl _) (fun _ => ⟨hq, fun b' p2 r hp2 hb' => ho b' _ r (by omega) hb'⟩) h3
        · exact g7 ow' hq (fun b' p2 r hne hb' => ho b' p2 r (by omega) hb') hrow (by rwa [Nat.add_assoc])
      · cases hl
  | _ => intro k n e p q pos g h; cases h
theorem isRow_nil {e : Nat} {c2 : V} (h : isRow e 0 c2) (hno : c2.noown = true) {ow' : Own} {q : List Nat} {pos : Nat} {g : Nat → Option Value} (hc : CRep I w ow c2 ρ q pos g) : CRep I w ow' c2 noR [] 0 (fun _ => none) := by
  cases c2 <;> simp only [isRow] at h <;> first | cases hno; done | skip
  · obtain ⟨rfl, _⟩ := h
    exact ⟨hc.1, hc.2.1, fun j hj => by omega⟩
  · obtain ⟨rfl, _⟩ := h
    exact fun j hj => by omega
theorem Rep.shutOne (h : Rep X I ρ ow s tm w) {hd hk n e p : Nat} {c c2 : V} (hh : s.h hd = some ⟨.own, c⟩) (hkk : s.h hk = some ⟨.own, c2⟩) (hne : hk ≠ hd) (hlf : leaf1 c = some (hk, n, e, p))
    (hclo : c2.clo = true) (hrow : isRow e n c2) (hpos : c2.noown = true ∨ 0 < n) : ∃ ow', Rep X I ρ ow' ⟨s.t, upd (upd s.h hd (some ⟨.own, shut1 c2 c⟩)) hk (some ⟨.dead, .any⟩)⟩ tm w := by
  obtain ⟨l0, hl0, hB⟩ := h.heap hd _ hh
  obtain ⟨kb, off, sz, cur, rfl, hk1, hk2, hk3, hk4⟩ : ∃ k off sz cur, l0 = .at k off sz ∧ ow k = some [hd] ∧ OwnBlk w k cur ∧ cur.size = off + sz ∧ CRep I w ow c ρ [hd] 0 (fun j => cur[off + j]?) := by
    rcases hB with ⟨_, h2, h3⟩ | h3
    · have := (shut1_spec (c2 := c2) c hlf h3).2.1
      simp only at h2
      omega
    · exact h3
  obtain ⟨g1, g2, a, cp, l, g3, g4, g5, g6, g7⟩ := shut1_spec (c2 := c2) c hlf hk4
  obtain ⟨l', hl', hB2⟩ := h.heap hk _ hkk
  have hll : l' = l := Option.some.inj (hl'.symm.trans g3)
  subst hll
  let ow' : Own := fun b => match ow b with
    | some (x :: r) => if x = hk then (if cp = 0 then none else some (hd :: p :: r)) else some (x :: r)
    | o => o
  have o2 : ∀ b x r, x ≠ hk → ow b = some (x :: r) → ow' b = some (x :: r) := fun b x r hx hb => by
    simp only [ow', hb]; rw [if_neg hx]
  have o4 : ∀ b r, cp ≠ 0 → ow b = some (hk :: r) → ow' b = some (hd :: p :: r) := fun b r hc hb => by simp [ow', hb, hc]
  have o5 : ∀ b, ow b = none → ow' b = none := fun b hb => by simp [ow', hb]
  have o6 : ∀ b q, ow' b = some q → ∃ x r, ow b = some (x :: r) ∧ ((x ≠ hk ∧ q = x :: r) ∨ (x = hk ∧ q = hd :: p :: r)) := fun b q hb => by
    simp only [ow'] at hb
    split at hb
    · rename_i x r hxy
      split at hb
      · rename_i e1
        split at hb
        · cases hb
        · cases hb
          exact ⟨x, r, hxy, .inr ⟨e1, rfl⟩⟩
      · rename_i e1
        cases hb
        exact ⟨x, r, hxy, .inl ⟨e1, rfl⟩⟩
    · rename_i hno
      obtain ⟨_, _, x, r, c, e, _⟩ := h.owf b q hb
      subst e
      exact (hno x r hb).elim
  have hat : AtLeaf I w ow' ([hd] ++ [0 + p]) c2 a cp e := by
    by_cases hc0 : cp = 0
    · subst hc0
      obtain rfl : n = 0 := by omega
      refine .inl ⟨rfl, ?_⟩
      rcases hB2 with ⟨_, _, h3⟩ | ⟨_, _, _, _, _, _, _, _, h3⟩
      · exact isRow_nil hrow (hpos.resolve_right (by omega)) h3
      · exact isRow_nil hrow (hpos.resolve_right (by omega)) h3
    · rcases g6 with g6 | ⟨b, off2, sz2, e1, e2, e3⟩
      · exact absurd g6 hc0
      · subst e1
        rcases hB2 with ⟨h3, _⟩ | ⟨k3, off3, sz3, cur3, h3, h4, h5, h6, h7⟩
        · cases h3
        · cases h3
          refine .inr ⟨_, _, cur3, e2, ?_, h5, by omega, ?_⟩
          · rw [Nat.zero_add]; exact o4 _ [] hc0 h4
          · have h8 := CRep.closed c2 ρ noR _ _ _ hclo h7
            refine CRep.sub _ _ _ _ _ _ _ _ (Rho.le_refl _) (fun _ => ⟨by simp, fun b' p' r _ hb' => ?_⟩) h8
            have := o4 b' ((0 + p') :: r) hc0 (by simpa using hb')
            simpa using this
  refine ⟨ow', ?_⟩
  exact
    { h with
      iow := fun b hb => o5 b (h.iow b hb)
      owf := fun b q hb => by
        obtain ⟨x, r, e1, e2⟩ := o6 b q hb
        obtain ⟨g8, g9, x', r', cx, g10, g11⟩ := h.owf b _ e1
        cases g10
        refine ⟨g8, g9, ?_⟩
        rcases e2 with ⟨hx, rfl⟩ | ⟨rfl, rfl⟩
        · by_cases e : x = hd
          · subst e; exact ⟨x, r, shut1 c2 c, rfl, by simp only [upd_ne _ _ hx, upd_same]⟩
          · exact ⟨x, r, cx, rfl, by simp only [upd_ne _ _ hx, upd_ne _ _ e]; exact g11⟩
        · exact ⟨hd, p :: r, shut1 c2 c, rfl, by simp only [upd_ne _ _ (Ne.symm hne), upd_same]⟩
      dom := fun b l hb hb2 => by
        by_cases e : b = hk
        · subst e; simp [upd]
        · simp only [upd_ne _ _ e]
          by_cases e2 : b = hd
          · subst e2; simp [upd]
          · simp only [upd_ne _ _ e2]; exact h.dom b l hb hb2
      heap := fun b blk hb => by
        by_cases e : b = hk
        · subst e
          simp only [upd_same, Option.some.injEq] at hb
          subst hb
          exact ⟨_, g3, trivial⟩
        · simp only [upd_ne _ _ e] at hb
          by_cases e2 : b = hd
          · subst e2
            simp only [upd_same, Option.some.injEq] at hb
            subst hb
            refine ⟨_, hl0, .inr ⟨kb, off, sz, cur, rfl, o2 _ _ _ (Ne.symm hne) hk1, hk2, hk3, g7 ow' (by simp) (fun b' p' r _ hb' => ?_) hrow hat⟩⟩
            exact o2 b' _ _ (Ne.symm hne) (by simpa using hb')
          · simp only [upd_ne _ _ e2] at hb
            obtain ⟨l', h1, h2⟩ := h.heap b blk hb
            exact ⟨l', h1, BRep.keep h (Only.refl w none) (fun k e => by cases e) (fun _ h => h) (Rho.le_refl _) h2 (fun k' r hk' => ⟨by simp, o2 _ _ _ e hk'⟩) (fun b' _ h => o5 b' h)⟩ }
theorem Rep.closes {p : Nat} : ∀ (f : Nat) {ow : Own} {hh h' : Nat → Option Blk}, Rep X I ρ ow ⟨s.t, hh⟩ tm w → (closeR apf p f hh).to h' → ∃ ow', Rep X I ρ ow' ⟨s.t, h'⟩ tm w := by
  intro f
  induction f with
  | zero => intro ow hh h' h hc; cases hc; exact ⟨ow, h⟩
  | succ f ih =>
    intro ow hh h' h hc
    simp only [closeR] at hc
    split at hc
    · rename_i c hp
      split at hc
      · rename_i k n e pp hl
        split at hc
        · rename_i c2 hk
          obtain ⟨h1, hc⟩ := rif_to hc
          obtain ⟨h2, hc⟩ := hc
          simp only [Bool.and_eq_true, beq_iff_eq, bne_iff_ne, decide_eq_true_eq] at h1
          have hrow : isRow e n c2 := by
            have h2 : n = c2.cnt := h2
            have h4 := h1.1.1.2
            have h5 := h1.1.1.1.2
            subst h2
            cases c2 <;> simp_all [isRow, V.isRowX, V.cnt, V.rowE]
          have hpos : (c2.noown = true ∨ 0 < n) ∧ (closeR apf p f (upd (upd hh p (some ⟨.own, shut1 c2 c⟩)) k (some ⟨.dead, .any⟩))).to h' := by
            cases hno : c2.noown with
            | true =>
              rw [if_pos hno] at hc
              exact ⟨.inl rfl, hc⟩
            | false =>
              rw [if_neg (by rw [hno]; simp)] at hc
              exact ⟨.inr hc.1, hc.2⟩
          obtain ⟨ow', h3⟩ := h.shutOne hp hk h1.1.2 hl h1.1.1.1.1 hrow hpos.1
          exact ih h3 hpos.2
        · exact hc.elim
      · cases hc; exact ⟨ow, h⟩
    · cases hc; exact ⟨ow, h⟩
end
end Go.Cx
/- CxReg -/
namespace Go.Cx
open Go
/-- the state of a function's run -/
def RA (X : Fix) (s : St) (a : Act) (w : World) : Prop := RepE X s a.tmps w ∧ a.defers = []
theorem put_defers (a : Act) (d : Option Tmp) (v : Value) : (a.put d v).defers = a.defers := by cases d <;> rfl
theorem toApp0_spec {P : Program} {pure : Nat → Bool} {ops : Array Oper} (i : IOp) : toApp0 P pure ops i = i ∨ ∃ k b x y, i = .app k b x y ∧ toApp0 P pure ops i = .app0 k b x y := by
  unfold toApp0
  split
  · split
    · exact .inr ⟨_, _, _, _, rfl, rfl⟩
    · exact .inl rfl
  · exact .inr ⟨_, _, _, _, rfl, rfl⟩
  · exact .inl rfl
theorem toMF_spec {pure : Nat → Bool} {d : Option Nat} (i : IOp) : Tr i (toMF pure d i) := by
  unfold toMF
  split
  · split
    · exact .same rfl
    · exact .mksF _ _ _ rfl rfl
  · split
    · split
      · exact .same rfl
      · exact .ldE _ _ rfl rfl
    · exact .ldE _ _ rfl rfl
  · split
    · exact .same rfl
    · exact .stE _ _ rfl rfl
  · split
    · exact .same rfl
    · exact .bslE _ _ _ rfl rfl
  · split
    · exact .same rfl
    · exact .allocE _ rfl rfl
  · split
    · exact .same rfl
    · exact .appE _ _ _ _ rfl rfl
  · exact .same rfl
theorem toBoth_spec {P : Program} {pure : Nat → Bool} {ops : Array Oper} {d : Option Nat} (i : IOp) : Tr i (toMF pure d (toApp0 P pure ops i)) := by
  rcases toApp0_spec (P := P) (pure := pure) (ops := ops) i with e | ⟨k, b, x, y, e1, e2⟩
  · rw [e]
    exact toMF_spec i
  · exact .app0 k b x y e1 (by rw [e2]; rfl)
section
variable {P : Program} {G : List (Nat × V)} {pure : Nat → Bool} {X : Fix} {E : List (Nat × Ctr)} {s : St} {a : Act} {w : World} {o : Oper} {ops : Array Oper}
structure OpOk (X : Fix) (ops : Array Oper) (o : Oper) : Prop where
  d : dstOk X o
  st : storeOk o = true
  g : guardOk ops o = true
theorem step_go (hG : GOk G X) (hE : EnvSound P G pure E) (hok : OpOk X ops o) (hRA : RA X s a w) {e : Eff} (he : (stepR apf E s.t s.h o.dst (compOper P pure ops o).o).to e) {next : Act → World → Prop} {Q : Exit → Act → World → Prop}
    (hn : ∀ a' w', RA X (e.on o.dst s) a' w' → next a' w') : o.wp P a w next Q := by
  obtain ⟨⟨I, ρ, ow, h⟩, hdf⟩ := hRA
  simp only [compOper] at he
  split at he
  · rename_i i hc
    have hsp := toBoth_spec (P := P) (pure := pure) (ops := ops) (d := o.dst) i
    have := step_sound h hok.d hG hE hok.st hc hsp he
    have df : ∀ x, (a.put o.dst x).defers = [] := fun x => by rw [put_defers]; exact hdf
    unfold Oper.wp
    rcases this with ⟨x, w', h1, h2⟩ | ⟨w', h1, h2⟩ | ⟨f, args, w1, h1, h2⟩
    · rw [h1]
      exact hn _ _ ⟨h2, df x⟩
    · rw [h1]
      exact hn _ _ ⟨h2, df undef⟩
    · rw [h1]
      refine Calls.mono h2 ?_
      rintro en w' ⟨x, rfl, h3⟩
      exact hn _ _ ⟨h3, df x⟩
  · exact he.elim
theorem RA.closeL {ps : List Nat} : ∀ {s : St} {h1 : Nat → Option Blk}, RA X s a w → (Go.Cx.closeL apf ps s.h).to h1 → RA X ⟨s.t, h1⟩ a w := by
  induction ps with
  | nil => intro s h1 h hc; cases hc; exact h
  | cons p ps ih =>
    intro s h1 h hc
    simp only [Go.Cx.closeL] at hc
    obtain ⟨h2, g1, g2⟩ := bind_to hc
    obtain ⟨⟨I, ρ, ow, hr⟩, hdf⟩ := h
    obtain ⟨ow', hr'⟩ := Rep.closes (s := s) 40 hr g1
    exact ih (s := ⟨s.t, h2⟩) ⟨⟨I, ρ, ow', hr'⟩, hdf⟩ g2
theorem stepS_go (hG : GOk G X) (hE : EnvSound P G pure E) (hok : OpOk X ops o) (hRA : RA X s a w) {s' : St} (he : (stepS apf E o.dst (compOper P pure ops o).o s).to s') {next : Act → World → Prop} {Q : Exit → Act → World → Prop}
    (hn : ∀ a' w', RA X s' a' w' → next a' w') : o.wp P a w next Q := by
  unfold stepS at he
  split at he
  · rename_i f xs hop
    split at he
    · obtain ⟨e, h3, h4⟩ := bind_to he
      cases h4
      rw [← hop] at h3
      exact step_go hG hE hok hRA h3 hn
    · rename_i p ps _
      obtain ⟨hb, he⟩ := rif_to he
      obtain ⟨h0, h00, he⟩ := bind_to he
      obtain ⟨h1, h2, he⟩ := bind_to he
      obtain ⟨e, h3, h4⟩ := bind_to he
      cases h4
      rw [← hop] at h3
      have hRA0 : RA X ⟨s.t, h0⟩ a w := by
        obtain ⟨⟨I, ρ, ow, hr⟩, hdf⟩ := hRA
        obtain ⟨ow', hr'⟩ := Rep.pbAll 40 hr h00
        exact ⟨⟨I, ρ, ow', hr'⟩, hdf⟩
      refine step_go (s := ⟨s.t, h1⟩) hG hE hok (hRA0.closeL h2) h3 (fun a' w' hh => hn _ _ ?_)
      obtain ⟨⟨I, ρ, ow, hr⟩, hdf⟩ := hh
      obtain ⟨ρ', ow', _, hr'⟩ := Rep.opens (s := e.on o.dst ⟨s.t, h1⟩) 40 (opnBase o.dst) (p :: ps) (by have := of_decide_eq_true hb; omega) hr
      exact ⟨⟨I, ρ', ow', hr'⟩, hdf⟩
  · obtain ⟨e, h3, h4⟩ := bind_to he
    cases h4
    exact step_go hG hE hok hRA h3 hn
theorem RA.skip (hd : dstOk X o) (h : RA X s a w) : RA X ⟨putT s.t o.dst .tnil, s.h⟩ (a.put o.dst undef) w := by
  obtain ⟨⟨I, ρ, ow, h⟩, hdf⟩ := h
  exact ⟨⟨I, ρ, ow, h.putD hd (show VRep I w ρ .tnil undef from rfl)⟩, by rw [put_defers]; exact hdf⟩
theorem getD_bool {tm : Array Value} {g : Nat} {b : Bool} (h : tm.getD g undef = .bool b) : tm[g]? = some (.bool b) := by
  rw [Array.getD_eq_getD_getElem?] at h
  cases hq : tm[g]? with
  | none => rw [hq] at h; simp [undef] at h
  | some v => rw [hq] at h; simp at h; rw [h]
/-- the guard's slot, and what it says -/
theorem guard_says {j : Nat} {want : Bool} (hg : o.guard = some (j, want)) (hgo : guardOk ops o = true) {g : Nat} (hgs : (compOper P pure ops o).g = some (g, want)) {b : Bool} (hb : a.tmps.getD g undef = .bool b) :
    Region.wanted o (yielded ops a.tmps) = (b == want) := by
  simp only [guardOk, hg] at hgo
  obtain ⟨g', hg'⟩ := Option.isSome_iff_exists.1 hgo
  have e1 : g = g' := by
    simp only [compOper, hg, hg', Option.getD_some, Option.some.injEq, Prod.mk.injEq, and_true] at hgs
    exact hgs.symm
  subst e1
  simp only [Region.wanted, hg, yielded, hg', Option.bind_some, getD_bool hb]
  cases b <;> cases want <;> rfl
/-- the guard's slot says nothing -/
theorem guard_mute {j : Nat} {want : Bool} (hg : o.guard = some (j, want)) (hgo : guardOk ops o = true) {g : Nat} (hgs : (compOper P pure ops o).g = some (g, want)) (hb : a.tmps.getD g undef = undef) :
    Region.wanted o (yielded ops a.tmps) = false := by
  simp only [guardOk, hg] at hgo
  obtain ⟨g', hg'⟩ := Option.isSome_iff_exists.1 hgo
  have e1 : g = g' := by
    simp only [compOper, hg, hg', Option.getD_some, Option.some.injEq, Prod.mk.injEq, and_true] at hgs
    exact hgs.symm
  subst e1
  have e2 : a.tmps[g]? = none ∨ a.tmps[g]? = some undef := by
    rw [Array.getD_eq_getD_getElem?] at hb
    cases hq : a.tmps[g]? with
    | none => exact .inl rfl
    | some v => rw [hq] at hb; exact .inr (by rw [show v = undef from hb])
  simp only [Region.wanted, hg, yielded, hg', Option.bind_some]
  rcases e2 with e2 | e2 <;> rw [e2] <;> cases want <;> rfl
theorem comp_guard : (compOper P pure ops o).g = none ∧ o.guard = none ∨ ∃ j want g, o.guard = some (j, want) ∧ (compOper P pure ops o).g = some (g, want) := by
  cases hg : o.guard with
  | none => exact .inl ⟨by simp [compOper, hg], rfl⟩
  | some p => obtain ⟨j, want⟩ := p; exact .inr ⟨j, want, _, rfl, by simp [compOper, hg]; rfl⟩
theorem op_run (hG : GOk G X) (hE : EnvSound P G pure E) (hok : OpOk X ops o) (hRA : RA X s a w) {K : St → Prop} (h : (opR apf E (compOper P pure ops o) s).all K) {next : Act → World → Prop} {Q : Exit → Act → World → Prop}
    (hn : ∀ s' a' w', K s' → RA X s' a' w' → next a' w') :
    if Region.wanted o (yielded ops a.tmps) then o.wp P a w next Q else next (a.put o.dst undef) w := by
  have go : ∀ {s : St}, RA X s a w → (stepS apf E o.dst (compOper P pure ops o).o s).all K → o.wp P a w next Q := fun {s} hRA h => by
    obtain ⟨s', h1, h2⟩ := all_to h
    exact stepS_go hG hE hok hRA h1 (fun a' w' hh => hn _ _ _ h2 hh)
  have sk : ∀ {s : St}, RA X s a w → K ⟨putT s.t o.dst .tnil, s.h⟩ → next (a.put o.dst undef) w := fun {s} hRA h => hn _ _ _ h (hRA.skip hok.d)
  rcases comp_guard (P := P) (pure := pure) (ops := ops) (o := o) with ⟨h1, h2⟩ | ⟨j, want, g, h1, h2⟩
  · have hw : Region.wanted o (yielded ops a.tmps) = true := by simp [Region.wanted, h2]
    rw [if_pos hw]
    simp only [opR, h1] at h
    exact go hRA h
  · simp only [opR, h2] at h
    obtain ⟨⟨I, ρ, ow, hr⟩, hdf⟩ := hRA
    have hv := hr.tmps g
    split at h
    · rename_i e1
      rw [e1] at hv
      rw [guard_says h1 hok.g h2 (vr_tt hv)]
      cases want
      · exact sk ⟨⟨I, ρ, ow, hr⟩, hdf⟩ h
      · exact go ⟨⟨I, ρ, ow, hr⟩, hdf⟩ h
    · rename_i e1
      rw [e1] at hv
      rw [guard_says h1 hok.g h2 (vr_ff hv)]
      cases want
      · exact go ⟨⟨I, ρ, ow, hr⟩, hdf⟩ h
      · exact sk ⟨⟨I, ρ, ow, hr⟩, hdf⟩ h
    · rename_i b e1
      rw [e1] at hv
      have hb := vr_bool hv
      rw [guard_says h1 hok.g h2 hb]
      obtain ⟨ht, hf⟩ := h
      cases b with
      | true =>
        have hk : RA X ⟨upd s.t g .tt, s.h⟩ a w := ⟨⟨I, ρ, ow, hr.know (by rw [hb]; exact boolV_vr true)⟩, hdf⟩
        have ht := ht rfl
        cases want
        · exact sk hk ht
        · exact go hk ht
      | false =>
        have hk : RA X ⟨upd s.t g .ff, s.h⟩ a w := ⟨⟨I, ρ, ow, hr.know (by rw [hb]; exact boolV_vr false)⟩, hdf⟩
        have hf := hf rfl
        cases want
        · exact go hk hf
        · exact sk hk hf
    · rename_i e1
      rw [e1] at hv
      rw [guard_mute h1 hok.g h2 hv]
      exact sk ⟨⟨I, ρ, ow, hr⟩, hdf⟩ h
    · exact h.elim
theorem reg_list (hG : GOk G X) (hE : EnvSound P G pure E) {Q : Exit → Act → World → Prop} {K : St → Prop} (hK : ∀ s' a' w', K s' → RA X s' a' w' → Q .normal a' w') :
    ∀ (rest : List Oper) {s : St} {a : Act} {w : World}, (∀ o ∈ rest, OpOk X ops o) → RA X s a w → runOps apf E (rest.map (compOper P pure ops)) s K → wpList P ops Q rest a w := by
  intro rest
  induction rest with
  | nil => intro s a w _ hRA h; exact hK _ _ _ h hRA
  | cons o rest ih =>
    intro s a w hok hRA h
    simp only [List.map_cons, runOps] at h
    have := op_run (next := wpList P ops Q rest) (Q := Q) hG hE (hok o (by simp)) hRA h (fun s' a' w' hk hr => ih (fun o ho => hok o (List.mem_cons_of_mem _ ho)) hr hk)
    simp only [wpList]
    split
    · rename_i hw
      rw [if_pos hw] at this
      exact .inl this
    · rename_i hw
      rw [if_neg hw] at this
      exact this
theorem RA.keep {X : Fix} {s : St} {a : Act} {w : World} (h : RA X s a w) (l : List Nat) : RA X ⟨keepT s.t l, s.h⟩ a w := by
  obtain ⟨⟨I, ρ, ow, h⟩, hdf⟩ := h
  exact ⟨⟨I, ρ, ow, h.keep l⟩, hdf⟩
/-- what a wp owes where the small code's run promises Q -/
def toQ (X : Fix) (Q : Ex → St → Prop) : Exit → Act → World → Prop
  | .normal, a, w => ∃ s, Q .nrm s ∧ RA X s a w
  | .ret, a, w => ∃ s, Q .ret s ∧ RA X s a w
  | .exit i, a, w => ∃ s, Q (.exit i) s ∧ RA X s a w
  | _, _, _ => False
theorem reg_sound (hG : GOk G X) (hE : EnvSound P G pure E) {A : List (Nat × Ann)} {Q : Ex → St → Prop} {id : Nat} {keep : List Nat} (hok : ∀ o ∈ ops.toList, OpOk X ops o) (hRA : RA X s a w)
    (h : run apf E A (.reg keep (ops.toList.map (compOper P pure ops))) Q s) : (Code.region id ops false).wp P (toQ X Q) a w :=
  wp_region_list (reg_list hG hE (fun _ _ _ hk hr => ⟨_, hk, hr.keep keep⟩) ops.toList hok hRA h)
end
end Go.Cx
/- CxDraw1 -/
namespace Go.Cx
open Go
theorem ev_congr {t t' : Nat → V} {x : IX} (h : ∀ n ∈ x.tmps, t n = t' n) : ev t x = ev t' x := by
  cases x with
  | t n => exact h n (by simp [IX.tmps])
  | c v => rfl
  | g n => rfl
theorem map_congr' {α β : Type} {f g : α → β} : ∀ {l : List α}, (∀ x ∈ l, f x = g x) → l.map f = l.map g
  | [], _ => rfl
  | x :: l, h => by rw [List.map_cons, List.map_cons, h x (by simp), map_congr' fun y hy => h y (by simp [hy])]
/-- an operation looks at its slots alone -/
theorem stepR_tmps (ap : AP) (E : List (Nat × Ctr)) {t t' : Nat → V} (h : Nat → Option Blk) (d : Option Nat) (o : IOp) (ht : ∀ n ∈ o.tmps, t n = t' n) : stepR ap E t h d o = stepR ap E t' h d o := by
  cases o
  case bldS z ps =>
    have : (ps.map fun p => (p.1, p.2.1, ev t p.2.2)) = ps.map fun p => (p.1, p.2.1, ev t' p.2.2) := map_congr' fun p hp => by
      rw [ev_congr fun n hn => ht n (by simp only [IOp.tmps, List.mem_flatMap]; exact ⟨p, hp, hn⟩)]
    simp only [stepR, this]
  case bldA k n ps =>
    have : (ps.map fun p => (p.1, ev t p.2)) = ps.map fun p => (p.1, ev t' p.2) := map_congr' fun p hp => by
      rw [ev_congr fun n hn => ht n (by simp only [IOp.tmps, List.mem_flatMap]; exact ⟨p, hp, hn⟩)]
    simp only [stepR, this]
  case bslE n ps =>
    have : (ps.map fun p => (p.1, ev t p.2)) = ps.map fun p => (p.1, ev t' p.2) := map_congr' fun p hp => by
      rw [ev_congr fun n hn => ht n (by simp only [IOp.tmps, List.mem_flatMap]; exact ⟨p, hp, hn⟩)]
    simp only [stepR, this]
  case allocE => rfl
  case bsl k n ps =>
    have : (ps.map fun p => (p.1, ev t p.2)) = ps.map fun p => (p.1, ev t' p.2) := map_congr' fun p hp => by
      rw [ev_congr fun n hn => ht n (by simp only [IOp.tmps, List.mem_flatMap]; exact ⟨p, hp, hn⟩)]
    cases n <;> simp only [stepR, this]
  case call f pu l =>
    have : (l.map fun x => (ev t x.1, x.2)) = l.map fun x => (ev t' x.1, x.2) := map_congr' fun p hp => by
      rw [ev_congr fun n hn => ht n (by simp only [IOp.tmps, List.mem_flatMap]; exact ⟨p, hp, hn⟩)]
    simp only [stepR, this]
  case slA n e x lo hi =>
    have hx := ev_congr (x := x) fun n hn => ht n (by simp [IOp.tmps, hn])
    have hlo : ∀ y, lo = some y → ev t y = ev t' y := fun y e => ev_congr fun n hn => ht n (by simp [IOp.tmps, optTmps, e, hn])
    have hhi : ∀ y, hi = some y → ev t y = ev t' y := fun y e => ev_congr fun n hn => ht n (by simp [IOp.tmps, optTmps, e, hn])
    cases lo <;> cases hi <;> simp only [stepR, hx] <;> simp_all
  case slT x lo hi =>
    have hx := ev_congr (x := x) fun n hn => ht n (by simp [IOp.tmps, hn])
    have hlo : ∀ y, lo = some y → ev t y = ev t' y := fun y e => ev_congr fun n hn => ht n (by simp [IOp.tmps, optTmps, e, hn])
    have hhi : ∀ y, hi = some y → ev t y = ev t' y := fun y e => ev_congr fun n hn => ht n (by simp [IOp.tmps, optTmps, e, hn])
    cases lo <;> cases hi <;> simp only [stepR, hx] <;> simp_all
  case slS e x lo hi mx =>
    have hx := ev_congr (x := x) fun n hn => ht n (by simp [IOp.tmps, hn])
    have hlo : ∀ y, lo = some y → ev t y = ev t' y := fun y e => ev_congr fun n hn => ht n (by simp [IOp.tmps, optTmps, e, hn])
    have hhi : ∀ y, hi = some y → ev t y = ev t' y := fun y e => ev_congr fun n hn => ht n (by simp [IOp.tmps, optTmps, e, hn])
    have hmx : ∀ y, mx = some y → ev t y = ev t' y := fun y e => ev_congr fun n hn => ht n (by simp [IOp.tmps, optTmps, e, hn])
    cases mx with
    | none => cases lo <;> cases hi <;> simp only [stepR, hx] <;> simp_all
    | some m =>
      have hm := hmx m rfl
      simp only [stepR, hx, hm]
      cases hi with
      | none => cases lo <;> (split <;> simp_all)
      | some y =>
        have hy := hhi y rfl
        cases lo with
        | some _ => split <;> simp_all
        | none => split <;> simp_all
  case pick a b c =>
    have h1 := ev_congr (x := a) fun n hn => ht n (by simp [IOp.tmps, hn])
    have h2 := ev_congr (x := b) fun n hn => ht n (by simp [IOp.tmps, hn])
    have h3 := ev_congr (x := c) fun n hn => ht n (by simp [IOp.tmps, hn])
    simp only [stepR, h1, h2, h3]
  case slX e x y z =>
    have h1 := ev_congr (x := x) fun n hn => ht n (by simp [IOp.tmps, hn])
    have h2 := ev_congr (x := y) fun n hn => ht n (by simp [IOp.tmps, hn])
    have h3 := ev_congr (x := z) fun n hn => ht n (by simp [IOp.tmps, hn])
    simp only [stepR, h1, h2, h3]
  case alloc => rfl
  case lenA => rfl
  case bad => rfl
  case st s x y | ar b k x y | cmp b x y | shf b k x y | eq k n x y | iaA n e x y | iaS e x y | ixA n e g x y | ixT x y | app k b x y | app0 k b x y | appz k b x y | appT x y | cpy k x y | min2 x y | max2 x y | stE x y | appE _ x y =>
    have h1 := ev_congr (x := x) fun n hn => ht n (by simp [IOp.tmps, hn])
    have h2 := ev_congr (x := y) fun n hn => ht n (by simp [IOp.tmps, hn])
    simp only [stepR, h1, h2]
  case mv x | nck x | box x | ld s g x | neg k x | cpl k x | not x | cv k x | b2s x | s2b x | mst x | mks k b x | mksF k b x | fa o s x | fl o s g x | lenS x | lenT x | ext i x | s2a n e x | ldE _ x =>
    have h1 := ev_congr (x := x) fun n hn => ht n (by simpa [IOp.tmps] using hn)
    simp only [stepR, h1]
/-- plain operations look at no block -/
theorem stepR_plain (ap : AP) (E : List (Nat × Ctr)) (t : Nat → V) (h h' : Nat → Option Blk) (d : Option Nat) (o : IOp) (hc : cls o = .p) : stepR ap E t h d o = stepR ap E t h' d o := by
  cases o <;> first | rfl | (simp only [cls] at hc; first | cases hc | (split at hc <;> cases hc))
end Go.Cx
/- CxDraw2 -/
namespace Go.Cx
open Go
section
variable {h h' : Nat → Option Blk} (hle : ∀ j b, h' j = some b → h j = some b)
include hle
theorem sliceC_mono {k : EK} {v : V} {r : Nat × V} (hr : (sliceC apf h' k v).to r) : (sliceC apf h k v).to r := by
  cases v <;> try exact hr
  rename_i hd p i n e cap
  simp only [sliceC] at hr ⊢
  cases hb : h' hd with
  | none => rw [hb] at hr; exact hr.elim
  | some b => rw [hb] at hr; rw [hle _ _ hb]; exact hr
theorem resolve_mono {pure : Bool} {k : AK} {v : V} {r : Arg × Option Nat} (hr : (resolve apf h' pure k v).to r) : (resolve apf h pure k v).to r := by
  cases k with
  | b k =>
    simp only [resolve] at hr ⊢
    obtain ⟨a, h1, h2⟩ := bind_to hr
    exact to_bind (sliceC_mono hle h1) h2
  | w k =>
    cases v <;> try exact hr
    rename_i hd p i n e cap
    cases p with
    | cons x p => exact hr
    | nil =>
      simp only [resolve] at hr ⊢
      cases hb : h' hd with
      | none => rw [hb] at hr; exact hr.elim
      | some b => rw [hb] at hr; rw [hle _ _ hb]; exact hr
  | v =>
    cases v <;> try exact hr
    rename_i hd p
    cases p with
    | cons x p => exact hr
    | nil =>
      simp only [resolve] at hr ⊢
      cases hb : h' hd with
      | none => rw [hb] at hr; exact hr.elim
      | some b => rw [hb] at hr; rw [hle _ _ hb]; exact hr
theorem resolveL_mono {pure : Bool} : ∀ {xs : List (V × AK)} {r : List Arg × List Nat}, (resolveL apf h' pure xs).to r → (resolveL apf h pure xs).to r := by
  intro xs
  induction xs with
  | nil => intro r hr; exact hr
  | cons x xs ih =>
    intro r hr
    simp only [resolveL] at hr ⊢
    obtain ⟨a, h1, hr⟩ := bind_to hr
    obtain ⟨b, h2, hr⟩ := bind_to hr
    exact to_bind (resolve_mono hle h1) (to_bind (ih h2) hr)
theorem to_rif {α : Type} {b : Bool} {n : Nat} {r : R α} {a : α} (hb : b = true) (hr : r.to a) : (rif b n r).to a := by
  have _ := hle
  subst hb; exact hr
theorem fresh_mono {d : Option Nat} {k k' : Nat → R Eff} {e : Eff} (hd : ∀ n, d = some n → h' n = h n) (he : (fresh h' d k').to e) (hk : ∀ n, (k' n).to e → (k n).to e) : (fresh h d k).to e := by
  have _ := hle
  obtain ⟨n, rfl, h1, h2⟩ := fresh_to he
  rw [hd n rfl] at h1
  simp only [fresh, h1]
  exact hk n h2
theorem allFresh_mono {l : List (Nat × Blk)} (hl : ∀ p ∈ l, p.1 < 100000 → h' p.1 = h p.1) (hf : allFresh h' l = true) : allFresh h l = true := by
  have _ := hle
  induction l with
  | nil => rfl
  | cons x l ih =>
    obtain ⟨i, b⟩ := x
    simp only [allFresh, Bool.and_eq_true, decide_eq_true_eq] at hf ⊢
    refine ⟨⟨⟨?_, hf.1.1.2⟩, hf.1.2⟩, ih (fun p hp => hl p (by simp [hp])) hf.2⟩
    have := hl (i, b) (by simp) hf.1.1.2
    simp only at this
    rw [← this]
    exact hf.1.1.1
theorem newsL_in {d : Nat} {news : List V} : ∀ p ∈ newsL d 0 news, p.1 < 100000 → p.1 ∈ (List.range 10).map (newH d) := by
  have _ := hle
  intro p hp hlt
  obtain ⟨j, _, e⟩ := newsL_keys (j0 := 0) (List.mem_map.2 ⟨p, hp, rfl⟩)
  rw [Nat.zero_add] at e
  rw [e] at hlt ⊢
  refine List.mem_map.2 ⟨j, ?_, rfl⟩
  simp only [newH] at hlt
  simp only [List.mem_range]
  split at hlt <;> omega
/-- with more blocks in sight -/
theorem stepR_mono {E : List (Nat × Ctr)} {t : Nat → V} {d : Option Nat} {o : IOp} {g : Option (Nat × Bool)} {e : Eff} (hfr : ∀ j ∈ mayMake ⟨d, g, o⟩, h' j = h j) (he : (stepR apf E t h' d o).to e) : (stepR apf E t h d o).to e := by
  have blk : ∀ {hd : Nat} {f : Option Blk → R Eff}, (∀ e, ¬ (f none).to e) → (f (h' hd)).to e → (f (h hd)).to e := fun {hd f} hn hf => by
    cases hb : h' hd with
    | none => rw [hb] at hf; exact absurd hf (hn e)
    | some b => rw [hb] at hf; rw [hle _ _ hb]; exact hf
  cases o
  case ld s agg x =>
    simp only [stepR] at he ⊢
    generalize ev t x = v at he ⊢
    cases v <;> first | exact he | skip
    rename_i hd p
    cases hb : h' hd with
    | none => simp only [hb] at he; exact he.elim
    | some b => simp only [hb] at he; simp only [hle _ _ hb]; exact he
  case st s x y =>
    simp only [stepR] at he ⊢
    generalize ev t x = v at he ⊢
    cases v <;> first | exact he | skip
    rename_i hd p
    cases hb : h' hd with
    | none => simp only [hb] at he; exact he.elim
    | some b => simp only [hb] at he; simp only [hle _ _ hb]; exact he
  case slA n e' x lo hi =>
    simp only [stepR] at he ⊢
    generalize ev t x = v at he ⊢
    cases v <;> first | exact he | skip
    rename_i hd p
    cases hb : h' hd with
    | none => simp only [hb] at he; exact he.elim
    | some b => simp only [hb] at he; simp only [hle _ _ hb]; exact he
  case b2s x =>
    simp only [stepR] at he ⊢
    obtain ⟨r, h1, h2⟩ := bind_to he
    exact to_bind (sliceC_mono hle h1) h2
  case cpy k x y =>
    simp only [stepR] at he ⊢
    obtain ⟨r, h1, h2⟩ := bind_to he
    refine to_bind (sliceC_mono hle h1) ?_
    obtain ⟨m, cy⟩ := r
    generalize ev t x = v at h2 ⊢
    cases v <;> first | exact h2 | skip
    rename_i hd p i n e' cap
    cases cy <;> first | exact h2 | skip
    cases hb : h' hd with
    | none => simp only [hb] at h2; exact h2.elim
    | some b => simp only [hb] at h2; simp only [hle _ _ hb]; exact h2
  case alloc z => exact fresh_mono hle (fun n hn => hfr n (by simp [mayMake, hn])) he (fun _ h => h)
  case box x => exact fresh_mono hle (fun n hn => hfr n (by simp [mayMake, hn])) he (fun _ h => h)
  case bslE n ps => exact fresh_mono hle (fun n hn => hfr n (by simp [mayMake, hn])) he (fun _ h => h)
  case allocE n => exact fresh_mono hle (fun n hn => hfr n (by simp [mayMake, hn])) he (fun _ h => h)
  case ldE re x =>
    simp only [stepR] at he ⊢
    generalize ev t x = v at he ⊢
    cases v <;> try exact he
    rename_i hd p
    cases p with
    | nil => exact he
    | cons q p =>
      cases q <;> try exact he
      cases p <;> try exact he
      rename_i j i1
      obtain ⟨h1, he⟩ := rif_to he
      refine to_rif hle h1 ?_
      cases hb : h' hd with
      | none => simp only [hb] at he; exact he.elim
      | some b =>
        simp only [hb] at he
        simp only [hle _ _ hb]
        obtain ⟨kk, c⟩ := b
        cases kk <;> try exact he
        cases c <;> try exact he
        refine ⟨he.1, ?_⟩
        have he := he.2
        cases re with
        | true => exact he
        | false =>
          cases d with
          | none => exact he
          | some d =>
            have := hfr (40000 + d) (by simp [mayMake])
            simp only [this] at he
            exact he
  case appE b x y =>
    refine fresh_mono hle (fun n hn => hfr n (by simp [mayMake, hn])) he (fun n he => ?_)
    revert he
    generalize ev t x = v
    generalize ev t y = u
    intro he
    cases v <;> try exact he
    rename_i hx p i n1 e1 cap
    cases p <;> try exact he
    cases cap <;> try exact he
    cases u <;> try exact he
    rename_i hy py i2 m e2 cap2
    cases py <;> try exact he
    obtain ⟨h1, he⟩ := rif_to he
    refine to_rif hle h1 ?_
    cases hb : h' hx with
    | none => simp only [hb] at he; exact he.elim
    | some b =>
      obtain ⟨kk, c⟩ := b
      cases hb2 : h' hy with
      | none =>
        simp only [hb, hb2] at he
        cases kk <;> first | exact he.elim | (cases c <;> exact he.elim)
      | some b2 =>
        simp only [hb, hb2] at he
        simp only [hle _ _ hb, hle _ _ hb2]
        exact he
  case stE x y =>
    simp only [stepR] at he ⊢
    generalize ev t x = v at he ⊢
    generalize ev t y = u at he ⊢
    cases v <;> try exact he
    rename_i hd p
    cases p with
    | nil => exact he
    | cons q p =>
      cases q <;> try exact he
      cases p <;> try exact he
      cases u <;> try exact he
      rename_i j i1 hy py i m e' cap
      cases py <;> try exact he
      obtain ⟨h1, he⟩ := rif_to he
      refine to_rif hle h1 ?_
      cases hb : h' hd with
      | none => simp only [hb] at he; exact he.elim
      | some b =>
        simp only [hb] at he
        simp only [hle _ _ hb]
        obtain ⟨kk, c⟩ := b
        cases kk <;> try exact he
        cases c <;> try exact he
        rename_i n es f o
        obtain ⟨g1, g2, g3, he⟩ := rif_to he
        refine to_rif hle g1 ⟨g2, g3, ?_⟩
        obtain ⟨o2, h2, h3⟩ := bind_to he
        refine to_bind (a := o2) ?_ h3
        cases o with
        | nil => exact h2
        | cons q o =>
          obtain ⟨j0, h0, m0⟩ := q
          simp only [putIn] at h2 ⊢
          cases hb0 : h' h0 with
          | none => simp only [hb0] at h2; exact h2.elim
          | some b0 => simp only [hb0] at h2; simp only [hle _ _ hb0]; exact h2
  case bsl k n ps =>
    cases n with
    | zero => exact he
    | succ n => exact fresh_mono hle (fun n hn => hfr n (by simp [mayMake, hn])) he (fun _ h => h)
  case mst x =>
    simp only [stepR] at he ⊢
    generalize ev t x = v at he ⊢
    cases v <;> first | exact he | skip
    rename_i hd p i n e' cap
    cases hb : h' hd with
    | none => simp only [hb] at he; exact he.elim
    | some b => simp only [hb] at he; simp only [hle _ _ hb]; exact he
  case s2b x =>
    simp only [stepR] at he ⊢
    generalize ev t x = v at he ⊢
    cases v <;> first | exact he | skip
    exact fresh_mono hle (fun n hn => hfr n (by simp [mayMake, hn])) he (fun _ h => h)
  case mks k b x => exact fresh_mono hle (fun n hn => hfr n (by simp [mayMake, hn])) he (fun _ h => h)
  case app0 k b x y =>
    refine fresh_mono hle (fun n hn => hfr n (by simp [mayMake, hn])) he (fun n hn => ?_)
    obtain ⟨r, h1, h2⟩ := bind_to hn
    exact to_bind (sliceC_mono hle h1) h2
  case app k b x y =>
    refine fresh_mono hle (fun n hn => hfr n (by simp [mayMake, hn])) he (fun n hn => ?_)
    obtain ⟨r, h1, h2⟩ := bind_to hn
    refine to_bind (sliceC_mono hle h1) ?_
    obtain ⟨m, cy⟩ := r
    generalize ev t x = v at h2 ⊢
    cases v <;> first | exact h2 | skip
    rename_i hd p i n' e' cap
    obtain ⟨r2, h3, h4⟩ := bind_to h2
    refine to_bind (sliceC_mono hle h3) ?_
    obtain ⟨c, h5, h6⟩ := bind_to h4
    refine to_bind h5 ⟨h6.1, ?_⟩
    obtain ⟨_, h7⟩ := h6
    cases cap with
    | some cp => exact h7
    | none =>
      cases p with
      | cons _ _ => exact h7.elim
      | nil =>
        cases hb : h' hd with
        | none => simp only [hb] at h7; exact h7.elim
        | some b => simp only [hb] at h7; simp only [hle _ _ hb]; exact h7
  case appz k b x y =>
    refine fresh_mono hle (fun n hn => hfr n (by simp [mayMake, hn])) he (fun n hn => ?_)
    obtain ⟨m, h1, h2⟩ := bind_to hn
    refine to_bind h1 ?_
    generalize ev t x = v at h2 ⊢
    cases v <;> first | exact h2 | skip
    rename_i hd p i n' e' cap
    obtain ⟨r2, h3, h4⟩ := bind_to h2
    refine to_bind (sliceC_mono hle h3) ?_
    obtain ⟨c, h5, h6⟩ := bind_to h4
    refine to_bind h5 ⟨h6.1, ?_⟩
    obtain ⟨_, h7⟩ := h6
    cases cap with
    | some cp => exact h7
    | none =>
      cases p with
      | cons _ _ => exact h7.elim
      | nil =>
        cases hb : h' hd with
        | none => simp only [hb] at h7; exact h7.elim
        | some b => simp only [hb] at h7; simp only [hle _ _ hb]; exact h7
  case appT x y =>
    simp only [stepR] at he ⊢
    generalize ev t y = u at he ⊢
    cases u <;> first | exact he | skip
    rename_i l
    refine fresh_mono hle (fun n hn => hfr n (by simp [mayMake, hn])) he (fun n h2 => ?_)
    generalize ev t x = v at h2 ⊢
    cases v <;> first | exact h2 | skip
    rename_i hd p i n' e' cap
    obtain ⟨r2, h3, h4⟩ := bind_to h2
    refine to_bind (sliceC_mono hle h3) ?_
    obtain ⟨c, h5, h6⟩ := bind_to h4
    refine to_bind h5 ⟨h6.1, ?_⟩
    obtain ⟨_, h7⟩ := h6
    cases cap with
    | some cp => exact h7
    | none =>
      cases p with
      | cons _ _ => exact h7.elim
      | nil =>
        cases hb : h' hd with
        | none => simp only [hb] at h7; exact h7.elim
        | some b => simp only [hb] at h7; simp only [hle _ _ hb]; exact h7
  case call f pu l =>
    simp only [stepR, callR] at he ⊢
    cases hc : look E f with
    | none => rw [hc] at he; exact he.elim
    | some c =>
      simp only [hc] at he ⊢
      obtain ⟨r, h1, he⟩ := bind_to he
      obtain ⟨h2, he⟩ := rif_to he
      obtain ⟨out, h3, he⟩ := bind_to he
      obtain ⟨h4, he⟩ := rif_to he
      refine to_bind (resolveL_mono hle h1) (to_rif hle h2 (to_bind h3 (to_rif hle h4 ?_)))
      cases d with
      | none => exact he
      | some d =>
        obtain ⟨h5, he⟩ := rif_to he
        refine to_rif hle ?_ he
        simp only [Bool.and_eq_true] at h5 ⊢
        exact ⟨⟨allFresh_mono hle (fun p hp hlt => hfr _ (by simp only [mayMake]; exact newsL_in hle p hp hlt)) h5.1.1, h5.1.2⟩, h5.2⟩
  all_goals exact he
end
end Go.Cx
/- CxDraw3 -/
namespace Go.Cx
open Go
/-- it holds of whatever comes out -/
def R.lf {α : Type} : R α → (α → Prop) → Prop
  | .fail _, _ => True
  | .ok a, K => K a
  | .chk _ r, K => r.lf K
  | .br _ x y, K => x.lf K ∧ y.lf K
  | .nam _ k, K => ∀ y, (k y).lf K
theorem lf_to {α : Type} {r : R α} {K : α → Prop} {a : α} (h : r.lf K) (ha : r.to a) : K a := by
  induction r with
  | fail => exact ha.elim
  | ok b => cases ha; exact h
  | chk p r ih => exact ih h ha.2
  | br b x y ihx ihy =>
    rcases ha with ⟨_, ha⟩ | ⟨_, ha⟩
    · exact ihx h.1 ha
    · exact ihy h.2 ha
  | nam x k ih => exact ih x (h x) ha
theorem lf_bind {α β : Type} {r : R α} {f : α → R β} {K : β → Prop} (h : ∀ a, (f a).lf K) : (r.bind f).lf K := by
  induction r with
  | fail => trivial
  | ok b => exact h b
  | chk p r ih => exact ih
  | br b x y ihx ihy => exact ⟨ihx, ihy⟩
  | nam x k ih => exact fun y => ih y
theorem lf_rif {α : Type} {b : Bool} {n : Nat} {r : R α} {K : α → Prop} (h : r.lf K) : (rif b n r).lf K := by
  unfold rif
  split
  · exact h
  · trivial
theorem lf_chk {α : Type} {p : Prop} {r : R α} {K : α → Prop} (h : r.lf K) : (R.chk p r).lf K := h
theorem lf_ok {α : Type} {a : α} {K : α → Prop} (h : K a) : (R.ok a).lf K := h
theorem lf_fail {α : Type} {n : Nat} {K : α → Prop} : (R.fail n : R α).lf K := trivial
theorem lf_br {α : Type} {b : Bool} {x y : R α} {K : α → Prop} (h1 : x.lf K) (h2 : y.lf K) : (R.br b x y).lf K := ⟨h1, h2⟩
theorem lf_fresh {h : Nat → Option Blk} {d : Option Nat} {k : Nat → R Eff} {K : Eff → Prop} (hk : ∀ n, d = some n → (k n).lf K) : (fresh h d k).lf K := by
  unfold fresh
  split
  · split
    · exact hk _ rfl
    · trivial
  · trivial
theorem stepR_p {E : List (Nat × Ctr)} {t : Nat → V} {h : Nat → Option Blk} {d : Option Nat} {o : IOp} (hc : cls o = .p) : (stepR apf E t h d o).lf (fun e => e.hs = []) := by
  cases o <;>
    first
      | (exfalso; revert hc; simp only [cls]; first | decide | (split <;> decide))
      | (simp only [stepR]; repeat' first | exact lf_ok rfl | exact lf_fail | (refine lf_br ?_ ?_) | split | (with_reducible apply lf_rif) | (with_reducible apply lf_chk) | (with_reducible refine lf_bind fun _ => ?_))
theorem resolve_pure {h : Nat → Option Blk} {k : AK} {v : V} {r : Arg × Option Nat} (hr : (resolve apf h true k v).to r) : r.2 = none := by
  unfold resolve at hr
  split at hr
  · obtain ⟨⟨n, c⟩, _, hr⟩ := bind_to hr
    cases hr
    rfl
  · split at hr
    · split at hr
      · obtain ⟨h1, hr⟩ := rif_to hr
        simp at h1
      · exact hr.elim
    · exact hr.elim
  · split at hr
    · split at hr
      · obtain ⟨_, hr⟩ := rif_to hr
        cases hr
        rfl
      · obtain ⟨_, hr⟩ := rif_to hr
        cases hr
        rfl
      · exact hr.elim
    · obtain ⟨_, hr⟩ := rif_to hr
      cases hr
      rfl
theorem stepR_n {E : List (Nat × Ctr)} {t : Nat → V} {h : Nat → Option Blk} {d : Option Nat} {g : Option (Nat × Bool)} {o : IOp} (hc : cls o = .n) {e : Eff} (he : (stepR apf E t h d o).to e) : ∀ k ∈ e.hs.map (·.1), k ∈ mayMake ⟨d, g, o⟩ := by
  have nil : (stepR apf E t h d o).lf (fun e => e.hs = []) → ∀ k ∈ e.hs.map (·.1), k ∈ mayMake ⟨d, g, o⟩ := fun hl k hk => by
    rw [lf_to hl he] at hk
    simp at hk
  have one : (stepR apf E t h d o).lf (fun e => ∀ k ∈ e.hs.map (·.1), d = some k) → (∀ n, d = some n → n ∈ mayMake ⟨d, g, o⟩) → ∀ k ∈ e.hs.map (·.1), k ∈ mayMake ⟨d, g, o⟩ := fun hl hm k hk => hm k (lf_to hl he k hk)
  cases o <;> try (exfalso; revert hc; simp only [cls]; decide)
  case ld s agg x =>
    apply nil
    simp only [stepR]
    repeat' first | exact lf_ok rfl | exact lf_fail | (refine lf_br ?_ ?_) | split | (with_reducible apply lf_rif) | (with_reducible apply lf_chk) | (with_reducible refine lf_bind fun _ => ?_)
  case mksF k b x =>
    apply nil
    simp only [stepR]
    repeat' first | exact lf_ok rfl | exact lf_fail | (refine lf_br ?_ ?_) | split | (with_reducible apply lf_rif) | (with_reducible apply lf_chk) | (with_reducible refine lf_bind fun _ => ?_)
  case b2s x =>
    apply nil
    simp only [stepR]
    repeat' first | exact lf_ok rfl | exact lf_fail | (refine lf_br ?_ ?_) | split | (with_reducible apply lf_rif) | (with_reducible apply lf_chk) | (with_reducible refine lf_bind fun _ => ?_)
  case slA n e x lo hi =>
    apply nil
    simp only [stepR]
    repeat' first | exact lf_ok rfl | exact lf_fail | (refine lf_br ?_ ?_) | split | (with_reducible apply lf_rif) | (with_reducible apply lf_chk) | (with_reducible refine lf_bind fun _ => ?_)
  case call f pu l =>
    have hp : pu = true := by
      cases pu
      · exact absurd hc (by simp [cls])
      · rfl
    subst hp
    simp only [stepR, callR] at he
    cases hq : look E f with
    | none => rw [hq] at he; exact he.elim
    | some c =>
      simp only [hq] at he
      obtain ⟨r, h1, he⟩ := bind_to he
      obtain ⟨_, he⟩ := rif_to he
      obtain ⟨out, _, he⟩ := bind_to he
      obtain ⟨_, he⟩ := rif_to he
      have hnil : r.2 = [] := by
        have key : ∀ (xs : List (V × AK)) (r : List Arg × List Nat), (resolveL apf h true xs).to r → r.2 = [] := by
          intro xs
          induction xs with
          | nil => intro r hr; cases hr; rfl
          | cons x xs ih =>
            intro r hr
            simp only [resolveL] at hr
            obtain ⟨a, g1, hr⟩ := bind_to hr
            obtain ⟨b, g2, hr⟩ := bind_to hr
            cases hr
            have hb := ih _ g2
            have ha : a.2 = none := resolve_pure g1
            rw [ha, hb]
        exact key _ _ h1
      have hob : objsL r.2 out.objs = [] := by rw [hnil]; cases out.objs <;> rfl
      cases d with
      | none =>
        cases he
        intro k hk
        rw [hob] at hk
        simp at hk
      | some d =>
        obtain ⟨h5, he⟩ := rif_to he
        cases he
        intro k hk
        rw [hob, List.nil_append] at hk
        simp only [Bool.and_eq_true] at h5
        obtain ⟨p, hp, rfl⟩ := List.mem_map.1 hk
        exact newsL_in (h := h) (h' := h) (fun _ _ h => h) p hp (allFresh_spec h5.1.1 p hp).2.1
  case ldE re x =>
    cases re with
    | false => exact absurd hc (by simp [cls])
    | true =>
      apply nil
      simp only [stepR]
      repeat' first | exact lf_ok rfl | exact lf_fail | (refine lf_br ?_ ?_) | split | (with_reducible apply lf_rif) | (with_reducible apply lf_chk) | (with_reducible refine lf_bind fun _ => ?_)
  case bsl k n ps =>
    refine one ?_ (fun n hn => by simp [mayMake, hn])
    cases n with
    | zero =>
      intro k hk
      simp [noEff] at hk
    | succ n =>
      simp only [stepR]
      refine lf_fresh fun m hm => ?_
      refine lf_bind fun c => lf_ok fun k hk => ?_
      simp only [List.map_cons, List.map_nil, List.mem_singleton] at hk
      rw [hm, hk]
  all_goals
    refine one ?_ (fun n hn => by simp [mayMake, hn])
    simp only [stepR]
    repeat' first | exact lf_fail | (refine lf_ok fun k hk => ?_; simp only [List.map_cons, List.map_nil, List.mem_singleton] at hk; rw [hm, hk]) | split | (with_reducible refine lf_fresh fun m hm => ?_) | (with_reducible apply lf_rif) | (with_reducible apply lf_chk) | (with_reducible refine lf_bind fun _ => ?_)
end Go.Cx
/- CxDraw4 -/
namespace Go.Cx
open Go
theorem all_mono_to {α : Type} {r : R α} {K K' : α → Prop} (h : ∀ a, r.to a → K a → K' a) (hr : r.all K) : r.all K' := by
  induction r with
  | fail => exact hr
  | ok a => exact h a rfl hr
  | chk p r ih => exact ⟨hr.1, ih (fun a ha => h a ⟨hr.1, ha⟩) hr.2⟩
  | br b x y ihx ihy => exact ⟨fun hb => ihx (fun a ha => h a (.inl ⟨hb, ha⟩)) (hr.1 hb), fun hb => ihy (fun a ha => h a (.inr ⟨hb, ha⟩)) (hr.2 hb)⟩
  | nam x k ih => exact fun y e => by subst e; exact ih _ (fun a ha => h a ha) (hr _ rfl)
theorem all_and {α : Type} {r : R α} {K : α → Prop} {p : Prop} (hp : p) (hr : r.all K) : r.all fun a => p ∧ K a := all_mono_to (fun _ _ h => ⟨hp, h⟩) hr
theorem all_comm {α β : Type} {r1 : R α} {r2 : R β} {K : α → β → Prop} (h : r1.all fun a => r2.all fun b => K a b) : r2.all fun b => r1.all fun a => K a b := by
  induction r1 with
  | fail => exact h.elim
  | ok a => exact h
  | chk p r ih => exact all_and h.1 (ih h.2)
  | br b x y ihx ihy =>
    cases b with
    | true => exact all_mono_to (fun _ _ h => ⟨fun _ => h, fun e => by cases e⟩) (ihx (h.1 rfl))
    | false => exact all_mono_to (fun _ _ h => ⟨fun e => by (cases e), fun _ => h⟩) (ihy (h.2 rfl))
  | nam x k ih => exact all_mono_to (fun _ _ h y e => by subst e; exact h) (ih x (h x rfl))
theorem all_bind {α β : Type} {r : R α} {f : α → R β} {K : β → Prop} : (r.bind f).all K ↔ r.all fun a => (f a).all K := by
  induction r with
  | fail => exact Iff.rfl
  | ok a => exact Iff.rfl
  | chk p r ih => exact and_congr Iff.rfl ih
  | br b x y ihx ihy => exact and_congr (imp_congr Iff.rfl ihx) (imp_congr Iff.rfl ihy)
  | nam x k ih => exact forall_congr' fun y => imp_congr Iff.rfl (ih y)
/-- what an operation of an open region does -/
def effR (ap : AP) (E : List (Nat × Ctr)) (o : IOper) (m : Msk) (s : St) : R Eff :=
  match o.g with
  | none => stepW ap E m.w s.t (maskH m.m s.h) o.d o.o
  | some (g, want) => match s.t g with
    | .tt => if want then stepW ap E m.w s.t (maskH m.m s.h) o.d o.o else .ok ⟨.tnil, []⟩
    | .ff => if want then .ok ⟨.tnil, []⟩ else stepW ap E m.w s.t (maskH m.m s.h) o.d o.o
    | .bool b => .br b
        (if want then stepW ap E m.w s.t (maskH m.m s.h) o.d o.o else .ok ⟨.tnil, []⟩)
        (if want then .ok ⟨.tnil, []⟩ else stepW ap E m.w s.t (maskH m.m s.h) o.d o.o)
    | .tnil => .ok ⟨.tnil, []⟩
    | _ => .fail 90
theorem dopR_eff (E : List (Nat × Ctr)) (o : IOper) (m : Msk) (s : St) : dopR apf E o m s = (effR apf E o m s).bind fun e => .ok (e.on o.d s) := by
  unfold dopR effR
  cases o.g with
  | none => rfl
  | some p =>
    obtain ⟨g, want⟩ := p
    simp only
    cases s.t g <;> cases want <;> rfl
theorem stepW_to {E : List (Nat × Ctr)} {w : Option (List Nat)} {t : Nat → V} {h : Nat → Option Blk} {d : Option Nat} {o : IOp} {e : Eff} (he : (stepW apf E w t h d o).to e) :
    (stepR apf E t h d o).to e ∧ ∀ l, w = some l → ∀ k ∈ e.hs.map (·.1), k ∈ l := by
  cases w with
  | none => exact ⟨he, fun l e => by cases e⟩
  | some l =>
    obtain ⟨e', h1, h2⟩ := bind_to (show ((stepR apf E t h d o).bind fun e => rif (e.hs.all fun p => l.contains p.1) 150 (.ok e)).to e from he)
    obtain ⟨h3, h4⟩ := rif_to h2
    cases h4
    refine ⟨h1, fun l' e1 k hk => ?_⟩
    cases e1
    obtain ⟨p, hp, rfl⟩ := List.mem_map.1 hk
    have := List.all_eq_true.1 h3 p hp
    simpa using this
theorem effR_indep {E : List (Nat × Ctr)} {o : IOper} {m : Msk} {s s' : St} (ht : ∀ n ∈ o.tmps, s.t n = s'.t n) (hh : cls o.o = .p ∨ maskH m.m s.h = maskH m.m s'.h) : effR apf E o m s = effR apf E o m s' := by
  have h0 : stepR apf E s.t (maskH m.m s.h) o.d o.o = stepR apf E s'.t (maskH m.m s'.h) o.d o.o := by
    rw [stepR_tmps apf E (t' := s'.t) (maskH m.m s.h) o.d o.o (fun n hn => ht n (by simp [IOper.tmps, hn]))]
    rcases hh with hh | hh
    · exact stepR_plain _ _ _ _ _ _ _ hh
    · rw [hh]
  have h1 : stepW apf E m.w s.t (maskH m.m s.h) o.d o.o = stepW apf E m.w s'.t (maskH m.m s'.h) o.d o.o := by
    unfold stepW
    rw [h0]
  unfold effR
  cases hg : o.g with
  | none => exact h1
  | some p =>
    obtain ⟨g, want⟩ := p
    have h2 : s.t g = s'.t g := ht g (by simp [IOper.tmps, hg])
    simp only [h1, h2]
theorem effR_keys {E : List (Nat × Ctr)} {o : IOper} {m : Msk} {s : St} {e : Eff} (he : (effR apf E o m s).to e) :
    (cls o.o = .p → e.hs = []) ∧ (cls o.o = .n → ∀ k ∈ e.hs.map (·.1), k ∈ mayMake o) ∧ ∀ l, m.w = some l → ∀ k ∈ e.hs.map (·.1), k ∈ l := by
  have go : (stepW apf E m.w s.t (maskH m.m s.h) o.d o.o).to e → (cls o.o = .p → e.hs = []) ∧ (cls o.o = .n → ∀ k ∈ e.hs.map (·.1), k ∈ mayMake o) ∧ ∀ l, m.w = some l → ∀ k ∈ e.hs.map (·.1), k ∈ l := fun hw => by
    obtain ⟨h, h'⟩ := stepW_to hw
    exact ⟨fun hc => lf_to (K := fun e : Eff => e.hs = []) (stepR_p hc) h, fun hc => stepR_n (g := o.g) hc h, h'⟩
  have nil : (R.ok (⟨.tnil, []⟩ : Eff)).to e → (cls o.o = .p → e.hs = []) ∧ (cls o.o = .n → ∀ k ∈ e.hs.map (·.1), k ∈ mayMake o) ∧ ∀ l, m.w = some l → ∀ k ∈ e.hs.map (·.1), k ∈ l := fun h => by
    cases h; exact ⟨fun _ => rfl, fun _ k hk => by simp at hk, fun _ _ k hk => by simp at hk⟩
  unfold effR at he
  split at he
  · exact go he
  · split at he
    · split at he
      · exact go he
      · exact nil he
    · split at he
      · exact nil he
      · exact go he
    · rename_i want _ b _
      rcases he with ⟨_, he⟩ | ⟨_, he⟩
      · split at he
        · exact go he
        · exact nil he
      · split at he
        · exact nil he
        · exact go he
    · exact nil he
    · exact he.elim
theorem putHs_upd {i : Nat} {b : Blk} : ∀ {l : List (Nat × Blk)} {h : Nat → Option Blk}, i ∉ l.map (·.1) → putHs (upd h i (some b)) l = upd (putHs h l) i (some b) := by
  intro l
  induction l with
  | nil => intro h _; rfl
  | cons p l ih =>
    intro h hi
    simp only [List.map_cons, List.mem_cons, not_or] at hi
    show putHs (upd (upd h i (some b)) p.1 (some p.2)) l = _
    have : upd (upd h i (some b)) p.1 (some p.2) = upd (upd h p.1 (some p.2)) i (some b) := by
      funext j
      simp only [upd]
      by_cases h1 : j = p.1
      · rw [if_pos h1, if_neg (fun e => hi.1 (e.symm.trans h1)), if_pos h1]
      · rw [if_neg h1]
        by_cases h2 : j = i
        · rw [if_pos h2, if_pos h2]
        · rw [if_neg h2, if_neg h2, if_neg h1]
    rw [this, ih hi.2]
    rfl
theorem putHs_comm : ∀ {l m : List (Nat × Blk)} {h : Nat → Option Blk}, (∀ k ∈ l.map (·.1), k ∉ m.map (·.1)) → putHs (putHs h l) m = putHs (putHs h m) l := by
  intro l
  induction l with
  | nil => intro m h _; rfl
  | cons p l ih =>
    intro m h hd
    have h1 : putHs (upd h p.1 (some p.2)) m = upd (putHs h m) p.1 (some p.2) := putHs_upd (hd p.1 (by simp))
    show putHs (putHs (upd h p.1 (some p.2)) l) m = putHs (upd (putHs h m) p.1 (some p.2)) l
    rw [ih (fun k hk => hd k (by simp only [List.map_cons, List.mem_cons]; exact .inr hk)), h1]
theorem maskH_putHs {m : List Nat} {l : List (Nat × Blk)} {h : Nat → Option Blk} (hl : ∀ k ∈ l.map (·.1), k ∈ m) : maskH m (putHs h l) = maskH m h := by
  funext j
  simp only [maskH]
  by_cases hj : m.contains j = true
  · rw [if_pos hj, if_pos hj]
  · rw [if_neg hj, if_neg hj, putHs_not (fun hk => hj (by simpa using hl j hk))]
structure Apart (x y : IOper) (mx my : Msk) : Prop where
  xd : ∀ d, x.d = some d → d ∉ y.tmps ∧ y.d ≠ some d
  yd : ∀ d, y.d = some d → d ∉ x.tmps
  cl : cls x.o = .p ∨ cls y.o = .p ∨ (cls x.o = .n ∧ cls y.o = .n) ∨ (cls x.o = .n ∧ ∃ l, my.w = some l ∧ ∀ j ∈ l, j ∈ mx.m) ∨ (cls y.o = .n ∧ ∃ l, mx.w = some l ∧ ∀ j ∈ l, j ∈ my.m)
  dj : ∀ j ∈ mayMake x, j ∉ mayMake y
  ox : ∀ j ∈ mayMake x, j ∉ mx.m
  oy : ∀ j ∈ mayMake y, j ∉ my.m
structure ApartS (x y : IOper) : Prop where
  xd : ∀ d, x.d = some d → d ∉ y.tmps ∧ y.d ≠ some d
  yd : ∀ d, y.d = some d → d ∉ x.tmps
  cl : cls x.o = .p ∨ cls y.o = .p ∨ cls x.o = .n ∨ cls y.o = .n
  dj : ∀ j ∈ mayMake x, j ∉ mayMake y
theorem apartO_spec {x y : IOper} (h : apartO x y = true) : ApartS x y := by
  simp only [apartO, Bool.and_eq_true, Bool.or_eq_true, beq_iff_eq, List.all_eq_true, Bool.not_eq_true', List.contains_eq_mem, decide_eq_false_iff_not] at h
  obtain ⟨⟨⟨h1, h2⟩, h3⟩, h4⟩ := h
  refine ⟨fun d hd => ?_, fun d hd => ?_, ?_, h4⟩
  · simp only [hd, Bool.and_eq_true, Bool.not_eq_true', decide_eq_false_iff_not, bne_iff_ne] at h1
    exact h1
  · simpa [hd] using h2
  · rcases h3 with ((h3 | h3) | h3) | h3
    · exact .inl h3
    · exact .inr (.inl h3)
    · exact .inr (.inr (.inl h3))
    · exact .inr (.inr (.inr h3))
theorem putT_ne {t : Nat → V} {d : Option Nat} {v : V} {n : Nat} (h : ∀ k, d = some k → k ≠ n) : putT t d v n = t n := by
  cases d with
  | none => rfl
  | some k => exact upd_ne _ _ (fun e => h k rfl e.symm)
theorem putT_comm {t : Nat → V} {d d' : Option Nat} {v v' : V} (h : ∀ k, d = some k → d' ≠ some k) : putT (putT t d v) d' v' = putT (putT t d' v') d v := by
  cases d with
  | none => cases d' <;> rfl
  | some k =>
    cases d' with
    | none => rfl
    | some k' =>
      have hk : k' ≠ k := fun e => h k rfl (by rw [e])
      funext j
      simp only [putT, upd]
      by_cases h1 : j = k'
      · rw [if_pos h1, if_neg (fun e => hk (h1.symm.trans e)), if_pos h1]
      · rw [if_neg h1]
        by_cases h2 : j = k
        · rw [if_pos h2, if_pos h2]
        · rw [if_neg h2, if_neg h2, if_neg h1]
theorem dop_swap {E : List (Nat × Ctr)} {x y : IOper} {mx my : Msk} {s : St} {K : St → Prop} (ha : Apart x y mx my) (hx : ∀ j ∈ mayMake x, j ∈ my.m) (hy : ∀ j ∈ mayMake y, j ∈ mx.m)
    (h : (dopR apf E x mx s).all fun s1 => (dopR apf E y my s1).all K) : (dopR apf E y my s).all fun s1 => (dopR apf E x mx s1).all K := by
  have iy : ∀ e, (effR apf E x mx s).to e → effR apf E y my (e.on x.d s) = effR apf E y my s := fun e he => by
    obtain ⟨k1, k2, k3⟩ := effR_keys he
    refine effR_indep (fun n hn => ?_) ?_
    · exact putT_ne (fun k hk e => (ha.xd k hk).1 (e ▸ hn))
    · rcases ha.cl with c | c | ⟨c, _⟩ | ⟨c, _⟩ | ⟨_, l, c, c2⟩
      · right
        show maskH my.m (putHs s.h e.hs) = _
        rw [k1 c]; rfl
      · exact .inl c
      · exact .inr (maskH_putHs fun k hk => hx k (k2 c k hk))
      · exact .inr (maskH_putHs fun k hk => hx k (k2 c k hk))
      · exact .inr (maskH_putHs fun k hk => c2 k (k3 l c k hk))
  have ix : ∀ e, (effR apf E y my s).to e → effR apf E x mx (e.on y.d s) = effR apf E x mx s := fun e he => by
    obtain ⟨k1, k2, k3⟩ := effR_keys he
    refine effR_indep (fun n hn => ?_) ?_
    · exact putT_ne (fun k hk e => ha.yd k hk (e ▸ hn))
    · rcases ha.cl with c | c | ⟨_, c⟩ | ⟨_, l, c, c2⟩ | ⟨c, _⟩
      · exact .inl c
      · right
        show maskH mx.m (putHs s.h e.hs) = _
        rw [k1 c]; rfl
      · exact .inr (maskH_putHs fun k hk => hy k (k2 c k hk))
      · exact .inr (maskH_putHs fun k hk => c2 k (k3 l c k hk))
      · exact .inr (maskH_putHs fun k hk => hy k (k2 c k hk))
  have comm : ∀ e1 e2, (effR apf E x mx s).to e1 → (effR apf E y my s).to e2 → e2.on y.d (e1.on x.d s) = e1.on x.d (e2.on y.d s) := fun e1 e2 h1 h2 => by
    obtain ⟨k1, k2, k5⟩ := effR_keys h1
    obtain ⟨k3, k4, k6⟩ := effR_keys h2
    have g1 : putT (putT s.t x.d e1.v) y.d e2.v = putT (putT s.t y.d e2.v) x.d e1.v := putT_comm fun k hk => (ha.xd k hk).2
    have g2 : putHs (putHs s.h e1.hs) e2.hs = putHs (putHs s.h e2.hs) e1.hs := by
      rcases ha.cl with c | c | ⟨c, c'⟩ | ⟨c, l, c', c2⟩ | ⟨c, l, c', c2⟩
      · rw [k1 c]; rfl
      · rw [k3 c]; rfl
      · exact putHs_comm fun k hk hk' => ha.dj k (k2 c k hk) (k4 c' k hk')
      · exact putHs_comm fun k hk hk' => ha.ox k (k2 c k hk) (c2 k (k6 l c' k hk'))
      · exact putHs_comm fun k hk hk' => ha.oy k (k4 c k hk') (c2 k (k5 l c' k hk))
    simp only [Eff.on, g1, g2]
  rw [dopR_eff, all_bind] at h ⊢
  have h' : (effR apf E x mx s).all fun e1 => (effR apf E y my s).all fun e2 => K (e2.on y.d (e1.on x.d s)) := all_mono_to (fun e1 he1 hk => by
    have hk : (dopR apf E y my (e1.on x.d s)).all K := hk
    rw [dopR_eff, all_bind, iy e1 he1] at hk
    exact hk) h
  have h2 := all_comm h'
  refine all_mono_to (fun e2 he2 hk => ?_) h2
  show (dopR apf E x mx (e2.on y.d s)).all K
  rw [dopR_eff, all_bind, ix e2 he2]
  refine all_mono_to (fun e1 he1 hk => ?_) hk
  show K (e1.on x.d (e2.on y.d s))
  rw [← comm e1 e2 he1 he2]
  exact hk
def SwapOk (p q : IOper × Msk) : Prop := Apart p.1 q.1 p.2 q.2 ∧ (∀ j ∈ mayMake p.1, j ∈ q.2.m) ∧ ∀ j ∈ mayMake q.1, j ∈ p.2.m
theorem move_front {E : List (Nat × Ctr)} {x : IOper × Msk} {post : List (IOper × Msk)} {K : St → Prop} : ∀ (pre : List (IOper × Msk)) {s : St}, (∀ y ∈ pre, SwapOk y x) → runDops apf E (pre ++ x :: post) s K →
    runDops apf E (x :: (pre ++ post)) s K := by
  intro pre
  induction pre with
  | nil => intro s _ h; exact h
  | cons y pre ih =>
    intro s hs h
    have h1 : (dopR apf E y.1 y.2 s).all fun s1 => (dopR apf E x.1 x.2 s1).all fun s2 => runDops apf E (pre ++ post) s2 K := all_mono_to (fun s1 _ hk => ih (fun z hz => hs z (by simp [hz])) hk) h
    obtain ⟨g1, g2, g3⟩ := hs y (by simp)
    exact dop_swap g1 g2 g3 h1
end Go.Cx
/- CxDraw5 -/
namespace Go.Cx
open Go
section
variable {P : Program} {G : List (Nat × V)} {pure : Nat → Bool} {X : Fix} {E : List (Nat × Ctr)} {ops : Array Oper}
theorem dop_run {s : St} {a : Act} {w : World} {o : Oper} {m : Msk} (hG : GOk G X) (hE : EnvSound P G pure E) (hok : OpOk X ops o) (hm : ∀ j ∈ mayMake (compOper P pure ops o), j ∉ m.m) (hRA : RA X s a w) {K : St → Prop}
    (h : (dopR apf E (compOper P pure ops o) m s).all K) {next : Act → World → Prop} {Q : Exit → Act → World → Prop} (hn : ∀ s' a' w', K s' → RA X s' a' w' → next a' w') :
    if Region.wanted o (yielded ops a.tmps) then o.wp P a w next Q else next (a.put o.dst undef) w := by
  have hle : ∀ j b, maskH m.m s.h j = some b → s.h j = some b := fun j b hj => by
    simp only [maskH] at hj
    split at hj
    · cases hj
    · exact hj
  have go : ∀ {K : St → Prop}, ((stepW apf E m.w s.t (maskH m.m s.h) o.dst (compOper P pure ops o).o).bind fun e => .ok (e.on o.dst s)).all K → (∀ s' a' w', K s' → RA X s' a' w' → next a' w') → o.wp P a w next Q := fun {K} h hn => by
    obtain ⟨s', h1, h2⟩ := all_to h
    obtain ⟨e, h3, h4⟩ := bind_to h1
    cases h4
    have h5 := stepR_mono hle (g := (compOper P pure ops o).g) (fun j hj => by
      have := hm j hj
      simp only [maskH]
      rw [if_neg (by simpa using this)]) (stepW_to h3).1
    exact step_go hG hE hok hRA h5 (fun a' w' hh => hn _ _ _ h2 hh)
  have sk : K ⟨putT s.t o.dst .tnil, s.h⟩ → next (a.put o.dst undef) w := fun h => hn _ _ _ h (hRA.skip hok.d)
  rcases comp_guard (P := P) (pure := pure) (ops := ops) (o := o) with ⟨h1, h2⟩ | ⟨j, want, g, h1, h2⟩
  · have hw : Region.wanted o (yielded ops a.tmps) = true := by simp [Region.wanted, h2]
    rw [if_pos hw]
    simp only [dopR, h1] at h
    exact go h hn
  · simp only [dopR, h2] at h
    obtain ⟨⟨I, ρ, ow, hr⟩, hdf⟩ := hRA
    have hv := hr.tmps g
    split at h
    · rename_i e1
      rw [e1] at hv
      rw [guard_says h1 hok.g h2 (vr_tt hv)]
      cases want
      · exact sk h
      · exact go h hn
    · rename_i e1
      rw [e1] at hv
      rw [guard_says h1 hok.g h2 (vr_ff hv)]
      cases want
      · exact go h hn
      · exact sk h
    · rename_i b e1
      rw [e1] at hv
      have hb := vr_bool hv
      rw [guard_says h1 hok.g h2 hb]
      obtain ⟨ht, hf⟩ := h
      cases b with
      | true =>
        have ht := ht rfl
        cases want
        · exact sk ht
        · exact go ht hn
      | false =>
        have hf := hf rfl
        cases want
        · exact go hf hn
        · exact sk hf
    · rename_i e1
      rw [e1] at hv
      rw [guard_mute h1 hok.g h2 hv]
      exact sk h
    · exact h.elim
/-- what a region must be for its order not to matter -/
structure DrawOk (P : Program) (pure : Nat → Bool) (ops : Array Oper) (b : Array Nat) (mk : Nat → Msk) : Prop where
  low : ∀ (i : Nat) (o : Oper), ops[i]? = some o → ∀ e ∈ o.after, Region.binds .any e = true → e.on < i
  up : ∀ (i q : Nat) (o : Oper), ops[i]? = some o → q < ops.size → bef b q i = true → q < i ∧ ∃ e ∈ o.after, Region.binds .any e = true ∧ (q = e.on ∨ bef b q e.on = true)
  own : ∀ (i : Nat) (o : Oper), ops[i]? = some o → ∀ j ∈ mayMake (compOper P pure ops o), j ∉ (mk i).m
  swap : ∀ (q i : Nat) (oq oi : Oper), q < i → ops[q]? = some oq → ops[i]? = some oi → bef b q i = false → SwapOk (compOper P pure ops oq, mk q) (compOper P pure ops oi, mk i)
theorem getD_same {l : Array Bool} {i : Nat} (h : i < l.size) : l.getD i false = l.getD i true := by
  simp [Array.getD_eq_getD_getElem?, h]
theorem getD_setB {l : Array Bool} {i j : Nat} (h : i < l.size) : (l.setIfInBounds i true).getD j true = if j = i then true else l.getD j true := by
  by_cases e : j = i
  · subst e; simp [Array.getD_eq_getD_getElem?, h]
  · rw [if_neg e]; simp [Array.getD_eq_getD_getElem?, Array.getElem?_setIfInBounds_ne (Ne.symm e)]
theorem ready_mem {listed : Array Bool} {i : Nat} (_hs : listed.size = ops.size) (h : i ∈ Region.ready .any ops listed) : listed.getD i true = false ∧ ∃ o, ops[i]? = some o ∧ ∀ e ∈ o.after, Region.binds .any e = true → listed.getD e.on false = true := by
  simp only [Region.ready, List.mem_filter, List.mem_range, Bool.and_eq_true, Bool.not_eq_true'] at h
  obtain ⟨h1, h2, h3⟩ := h
  refine ⟨h2, ?_⟩
  obtain ⟨o, ho⟩ : ∃ o, ops[i]? = some o := ⟨_, Array.getElem?_eq_getElem h1⟩
  rw [ho] at h3
  simp only [Option.map_some, Option.getD_some, Array.all_eq_true', Bool.or_eq_true, Bool.not_eq_true'] at h3
  refine ⟨o, ho, fun e he hb => ?_⟩
  rcases h3 e he with h4 | h4
  · rw [hb] at h4; cases h4
  · exact h4
theorem draw_any {b : Array Nat} {mk : Nat → Msk} (hD : DrawOk P pure ops b mk) (hG : GOk G X) (hE : EnvSound P G pure E) (hok : ∀ o ∈ ops.toList, OpOk X ops o) {Q : Exit → Act → World → Prop} {K : St → Prop}
    (hK : ∀ s' a' w', K s' → RA X s' a' w' → Q .normal a' w') :
    ∀ (fuel : Nat) (rest : List (Nat × Oper)) (listed : Array Bool) {s : St} {a : Act} {w : World}, listed.size = ops.size → rest.length ≤ fuel → (∀ p ∈ rest, ops[p.1]? = some p.2) → rest.Pairwise (fun p q => p.1 < q.1) →
      (∀ (i : Nat), i < ops.size → (listed.getD i true = false ↔ i ∈ rest.map (·.1))) → (∀ (i : Nat) (o : Oper), ops[i]? = some o → listed.getD i true = true → ∀ q, q < ops.size → bef b q i = true → listed.getD q true = true) →
      RA X s a w → runDops apf E (rest.map fun p => (compOper P pure ops p.2, mk p.1)) s K → wpAny P .any ops Q fuel listed a w := by
  have lt_of : ∀ {i : Nat} {o : Oper}, ops[i]? = some o → i < ops.size := fun h => (Array.getElem?_eq_some_iff.1 h).1
  have rdy : ∀ (rest : List (Nat × Oper)) (listed : Array Bool), listed.size = ops.size → (∀ p ∈ rest, ops[p.1]? = some p.2) → rest.Pairwise (fun p q => p.1 < q.1) →
      (∀ (i : Nat), i < ops.size → (listed.getD i true = false ↔ i ∈ rest.map (·.1))) → Region.ready .any ops listed = [] → rest = [] := by
    intro rest listed hs hop hpw hls hr
    cases rest with
    | nil => rfl
    | cons p rest =>
      exfalso
      have hp := hop p (by simp)
      have hlt := lt_of hp
      have : p.1 ∈ Region.ready .any ops listed := by
        simp only [Region.ready, List.mem_filter, List.mem_range]
        refine ⟨hlt, ?_⟩
        rw [(hls p.1 hlt).2 (by simp), hp]
        simp only [Bool.not_false, Option.map_some, Option.getD_some, Bool.true_and, Array.all_eq_true']
        intro e he
        by_cases hb : Region.binds .any e = true
        · have hlow := hD.low p.1 p.2 hp e he hb
          have hel : e.on < ops.size := by omega
          have : listed.getD e.on true = true := by
            cases hq : listed.getD e.on true with
            | true => rfl
            | false =>
              have hm := (hls e.on hel).1 hq
              obtain ⟨p', hp', e1⟩ := List.mem_map.1 hm
              rcases List.mem_cons.1 hp' with rfl | hp'
              · omega
              · have := (List.pairwise_cons.1 hpw).1 p' hp'
                omega
          rw [getD_same (by omega), this]
          simp
        · simp [hb]
      rw [hr] at this
      simp at this
  intro fuel
  induction fuel with
  | zero =>
    intro rest listed s a w hs hlen hop hpw hls hcl hRA h
    have hnil : rest = [] := List.eq_nil_of_length_eq_zero (by omega)
    subst hnil
    refine ⟨?_, hK _ _ _ h hRA⟩
    cases hq : Region.ready .any ops listed with
    | nil => rfl
    | cons i l =>
      obtain ⟨h1, o, ho, _⟩ := ready_mem hs (show i ∈ Region.ready .any ops listed by rw [hq]; simp)
      have := (hls i (lt_of ho)).1 h1
      simp at this
  | succ fuel ih =>
    intro rest listed s a w hs hlen hop hpw hls hcl hRA h
    refine ⟨fun hr => ?_, fun i hi => ?_⟩
    · have hnil := rdy rest listed hs hop hpw hls hr
      subst hnil
      exact hK _ _ _ h hRA
    · obtain ⟨h1, o, ho, haft⟩ := ready_mem hs hi
      have hil := lt_of ho
      have hm := (hls i hil).1 h1
      obtain ⟨p, hp, e1⟩ := List.mem_map.1 hm
      have e2 : p = (i, o) := by
        have := hop p hp
        rw [e1, ho] at this
        cases p
        simp only [Option.some.injEq] at this e1
        rw [e1, this]
      subst e2
      obtain ⟨pre, post, rfl⟩ := List.append_of_mem hp
      -- what stands before i is listed
      have befl : ∀ q, q < ops.size → bef b q i = true → listed.getD q true = true := fun q hq hb => by
        obtain ⟨_, e, he, hbd, hor⟩ := hD.up i q o ho hq hb
        have h3 := haft e he hbd
        have hel : e.on < ops.size := Nat.lt_trans (hD.low i o ho e he hbd) hil
        rw [getD_same (by omega)] at h3
        rcases hor with rfl | hor
        · exact h3
        · exact hcl e.on _ (Array.getElem?_eq_getElem hel) h3 q hq hor
      have hpw2 := List.pairwise_append.1 hpw
      have hpre : ∀ y ∈ pre, SwapOk (compOper P pure ops y.2, mk y.1) (compOper P pure ops o, mk i) := fun y hy => by
        have hlt : y.1 < i := hpw2.2.2 y hy (i, o) (by simp)
        have hyo := hop y (by simp [hy])
        refine hD.swap y.1 i y.2 o hlt hyo ho ?_
        cases hb : bef b y.1 i with
        | false => rfl
        | true =>
          have h4 := befl y.1 (by omega) hb
          have h5 := (hls y.1 (by omega)).2 (List.mem_map.2 ⟨y, by simp [hy], rfl⟩)
          rw [h4] at h5
          cases h5
      rw [List.map_append, List.map_cons] at h
      have h6 := move_front (E := E) (K := K) (pre.map fun p => (compOper P pure ops p.2, mk p.1)) (fun y hy => by
        obtain ⟨z, hz, rfl⟩ := List.mem_map.1 hy
        exact hpre z hz) h
      rw [← List.map_append] at h6
      have hini : ∀ z ∈ pre ++ post, z.1 ≠ i := fun z hz e => by
        rcases List.mem_append.1 hz with hz | hz
        · have : z.1 < i := hpw2.2.2 z hz (i, o) (by simp)
          omega
        · have : i < z.1 := (List.pairwise_cons.1 hpw2.2.1).1 z hz
          omega
      have hrun := dop_run (next := wpAny P .any ops Q fuel (listed.setIfInBounds i true)) (Q := Q) (m := mk i) hG hE (hok o (by
        have := Array.mem_of_getElem? ho
        simpa using this)) (hD.own i o ho) hRA (K := fun s' => runDops apf E ((pre ++ post).map fun p : Nat × Oper => (compOper P pure ops p.2, mk p.1)) s' K) h6 (fun s' a' w' hk hr => by
          refine ih (pre ++ post) _ (by simp [hs]) (by simp only [List.length_append, List.length_cons] at hlen ⊢; omega) (fun z hz => hop z (by
            rcases List.mem_append.1 hz with hz | hz <;> simp [hz])) ?_ (fun j hj => ?_) (fun j oj hoj hlj q hq hb => ?_) hr hk
          · exact hpw.sublist (List.Sublist.append_left (List.sublist_cons_self _ _) _)
          · rw [getD_setB (by omega)]
            by_cases e : j = i
            · subst e
              simp only [if_true]
              constructor
              · intro e; cases e
              · intro hj2
                obtain ⟨z, hz, e⟩ := List.mem_map.1 hj2
                exact absurd e (hini z hz)
            · rw [if_neg e, hls j hj]
              simp only [List.map_append, List.map_cons, List.mem_append, List.mem_cons]
              constructor
              · rintro (h | h | h)
                · exact .inl h
                · exact absurd h e
                · exact .inr h
              · rintro (h | h)
                · exact .inl h
                · exact .inr (.inr h)
          · rw [getD_setB (by omega)] at hlj ⊢
            by_cases e : q = i
            · rw [if_pos e]
            · rw [if_neg e]
              by_cases e3 : j = i
              · subst e3; exact befl q hq hb
              · rw [if_neg e3] at hlj
                exact hcl j oj hoj hlj q hq hb)
      simp only [wpOp, ho]
      split
      · rename_i hw
        rw [if_pos hw] at hrun
        exact .inl hrun
      · rename_i hw
        rw [if_neg hw] at hrun
        exact hrun
end
end Go.Cx
/- CxDraw6 -/
namespace Go.Cx
open Go
theorem mem_zip {α : Type} {l : List α} {x : α} {i : Nat} : (x, i) ∈ l.zipIdx ↔ l[i]? = some x := List.mem_zipIdx_iff_getElem?
theorem zip_rising {α β : Type} {f : α → β} : ∀ (l : List α) (k : Nat), ((l.zipIdx k).map fun p => (p.2, f p.1)).Pairwise (fun p q => p.1 < q.1) ∧ ∀ p ∈ (l.zipIdx k).map (fun p => (p.2, f p.1)), k ≤ p.1 := by
  intro l
  induction l with
  | nil => intro k; simp
  | cons x l ih =>
    intro k
    obtain ⟨h1, h2⟩ := ih (k + 1)
    simp only [List.zipIdx_cons, List.map_cons, List.pairwise_cons]
    refine ⟨⟨fun p hp => ?_, h1⟩, fun p hp => ?_⟩
    · have := h2 p hp
      show k < p.1
      omega
    · rcases List.mem_cons.1 hp with rfl | hp
      · exact Nat.le_refl _
      · have := h2 p hp
        omega
section
variable {P : Program} {G : List (Nat × V)} {pure : Nat → Bool} {X : Fix} {E : List (Nat × Ctr)} {ops : Array Oper}
theorem hOfs_mem {t : St} {j : Nat} : ∀ {r : List Nat}, j ∈ hOfs t r ↔ ∃ n ∈ r, j ∈ hX t n
  | [] => by simp [hOfs]
  | n :: r => by simp [hOfs, hOfs_mem (r := r)]
def mkOf (t : St) (b : Array Nat) (l : List IOper) (i : Nat) : Msk := match l[i]? with
  | some o => ((mskD b l o i).msk t).2
  | none => ⟨[], none⟩
theorem mskOk_mem : ∀ {l : List (IOper × Msk)}, mskOk l = true → ∀ x ∈ l, ∀ j ∈ mayMake x.1, j ∉ x.2.m
  | [], _, x, hx => by simp at hx
  | y :: r, h, x, hx => by
    simp only [mskOk, Bool.and_eq_true, List.all_eq_true, Bool.not_eq_true', List.contains_eq_mem, decide_eq_false_iff_not] at h
    rcases List.mem_cons.1 hx with rfl | hx
    · exact h.1
    · exact mskOk_mem h.2 x hx
theorem drawOk_spec {b : Array Nat} {t : St} (h1 : drawOk b (ops.toList.map (compOper P pure ops)) = true) (h2 : befOk b ops = true) (h3 : mskOk ((masks b (ops.toList.map (compOper P pure ops))).map (DOp.msk t)) = true) :
    DrawOk P pure ops b (mkOf t b (ops.toList.map (compOper P pure ops))) := by
  have hl : ∀ {i : Nat} {o : Oper}, ops[i]? = some o → (compOper P pure ops o, i) ∈ (ops.toList.map (compOper P pure ops)).zipIdx := fun {i o} h => by
    rw [mem_zip, List.getElem?_map, Array.getElem?_toList, h]; rfl
  have hmk : ∀ {i : Nat} {o : Oper}, ops[i]? = some o → mkOf t b (ops.toList.map (compOper P pure ops)) i = ((mskD b (ops.toList.map (compOper P pure ops)) (compOper P pure ops o) i).msk t).2 := fun {i o} h => by
    have : (ops.toList.map (compOper P pure ops))[i]? = some (compOper P pure ops o) := by rw [List.getElem?_map, Array.getElem?_toList, h]; rfl
    simp only [mkOf, this]
  have hown : ∀ {i : Nat} {o : Oper}, ops[i]? = some o → ∀ j ∈ mayMake (compOper P pure ops o), j ∉ (mkOf t b (ops.toList.map (compOper P pure ops)) i).m := fun {i o} h j hj => by
    have hm : (mskD b (ops.toList.map (compOper P pure ops)) (compOper P pure ops o) i).msk t ∈ (masks b (ops.toList.map (compOper P pure ops))).map (DOp.msk t) :=
      List.mem_map.2 ⟨_, List.mem_map.2 ⟨_, hl h, rfl⟩, rfl⟩
    rw [hmk h]
    exact mskOk_mem h3 _ hm j hj
  have hapart : ∀ (q i : Nat) (oq oi : Oper), q < i → ops[q]? = some oq → ops[i]? = some oi → bef b q i = false → ApartS (compOper P pure ops oq) (compOper P pure ops oi) := fun q i oq oi hlt hq hi hb => by
    simp only [drawOk, List.all_eq_true] at h1
    have := h1 _ (hl hi) _ (hl hq)
    simp only [hb, Bool.or_false, Bool.or_eq_true, Bool.not_eq_true', decide_eq_false_iff_not] at this
    exact apartO_spec (this.resolve_left (fun e => e hlt))
  have hbef : ∀ (i : Nat) (o : Oper), ops[i]? = some o → (∀ e ∈ o.after, Region.binds .any e = true → e.on < i) ∧
      ∀ q, q < ops.size → bef b q i = true → q < i ∧ ∃ e ∈ o.after, Region.binds .any e = true ∧ (q = e.on ∨ bef b q e.on = true) := fun i o ho => by
    simp only [befOk, List.all_eq_true] at h2
    have h3 := h2 (o, i) (by rw [mem_zip, Array.getElem?_toList]; exact ho)
    simp only [Bool.and_eq_true, List.all_eq_true, List.mem_range, Array.mem_toList_iff, Bool.or_eq_true, Bool.not_eq_true', decide_eq_true_eq, List.any_eq_true, beq_iff_eq] at h3
    obtain ⟨h4, h5⟩ := h3
    refine ⟨fun e he hb => ?_, fun q hq hb => ?_⟩
    · rcases h4 e he with h | h
      · rw [hb] at h; cases h
      · exact h
    · rcases h5 q hq with h | ⟨h, e, he, hbd, hor⟩
      · rw [hb] at h; cases h
      · exact ⟨h, e, he, hbd, hor⟩
  have hseen : ∀ {q i : Nat}, q ≠ i → bef b q i = false → bef b i q = false → seen b i q = true := fun {q i} h1 h2 h3 => by
    simp [seen, h2, h3, Ne.symm h1]
  have hsub : ∀ (q i : Nat) (oq oi : Oper), q ≠ i → ops[q]? = some oq → ops[i]? = some oi → bef b q i = false → bef b i q = false → ∀ j ∈ mayMake (compOper P pure ops oq), j ∈ (mkOf t b (ops.toList.map (compOper P pure ops)) i).m := fun q i oq oi hne hq hi hb1 hb2 j hj => by
    rw [hmk hi]
    simp only [DOp.msk, mskD, List.mem_append]
    refine .inl ?_
    split
    · simp only [msk, List.mem_flatMap]
      refine ⟨(compOper P pure ops oq, q), hl hq, ?_⟩
      rw [if_pos (hseen hne hb1 hb2)]
      exact List.mem_append.2 (.inl hj)
    · simp only [List.mem_flatMap]
      refine ⟨(compOper P pure ops oq, q), hl hq, ?_⟩
      rw [if_pos (hseen hne hb1 hb2)]
      exact hj
  -- one that writes, beside one that looks
  have hwr : ∀ (q i : Nat) (oq oi : Oper), q ≠ i → ops[q]? = some oq → ops[i]? = some oi → bef b q i = false → bef b i q = false → cls (compOper P pure ops oi).o = .n → cls (compOper P pure ops oq).o = .w →
      ∃ l, (mkOf t b (ops.toList.map (compOper P pure ops)) q).w = some l ∧ ∀ j ∈ l, j ∈ (mkOf t b (ops.toList.map (compOper P pure ops)) i).m := fun q i oq oi hne hq hi hb1 hb2 c1 c2 => by
    have hw : watch b (ops.toList.map (compOper P pure ops)) q (compOper P pure ops oq) = true := by
      simp only [watch, c2, beq_self_eq_true, Bool.true_and, List.any_eq_true, Bool.and_eq_true, beq_iff_eq]
      exact ⟨(compOper P pure ops oi, i), hl hi, hseen (Ne.symm hne) hb2 hb1, c1⟩
    rw [hmk hq, hmk hi]
    refine ⟨(footX (ops.toList.map (compOper P pure ops)) q (compOper P pure ops oq)).1 ++ hOfs t (footX (ops.toList.map (compOper P pure ops)) q (compOper P pure ops oq)).2, ?_, fun j hj => ?_⟩
    · simp only [DOp.msk, mskD, hw, if_true]
    · simp only [DOp.msk, mskD, c1, beq_self_eq_true, if_true, List.mem_append]
      rcases List.mem_append.1 hj with hj | hj
      · left
        simp only [msk, List.mem_flatMap]
        refine ⟨(compOper P pure ops oq, q), hl hq, ?_⟩
        rw [if_pos (hseen hne hb1 hb2)]
        refine List.mem_append.2 (.inr ?_)
        simp only [c2, beq_self_eq_true, if_true]
        exact hj
      · right
        obtain ⟨n, hn, hj⟩ := hOfs_mem.1 hj
        refine hOfs_mem.2 ⟨n, ?_, hj⟩
        simp only [mskT, c1, beq_self_eq_true, if_true, List.mem_flatMap]
        refine ⟨(compOper P pure ops oq, q), hl hq, ?_⟩
        simp only [hseen hne hb1 hb2, c2, beq_self_eq_true, Bool.and_self, if_true]
        exact hn
  have hback : ∀ (q i : Nat) (oq : Oper), q < i → i < ops.size → ops[q]? = some oq → bef b i q = false := fun q i oq hlt hi hq => by
    cases hb : bef b i q with
    | false => rfl
    | true =>
      have := ((hbef q oq hq).2 i hi hb).1
      omega
  have lt_of : ∀ {i : Nat} {o : Oper}, ops[i]? = some o → i < ops.size := fun h => (Array.getElem?_eq_some_iff.1 h).1
  refine ⟨fun i o ho => (hbef i o ho).1, fun i q o ho => (hbef i o ho).2 q, fun i o ho => hown ho, fun q i oq oi hlt hq hi hb => ?_⟩
  have hb2 := hback q i oq hlt (lt_of hi) hq
  have ha := hapart q i oq oi hlt hq hi hb
  refine ⟨⟨ha.xd, ha.yd, ?_, ha.dj, hown hq, hown hi⟩, hsub q i oq oi (by omega) hq hi hb hb2, hsub i q oi oq (by omega) hi hq hb2 hb⟩
  show cls (compOper P pure ops oq).o = .p ∨ cls (compOper P pure ops oi).o = .p ∨ _
  have hcl : cls (compOper P pure ops oq).o = .p ∨ cls (compOper P pure ops oi).o = .p ∨ cls (compOper P pure ops oq).o = .n ∨ cls (compOper P pure ops oi).o = .n := ha.cl
  show cls (compOper P pure ops oq).o = .p ∨ cls (compOper P pure ops oi).o = .p ∨ (cls (compOper P pure ops oq).o = .n ∧ cls (compOper P pure ops oi).o = .n) ∨ (cls (compOper P pure ops oq).o = .n ∧ ∃ l, (mkOf t b (ops.toList.map (compOper P pure ops)) i).w = some l ∧ ∀ j ∈ l, j ∈ (mkOf t b (ops.toList.map (compOper P pure ops)) q).m) ∨
    (cls (compOper P pure ops oi).o = .n ∧ ∃ l, (mkOf t b (ops.toList.map (compOper P pure ops)) q).w = some l ∧ ∀ j ∈ l, j ∈ (mkOf t b (ops.toList.map (compOper P pure ops)) i).m)
  have w1 := hwr i q oi oq (by omega) hi hq hb2 hb
  have w2 := hwr q i oq oi (by omega) hq hi hb hb2
  generalize cls (compOper P pure ops oq).o = c1 at hcl w1 w2 ⊢
  generalize cls (compOper P pure ops oi).o = c2 at hcl w1 w2 ⊢
  cases c1 <;> cases c2
  · exact .inl rfl
  · exact .inl rfl
  · exact .inl rfl
  · exact .inr (.inl rfl)
  · exact .inr (.inr (.inl ⟨rfl, rfl⟩))
  · exact .inr (.inr (.inr (.inl ⟨rfl, w1 rfl rfl⟩)))
  · exact .inr (.inl rfl)
  · exact .inr (.inr (.inr (.inr ⟨rfl, w2 rfl rfl⟩)))
  · rcases hcl with h | h | h | h <;> cases h
theorem dreg_sound {s : St} {a : Act} {w : World} (hm : P.follows .mixedOrders = true) (hG : GOk G X) (hE : EnvSound P G pure E) {A : List (Nat × Ann)} {Q : Ex → St → Prop} {id : Nat} {keep : List Nat} {b : Array Nat} (hok : ∀ o ∈ ops.toList, OpOk X ops o)
    (h1 : drawOk b (ops.toList.map (compOper P pure ops)) = true) (h2 : befOk b ops = true) (hRA : RA X s a w)
    (h : run apf E A (.dreg keep (masks b (ops.toList.map (compOper P pure ops)))) Q s) : (Code.region id ops true).wp P (toQ X Q) a w := by
  obtain ⟨h3, h⟩ := h
  have hD := drawOk_spec h1 h2 h3
  have hRA2 : RA X s a { w with drawn := w.drawn + 1 } := by
    obtain ⟨⟨I, ρ, ow, hr⟩, hdf⟩ := hRA
    exact ⟨⟨I, ρ, ow, hr.grow (Only.drew w none)⟩, hdf⟩
  refine wp_region_any hm (draw_any hD hG hE hok (Q := toQ X Q) (K := fun s' => Q .nrm ⟨keepT s'.t keep, s'.h⟩) (fun _ _ _ hk hr => ⟨_, hk, hr.keep keep⟩) ops.size (ops.toList.zipIdx.map fun p => (p.2, p.1)) (Array.replicate ops.size false)
    (by simp) (by simp) (fun p hp => ?_) (zip_rising (f := fun x => x) ops.toList 0).1 (fun i hi => ?_) (fun i o ho hl => ?_) hRA2 ?_)
  · obtain ⟨⟨o, i⟩, ho, rfl⟩ := List.mem_map.1 hp
    rw [mem_zip, Array.getElem?_toList] at ho
    exact ho
  · simp only [Array.getD_eq_getD_getElem?, Array.getElem?_replicate, hi, if_true, Option.getD_some, true_iff, List.map_map, List.mem_map]
    refine ⟨(ops[i], i), ?_, rfl⟩
    rw [mem_zip, Array.getElem?_toList]
    exact Array.getElem?_eq_getElem hi
  · have hi := (Array.getElem?_eq_some_iff.1 ho).1
    simp [Array.getD_eq_getD_getElem?, hi] at hl
  · have e : (ops.toList.zipIdx.map fun p => (p.2, p.1)).map (fun p : Nat × Oper => (compOper P pure ops p.2, mkOf s b (ops.toList.map (compOper P pure ops)) p.1)) = (masks b (ops.toList.map (compOper P pure ops))).map (DOp.msk s) := by
      simp only [masks, List.zipIdx_map, List.map_map]
      apply map_congr'
      rintro ⟨o, i⟩ hm
      rw [mem_zip, Array.getElem?_toList] at hm
      have hg : (ops.toList.map (compOper P pure ops))[i]? = some (compOper P pure ops o) := by rw [List.getElem?_map, Array.getElem?_toList, hm]; rfl
      show (compOper P pure ops o, mkOf s b (ops.toList.map (compOper P pure ops)) i) = _
      simp only [mkOf, hg]
      rfl
    rw [e]
    exact h
end
end Go.Cx
/- CxCode -/
namespace Go.Cx
open Go
section
variable {P : Program} {G : List (Nat × V)} {pure : Nat → Bool} {X : Fix} {E : List (Nat × Ctr)}
/-- the slots and guards of all operations are in order -/
def opsOk (N : Nat) (ops : Array Oper) : Bool := ops.toList.all fun o => (match o.dst with | some d => decide (d < N) | none => true) && storeOk o && guardOk ops o
def codeOk (N : Nat) : Code → Bool
  | .region _ ops _ => opsOk N ops
  | .seq a b | .cond _ a b => codeOk N a && codeOk N b
  | .block _ c | .loop c => codeOk N c
  | _ => true
theorem opsOk_spec {ops : Array Oper} (h : opsOk X.N ops = true) : ∀ o ∈ ops.toList,OpOk X ops o := fun o ho => by
  simp only [opsOk,List.all_eq_true] at h
  have := h o ho
  simp only [Bool.and_eq_true] at this
  refine ⟨fun d hd => ?_,this.1.2,this.2⟩
  have h1 := this.1.1
  rw [hd] at h1
  simpa using h1
/-- a loop's head: a state that fits a shape may be told by it -/
def HeadOk (X : Fix) : Prop := ∀ (s : St) (L : LSt) (a : Act) (w : World),RA X s a w → ((headR apf s L).all fun _ => True) → RA X L.st a w ∧ okTs L.ts ∧ okHs L.hs
theorem toQ_then {Q : Ex → St → Prop} {K : St → Prop} {next : Act → World → Prop} {R : Exit → Act → World → Prop} (hn : ∀ s a w,K s → RA X s a w → next a w) (hq : ∀ e a w,e ≠ .normal → toQ X Q e a w → R e a w) :
    ∀ e a w,toQ X (fun e s => match e with | .nrm => K s | .ret => Q .ret s | .exit i => Q (.exit i) s) e a w → Exit.then next R e a w := by
  intro e a w h
  cases e with
  | normal => obtain ⟨s,h1,h2⟩ := h; exact hn s a w h1 h2
  | ret => exact hq .ret a w (by simp) h
  | exit i => exact hq (.exit i) a w (by simp) h
  | goto l => exact h.elim
  | panic c => exact h.elim
  | outgrown => exact h.elim
theorem code_sound (hm : P.follows .mixedOrders = true) (hG : GOk G X) (hE : EnvSound P G pure E) (hH : HeadOk X) (keep : List Nat) : ∀ (c : Code) (A : List (Nat × Ann)) (n : Nat) (Q : Ex → St → Prop) (s : St) (a : Act) (w : World),codeOk X.N c = true →
    RA X s a w → run apf E A (compCode P pure keep c n).1 Q s → c.wp P (toQ X Q) a w := by
  intro c
  induction c with
  | skip => intro A n Q s a w _ hRA h; exact wp_skip ⟨s,h,hRA⟩
  | label l => intro A n Q s a w _ hRA h; exact wp_label ⟨s,h,hRA⟩
  | ret => intro A n Q s a w _ hRA h; exact wp_ret ⟨s,h,hRA⟩
  | exit i => intro A n Q s a w _ hRA h; exact wp_exit ⟨s,h,hRA⟩
  | seq x y ihx ihy =>
    intro A n Q s a w hok hRA h
    simp only [codeOk,Bool.and_eq_true] at hok
    simp only [compCode] at h
    refine wp_seq (Code.wp_mono (fun e a w => toQ_then (fun s a w hk hr => ihy A _ Q s a w hok.2 hr hk) (fun _ _ _ _ h => h) e a w) (ihx A n _ s a w hok.1 hRA h))
  | cond x c d ihc ihd =>
    intro A n Q s a w hok hRA h
    simp only [codeOk,Bool.and_eq_true] at hok
    simp only [compCode] at h
    cases hx : opIX x with
    | none => simp only [hx] at h; exact h.elim
    | some ix =>
      simp only [hx,run] at h
      obtain ⟨⟨I,ρ,ow,hr⟩,hdf⟩ := id hRA
      have hv := ev_rep hr hx
      split at h
      · rename_i e1
        rw [e1] at hv
        exact wp_cond_true (vr_tt hv) (ihc A _ Q s a w hok.1 hRA h)
      · rename_i e1
        rw [e1] at hv
        exact wp_cond_false (vr_ff hv) (ihd A _ Q s a w hok.2 hRA h)
      · rename_i b e1
        rw [e1] at hv
        exact wp_cond_split (vr_bool hv) (fun hb => ihc A _ Q s a w hok.1 hRA (h.1 hb)) (fun hb => ihd A _ Q s a w hok.2 hRA (h.2 hb))
      · exact h.elim
  | block i c ih =>
    intro A n Q s a w hok hRA h
    simp only [compCode,run] at h
    refine wp_block (Code.wp_mono (fun e a w hq => ?_) (ih A n _ s a w hok hRA h))
    cases e with
    | exit j =>
      obtain ⟨s',h1,h2⟩ := hq
      simp only [Exit.inBlock]
      simp only at h1
      split at h1
      · rename_i e1
        rw [if_pos e1]; exact ⟨s',h1,h2⟩
      · rename_i e1
        rw [if_neg e1]; exact ⟨s',h1,h2⟩
    | normal => exact hq
    | ret => exact hq
    | goto l => exact hq
    | panic c => exact hq
    | outgrown => exact hq
  | loop c ih =>
    intro A n Q s a w hok hRA h
    simp only [compCode,run] at h
    split at h
    · rename_i S fam p mu hA
      obtain ⟨⟨x,hpx,hsub⟩,hround⟩ := h
      have key : ∀ (k : Nat) (x : S),p x → mu x < k → ∀ s a w,RA X s a w → ((headR apf s (fam x)).all fun _ => True) → Code.rounds P c (toQ X Q) k a w := by
        intro k
        induction k with
        | zero => intro x _ h; omega
        | succ k ihk =>
          intro x hp hk s a w hRA hs
          obtain ⟨h1,h2,h3⟩ := hH s (fam x) a w hRA hs
          refine Code.wp_mono (fun e a w => toQ_then (Q := Q) (K := fun s' => ∃ y,p y ∧ mu y < mu x ∧ (headR apf s' (fam y)).all fun _ => True) (fun s a w hk2 hr => ?_) (fun _ _ _ _ h => h) e a w) (ih A (n + 1) _ _ a w hok h1 (hround x hp h2 h3))
          obtain ⟨y,hy1,hy2,hy3⟩ := hk2
          exact ihk y hy1 (by omega) s a w hr hy3
      exact wp_loop_rounds (mu x + 1) (key _ x hpx (by omega) s a w hRA hsub)
    · rename_i S fam p mu sub hA
      obtain ⟨⟨x,hpx,hsub⟩,hround⟩ := h
      have key : ∀ (k : Nat) (x : S),p x → mu x < k → ∀ s a w,RA X s a w → ((headR apf s (fam x)).all fun _ => True) → Code.rounds P c (toQ X Q) k a w := by
        intro k
        induction k with
        | zero => intro x _ h; omega
        | succ k ihk =>
          intro x hp hk s a w hRA hs
          obtain ⟨h1,h2,h3⟩ := hH s (fam x) a w hRA hs
          refine Code.wp_mono (fun e a w => toQ_then (Q := Q) (K := fun s' => ∃ y,p y ∧ mu y < mu x ∧ (headR apf s' (fam y)).all fun _ => True) (fun s a w hk2 hr => ?_) (fun _ _ _ _ h => h) e a w) (ih (sub x) (n + 1) _ _ a w hok h1 (hround x hp h2 h3))
          obtain ⟨y,hy1,hy2,hy3⟩ := hk2
          exact ihk y hy1 (by omega) s a w hr hy3
      exact wp_loop_rounds (mu x + 1) (key _ x hpx (by omega) s a w hRA hsub)
    · rename_i k hA
      have key : ∀ (k : Nat) s a w,RA X s a w → unroll (fun s Q => run apf E A (compCode P pure keep c (n + 1)).1 Q s) Q k s → Code.rounds P c (toQ X Q) k a w := by
        intro k
        induction k with
        | zero => intro s a w _ h; exact h.elim
        | succ k ihk =>
          intro s a w hRA h
          exact Code.wp_mono (fun e a w => toQ_then (fun s a w hk2 hr => ihk s a w hr hk2) (fun _ _ _ _ h => h) e a w) (ih A (n + 1) _ _ a w hok hRA h)
      exact wp_loop_rounds k (key k s a w hRA h)
    · exact h.elim
  | region id ops draw =>
    intro A n Q s a w hok hRA h
    simp only [compCode] at h
    have hops := opsOk_spec hok
    split at h
    · exact h.elim
    · cases draw with
      | false =>
        simp only [Bool.false_eq_true,if_false] at h
        exact reg_sound hG hE hops hRA h
      | true =>
        simp only [if_true] at h
        split at h
        · rename_i hck
          simp only [Bool.and_eq_true] at hck
          exact dreg_sound hm hG hE hops hck.1 hck.2 hRA h
        · exact h.elim
  | _ => intro A n Q s a w _ hRA h; exact h.elim
end
end Go.Cx
/- CxMt -/
namespace Go.Cx
open Go
theorem nV_size (v : V) : (nV v).size = v.size := by
  induction v with
  | one a ih => exact ih
  | _ => rfl
theorem nV_agg (v : V) : (nV v).isAgg = v.isAgg := by cases v <;> rfl
theorem nV_rep {I : Nat → Prop} {w : World} {ow : Own} (v : V) : ∀ {ρ : Rho} {q : List Nat} {pos : Nat} {g : Nat → Option Value}, CRep I w ow v ρ q pos g → CRep I w ow (nV v) ρ q pos g := by
  induction v with
  | cat n m a b iha ihb => intro ρ q pos g h; exact ⟨(nV_size a).trans h.1, (nV_size b).trans h.2.1, iha h.2.2.1, ihb h.2.2.2⟩
  | one a ih => intro ρ q pos g h; exact ⟨(nV_agg a).trans h.1, ih h.2⟩
  | rows e n f ih => intro ρ q pos g h j hj; exact ⟨(nV_size _).trans (h j hj).1, ih j (h j hj).2⟩
  | _ => intro ρ q pos g h; exact h
theorem nV_back {I : Nat → Prop} {w : World} {ow : Own} (v : V) : ∀ {ρ : Rho} {q : List Nat} {pos : Nat} {g : Nat → Option Value}, CRep I w ow (nV v) ρ q pos g → CRep I w ow v ρ q pos g := by
  induction v with
  | cat n m a b iha ihb => intro ρ q pos g h; exact ⟨(nV_size a).symm.trans h.1, (nV_size b).symm.trans h.2.1, iha h.2.2.1, ihb h.2.2.2⟩
  | one a ih => intro ρ q pos g h; exact ⟨(nV_agg a).symm.trans h.1, ih h.2⟩
  | rows e n f ih => intro ρ q pos g h j hj; exact ⟨(nV_size _).symm.trans (h j hj).1, ih j (h j hj).2⟩
  | _ => intro ρ q pos g h; exact h
theorem hAll_true : ∀ (c : V), c.hAll (fun _ => true) = true := by
  intro c
  induction c with
  | cat n m a b iha ihb => simp [V.hAll, iha, ihb]
  | tcons a b iha ihb => simp [V.hAll, iha, ihb]
  | one a ih => simpa [V.hAll] using ih
  | orow n e f o => simp [V.hAll]
  | _ => rfl
theorem ptR_eq : ∀ {p q : List Pt} {u : Unit}, (ptR apf p q).to u → p = q := by
  intro p
  induction p with
  | nil => intro q u h; cases q with | nil => rfl | cons _ _ => exact h.elim
  | cons x p ih =>
    intro q u h
    cases q with
    | nil => cases x <;> exact h.elim
    | cons y q =>
      cases x <;> cases y <;> simp only [ptR] at h <;> first | exact h.elim | skip
      · obtain ⟨h1, h2⟩ := rif_to h
        simp only [Bool.and_eq_true, beq_iff_eq] at h1
        obtain ⟨rfl, rfl⟩ := h1
        rw [ih h2]
      · obtain ⟨h1, h2, h3⟩ := rif_to h
        simp only [beq_iff_eq] at h1
        subst h1
        have h2 : _ = _ := h2
        rw [ih h3, h2]
section
variable {I : Nat → Prop} {w : World} {r : List (Nat × Nat)} {h : Nat → Option Blk}
theorem mtC_size : ∀ (c c' : V) {x : List Nat}, (mtC apf r h c c').to x → c.size = c'.size ∧ (c ≠ .any → c.isAgg = c'.isAgg) := by
  intro c
  induction c with
  | any =>
    intro c' x hm
    obtain ⟨h1, _⟩ := rif_to (show (rif (c'.size == 1 && !c'.isTup) 101 (.ok [])).to x by cases c' <;> exact hm)
    simp only [Bool.and_eq_true, beq_iff_eq] at h1
    exact ⟨h1.1.symm, fun e => absurd rfl e⟩
  | one a ih =>
    intro c' x hm
    cases c' <;> first | exact hm.elim | skip
    rename_i b
    exact ⟨(ih b hm).1, fun _ => rfl⟩
  | ints k n l =>
    intro c' x hm
    cases c' <;> first | exact hm.elim | skip
    obtain ⟨_, h2, _⟩ := rif_to hm
    have h2 : _ = _ := h2
    exact ⟨h2, fun _ => rfl⟩
  | rows e n f =>
    intro c' x hm
    cases c' <;> first | exact hm.elim | skip
    obtain ⟨h1, h2, _⟩ := rif_to hm
    simp only [beq_iff_eq] at h1
    have h2 : _ = _ := h2
    exact ⟨by simp only [V.size]; rw [h1, h2], fun _ => rfl⟩
  | cat n m a b iha ihb =>
    intro c' x hm
    cases c' <;> first | exact hm.elim | skip
    obtain ⟨h1, _⟩ := rif_to hm
    simp only [Bool.and_eq_true, beq_iff_eq] at h1
    exact ⟨by simp only [V.size]; rw [h1.1, h1.2], fun _ => rfl⟩
  | orow n e f o =>
    intro c' x hm
    cases c' <;> first | exact hm.elim | skip
    obtain ⟨_, h2, _⟩ := rif_to hm
    exact ⟨h2, fun _ => rfl⟩
  | _ => intro c' x hm; cases c' <;> first | exact hm.elim | exact ⟨rfl, fun _ => rfl⟩
theorem nilR_spec {n e : Nat} {c : V} {x : List Nat} (hm : (nilR apf n e c).to x) : n = 0 ∧ isRow e 0 c ∧ ∀ (I : Nat → Prop) (w : World) (ow : Own), CRep I w ow c noR [] 0 (fun _ => none) := by
  cases c <;> first | exact hm.elim | skip
  · obtain ⟨h1, h2, h3, h4, _⟩ := rif_to hm
    simp only [beq_iff_eq] at h1
    have h2 : n = 0 := h2
    have h3 : _ = 0 := h3
    have h4 : _ = [] := h4
    exact ⟨h2, ⟨h3, h1⟩, fun _ _ _ => ⟨by rw [h4, h3]; rfl, by rw [h4]; simp, fun j hj => by omega⟩⟩
  · obtain ⟨h1, h2, h3, _⟩ := rif_to hm
    simp only [beq_iff_eq] at h1
    have h2 : n = 0 := h2
    have h3 : _ = 0 := h3
    exact ⟨h2, ⟨h3, h1.symm⟩, fun _ _ _ j hj => by omega⟩
theorem row_noown {c : V} (h : c.isRowB = true) : c.noown = true := by cases c <;> first | rfl | cases h
theorem mtC_row {c c' : V} {x : List Nat} {e n : Nat} (hb : c.isRowB = true) (hm : (mtC apf r h c c').to x) (hr : isRow e n c') : isRow e n c := by
  cases c <;> first | cases hb | skip
  · cases c' <;> first | exact hm.elim | skip
    obtain ⟨_, h2, _⟩ := rif_to hm
    have h2 : _ = _ := h2
    rw [isRow, h2]; exact hr
  · cases c' <;> first | exact hm.elim | skip
    obtain ⟨h1, h2, _⟩ := rif_to hm
    simp only [beq_iff_eq] at h1
    have h2 : _ = _ := h2
    rw [isRow, h1, h2]; exact hr
theorem mtC_rowX {c c' : V} {x : List Nat} {e n : Nat} (hb : c.isRowX = true) (hm : (mtC apf r h c c').to x) (hr : isRow e n c') : isRow e n c := by
  cases c with
  | ints => exact mtC_row rfl hm hr
  | rows => exact mtC_row rfl hm hr
  | orow =>
    cases c' <;> first | exact hm.elim | skip
    obtain ⟨_, h2, _⟩ := rif_to hm
    have h2 : _ = _ := h2
    rw [isRow, h2]; exact hr
  | _ => cases hb
/-- a row that matches one which owns nothing owns nothing -/
theorem mtC_noown {c c' : V} {x : List Nat} (hb : c.isRowX = true) (hm : (mtC apf r h c c').to x) (hr : c'.noown = true) : c.noown = true := by
  cases c with
  | ints => rfl
  | rows => rfl
  | orow => cases c' <;> first | exact hm.elim | cases hr
  | _ => cases hb
theorem crep_own {I : Nat → Prop} {w : World} {ow : Own} {ρ : Rho} {v : V} {pos : Nat} {g : Nat → Option Value} (hc : CRep I w ow v ρ [] pos g) : v.noown = true := by
  induction v generalizing pos g with
  | cat n m a b iha ihb => simp only [V.noown, Bool.and_eq_true]; exact ⟨iha hc.2.2.1, ihb hc.2.2.2⟩
  | one a ih => exact ih hc.2
  | osl n e c ih => exact absurd rfl hc.1
  | optr c ih => exact absurd rfl hc.1
  | orow n e f o ih => exact absurd rfl hc.1
  | tcons a b _ _ => exact hc.elim
  | _ => rfl
theorem lk3_none : ∀ {o : List (Nat × Nat × Nat)} {j : Nat}, lk3 o j = none ↔ j ∉ o.map fun p => p.1 := by
  intro o
  induction o with
  | nil => intro j; simp [lk3]
  | cons p o ih =>
    intro j
    obtain ⟨i, x⟩ := p
    simp only [lk3, List.map_cons, List.mem_cons, not_or]
    split
    · rename_i e; simp [e]
    · rename_i e; simp [e, ih]
theorem lk3_mem : ∀ {o : List (Nat × Nat × Nat)} {j : Nat} {x : Nat × Nat}, lk3 o j = some x → (j, x) ∈ o := by
  intro o
  induction o with
  | nil => intro j x h; cases h
  | cons p o ih =>
    intro j x h
    obtain ⟨i, y⟩ := p
    simp only [lk3] at h
    split at h
    · rename_i e; subst e; cases h; simp
    · exact List.mem_cons_of_mem _ (ih h)
theorem mtO_spec : ∀ {o o' : List (Nat × Nat × Nat)} {u : Unit}, (mtO apf r o o').to u → ∀ j, (lk3 o j = none → lk3 o' j = none) ∧ ∀ a k, lk3 o j = some (a, k) → lk3 o' j = some (lkN r a, k) := by
  intro o
  induction o with
  | nil =>
    intro o' u hm j
    cases o' with
    | nil => exact ⟨fun _ => rfl, fun a k h => by cases h⟩
    | cons _ _ => exact hm.elim
  | cons p o ih =>
    intro o' u hm j
    obtain ⟨i, a, m⟩ := p
    cases o' with
    | nil => exact hm.elim
    | cons p' o' =>
      obtain ⟨i', a', m'⟩ := p'
      obtain ⟨h1, h2, h3, h4⟩ := rif_to hm
      simp only [beq_iff_eq] at h1
      have h2 : i = i' := h2
      have h3 : m = m' := h3
      subst h1 h2 h3
      simp only [lk3]
      split
      · exact ⟨fun h => (by cases h), fun a k h => by cases h; rfl⟩
      · exact ih h4 j
theorem nV_isRow {e n : Nat} {c : V} : isRow e n (nV c) ↔ isRow e n c := by cases c <;> simp [nV, isRow]
theorem nV_noown : ∀ (c : V), (nV c).noown = c.noown := by
  intro c
  induction c with
  | cat n m a b iha ihb => simp [nV, V.noown, iha, ihb]
  | one a ih => simpa [nV, V.noown] using ih
  | _ => rfl
variable {ow ow' : Own} {ρ ρ' : Rho}
/-- Content that matches a shape is told by the shape, nothing given away. -/
theorem mtC_rep : ∀ (c c' : V) {has : Nat → Bool} {ρ ρ' : Rho} {q q' : List Nat} {pos : Nat} {g : Nat → Option Value}, (mtC apf r h c c').to [] → c.hAll has = true → (∀ a l, has a = true → ρ (lkN r a) = some l → ρ' a = some l) →
    (q ≠ [] → q' ≠ [] ∧ ∀ b rr, rr ≠ [] → ow b = some (q ++ rr) → ow' b = some (q' ++ rr)) → (q' ≠ [] ∨ c.noown = true) → CRep I w ow c' ρ q pos g → CRep I w ow' c ρ' q' pos g := by
  intro c
  induction c with
  | any =>
    intro c' has ρ ρ' q q' pos g hm _ _ _ _ hc
    obtain ⟨h1, _⟩ := rif_to (show (rif (c'.size == 1 && !c'.isTup) 101 (.ok [])).to [] by cases c' <;> exact hm)
    simp only [Bool.and_eq_true, beq_iff_eq] at h1
    obtain ⟨y, h2, h3⟩ := CRep.cells c' _ _ _ _ hc 0 (by omega)
    exact ⟨y, h2, h3⟩
  | ptr a p =>
    intro c' has ρ ρ' q q' pos g hm ha hρ _ _ hc
    cases c' <;> first | exact hm.elim | skip
    obtain ⟨h1, hm⟩ := rif_to hm
    simp only [beq_iff_eq] at h1
    obtain ⟨u, h2, _⟩ := bind_to hm
    have h3 := ptR_eq h2
    subst h3
    obtain ⟨b, off, sz, h4, h5⟩ := hc
    exact ⟨b, off, sz, hρ _ _ ha (by rw [h1]; exact h4), h5⟩
  | cat n m a b iha ihb =>
    intro c' has ρ ρ' q q' pos g hm ha hρ ho hq hc
    cases c' <;> first | exact hm.elim | skip
    obtain ⟨h1, hm1⟩ := rif_to hm
    clear hm
    obtain ⟨x, h2, hm2⟩ := bind_to hm1
    obtain ⟨y, h3, h4⟩ := bind_to hm2
    clear hm1 hm2
    simp only [Bool.and_eq_true, beq_iff_eq] at h1
    obtain ⟨rfl, rfl⟩ := h1
    have h4 : x ++ y = [] := h4
    obtain ⟨rfl, rfl⟩ := List.append_eq_nil_iff.1 h4
    simp only [V.hAll, Bool.and_eq_true] at ha
    simp only [V.noown, Bool.and_eq_true] at hq
    obtain ⟨g1, g2, g3, g4⟩ := hc
    exact ⟨(mtC_size a _ h2).1.trans g1, (mtC_size b _ h3).1.trans g2, iha _ h2 ha.1 hρ ho (hq.imp id (·.1)) g3, ihb _ h3 ha.2 hρ ho (hq.imp id (·.2)) g4⟩
  | one a ih =>
    intro c' has ρ ρ' q q' pos g hm ha hρ ho hq hc
    cases c' <;> first | exact hm.elim | skip
    rename_i b
    have hs := mtC_size a b hm
    obtain ⟨g1, g2⟩ := hc
    refine ⟨?_, ih b hm ha hρ ho hq g2⟩
    by_cases e : a = .any
    · rw [e]; rfl
    · exact (hs.2 e).trans g1
  | sl a p i n e cap =>
    intro c' has ρ ρ' q q' pos g hm ha hρ ho hq hc
    cases c' <;> first | exact hm.elim | skip
    rename_i b' p' i' n' e' cap'
    obtain ⟨h1, hm1⟩ := rif_to hm
    clear hm
    obtain ⟨u, h2, h3, h4, h5⟩ := bind_to hm1
    clear hm1
    simp only [Bool.and_eq_true, beq_iff_eq] at h1
    obtain ⟨e1, rfl⟩ := h1
    have h6 := ptR_eq h2
    subst h6
    have h3 : i = i' := h3
    have h4 : n = n' := h4
    subst h3 h4
    obtain ⟨ad, c, l, k1, k2, k3, k4, k5, k6⟩ := hc
    refine ⟨ad, c, l, k1, hρ _ _ ha (by rw [e1]; exact k2), k3, k4, ?_, k6⟩
    cases cap with
    | none => trivial
    | some c1 =>
      cases cap' with
      | none => exact h5.elim
      | some c2 =>
        have h7 : c1 = c2 := h5.1
        rw [h7]; exact k5
  | dsl n e c ih =>
    intro c' has ρ ρ' q q' pos g hm ha hρ ho hq hc
    cases c' <;> first | exact hm.elim | skip
    case nsl =>
      obtain ⟨rfl, h1, h2⟩ := nilR_spec (show (nilR apf n e c).to [] from hm)
      exact ⟨none, 0, hc, by omega, by simp, h1, h2 _ _ _, .inl rfl⟩
    case zsl =>
      obtain ⟨rfl, h1, h2⟩ := nilR_spec (show (nilR apf n e c).to [] from hm)
      obtain ⟨ad, hc⟩ := hc
      refine ⟨ad, 0, hc, by omega, by simp, h1, ?_, .inl rfl⟩
      exact CRep.mono (ow := fun _ => none) (fun b hb => ⟨hb, rfl⟩) _ _ _ _ _ _ _ (Rho.le_refl _) (fun h => absurd rfl h) (fun j hj => by rw [isRow_size h1] at hj; omega) (h2 _ _ _)
    rename_i n' e' c'
    obtain ⟨h1, h2, h3⟩ := rif_to hm
    clear hm
    simp only [Bool.and_eq_true, beq_iff_eq] at h1
    obtain ⟨rfl, hrb⟩ := h1
    have h2 : n = n' := h2
    subst h2
    obtain ⟨ad, cp, k1, k2, k3, k4, k5, k6⟩ := hc
    exact ⟨ad, cp, k1, k2, k3, mtC_row hrb h3 k4, ih c' h3 (hAll_true c) (fun a l _ e => by cases e) (fun e => absurd rfl e) (.inr (row_noown hrb)) k5, k6⟩
  | ints k n l =>
    intro c' has ρ ρ' q q' pos g hm ha hρ ho hq hc
    cases c' <;> first | exact hm.elim | skip
    rename_i k' n' l'
    obtain ⟨h1, h2, h3, _⟩ := rif_to hm
    simp only [beq_iff_eq] at h1
    have h2 : n = n' := h2
    have h3 : l = l' := h3
    subst h1 h2 h3
    exact hc
  | rows e n f =>
    intro c' has ρ ρ' q q' pos g hm ha hρ ho hq hc
    cases c' <;> first | exact hm.elim | skip
    rename_i e' n' f'
    obtain ⟨h1, h2, h3, _⟩ := rif_to hm
    simp only [beq_iff_eq] at h1
    have h2 : n = n' := h2
    have h3 : ∀ j, j < n → nV (f j) = nV (f' j) := h3
    subst h1 h2
    intro j hj
    refine ⟨?_, nV_back _ ?_⟩
    · rw [← nV_size, h3 j hj, nV_size]
      exact (hc j hj).1
    · rw [h3 j hj]
      exact nV_rep _ (hc j hj).2.noow
  | osl n e c ih =>
    intro c' has ρ ρ' q q' pos g hm ha hρ ho hq hc
    have hq' : q' ≠ [] := hq.resolve_right (by simp [V.noown])
    cases c' with
    | osl n' e' c' =>
      obtain ⟨h1, h2, h3⟩ := rif_to hm
      clear hm
      simp only [Bool.and_eq_true, beq_iff_eq] at h1
      obtain ⟨rfl, hrb⟩ := h1
      have h2 : n = n' := h2
      subst h2
      obtain ⟨k0, ad, cp, k1, k2, k3, k4, k5⟩ := hc
      obtain ⟨_, ho2⟩ := ho k0
      refine ⟨hq', ad, cp, k1, k2, k3, mtC_rowX hrb h3 k4, ?_⟩
      rcases k5 with ⟨k5, k6⟩ | ⟨b, off, cur, k5, k6, k7, k8, k9⟩
      · exact .inl ⟨k5, ih c' h3 (hAll_true c) (fun a l _ e => by cases e) (fun e => absurd rfl e) (.inr (mtC_noown hrb h3 (crep_own k6))) k6⟩
      · refine .inr ⟨b, off, cur, k5, ho2 b _ (by simp) k6, k7, k8, ih c' h3 (hAll_true c) (fun a l _ e => by cases e) (fun _ => ⟨by simp, fun b' rr hr hb => ?_⟩) (.inl (by simp)) k9⟩
        have := ho2 b' ([pos] ++ rr) (by simp) (by simpa using hb)
        simpa using this
    | nsl =>
      obtain ⟨rfl, h1, h2⟩ := nilR_spec (show (nilR apf n e c).to [] from hm)
      exact ⟨hq', none, 0, hc, by omega, by simp, h1, .inl ⟨rfl, h2 _ _ _⟩⟩
    | zsl =>
      obtain ⟨rfl, h1, h2⟩ := nilR_spec (show (nilR apf n e c).to [] from hm)
      obtain ⟨ad, hc⟩ := hc
      exact ⟨hq', ad, 0, hc, by omega, by simp, h1, .inl ⟨rfl, h2 _ _ _⟩⟩
    | sl b' p' i' n' e' cap' =>
      exfalso
      simp only [mtC] at hm
      split at hm
      · obtain ⟨_, _, hm1⟩ := rif_to hm
        obtain ⟨c2, _, _, hm2⟩ := bind_to hm1
        obtain ⟨x, _, hm3⟩ := bind_to hm2
        have hm3 : _ :: x = [] := hm3
        cases hm3
      · exact hm.elim
    | _ => exact hm.elim
  | optr c ih =>
    intro c' has ρ ρ' q q' pos g hm ha hρ ho hq hc
    have hq' : q' ≠ [] := hq.resolve_right (by simp [V.noown])
    cases c' with
    | optr c' =>
      obtain ⟨k0, b, off, cur, k1, k2, k3, k5, k4⟩ := hc
      obtain ⟨_, ho2⟩ := ho k0
      refine ⟨hq', b, off, cur, k1, ho2 b _ (by simp) k2, k3, k5, ih c' hm (hAll_true c) (fun a l _ e => by cases e) (fun _ => ⟨by simp, fun b' rr hr hb => ?_⟩) (.inl (by simp)) k4⟩
      have := ho2 b' ([pos] ++ rr) (by simp) (by simpa using hb)
      simpa using this
    | ptr b p =>
      exfalso
      cases p with
      | cons _ _ => exact hm.elim
      | nil =>
        simp only [mtC] at hm
        split at hm
        · obtain ⟨x, _, hm3⟩ := bind_to hm
          have hm3 : _ :: x = [] := hm3
          cases hm3
        · exact hm.elim
    | _ => exact hm.elim
  | orow n e f o ih =>
    intro c' has ρ ρ' q q' pos g hm ha hρ ho hq hc
    have hq' : q' ≠ [] := hq.resolve_right (by simp [V.noown])
    cases c' <;> first | exact hm.elim | skip
    rename_i n' e' f' o'
    obtain ⟨h1, h2, hm⟩ := rif_to hm
    obtain ⟨u, h3, h4, _⟩ := bind_to hm
    simp only [beq_iff_eq] at h1
    have h2 : n = n' := h2
    subst h1 h2
    have h4 : ∀ j, j < n → j ∉ o.map (fun p => p.1) → nV (f j) = nV (f' j) := h4
    have ha : ∀ p ∈ o, has p.2.1 = true := by simpa [V.hAll] using ha
    obtain ⟨k0, k00, hc⟩ := hc
    obtain ⟨_, ho2⟩ := ho k0
    refine ⟨hq', k00, fun j hj => ?_⟩
    obtain ⟨a, m, cp, g1, g2, g3, g4, g5⟩ := hc j hj
    refine ⟨a, m, cp, g1, g2, g3, fun b k hl => ?_, fun hn => ?_⟩
    · obtain ⟨e1, l, e2, e3⟩ := g4 _ _ ((mtO_spec h3 j).2 b k hl)
      exact ⟨e1, l, hρ b l (ha _ (lk3_mem hl)) e2, e3⟩
    · obtain ⟨r1, r2, r3⟩ := g5 ((mtO_spec h3 j).1 hn)
      have e := h4 j hj (lk3_none.1 hn)
      refine ⟨nV_isRow.1 (by rw [e]; exact nV_isRow.2 r1), by rw [← nV_noown, e, nV_noown]; exact r2, r3.imp (fun ⟨e1, e2⟩ => ⟨e1, nV_back _ (by rw [e]; exact nV_rep _ e2.noow)⟩) (fun ⟨b, off, cur, e1, e2, e3, e4, e5⟩ => ⟨b, off, cur, e1, ho2 b _ (by simp) e2, e3, e4, nV_back _ (by rw [e]; exact nV_rep _ e5.noow)⟩)⟩
  | tcons a b _ _ => intro c' has ρ ρ' q q' pos g hm ha hρ ho hq hc; cases c' <;> first | exact hm.elim | exact hc.elim
  | tt =>
    intro c' has ρ ρ' q q' pos g hm ha hρ ho hq hc
    cases c' <;> first | exact hm.elim | exact hc | skip
    have h1 : _ = true := hm.1
    subst h1; exact hc
  | ff =>
    intro c' has ρ ρ' q q' pos g hm ha hρ ho hq hc
    cases c' <;> first | exact hm.elim | exact hc | skip
    have h1 : _ = false := hm.1
    subst h1; exact hc
  | bool b =>
    intro c' has ρ ρ' q q' pos g hm ha hρ ho hq hc
    cases c' <;> first | exact hm.elim | skip
    · have h1 : b = true := hm.1
      subst h1; exact hc
    · have h1 : b = false := hm.1
      subst h1; exact hc
    · have h1 : b = _ := hm.1
      subst h1; exact hc
  | lit k n =>
    intro c' has ρ ρ' q q' pos g hm ha hρ ho hq hc
    cases c' <;> first | exact hm.elim | skip
    all_goals
      obtain ⟨h1, h2, _⟩ := rif_to hm
      simp only [beq_iff_eq] at h1
      have h2 : n = _ := h2
      rw [h1, h2]; exact hc
  | int k n =>
    intro c' has ρ ρ' q q' pos g hm ha hρ ho hq hc
    cases c' <;> first | exact hm.elim | skip
    all_goals
      obtain ⟨h1, h2, _⟩ := rif_to hm
      simp only [beq_iff_eq] at h1
      have h2 : n = _ := h2
      rw [h1, h2]; exact hc
  | str l =>
    intro c' has ρ ρ' q q' pos g hm ha hρ ho hq hc
    cases c' <;> first | exact hm.elim | skip
    have h2 : l = _ := hm.1
    rw [h2]; exact hc
  | zsl =>
    intro c' has ρ ρ' q q' pos g hm ha hρ ho hq hc
    cases c' <;> first | exact hm.elim | exact hc | skip
    exact ⟨none, hc⟩
  | _ =>
    intro c' has ρ ρ' q q' pos g hm ha hρ ho hq hc
    cases c' <;> first | exact hm.elim | exact hc
end
end Go.Cx
/- CxHead -/
namespace Go.Cx
open Go
theorem CRep.phq {I : Nat → Prop} {w : World} {ow : Own} (c : V) : ∀ (ρ : Rho) (q q' : List Nat) (pos pos' : Nat), CRep I w ow c ρ q pos (fun _ => none) → CRep I w ow c ρ q' pos' (fun _ => none) := by
  induction c with
  | cat n m a b iha ihb => intro ρ q q' pos pos' h; exact ⟨h.1, h.2.1, iha _ _ _ _ _ h.2.2.1, ihb _ _ _ _ _ h.2.2.2⟩
  | one a ih => intro ρ q q' pos pos' h; exact ⟨h.1, ih _ _ _ _ _ h.2⟩
  | osl n e c _ => intro ρ q q' pos pos' h; obtain ⟨_, a, cp, h1, _⟩ := h; cases h1
  | optr c _ => intro ρ q q' pos pos' h; obtain ⟨_, b, off, cur, h1, _⟩ := h; cases h1
  | orow n e f o _ => intro ρ q q' pos pos' h; obtain ⟨_, _, _, h1, _⟩ := h.2.2 0 h.2.1; cases h1
  | _ => intro ρ q q' pos pos' h; exact h
theorem look_mem {α : Type} {l : List (Nat × α)} {k : Nat} {v : α} (h : look l k = some v) : (k, v) ∈ l := by
  induction l with
  | nil => cases h
  | cons p l ih =>
    obtain ⟨k', v'⟩ := p
    simp only [look] at h
    split at h
    · rename_i e
      cases h
      subst e
      simp
    · simp [ih h]
theorem look_of {α : Type} {l : List (Nat × α)} {k : Nat} {v : α} (hn : (l.map (·.1)).Nodup) (h : (k, v) ∈ l) : look l k = some v := by
  induction l with
  | nil => simp at h
  | cons p l ih =>
    obtain ⟨k', v'⟩ := p
    simp only [List.map_cons, List.nodup_cons] at hn
    simp only [look]
    rcases List.mem_cons.1 h with h | h
    · cases h; rw [if_pos rfl]
    · rw [if_neg (fun e => hn.1 (List.mem_map.2 ⟨_, h, e⟩)), ih hn.2 h]
theorem look_some {α : Type} {l : List (Nat × α)} {k : Nat} (h : k ∈ l.map (·.1)) : ∃ v, look l k = some v := by
  induction l with
  | nil => simp at h
  | cons p l ih =>
    obtain ⟨k', v'⟩ := p
    simp only [look]
    by_cases e : k = k'
    · exact ⟨v', by rw [if_pos e]⟩
    · rw [if_neg e]
      exact ih (by simpa [e] using h)
theorem lkT_mem {l : List (Nat × V)} {i : Nat} : lkT l i = .any ∨ (i, lkT l i) ∈ l := by
  induction l with
  | nil => exact .inl rfl
  | cons p l ih =>
    obtain ⟨k, v⟩ := p
    simp only [lkT]
    by_cases e : i = k
    · rw [if_pos e, e]; exact .inr (by simp)
    · rw [if_neg e]
      exact ih.imp id (fun h => by simp [h])
section
variable {I : Nat → Prop} {w : World} {ρ ρ' : Rho} {r : List (Nat × Nat)} {h : Nat → Option Blk} {has : Nat → Bool}
theorem mtV0 (hρ : ∀ a l, has a = true → ρ (lkN r a) = some l → ρ' a = some l) {v c' : V} {x : Value} (hm : (mtC apf r h v c').to []) (hn : v.noown = true) (ha : v.hAll has = true) (hv : VRep0 I w ρ c' x) : VRep0 I w ρ' v x := by
  by_cases e : v = .any
  · exact .inl e
  · rcases hv with rfl | ⟨h1, h2, h3⟩
    · cases v <;> first | exact absurd rfl e | exact hm.elim
    · obtain ⟨g1, g2⟩ := mtC_size v c' hm
      exact .inr ⟨by rw [h1, g1], by rw [h2, g2 e], mtC_rep (ow := fun _ => none) v c' hm ha hρ (fun e => absurd rfl e) (.inr hn) h3⟩
theorem mtT (hρ : ∀ a l, has a = true → ρ (lkN r a) = some l → ρ' a = some l) : ∀ {v c' : V} {l : List Value}, (mtC apf r h v c').to [] → v.noown = true → v.hAll has = true → TRep I w ρ c' l → TRep I w ρ' v l := by
  intro v
  induction v with
  | tnil => intro c' l hm _ _ hv; cases c' <;> first | exact hm.elim | exact hv
  | tcons a b _ ihb =>
    intro c' l hm hn ha hv
    cases c' <;> first | exact hm.elim | skip
    rename_i a' b'
    obtain ⟨x, h2, hm2⟩ := bind_to hm
    obtain ⟨y, h3, h4⟩ := bind_to hm2
    have h4 : x ++ y = [] := h4
    obtain ⟨rfl, rfl⟩ := List.append_eq_nil_iff.1 h4
    simp only [V.hAll, Bool.and_eq_true] at ha
    simp only [V.noown, Bool.and_eq_true] at hn
    obtain ⟨u, r', g1, g2, g3⟩ := hv
    exact ⟨u, r', g1, mtV0 hρ h2 hn.1 ha.1 g2, ihb h3 hn.2 ha.2 g3⟩
  | any =>
    intro c' l hm _ _ hv
    obtain ⟨h1, _⟩ := rif_to (show (rif (c'.size == 1 && !c'.isTup) 101 (.ok [])).to [] by cases c' <;> exact hm)
    cases c' <;> first | exact hv.elim | simp [V.isTup] at h1
  | _ => intro c' l hm _ _ hv; cases c' <;> first | exact hm.elim | exact hv.elim
theorem mtV (hρ : ∀ a l, has a = true → ρ (lkN r a) = some l → ρ' a = some l) {v c' : V} {x : Value} (hm : (mtC apf r h v c').to []) (hn : v.noown = true) (ha : v.hAll has = true) (hv : VRep I w ρ c' x) : VRep I w ρ' v x := by
  by_cases e : v = .any
  · rw [e]; exact VRep.any _ _ _ _
  · cases c' with
    | tnil => cases v <;> first | exact hm.elim | exact absurd rfl e | exact hv
    | tcons a b =>
      obtain ⟨l, h1, h2⟩ := hv
      have := mtT hρ hm hn ha h2
      cases v <;> first | exact hm.elim | exact absurd rfl e | skip
      exact ⟨l, h1, this⟩
    | _ => exact VRep0.up (mtV0 hρ hm hn ha hv)
end
section
variable {X : Fix} {I : Nat → Prop} {ρ : Rho} {ow : Own} {s : St} {tm : Array Value} {w : World}
theorem subT_spec {L : LSt} : ∀ {l : List (Nat × V)} {u : Unit}, (subT apf L s l).to u → ∀ p ∈ l, (mtC apf L.ren s.h p.2 (s.t p.1)).to [] ∧ p.2.noown = true ∧ p.2.hAll L.has = true := by
  intro l
  induction l with
  | nil => intro u _ p hp; simp at hp
  | cons q l ih =>
    intro u hu p hp
    obtain ⟨i, v⟩ := q
    obtain ⟨x, h1, h2⟩ := bind_to hu
    obtain ⟨h3, h4⟩ := rif_to h2
    simp only [Bool.and_eq_true, List.isEmpty_iff] at h3
    obtain ⟨⟨rfl, h5⟩, h6⟩ := h3
    rcases List.mem_cons.1 hp with rfl | hp
    · exact ⟨h1, h5, h6⟩
    · exact ih h4 p hp
theorem subH_spec {L : LSt} : ∀ {l : List (Nat × Blk)} {u : Unit}, (subH apf L s l).to u → ∀ p ∈ l, ∃ b', s.h (lkN L.ren p.1) = some b' ∧ kindOk p.2.k b'.k = true ∧ (p.2.k.isOwn = true ∨ p.2.c.noown = true) ∧
    (if p.2.k.isImm then p.2.c.clo = true else p.2.c.hAll L.has = true) ∧ (mtC apf L.ren s.h p.2.c b'.c).to [] := by
  intro l
  induction l with
  | nil => intro u _ p hp; simp at hp
  | cons q l ih =>
    intro u hu p hp
    obtain ⟨i, b⟩ := q
    simp only [subH] at hu
    split at hu
    · rename_i b' hb'
      obtain ⟨h1, h2⟩ := rif_to hu
      obtain ⟨x, h3, h4⟩ := bind_to h2
      obtain ⟨h5, h6⟩ := rif_to h4
      simp only [List.isEmpty_iff] at h5
      subst h5
      simp only [Bool.and_eq_true, Bool.or_eq_true] at h1
      rcases List.mem_cons.1 hp with rfl | hp
      · refine ⟨b', hb', h1.1.1, h1.1.2, ?_, h3⟩
        have := h1.2
        split at this
        · rename_i e; rw [if_pos e]; exact this
        · rename_i e; rw [if_neg e]; exact this
      · exact ih h6 p hp
    · exact hu.elim
def headRho (ρ : Rho) (L : LSt) : Rho := fun k => if 100000 ≤ k then ρ k else if (L.hs.any fun p => p.1 == k) then ρ (lkN L.ren k) else none
open Classical in
noncomputable def headOw (ow : Own) (L : LSt) : Own := fun b => match ow b with
  | some (y :: r) => if h : ∃ k, k ∈ L.hs.map (·.1) ∧ lkN L.ren k = y then some (h.choose :: r) else none
  | _ => none
theorem map_nodup_inj {f : Nat → Nat} : ∀ {l : List (Nat × Blk)}, (l.map fun p => f p.1).Nodup → ∀ {a b : Nat}, a ∈ l.map (·.1) → b ∈ l.map (·.1) → f a = f b → a = b := by
  intro l
  induction l with
  | nil => intro _ a b ha; simp at ha
  | cons p l ih =>
    intro hn a b ha hb e
    simp only [List.map_cons, List.nodup_cons] at hn
    simp only [List.map_cons, List.mem_cons] at ha hb
    have mem : ∀ {c : Nat}, c ∈ l.map (·.1) → f c ∈ l.map (fun p => f p.1) := fun {c} hc => by
      obtain ⟨q, hq, e⟩ := List.mem_map.1 hc
      exact List.mem_map.2 ⟨q, hq, by rw [← e]⟩
    rcases ha with rfl | ha <;> rcases hb with rfl | hb
    · rfl
    · exact absurd (e ▸ mem hb) hn.1
    · exact absurd (e ▸ mem ha) hn.1
    · exact ih hn.2 ha hb e
/-- a state told by a loop's head -/
theorem Rep.head (h : Rep X I ρ ow s tm w) (hr0 : ∀ k l, X.r0 k = some l → 100000 ≤ k) {L : LSt} {u : Unit} (hs : (subR apf s L).to u) : Rep X I (headRho ρ L) (headOw ow L) L.st tm w := by
  obtain ⟨h1, hs⟩ := rif_to hs
  obtain ⟨u', hT, hH⟩ := bind_to hs
  simp only [Bool.and_eq_true, List.all_eq_true, decide_eq_true_eq] at h1
  obtain ⟨⟨n1, n2⟩, n3⟩ := h1
  have n1 := nodupN_spec n1
  have n2 := nodupN_spec n2
  have hT := subT_spec hT
  have hH := subH_spec hH
  have big : ∀ k, 100000 ≤ k → lkN L.ren k = k := fun k hk => by
    simp only [lkN]
    cases hq : look L.ren k with
    | none => rfl
    | some j =>
      have := (n3 _ (look_mem hq)).1
      omega
  have ham : ∀ k, (L.hs.any fun p => p.1 == k) = true ↔ k ∈ L.hs.map (·.1) := fun k => by simp [List.any_eq_true, List.mem_map]
  have hρk : ∀ k, k ∈ L.hs.map (·.1) → headRho ρ L k = ρ (lkN L.ren k) := fun k hk => by
    simp only [headRho]
    split
    · rename_i e; rw [big k e]
    · rw [if_pos ((ham k).2 hk)]
  have hρ : ∀ a l, L.has a = true → ρ (lkN L.ren a) = some l → headRho ρ L a = some l := fun a l ha hl => by
    simp only [LSt.has, Bool.or_eq_true, decide_eq_true_eq] at ha
    rcases ha with ha | ha
    · rw [big a ha] at hl
      simp only [headRho, if_pos ha, hl]
    · rw [hρk a ((ham a).1 ha), hl]
  have how : ∀ b y r k, ow b = some (y :: r) → k ∈ L.hs.map (·.1) → lkN L.ren k = y → headOw ow L b = some (k :: r) := fun b y r k hb hk e => by
    have hex : ∃ k, k ∈ L.hs.map (·.1) ∧ lkN L.ren k = y := ⟨k, hk, e⟩
    simp only [headOw, hb, dif_pos hex]
    rw [map_nodup_inj (f := lkN L.ren) n2 hex.choose_spec.1 hk (hex.choose_spec.2.trans e.symm)]
  have hno : ∀ b, ow b = none → headOw ow L b = none := fun b hb => by simp [headOw, hb]
  exact
    { frame := h.frame
      size := h.size
      os := h.os
      tape := h.tape
      output := h.output
      iold := h.iold
      inew := h.inew
      ilt := h.ilt
      iow := fun b hb => hno b (h.iow b hb)
      owf := fun b q hb => by
        simp only [headOw] at hb
        split at hb
        · rename_i y r hy
          split at hb
          · rename_i hex
            cases hb
            obtain ⟨g1, g2, hd, r', c, g3, g4⟩ := h.owf b _ hy
            cases g3
            obtain ⟨g5, g6⟩ := hex.choose_spec
            obtain ⟨⟨k, blk⟩, hk, e⟩ := List.mem_map.1 g5
            simp only at e
            obtain ⟨b', g7, g8, _⟩ := hH _ hk
            simp only at g7 g8
            rw [e, g6, g4] at g7
            cases g7
            obtain ⟨bk, bc⟩ := blk
            refine ⟨g1, g2, hex.choose, r, bc, rfl, ?_⟩
            show look L.hs hex.choose = _
            rw [← e, look_of n1 hk]
            cases bk <;> first | rfl | cases g8
          · cases hb
        · cases hb
      dom := fun k l hk hlt => by
        simp only [headRho] at hk
        rw [if_neg (by omega)] at hk
        split at hk
        · rename_i e
          obtain ⟨v, hv⟩ := look_some ((ham k).1 e)
          show look L.hs k ≠ none
          rw [hv]; simp
        · cases hk
      glob := fun n => by
        obtain ⟨sz, hg⟩ := h.glob n
        refine ⟨sz, ?_⟩
        simp only [headRho]
        rw [if_pos (by simp only [globH]; omega)]
        exact hg
      tsz := h.tsz
      nle := h.nle
      rle := fun k l hk => by
        simp only [headRho]
        rw [if_pos (hr0 k l hk)]
        exact h.rle k l hk
      tmps := fun i => by
        show VRep I w (headRho ρ L) (lkT L.ts i) _
        rcases lkT_mem (l := L.ts) (i := i) with e | e
        · rw [e]; exact VRep.any _ _ _ _
        · obtain ⟨g1, g2, g3⟩ := hT _ e
          exact mtV hρ g1 g2 g3 (h.tmps i)
      heap := fun k blk hk => by
        have hk : look L.hs k = some blk := hk
        have hm := look_mem hk
        have hkm : k ∈ L.hs.map (·.1) := List.mem_map.2 ⟨_, hm, rfl⟩
        obtain ⟨b', g1, g2, g3, g4, g5⟩ := hH _ hm
        simp only at g1 g2 g3 g4 g5
        obtain ⟨l, g6, g7⟩ := h.heap _ _ g1
        refine ⟨l, by rw [hρk k hkm]; exact g6, ?_⟩
        obtain ⟨bk, bc⟩ := blk
        obtain ⟨bk', bc'⟩ := b'
        simp only at g2 g3 g4 g5
        have hsz := (mtC_size bc bc' g5).1
        cases bk <;> cases bk' <;> first | cases g2 | skip
        · simp only [Bk.isImm, Bool.false_eq_true, if_false] at g4
          have hO : [lkN L.ren k] ≠ [] → [k] ≠ [] ∧ ∀ b rr, rr ≠ [] → ow b = some ([lkN L.ren k] ++ rr) → headOw ow L b = some ([k] ++ rr) := fun _ => ⟨by simp, fun b rr _ hb => how b _ rr k hb hkm rfl⟩
          rcases g7 with ⟨rfl, q1, q2⟩ | ⟨b, off, sz, cur, rfl, q1, q2, q3, q4⟩
          · refine .inl ⟨rfl, hsz.trans q1, ?_⟩
            have := mtC_rep bc bc' g5 g4 hρ hO (.inl (by simp)) (CRep.anyq bc' ρ [lkN L.ren k] 0 0 _ q2)
            exact CRep.phq _ _ _ _ _ _ this
          · exact .inr ⟨b, off, sz, cur, rfl, how b _ [] k q1 hkm rfl, q2, q3, mtC_rep bc bc' g5 g4 hρ hO (.inl (by simp)) q4⟩
        · simp only [Bk.isImm, Bool.false_eq_true, if_false] at g4
          have hn : bc.noown = true := by simpa [Bk.isOwn] using g3
          rcases g7 with ⟨rfl, q1, q2⟩ | ⟨b, off, sz, rfl, q1, q2, q3, q4⟩
          · exact .inl ⟨rfl, hsz.trans q1, mtC_rep bc bc' g5 g4 hρ (fun e => absurd rfl e) (.inr hn) q2⟩
          · exact .inr ⟨b, off, sz, rfl, q1, hno b q2, by simp only at q3 ⊢; omega, mtC_rep bc bc' g5 g4 hρ (fun e => absurd rfl e) (.inr hn) q4⟩
        · have hn : bc.noown = true := by simpa [Bk.isOwn] using g3
          rcases g7 with ⟨rfl, q1, q2⟩ | ⟨b, off, sz, rfl, q1, q2, q3⟩
          · exact .inl ⟨rfl, hsz.trans q1, mtC_rep bc bc' g5 (hAll_true bc) (fun _ _ _ e => by cases e) (fun e => absurd rfl e) (.inr hn) q2⟩
          · exact .inr ⟨b, off, sz, rfl, q1, by simp only at q2 ⊢; omega, mtC_rep bc bc' g5 (hAll_true bc) (fun _ _ _ e => by cases e) (fun e => absurd rfl e) (.inr hn) q3⟩ }
theorem VRep0.okv {v : V} {x : Value} (h : VRep0 I w ρ v x) : v.okv := by
  rcases h with rfl | ⟨_, _, h⟩
  · trivial
  · exact CRep.okv _ _ _ _ _ h
theorem TRep.okv : ∀ {v : V} {l : List Value}, TRep I w ρ v l → v.okv := by
  intro v
  induction v with
  | tnil => intro l _; trivial
  | tcons a b _ ihb => intro l h; obtain ⟨y, r, _, h2, h3⟩ := h; exact ⟨h2.okv, ihb h3⟩
  | _ => intro l h; exact h.elim
theorem VRep.okv {v : V} {x : Value} (h : VRep I w ρ v x) : v.okv := by
  cases v with
  | tnil => trivial
  | tcons a b => obtain ⟨l, _, h2⟩ := h; exact h2.okv
  | _ => exact VRep0.okv h
theorem blk_okv {hd : Nat} {l : Lo} {k : Bk} {c : V} (hk : k ≠ .dead) (h : BRep I w ρ ow hd l ⟨k, c⟩) : c.okv := by
  cases k with
  | own => rcases h with ⟨_, _, h⟩ | ⟨_, _, _, _, _, _, _, _, h⟩ <;> exact CRep.okv _ _ _ _ _ h
  | bor => rcases h with ⟨_, _, h⟩ | ⟨_, _, _, _, _, _, _, h⟩ <;> exact CRep.okv _ _ _ _ _ h
  | imm => rcases h with ⟨_, _, h⟩ | ⟨_, _, _, _, _, _, h⟩ <;> exact CRep.okv _ _ _ _ _ h
  | dead => exact absurd rfl hk
theorem okTs_of : ∀ {l : List (Nat × V)}, (∀ p ∈ l, p.2.okv) → okTs l
  | [], _ => trivial
  | (i, v) :: l, h => ⟨h (i, v) (by simp), okTs_of (fun p hp => h p (by simp [hp]))⟩
theorem okHs_of : ∀ {l : List (Nat × Blk)}, (∀ p ∈ l, p.2.c.okv) → okHs l
  | [], _ => trivial
  | (i, b) :: l, h => ⟨h (i, b) (by simp), okHs_of (fun p hp => h p (by simp [hp]))⟩
theorem head_ok (hr0 : ∀ k l, X.r0 k = some l → 100000 ≤ k) : HeadOk X := by
  intro s L a w ⟨⟨I, ρ, ow, h⟩, df⟩ hs
  obtain ⟨u, hs, _⟩ := all_to hs
  obtain ⟨h1', hpb, hs⟩ := bind_to hs
  obtain ⟨ow, h⟩ := h.pbHs hpb
  have hn := h.head hr0 hs
  refine ⟨⟨⟨I, _, _, hn⟩, df⟩, ?_, ?_⟩
  · have hs' := hs
    obtain ⟨_, hs'⟩ := rif_to hs'
    obtain ⟨u', hT, _⟩ := bind_to hs'
    refine okTs_of fun p hp => ?_
    obtain ⟨g1, g2, g3⟩ := subT_spec hT p hp
    exact VRep.okv (mtV (I := I) (w := w) (ρ := ρ) (ρ' := fun k => ρ (lkN L.ren k)) (fun _ _ _ e => e) g1 g2 g3 (h.tmps p.1))
  · obtain ⟨h1, hs'⟩ := rif_to hs
    obtain ⟨u', _, hH⟩ := bind_to hs'
    simp only [Bool.and_eq_true] at h1
    have n1 := nodupN_spec h1.1.1
    refine okHs_of fun p hp => ?_
    obtain ⟨b', _, g2, _⟩ := subH_spec hH p hp
    obtain ⟨l, _, g5⟩ := hn.heap p.1 p.2 (look_of n1 hp)
    obtain ⟨i, ⟨bk, bc⟩⟩ := p
    exact blk_okv (fun e => by cases e; exact absurd g2 (by simp [kindOk])) g5
end
end Go.Cx
/- CxFn2 -/
namespace Go.Cx
open Go
/-- which handles go into content, and where -/
def mtP (h : Nat → Option Blk) : V → V → List Nat → Nat → List (Nat × List Nat)
  | .cat n _ a b, .cat _ _ a' b', q, pos => mtP h a a' q pos ++ mtP h b b' q (pos + n)
  | .one a, .one b, q, pos => mtP h a b q pos
  | .tcons a b, .tcons a' b', q, pos => mtP h a a' q pos ++ mtP h b b' q pos
  | .osl _ _ _, .sl b _ _ _ _ _, q, pos => [(b, q ++ [pos])]
  | .optr c, .optr c', q, pos => mtP h c c' (q ++ [pos]) 0
  | .optr c, .ptr b _, q, pos => match h b with
    | some blk => (b, q ++ [pos]) :: mtP h c blk.c (q ++ [pos]) 0
    | none => []
  | _, _, _, _ => []
theorem clo_hAll {f : Nat → Bool} : ∀ (c : V), c.clo = true → c.hAll f = true := by
  intro c
  induction c with
  | cat n m a b iha ihb => intro h; simp only [V.clo, Bool.and_eq_true] at h; simp [V.hAll, iha h.1, ihb h.2]
  | tcons a b iha ihb => intro h; simp only [V.clo, Bool.and_eq_true] at h; simp [V.hAll, iha h.1, ihb h.2]
  | one a ih => intro h; simpa [V.hAll] using ih (by simpa [V.clo] using h)
  | ptr hd p => intro h; simp [V.clo] at h
  | sl hd p i n e cap => intro h; simp [V.clo] at h
  | orow n e f o => intro h; simp only [V.clo, List.isEmpty_iff] at h; subst h; rfl
  | _ => intro _; rfl
theorem mtP_pre {h : Nat → Option Blk} : ∀ (c c' : V) {q : List Nat} {pos y : Nat} {path : List Nat}, (y, path) ∈ mtP h c c' q pos → ∃ r, path = q ++ r := by
  intro c
  induction c with
  | cat n m a b iha ihb =>
    intro c' q pos y path hm
    cases c' <;> simp only [mtP, List.not_mem_nil] at hm
    rcases List.mem_append.1 hm with hm | hm
    · exact iha _ hm
    · exact ihb _ hm
  | tcons a b iha ihb =>
    intro c' q pos y path hm
    cases c' <;> simp only [mtP, List.not_mem_nil] at hm
    rcases List.mem_append.1 hm with hm | hm
    · exact iha _ hm
    · exact ihb _ hm
  | one a ih =>
    intro c' q pos y path hm
    cases c' <;> simp only [mtP, List.not_mem_nil] at hm
    exact ih _ hm
  | osl n e c _ =>
    intro c' q pos y path hm
    cases c' <;> simp only [mtP, List.not_mem_nil, List.mem_singleton, Prod.mk.injEq] at hm
    exact ⟨[pos], hm.2⟩
  | optr c ih =>
    intro c' q pos y path hm
    cases c' <;> simp only [mtP, List.not_mem_nil] at hm
    · split at hm
      · rename_i blk hblk
        rcases List.mem_cons.1 hm with hm | hm
        · cases hm; exact ⟨[pos], rfl⟩
        · obtain ⟨r, e⟩ := ih _ hm
          exact ⟨pos :: r, by simp [e]⟩
      · simp at hm
    · obtain ⟨r, e⟩ := ih _ hm
      exact ⟨pos :: r, by simp [e]⟩
  | _ => intro c' q pos y path hm; cases c' <;> simp [mtP] at hm
section
variable {I : Nat → Prop} {w : World} {r : List (Nat × Nat)} {h : Nat → Option Blk}
theorem row_fst {c c' : V} {x : List Nat} (hb : c.isRowB = true) (hm : (mtC apf r h c c').to x) : x = [] := by
  cases c <;> first | cases hb | skip
  · cases c' <;> first | exact hm.elim | skip
    obtain ⟨_, _, _, h2⟩ := rif_to hm
    exact h2.symm
  · cases c' <;> first | exact hm.elim | skip
    obtain ⟨_, _, _, h2⟩ := rif_to hm
    exact h2.symm
theorem rowX_fst {c c' : V} {x : List Nat} (hb : c.isRowX = true) (hm : (mtC apf r h c c').to x) : x = [] := by
  cases c with
  | ints => exact row_fst rfl hm
  | rows => exact row_fst rfl hm
  | orow =>
    cases c' <;> first | exact hm.elim | skip
    obtain ⟨_, _, h2⟩ := rif_to hm
    obtain ⟨_, _, _, h3⟩ := bind_to h2
    exact h3.symm
  | _ => cases hb
theorem nilR_fst {n e : Nat} {c : V} {x : List Nat} (hm : (nilR apf n e c).to x) : x = [] := by
  cases c <;> first | exact hm.elim | skip
  · obtain ⟨_, _, _, _, h2⟩ := rif_to hm
    exact h2.symm
  · obtain ⟨_, _, _, h2⟩ := rif_to hm
    exact h2.symm
theorem mtC_fst : ∀ (c c' : V) {x : List Nat} {q : List Nat} {pos : Nat}, c.clo = true → (mtC apf r h c c').to x → x = (mtP h c c' q pos).map (·.1) := by
  intro c
  induction c with
  | cat n m a b iha ihb =>
    intro c' x q pos hc hm
    simp only [V.clo, Bool.and_eq_true] at hc
    cases c' <;> first | exact hm.elim | skip
    obtain ⟨h1, hm1⟩ := rif_to hm
    obtain ⟨x1, h2, hm2⟩ := bind_to hm1
    obtain ⟨x2, h3, h4⟩ := bind_to hm2
    have h4 : x1 ++ x2 = x := h4
    simp only [mtP, List.map_append]
    rw [← iha _ hc.1 h2, ← ihb _ hc.2 h3, h4]
  | one a ih =>
    intro c' x q pos hc hm
    cases c' <;> first | exact hm.elim | skip
    exact ih _ (by simpa [V.clo] using hc) hm
  | osl n e c _ =>
    intro c' x q pos hc hm
    cases c' with
    | osl n' e' c' =>
      obtain ⟨h1, h2, h3⟩ := rif_to hm
      simp only [Bool.and_eq_true] at h1
      exact rowX_fst h1.2 h3
    | nsl => exact nilR_fst (show (nilR apf n e c).to x from hm)
    | zsl => exact nilR_fst (show (nilR apf n e c).to x from hm)
    | sl b' p' i' n' e' cap' =>
      simp only [mtC] at hm
      split at hm
      · obtain ⟨h1, _, hm1⟩ := rif_to hm
        obtain ⟨c2, _, _, hm2⟩ := bind_to hm1
        obtain ⟨x2, h3, hm3⟩ := bind_to hm2
        simp only [Bool.and_eq_true] at h1
        have h4 := rowX_fst h1.1.2 h3
        subst h4
        exact hm3.symm
      · exact hm.elim
    | _ => exact hm.elim
  | optr c ih =>
    intro c' x q pos hc hm
    simp only [V.clo] at hc
    cases c' with
    | optr c' => exact ih _ hc hm
    | ptr b p =>
      cases p with
      | cons _ _ => exact hm.elim
      | nil =>
        simp only [mtC] at hm
        split at hm
        · rename_i c2 hb
          obtain ⟨x2, h3, hm3⟩ := bind_to hm
          have hm3 : b :: x2 = x := hm3
          simp only [mtP, hb, List.map_cons]
          rw [← hm3, ih c2 (q := q ++ [pos]) (pos := 0) hc h3]
        · exact hm.elim
    | _ => exact hm.elim
  | tcons a b iha ihb =>
    intro c' x q pos hc hm
    simp only [V.clo, Bool.and_eq_true] at hc
    cases c' <;> first | exact hm.elim | skip
    obtain ⟨x1, h2, hm2⟩ := bind_to hm
    obtain ⟨x2, h3, h4⟩ := bind_to hm2
    have h4 : x1 ++ x2 = x := h4
    simp only [mtP, List.map_append]
    rw [← iha _ hc.1 h2, ← ihb _ hc.2 h3, h4]
  | dsl n e c _ =>
    intro c' x q pos hc hm
    cases c' <;> first | exact hm.elim | skip
    case nsl => exact nilR_fst (show (nilR apf n e c).to x from hm)
    case zsl => exact nilR_fst (show (nilR apf n e c).to x from hm)
    obtain ⟨h1, h2, h3⟩ := rif_to hm
    simp only [Bool.and_eq_true] at h1
    exact row_fst h1.2 h3
  | any => intro c' x q pos hc; cases hc
  | ptr hd p => intro c' x q pos hc; cases hc
  | sl hd p i n e cap => intro c' x q pos hc; cases hc
  | ints k n l => intro c' x q pos hc hm; have := row_fst rfl hm; subst this; cases c' <;> rfl
  | rows e n f => intro c' x q pos hc hm; have := row_fst rfl hm; subst this; cases c' <;> rfl
  | orow n e f o => intro c' x q pos hc hm; have := rowX_fst rfl hm; subst this; cases c' <;> rfl
  | _ =>
    intro c' x q pos hc hm
    cases c' <;> first | exact hm.elim | exact hm.symm | exact hm.2.symm | exact (rif_to hm).2.2.symm
variable {ow ow' : Own} {ρ : Rho}
/-- no element behind nothing -/
theorem subs_none {c c2 : V} {j : Nat} (h : (c.subs apf j 0).to c2) : CRep I w ow' c2 noR [] 0 (fun _ => none) := by
  cases c <;> simp only [V.subs] at h <;> first | exact h.elim | skip
  · cases h
    exact ⟨by simp [apf, subL], by simp [apf, subL], fun j hj => by omega⟩
  · cases h
    exact fun j hj => by omega
theorem subs_row {c c2 : V} {i m e n : Nat} (h : (c.subs apf i m).to c2) (hr : isRow e n c) : isRow e m c2 := by
  cases c <;> simp only [V.subs] at h <;> first | exact h.elim | skip
  · cases h; exact ⟨rfl, hr.2⟩
  · cases h; exact ⟨rfl, hr.2⟩
/-- Content that matches a shape is told by the shape, with what goes into it. -/
theorem mtC_own (hheap : ∀ b blk, h b = some blk → ∃ l, ρ b = some l ∧ BRep I w ρ ow b l blk) : ∀ (c c' : V) {ρ1 ρ' : Rho} {q q' : List Nat} {pos : Nat} {g : Nat → Option Value} {x : List Nat}, c.clo = true → Rho.le ρ1 ρ → (mtC apf r h c c').to x →
    (q ≠ [] → q' ≠ [] ∧ ∀ b p rr, ow b = some (q ++ p :: rr) → ow' b = some (q' ++ p :: rr)) → (∀ y path rr b, (y, path) ∈ mtP h c c' q' pos → ow b = some (y :: rr) → ow' b = some (path ++ rr)) → (q' ≠ [] ∨ c.noown = true) →
    CRep I w ow c' ρ1 q pos g → CRep I w ow' c ρ' q' pos g := by
  intro c
  have plain : ∀ (c c' : V) {ρ1 ρ' : Rho} {q q' : List Nat} {pos : Nat} {g : Nat → Option Value}, c.clo = true → (mtC apf r h c c').to [] →
      (q ≠ [] → q' ≠ [] ∧ ∀ b p rr, ow b = some (q ++ p :: rr) → ow' b = some (q' ++ p :: rr)) → (q' ≠ [] ∨ c.noown = true) → CRep I w ow c' ρ1 q pos g → CRep I w ow' c ρ' q' pos g := by
    intro c c' ρ1 ρ' q q' pos g hc hm ho hq hr
    refine mtC_rep c c' (has := fun _ => false) hm (clo_hAll c hc) (fun _ _ e => by cases e) (fun e => ⟨(ho e).1, fun b rr hrr hb => ?_⟩) hq hr
    cases rr with
    | nil => exact absurd rfl hrr
    | cons p rr => exact (ho e).2 b p rr hb
  induction c with
  | cat n m a b iha ihb =>
    intro c' ρ1 ρ' q q' pos g x hc hρ hm ho hp hq hr
    simp only [V.clo, Bool.and_eq_true] at hc
    simp only [V.noown, Bool.and_eq_true] at hq
    cases c' <;> first | exact hm.elim | skip
    rename_i n' m' a' b'
    obtain ⟨h1, hm1⟩ := rif_to hm
    obtain ⟨x1, h2, hm2⟩ := bind_to hm1
    obtain ⟨x2, h3, h4⟩ := bind_to hm2
    simp only [Bool.and_eq_true, beq_iff_eq] at h1
    obtain ⟨rfl, rfl⟩ := h1
    obtain ⟨g1, g2, g3, g4⟩ := hr
    refine ⟨(mtC_size a _ h2).1.trans g1, (mtC_size b _ h3).1.trans g2, iha _ hc.1 hρ h2 ho (fun y path rr b hy => hp y path rr b ?_) (hq.imp id (·.1)) g3, ihb _ hc.2 hρ h3 ho (fun y path rr b hy => hp y path rr b ?_) (hq.imp id (·.2)) g4⟩
    · exact List.mem_append.2 (.inl hy)
    · exact List.mem_append.2 (.inr hy)
  | one a ih =>
    intro c' ρ1 ρ' q q' pos g x hc hρ hm ho hp hq hr
    cases c' <;> first | exact hm.elim | skip
    rename_i b
    have hs := mtC_size a b hm
    obtain ⟨g1, g2⟩ := hr
    refine ⟨?_, ih b (by simpa [V.clo] using hc) hρ hm ho hp hq g2⟩
    by_cases e : a = .any
    · rw [e]; rfl
    · exact (hs.2 e).trans g1
  | osl n e c _ =>
    intro c' ρ1 ρ' q q' pos g x hc hρ hm ho hp hq hr
    have hx := mtC_fst (q := q') (pos := pos) _ _ hc hm
    cases c' with
    | osl n' e' c' => rw [show x = [] from hx] at hm; exact plain _ _ hc hm ho hq hr
    | nsl => rw [show x = [] from hx] at hm; exact plain _ _ hc hm ho hq hr
    | zsl => rw [show x = [] from hx] at hm; exact plain _ _ hc hm ho hq hr
    | sl b p i m e' cap =>
      have hq' : q' ≠ [] := hq.resolve_right (by simp [V.noown])
      simp only [V.clo] at hc
      simp only [mtC] at hm
      split at hm
      · rename_i c1 hb
        obtain ⟨h1, h2, hm1⟩ := rif_to hm
        obtain ⟨c2, h3, h4, hm2⟩ := bind_to hm1
        obtain ⟨x2, h5, hm3⟩ := bind_to hm2
        simp only [Bool.and_eq_true, beq_iff_eq] at h1
        obtain ⟨⟨rfl, hrow⟩, hre⟩ := h1
        have h2 : n = m := h2
        subst h2
        have h4 : i + n ≤ c1.cnt := h4
        rw [rowX_fst hrow h5] at h5
        obtain ⟨a, cp, l, k1, k2, k3, k4, _, k6⟩ := hr
        obtain ⟨l', k7, k8⟩ := hheap b _ hb
        rw [hρ _ _ k2] at k7
        cases k7
        by_cases hor : ∃ N e2 f2 o2, c1 = .orow N e2 f2 o2
        · obtain ⟨N, e2, f2, o2, rfl⟩ := hor
          obtain ⟨g1, g2, g3⟩ := h3
          have g1 : i = 0 := g1
          have g2 : n = N := g2
          have g3 : V.orow N e2 f2 o2 = c2 := g3
          subst g1 g2 g3
          have hre : 1 = e := hre
          subst hre
          have hpos : 0 < n := by
            rcases k8 with ⟨_, _, k8⟩ | ⟨_, _, _, _, _, _, _, _, k8⟩
            · exact absurd rfl k8.1
            · exact k8.2.1
          obtain ⟨bk, off, sz, rfl, rfl, k9⟩ := k6.resolve_left (by omega)
          rcases k8 with ⟨k8, _⟩ | ⟨bk', off', sz', cur, k8, j1, j2, j3, j4⟩
          · cases k8
          cases k8
          simp only [poff, Nat.zero_add, Nat.zero_mul, Nat.add_zero] at k9
          refine ⟨hq', _, cp, k1, k3, k4, mtC_rowX hrow h5 ⟨rfl, rfl⟩, .inr ⟨bk, off, cur, by simp [poff], ?_, j2, by omega, ?_⟩⟩
          · simpa using hp b (q' ++ [pos]) [] bk (by simp [mtP]) j1
          · refine plain (q := [b]) (q' := q' ++ [pos]) (ρ' := noR) c _ hc h5 (fun _ => ⟨by simp, fun b' p' rr hb' => ?_⟩) (.inl (by simp)) j4
            exact hp b (q' ++ [pos]) (p' :: rr) b' (by simp [mtP]) hb'
        have h3 : (c1.subs apf i n).to c2 := by
          have e : c1.subsO apf i n = c1.subs apf i n := by cases c1 <;> first | rfl | exact absurd ⟨_, _, _, _, rfl⟩ hor
          rw [← e]; exact h3
        have hrow1 := isRow_cnt h3
        rw [hre] at hrow1
        by_cases hcp : cp = 0
        · subst hcp
          obtain rfl : n = 0 := by omega
          have hr2 : isRow e 0 c2 := subs_row h3 hrow1
          exact ⟨hq', a, 0, k1, k3, k4, mtC_rowX hrow h5 hr2, .inl ⟨rfl, plain c c2 hc h5 (fun e => absurd rfl e) (.inr (mtC_noown hrow h5 (crep_own (subs_none (I := I) (w := w) (ow' := ow) h3)))) (subs_none (ow' := ow) h3)⟩⟩
        · obtain ⟨bk, off, sz, rfl, rfl, k9⟩ := k6.resolve_left hcp
          rcases k8 with ⟨k8, _⟩ | ⟨bk', off', sz', cur, k8, j1, j2, j3, j4⟩
          · cases k8
          cases k8
          obtain ⟨j5, j6⟩ := subs_rep h3 hrow1 h4 j4
          simp only [poff, Nat.zero_add] at k9
          refine ⟨hq', _, cp, k1, k3, k4, mtC_rowX hrow h5 j5, .inr ⟨bk, off + i * e, cur, by simp [poff], ?_, j2, by omega, ?_⟩⟩
          · simpa using hp b (q' ++ [pos]) [] bk (by simp [mtP]) j1
          · have j7 := plain (q' := q' ++ [pos]) (ρ' := noR) c c2 hc h5 (fun e => absurd rfl e) (.inl (by simp)) j6
            simpa [Nat.add_assoc] using j7
      · exact hm.elim
    | _ => exact hm.elim
  | optr c ih =>
    intro c' ρ1 ρ' q q' pos g x hc hρ hm ho hp hq hr
    have hq' : q' ≠ [] := hq.resolve_right (by simp [V.noown])
    simp only [V.clo] at hc
    cases c' with
    | optr c' =>
      obtain ⟨k0, b, off, cur, k1, k2, k3, k5, k4⟩ := hr
      obtain ⟨_, ho2⟩ := ho k0
      refine ⟨hq', b, off, cur, k1, ho2 b pos [] k2, k3, k5, ih c' hc (noR_le _) hm (fun _ => ⟨by simp, fun b' p rr hb => ?_⟩) (fun y path rr b' hy => hp y path rr b' hy) (.inl (by simp)) k4⟩
      have := ho2 b' pos (p :: rr) (by simpa using hb)
      simpa using this
    | ptr b p =>
      cases p with
      | cons _ _ => exact hm.elim
      | nil =>
        simp only [mtC] at hm
        split at hm
        · rename_i c1 hb
          obtain ⟨x2, h3, _⟩ := bind_to hm
          obtain ⟨bk, off, sz, k1, k2⟩ := hr
          obtain ⟨l', k7, k8⟩ := hheap b _ hb
          rw [hρ _ _ k1] at k7
          cases k7
          rcases k8 with ⟨k8, _⟩ | ⟨bk', off', sz', cur, k8, j1, j2, j3, j4⟩
          · cases k8
          cases k8
          refine ⟨hq', bk, off, cur, by simpa [poff] using k2, ?_, j2, by omega, ih c1 hc (Rho.le_refl _) h3 (fun _ => ⟨by simp, fun b' p rr hb' => ?_⟩) (fun y path rr b' hy hb' => hp y path rr b' ?_ hb') (.inl (by simp)) j4⟩
          · simpa using hp b (q' ++ [pos]) [] bk (by simp [mtP, hb]) j1
          · exact hp b (q' ++ [pos]) (p :: rr) b' (by simp [mtP, hb]) hb'
          · simp only [mtP, hb]
            exact List.mem_cons_of_mem _ hy
        · exact hm.elim
    | _ => exact hm.elim
  | tcons a b _ _ => intro c' ρ1 ρ' q q' pos g x hc hρ hm ho hp hq hr; cases c' <;> first | exact hm.elim | exact hr.elim
  | _ =>
    intro c' ρ1 ρ' q q' pos g x hc hρ hm ho hp hq hr
    first
      | cases hc; done
      | exact plain _ _ hc (by have hx := mtC_fst (q := q') (pos := pos) _ _ hc hm; rw [show x = [] from by rw [hx]; cases c' <;> rfl] at hm; exact hm) ho hq hr
end
end Go.Cx
/- CxFn3 -/
namespace Go.Cx
open Go
def resV (ap : AP) (s : St) : IRes → R V
  | .t n => .ok (s.t n)
  | .cell n z agg => (stepR ap [] s.t s.h none (.ld z agg (.t n))).bind fun e => .ok e.v
def resL (ap : AP) (s : St) : List IRes → R V
  | [] => .ok .tnil
  | r :: l => (resV ap s r).bind fun v => rif (!v.isTup) 135 ((resL ap s l).bind fun t => .ok (.tcons v t))
def resR (ap : AP) (s : St) : List IRes → R V
  | [r] => resV ap s r
  | l => resL ap s l
def renOf : V → V → List (Nat × Nat)
  | .ptr a _, .ptr b _ => [(a, b)]
  | .sl a _ _ _ _ _, .sl b _ _ _ _ _ => [(a, b)]
  | .tcons a b, .tcons a' b' => renOf a a' ++ renOf b b'
  | .cat _ _ a b, .cat _ _ a' b' => renOf a a' ++ renOf b b'
  | .one a, .one b => renOf a b
  | _, _ => []
def mtHs (ap : AP) (r : List (Nat × Nat)) (h : Nat → Option Blk) : List (Nat × Blk) → R (List Nat)
  | [] => .ok []
  | (i, b) :: l => match h (lkN r i) with
    | some ⟨.own, c'⟩ => rif (b.k.isOwn && b.c.clo) 130 ((mtC ap r h b.c c').bind fun x => (mtHs ap r h l).bind fun y => .ok (lkN r i :: x ++ y))
    | _ => .fail 131
/-- the last state, against what is handed over -/
def endR (ap : AP) (s : St) (v : V) (ov : V) (hs : List (Nat × Blk)) (r : List (Nat × Nat)) : R Unit :=
  rif (nodupN (hs.map fun p => p.1) && r.all fun p => decide (p.1 < 100000) && decide (p.2 < 100000)) 132 <|
  (mtC ap r s.h ov v).bind fun x => rif (x.isEmpty && ov.noown && ov.hAll (fun k => hs.any fun p => p.1 == k)) 133 <|
  (mtHs ap r s.h hs).bind fun ys => rif (nodupN ys) 134 (.ok ())
def finR (ap : AP) (s : St) (args : List Arg) (out : Out) (res : List IRes) : R Unit :=
  (resR ap s res).bind fun v => (pbAll ap 40 ((List.range args.length).map parH ++ leafHs v) s.h).bind fun h' => endR ap ⟨s.t, h'⟩ v out.v (outO 0 args out.objs ++ outN 0 out.news) (renOf out.v v)
/-- the places of all that is handed over -/
def pths (r : List (Nat × Nat)) (h : Nat → Option Blk) : List (Nat × Blk) → List (Nat × List Nat)
  | [] => []
  | (i, b) :: l => (match h (lkN r i) with | some blk => (lkN r i, [i]) :: mtP h b.c blk.c [i] 0 | none => []) ++ pths r h l
section
variable {r : List (Nat × Nat)} {h : Nat → Option Blk}
theorem mtHs_spec : ∀ {l : List (Nat × Blk)} {ys : List Nat}, (mtHs apf r h l).to ys → ys = (pths r h l).map (·.1) ∧
    ∀ p ∈ l, ∃ c' x, h (lkN r p.1) = some ⟨.own, c'⟩ ∧ p.2.k = .own ∧ p.2.c.clo = true ∧ (mtC apf r h p.2.c c').to x ∧ (∀ z ∈ (lkN r p.1, [p.1]) :: mtP h p.2.c c' [p.1] 0, z ∈ pths r h l) := by
  intro l
  induction l with
  | nil => intro ys hm; cases hm; exact ⟨rfl, fun p hp => by simp at hp⟩
  | cons q l ih =>
    intro ys hm
    obtain ⟨i, b⟩ := q
    simp only [mtHs] at hm
    split at hm
    · rename_i c' hc
      obtain ⟨h1, hm⟩ := rif_to hm
      obtain ⟨x, h2, hm⟩ := bind_to hm
      obtain ⟨y, h3, h4⟩ := bind_to hm
      have h4 : lkN r i :: x ++ y = ys := h4
      obtain ⟨g1, g2⟩ := ih h3
      simp only [Bool.and_eq_true] at h1
      have hx := mtC_fst (q := [i]) (pos := 0) _ _ h1.2 h2
      refine ⟨?_, fun p hp => ?_⟩
      · simp only [pths, hc, List.map_append, List.map_cons]
        rw [← h4, ← g1, ← hx]
      · rcases List.mem_cons.1 hp with rfl | hp
        · refine ⟨c', x, hc, ?_, h1.2, h2, fun z hz => ?_⟩
          · have := h1.1
            cases hk : b.k <;> simp_all [Bk.isOwn]
          · simp only [pths, hc]
            exact List.mem_append.2 (.inl hz)
        · obtain ⟨c1, x1, k1, k2, k3, k4, k5⟩ := g2 p hp
          refine ⟨c1, x1, k1, k2, k3, k4, fun z hz => ?_⟩
          simp only [pths]
          exact List.mem_append.2 (.inr (k5 z hz))
    · exact hm.elim
theorem pths_key : ∀ {l : List (Nat × Blk)} {y : Nat} {path : List Nat}, (y, path) ∈ pths r h l → ∃ i rr, path = i :: rr ∧ i ∈ l.map (·.1) := by
  intro l
  induction l with
  | nil => intro y path hm; simp [pths] at hm
  | cons q l ih =>
    intro y path hm
    obtain ⟨i, b⟩ := q
    simp only [pths] at hm
    rcases List.mem_append.1 hm with hm | hm
    · split at hm
      · rename_i blk _
        rcases List.mem_cons.1 hm with hm | hm
        · cases hm; exact ⟨i, [], rfl, by simp⟩
        · obtain ⟨rr, e⟩ := mtP_pre _ _ hm
          exact ⟨i, rr, e, by simp⟩
      · simp at hm
    · obtain ⟨j, rr, e, hj⟩ := ih hm
      exact ⟨j, rr, e, by simp [hj]⟩
end
section
variable {X : Fix} {I : Nat → Prop} {ρ : Rho} {ow : Own} {s : St} {tm : Array Value} {w : World}
def endRho (ρ : Rho) (r : List (Nat × Nat)) (hs : List (Nat × Blk)) : Rho := fun k => if 100000 ≤ k then ρ k else if (hs.any fun p => p.1 == k) then ρ (lkN r k) else none
def endOw (ow : Own) (π : List (Nat × List Nat)) : Own := fun b => match ow b with
  | some (y :: rr) => (look π y).map (· ++ rr)
  | _ => none
/-- The last state, told by what is handed over. -/
theorem Rep.close (h : Rep X I ρ ow s tm w) (hr0 : ∀ k l, X.r0 k = some l → 100000 ≤ k) {v ov : V} {hs : List (Nat × Blk)} {r : List (Nat × Nat)} {u : Unit} (hE : (endR apf s v ov hs r).to u) :
    ∃ ρ' ow', Rep ⟨X.F, X.I0, X.w0, 0, X.r0⟩ I ρ' ow' ⟨fun _ => .any, look hs⟩ #[] w ∧ ∀ x, VRep I w ρ v x → VRep I w ρ' ov x := by
  obtain ⟨h1, hE⟩ := rif_to hE
  obtain ⟨x, h2, hE⟩ := bind_to hE
  obtain ⟨h3, hE⟩ := rif_to hE
  obtain ⟨ys, h4, hE⟩ := bind_to hE
  obtain ⟨h5, _⟩ := rif_to hE
  simp only [Bool.and_eq_true, List.all_eq_true, decide_eq_true_eq, List.isEmpty_iff] at h1 h3
  obtain ⟨n1, n3⟩ := h1
  obtain ⟨⟨rfl, hno⟩, hall⟩ := h3
  have n1 := nodupN_spec n1
  have n2 := nodupN_spec h5
  obtain ⟨rfl, hH⟩ := mtHs_spec h4
  have big : ∀ k, 100000 ≤ k → lkN r k = k := fun k hk => by
    simp only [lkN]
    cases hq : look r k with
    | none => rfl
    | some j =>
      have := (n3 _ (look_mem hq)).1
      omega
  have ham : ∀ k, (hs.any fun p => p.1 == k) = true ↔ k ∈ hs.map (·.1) := fun k => by simp [List.any_eq_true, List.mem_map]
  have hρk : ∀ k, k ∈ hs.map (·.1) → endRho ρ r hs k = ρ (lkN r k) := fun k hk => by
    simp only [endRho]
    split
    · rename_i e; rw [big k e]
    · rw [if_pos ((ham k).2 hk)]
  have hπ : ∀ y path rr b, (y, path) ∈ pths r s.h hs → ow b = some (y :: rr) → endOw ow (pths r s.h hs) b = some (path ++ rr) := fun y path rr b hy hb => by
    simp only [endOw, hb, look_of n2 hy, Option.map_some]
  have hnone : ∀ b, ow b = none → endOw ow (pths r s.h hs) b = none := fun b hb => by simp [endOw, hb]
  refine ⟨endRho ρ r hs, endOw ow (pths r s.h hs), ?_, fun x hx => mtV (has := fun k => hs.any fun p => p.1 == k) (fun a l ha hl => by rw [hρk a ((ham a).1 ha), hl]) h2 hno hall hx⟩
  exact
    { frame := h.frame
      size := h.size
      os := h.os
      tape := h.tape
      output := h.output
      iold := h.iold
      inew := h.inew
      ilt := h.ilt
      iow := fun b hb => hnone b (h.iow b hb)
      owf := fun b q hb => by
        simp only [endOw] at hb
        split at hb
        · rename_i y rr hy
          cases hl : look (pths r s.h hs) y with
          | none => rw [hl] at hb; cases hb
          | some path =>
            rw [hl] at hb
            cases hb
            obtain ⟨i, r2, rfl, hi⟩ := pths_key (look_mem hl)
            obtain ⟨g1, g2, _⟩ := h.owf b _ hy
            obtain ⟨p, hp, rfl⟩ := List.mem_map.1 hi
            obtain ⟨c', x', _, k2, _⟩ := hH p hp
            refine ⟨g1, g2, p.1, r2 ++ rr, p.2.c, by simp, ?_⟩
            show look hs p.1 = _
            obtain ⟨i, ⟨bk, bc⟩⟩ := p
            simp only at k2 ⊢
            rw [look_of n1 hp, k2]
        · cases hb
      dom := fun k l hk hlt => by
        simp only [endRho] at hk
        rw [if_neg (by omega)] at hk
        split at hk
        · rename_i e
          obtain ⟨v, hv⟩ := look_some ((ham k).1 e)
          show look hs k ≠ none
          rw [hv]; simp
        · cases hk
      glob := fun n => by
        obtain ⟨sz, hg⟩ := h.glob n
        refine ⟨sz, ?_⟩
        simp only [endRho]
        rw [if_pos (by simp only [globH]; omega)]
        exact hg
      tsz := rfl
      nle := by simp
      rle := fun k l hk => by
        simp only [endRho]
        rw [if_pos (hr0 k l hk)]
        exact h.rle k l hk
      tmps := fun i => VRep.any _ _ _ _
      heap := fun k blk hk => by
        have hk : look hs k = some blk := hk
        have hm := look_mem hk
        have hkm : k ∈ hs.map (·.1) := List.mem_map.2 ⟨_, hm, rfl⟩
        obtain ⟨c', x', g1, g2, g3, g4, g5⟩ := hH _ hm
        obtain ⟨bk, bc⟩ := blk
        simp only at g1 g2 g3 g4 g5
        subst g2
        obtain ⟨l, g6, g7⟩ := h.heap _ _ g1
        refine ⟨l, by rw [hρk k hkm]; exact g6, ?_⟩
        have hheap : ∀ b blk, s.h b = some blk → ∃ l, ρ b = some l ∧ BRep I w ρ ow b l blk := h.heap
        have hself : ∀ rr b, ow b = some (lkN r k :: rr) → endOw ow (pths r s.h hs) b = some (k :: rr) := fun rr b hb => by
          simpa using hπ _ [k] rr b (g5 _ (by simp)) hb
        have hcons : ∀ y path rr b, (y, path) ∈ mtP s.h bc c' [k] 0 → ow b = some (y :: rr) → endOw ow (pths r s.h hs) b = some (path ++ rr) := fun y path rr b hy hb => hπ y path rr b (g5 _ (List.mem_cons_of_mem _ hy)) hb
        have hO : [lkN r k] ≠ [] → [k] ≠ [] ∧ ∀ b p rr, ow b = some ([lkN r k] ++ p :: rr) → endOw ow (pths r s.h hs) b = some ([k] ++ p :: rr) := fun _ => ⟨by simp, fun b p rr hb => hself _ _ hb⟩
        have hsz := (mtC_size bc c' g4).1
        rcases g7 with ⟨rfl, q1, q2⟩ | ⟨b, off, sz, cur, rfl, q1, q2, q3, q4⟩
        · refine .inl ⟨rfl, hsz.trans q1, ?_⟩
          have := mtC_own hheap bc c' (ρ' := endRho ρ r hs) g3 (Rho.le_refl _) g4 hO hcons (.inl (by simp)) (CRep.anyq c' ρ [lkN r k] 0 0 _ q2)
          exact CRep.phq _ _ _ _ _ _ this
        · exact .inr ⟨b, off, sz, cur, rfl, hself [] b q1, q2, q3, mtC_own hheap bc c' g3 (Rho.le_refl _) g4 hO hcons (.inl (by simp)) q4⟩ }
end
end Go.Cx
/- CxFn4 -/
namespace Go.Cx
open Go
def okAs : List Arg → Prop
  | [] => True
  | .v v :: r => v.okv ∧ okAs r
  | .b n e c :: r => (n ≤ 9223372036854775807 ∧ isRow e n c ∧ c.okv) ∧ okAs r
  | .o c _ :: r => c.okv ∧ okAs r
def st0 (G : List (Nat × V)) (pure : Bool) (args : List Arg) : St := ⟨lkT (inT 0 args), opn 40 9000 ((List.range args.length).map parH) (parHs G pure args)⟩
def fnQ (ap : AP) (args : List Arg) (out : Out) (res : List IRes) : Ex → St → Prop
  | .exit _, _ => False
  | _, s => (finR ap s args out res).all fun _ => True
/-- the slots, guards and results of a function are in order -/
def fnOk (P : Program) (f : Nat) : Bool := match P.funcs[f]? with
  | some fn => (match fn.body with | some c => codeOk fn.ntmps c | none => false) && decide (fn.ntmps ≤ 9000) && decide (fn.results.size ≤ 4) &&
      fn.results.toList.all fun r => match r with | .tmp _ => true | .cell _ t => sz P t != 0 && (P.underlying t).isSome
  | none => false
section
variable {P : Program} {X : Fix} {I : Nat → Prop} {ρ : Rho} {ow : Own} {s : St} {a : Act} {w : World}
def resOne (tm : Array Value) : ResultVar → Sem Value
  | .tmp t => pure (tm.getD t undef)
  | .cell a t => do loadVar t (← asAddr (tm.getD a undef))
theorem results_eq (fn : Func) (tm : Array Value) : results fn tm = (do let vs ← fn.results.mapM (resOne tm); pure (if h : vs.size = 1 then vs[0] else .tuple vs)) := rfl
def irOf (P : Program) : ResultVar → IRes
  | .tmp t => .t t
  | .cell a t => .cell a (sz P t) (aggT P t)
theorem resOne_run (h : Rep X I ρ ow s a.tmps w) {r : ResultVar} (hr : (match r with | .tmp _ => true | .cell _ t => sz P t != 0 && (P.underlying t).isSome) = true) {v : V} (hv : (resV apf s (irOf P r)).to v) :
    ∃ x, (resOne a.tmps r).run P w = .ok x w ∧ VRep I w ρ v x := by
  cases r with
  | tmp t =>
    cases hv
    exact ⟨_, rfl, h.tmps t⟩
  | cell n t =>
    simp only [Bool.and_eq_true, bne_iff_ne, Option.isSome_iff_exists] at hr
    obtain ⟨hz, d, hd⟩ := hr
    obtain ⟨e, he, hve⟩ := bind_to hv
    cases hve
    have hv := ev_rep h (x := .tmp n) (i := .t n) rfl
    simp only [stepR] at he
    have fin : ∀ (b off : Nat) (v u : V) (q : List Nat) (pos : Nat) (ow : Own), a.tmps.getD n undef = .pointer (some ⟨b, off, none⟩) → CRep I w ow v ρ q pos (cellsAt w b off) → v.size = sz P t → v.noown = true → (wrapV (aggT P t) v).to u →
        ∃ x, (resOne a.tmps (.cell n t)).run P w = .ok x w ∧ VRep I w ρ u x := by
      intro b off v u q pos ow hp hc hs hno hw
      obtain ⟨y, hy, hvy⟩ := load_run (P := P) hd hz hc hno hs hw
      exact ⟨y, by simp [resOne, hp, asAddr, hy], hvy⟩
    split at he
    · rename_i hh p e1
      rw [e1] at hv
      obtain ⟨b, off, sz', h1, h2⟩ := vr_ptr hv
      split at he
      · exact he.elim
      · rename_i kk c hnd hh2
        obtain ⟨v, hat, he⟩ := bind_to he
        obtain ⟨hs, he⟩ := rif_to he
        simp only [Bool.and_eq_true, beq_iff_eq] at hs
        obtain ⟨hs, hno⟩ := hs
        obtain ⟨u, hu, he⟩ := bind_to he
        cases he
        obtain ⟨q, hg⟩ := blk_cells h hh2 h1 (fun e => hnd e)
        obtain ⟨h9, _⟩ := at_rep _ _ hat hg
        refine fin b (off + poff p) v u q (0 + poff p) ow h2 ?_ hs hno hu
        have e2 : cellsAt w b (off + poff p) = fun j => cellsAt w b off (poff p + j) := by funext j; simp [cellsAt, Nat.add_assoc]
        rw [e2]; exact h9
      · exact he.elim
    · rename_i c p e1
      rw [e1] at hv
      obtain ⟨b, off, hI, h2, h3⟩ := vr_dptr hv
      obtain ⟨v, hat, he⟩ := bind_to he
      obtain ⟨hs, he⟩ := rif_to he
      simp only [Bool.and_eq_true, beq_iff_eq] at hs
      obtain ⟨hs, hno⟩ := hs
      obtain ⟨u, hu, he⟩ := bind_to he
      cases he
      have h3' : CRep I w (fun _ => none) c ρ [] 0 (cellsAt w b off) := CRep.mono (fun b hb => ⟨hb, rfl⟩) _ _ _ _ _ _ _ (noR_le ρ) (fun h => absurd rfl h) (fun _ _ => rfl) h3
      obtain ⟨h9, _⟩ := at_rep _ _ hat h3'
      refine fin b (off + poff p) v u [] (0 + poff p) (fun _ => none) h2 ?_ hs hno hu
      have e2 : cellsAt w b (off + poff p) = fun j => cellsAt w b off (poff p + j) := by funext j; simp [cellsAt, Nat.add_assoc]
      rw [e2]; exact h9
    · exact he.elim
theorem vr0_of {v : V} {x : Value} (ht : v.isTup = false) (h : VRep I w ρ v x) : VRep0 I w ρ v x := by
  cases v <;> first | exact h | cases ht
theorem resL_run (h : Rep X I ρ ow s a.tmps w) : ∀ {rs : List ResultVar} {v : V}, (rs.all fun r => match r with | .tmp _ => true | .cell _ t => sz P t != 0 && (P.underlying t).isSome) = true → (resL apf s (rs.map (irOf P))).to v →
    ∃ l, F2 (fun r x => (resOne a.tmps r).run P w = .ok x w) rs l ∧ TRep I w ρ v l := by
  intro rs
  induction rs with
  | nil => intro v _ hv; cases hv; exact ⟨[], .nil, rfl⟩
  | cons r rs ih =>
    intro v hok hv
    simp only [List.all_cons, Bool.and_eq_true] at hok
    obtain ⟨u, h1, hv⟩ := bind_to hv
    obtain ⟨h2, hv⟩ := rif_to hv
    obtain ⟨t, h3, hv⟩ := bind_to hv
    cases hv
    obtain ⟨x, g1, g2⟩ := resOne_run h hok.1 h1
    obtain ⟨l, g3, g4⟩ := ih hok.2 h3
    exact ⟨x :: l, .cons g1 g3, x, l, rfl, vr0_of (by simpa using h2) g2, g4⟩
theorem tup_vr {v : V} {l : List Value} (h : TRep I w ρ v l) : VRep I w ρ v (.tuple l.toArray) := by
  cases v <;> first | exact h.elim | skip
  · have : l = [] := h
    subst this; rfl
  · exact ⟨l, rfl, h⟩
theorem results_run (h : Rep X I ρ ow s a.tmps w) {fn : Func} (hn : fn.results.size ≤ 4) (hok : (fn.results.toList.all fun r => match r with | .tmp _ => true | .cell _ t => sz P t != 0 && (P.underlying t).isSome) = true) {v : V}
    (hv : (resR apf s (fn.results.toList.map (irOf P))).to v) : ∃ x, (results fn a.tmps).run P w = .ok x w ∧ VRep I w ρ v x := by
  rw [results_eq]
  obtain ⟨rs, hrs⟩ : ∃ rs, fn.results = List.toArray rs := ⟨fn.results.toList, by simp⟩
  rw [hrs] at hn hok hv ⊢
  simp only at hok hv
  have multi : ∀ {rs : List ResultVar}, rs.length ≠ 1 → rs.length ≤ 4 → (rs.all fun r => match r with | .tmp _ => true | .cell _ t => sz P t != 0 && (P.underlying t).isSome) = true → (resL apf s (rs.map (irOf P))).to v →
      ∃ x, (do let vs ← rs.toArray.mapM (resOne a.tmps); pure (if h : vs.size = 1 then vs[0] else .tuple vs) : Sem Value).run P w = .ok x w ∧ VRep I w ρ v x := by
    intro rs h1 h4 hok hv
    obtain ⟨l, g1, g2⟩ := resL_run h hok hv
    refine ⟨.tuple l.toArray, ?_, tup_vr g2⟩
    cases g1 with
    | nil => simp
    | cons a1 g1 =>
      cases g1 with
      | nil => simp at h1
      | cons a2 g1 =>
        cases g1 with
        | nil => simp [a1, a2]
        | cons a3 g1 =>
          cases g1 with
          | nil => simp [a1, a2, a3]
          | cons a4 g1 =>
            cases g1 with
            | nil => simp [a1, a2, a3, a4]
            | cons a5 g1 => simp at h4
  match rs, hn, hok, hv with
  | [], _, hok, hv => exact multi (by simp) (by simp) hok hv
  | [r], _, hok, hv =>
    simp only [List.all_cons, Bool.and_eq_true] at hok
    obtain ⟨x, g1, g2⟩ := resOne_run h hok.1 hv
    exact ⟨x, by simp [g1], g2⟩
  | a :: b :: l, hn, hok, hv => exact multi (by simp) (by simpa using hn) hok hv
theorem compRes_eq {rs : List ResultVar} : compRes P rs = some (rs.map (irOf P)) := by
  induction rs with
  | nil => rfl
  | cons r rs ih =>
    simp only [compRes, List.map_cons] at ih ⊢
    cases r <;> simp only [optL, ih] <;> rfl
theorem okAs_of : ∀ {args : List Arg} {i0 : Nat} {G : List (Nat × V)} {pure : Bool} {all : List Arg}, (∀ (i : Nat) (a : Arg), args[i]? = some a → all[i0 + i]? = some a) → all.length ≤ 100000 →
    Rep X I ρ ow ⟨fun _ => .any, parHs G pure all⟩ #[] w → (∀ (i : Nat) (a : Arg), all[i]? = some a → ∃ x, VRep I w ρ (parV i a) x) → (∀ (i n e : Nat) (c : V), all[i]? = some (.b n e c) → isRow e n c) → okAs args := by
  intro args
  induction args with
  | nil => intros; trivial
  | cons a args ih =>
    intro i0 G pure all hsub hlen h hv hrow
    have h0 := hsub 0 a rfl
    rw [Nat.add_zero] at h0
    have hrest : okAs args := ih (i0 := i0 + 1) (fun i b hb => by
      have := hsub (i + 1) b (by simpa using hb)
      rwa [show i0 + (i + 1) = i0 + 1 + i by omega] at this) hlen h hv hrow
    obtain ⟨x, hx⟩ := hv i0 a h0
    have hil : i0 < all.length := (List.getElem?_eq_some_iff.1 h0).1
    cases a with
    | v v => exact ⟨VRep.okv hx, hrest⟩
    | b n e c =>
      have h1 : V.okv (.sl (parH i0) [] 0 n e none) := VRep.okv hx
      obtain ⟨l, _, g2⟩ := h.heap (parH i0) ⟨.bor, c⟩ (by
        show parHs G pure all (parH i0) = _
        rw [parHs_par (by omega), h0]; rfl)
      exact ⟨⟨h1, hrow _ _ _ _ h0, blk_okv (by simp) g2⟩, hrest⟩
    | o c vw =>
      obtain ⟨l, _, g2⟩ := h.heap (parH i0) ⟨if pure then .bor else .own, c⟩ (by
        show parHs G pure all (parH i0) = _
        rw [parHs_par (by omega), h0]; rfl)
      exact ⟨blk_okv (by cases pure <;> simp) g2, hrest⟩
theorem lkT_inT : ∀ {args : List Arg} {i0 i : Nat}, (∃ a, args[i]? = some a ∧ lkT (inT i0 args) (i0 + i) = parV (i0 + i) a) ∨ (args[i]? = none ∧ lkT (inT i0 args) (i0 + i) = .any) := by
  intro args
  induction args with
  | nil => intro i0 i; exact .inr ⟨by simp, rfl⟩
  | cons a args ih =>
    intro i0 i
    cases i with
    | zero => refine .inl ⟨a, rfl, ?_⟩; rcases a with v | ⟨n, e, c⟩ | ⟨c, _ | ⟨j, n, e, cap⟩⟩ <;> simp [inT, lkT, parV]
    | succ i =>
      have := ih (i0 := i0 + 1) (i := i)
      rw [show i0 + 1 + i = i0 + (i + 1) by omega] at this
      have e : lkT (inT i0 (a :: args)) (i0 + (i + 1)) = lkT (inT (i0 + 1) args) (i0 + (i + 1)) := by
        rcases a with v | ⟨n, e, c⟩ | ⟨c, _ | ⟨j, n, e, cap⟩⟩ <;> simp [inT, lkT]
      rw [e]
      simpa using this
/-- A function whose code keeps the contract, step by step in the small code, keeps it. -/
theorem fn_sound {G : List (Nat × V)} {pure : Nat → Bool} {E : List (Nat × Ctr)} {f : Nat} {ic : IFn} {ctr : Ctr} (hm : P.follows .mixedOrders = true) (hcall : ∀ xs w, (callFunc f xs).run P w = .ok (.enter f xs) w)
    (hok : fnOk P f = true) (hic : comp P pure f = some ic) (hE : EnvSound P G pure E)
    (hvc : ∀ args out, (ctr args).to out → okAs args → args.length = ic.nargs ∧ ic.nargs ≤ ic.ntmps ∧ ∃ A : List (Nat × Ann), run apf E A ic.body (fnQ apf args out ic.res) (st0 G (pure f) args)) : Sound P G f (pure f) ctr := by
  refine ⟨hcall, ?_⟩
  intro args out vals w F I ρ ow hctr hlen hlen2 hrow hIF hR hV
  simp only [fnOk] at hok
  split at hok
  · rename_i fn hfn
    cases hbody : fn.body with
    | none => rw [hbody] at hok; simp at hok
    | some c =>
      rw [hbody] at hok
      simp only [Bool.and_eq_true, decide_eq_true_eq] at hok
      obtain ⟨⟨⟨hco, hnt⟩, hrs⟩, hrok⟩ := hok
      simp only [comp, hfn, hbody, compRes_eq, Option.some.injEq] at hic
      have hvget : ∀ (i : Nat) (a : Arg), args[i]? = some a → ∃ x, VRep I w ρ (parV i a) x := fun i a hi => ⟨_, hV i a hi⟩
      have hokas : okAs args := okAs_of (i0 := 0) (all := args) (fun i a h => by rwa [Nat.zero_add]) hlen2 hR hvget hrow
      obtain ⟨hn1, hn2, A, hrun⟩ := hvc args out hctr hokas
      subst hic
      simp only at hn1 hn2 hrun
      let X : Fix := ⟨F, I, w, fn.ntmps, ρ⟩
      have hr0 : ∀ k l, X.r0 k = some l → 100000 ≤ k := fun k l hk => by
        rcases Nat.lt_or_ge k 100000 with h | h
        · have := hR.dom k l hk h
          exfalso
          apply this
          show parHs G (pure f) args k = none
          simp only [parHs]
          rw [if_neg (by omega), if_neg (by omega)]
        · exact h
      -- the first state
      have hsz : vals.toArray.size = args.length := by simp [hlen]
      have htsz : (vals.toArray ++ Array.replicate (fn.ntmps - vals.toArray.size) undef).size = fn.ntmps := by
        simp only [Array.size_append, Array.size_replicate]; omega
      have hfirst : Rep X I ρ ow ⟨lkT (inT 0 args), parHs G (pure f) args⟩ (vals.toArray ++ Array.replicate (fn.ntmps - vals.toArray.size) undef) w :=
        { hR with
          tsz := htsz
          nle := by show fn.ntmps ≤ 100000; omega
          tmps := fun i => by
            show VRep I w ρ (lkT (inT 0 args) i) _
            rcases lkT_inT (args := args) (i0 := 0) (i := i) with ⟨a, h1, h2⟩ | ⟨_, h2⟩
            · rw [Nat.zero_add] at h2
              rw [h2]
              have hil : i < args.length := (List.getElem?_eq_some_iff.1 h1).1
              have e : (vals.toArray ++ Array.replicate (fn.ntmps - vals.toArray.size) undef).getD i undef = vals.toArray.getD i undef := by
                rw [Array.getD_eq_getD_getElem?, Array.getD_eq_getD_getElem?, Array.getElem?_append_left (by omega)]
              rw [e]
              exact hV i a h1
            · rw [Nat.zero_add] at h2
              rw [h2]
              exact VRep.any _ _ _ _ }
      obtain ⟨ρ1, ow1, _, hopen⟩ := Rep.opens (s := ⟨lkT (inT 0 args), parHs G (pure f) args⟩) 40 9000 ((List.range args.length).map parH) (by omega) hfirst
      have hRA : RA X (st0 G (pure f) args) { tmps := vals.toArray ++ Array.replicate (fn.ntmps - vals.toArray.size) undef, defers := [] } w := ⟨⟨I, ρ1, ow1, hopen⟩, rfl⟩
      have hG : GOk G X :=
        { i0 := fun b hb => ⟨hIF b hb, hR.ilt b hb⟩
          g := fun n c hn => by
            obtain ⟨l, h1, h2⟩ := hR.heap (globH n) ⟨.imm, c⟩ (by
              show parHs G (pure f) args (globH n) = _
              simp [parHs, globH, hn])
            obtain ⟨sz, h3⟩ := hR.glob n
            rw [h1] at h3
            cases h3
            rcases h2 with ⟨h4, _⟩ | ⟨k, off, sz', h4, h5, h6, h7⟩
            · cases h4
            · cases h4
              exact ⟨h5, ⟨sz, h1, h6⟩, h7.noow⟩ }
      have hE' : EnvSound P G (fun k => if 5000000 ≤ k ∧ k < 7000000 then pure (k + 10000000 * (f + 1)) else pure k) E := fun g d h5 hl => by
        have := hE g d h5 hl
        simp only
        rw [if_neg (by omega)]
        exact this
      refine calls_of_wp hfn hbody (Code.wp_mono (fun e a' w' hq => ?_) (code_sound hm hG hE' (head_ok hr0) _ c A 0 _ _ _ _ hco hRA hrun))
      have fin : ∀ s, fnQ apf args out (fn.results.toList.map (irOf P)) .nrm s → RA X s a' w' → bodyPost P fn (fun en w' => ∃ x I' ρ' ow', en = .returned x ∧ VRep I' w' ρ' out.v x ∧ Rep ⟨F, I, w, 0, ρ⟩ I' ρ' ow' ⟨fun _ => .any, outHs args out⟩ #[] w') .normal a' w' := by
        rintro s hs ⟨⟨I', ρ', ow', h'⟩, hdf⟩
        obtain ⟨u, hu, _⟩ := all_to hs
        obtain ⟨v, hv, hu2⟩ := bind_to hu
        obtain ⟨h2, hpb, hend⟩ := bind_to hu2
        obtain ⟨x, hx1, hx2⟩ := results_run h' hrs hrok hv
        obtain ⟨ow3, h''⟩ := Rep.pbAll 40 h' hpb
        obtain ⟨ρ2, ow2, g1, g2⟩ := h''.close hr0 hend
        exact bodyPost_end hx1 hdf ⟨x, I', ρ2, ow2, rfl, g2 x hx2, g1⟩
      cases e with
      | normal => obtain ⟨s, h1, h2⟩ := hq; exact fin s h1 h2
      | ret => obtain ⟨s, h1, h2⟩ := hq; exact fin s h1 h2
      | exit i => obtain ⟨s, h1, h2⟩ := hq; exact h1.elim
      | goto l => exact hq.elim
      | panic c => exact hq.elim
      | outgrown => exact hq.elim
  · cases hok
end
end Go.Cx
/- CxL -/
namespace Go.Cx
open Go
theorem wadd_i64 {x y : Int} (h : -9223372036854775808 ≤ x + y ∧ x + y ≤ 9223372036854775807) : wadd .i64 x y = x + y := IntWalk.i64_in _ h
theorem wsub_i64 {x y : Int} (h : -9223372036854775808 ≤ x - y ∧ x - y ≤ 9223372036854775807) : wsub .i64 x y = x - y := IntWalk.i64_in _ h
theorem wmul_i64 {x y : Int} (h : -9223372036854775808 ≤ x * y ∧ x * y ≤ 9223372036854775807) : wmul .i64 x y = x * y := IntWalk.i64_in _ h
theorem wadd_u64 {x y : Int} (h : 0 ≤ x + y ∧ x + y ≤ 18446744073709551615) : wadd .u64 x y = x + y := IntWalk.u64_in _ h
theorem wcv_i64 {x : Int} (h : -9223372036854775808 ≤ x ∧ x ≤ 9223372036854775807) : wcv .i64 x = x := IntWalk.i64_in _ h
theorem wcv_u64 {x : Int} (h : 0 ≤ x ∧ x ≤ 18446744073709551615) : wcv .u64 x = x := IntWalk.u64_in _ h
theorem wcv_u32 {x : Int} (h : 0 ≤ x ∧ x ≤ 4294967295) : wcv .u32 x = x := IntWalk.u32_in _ h
theorem inc_i64 {i : Nat} (h : i + 1 ≤ 9223372036854775807) : wadd .i64 (i : Int) 1 = ((i + 1 : Nat) : Int) := (wadd_i64 (by omega)).trans (by omega)
theorem quo_i64 {i k : Nat} (h : i ≤ 9223372036854775807) : wquo .i64 (i : Int) (k : Int) = ((i / k : Nat) : Int) := by
  have e : ((i : Int).tdiv (k : Int)) = ((i / k : Nat) : Int) := rfl
  rw [wquo, e]
  have h2 := Nat.div_le_self i k
  generalize i / k = q at h2
  exact IntWalk.i64_in _ ⟨by omega, by omega⟩
theorem rem_i64 {i k : Nat} : wrem .i64 (i : Int) (k : Int) = ((i % k : Nat) : Int) := rfl
theorem inR_u32 {x : Int} : inR .u32 x ↔ 0 ≤ x ∧ x ≤ 4294967295 := by simp [inR, IntKind.min, IntKind.max, IntKind.bits, IntKind.signed]
theorem inR_u8 {x : Int} : inR .u8 x ↔ 0 ≤ x ∧ x ≤ 255 := by simp [inR, IntKind.min, IntKind.max, IntKind.bits, IntKind.signed]
theorem bor_comm (k : IntKind) (x y : Int) : bor k x y = bor k y x := by simp only [bor, BitVec.or_comm]
theorem bxor_comm (k : IntKind) (x y : Int) : bxor k x y = bxor k y x := by simp only [bxor, BitVec.xor_comm]
/-- the next place of a row that is filled from the front -/
theorem setI_fill {a : List Int} {m i : Nat} {x z : Int} (h : a.length = i) (hm : 0 < m) : setI (a ++ List.replicate m z) i x = a ++ [x] ++ List.replicate (m - 1) z := by
  subst h
  obtain ⟨m, rfl⟩ : ∃ k, m = k + 1 := ⟨m - 1, by omega⟩
  simp [setI, List.replicate_succ]
theorem fillL_set {f : Nat → Int} {i m : Nat} {x : Int} (h : i < m) (hx : x = f i) : setI ((List.range i).map f ++ List.replicate (m - i) 0) i x = (List.range (i + 1)).map f ++ List.replicate (m - (i + 1)) 0 := by
  rw [setI_fill (by simp) (by omega), hx, List.range_succ, List.map_append]
  rfl
theorem subL_all {b : List Int} {n : Nat} (h : b.length ≤ n) : subL b 0 n = b := by
  rw [subL, List.drop_zero, List.take_of_length_le h]
theorem subL_one {x : Int} : subL [x] 0 1 = [x] := rfl
theorem nthI_app_lt {a b : List Int} {i : Nat} (h : i < a.length) : nthI (a ++ b) i = nthI a i := by
  simp [nthI, List.getD_eq_getElem?_getD, List.getElem?_append_left h]
theorem nthI_take {a : List Int} {i n : Nat} (h : i < n) : nthI (a.take n) i = nthI a i := by
  simp [nthI, List.getD_eq_getElem?_getD, h]
theorem nthI_drop {a : List Int} {i n : Nat} : nthI (a.drop n) i = nthI a (n + i) := by
  simp [nthI, List.getD_eq_getElem?_getD, List.getElem?_drop]
theorem nthI_subL {a : List Int} {i n j : Nat} (h : j < n) : nthI (subL a i n) j = nthI a (i + j) := by
  rw [subL, nthI_take h, nthI_drop]
theorem nthI_cat {a b : List Int} {j : Nat} : nthI (a ++ b) j = if j < a.length then nthI a j else nthI b (j - a.length) := by
  split
  · exact nthI_app_lt ‹_›
  · simp only [nthI, List.getD_eq_getElem?_getD]
    rw [List.getElem?_append_right (by omega)]
theorem subL_len {a : List Int} {i n : Nat} (h : i + n ≤ a.length) : (subL a i n).length = n := by simp [subL]; omega
theorem catL_nil {a : List Int} {i : Nat} {b : List Int} : catL (subL a i 0) b = b := by simp [catL, subL]
theorem lss_t {x y : Int} (h : cmF .lss x y = true) : x < y := of_decide_eq_true h
theorem lss_f {x y : Int} (h : cmF .lss x y = false) : y ≤ x := by have : ¬ x < y := of_decide_eq_false h; omega
theorem gtr_t {x y : Int} (h : cmF .gtr x y = true) : y < x := of_decide_eq_true h
theorem gtr_f {x y : Int} (h : cmF .gtr x y = false) : x ≤ y := by have : ¬ y < x := of_decide_eq_false h; omega
theorem geq_t {x y : Int} (h : cmF .geq x y = true) : y ≤ x := of_decide_eq_true h
theorem geq_f {x y : Int} (h : cmF .geq x y = false) : x < y := by have : ¬ y ≤ x := of_decide_eq_false h; omega
theorem neq_t {x y : Int} (h : cmF .neq x y = true) : x ≠ y := by
  have h : (!decide (x = y)) = true := h
  simpa using h
theorem neq_f {x y : Int} (h : cmF .neq x y = false) : x = y := by
  have h : (!decide (x = y)) = false := h
  simpa using h
end Go.Cx
namespace Go.Cx
open Go
theorem env_nil {P : Program} {G : List (Nat × V)} {pure : Nat → Bool} : EnvSound P G pure [] := fun _ _ _ h => by cases h
theorem env_cons {P : Program} {G : List (Nat × V)} {pure : Nat → Bool} {f : Nat} {c : Ctr} {E : List (Nat × Ctr)} (h : Sound P G f (pure f) c) (hE : EnvSound P G pure E) : EnvSound P G pure ((f, c) :: E) := fun g d h5 hl => by
  simp only [look] at hl
  split at hl
  · rename_i e; cases hl; cases e; exact h
  · exact hE g d h5 hl
end Go.Cx
/- CxMore -/
namespace Go.Cx
open Go
theorem Sound.more {P : Program} {G G' : List (Nat × V)} {f : FuncId} {pure : Bool} {c : Ctr} (hG : ∀ n v, look G n = some v → look G' n = some v) (h : Sound P G f pure c) : Sound P G' f pure c := by
  refine ⟨h.1, fun args out vals w F I ρ ow h1 h2 h3 h4 h5 hR hV => h.2 args out vals w F I ρ ow h1 h2 h3 h4 h5 ?_ hV⟩
  have sub : ∀ k blk, parHs G pure args k = some blk → parHs G' pure args k = some blk := fun k blk hk => by
    simp only [parHs] at hk ⊢
    split at hk
    · rename_i e
      rw [if_pos e]
      simp only [Option.map_eq_some_iff] at hk ⊢
      obtain ⟨v, hv, rfl⟩ := hk
      exact ⟨v, hG _ _ hv, rfl⟩
    · rename_i e
      rw [if_neg e]
      exact hk
  exact
    { hR with
      owf := fun b q hb => by
        obtain ⟨g1, g2, x, r, v, g3, g4⟩ := hR.owf b q hb
        refine ⟨g1, g2, x, r, v, g3, ?_⟩
        simp only [parHs] at g4 ⊢
        split at g4
        · simp only [Option.map_eq_some_iff] at g4
          obtain ⟨v, _, e⟩ := g4
          cases e
        · rename_i e
          rw [if_neg e]; exact g4
      dom := fun k l hk hlt => by
        have := hR.dom k l hk hlt
        exfalso
        apply this
        show parHs G' pure args k = none
        simp only [parHs]
        rw [if_neg (by omega), if_neg (by omega)]
      heap := fun k blk hk => hR.heap k blk (sub k blk hk) }
end Go.Cx
