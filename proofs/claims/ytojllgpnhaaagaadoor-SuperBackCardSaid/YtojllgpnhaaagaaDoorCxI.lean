/-
  Cx 38: a contract whose new rows are told as rows that nobody writes any more.
-/
import Derived.Test.YtojllgpnhaaagaaDoorCxF
namespace Go.Cx
open Go

/-- one part of a result, its new rows told for good -/
def FrzV (news : List V) : V → V → Prop
  | .sl h p i n e _, v => p = [] ∧ i = 0 ∧ ∃ c, news[h]? = some c ∧ isRow e n c ∧ v = .dsl n e c
  | .tcons a b, v => ∃ a' b', v = .tcons a' b' ∧ FrzV news a a' ∧ FrzV news b b'
  | .nsl, v => v = .nsl ∨ ∃ k, v = .dsl 0 1 (.ints k 0 [])
  | v, v' => v.clo = true ∧ v' = v

def Frz (out out' : Out) : Prop := out.news.length ≤ 1000 ∧ out'.objs = out.objs ∧ out'.news = [] ∧ (∀ c ∈ out.news, c.clo = true ∧ c.noown = true) ∧ (∀ c ∈ out.objs, c.clo = true) ∧ FrzV out.news out.v out'.v

theorem outO_mem {b : Nat} {blk : Blk} : ∀ {args : List Arg} {objs : List V} {i : Nat}, (b, blk) ∈ outO i args objs → 100000 ≤ b ∧ blk.k = .own ∧ blk.c ∈ objs := by
  intro args
  induction args with
  | nil => intro objs i h; simp [outO] at h
  | cons a args ih =>
    intro objs i h
    cases a with
    | v _ => exact ih h
    | b _ _ _ => exact ih h
    | o _ _ =>
      cases objs with
      | nil => simp [outO] at h
      | cons c cs =>
        simp only [outO, List.mem_cons, Prod.mk.injEq] at h
        rcases h with ⟨rfl, rfl⟩ | h
        · exact ⟨by simp only [parH]; omega, rfl, by simp⟩
        · obtain ⟨h1, h2, h3⟩ := ih h
          exact ⟨h1, h2, List.mem_cons_of_mem _ h3⟩

theorem outN_at {b : Nat} {blk : Blk} : ∀ {news : List V} {i : Nat}, look (outN i news) b = some blk → i ≤ b ∧ ∃ c, news[b - i]? = some c ∧ blk = ⟨.own, c⟩ := by
  intro news
  induction news with
  | nil => intro i h; simp [outN, look] at h
  | cons c news ih =>
    intro i h
    simp only [outN, look] at h
    split at h
    · rename_i e
      subst e
      simp only [Option.some.injEq] at h
      exact ⟨Nat.le_refl _, c, by simp, h.symm⟩
    · obtain ⟨h1, c', h2, h3⟩ := ih h
      refine ⟨by omega, c', ?_, h3⟩
      rw [show b - i = (b - (i + 1)) + 1 by omega]
      simpa using h2

theorem outN_of {news : List V} {j : Nat} {c : V} (h : news[j]? = some c) : ∀ {i : Nat}, look (outN i news) (i + j) = some ⟨.own, c⟩ := by
  induction news generalizing j with
  | nil => simp at h
  | cons c0 news ih =>
    intro i
    simp only [outN, look]
    cases j with
    | zero =>
      simp at h
      subst h
      simp
    | succ j =>
      rw [if_neg (by omega)]
      have := ih (by simpa using h) (i := i + 1)
      rw [← this]; congr 1; omega

theorem look_app {α : Type} : ∀ {l m : List (Nat × α)} {k : Nat}, look (l ++ m) k = match look l k with | some a => some a | none => look m k := by
  intro l
  induction l with
  | nil => intro m k; rfl
  | cons p l ih =>
    intro m k
    obtain ⟨i, a⟩ := p
    simp only [List.cons_append, look]
    split
    · rfl
    · exact ih

theorem Sound.freezeOk {P : Program} {G : List (Nat × V)} {f : FuncId} {pure : Bool} {c c' : Ctr} (h : Sound P G f pure c) (hc : ∀ args out', okAs args → (c' args).to out' → ∃ out, (c args).to out ∧ Frz out out') : Sound P G f pure c' := by
  refine ⟨h.1, fun args out' vals w F I ρ ow h1 h2 h3 h4 h5 hR hV => ?_⟩
  have hokas : okAs args := okAs_of (i0 := 0) (all := args) (fun i a h => by rwa [Nat.zero_add]) h3 hR (fun i a hi => ⟨_, hV i a hi⟩) h4
  obtain ⟨out, g1, g0, g2, g3, g4, g5, g6⟩ := hc args out' hokas h1
  refine Calls.mono (h.2 args out vals w F I ρ ow g1 h2 h3 h4 h5 hR hV) ?_
  rintro en w' ⟨x, I', ρ', ow', rfl, hx, hR'⟩
  have hr0 : ∀ k l, ρ k = some l → 100000 ≤ k := fun k l hk => by
    rcases Nat.lt_or_ge k 100000 with h | h
    · exfalso
      apply hR.dom k l hk h
      show parHs G pure args k = none
      simp only [parHs]
      rw [if_neg (by omega), if_neg (by omega)]
    · exact h
  have hO : ∀ k blk, look (outO 0 args out.objs) k = some blk → 100000 ≤ k ∧ blk.k = .own ∧ blk.c ∈ out.objs := fun k blk hk => outO_mem (look_mem hk)
  have hlow : ∀ k, k < 100000 → outHs args out k = look (outN 0 out.news) k := fun k hk => by
    simp only [outHs, look_app]
    cases hq : look (outO 0 args out.objs) k with
    | none => rfl
    | some blk => have := (hO k blk hq).1; omega
  have hhigh : ∀ k, 100000 ≤ k → outHs args out k = look (outO 0 args out.objs) k := fun k hk => by
    simp only [outHs, look_app]
    cases hq : look (outO 0 args out.objs) k with
    | none =>
      cases hq2 : look (outN 0 out.news) k with
      | none => rfl
      | some blk =>
        obtain ⟨_, c, e, _⟩ := outN_at hq2
        have := (List.getElem?_eq_some_iff.1 e).1
        omega
    | some blk => rfl
  have hhs' : outHs args out' = look (outO 0 args out.objs) := by
    funext k
    simp only [outHs, g2, g3, outN, List.append_nil]
  let own' : Own := fun b => match ow' b with
    | some (k :: r) => if 100000 ≤ k then some (k :: r) else none
    | _ => none
  let I2 : Nat → Prop := fun b => I' b ∨ ∃ k, k < 100000 ∧ ow' b = some [k]
  let ρ2 : Rho := fun k => if k < 100000 then none else ρ' k
  have hII : ∀ b, I' b → I2 b ∧ w'.heap[b]? = w'.heap[b]? := fun b hb => ⟨.inl hb, rfl⟩
  have keepO : ∀ b k r, ow' b = some (k :: r) → 100000 ≤ k → own' b = some (k :: r) := fun b k r h1 h2 => by
    simp only [own', h1, h2, if_true]
  have hcell : ∀ k c, out.news[k]? = some c → ∀ {e n : Nat} {cap : Option Nat} {v : Value}, isRow e n c → CRep I' w' (fun _ => none) (.sl k [] 0 n e cap) ρ' [] 0 (fun _ => some v) →
      CRep I2 w' (fun _ => none) (.dsl n e c) ρ2 [] 0 (fun _ => some v) := by
    intro k c hk e n cap v hrow hv
    have hkl : k < 100000 := by have := (List.getElem?_eq_some_iff.1 hk).1; omega
    obtain ⟨k1, k2⟩ := g4 c (List.mem_of_getElem? hk)
    have hN : look (outN 0 out.news) k = some ⟨.own, c⟩ := by have := outN_of hk (i := 0); rwa [Nat.zero_add] at this
    have hkk : outHs args out k = some ⟨.own, c⟩ := by rw [hlow k hkl, hN]
    obtain ⟨a, cp, l, j1, j2, j3, j4, _, j5⟩ := hv
    obtain ⟨l', m1, m2⟩ := hR'.heap k _ hkk
    rw [j2] at m1
    cases m1
    have turn : ∀ {q : List Nat} {g : Nat → Option Value}, CRep I' w' ow' c ρ' q 0 g → (∀ j, j < c.size → behind w' a j = g j) → CRep I2 w' (fun _ => none) c noR [] 0 (behind w' a) := fun {q g} m hg => by
      have m4 := CRep.noq _ _ _ [] _ 0 _ k2 m
      exact CRep.noow (ow := ow') (CRep.closed _ _ noR _ _ _ k1 (CRep.mono (g' := behind w' a) hII _ _ _ _ _ _ (Rho.le_refl _) (fun h => absurd rfl h) hg m4))
    refine ⟨a, cp, j1, j3, j4, hrow, ?_, ?_⟩
    · rcases j5 with rfl | ⟨b, off, sz, rfl, rfl, j6⟩
      · obtain rfl : n = 0 := by omega
        have hz : c.size = 0 := isRow_zero hrow
        rcases m2 with ⟨_, _, m3⟩ | ⟨_, _, _, _, _, _, _, _, m3⟩
        · exact turn m3 (fun j hj => by omega)
        · exact turn m3 (fun j hj => by omega)
      · rcases m2 with ⟨m3, _⟩ | ⟨b', off', sz', cur, m3, m4, m5, m6, m7⟩
        · cases m3
        · cases m3
          refine turn m7 (fun j hj => ?_)
          obtain ⟨ty, fr, m9, _⟩ := m5
          simp only [behind, poff, Nat.zero_mul, Nat.add_zero, World.cell?, m9]
          rfl
    · rcases j5 with rfl | ⟨b, off, sz, rfl, rfl, j6⟩
      · exact .inl rfl
      · rcases m2 with ⟨m3, _⟩ | ⟨b', off', sz', cur, m3, m4, m5, m6, m7⟩
        · cases m3
        · cases m3
          exact .inr ⟨b, _, rfl, .inr ⟨k, hkl, m4⟩⟩
  have one : ∀ {v v' : V} {y : Value}, FrzV out.news v v' → v.isTup = false → VRep0 I' w' ρ' v y → VRep0 I2 w' ρ2 v' y := by
    intro v v' y hf ht hy
    have plain : v.clo = true ∧ v' = v → VRep0 I2 w' ρ2 v' y := by
      rintro ⟨k1, rfl⟩
      rcases hy with rfl | ⟨e1, e2, e3⟩
      · exact .inl rfl
      · exact .inr ⟨e1, e2, CRep.closed _ _ _ _ _ _ k1 (CRep.mono hII _ _ _ _ _ _ _ (Rho.le_refl _) (fun h => absurd rfl h) (fun _ _ => rfl) e3)⟩
    cases v <;> first | exact plain hf | (cases ht; done) | skip
    case nsl =>
      rcases hf with rfl | ⟨k, rfl⟩
      · exact plain ⟨rfl, rfl⟩
      · obtain ⟨e1, e2, e3⟩ := hy.leaf (by simp) rfl
        exact VRep0.ofLeaf rfl rfl e1 ⟨none, 0, e3, Nat.le_refl _, by simp, ⟨rfl, rfl⟩, ⟨rfl, by simp, fun j hj => by omega⟩, .inl rfl⟩
    rename_i k p i n e cap
    obtain ⟨rfl, rfl, c, hk, hrow, rfl⟩ := hf
    obtain ⟨e1, e2, e3⟩ := hy.leaf (by simp) rfl
    have e4 : CRep I' w' (fun _ => none) (.sl k [] 0 n e cap) ρ' [] 0 (fun _ => some y) := CRep.mono (fun b hb => ⟨hb, rfl⟩) _ _ _ _ _ _ _ (Rho.le_refl _) (fun h => absurd rfl h) (fun j hj => by simp only [V.size] at hj; obtain rfl : j = 0 := (by omega); rfl) e3
    exact VRep0.ofLeaf rfl rfl e1 (hcell k c hk hrow e4)
  have tup : ∀ {v v' : V} {l : List Value}, FrzV out.news v v' → TRep I' w' ρ' v l → TRep I2 w' ρ2 v' l := by
    intro v
    induction v with
    | tnil => rintro v' l ⟨_, rfl⟩ hl; exact hl
    | tcons a b _ ihb =>
      rintro v' l ⟨a', b', rfl, f1, f2⟩ ⟨y, r, rfl, hy, hr⟩
      refine ⟨y, r, rfl, ?_, ihb f2 hr⟩
      by_cases ht : a.isTup = false
      · exact one f1 ht hy
      · exfalso
        rcases hy with rfl | ⟨_, _, hy⟩
        · exact ht rfl
        · cases a <;> first | exact ht rfl | exact hy.elim
    | _ => intro v' l _ hl; exact hl.elim
  have hval : VRep I2 w' ρ2 out'.v x := by
    generalize out.v = v, out'.v = v' at hx g6
    cases v with
    | tnil => obtain ⟨_, rfl⟩ := g6; exact hx
    | tcons a b =>
      obtain ⟨l, rfl, hl⟩ := hx
      have := tup g6 hl
      obtain ⟨a', b', rfl, _⟩ := g6
      exact ⟨l, rfl, this⟩
    | _ => exact (one g6 rfl hx).up
  refine ⟨x, I2, ρ2, own', rfl, hval, ?_⟩
  exact
    { frame := hR'.frame
      size := hR'.size
      os := hR'.os
      tape := hR'.tape
      output := hR'.output
      iold := fun b hb => .inl (hR'.iold b hb)
      inew := fun b hb => by
        rcases hb with hb | ⟨k, hk, hb⟩
        · exact hR'.inew b hb
        · exact .inr (hR'.owf b _ hb).2.1
      ilt := fun b hb => by
        rcases hb with hb | ⟨k, hk, hb⟩
        · exact hR'.ilt b hb
        · exact (hR'.owf b _ hb).1
      iow := fun b hb => by
        rcases hb with hb | ⟨k, hk, hb⟩
        · simp only [own', hR'.iow b hb]
        · simp only [own', hb]
          rw [if_neg (by omega)]
      owf := fun b q hb => by
        simp only [own'] at hb
        split at hb
        · rename_i k r hk
          split at hb
          · rename_i hge
            cases hb
            obtain ⟨m1, m2, hh, r', c0, m3, m4⟩ := hR'.owf b _ hk
            injection m3 with e1 e2
            subst e1
            refine ⟨m1, m2, k, r, c0, rfl, ?_⟩
            show outHs args out' k = _
            rw [hhs', ← hhigh k hge]
            exact m4
          · cases hb
        · cases hb
      dom := fun k l hk hlt => by
        simp only [ρ2, if_pos hlt] at hk
        cases hk
      glob := fun n => by
        obtain ⟨sz, hg⟩ := hR'.glob n
        refine ⟨sz, ?_⟩
        simp only [ρ2]
        rw [if_neg (by simp only [globH]; omega)]
        exact hg
      tsz := hR'.tsz
      nle := hR'.nle
      rle := fun k l hk => by
        have := hr0 k l hk
        simp only [ρ2]
        rw [if_neg (by omega)]
        exact hR'.rle k l hk
      tmps := fun i => VRep.any _ _ _ _
      heap := fun k blk hk => by
        have hk : outHs args out' k = some blk := hk
        rw [hhs'] at hk
        obtain ⟨hge, hown, hmem⟩ := hO k blk hk
        obtain ⟨l, m1, m2⟩ := hR'.heap k blk (by show outHs args out k = _; rw [hhigh k hge, hk])
        refine ⟨l, by simp only [ρ2]; rw [if_neg (by omega)]; exact m1, ?_⟩
        obtain ⟨bk, bc⟩ := blk
        simp only at hown hmem
        subst hown
        have hclo := g5 _ hmem
        rcases m2 with ⟨rfl, m3, m4⟩ | ⟨b, off, sz, cur, rfl, m3, m4, m5, m6⟩
        · exact .inl ⟨rfl, m3, CRep.reown (ow := ow') _ _ _ _ _ _ _ hclo (fun h => absurd rfl h) (CRep.mono hII _ _ _ _ _ _ _ (Rho.le_refl _) (fun h => absurd rfl h) (fun _ _ => rfl) m4)⟩
        · refine .inr ⟨b, off, sz, cur, rfl, keepO _ _ _ m3 hge, m4, m5, CRep.reown (ow := ow') _ _ _ _ [k] _ _ hclo (fun _ => ⟨by simp, fun b r hr hb => keepO _ _ _ hb hge⟩) (CRep.mono hII _ _ _ _ _ _ _ (Rho.le_refl _) (fun _ b r _ hb => ⟨hb, rfl⟩) (fun _ _ => rfl) m6)⟩ }

theorem Sound.freeze {P : Program} {G : List (Nat × V)} {f : FuncId} {pure : Bool} {c c' : Ctr} (h : Sound P G f pure c) (hc : ∀ args out', (c' args).to out' → ∃ out, (c args).to out ∧ Frz out out') : Sound P G f pure c' :=
  h.freezeOk fun args out' _ => hc args out'
/-- a contract that says less -/
theorem Sound.sub {P : Program} {G : List (Nat × V)} {f : FuncId} {pure : Bool} {c c' : Ctr} (h : Sound P G f pure c) (hc : ∀ args out, (c' args).to out → (c args).to out) : Sound P G f pure c' :=
  ⟨h.1, fun args out vals w F I ρ ow h1 => h.2 args out vals w F I ρ ow (hc args out h1)⟩
end Go.Cx

/- Cx 39: a contract for numbers and bits holds for written ones. -/
namespace Go.Cx
open Go

def litA : Arg → Arg
  | .v v => .v (nV v)
  | .o c w => .o (nV c) w
  | a => a

theorem nV_val {I : Nat → Prop} {w : World} {ρ : Rho} {v : V} {x : Value} (h : VRep I w ρ v x) : VRep I w ρ (nV v) x := by
  have go : VRep0 I w ρ v x → VRep0 I w ρ (nV v) x := fun h => by
    rcases h with rfl | ⟨h1, h2, h3⟩
    · exact .inl rfl
    · exact .inr ⟨h1.trans (nV_size v).symm, h2.trans (nV_agg v).symm, nV_rep v h3⟩
  cases v <;> first | exact h | exact go h

theorem outO_lit : ∀ (args : List Arg) (i : Nat) (cs : List V), outO i (args.map litA) cs = outO i args cs
  | [], i, cs => rfl
  | .b _ _ _ :: r, i, cs => by
    show outO (i + 1) (r.map litA) cs = outO (i + 1) r cs
    exact outO_lit r _ _
  | .o _ _ :: r, i, [] => rfl
  | .o _ _ :: r, i, c :: cs => by
    show (parH i, _) :: outO (i + 1) (r.map litA) cs = (parH i, _) :: outO (i + 1) r cs
    rw [outO_lit r _ _]
  | .v v :: r, i, cs => outO_lit r (i + 1) cs

theorem nV_ok (v : V) (h : v.okv) : (nV v).okv := by
  induction v with
  | cat n m a b iha ihb => exact ⟨iha h.1, ihb h.2⟩
  | one a ih => exact ih h
  | rows e n f ih => exact fun j hj => ih j (h j hj)
  | tt => trivial
  | ff => trivial
  | _ => exact h
theorem okAs_lit : ∀ {args : List Arg}, okAs args → okAs (args.map litA)
  | [], h => h
  | .v v :: _r, ⟨h1, h2⟩ => ⟨nV_ok v h1, okAs_lit h2⟩
  | .b _ _ _ :: _r, ⟨h1, h2⟩ => ⟨h1, okAs_lit h2⟩
  | .o c _ :: _r, ⟨h1, h2⟩ => ⟨nV_ok c h1, okAs_lit h2⟩

theorem Sound.lits {P : Program} {G : List (Nat × V)} {f : FuncId} {pure : Bool} {c : Ctr} (h : Sound P G f pure c) : Sound P G f pure (fun args => c (args.map litA)) := by
  refine ⟨h.1, fun args out vals w F I ρ ow h1 h2 h3 h4 h5 hR hV => ?_⟩
  have hget : ∀ (i : Nat), (args.map litA)[i]? = (args[i]?).map litA := fun i => by simp
  have hpar : ∀ k blk, parHs G pure (args.map litA) k = some blk → ∃ c, parHs G pure args k = some ⟨blk.k, c⟩ ∧ (blk.c = c ∨ blk.c = nV c) := fun k blk hk => by
    simp only [parHs] at hk ⊢
    split at hk
    · rename_i e
      rw [if_pos e]
      exact ⟨blk.c, hk, .inl rfl⟩
    · rename_i e
      rw [if_neg e]
      split at hk
      · rename_i e2
        rw [if_pos e2]
        rw [hget] at hk
        cases ha : args[k - 100000]? with
        | none => rw [ha] at hk; cases hk
        | some a =>
          rw [ha] at hk
          rcases a with v | ⟨n, e, c⟩ | ⟨c, w⟩
          · cases hk
          · exact ⟨blk.c, hk, .inl rfl⟩
          · cases hk; exact ⟨c, rfl, .inr rfl⟩
      · cases hk
  have hpar2 : ∀ k blk, parHs G pure args k = some blk → ∃ c, parHs G pure (args.map litA) k = some ⟨blk.k, c⟩ := fun k blk hk => by
    simp only [parHs] at hk ⊢
    split at hk
    · rename_i e
      rw [if_pos e]
      exact ⟨blk.c, hk⟩
    · rename_i e
      rw [if_neg e]
      split at hk
      · rename_i e2
        rw [if_pos e2]
        rw [hget]
        cases ha : args[k - 100000]? with
        | none => rw [ha] at hk; cases hk
        | some a =>
          rw [ha] at hk
          rcases a with v | ⟨n, e, c⟩ | ⟨c, w⟩
          · cases hk
          · exact ⟨blk.c, hk⟩
          · cases hk; exact ⟨nV c, rfl⟩
      · cases hk
  have hout : outHs (args.map litA) out = outHs args out := by
    simp only [outHs, outO_lit]
  have hR2 : Rep ⟨F, I, w, 0, ρ⟩ I ρ ow ⟨fun _ => .any, parHs G pure (args.map litA)⟩ #[] w :=
    { hR with
      owf := fun b q hb => by
        obtain ⟨g1, g2, x, r, v, g3, g4⟩ := hR.owf b q hb
        obtain ⟨c, g5⟩ := hpar2 x _ g4
        exact ⟨g1, g2, x, r, c, g3, g5⟩
      dom := fun k l hk hlt => by
        intro e
        apply hR.dom k l hk hlt
        show parHs G pure args k = none
        cases hq : parHs G pure args k with
        | none => rfl
        | some blk =>
          obtain ⟨c, hc⟩ := hpar2 k blk hq
          have e : parHs G pure (args.map litA) k = none := e
          rw [e] at hc; cases hc
      heap := fun k blk hk => by
        obtain ⟨c, h6, h7⟩ := hpar k blk hk
        obtain ⟨l, h8, h9⟩ := hR.heap k _ h6
        refine ⟨l, h8, ?_⟩
        obtain ⟨bk, bc⟩ := blk
        simp only at h7 h9 ⊢
        rcases h7 with rfl | rfl
        · exact h9
        · cases bk with
          | own =>
            rcases h9 with ⟨e1, e2, e3⟩ | ⟨b, off, sz, cur, e1, e2, e3, e4, e5⟩
            · exact .inl ⟨e1, (nV_size c).trans e2, nV_rep c e3⟩
            · exact .inr ⟨b, off, sz, cur, e1, e2, e3, e4, nV_rep c e5⟩
          | bor =>
            rcases h9 with ⟨e1, e2, e3⟩ | ⟨b, off, sz, e1, e2, e3, e4, e5⟩
            · exact .inl ⟨e1, (nV_size c).trans e2, nV_rep c e3⟩
            · exact .inr ⟨b, off, sz, e1, e2, e3, (show (nV c).size ≤ sz from (nV_size c).symm ▸ e4), nV_rep c e5⟩
          | imm =>
            rcases h9 with ⟨e1, e2, e3⟩ | ⟨b, off, sz, e1, e2, e3, e4⟩
            · exact .inl ⟨e1, (nV_size c).trans e2, nV_rep c e3⟩
            · exact .inr ⟨b, off, sz, e1, e2, (show (nV c).size ≤ sz from (nV_size c).symm ▸ e3), nV_rep c e4⟩
          | dead => trivial }
  have := h.2 (args.map litA) out vals w F I ρ ow h1 (by simpa using h2) (by simpa using h3) (fun i n e c hi => by
    rw [hget] at hi
    cases ha : args[i]? with
    | none => rw [ha] at hi; cases hi
    | some a =>
      rw [ha] at hi
      rcases a with v | ⟨n', e', c'⟩ | ⟨c', w'⟩
      · cases hi
      · cases hi; exact h4 i _ _ _ ha
      · cases hi) h5 hR2 (fun i a hi => by
    rw [hget] at hi
    cases ha : args[i]? with
    | none => rw [ha] at hi; cases hi
    | some b =>
      rw [ha] at hi
      have hb := hV i b ha
      cases hi
      rcases b with v | _ | ⟨c, _ | ⟨j, n, e, cap⟩⟩
      · exact nV_val hb
      · exact hb
      · exact hb
      · exact hb)
  rw [hout] at this
  exact this
end Go.Cx

/- Cx 40: comparisons, as they are met in verification conditions. -/
namespace Go.Cx
open Go
theorem tf_no (h : true = false) : False := by cases h
theorem cast_fix (n : Nat) : (NatCast.natCast n : Int) = (n : Int) := rfl
theorem lt_t {x y : Int} : (ltI x y = true) ↔ x < y := by simp [ltI]
theorem lt_f {x y : Int} : (ltI x y = false) ↔ y ≤ x := by simp [ltI]
theorem le_t {x y : Int} : (leI x y = true) ↔ x ≤ y := by simp [leI]
theorem le_f {x y : Int} : (leI x y = false) ↔ y < x := by simp [leI]
theorem gt_t {x y : Int} : (gtI x y = true) ↔ y < x := by simp [gtI]
theorem gt_f {x y : Int} : (gtI x y = false) ↔ x ≤ y := by simp [gtI]
theorem ge_t {x y : Int} : (geI x y = true) ↔ y ≤ x := by simp [geI]
theorem ge_f {x y : Int} : (geI x y = false) ↔ x < y := by simp [geI]
theorem eq_t {x y : Int} : (eqI x y = true) ↔ x = y := by simp [eqI]
theorem eq_f {x y : Int} : (eqI x y = false) ↔ x ≠ y := by simp [eqI]
theorem ne_t {x y : Int} : (neI x y = true) ↔ x ≠ y := by simp [neI]
theorem ne_f {x y : Int} : (neI x y = false) ↔ x = y := by simp [neI]
theorem eqL_t {x y : List Int} : (eqL x y = true) ↔ x = y := by simp [eqL]
theorem eqL_f {x y : List Int} : (eqL x y = false) ↔ x ≠ y := by simp [eqL]
theorem eqB_t {x y : Bool} : (eqB x y = true) ↔ x = y := by simp [eqB]
theorem eqB_f {x y : Bool} : (eqB x y = false) ↔ x ≠ y := by simp [eqB]
theorem notB_t {x : Bool} : (notB x = true) ↔ x = false := by simp [notB]
theorem notB_f {x : Bool} : (notB x = false) ↔ x = true := by simp [notB]
end Go.Cx
