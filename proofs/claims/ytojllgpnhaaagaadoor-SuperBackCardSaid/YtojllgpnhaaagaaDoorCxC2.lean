/-
  Cx 17b: arrays out of slices, zeros that are appended, slices with a given room, values of many cells compared.
-/
import Derived.Test.YtojllgpnhaaagaaDoorCxC
namespace Go.Cx
open Go

section
variable {P : Program} {pure : Nat → Bool} {X : Fix} {I : Nat → Prop} {ρ : Rho} {ow : Own} {s : St} {a : Act} {w : World} {o : Oper}

theorem step_s2a (h : Rep X I ρ ow s a.tmps w) (hd : dstOk X o) {t el : TypeId} {n : Nat} {x : Operand} {ix : IX} (ho : o.op = .sliceToArrayPointer t x) (ht : P.underlying t = some (.array n el)) (hx : opIX x = some ix) {e : Eff} {E : List (Nat × Ctr)}
    (he : (stepR apf E s.t s.h o.dst (.s2a n (sz P el) ix)).to e) : StepOk P X o a w s e := by
  have hv := ev_rep h hx
  simp only [stepR] at he
  split at he
  · rename_i hh p i m e' cap e1
    rw [e1] at hv
    obtain ⟨h0, hlt, he2⟩ := rif_to he
    simp only [Bool.and_eq_true, beq_iff_eq, decide_eq_true_eq] at h0
    obtain ⟨h0, hn⟩ := h0
    subst h0
    have hlt : n ≤ m := hlt
    obtain ⟨ad, c, l, h1, h2, h3, h4, _, h5⟩ := vr_sl hv
    obtain ⟨b, off, sz', rfl, rfl, h6⟩ := h5.resolve_left (by omega)
    cases he2
    refine stepVal h hd (x := .pointer (some ⟨b, off + (poff p + i * sz P el), none⟩)) (by simp [execOp, ho, h1, Instr.arrayAt, run_underlying ht, show ¬ m < n by omega]) ?_
    have := ptr_vr (I := I) (w := w) (p := p ++ [Pt.r i (sz P el) n]) h2
    have e3 : off + (poff p + i * sz P el) = off + poff (p ++ [Pt.r i (sz P el) n]) := by
      simp only [poff_append, poff, Nat.add_zero]
    rw [e3]
    exact this
  · rename_i m e' c e1
    rw [e1] at hv
    obtain ⟨h0, hlt, he2⟩ := rif_to he
    simp only [Bool.and_eq_true, beq_iff_eq, decide_eq_true_eq] at h0
    obtain ⟨h0, hn⟩ := h0
    subst h0
    have hlt : n ≤ m := hlt
    obtain ⟨ad, cp, h1, h2, h3, h4, h5, h6⟩ := vr_dsl hv
    obtain ⟨b, off, rfl, hI⟩ := h6.resolve_left (by omega)
    cases he2
    refine stepVal h hd (x := .pointer (some ⟨b, off, none⟩)) (by simp [execOp, ho, h1, Instr.arrayAt, run_underlying ht, show ¬ m < n by omega]) (leaf_vr rfl rfl rfl ⟨b, off, hI, by simp [poff], ?_⟩)
    exact h5
  · exact he.elim

theorem step_slX (h : Rep X I ρ ow s a.tmps w) (hd : dstOk X o) {t el : TypeId} {x y z : Operand} {ix iy iz : IX} (ho : o.op = .slice t x none (some y) (some z)) (ht : P.underlying t = some (.slice el)) (hz : sz P el ≠ 0)
    (hx : opIX x = some ix) (hy : opIX y = some iy) (hzz : opIX z = some iz) {e : Eff} {E : List (Nat × Ctr)}
    (he : (stepR apf E s.t s.h o.dst (.slX (sz P el) ix iy iz)).to e) : StepOk P X o a w s e := by
  have hv := ev_rep h hx
  simp only [stepR] at he
  obtain ⟨b, hb, he⟩ := bind_to he
  obtain ⟨m, hm, heq, he⟩ := bind_to he
  have heq : m = b := heq
  subst heq
  obtain ⟨k1, z1, g1, g2, g3⟩ := nat_to hb (ev_rep h hy)
  obtain ⟨k2, z2, g4, g5, g6⟩ := nat_to hm (ev_rep h hzz)
  have run : ∀ ad n cp, a.eval x = .slice ad n cp → m ≤ cp → (execOp a.eval o).run P w = .ok (.value (.slice ad m m)) w := by
    intro ad n cp hs hc
    have c1 : 0 ≤ z2 ∧ z2 ≤ (cp : Int) := ⟨g5, by omega⟩
    have c2 : 0 ≤ z1 ∧ z1 ≤ (z2.toNat : Int) := ⟨g2, by omega⟩
    have e1 : z1.toNat = m := g3.symm
    have e2 : z2.toNat = m := g6.symm
    rw [e2] at c2
    have hb : (Instr.sliceBounds true n cp none (some (a.eval y)) (some (a.eval z))).run P w = .ok (0, m, m) w := by
      simp [Instr.sliceBounds, Instr.sliceBound, asIntOf, g1, g4, c1, c2, e1, e2]
    by_cases h0 : m = 0
    · subst h0
      simp [execOp, ho, hs, Instr.sliceAt, Instr.slice, run_underlying ht, hb, sizeOf_run hz]
    · cases ad <;> simp [execOp, ho, hs, Instr.sliceAt, Instr.slice, run_underlying ht, hb, sizeOf_run hz, h0, Addr.add]
  split at he
  · rename_i hh p i n e' cap e1
    rw [e1] at hv
    obtain ⟨h0, hlt, he2⟩ := rif_to he
    have h0 : sz P el = e' := by simpa using h0
    subst h0
    have hlt : m ≤ n := hlt
    obtain ⟨ad, c, l, h1, h2, h3, h4, _, h5⟩ := vr_sl hv
    cases he2
    refine stepVal h hd (run _ _ _ h1 (by omega)) (leaf_vr rfl rfl rfl ⟨ad, m, l, rfl, h2, Nat.le_refl _, by omega, rfl, ?_⟩)
    rcases h5 with h5 | ⟨b, off, sz', e2, e3, h6⟩
    · exact .inl (by omega)
    · refine .inr ⟨b, off, sz', e2, e3, ?_⟩
      have : m * sz P el ≤ c * sz P el := Nat.mul_le_mul_right _ (by omega)
      omega
  · rename_i n e' c e1
    rw [e1] at hv
    obtain ⟨h0, hlt, he2⟩ := rif_to he
    have h0 : sz P el = e' := by simpa using h0
    subst h0
    have hlt : m ≤ n := hlt
    obtain ⟨c', hc', he3⟩ := bind_to he2
    cases he3
    obtain ⟨ad, cp, h1, h2, h3, h4, h5, h6⟩ := vr_dsl hv
    refine stepVal h hd (run _ _ _ h1 (by omega)) ?_
    obtain ⟨h8, h9⟩ := subs_rep (ρ := noR) hc' h4 (by omega) h5
    simp only [Nat.zero_mul, Nat.zero_add] at h9
    exact dsl_vr (Nat.le_refl _) (by omega) h8 h9 (h6.imp (fun h => by omega) id)
  · exact he.elim

theorem step_appz (h : Rep X I ρ ow s a.tmps w) (hd : dstOk X o) {t u el : TypeId} {x y : Operand} {k : EK} {ik : IntKind} {ix iy : IX} (ho : o.op = .call { callee := .builtin .append, args := #[x, y], argTypes := #[t, u] })
    (ht : P.underlying t = some (.slice el)) (hu : P.underlying u = some (.int ik)) (hk : EkOk P el k) (hpos : 0 < byt P el) (hx : opIX x = some ix) (hy : opIX y = some iy) {e : Eff} {E : List (Nat × Ctr)}
    (he : (stepR apf E s.t s.h o.dst (.appz k (byt P el) ix iy)).to e) : StepOk P X o a w s e := by
  simp only [stepR] at he
  obtain ⟨d, hdst, hn, he⟩ := fresh_to he
  obtain ⟨m, hm, he⟩ := bind_to he
  obtain ⟨k', z, g1, g2, rfl⟩ := nat_to hm (ev_rep h hy)
  obtain ⟨i, zv, h1, h2, h3, h4, h5, h6, h7⟩ := hk.i
  have hbi : byt P el = i.bytes := by simp [byt, h1]
  have hbound : z.toNat * byt P el ≤ 140737488355328 := by
    split at he
    · exact he.1
    · exact he.1
    · rename_i hd' p j n e' cap e1
      obtain ⟨⟨n', cx⟩, _, he⟩ := bind_to he
      obtain ⟨c, _, hb, _⟩ := bind_to he
      have hb : (n + z.toNat) * byt P el ≤ 140737488355328 := hb
      rw [Nat.add_mul] at hb
      omega
    · exact he.elim
  have hle : z.toNat ≤ z.toNat * byt P el := Nat.le_mul_of_pos_right _ hpos
  have hbound2 := hbound
  rw [hbi] at hbound2
  obtain ⟨m, rfl⟩ : ∃ m : Nat, z = m := ⟨z.toNat, by omega⟩
  rw [Int.toNat_natCast] at he hbound hbound2 hle
  have hzs : zv.cells.size = k.size := by rw [h5]
  have hl0 : (Builtin.zeroCells zv.cells m).toList.length = m * k.size := by
    rw [Array.length_toList, size_zeroCells', hzs]
  have hap : Apd P w el u (a.eval y) k.size m (Builtin.zeroCells zv.cells m).toList := .inr ⟨ik, k', i, zv, hu, g1, h1, h2, hbound2, by omega, fun h0 => by
    rw [← h3] at hl0
    rw [h0] at hl0
    exact List.eq_nil_of_length_eq_zero hl0, rfl⟩
  have hmc : Builtin.zeroCells zv.cells m = madeCells zv.cells (m * k.size) := by rw [← hzs]; rfl
  obtain ⟨m1, m2⟩ := made_rep (I := I) (w := w) (el := el) (i := i) h5 (by omega) (fun kk hh => (h6 kk hh).1) h7 m rfl rfl
  have hrow : isRow k.size m (zerosC apf k m) := by cases k <;> exact ⟨rfl, rfl⟩
  have hc : CRep I w (fun _ => none) (zerosC apf k m) noR [] 0 ((Builtin.zeroCells zv.cells m).toList[·]?) := by
    rw [hmc]
    have e0 : (fun j : Nat => (madeCells zv.cells (m * k.size)).toList[j]?) = fun j : Nat => (madeCells zv.cells (m * k.size))[j]? := by funext j; simp
    rw [e0]
    cases k with
    | i kk' =>
      refine ⟨by simp [apf, zerosI], ?_, fun j hj => ?_⟩
      · intro y hy
        have := List.eq_of_mem_replicate hy
        subst this
        exact inR_zero kk'
      · have := (m1 j hj).1
        simp only [EK.size, Nat.mul_one, Nat.add_zero] at this ⊢
        rw [this]
        simp [apf, zerosI, nthI, List.getD_eq_getElem?_getD, hj]
    | o e z => exact fun j hj => ⟨m2 e z rfl, (m1 j hj).noow⟩
  have hone : ∀ v ∈ (Builtin.zeroCells zv.cells m).toList, v.oneCell' = true := fun v hv => by
    obtain ⟨j, hj⟩ := List.mem_iff_getElem?.1 hv
    have hlt : j < (Builtin.zeroCells zv.cells m).toList.length := (List.getElem?_eq_some_iff.1 hj).1
    have hsz : (zerosC apf k m).size = m * k.size := isRow_size hrow
    obtain ⟨y, h1, h2⟩ := CRep.cells _ _ _ _ _ hc j (by rw [hsz]; omega)
    have h1 : (Builtin.zeroCells zv.cells m).toList[j]? = some y := h1
    rw [hj] at h1
    cases h1
    exact h2
  exact app_all h hd hdst hn ho ht hk hpos hx hap hl0 hone hrow hc he
end
end Go.Cx

/- Cx 17c: values of many plain cells compared. -/
namespace Go.Cx
open Go

def LV.val : LV → Value
  | .b x => .bool x
  | .i k n => .int k n
  | .s l => .string (toBA l)
def LV.lit : LV → Lit
  | .b x => .bool x
  | .i k n => .int k n
  | .s l => .string (toBA l).data.toList
def LV.wf : LV → Prop
  | .b _ => True
  | .i k n => inR k n
  | .s l => l.length ≤ maxLen ∧ ∀ y ∈ l, inR .u8 y

theorem lit_inj {a b : LV} (ha : a.wf) (hb : b.wf) (h : a.lit = b.lit) : a = b := by
  cases a <;> cases b <;> simp only [LV.lit] at h <;> first | (cases h; done) | (cases h; rfl) | skip
  rename_i l m
  have h1 : (toBA l).data.toList = (toBA m).data.toList := by simpa using h
  have : bytesI (toBA l) = bytesI (toBA m) := by unfold bytesI; rw [h1]
  rw [bytesI_toBA ha.2, bytesI_toBA hb.2] at this
  rw [this]

theorem lits_inj : ∀ {a b : List LV}, (∀ x ∈ a, x.wf) → (∀ x ∈ b, x.wf) → (a.map LV.lit = b.map LV.lit ↔ a = b)
  | [], [], _, _ => by simp
  | [], _ :: _, _, _ => by simp
  | _ :: _, [], _, _ => by simp
  | x :: a, y :: b, ha, hb => by
    simp only [List.map_cons, List.cons.injEq]
    rw [lits_inj (fun z hz => ha z (by simp [hz])) (fun z hz => hb z (by simp [hz]))]
    constructor
    · rintro ⟨h1, h2⟩; exact ⟨lit_inj (ha x (by simp)) (hb y (by simp)) h1, h2⟩
    · rintro ⟨rfl, rfl⟩; exact ⟨rfl, rfl⟩

/-- rows of one length, one behind the other -/
theorem flat_at {α : Type} {f : Nat → List α} {e : Nat} : ∀ {n : Nat}, (∀ j, j < n → (f j).length = e) → ((List.range n).flatMap f).length = n * e ∧ ∀ j r, j < n → r < e → ((List.range n).flatMap f)[j * e + r]? = (f j)[r]?
  | 0, _ => ⟨by simp, fun j r hj => by omega⟩
  | n + 1, h => by
    obtain ⟨h1, h2⟩ := flat_at (n := n) fun j hj => h j (by omega)
    rw [List.range_succ, List.flatMap_append]
    simp only [List.flatMap_cons, List.flatMap_nil, List.append_nil]
    have hn := h n (by omega)
    refine ⟨by rw [List.length_append, h1, hn, Nat.add_mul]; omega, fun j r hj hr => ?_⟩
    by_cases hjn : j < n
    · have hlt : j * e + r < n * e := by
        have := Nat.mul_le_mul_right e (show j + 1 ≤ n from hjn)
        rw [Nat.add_mul] at this; omega
      rw [List.getElem?_append_left (by omega)]
      exact h2 j r hjn hr
    · obtain rfl : j = n := by omega
      rw [List.getElem?_append_right (by omega), h1]
      congr 1; omega

section
variable {P : Program} {X : Fix} {I : Nat → Prop} {ρ : Rho} {ow : Own} {s : St} {a : Act} {w : World} {o : Oper}

theorem lits_rep : ∀ (v : V) {ρ : Rho} {q : List Nat} {pos : Nat} {g : Nat → Option Value}, litOkP v → CRep I w ow v ρ q pos g → (litsV v).length = v.size ∧ (∀ x ∈ litsV v, x.wf) ∧ ∀ j, j < v.size → g j = ((litsV v)[j]?).map LV.val := by
  intro v
  have one : ∀ {x : LV} {g : Nat → Option Value}, g 0 = some x.val → ∀ j, j < 1 → g j = (([x] : List LV)[j]?).map LV.val := fun h j hj => by
    obtain rfl : j = 0 := by omega
    simpa using h
  induction v with
  | tt => intro ρ q pos g _ h; exact ⟨rfl, by simp [litsV, LV.wf], one h⟩
  | ff => intro ρ q pos g _ h; exact ⟨rfl, by simp [litsV, LV.wf], one h⟩
  | bool b => intro ρ q pos g _ h; exact ⟨rfl, by simp [litsV, LV.wf], one h⟩
  | lit k n => intro ρ q pos g _ h; exact ⟨rfl, by simpa [litsV, LV.wf] using h.2, one h.1⟩
  | int k n => intro ρ q pos g _ h; exact ⟨rfl, by simpa [litsV, LV.wf] using h.2, one h.1⟩
  | str l => intro ρ q pos g _ h; exact ⟨rfl, by simpa only [litsV, List.mem_singleton, forall_eq, LV.wf] using h.2, one h.1⟩
  | ints k n l =>
    intro ρ q pos g _ h
    refine ⟨by simpa [litsV, V.size] using h.1, ?_, fun j hj => ?_⟩
    · intro x hx
      obtain ⟨y, hy, rfl⟩ := List.mem_map.1 hx
      exact h.2.1 y hy
    · simp only [V.size] at hj
      rw [h.2.2 j hj]
      have : j < l.length := by rw [h.1]; exact hj
      simp [litsV, LV.val, nthI, List.getD_eq_getElem?_getD, List.getElem?_eq_getElem this]
  | cat n m a b iha ihb =>
    intro ρ q pos g hok h
    obtain ⟨h1, h2, h3, h4⟩ := h
    obtain ⟨a1, a2, a3⟩ := iha hok.1 h3
    obtain ⟨b1, b2, b3⟩ := ihb hok.2 h4
    refine ⟨by simp only [litsV, List.length_append, V.size]; omega, fun x hx => (List.mem_append.1 hx).elim (a2 x) (b2 x), fun j hj => ?_⟩
    simp only [V.size] at hj
    simp only [litsV]
    by_cases hlt : j < n
    · rw [List.getElem?_append_left (by omega)]
      exact a3 j (by omega)
    · rw [List.getElem?_append_right (by omega)]
      have := b3 (j - n) (by omega)
      rw [show n + (j - n) = j by omega] at this
      rw [this, a1, h1]
  | rows e n f ih =>
    intro ρ q pos g hok h
    have each := fun j hj => ih j (hok j hj) (h j hj).2
    obtain ⟨f1, f2⟩ := flat_at (f := fun j => litsV (f j)) (e := e) (n := n) fun j hj => by rw [(each j hj).1]; exact (h j hj).1
    refine ⟨by simp only [litsV, V.size]; exact f1, fun x hx => ?_, fun j hj => ?_⟩
    · simp only [litsV, List.mem_flatMap, List.mem_range] at hx
      obtain ⟨j, hj, hx⟩ := hx
      exact (each j hj).2.1 x hx
    · simp only [V.size] at hj
      have he : 0 < e := by
        rcases Nat.eq_zero_or_pos e with rfl | he
        · simp at hj
        · exact he
      have hd : j / e < n := by rwa [Nat.div_lt_iff_lt_mul he]
      have hm := Nat.mod_lt j he
      have h3 := (each (j / e) hd).2.2 (j % e) (by rw [(h (j / e) hd).1]; exact hm)
      have h4 := f2 (j / e) (j % e) hd hm
      have e1 : j / e * e + j % e = j := by rw [Nat.mul_comm]; exact Nat.div_add_mod j e
      rw [e1] at h3 h4
      simp only [litsV]
      rw [h3, h4]
  | one a ih => intro ρ q pos g hok h; exact ih hok h.2
  | _ => intro ρ q pos g hok; exact hok.elim

theorem int_wf {k : IntKind} {n : Int} (h : inR k n) : (Lit.int k n).wf = true := by
  simp only [Lit.wf, Bool.and_eq_true, decide_eq_true_eq]; exact h

theorem ckF_keys {f : TypeId → Option (List CK)} {d : Nat} (ih : ∀ (t : TypeId) (ks : List CK) (lv : List LV), f t = some ks → P.keyTypeAt d t = true → ks.length = P.cellsOf t → lv.map kindL = ks → (∀ x ∈ lv, x.wf) → P.keyLits d t (lv.map LV.val) = some (lv.map LV.lit)) :
    ∀ (fs : List Field) (o : Nat) (ks : List CK) (pre lv : List LV), ckT.ckF P f o fs = some ks → (∀ g ∈ fs, P.keyTypeAt d g.type = true) → pre.length = o → lv.map kindL = ks → (∀ x ∈ lv, x.wf) →
      (fs.mapM fun g => P.keyLits d g.type ((((pre ++ lv).map LV.val).drop g.offset).take (P.cellsOf g.type))).map List.flatten = some (lv.map LV.lit)
  | [], o, ks, pre, lv, h, _, _, hk, _ => by
    simp only [ckT.ckF, Option.some.injEq] at h
    subst h
    have : lv = [] := by simpa using hk
    subst this
    simp
  | g :: fs, o, ks, pre, lv, h, hkt, hp, hk, hw => by
    simp only [ckT.ckF, Option.bind_eq_some_iff] at h
    obtain ⟨l, h1, h2⟩ := h
    split at h2
    · rename_i hc
      simp only [Bool.and_eq_true, beq_iff_eq] at hc
      simp only [Option.map_eq_some_iff] at h2
      obtain ⟨r, h3, rfl⟩ := h2
      -- the list parts in two
      obtain ⟨lv1, lv2, rfl, k1, k2⟩ : ∃ lv1 lv2, lv = lv1 ++ lv2 ∧ lv1.map kindL = l ∧ lv2.map kindL = r := by
        obtain ⟨a, b, h4, h5, h6⟩ := List.map_eq_append_iff.1 hk
        exact ⟨a, b, h4, h5, h6⟩
      have hl1 : lv1.length = l.length := by rw [← k1]; simp
      have e1 : ((((pre ++ (lv1 ++ lv2)).map LV.val).drop g.offset).take (P.cellsOf g.type)) = lv1.map LV.val := by
        rw [hc.1, ← hp, ← hc.2, ← hl1, List.map_append, List.map_append, List.drop_left' (by simp), List.take_left' (by simp)]
      have e2 := ih g.type l lv1 h1 (hkt g (by simp)) hc.2 k1 fun x hx => hw x (by simp [hx])
      have e3 := ckF_keys ih fs (o + l.length) r (pre ++ lv1) lv2 h3 (fun g' hg => hkt g' (by simp [hg])) (by simp; omega) k2 fun x hx => hw x (by simp [hx])
      rw [List.mapM_cons]
      simp only [e1, e2, Option.bind_eq_bind, Option.bind_some, Option.pure_def]
      rw [List.append_assoc] at e3
      simp only [Option.map_eq_some_iff] at e3 ⊢
      obtain ⟨y, h7, h8⟩ := e3
      exact ⟨lv1.map LV.lit :: y, by rw [h7]; rfl, by simp [h8]⟩
    · cases h2

theorem parts_eq {n m : Nat} {ks : List CK} : ∀ {lv : List LV}, lv.map kindL = (List.replicate n ks).flatten → ks.length = m → ∃ parts : List (List LV), parts.length = n ∧ lv = parts.flatten ∧ (∀ p ∈ parts, p.map kindL = ks) := by
  induction n with
  | zero =>
    intro lv h _
    exact ⟨[], rfl, by simpa using h, by simp⟩
  | succ n ih =>
    intro lv h hm
    rw [List.replicate_succ, List.flatten_cons] at h
    obtain ⟨a, b, h4, h5, h6⟩ := List.map_eq_append_iff.1 h
    obtain ⟨ps, g1, g2, g3⟩ := ih h6 hm
    exact ⟨a :: ps, by simp [g1], by simp [h4, g2], fun p hp => (List.mem_cons.1 hp).elim (fun e => e ▸ h5) (g3 p)⟩

theorem flat_chunk {α : Type} {m : Nat} : ∀ {parts : List (List α)} {i : Nat}, (∀ p ∈ parts, p.length = m) → i < parts.length → (parts.flatten.drop (i * m)).take m = parts[i]?.getD []
  | [], i, _, hi => by simp at hi
  | p :: ps, 0, h, _ => by
    have hp := h p (by simp)
    simp only [Nat.zero_mul, List.drop_zero, List.flatten_cons, List.getElem?_cons_zero, Option.getD_some]
    exact List.take_left' hp
  | p :: ps, i + 1, h, hi => by
    have hp := h p (by simp)
    have := flat_chunk (parts := ps) (i := i) (fun q hq => h q (List.mem_cons_of_mem _ hq)) (by simpa using hi)
    rw [List.flatten_cons, Nat.add_mul, Nat.one_mul, Nat.add_comm, ← List.drop_drop, List.drop_left' hp, this]
    simp

theorem mapM_range {α β : Type} {f : Nat → Option α} {g : β → α} : ∀ {l : List β} (k : Nat), (∀ (i : Nat) (x : β), l[i]? = some x → f (k + i) = some (g x)) → ((List.range' k l.length).mapM f) = some (l.map g)
  | [], _, _ => rfl
  | x :: l, k, h => by
    have h0 := h 0 x rfl
    have ih := mapM_range (l := l) (k + 1) fun i y hy => by
      have := h (i + 1) y (by simpa using hy)
      rw [show k + 1 + i = k + (i + 1) by omega]; exact this
    rw [List.length_cons, List.range'_succ, List.mapM_cons]
    rw [Nat.add_zero] at h0
    simp [h0, ih]

theorem ck_keys : ∀ (d : Nat) (t : TypeId) (ks : List CK) (lv : List LV), ckT P d t = some ks → P.keyTypeAt d t = true → ks.length = P.cellsOf t → lv.map kindL = ks → (∀ x ∈ lv, x.wf) → P.keyLits d t (lv.map LV.val) = some (lv.map LV.lit)
  | 0, _, _, _, h, _, _, _, _ => by simp [ckT] at h
  | d + 1, t, ks, lv, h, hkt, hn, hk, hw => by
    unfold ckT at h
    unfold Program.keyTypeAt at hkt
    have len1 : ∀ {c : CK}, [c] = ks → ∃ x, lv = [x] ∧ kindL x = c := fun {c} e => by
      rw [← e] at hk
      obtain ⟨x, r, h1, h2, h3⟩ := List.map_eq_cons_iff.1 hk
      have : r = [] := by simpa using h3
      subst this
      exact ⟨x, h1, h2⟩
    cases hu : P.underlying t with
    | none => rw [hu] at h; cases h
    | some kd =>
      rw [hu] at h hkt
      cases kd <;> first | (cases h; done) | skip
      case bool =>
        obtain ⟨x, rfl, hx⟩ := len1 (Option.some.inj h)
        cases x <;> simp [kindL] at hx
        simp [Program.keyLits, hu, LV.val, LV.lit]
      case int k =>
        obtain ⟨x, rfl, hx⟩ := len1 (Option.some.inj h)
        cases x <;> simp [kindL] at hx
        subst hx
        have := hw _ (List.mem_singleton.2 rfl)
        simp [Program.keyLits, hu, LV.val, LV.lit, int_wf this]
      case string =>
        obtain ⟨x, rfl, hx⟩ := len1 (Option.some.inj h)
        cases x <;> simp [kindL] at hx
        rename_i l
        have h1 := hw _ (List.mem_singleton.2 rfl)
        have h2 : (toBA l).size ≤ maxLen := by rw [toBA_size]; exact h1.1
        simp [Program.keyLits, hu, LV.val, LV.lit, h2]
      case array n e =>
        simp only [Option.bind_eq_some_iff] at h
        obtain ⟨l, h1, h2⟩ := h
        split at h2
        · rename_i hc
          simp only [Bool.and_eq_true, beq_iff_eq, decide_eq_true_eq] at hc
          cases h2
          obtain ⟨ps, g1, rfl, g3⟩ := parts_eq (m := P.cellsOf e) hk hc.1
          have hlen : ∀ p ∈ ps, p.length = P.cellsOf e := fun p hp => by rw [← hc.1, ← g3 p hp]; simp
          unfold Program.keyLits
          simp only [hu]
          have hcs : (ps.flatten.map LV.val).length = P.cellsOf t := by rw [List.length_map, ← hn, ← hk, List.length_map]
          rw [if_pos hcs]
          have hm := mapM_range (f := fun i => P.keyLits d e (((ps.flatten.map LV.val).drop (i * P.cellsOf e)).take (P.cellsOf e))) (g := fun p : List LV => p.map LV.lit) (l := ps) 0 fun i p hp => by
            have hi : i < ps.length := (List.getElem?_eq_some_iff.1 hp).1
            have hmem := List.mem_of_getElem? hp
            rw [Nat.zero_add]
            have e1 : ((ps.flatten.map LV.val).drop (i * P.cellsOf e)).take (P.cellsOf e) = p.map LV.val := by
              rw [← List.map_drop, ← List.map_take, flat_chunk hlen hi, hp]; rfl
            rw [e1]
            exact ck_keys d e l p h1 hkt hc.1 (g3 p hmem) fun x hx => hw x (List.mem_flatten.2 ⟨p, hmem, hx⟩)
          rw [g1, ← List.range_eq_range'] at hm
          rw [hm]
          simp [List.map_flatten]
        · cases h2
      case struct fs =>
        simp only [Bool.and_eq_true] at hkt
        have hkt1 : ∀ g ∈ fs.toList, g.name ≠ "_" ∧ P.keyTypeAt d g.type = true := fun g hg => by
          have := Array.all_eq_true_iff_forall_mem.1 hkt.1.1 g (Array.mem_toList_iff.1 hg)
          simpa only [Bool.and_eq_true, bne_iff_ne, ne_eq] using this
        have := ckF_keys (P := P) (d := d) (fun t ks lv a b c d' e => ck_keys d t ks lv a b c d' e) fs.toList 0 ks [] lv h (fun g hg => (hkt1 g hg).2) rfl hk hw
        unfold Program.keyLits
        simp only [hu]
        have hcs : (lv.map LV.val).length = P.cellsOf t := by rw [List.length_map, ← hn, ← hk, List.length_map]
        rw [if_pos ⟨hcs, Array.all_eq_true_iff_forall_mem.2 fun g hg => by simpa using (hkt1 g (Array.mem_toList_iff.2 hg)).1⟩]
        simpa using this
/-- cells of plain literals, as a value of this type -/
theorem key_rep {t : TypeId} {ks : List CK} {v : V} {x : Value} (hks : ckT P 6 t = some ks) (hkt : P.keyTypeAt 6 t = true) (hn : ks.length = P.cellsOf t) (hw : (∃ n e, P.underlying t = some (.array n e)) ∨ ∃ fs, P.underlying t = some (.struct fs))
    (hk : kindsP ks v) (hv : VRep I w ρ v x) (ha : v.isAgg = true) : ∃ cs, x = .agg cs ∧ x.formed P t = true ∧ P.keyLits 6 t x.cells.toList = some ((litsV v).map LV.lit) ∧ ∀ y ∈ litsV v, y.wf := by
  obtain ⟨cs, rfl, h1, h2⟩ := vr_agg hv ha
  obtain ⟨h3, h4, h5⟩ := lits_rep v hk.1 h2
  have hlen : (litsV v).length = ks.length := by rw [← hk.2]; simp
  have hcs : cs.toList = (litsV v).map LV.val := by
    apply List.ext_getElem?
    intro j
    rw [Array.getElem?_toList, List.getElem?_map]
    by_cases hj : j < v.size
    · exact h5 j hj
    · rw [Array.getElem?_eq_none (by omega), List.getElem?_eq_none (by omega)]; rfl
  refine ⟨cs, rfl, ?_, ?_, h4⟩
  · rcases hw with ⟨n, e, hu⟩ | ⟨fs, hu⟩ <;> simp [Value.formed, hu] <;> omega
  · show P.keyLits 6 t cs.toList = _
    rw [hcs]
    exact ck_keys 6 t ks _ hks hkt hn hk.2 h4

theorem eqZT_spec {t : TypeId} {ty : ETy} (hty : eqZT P t = some ty) : ∃ ks, ty = .z ks ∧ P.keyTypeAt 6 t = true ∧ P.eqGuardType P.depth t = false ∧ ckT P 6 t = some ks ∧ ks.length = P.cellsOf t ∧
    ((∃ n e, P.underlying t = some (.array n e)) ∨ ∃ fs, P.underlying t = some (.struct fs)) := by
  have body : ((∃ n e, P.underlying t = some (.array n e)) ∨ ∃ fs, P.underlying t = some (.struct fs)) →
      (if (P.keyTypeAt 6 t && !P.eqGuardType P.depth t) = true then (match ckT P 6 t with
        | some ks => if (ks.length == P.cellsOf t) = true then some (ETy.z ks) else none
        | none => none) else none) = some ty →
      ∃ ks, ty = .z ks ∧ P.keyTypeAt 6 t = true ∧ P.eqGuardType P.depth t = false ∧ ckT P 6 t = some ks ∧ ks.length = P.cellsOf t ∧ ((∃ n e, P.underlying t = some (.array n e)) ∨ ∃ fs, P.underlying t = some (.struct fs)) := fun hw hb => by
    split at hb
    · rename_i h1
      simp only [Bool.and_eq_true, Bool.not_eq_true'] at h1
      split at hb
      · rename_i ks hks
        split at hb
        · rename_i hn
          cases hb
          exact ⟨ks, rfl, h1.1, h1.2, hks, by simpa using hn, hw⟩
        · cases hb
      · cases hb
    · cases hb
  unfold eqZT at hty
  split at hty
  · rename_i n e hu; exact body (.inl ⟨_, _, hu⟩) hty
  · rename_i fs hu; exact body (.inr ⟨_, hu⟩) hty
  · cases hty

theorem step_eqZ (h : Rep X I ρ ow s a.tmps w) (hd : dstOk X o) {t yt : TypeId} {x y : Operand} {ix iy : IX} {ty : ETy} {ne : Bool} (ho : o.op = .binOp (if ne then .neq else .eql) t x y yt) (hty : eqZT P t = some ty)
    (hx : opIX x = some ix) (hy : opIX y = some iy) {e : Eff} (he : ((eqR apf ty (ev s.t ix) (ev s.t iy)).bind fun v => .ok (noEff (if ne then notV apf v else v))).to e) : StepOk P X o a w s e := by
  obtain ⟨v, hv, rfl⟩ := bind_to he
  have hvx := ev_rep h hx
  have hvy := ev_rep h hy
  obtain ⟨ks, rfl, hkt, hg, hks, hn, hw⟩ := eqZT_spec hty
  simp only [eqR] at hv
  obtain ⟨hag, hk1, hk2, hv⟩ := rif_to hv
  cases hv
  simp only [Bool.and_eq_true] at hag
  obtain ⟨cs, hxe, f1, k1, w1⟩ := key_rep hks hkt hn hw hk1 hvx hag.1
  obtain ⟨ds, hye, f2, k2, w2⟩ := key_rep hks hkt hn hw hk2 hvy hag.2
  obtain ⟨r, hr, hiff⟩ := run_equalIn_deep (P := P) 9994 6 t hkt w 6 6 (a.eval x) (a.eval y) _ _ f1 f2 k1 k2
  have hr' : (Op.equal t (a.eval x) (a.eval y)).run P w = .ok r w := hr
  have hrb : r = eqZ (ev s.t ix) (ev s.t iy) := by
    have := hiff.trans (lits_inj w1 w2)
    unfold eqZ
    cases r with
    | true => exact (decide_eq_true (this.1 rfl)).symm
    | false => exact (decide_eq_false fun e => by have := this.2 e; cases this).symm
  rw [hxe, hye] at hr'
  refine stepVal h hd (x := .bool (if ne then !r else r)) ?_ ?_
  · cases ne <;> simp [execOp, ho, hxe, hye, eqGuard, hg, binOp, hr']
  · subst hrb
    cases ne with
    | true => exact bool_vr _
    | false => exact bool_vr _
end
end Go.Cx
