/-
  Cx 39: further arguments, as a statement reads them.
-/
import Derived.Test.YtojllgpnhaaagaaDoorCxF
import Derived.ChangeMaps5
namespace Go.Cx
open Go Go.ChangeShapes Go.WideShapes Go.ChangeAt Go.RowKit Go.ChangeMaps

section
variable {H : Type} {enc : TypeId × Value → H} {P : Program} {W : World}

theorem law_int {k : IntKind} {t : TypeId} (ht : P.underlying t = some (.int k)) {base : Nat} {v : Value} {d : DataW H} {p : List MemPlace}
    (hval : Value.okWide P W .any base t v) (h : DataW.Trod enc P W 0 (fun _ => true) true t v d p) : ∃ n lo, LArg W (.v (.int k n)) v lo none := by
  obtain ⟨n, rfl, _, _, hw⟩ := open_int ht hval h
  exact ⟨n, .ph, int_vr (lit_wf hw), rfl⟩

theorem law_str {t : TypeId} (ht : P.underlying t = some .string) {base : Nat} {v : Value} {d : DataW H} {p : List MemPlace}
    (hval : Value.okWide P W .any base t v) (h : DataW.Trod enc P W 0 (fun _ => true) true t v d p) : ∃ l lo, LArg W (.v (.str l)) v lo none ∧ ((d.weights P t).all (· ≤ reachBytes) = true → l.length ≤ 140737488351232) := by
  obtain ⟨s, rfl, rfl, _, hs⟩ := open_string ht hval h
  refine ⟨bytesI s, .ph, ⟨?_, rfl⟩, fun hw => ?_⟩
  · have := str_vr (I := fun b => b < W.heap.size) (w := W) (ρ := noR) (l := bytesI s) (by rw [bytesI_len]; exact hs) (bytesI_rng s)
    rw [toBA_bytesI] at this
    exact this
  · have hw : ([s.data.toList.length] : List Nat).all (fun x => decide (x ≤ reachBytes)) = true := hw
    have h0 := List.all_eq_true.1 hw s.data.toList.length (List.mem_cons_self ..)
    have h1 : s.data.toList.length ≤ reachBytes := of_decide_eq_true h0
    have h3 : reachBytes = 140737488351232 := rfl
    rw [bytesI_len]
    have h2 : s.size = s.data.toList.length := by rw [← bytesI_len]; simp only [bytesI, List.length_map]
    omega

def intOf : Value → Int
  | .int _ n => n
  | _ => 0

theorem law_arr {k : IntKind} {t e : TypeId} {n : Nat} (ht : P.underlying t = some (.array n e)) (he : P.underlying e = some (.int k)) (hc : P.cellsOf e = 1) (hct : P.cellsOf t = n) {base : Nat} {v : Value} {d : DataW H} {p : List MemPlace}
    (hval : Value.okWide P W .any base t v) (h : DataW.Trod enc P W 0 (fun _ => true) true t v d p) : ∃ l lo, LArg W (.v (.ints k n l)) v lo none := by
  obtain ⟨fuel, h⟩ := h
  obtain ⟨cs, rfl, hcs, _⟩ : ∃ cs, v = .agg cs ∧ cs.size = P.cellsOf t ∧ Row.okWide P W .any base t cs := by
    simpa only [Value.okWide, ht] using hval
  obtain ⟨xs, m, rfl, _, hl, hlen, hel⟩ := DataW.trod_array ht h
  rw [hct] at hcs
  have cell : ∀ i, i < n → ∃ z, cs[i]? = some (.int k z) ∧ inR k z := fun i hi => by
    have h1 := hel i hi
    rw [List.getElem?_eq_getElem (by omega)] at h1
    obtain ⟨z, h2, _, h3⟩ := DataW.trod_int he h1
    refine ⟨z, ?_, lit_wf h3⟩
    have h4 : ((Value.agg cs).cells.toList.drop (i * P.cellsOf e)).take (P.cellsOf e) = [cs[i]'(by omega)] := by
      rw [hc, Nat.mul_one]
      show (cs.toList.drop i).take 1 = _
      rw [List.drop_eq_getElem_cons (by simp; omega)]
      simp
    rw [h4] at h2
    rw [Array.getElem?_eq_getElem (by omega)]
    simpa using h2
  refine ⟨cs.toList.map intOf, .ph, agg_vr rfl (by simp [V.size, hcs]) ⟨by simp [hcs], fun y hy => ?_, fun j hj => ?_⟩, rfl⟩
  · obtain ⟨x, hx, rfl⟩ := List.mem_map.1 hy
    obtain ⟨i, hi⟩ := List.mem_iff_getElem?.1 hx
    have hin : i < n := by have := (List.getElem?_eq_some_iff.1 hi).1; simp at this; omega
    obtain ⟨z, h1, h2⟩ := cell i hin
    have : cs[i]? = some x := by simpa using hi
    rw [h1] at this
    cases this
    exact h2
  · obtain ⟨z, h1, h2⟩ := cell j hj
    show cs[j]? = _
    rw [h1]
    simp [nthI, List.getD_eq_getElem?_getD, h1, intOf]
end
end Go.Cx

/- Cx 42: plain structs, as a statement reads them. -/
namespace Go.Cx
open Go Go.ChangeShapes Go.WideShapes Go.ChangeAt Go.RowKit Go.ChangeMaps

/-- what numbers, arrays and structs of them hold -/
def Flat : V → Prop
  | .bool _ | .int _ _ | .ints _ _ _ => True
  | .cat _ _ a b => Flat a ∧ Flat b
  | .rows _ _ f => ∀ j, Flat (f j)
  | _ => False
theorem flat_rep {I : Nat → Prop} {w : World} {ow : Own} (c : V) : Flat c → ∀ {ρ ρ' : Rho} {q q' : List Nat} {pos pos' : Nat} {g g' : Nat → Option Value}, (∀ j, j < c.size → g' j = g j) → CRep I w ow c ρ q pos g → CRep I w ow c ρ' q' pos' g' := by
  induction c with
  | bool b => intro _ ρ ρ' q q' pos pos' g g' e h; exact (e 0 (by simp [V.size])).trans h
  | int k n => intro _ ρ ρ' q q' pos pos' g g' e h; exact ⟨(e 0 (by simp [V.size])).trans h.1, h.2⟩
  | ints k n l => intro _ ρ ρ' q q' pos pos' g g' e h; exact ⟨h.1, h.2.1, fun j hj => (e j hj).trans (h.2.2 j hj)⟩
  | cat n m a b iha ihb =>
    intro hf ρ ρ' q q' pos pos' g g' e h
    obtain ⟨ha, hb, h1, h2⟩ := h
    refine ⟨ha, hb, iha hf.1 (fun j hj => e j (by simp only [V.size]; omega)) h1, ihb hf.2 (fun j hj => e (n + j) (by simp only [V.size]; omega)) h2⟩
  | rows s n f ih =>
    intro hf ρ ρ' q q' pos pos' g g' e h j hj
    obtain ⟨h1, h2⟩ := h j hj
    refine ⟨h1, ih j (hf j) (fun r hr => e (j * s + r) ?_) h2⟩
    simp only [V.size]
    have : (j + 1) * s ≤ n * s := Nat.mul_le_mul_right _ hj
    rw [Nat.add_mul] at this
    omega
  | _ => intro hf; exact hf.elim

/-- cells that hold c -/
def Piece (W : World) (cs : List Value) (c : V) : Prop := cs.length = c.size ∧ Flat c ∧ CRep (fun b => b < W.heap.size) W (fun _ => none) c noR [] 0 (fun j => cs[j]?)

theorem Piece.cat {W : World} {cs : List Value} {n : Nat} {a b : V} (h1 : Piece W (cs.take n) a) (hn : n ≤ cs.length) (h2 : Piece W (cs.drop n) b) : Piece W cs (.cat n (cs.length - n) a b) := by
  obtain ⟨a1, a2, a3⟩ := h1
  obtain ⟨b1, b2, b3⟩ := h2
  simp only [List.length_take, List.length_drop] at a1 b1
  refine ⟨by simp only [V.size]; omega, ⟨a2, b2⟩, by omega, by omega, flat_rep a a2 (fun j hj => ?_) a3, flat_rep b b2 (fun j hj => ?_) b3⟩
  · rw [List.getElem?_take, if_pos (by omega)]
  · rw [List.getElem?_drop]

section
variable {H : Type} {enc : TypeId × Value → H} {P : Program} {W : World}

theorem piece_bool {t : TypeId} (ht : P.underlying t = some .bool) {fuel : Nat} {cs : List Value} {x : DataW H × List MemPlace} (h : DataW.trod enc P W 0 (fun _ => true) true fuel t cs = some x) : ∃ u, Piece W cs (.bool u) := by
  obtain ⟨b, rfl, _⟩ := DataW.trod_bool ht h
  exact ⟨b, rfl, trivial, rfl⟩
theorem piece_int {k : IntKind} {t : TypeId} (ht : P.underlying t = some (.int k)) {fuel : Nat} {cs : List Value} {x : DataW H × List MemPlace} (h : DataW.trod enc P W 0 (fun _ => true) true fuel t cs = some x) : ∃ n, Piece W cs (.int k n) := by
  obtain ⟨b, rfl, _, hw⟩ := DataW.trod_int ht h
  exact ⟨b, rfl, trivial, rfl, lit_wf hw⟩
theorem piece_ints {k : IntKind} {t e : TypeId} {n : Nat} (ht : P.underlying t = some (.array n e)) (he : P.underlying e = some (.int k)) (hc : P.cellsOf e = 1) (hct : P.cellsOf t = n) {fuel : Nat} {cs : List Value} {x : DataW H × List MemPlace}
    (h : DataW.trod enc P W 0 (fun _ => true) true fuel t cs = some x) : ∃ l, Piece W cs (.ints k n l) := by
  obtain ⟨xs, m, _, _, hl, hlen, hel⟩ := DataW.trod_array ht h
  rw [hct] at hl
  have cell : ∀ i, i < n → ∃ z, cs[i]? = some (.int k z) ∧ inR k z := fun i hi => by
    have h1 := hel i hi
    rw [List.getElem?_eq_getElem (by omega)] at h1
    obtain ⟨z, h2, _, h3⟩ := DataW.trod_int he h1
    refine ⟨z, ?_, lit_wf h3⟩
    have h4 : (cs.drop (i * P.cellsOf e)).take (P.cellsOf e) = [cs[i]'(by omega)] := by
      rw [hc, Nat.mul_one, List.drop_eq_getElem_cons (by omega)]
      rfl
    rw [h4] at h2
    rw [List.getElem?_eq_getElem (by omega)]
    simpa using h2
  refine ⟨cs.map intOf, by simp [V.size, hl], trivial, by simp [hl], fun y hy => ?_, fun j hj => ?_⟩
  · obtain ⟨x, hx, rfl⟩ := List.mem_map.1 hy
    obtain ⟨i, hi⟩ := List.mem_iff_getElem?.1 hx
    have hin : i < n := by have := (List.getElem?_eq_some_iff.1 hi).1; omega
    obtain ⟨z, h1, h2⟩ := cell i hin
    rw [h1] at hi
    cases hi
    exact h2
  · obtain ⟨z, h1, h2⟩ := cell j hj
    show cs[j]? = _
    rw [h1]
    simp [nthI, List.getD_eq_getElem?_getD, h1, intOf]

/-- an array of structs -/
theorem piece_rows {t e : TypeId} {n s : Nat} (ht : P.underlying t = some (.array n e)) (hc : P.cellsOf e = s) (hct : P.cellsOf t = n * s) {Q : V → Prop} {d : V} (hd : Q d ∧ d.size = s ∧ Flat d) {fuel : Nat} {cs : List Value} {x : DataW H × List MemPlace}
    (h : DataW.trod enc P W 0 (fun _ => true) true fuel t cs = some x) (hp : ∀ fuel cs x, DataW.trod enc P W 0 (fun _ => true) true fuel e cs = some x → ∃ c, Q c ∧ c.size = s ∧ Piece W cs c) : ∃ f : Nat → V, (∀ j, Q (f j)) ∧ Piece W cs (.rows s n f) := by
  obtain ⟨xs, m, _, _, hl, hlen, hel⟩ := DataW.trod_array ht h
  rw [hct] at hl
  have each : ∀ j, ∃ c, Q c ∧ c.size = s ∧ Flat c ∧ (j < n → Piece W ((cs.drop (j * s)).take s) c) := fun j => by
    by_cases hj : j < n
    · have h1 := hel j hj
      rw [List.getElem?_eq_getElem (by omega), hc] at h1
      obtain ⟨c, hq, hs, hpc⟩ := hp _ _ _ h1
      exact ⟨c, hq, hs, hpc.2.1, fun _ => hpc⟩
    · exact ⟨d, hd.1, hd.2.1, hd.2.2, fun h => absurd h hj⟩
  obtain ⟨f, hf⟩ := Classical.skolem.1 each
  refine ⟨f, fun j => (hf j).1, hl, fun j => (hf j).2.2.1, fun j hj => ⟨(hf j).2.1, ?_⟩⟩
  obtain ⟨p1, p2, p3⟩ := (hf j).2.2.2 hj
  refine flat_rep _ p2 (fun r hr => ?_) p3
  have hs := (hf j).2.1
  rw [List.getElem?_take, if_pos (by omega), List.getElem?_drop]

theorem struct_agg {t : TypeId} {fs : Array Field} (ht : P.underlying t = some (.struct fs)) {base : Nat} (v : Value) (hval : Value.okWide P W .any base t v) : ∃ cs, v = .agg cs := by
  obtain ⟨cs, rfl, _⟩ : ∃ cs, v = .agg cs ∧ cs.size = P.cellsOf t ∧ Row.okWide P W .any base t cs := by simpa only [Value.okWide, ht] using hval
  exact ⟨cs, rfl⟩

/-- an argument that is an array or a struct -/
theorem law_piece {t : TypeId} {base : Nat} {v : Value} {d : DataW H} {p : List MemPlace} (hag : ∀ v, Value.okWide P W .any base t v → ∃ cs, v = .agg cs)
    (hval : Value.okWide P W .any base t v) (h : DataW.Trod enc P W 0 (fun _ => true) true t v d p) {Q : V → Prop}
    (hp : ∀ fuel cs x, DataW.trod enc P W 0 (fun _ => true) true fuel t cs = some x → ∃ c, Q c ∧ c.isAgg = true ∧ Piece W cs c) : ∃ c lo, Q c ∧ LArg W (.v c) v lo none := by
  obtain ⟨fuel, h⟩ := h
  obtain ⟨cs, rfl⟩ := hag v hval
  obtain ⟨c, hq, ha, h1, _, h2⟩ := hp _ _ _ h
  refine ⟨c, .ph, hq, agg_vr ha (by simpa [Value.cells] using h1) ?_, rfl⟩
  have e : (fun j => (Value.agg cs).cells.toList[j]?) = fun j : Nat => cs[j]? := by funext j; simp [Value.cells]
  rw [e] at h2
  exact CRep.out h2

/-- bytes that no one writes, as a statement reads them -/
theorem law_frozen {t e : TypeId} (ht : P.underlying t = some (.slice e)) (he : P.underlying e = some (.int .u8)) (hc : P.cellsOf e = 1) (hb : P.bytesOf e = 1) {base : Nat} {v : Value} {d : DataW H} {p : List MemPlace}
    (hval : Value.okWide P W .any base t v) (h : DataW.Trod enc P W 0 (fun _ => true) true t v d p) : ∃ n l lo, LArg W (.v (.dsl n 1 (.ints .u8 n l))) v lo none ∧ ((d.weights P t).all (· ≤ reachBytes) = true → n ≤ 140737488351232) := by
  obtain ⟨fuel, h⟩ := h
  obtain ⟨ad, n, c, rfl⟩ := slice_is ht hval
  rcases open_ints ht he hc h with ⟨h1, h2⟩ | ⟨a, len, cap, zs, h1, h2, h3, h4, h5, h6, h7, h8⟩
  · simp only [Value.cells, List.cons.injEq, Value.slice.injEq, and_true] at h1
    obtain ⟨rfl, rfl, rfl⟩ := h1
    exact ⟨0, [], .ph, ⟨leaf_vr rfl rfl rfl ⟨none, 0, rfl, Nat.le_refl _, by simp, ⟨rfl, rfl⟩, ⟨rfl, by simp, fun j hj => by omega⟩, .inl rfl⟩, rfl⟩, fun _ => by omega⟩
  · simp only [Value.cells, List.cons.injEq, Value.slice.injEq, and_true] at h1
    obtain ⟨rfl, rfl, rfl⟩ := h1
    cases h6
    simp only [if_true] at h5
    obtain ⟨ha, hblk⟩ := slice_has ht hval
    obtain ⟨b, off, sp⟩ := a
    simp only at ha hblk
    subst ha
    refine ⟨n, zs.take n, .ph, ⟨leaf_vr rfl rfl rfl ⟨_, c, rfl, h3, h4, ⟨rfl, rfl⟩, ⟨by simp; omega, fun y hy => lit_wf (h8 y (List.mem_of_mem_take hy)), fun j hj => ?_⟩, .inr ⟨b, off, rfl, hblk⟩⟩, rfl⟩, fun hw => ?_⟩
    · have := h7 j (by omega)
      have e1 : (⟨b, off, none⟩ : Addr).add j = ⟨b, off + j, none⟩ := by
        simp only [Addr.add]
        split
        · rename_i e; subst e; rfl
        · rfl
      rw [e1] at this
      show W.cell? ⟨b, off + j, none⟩ = _
      rw [this]
      simp [nthI, List.getD_eq_getElem?_getD, List.getElem?_take, hj]
    · simp only [DataW.weights, ht, List.all_cons, Bool.and_eq_true, decide_eq_true_eq, hb, reachBytes] at hw
      have := of_decide_eq_true hw.1
      simp only [lits, List.length_map, List.length_take, List.length_drop, Nat.mul_one] at this
      omega
end
end Go.Cx
