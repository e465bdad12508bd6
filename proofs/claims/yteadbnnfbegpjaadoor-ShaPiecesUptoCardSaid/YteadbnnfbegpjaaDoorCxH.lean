/-
  Cx 40: slices of slices, as a statement reads them.
-/
import Derived.Test.YteadbnnfbegpjaaDoorCxG
namespace Go.Cx
open Go Go.ChangeShapes Go.WideShapes Go.ChangeAt Go.RowKit

section
variable {H : Type} {enc : TypeId × Value → H} {P : Program} {W : World}

theorem add_none {b off j : Nat} : (⟨b, off, none⟩ : Addr).add j = ⟨b, off + j, none⟩ := by
  simp only [Addr.add]
  split
  · rename_i e; subst e; rfl
  · rfl

theorem cell_plain {a : Addr} {x : Value} (h : W.cell? a = some x) : a.spot = none ∧ a.block < W.heap.size := by
  simp only [World.cell?] at h
  split at h
  · rename_i hh
    refine ⟨?_, heap_lt hh⟩
    split at h
    · cases h
    · rename_i hs
      cases hsp : a.spot with
      | none => rfl
      | some _ => rw [hsp] at hs; exact absurd rfl hs
  · cases h

/-- one row of small numbers, found in memory -/
theorem in_row {k : IntKind} {t e : TypeId} (ht : P.underlying t = some (.slice e)) (he : P.underlying e = some (.int k)) (hc : P.cellsOf e = 1) {fuel : Nat} {c : Value} {x : DataW H × List MemPlace}
    (h : DataW.trod enc P W 0 (fun _ => true) true fuel t [c] = some x) :
    ∃ ad n cp l rs, c = .slice ad n cp ∧ n ≤ cp ∧ cp ≤ maxLen ∧ l.length = n ∧ CRep (fun b => b < W.heap.size) W (fun _ => none) (.ints k n l) noR [] 0 (behind W ad) ∧ (cp = 0 ∨ ∃ b off, ad = some ⟨b, off, none⟩ ∧ b < W.heap.size) ∧
      (n = 0 ∨ x.1 = .slice (lits k l) rs) := by
  rcases open_ints ht he hc h with ⟨h1, h2⟩ | ⟨a, len, cap, zs, h1, h2, h3, h4, h5, h6, h7, h8⟩
  · simp only [List.cons.injEq, and_true] at h1
    exact ⟨none, 0, 0, [], [], h1, Nat.le_refl _, by simp, rfl, ⟨rfl, by simp, fun j hj => by omega⟩, .inl rfl, .inl rfl⟩
  · simp only [List.cons.injEq, and_true] at h1
    simp only [if_true] at h5
    by_cases hz : cap = 0
    · subst hz
      obtain rfl : len = 0 := by omega
      exact ⟨_, 0, 0, [], [], h1, Nat.le_refl _, by simp, rfl, ⟨rfl, by simp, fun j hj => by omega⟩, .inl rfl, .inl rfl⟩
    · have h70 := h7 0 (by omega)
      have e0 : a.add 0 = a := by simp [Addr.add]
      rw [e0] at h70
      obtain ⟨ha, hblk⟩ := cell_plain h70
      obtain ⟨b, off, sp⟩ := a
      simp only at ha hblk
      subst ha
      refine ⟨_, len, cap, zs.take len, lits k (zs.drop len), h1, h3, h4, by simp; omega, ⟨by simp; omega, fun y hy => lit_wf (h8 y (List.mem_of_mem_take hy)), fun j hj => ?_⟩, .inr ⟨b, off, rfl, hblk⟩, .inr (by rw [h6])⟩
      have := h7 j (by omega)
      rw [add_none] at this
      show W.cell? ⟨b, off + j, none⟩ = _
      rw [this]
      simp [nthI, List.getD_eq_getElem?_getD, List.getElem?_take, hj]

def rowsV (k : IntKind) (m : Nat → Nat) (l : Nat → List Int) (j : Nat) : V := .dsl (m j) 1 (.ints k (m j) (l j))

/-- rows of small numbers, as a statement reads them -/
theorem law_rows {k : IntKind} {t e u : TypeId} (ht : P.underlying t = some (.slice e)) (he : P.underlying e = some (.slice u)) (hu : P.underlying u = some (.int k)) (hc : P.cellsOf e = 1) (hcu : P.cellsOf u = 1) {base : Nat} {v : Value} {d : DataW H} {p : List MemPlace}
    (hval : Value.okWide P W .any base t v) (h : DataW.Trod enc P W 0 (fun _ => true) true t v d p) :
    ∃ n m l lo, LArg W (.v (.dsl n 1 (.rows 1 n (rowsV k m l)))) v lo none ∧ (∀ j, j < n → (l j).length = m j) ∧
      (n = 0 ∨ ∃ ds rs, d = .slice ds rs ∧ ds.length = n ∧ ∀ j, j < n → m j = 0 ∨ ∃ rs', ds[j]? = some (.slice (lits k (l j)) rs')) := by
  obtain ⟨fuel, h⟩ := h
  obtain ⟨ad, n, c, rfl⟩ := slice_is ht hval
  rcases DataW.trod_slice ht h with ⟨h1, h2⟩ | ⟨a, len, cap, elems, rest, f, _, h1, h2, _, h3, h4, h5, h6, h7, _⟩
  · simp only [Value.cells, List.cons.injEq, Value.slice.injEq, and_true] at h1
    obtain ⟨rfl, rfl, rfl⟩ := h1
    exact ⟨0, fun _ => 0, fun _ => [], .ph, ⟨leaf_vr rfl rfl rfl ⟨none, 0, rfl, Nat.le_refl _, by simp, ⟨rfl, rfl⟩, fun j hj => by omega, .inl rfl⟩, rfl⟩, fun j hj => by omega, .inl rfl⟩
  · simp only [Value.cells, List.cons.injEq, Value.slice.injEq, and_true] at h1
    obtain ⟨rfl, rfl, rfl⟩ := h1
    cases h2
    obtain ⟨ha, hblk⟩ := slice_has ht hval
    obtain ⟨b, off, sp⟩ := a
    simp only at ha hblk
    subst ha
    rw [hc] at h6
    have each : ∀ j, ∃ ml : Nat × List Int, j < n → ml.2.length = ml.1 ∧ (∃ x, W.cell? ⟨b, off + j, none⟩ = some x ∧ ∃ a cp, x = .slice a ml.1 cp ∧ ml.1 ≤ cp ∧ cp ≤ maxLen ∧ CRep (fun b => b < W.heap.size) W (fun _ => none) (.ints k ml.1 ml.2) noR [] 0 (behind W a) ∧ (cp = 0 ∨ ∃ b off, a = some ⟨b, off, none⟩ ∧ b < W.heap.size)) ∧
        (ml.1 = 0 ∨ ∃ rs', (elems.map (·.1))[j]? = some (.slice (lits k ml.2) rs')) := fun j => by
      by_cases hj : j < n
      · have h0 := h6 j hj
        rw [Nat.mul_one, add_none, List.getElem?_eq_getElem (by omega)] at h0
        obtain ⟨cs, hcs, h0⟩ := Option.bind_eq_some_iff.1 h0
        obtain ⟨_, hl, hcell⟩ := World.cells?_some hcs
        obtain ⟨x, rfl⟩ : ∃ x, cs = [x] := by
          match cs, hl with
          | [x], _ => exact ⟨x, rfl⟩
        have hx := hcell 0 (by omega)
        obtain ⟨a', m, cp, l, rs, rfl, g1, g2, g3, g4, g5, g6⟩ := in_row he hu hcu h0
        refine ⟨(m, l), fun _ => ⟨g3, ⟨_, ?_, a', cp, rfl, g1, g2, g4, g5⟩, ?_⟩⟩
        · rw [add_none] at hx
          simpa using hx
        · rcases g6 with g6 | g6
          · exact .inl g6
          · right
            refine ⟨rs, ?_⟩
            rw [List.getElem?_map, List.getElem?_eq_getElem (by omega)]
            simp only [Option.map_some, g6]
      · exact ⟨(0, []), fun h => absurd h hj⟩
    obtain ⟨ml, hml⟩ := Classical.skolem.1 each
    refine ⟨n, fun j => (ml j).1, fun j => (ml j).2, .ph, ⟨leaf_vr rfl rfl rfl ⟨_, c, rfl, h3, h4, ⟨rfl, rfl⟩, fun j hj => ⟨rfl, ?_⟩, .inr ⟨b, off, rfl, hblk⟩⟩, rfl⟩, fun j hj => (hml j hj).1, .inr ⟨_, _, rfl, by simpa using h5, fun j hj => (hml j hj).2.2⟩⟩
    obtain ⟨_, ⟨x, hx, a', cp, rfl, g1, g2, g3, g4⟩, _⟩ := hml j hj
    refine ⟨a', cp, ?_, g1, g2, ⟨rfl, rfl⟩, g3, g4⟩
    show W.cell? ⟨b, off + (j * 1 + 0), none⟩ = _
    rw [show off + (j * 1 + 0) = off + j by omega]
    exact hx
end
end Go.Cx
