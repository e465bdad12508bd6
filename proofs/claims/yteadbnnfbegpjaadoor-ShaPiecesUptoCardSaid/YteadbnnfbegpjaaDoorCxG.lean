/-
  Cx 39: further arguments, as a statement reads them.
-/
import Derived.Test.YteadbnnfbegpjaaDoorCxF
import Derived.ChangeMaps5
namespace Go.Cx
open Go Go.ChangeShapes Go.WideShapes Go.ChangeAt Go.RowKit Go.ChangeMaps

section
variable {H : Type} {enc : TypeId × Value → H} {P : Program} {W : World}

theorem law_int {k : IntKind} {t : TypeId} (ht : P.underlying t = some (.int k)) {base : Nat} {v : Value} {d : DataW H} {p : List MemPlace}
    (hval : Value.okWide P W .any base t v) (h : DataW.Trod enc P W 0 (fun _ => true) true t v d p) : ∃ n lo, LArg W (.v (.int k n)) v lo none := by
  obtain ⟨n, rfl, _, _, hw⟩ := open_int ht hval h
  exact ⟨n, .ph, int_vr (lit_wf hw), rfl⟩

theorem law_str {t : TypeId} (ht : P.underlying t = some .string) {base : Nat} {v : Value} {d : DataW H} {p : List MemPlace}
    (hval : Value.okWide P W .any base t v) (h : DataW.Trod enc P W 0 (fun _ => true) true t v d p) : ∃ l lo, LArg W (.v (.str l)) v lo none ∧ ((d.weights P t).all (· ≤ reachBytes) = true → l.length ≤ 140737488351232) := by
  obtain ⟨s, rfl, rfl, _, hs⟩ := open_string ht hval h
  refine ⟨bytesI s, .ph, ⟨?_, rfl⟩, fun hw => ?_⟩
  · have := str_vr (I := fun b => b < W.heap.size) (w := W) (ρ := noR) (l := bytesI s) (by rw [bytesI_len]; exact hs) (bytesI_rng s)
    rw [toBA_bytesI] at this
    exact this
  · have hw : ([s.data.toList.length] : List Nat).all (fun x => decide (x ≤ reachBytes)) = true := hw
    have h0 := List.all_eq_true.1 hw s.data.toList.length (List.mem_cons_self ..)
    have h1 : s.data.toList.length ≤ reachBytes := of_decide_eq_true h0
    have h3 : reachBytes = 140737488351232 := rfl
    rw [bytesI_len]
    have h2 : s.size = s.data.toList.length := by rw [← bytesI_len]; simp only [bytesI, List.length_map]
    omega

def intOf : Value → Int
  | .int _ n => n
  | _ => 0

theorem law_arr {k : IntKind} {t e : TypeId} {n : Nat} (ht : P.underlying t = some (.array n e)) (he : P.underlying e = some (.int k)) (hc : P.cellsOf e = 1) (hct : P.cellsOf t = n) {base : Nat} {v : Value} {d : DataW H} {p : List MemPlace}
    (hval : Value.okWide P W .any base t v) (h : DataW.Trod enc P W 0 (fun _ => true) true t v d p) : ∃ l lo, LArg W (.v (.ints k n l)) v lo none := by
  obtain ⟨fuel, h⟩ := h
  obtain ⟨cs, rfl, hcs, _⟩ : ∃ cs, v = .agg cs ∧ cs.size = P.cellsOf t ∧ Row.okWide P W .any base t cs := by
    simpa only [Value.okWide, ht] using hval
  obtain ⟨xs, m, rfl, _, hl, hlen, hel⟩ := DataW.trod_array ht h
  rw [hct] at hcs
  have cell : ∀ i, i < n → ∃ z, cs[i]? = some (.int k z) ∧ inR k z := fun i hi => by
    have h1 := hel i hi
    rw [List.getElem?_eq_getElem (by omega)] at h1
    obtain ⟨z, h2, _, h3⟩ := DataW.trod_int he h1
    refine ⟨z, ?_, lit_wf h3⟩
    have h4 : ((Value.agg cs).cells.toList.drop (i * P.cellsOf e)).take (P.cellsOf e) = [cs[i]'(by omega)] := by
      rw [hc, Nat.mul_one]
      show (cs.toList.drop i).take 1 = _
      rw [List.drop_eq_getElem_cons (by simp; omega)]
      simp
    rw [h4] at h2
    rw [Array.getElem?_eq_getElem (by omega)]
    simpa using h2
  refine ⟨cs.toList.map intOf, .ph, agg_vr rfl (by simp [V.size, hcs]) ⟨by simp [hcs], fun y hy => ?_, fun j hj => ?_⟩, rfl⟩
  · obtain ⟨x, hx, rfl⟩ := List.mem_map.1 hy
    obtain ⟨i, hi⟩ := List.mem_iff_getElem?.1 hx
    have hin : i < n := by have := (List.getElem?_eq_some_iff.1 hi).1; simp at this; omega
    obtain ⟨z, h1, h2⟩ := cell i hin
    have : cs[i]? = some x := by simpa using hi
    rw [h1] at this
    cases this
    exact h2
  · obtain ⟨z, h1, h2⟩ := cell j hj
    show cs[j]? = _
    rw [h1]
    simp [nthI, List.getD_eq_getElem?_getD, h1, intOf]
end
end Go.Cx
