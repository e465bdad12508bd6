/-
  SealOpens: for every input the law returns true, and its arguments read as before. Conditions: the package variables sha.keys and cloisterref01.k start as the program's text lays them (tied by the card).
-/
import Derived.Test.YtojllgpnhaaagaaDoorSealH
namespace Go.Proofs.YtojllgpnhaaagaaDoor.SealOpens
open Go Go.ChangeShapes Go.WideShapes Go.ChangeAt Go.RowKit Go.Cx Go.Cx.Rb Go.Proofs.YtojllgpnhaaagaaDoor.Law
theorem cells23 : Tryd.prog.cellsOf 23 = 32 := by kernel_rfl
set_option maxRecDepth 100000 in
theorem contract (H : Type) (enc : TypeId × Value → H) (W : World) (base : Nat) (args : Array Value) (ds gs : List (DataW H)) (before : List MemPlace)
    (hval : ∀ (j : Nat) t v, Tryd.f19.params[j]? = some t → args[j]? = some v → Value.okWide Tryd.prog W .any base t v)
    (hW : DataW.Whole enc Tryd.prog Tryd.f19.params.toList Rows.sealOpensSpec.vars false W args.toList ds gs before) (hL : laidMetH Tryd.prog Rows.sealOpensRow.laid W)
    (hs : (DataW.weightsEach Tryd.prog (Tryd.f19.params.toList ++ (OpenSpec.ofChange Rows.sealOpensSpec).bare.plain.varTypes Tryd.prog) (ds ++ gs)).all (· ≤ reachBytes) = true) :
    Calls Tryd.prog 19 args W fun e W' => ∃ v, e = .returned v ∧ Rows.sealOpensSpec.post enc Tryd.prog Tryd.f19 false true false false W args v W' := by
  have hW' := hW
  obtain ⟨p, q, hA0, hV, rfl, hfz, hnd⟩ := hW
  have hA : DataW.TrodAll enc Tryd.prog W 0 (fun _ => true) true Tryd.f19.params.toList args.toList ds p := hA0
  have hA' := hA
  rw [Tryd.params19] at hA hval hs
  obtain ⟨v0, vs0, d0, ds0, p0, q0, hargs, rfl, rfl, h0, r0⟩ := trodAll_cons hA
  obtain ⟨v1, vs1, d1, ds1, p1, q1, rfl, rfl, rfl, h1, r1⟩ := trodAll_cons r0
  obtain ⟨rfl, rfl, rfl⟩ := trodAll_nil r1
  obtain rfl : args = #[v0, v1] := by cases args; simp_all
  obtain ⟨rfl, rfl⟩ := trodVars_none hV
  obtain ⟨l0, lo0, g0⟩ := law_arr Tryd.underlying23 Tryd.underlying5 cells5 cells23 (hval 0 23 v0 rfl rfl) h0
  obtain ⟨n1, l1, lo1, g1, b1⟩ := law_frozen Tryd.underlying46 Tryd.underlying5 cells5 bytes5 (hval 1 46 v1 rfl rfl) h1
  simp only [List.append_nil, List.nil_append, DataW.weightsEach, List.cons_append, List.all_append, Bool.and_eq_true] at hs
  obtain ⟨w0, w1, _⟩ := hs
  have m1 : n1 ≤ 140737488351232 := b1 w1
  have hout : (cLaw19 apf [.v (.ints .u8 32 l0), .v (.dsl n1 1 (.ints .u8 n1 l1))]).to ⟨.tt, [], []⟩ := hout19 m1
  refine (law_calls (args := [.v (.ints .u8 32 l0), .v (.dsl n1 1 (.ints .u8 n1 l1))]) (vals := [v0, v1]) (los := [lo0, lo1]) s19 (both hL) ⟨g0, g1, trivial⟩ (by simp) hout).mono fun e W' ⟨x, I', ρ', he, hx, hl⟩ => ?_
  obtain rfl := vr_tt hx
  refine ⟨.bool true, he, ?_⟩
  simp only [List.append_nil] at hW' hA'
  exact law_post hW' rfl hA' rfl Tryd.underlying4 rfl (fun t ht => ⟨3, by
    rw [Tryd.params19] at ht
    simp at ht
    rcases ht with rfl | rfl
    all_goals kernel_rfl⟩) hl
theorem reads (os : Os) {H : Type} (enc : TypeId × Value → H) : ∃ places, DataW.whole enc Tryd.prog ((laidWorld os).forCall (fun _ _ => 0) ⟨#[], #[.agg (Array.replicate 32 (.int .u8 0)), .slice none 0 0], []⟩).memory Tryd.f19.params.toList Rows.sealOpensSpec.vars false (#[.agg (Array.replicate 32 (.int .u8 0)), .slice none 0 0] : Array Value).toList 8 = some ([.agg (List.replicate 32 (.lit (.int .u8 0))), .nil], [], places) :=
  ⟨[], by kernel_rfl⟩
set_option maxRecDepth 100000 in
theorem lifted (os : Os) (started : os.Started) (H : Type) (enc : TypeId × Value → H) (F : Stop.Interp) :
    ReturnsInHanded {} Tryd.checked os 19 .any ((OpenSpec.ofChange Rows.sealOpensSpec).preRow enc Tryd.prog Tryd.f19 Rows.sealOpensRow.domain false Rows.sealOpensRow.laid) (((OpenSpec.ofChange Rows.sealOpensSpec).at F).post enc Tryd.prog Tryd.f19 false true false false) := by
  obtain ⟨places, hx⟩ := reads os enc
  refine returnsInHanded_of_row (C := Tryd.checked) (s := OpenSpec.ofChange Rows.sealOpensSpec) own started (by kernel_rfl) Tryd.func19
    (witness_row_at (enc := enc) (C := Tryd.checked) false (laidWorld os) #[.agg (Array.replicate 32 (.int .u8 0)), .slice none 0 0] rfl (by kernel_rfl) (by kernel_rfl) (by kernel_rfl)
      (OpenSpec.preRow_of_cond 8 hx (by kernel_rfl) (fun k hk => by cases hk) (by kernel_rfl) (laid_met os _))) ?_
  intro W base args ds gs before hval hW _ _ hs hL _ _
  exact contract H enc W base args ds gs before hval hW hL hs
theorem facts : joinedFacts Tryd.prog 19 Tryd.f19 (OpenSpec.ofChange Rows.sealOpensSpec).bare Rows.sealOpensRow = true := by
  unfold joinedFacts
  rw [may_enter, lifts_final, make_is]
  kernel_rfl
theorem said : Rows.SealOpensSaid :=
  OpenClaim.holds_of_cond 19 Tryd.f19 rfl rfl rfl rfl rfl rfl rfl ⟨rfl, rfl, rfl, rfl, rfl⟩ rfl rfl rfl rfl rfl (by kernel_rfl) Tryd.func19 facts
    (of_decide_eq_true (by kernel_rfl)) (by unfold Func.isWrapper; first | (rw [if_pos (by decide +kernel)]; kernel_rfl) | (rw [if_neg (by decide +kernel)]; exact ⟨rfl, rfl⟩))
    (fun os started H enc _ F => by rw [OpenClaim.pre_eq_preRow]; exact lifted os started H enc F)
set_option maxRecDepth 100000 in
theorem plain (f : FuncId) (fn : Func) (hf : Tryd.pinned.checked.prog.funcNamed "cloister/cloisterlaw07.SealOpens" = some f) (hfn : Tryd.pinned.checked.prog.funcs[f]? = some fn) :
    false = Tryd.pinned.checked.prog.looks [] ∧ ∀ (j : Nat) t, fn.params[j]? = some t → Tryd.pinned.checked.prog.wantsStandIn t = false := by
  obtain rfl : f = 19 := Option.some.inj ((show Tryd.prog.funcNamed "cloister/cloisterlaw07.SealOpens" = some 19 by kernel_rfl).symm.trans hf) |>.symm
  obtain rfl : fn = Tryd.f19 := (Option.some.inj (Tryd.func19.symm.trans hfn)).symm
  refine ⟨by kernel_rfl, fun j t ht => ?_⟩
  rw [Tryd.params19] at ht
  have hm := Array.mem_of_getElem? ht
  simp at hm
  rcases hm with rfl | rfl
  · exact (show Tryd.prog.wantsStandIn 23 = false by kernel_rfl)
  · exact (show Tryd.prog.wantsStandIn 46 = false by kernel_rfl)
theorem card : Rows.SealOpensCardSaid :=
  Claim7.holds_tied_plain_at .later [] _ _ _ _ said (fun _ h => by cases h) (by kernel_rfl) (fun _ h => by cases h) sealOpens_row_tie rfl ⟨rfl, rfl⟩ main_is rfl plain (by kernel_rfl)
end Go.Proofs.YtojllgpnhaaagaaDoor.SealOpens
