/-
  MerkleFolds: for every input the law returns true, and its arguments read as before. Conditions: the package variables sha.keys and cloisterref01.k start as the program's text lays them (tied by the card).
-/
import Derived.Test.YtojllgpnhaaagaaDoorMerkG
namespace Go.Proofs.YtojllgpnhaaagaaDoor.MerkleFolds
open Go Go.ChangeShapes Go.WideShapes Go.ChangeAt Go.RowKit Go.Cx Go.Cx.Rb Go.Proofs.YtojllgpnhaaagaaDoor.Law
set_option maxRecDepth 100000 in
theorem contract (H : Type) (enc : TypeId × Value → H) (W : World) (base : Nat) (args : Array Value) (ds gs : List (DataW H)) (before : List MemPlace)
    (hval : ∀ (j : Nat) t v, Tryd.f7.params[j]? = some t → args[j]? = some v → Value.okWide Tryd.prog W .any base t v)
    (hW : DataW.Whole enc Tryd.prog Tryd.f7.params.toList Rows.merkleFoldsSpec.vars false W args.toList ds gs before) (hL : laidMetH Tryd.prog Rows.merkleFoldsRow.laid W)
    (hs : (DataW.weightsEach Tryd.prog (Tryd.f7.params.toList ++ (OpenSpec.ofChange Rows.merkleFoldsSpec).bare.plain.varTypes Tryd.prog) (ds ++ gs)).all (· ≤ reachBytes) = true) :
    Calls Tryd.prog 7 args W fun e W' => ∃ v, e = .returned v ∧ Rows.merkleFoldsSpec.post enc Tryd.prog Tryd.f7 false true false false W args v W' := by
  have hW' := hW
  obtain ⟨p, q, hA0, hV, rfl, hfz, hnd⟩ := hW
  have hA : DataW.TrodAll enc Tryd.prog W 0 (fun _ => true) true Tryd.f7.params.toList args.toList ds p := hA0
  have hA' := hA
  rw [Tryd.params7] at hA hval hs
  obtain ⟨v0, vs0, d0, ds0, p0, q0, hargs, rfl, rfl, h0, r0⟩ := trodAll_cons hA
  obtain ⟨v1, vs1, d1, ds1, p1, q1, rfl, rfl, rfl, h1, r1⟩ := trodAll_cons r0
  obtain ⟨v2, vs2, d2, ds2, p2, q2, rfl, rfl, rfl, h2, r2⟩ := trodAll_cons r1
  obtain ⟨v3, vs3, d3, ds3, p3, q3, rfl, rfl, rfl, h3, r3⟩ := trodAll_cons r2
  obtain ⟨v4, vs4, d4, ds4, p4, q4, rfl, rfl, rfl, h4, r4⟩ := trodAll_cons r3
  obtain ⟨rfl, rfl, rfl⟩ := trodAll_nil r4
  obtain rfl : args = #[v0, v1, v2, v3, v4] := by cases args; simp_all
  obtain ⟨rfl, rfl⟩ := trodVars_none hV
  obtain ⟨n0, lo0, g0⟩ := law_int Tryd.underlying3 (hval 0 3 v0 rfl rfl) h0
  obtain ⟨n1, lo1, g1⟩ := law_int Tryd.underlying3 (hval 1 3 v1 rfl rfl) h1
  obtain ⟨l2, lo2, g2⟩ := law_arr Tryd.underlying23 Tryd.underlying5 cells5 cells23 (hval 2 23 v2 rfl rfl) h2
  obtain ⟨n3, l3, lo3, g3, b3⟩ := law_leaves (hval 3 22 v3 rfl rfl) h3
  obtain ⟨n4, l4, lo4, g4, b4⟩ := law_leaves (hval 4 22 v4 rfl rfl) h4
  simp only [List.append_nil, List.nil_append, DataW.weightsEach, List.cons_append, List.all_append, Bool.and_eq_true] at hs
  obtain ⟨w0, w1, w2, w3, w4, _⟩ := hs
  have m3 : n3 ≤ 4398046510976 := b3 w3
  have m4 : n4 ≤ 4398046510976 := b4 w4
  have hout : (cLaw7 apf [.v (.int .i64 n0), .v (.int .i64 n1), .v (.ints .u8 32 l2), .v (.dsl n3 32 (.rows 32 n3 (rowV apf l3))), .v (.dsl n4 32 (.rows 32 n4 (rowV apf l4)))]).to ⟨.tt, [], []⟩ := hout7 m3 m4
  refine (law_calls (args := [.v (.int .i64 n0), .v (.int .i64 n1), .v (.ints .u8 32 l2), .v (.dsl n3 32 (.rows 32 n3 (rowV apf l3))), .v (.dsl n4 32 (.rows 32 n4 (rowV apf l4)))]) (vals := [v0, v1, v2, v3, v4]) (los := [lo0, lo1, lo2, lo3, lo4]) s7 (both hL) ⟨g0, g1, g2, g3, g4, trivial⟩ (by simp) hout).mono fun e W' ⟨x, I', ρ', he, hx, hl⟩ => ?_
  obtain rfl := vr_tt hx
  refine ⟨.bool true, he, ?_⟩
  simp only [List.append_nil] at hW' hA'
  exact law_post hW' rfl hA' rfl Tryd.underlying4 rfl (fun t ht => ⟨3, by
    rw [Tryd.params7] at ht
    simp at ht
    rcases ht with rfl | rfl | rfl
    all_goals kernel_rfl⟩) hl
theorem reads (os : Os) {H : Type} (enc : TypeId × Value → H) : ∃ places, DataW.whole enc Tryd.prog ((laidWorld os).forCall (fun _ _ => 0) ⟨#[], #[.int .i64 0, .int .i64 0, .agg (Array.replicate 32 (.int .u8 0)), .slice none 0 0, .slice none 0 0], []⟩).memory Tryd.f7.params.toList Rows.merkleFoldsSpec.vars false (#[.int .i64 0, .int .i64 0, .agg (Array.replicate 32 (.int .u8 0)), .slice none 0 0, .slice none 0 0] : Array Value).toList 8 = some ([.lit (.int .i64 0), .lit (.int .i64 0), .agg (List.replicate 32 (.lit (.int .u8 0))), .nil, .nil], [], places) :=
  ⟨[], by kernel_rfl⟩
set_option maxRecDepth 100000 in
theorem lifted (os : Os) (started : os.Started) (H : Type) (enc : TypeId × Value → H) (F : Stop.Interp) :
    ReturnsInHanded {} Tryd.checked os 7 .any ((OpenSpec.ofChange Rows.merkleFoldsSpec).preRow enc Tryd.prog Tryd.f7 Rows.merkleFoldsRow.domain false Rows.merkleFoldsRow.laid) (((OpenSpec.ofChange Rows.merkleFoldsSpec).at F).post enc Tryd.prog Tryd.f7 false true false false) := by
  obtain ⟨places, hx⟩ := reads os enc
  refine returnsInHanded_of_row (C := Tryd.checked) (s := OpenSpec.ofChange Rows.merkleFoldsSpec) own started (by kernel_rfl) Tryd.func7
    (witness_row_at (enc := enc) (C := Tryd.checked) false (laidWorld os) #[.int .i64 0, .int .i64 0, .agg (Array.replicate 32 (.int .u8 0)), .slice none 0 0, .slice none 0 0] rfl (by kernel_rfl) (by kernel_rfl) (by kernel_rfl)
      (OpenSpec.preRow_of_cond 8 hx (by kernel_rfl) (fun k hk => by cases hk) (by kernel_rfl) (laid_met os _))) ?_
  intro W base args ds gs before hval hW _ _ hs hL _ _
  exact contract H enc W base args ds gs before hval hW hL hs
theorem facts : joinedFacts Tryd.prog 7 Tryd.f7 (OpenSpec.ofChange Rows.merkleFoldsSpec).bare Rows.merkleFoldsRow = true := by
  unfold joinedFacts
  rw [may_enter, lifts_final, make_is]
  kernel_rfl
theorem said : Rows.MerkleFoldsSaid :=
  OpenClaim.holds_of_cond 7 Tryd.f7 rfl rfl rfl rfl rfl rfl rfl ⟨rfl, rfl, rfl, rfl, rfl⟩ rfl rfl rfl rfl rfl (by kernel_rfl) Tryd.func7 facts
    (of_decide_eq_true (by kernel_rfl)) (by unfold Func.isWrapper; first | (rw [if_pos (by decide +kernel)]; kernel_rfl) | (rw [if_neg (by decide +kernel)]; exact ⟨rfl, rfl⟩))
    (fun os started H enc _ F => by rw [OpenClaim.pre_eq_preRow]; exact lifted os started H enc F)
set_option maxRecDepth 100000 in
theorem plain (f : FuncId) (fn : Func) (hf : Tryd.pinned.checked.prog.funcNamed "cloister/cloisterlaw10.MerkleFolds" = some f) (hfn : Tryd.pinned.checked.prog.funcs[f]? = some fn) :
    false = Tryd.pinned.checked.prog.looks [] ∧ ∀ (j : Nat) t, fn.params[j]? = some t → Tryd.pinned.checked.prog.wantsStandIn t = false := by
  obtain rfl : f = 7 := Option.some.inj ((show Tryd.prog.funcNamed "cloister/cloisterlaw10.MerkleFolds" = some 7 by kernel_rfl).symm.trans hf) |>.symm
  obtain rfl : fn = Tryd.f7 := (Option.some.inj (Tryd.func7.symm.trans hfn)).symm
  refine ⟨by kernel_rfl, fun j t ht => ?_⟩
  rw [Tryd.params7] at ht
  have hm := Array.mem_of_getElem? ht
  simp at hm
  rcases hm with rfl | rfl | rfl
  · exact (show Tryd.prog.wantsStandIn 3 = false by kernel_rfl)
  · exact (show Tryd.prog.wantsStandIn 23 = false by kernel_rfl)
  · exact (show Tryd.prog.wantsStandIn 22 = false by kernel_rfl)
theorem card : Rows.MerkleFoldsCardSaid :=
  Claim7.holds_tied_plain_at .later [] _ _ _ _ said (fun _ h => by cases h) (by kernel_rfl) (fun _ h => by cases h) merkleFolds_row_tie rfl ⟨rfl, rfl⟩ main_is rfl plain (by kernel_rfl)
end Go.Proofs.YtojllgpnhaaagaaDoor.MerkleFolds
