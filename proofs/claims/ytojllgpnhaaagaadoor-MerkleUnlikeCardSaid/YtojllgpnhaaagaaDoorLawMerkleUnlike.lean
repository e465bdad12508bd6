/-
  MerkleUnlike: for every input the law returns true, and its arguments read as before. Conditions: the package variables sha.keys and cloisterref01.k start as the program's text lays them (tied by the card).
-/
import Derived.Test.YtojllgpnhaaagaaDoorMerkG
namespace Go.Proofs.YtojllgpnhaaagaaDoor.MerkleUnlike
open Go Go.ChangeShapes Go.WideShapes Go.ChangeAt Go.RowKit Go.Cx Go.Cx.Rb Go.Proofs.YtojllgpnhaaagaaDoor.Law
set_option maxRecDepth 100000 in
theorem contract (H : Type) (enc : TypeId × Value → H) (W : World) (base : Nat) (args : Array Value) (ds gs : List (DataW H)) (before : List MemPlace)
    (hval : ∀ (j : Nat) t v, Tryd.f3.params[j]? = some t → args[j]? = some v → Value.okWide Tryd.prog W .any base t v)
    (hW : DataW.Whole enc Tryd.prog Tryd.f3.params.toList Rows.merkleUnlikeSpec.vars false W args.toList ds gs before) (hL : laidMetH Tryd.prog Rows.merkleUnlikeRow.laid W)
    (hs : (DataW.weightsEach Tryd.prog (Tryd.f3.params.toList ++ (OpenSpec.ofChange Rows.merkleUnlikeSpec).bare.plain.varTypes Tryd.prog) (ds ++ gs)).all (· ≤ reachBytes) = true) :
    Calls Tryd.prog 3 args W fun e W' => ∃ v, e = .returned v ∧ Rows.merkleUnlikeSpec.post enc Tryd.prog Tryd.f3 false true false false W args v W' := by
  have hW' := hW
  obtain ⟨p, q, hA0, hV, rfl, hfz, hnd⟩ := hW
  have hA : DataW.TrodAll enc Tryd.prog W 0 (fun _ => true) true Tryd.f3.params.toList args.toList ds p := hA0
  have hA' := hA
  rw [Tryd.params3] at hA hval hs
  obtain ⟨v0, vs0, d0, ds0, p0, q0, hargs, rfl, rfl, h0, r0⟩ := trodAll_cons hA
  obtain ⟨v1, vs1, d1, ds1, p1, q1, rfl, rfl, rfl, h1, r1⟩ := trodAll_cons r0
  obtain ⟨v2, vs2, d2, ds2, p2, q2, rfl, rfl, rfl, h2, r2⟩ := trodAll_cons r1
  obtain ⟨rfl, rfl, rfl⟩ := trodAll_nil r2
  obtain rfl : args = #[v0, v1, v2] := by cases args; simp_all
  obtain ⟨rfl, rfl⟩ := trodVars_none hV
  obtain ⟨n0, l0, lo0, g0, b0⟩ := law_leaves (hval 0 22 v0 rfl rfl) h0
  obtain ⟨n1, lo1, g1⟩ := law_int Tryd.underlying3 (hval 1 3 v1 rfl rfl) h1
  obtain ⟨l2, lo2, g2⟩ := law_arr Tryd.underlying23 Tryd.underlying5 cells5 cells23 (hval 2 23 v2 rfl rfl) h2
  simp only [List.append_nil, List.nil_append, DataW.weightsEach, List.cons_append, List.all_append, Bool.and_eq_true] at hs
  obtain ⟨w0, w1, w2, _⟩ := hs
  have m0 : n0 ≤ 4398046510976 := b0 w0
  have hout : (cLaw3 apf [.v (.dsl n0 32 (.rows 32 n0 (rowV apf l0))), .v (.int .i64 n1), .v (.ints .u8 32 l2)]).to ⟨.tt, [], []⟩ := hout3 m0
  refine (law_calls (args := [.v (.dsl n0 32 (.rows 32 n0 (rowV apf l0))), .v (.int .i64 n1), .v (.ints .u8 32 l2)]) (vals := [v0, v1, v2]) (los := [lo0, lo1, lo2]) s3 (both hL) ⟨g0, g1, g2, trivial⟩ (by simp) hout).mono fun e W' ⟨x, I', ρ', he, hx, hl⟩ => ?_
  obtain rfl := vr_tt hx
  refine ⟨.bool true, he, ?_⟩
  simp only [List.append_nil] at hW' hA'
  exact law_post hW' rfl hA' rfl Tryd.underlying4 rfl (fun t ht => ⟨3, by
    rw [Tryd.params3] at ht
    simp at ht
    rcases ht with rfl | rfl | rfl
    all_goals kernel_rfl⟩) hl
theorem reads (os : Os) {H : Type} (enc : TypeId × Value → H) : ∃ places, DataW.whole enc Tryd.prog ((laidWorld os).forCall (fun _ _ => 0) ⟨#[], #[.slice none 0 0, .int .i64 0, .agg (Array.replicate 32 (.int .u8 0))], []⟩).memory Tryd.f3.params.toList Rows.merkleUnlikeSpec.vars false (#[.slice none 0 0, .int .i64 0, .agg (Array.replicate 32 (.int .u8 0))] : Array Value).toList 8 = some ([.nil, .lit (.int .i64 0), .agg (List.replicate 32 (.lit (.int .u8 0)))], [], places) :=
  ⟨[], by kernel_rfl⟩
set_option maxRecDepth 100000 in
theorem lifted (os : Os) (started : os.Started) (H : Type) (enc : TypeId × Value → H) (F : Stop.Interp) :
    ReturnsInHanded {} Tryd.checked os 3 .any ((OpenSpec.ofChange Rows.merkleUnlikeSpec).preRow enc Tryd.prog Tryd.f3 Rows.merkleUnlikeRow.domain false Rows.merkleUnlikeRow.laid) (((OpenSpec.ofChange Rows.merkleUnlikeSpec).at F).post enc Tryd.prog Tryd.f3 false true false false) := by
  obtain ⟨places, hx⟩ := reads os enc
  refine returnsInHanded_of_row (C := Tryd.checked) (s := OpenSpec.ofChange Rows.merkleUnlikeSpec) own started (by kernel_rfl) Tryd.func3
    (witness_row_at (enc := enc) (C := Tryd.checked) false (laidWorld os) #[.slice none 0 0, .int .i64 0, .agg (Array.replicate 32 (.int .u8 0))] rfl (by kernel_rfl) (by kernel_rfl) (by kernel_rfl)
      (OpenSpec.preRow_of_cond 8 hx (by kernel_rfl) (fun k hk => by cases hk) (by kernel_rfl) (laid_met os _))) ?_
  intro W base args ds gs before hval hW _ _ hs hL _ _
  exact contract H enc W base args ds gs before hval hW hL hs
theorem facts : joinedFacts Tryd.prog 3 Tryd.f3 (OpenSpec.ofChange Rows.merkleUnlikeSpec).bare Rows.merkleUnlikeRow = true := by
  unfold joinedFacts
  rw [may_enter, lifts_final, make_is]
  kernel_rfl
theorem said : Rows.MerkleUnlikeSaid :=
  OpenClaim.holds_of_cond 3 Tryd.f3 rfl rfl rfl rfl rfl rfl rfl ⟨rfl, rfl, rfl, rfl, rfl⟩ rfl rfl rfl rfl rfl (by kernel_rfl) Tryd.func3 facts
    (of_decide_eq_true (by kernel_rfl)) (by unfold Func.isWrapper; first | (rw [if_pos (by decide +kernel)]; kernel_rfl) | (rw [if_neg (by decide +kernel)]; exact ⟨rfl, rfl⟩))
    (fun os started H enc _ F => by rw [OpenClaim.pre_eq_preRow]; exact lifted os started H enc F)
set_option maxRecDepth 100000 in
theorem plain (f : FuncId) (fn : Func) (hf : Tryd.pinned.checked.prog.funcNamed "cloister/cloisterlaw10.MerkleUnlike" = some f) (hfn : Tryd.pinned.checked.prog.funcs[f]? = some fn) :
    false = Tryd.pinned.checked.prog.looks [] ∧ ∀ (j : Nat) t, fn.params[j]? = some t → Tryd.pinned.checked.prog.wantsStandIn t = false := by
  obtain rfl : f = 3 := Option.some.inj ((show Tryd.prog.funcNamed "cloister/cloisterlaw10.MerkleUnlike" = some 3 by kernel_rfl).symm.trans hf) |>.symm
  obtain rfl : fn = Tryd.f3 := (Option.some.inj (Tryd.func3.symm.trans hfn)).symm
  refine ⟨by kernel_rfl, fun j t ht => ?_⟩
  rw [Tryd.params3] at ht
  have hm := Array.mem_of_getElem? ht
  simp at hm
  rcases hm with rfl | rfl | rfl
  · exact (show Tryd.prog.wantsStandIn 22 = false by kernel_rfl)
  · exact (show Tryd.prog.wantsStandIn 3 = false by kernel_rfl)
  · exact (show Tryd.prog.wantsStandIn 23 = false by kernel_rfl)
theorem card : Rows.MerkleUnlikeCardSaid :=
  Claim7.holds_tied_plain_at .later [] _ _ _ _ said (fun _ h => by cases h) (by kernel_rfl) (fun _ h => by cases h) merkleUnlike_row_tie rfl ⟨rfl, rfl⟩ main_is rfl plain (by kernel_rfl)
end Go.Proofs.YtojllgpnhaaagaaDoor.MerkleUnlike
