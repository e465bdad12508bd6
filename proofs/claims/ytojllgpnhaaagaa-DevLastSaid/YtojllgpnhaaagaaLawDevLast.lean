/-
  DevLast: for every input the law returns true, and its arguments read as before. Conditions: none.
-/
import Derived.Test.YtojllgpnhaaagaaDevCF
namespace Go.Proofs.Ytojllgpnhaaagaa.DevLast
open Go Go.ChangeShapes Go.WideShapes Go.ChangeAt Go.RowKit Go.Cx Go.Cx.Rd Go.Proofs.Ytojllgpnhaaagaa.Law
set_option maxRecDepth 100000 in
theorem contract (H : Type) (enc : TypeId × Value → H) (W : World) (base : Nat) (args : Array Value) (ds gs : List (DataW H)) (before : List MemPlace)
    (hval : ∀ (j : Nat) t v, Try.f4.params[j]? = some t → args[j]? = some v → Value.okWide Try.prog W .any base t v)
    (hW : DataW.Whole enc Try.prog Try.f4.params.toList Rows.devLastSpec.vars false W args.toList ds gs before)
    (hs : (DataW.weightsEach Try.prog (Try.f4.params.toList ++ (OpenSpec.ofChange Rows.devLastSpec).bare.plain.varTypes Try.prog) (ds ++ gs)).all (· ≤ reachBytes) = true) :
    Calls Try.prog 4 args W fun e W' => ∃ v, e = .returned v ∧ Rows.devLastSpec.post enc Try.prog Try.f4 false true false false W args v W' := by
  have hW' := hW
  obtain ⟨p, q, hA0, hV, rfl, hfz, hnd⟩ := hW
  have hA : DataW.TrodAll enc Try.prog W 0 (fun _ => true) true Try.f4.params.toList args.toList ds p := hA0
  have hA' := hA
  rw [Try.params4] at hA hval hs
  obtain ⟨v0, vs0, d0, ds0, p0, q0, hargs, rfl, rfl, h0, r0⟩ := trodAll_cons hA
  obtain ⟨v1, vs1, d1, ds1, p1, q1, rfl, rfl, rfl, h1, r1⟩ := trodAll_cons r0
  obtain ⟨v2, vs2, d2, ds2, p2, q2, rfl, rfl, rfl, h2, r2⟩ := trodAll_cons r1
  obtain ⟨rfl, rfl, rfl⟩ := trodAll_nil r2
  obtain rfl : args = #[v0, v1, v2] := by cases args; simp_all
  obtain ⟨rfl, rfl⟩ := trodVars_none hV
  obtain ⟨n0, z0, lo0, g0, b0⟩ := law_ops (hval 0 22 v0 rfl rfl) h0
  obtain ⟨n1, lo1, g1⟩ := law_int Try.underlying3 (hval 1 3 v1 rfl rfl) h1
  obtain ⟨n2, lo2, g2⟩ := law_int Try.underlying27 (hval 2 27 v2 rfl rfl) h2
  simp only [List.append_nil, List.nil_append, DataW.weightsEach, List.cons_append, List.all_append, Bool.and_eq_true] at hs
  obtain ⟨w0, w1, w2, _⟩ := hs
  have hout : (cLaw4 apf [.v (.dsl n0 5 (.rows 5 n0 (opV apf z0))), .v (.int .i64 n1), .v (.int .u64 n2)]).to ⟨.tt, [], []⟩ := hout4
  refine (law_calls (args := [.v (.dsl n0 5 (.rows 5 n0 (opV apf z0))), .v (.int .i64 n1), .v (.int .u64 n2)]) (vals := [v0, v1, v2]) (los := [lo0, lo1, lo2]) s4 noG ⟨g0, g1, g2, trivial⟩ (by simp) hout).mono fun e W' ⟨x, I', ρ', he, hx, hl⟩ => ?_
  obtain rfl := vr_tt hx
  refine ⟨.bool true, he, ?_⟩
  simp only [List.append_nil] at hW' hA'
  exact law_post hW' rfl hA' rfl Try.underlying4 rfl (fun t ht => ⟨3, by
    rw [Try.params4] at ht
    simp at ht
    rcases ht with rfl | rfl | rfl
    all_goals kernel_rfl⟩) hl
theorem reads (os : Os) {H : Type} (enc : TypeId × Value → H) : ∃ places, DataW.whole enc Try.prog ((laidWorld os).forCall (fun _ _ => 0) ⟨#[], #[.slice none 0 0, .int .i64 0, .int .u64 0], []⟩).memory Try.f4.params.toList Rows.devLastSpec.vars false (#[.slice none 0 0, .int .i64 0, .int .u64 0] : Array Value).toList 8 = some ([.nil, .lit (.int .i64 0), .lit (.int .u64 0)], [], places) :=
  ⟨[], by kernel_rfl⟩
set_option maxRecDepth 100000 in
theorem lifted (os : Os) (started : os.Started) (H : Type) (enc : TypeId × Value → H) (F : Stop.Interp) :
    ReturnsInHanded {} Try.checked os 4 .any ((OpenSpec.ofChange Rows.devLastSpec).preRow enc Try.prog Try.f4 Rows.devLastRow.domain false Rows.devLastRow.laid) (((OpenSpec.ofChange Rows.devLastSpec).at F).post enc Try.prog Try.f4 false true false false) := by
  obtain ⟨places, hx⟩ := reads os enc
  refine returnsInHanded_of_row (C := Try.checked) (s := OpenSpec.ofChange Rows.devLastSpec) own started (by kernel_rfl) Try.func4
    (witness_row_at (enc := enc) (C := Try.checked) false (laidWorld os) #[.slice none 0 0, .int .i64 0, .int .u64 0] rfl (by kernel_rfl) (by kernel_rfl) (by kernel_rfl)
      (OpenSpec.preRow_of_cond 8 hx (by kernel_rfl) (fun k hk => by cases hk) (by kernel_rfl) (laid_met os _))) ?_
  intro W base args ds gs before hval hW _ _ hs _ _ _
  exact contract H enc W base args ds gs before hval hW hs
theorem said : Rows.DevLastSaid :=
  OpenClaim.holds_of_cond 4 Try.f4 rfl rfl rfl rfl rfl rfl rfl ⟨rfl, rfl, rfl, rfl, rfl⟩ rfl rfl rfl rfl rfl (by kernel_rfl) Try.func4 (by kernel_rfl)
    (of_decide_eq_true (by kernel_rfl)) (by unfold Func.isWrapper; first | (rw [if_pos (by decide +kernel)]; kernel_rfl) | (rw [if_neg (by decide +kernel)]; exact ⟨rfl, rfl⟩))
    (fun os started H enc _ F => by rw [OpenClaim.pre_eq_preRow]; exact lifted os started H enc F)
end Go.Proofs.Ytojllgpnhaaagaa.DevLast
