/-
  MacSame: for every input the law returns true, and its arguments read as before. Conditions: the package variable sha.keys starts as the program's text lays it (tied by the card).
-/
import Derived.Test.YteadbnnfbegpjaaDoorCxaD
import Derived.Test.YteadbnnfbegpjaaDoorCxaG
namespace Go.Proofs.YteadbnnfbegpjaaDoor.MacSame
open Go Go.ChangeShapes Go.WideShapes Go.ChangeAt Go.RowKit Go.Cx Go.Cx.Ra Go.Proofs.YteadbnnfbegpjaaDoor.Law

theorem one {W : World} (h : laidMetH Tryd.prog Rows.macSameRow.laid W) : ∀ n c, Go.Cx.look G1 n = some c → GloIs W n c := by
  have h : laidMet Tryd.prog Rows.macSameRow.laid W := h
  have t1 : Lib.TabIs Tryd.prog W "cloister/sha.keys" .u32 kk := Lib.tabIs_of_head (rest := []) gKeys gKeysT Tryd.underlying50 Tryd.underlying45 cells45 cells50 h
  intro n c hn
  simp only [G1, Go.Cx.look] at hn
  split at hn
  · rename_i e; subst e; cases hn; exact tab_glo gKeys t1
  · cases hn
theorem one_met (os : Os) (args : Array Value) : laidMet Tryd.prog Rows.macSameRow.laid ((laidWorld os).forCall (fun _ _ => 0) ⟨#[], args, []⟩).memory :=
  laidMet_of_run' 8 (by kernel_rfl) (by kernel_rfl)

theorem contract (H : Type) (enc : TypeId × Value → H) (W : World) (base : Nat) (args : Array Value) (ds gs : List (DataW H)) (before : List MemPlace)
    (hval : ∀ (j : Nat) t v, Tryd.f8.params[j]? = some t → args[j]? = some v → Value.okWide Tryd.prog W .any base t v)
    (hW : DataW.Whole enc Tryd.prog Tryd.f8.params.toList Rows.macSameSpec.vars false W args.toList ds gs before) (hL : laidMetH Tryd.prog Rows.macSameRow.laid W)
    (hs : (DataW.weightsEach Tryd.prog (Tryd.f8.params.toList ++ (OpenSpec.ofChange Rows.macSameSpec).bare.plain.varTypes Tryd.prog) (ds ++ gs)).all (· ≤ reachBytes) = true) :
    Calls Tryd.prog 8 args W fun e W' => ∃ v, e = .returned v ∧ Rows.macSameSpec.post enc Tryd.prog Tryd.f8 false true false false W args v W' := by
  have hW' := hW
  obtain ⟨p, q, hA0, hV, rfl, hfz, hnd⟩ := hW
  have hA : DataW.TrodAll enc Tryd.prog W 0 (fun _ => true) true Tryd.f8.params.toList args.toList ds p := hA0
  have hA' := hA
  rw [Tryd.params8] at hA hval hs
  obtain ⟨v0, vs0, d0, ds0, p0, q0, hargs, rfl, rfl, h0, r0⟩ := trodAll_cons hA
  obtain ⟨v1, vs1, d1, ds1, p1, q1, rfl, rfl, rfl, h1, r1⟩ := trodAll_cons r0
  obtain ⟨rfl, rfl, rfl⟩ := trodAll_nil r1
  obtain rfl : args = #[v0, v1] := by cases args; simp_all
  obtain ⟨rfl, rfl⟩ := trodVars_none hV
  obtain ⟨n0, l0, lo0, g0, b0⟩ := law_bytes Tryd.underlying22 Tryd.underlying5 cells5 bytes5 (hval 0 22 v0 rfl rfl) h0
  obtain ⟨n1, l1, lo1, g1, b1⟩ := law_bytes Tryd.underlying22 Tryd.underlying5 cells5 bytes5 (hval 1 22 v1 rfl rfl) h1
  simp only [List.append_nil, List.nil_append, DataW.weightsEach, List.cons_append, List.all_append, Bool.and_eq_true, List.all_nil, and_true] at hs
  obtain ⟨w0, w1, _⟩ := hs
  have m0 : n0 ≤ 140737488351232 := b0 w0
  have m1 : n1 ≤ 140737488351232 := b1 w1
  have hout : (cMacSame apf [.b n0 1 (.ints .u8 n0 l0), .b n1 1 (.ints .u8 n1 l1)]).to ⟨.tt, [], []⟩ := ⟨m0, m1, rfl⟩
  refine (law_calls (args := [.b n0 1 (.ints .u8 n0 l0), .b n1 1 (.ints .u8 n1 l1)]) (vals := [v0, v1]) (los := [lo0, lo1]) s8 (one hL) ⟨g0, g1, trivial⟩ (by simp) hout).mono fun e W' ⟨x, I', ρ', he, hx, hl⟩ => ?_
  obtain rfl := vr_tt hx
  refine ⟨.bool true, he, ?_⟩
  simp only [List.append_nil] at hW' hA'
  exact law_post hW' rfl hA' rfl Tryd.underlying4 rfl (fun t ht => ⟨3, by
    rw [Tryd.params8] at ht
    simp at ht
    rcases ht with rfl
    all_goals kernel_rfl⟩) hl

theorem reads (os : Os) {H : Type} (enc : TypeId × Value → H) : ∃ places, DataW.whole enc Tryd.prog ((laidWorld os).forCall (fun _ _ => 0) ⟨#[], #[.slice none 0 0, .slice none 0 0], []⟩).memory Tryd.f8.params.toList Rows.macSameSpec.vars false (#[.slice none 0 0, .slice none 0 0] : Array Value).toList 8 = some ([.nil, .nil], [], places) :=
  ⟨[], by kernel_rfl⟩

set_option maxRecDepth 100000 in
theorem lifted (os : Os) (started : os.Started) (H : Type) (enc : TypeId × Value → H) (F : Stop.Interp) :
    ReturnsInHanded {} Tryd.checked os 8 .any ((OpenSpec.ofChange Rows.macSameSpec).preRow enc Tryd.prog Tryd.f8 Rows.macSameRow.domain false Rows.macSameRow.laid) (((OpenSpec.ofChange Rows.macSameSpec).at F).post enc Tryd.prog Tryd.f8 false true false false) := by
  obtain ⟨places, hx⟩ := reads os enc
  refine returnsInHanded_of_row (C := Tryd.checked) (s := OpenSpec.ofChange Rows.macSameSpec) own started (by kernel_rfl) Tryd.func8
    (witness_row_at (enc := enc) (C := Tryd.checked) false (laidWorld os) #[.slice none 0 0, .slice none 0 0] rfl (by kernel_rfl) (by kernel_rfl) (by kernel_rfl)
      (OpenSpec.preRow_of_cond 8 hx (by kernel_rfl) (fun k hk => by cases hk) (by kernel_rfl) (one_met os _))) ?_
  intro W base args ds gs before hval hW _ _ hs hL _ _
  exact contract H enc W base args ds gs before hval hW hL hs

theorem said : Rows.MacSameSaid :=
  OpenClaim.holds_of_cond 8 Tryd.f8 rfl rfl rfl rfl rfl rfl rfl ⟨rfl, rfl, rfl, rfl, rfl⟩ rfl rfl rfl rfl rfl (by kernel_rfl) Tryd.func8 (by kernel_rfl)
    (of_decide_eq_true (by kernel_rfl)) (by unfold Func.isWrapper; first | (rw [if_pos (by decide +kernel)]; kernel_rfl) | (rw [if_neg (by decide +kernel)]; exact ⟨rfl, rfl⟩))
    (fun os started H enc _ F => by rw [OpenClaim.pre_eq_preRow]; exact lifted os started H enc F)

theorem plain (f : FuncId) (fn : Func) (hf : Tryd.pinned.checked.prog.funcNamed "cloister/cloisterlaw02.MacSame" = some f) (hfn : Tryd.pinned.checked.prog.funcs[f]? = some fn) :
    false = Tryd.pinned.checked.prog.looks [] ∧ ∀ (j : Nat) t, fn.params[j]? = some t → Tryd.pinned.checked.prog.wantsStandIn t = false := by
  obtain rfl : f = 8 := Option.some.inj ((show Tryd.prog.funcNamed "cloister/cloisterlaw02.MacSame" = some 8 by kernel_rfl).symm.trans hf) |>.symm
  obtain rfl : fn = Tryd.f8 := (Option.some.inj (Tryd.func8.symm.trans hfn)).symm
  refine ⟨by kernel_rfl, fun j t ht => ?_⟩
  rw [Tryd.params8] at ht
  have hm := Array.mem_of_getElem? ht
  simp at hm
  rcases hm with rfl
  · exact (show Tryd.prog.wantsStandIn 22 = false by kernel_rfl)

theorem card : Rows.MacSameCardSaid :=
  Claim7.holds_tied_plain_at .later [] _ _ _ _ said (fun _ h => by cases h) (by kernel_rfl) (fun _ h => by cases h) macSame_row_tie rfl ⟨rfl, rfl⟩ (by kernel_rfl) rfl plain (by kernel_rfl)
end Go.Proofs.YteadbnnfbegpjaaDoor.MacSame
