/-
  SlotsDecode: for every input the law returns true, and its arguments read as before. Conditions: the package variable sha.keys starts as the program's text lays it (tied by the card).
-/
import Derived.Test.YtojllgpnhaaagaaDoorCxbR
import Derived.Test.YtojllgpnhaaagaaDoorCxbS
namespace Go.Proofs.YtojllgpnhaaagaaDoor.SlotsDecode
open Go Go.ChangeShapes Go.WideShapes Go.ChangeAt Go.RowKit Go.Cx Go.Cx.Rb Go.Proofs.YtojllgpnhaaagaaDoor.Law

theorem one {W : World} (h : laidMetH Tryd.prog Rows.slotsDecodeRow.laid W) : ∀ n c, Go.Cx.look G1 n = some c → GloIs W n c := by
  have h : laidMet Tryd.prog Rows.slotsDecodeRow.laid W := h
  have t1 : Lib.TabIs Tryd.prog W "cloister/sha.keys" .u32 kk := Lib.tabIs_of_head (rest := []) gKeys gKeysT Tryd.underlying188 Tryd.underlying184 cells184 cells188 h
  intro n c hn
  simp only [G1, Go.Cx.look] at hn
  split at hn
  · rename_i e; subst e; cases hn; exact tab_glo gKeys t1
  · cases hn
theorem one_met (os : Os) (args : Array Value) : laidMet Tryd.prog Rows.slotsDecodeRow.laid ((laidWorld os).forCall (fun _ _ => 0) ⟨#[], args, []⟩).memory :=
  laidMet_of_run' 8 (by kernel_rfl) (by kernel_rfl)

set_option maxRecDepth 100000 in
theorem contract (H : Type) (enc : TypeId × Value → H) (W : World) (base : Nat) (args : Array Value) (ds gs : List (DataW H)) (before : List MemPlace)
    (hval : ∀ (j : Nat) t v, Tryd.f10.params[j]? = some t → args[j]? = some v → Value.okWide Tryd.prog W .any base t v)
    (hW : DataW.Whole enc Tryd.prog Tryd.f10.params.toList Rows.slotsDecodeSpec.vars false W args.toList ds gs before) (hL : laidMetH Tryd.prog Rows.slotsDecodeRow.laid W)
    (hs : (DataW.weightsEach Tryd.prog (Tryd.f10.params.toList ++ (OpenSpec.ofChange Rows.slotsDecodeSpec).bare.plain.varTypes Tryd.prog) (ds ++ gs)).all (· ≤ reachBytes) = true) :
    Calls Tryd.prog 10 args W fun e W' => ∃ v, e = .returned v ∧ Rows.slotsDecodeSpec.post enc Tryd.prog Tryd.f10 false true false false W args v W' := by
  have hW' := hW
  obtain ⟨p, q, hA0, hV, rfl, hfz, hnd⟩ := hW
  have hA : DataW.TrodAll enc Tryd.prog W 0 (fun _ => true) true Tryd.f10.params.toList args.toList ds p := hA0
  have hA' := hA
  rw [Tryd.params10] at hA hval hs
  obtain ⟨v0, vs0, d0, ds0, p0, q0, hargs, rfl, rfl, h0, r0⟩ := trodAll_cons hA
  obtain ⟨rfl, rfl, rfl⟩ := trodAll_nil r0
  obtain rfl : args = #[v0] := by cases args; simp_all
  obtain ⟨rfl, rfl⟩ := trodVars_none hV
  obtain ⟨n0, l0, lo0, g0, b0⟩ := law_frozen Tryd.underlying46 Tryd.underlying5 cells5 bytes5 (hval 0 46 v0 rfl rfl) h0
  simp only [List.append_nil, List.nil_append, DataW.weightsEach, List.cons_append, List.all_append, Bool.and_eq_true] at hs
  obtain ⟨w0, _⟩ := hs
  have m0 : n0 ≤ 140737488351232 := b0 w0
  have hout : (cLaw10 apf [.v (.dsl n0 1 (.ints .u8 n0 l0))]).to ⟨.tt, [], []⟩ := hout10 _ _ m0
  refine (law_calls (args := [.v (.dsl n0 1 (.ints .u8 n0 l0))]) (vals := [v0]) (los := [lo0]) s10 (one hL) ⟨g0, trivial⟩ (by simp) hout).mono fun e W' ⟨x, I', ρ', he, hx, hl⟩ => ?_
  obtain rfl := vr_tt hx
  refine ⟨.bool true, he, ?_⟩
  simp only [List.append_nil] at hW' hA'
  exact law_post hW' rfl hA' rfl Tryd.underlying4 rfl (fun t ht => ⟨3, by
    rw [Tryd.params10] at ht
    simp at ht
    rcases ht with rfl
    all_goals kernel_rfl⟩) hl

theorem reads (os : Os) {H : Type} (enc : TypeId × Value → H) : ∃ places, DataW.whole enc Tryd.prog ((laidWorld os).forCall (fun _ _ => 0) ⟨#[], #[.slice none 0 0], []⟩).memory Tryd.f10.params.toList Rows.slotsDecodeSpec.vars false (#[.slice none 0 0] : Array Value).toList 8 = some ([.nil], [], places) :=
  ⟨[], by kernel_rfl⟩

set_option maxRecDepth 100000 in
theorem lifted (os : Os) (started : os.Started) (H : Type) (enc : TypeId × Value → H) (F : Stop.Interp) :
    ReturnsInHanded {} Tryd.checked os 10 .any ((OpenSpec.ofChange Rows.slotsDecodeSpec).preRow enc Tryd.prog Tryd.f10 Rows.slotsDecodeRow.domain false Rows.slotsDecodeRow.laid) (((OpenSpec.ofChange Rows.slotsDecodeSpec).at F).post enc Tryd.prog Tryd.f10 false true false false) := by
  obtain ⟨places, hx⟩ := reads os enc
  refine returnsInHanded_of_row (C := Tryd.checked) (s := OpenSpec.ofChange Rows.slotsDecodeSpec) own started (by kernel_rfl) Tryd.func10
    (witness_row_at (enc := enc) (C := Tryd.checked) false (laidWorld os) #[.slice none 0 0] rfl (by kernel_rfl) (by kernel_rfl) (by kernel_rfl)
      (OpenSpec.preRow_of_cond 8 hx (by kernel_rfl) (fun k hk => by cases hk) (by kernel_rfl) (one_met os _))) ?_
  intro W base args ds gs before hval hW _ _ hs hL _ _
  exact contract H enc W base args ds gs before hval hW hL hs

theorem facts : joinedFacts Tryd.prog 10 Tryd.f10 (OpenSpec.ofChange Rows.slotsDecodeSpec).bare Rows.slotsDecodeRow = true := by
  unfold joinedFacts
  rw [may_enter, lifts_final, make_is]
  kernel_rfl

theorem said : Rows.SlotsDecodeSaid :=
  OpenClaim.holds_of_cond 10 Tryd.f10 rfl rfl rfl rfl rfl rfl rfl ⟨rfl, rfl, rfl, rfl, rfl⟩ rfl rfl rfl rfl rfl (by kernel_rfl) Tryd.func10 facts
    (of_decide_eq_true (by kernel_rfl)) (by unfold Func.isWrapper; first | (rw [if_pos (by decide +kernel)]; kernel_rfl) | (rw [if_neg (by decide +kernel)]; exact ⟨rfl, rfl⟩))
    (fun os started H enc _ F => by rw [OpenClaim.pre_eq_preRow]; exact lifted os started H enc F)

set_option maxRecDepth 100000 in
theorem plain (f : FuncId) (fn : Func) (hf : Tryd.pinned.checked.prog.funcNamed "cloister/cloisterlaw08.SlotsDecode" = some f) (hfn : Tryd.pinned.checked.prog.funcs[f]? = some fn) :
    false = Tryd.pinned.checked.prog.looks [] ∧ ∀ (j : Nat) t, fn.params[j]? = some t → Tryd.pinned.checked.prog.wantsStandIn t = false := by
  obtain rfl : f = 10 := Option.some.inj ((show Tryd.prog.funcNamed "cloister/cloisterlaw08.SlotsDecode" = some 10 by kernel_rfl).symm.trans hf) |>.symm
  obtain rfl : fn = Tryd.f10 := (Option.some.inj (Tryd.func10.symm.trans hfn)).symm
  refine ⟨by kernel_rfl, fun j t ht => ?_⟩
  rw [Tryd.params10] at ht
  have hm := Array.mem_of_getElem? ht
  simp at hm
  rcases hm with rfl
  · exact (show Tryd.prog.wantsStandIn 46 = false by kernel_rfl)

theorem card : Rows.SlotsDecodeCardSaid :=
  Claim7.holds_tied_plain_at .later [] _ _ _ _ said (fun _ h => by cases h) (by kernel_rfl) (fun _ h => by cases h) slotsDecode_row_tie rfl ⟨rfl, rfl⟩ main_is rfl plain (by kernel_rfl)
end Go.Proofs.YtojllgpnhaaagaaDoor.SlotsDecode
