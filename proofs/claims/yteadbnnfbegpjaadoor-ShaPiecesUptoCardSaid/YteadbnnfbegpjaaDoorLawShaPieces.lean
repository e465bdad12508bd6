/-
  ShaPieces, where what it reads is of bulk at most 1048576: the law returns true, and its argument reads as before. Conditions: the package variables sha.keys and cloisterref01.k start as the program's text lays them (tied by the card).
-/
import Derived.Test.YteadbnnfbegpjaaDoorCxaD
import Derived.Test.YteadbnnfbegpjaaDoorCxaI
import Derived.Test.YteadbnnfbegpjaaDoorCxH
namespace Go.Proofs.YteadbnnfbegpjaaDoor.ShaPieces
open Go Go.ChangeShapes Go.WideShapes Go.ChangeAt Go.RowKit Go.Cx Go.Cx.Ra Go.Proofs.YteadbnnfbegpjaaDoor.Law

theorem bulk_lits {H : Type} (l : List Int) : l.length ≤ Rows.uptoBulkAll (lits (H := H) .u8 l) := by
  induction l with
  | nil => exact Nat.zero_le _
  | cons x l ih =>
    show l.length + 1 ≤ 1 + Rows.uptoBulkAll (lits (H := H) .u8 l)
    omega
theorem allN_shift (m : Nat → Nat) : ∀ i, allN m (i + 1) = m 0 + allN (fun j => m (j + 1)) i
  | 0 => by simp [allN]
  | i + 1 => by rw [allN, allN_shift m i, allN]; omega
theorem bulk_all {H : Type} : ∀ (ds : List (DataW H)) (m : Nat → Nat), (∀ j d, ds[j]? = some d → m j ≤ Rows.uptoBulk d) → ∀ i, i ≤ ds.length → allN m i ≤ Rows.uptoBulkAll ds
  | _, _, _, 0, _ => Nat.zero_le _
  | [], _, _, i + 1, h => by simp at h
  | d :: ds, m, hm, i + 1, h => by
    have h0 := hm 0 d rfl
    have h1 := bulk_all ds (fun j => m (j + 1)) (fun j e he => hm (j + 1) e he) i (by simpa using h)
    rw [allN_shift]
    show _ ≤ Rows.uptoBulk d + Rows.uptoBulkAll ds
    omega

theorem cells27 : Tryd.prog.cellsOf 22 = 1 := by kernel_rfl

theorem contract (H : Type) (enc : TypeId × Value → H) (W : World) (base : Nat) (args : Array Value) (ds gs : List (DataW H)) (before : List MemPlace)
    (hval : ∀ (j : Nat) t v, Tryd.f4.params[j]? = some t → args[j]? = some v → Value.okWide Tryd.prog W .any base t v)
    (hW : DataW.Whole enc Tryd.prog Tryd.f4.params.toList Rows.shaPiecesSpec.vars false W args.toList ds gs before) (hL : laidMetH Tryd.prog Rows.shaPiecesUptoRow.laid W)
    (hk : ∀ k, (Rows.OpenSpec.upto Rows.shaPiecesSpec).cond = some k → k H (ds ++ gs) = true) :
    Calls Tryd.prog 4 args W fun e W' => ∃ v, e = .returned v ∧ Rows.shaPiecesSpec.post enc Tryd.prog Tryd.f4 false true false false W args v W' := by
  have hW' := hW
  obtain ⟨p, q, hA0, hV, rfl, hfz, hnd⟩ := hW
  have hA : DataW.TrodAll enc Tryd.prog W 0 (fun _ => true) true Tryd.f4.params.toList args.toList ds p := hA0
  have hA' := hA
  rw [Tryd.params4] at hA hval
  obtain ⟨v0, vs0, d0, ds0, p0, q0, hargs, rfl, rfl, h0, r0⟩ := trodAll_cons hA
  obtain ⟨rfl, rfl, rfl⟩ := trodAll_nil r0
  obtain rfl : args = #[v0] := by cases args; simp_all
  obtain ⟨rfl, rfl⟩ := trodVars_none hV
  obtain ⟨n, m, l, lo, g1, g2, g3⟩ := law_rows Tryd.underlying27 Tryd.underlying22 Tryd.underlying5 cells27 cells5 (hval 0 27 v0 rfl rfl) h0
  have hb : ∀ i, i ≤ n → allN m i ≤ 1048576 := fun i hi => by
    have hk := of_decide_eq_true (hk _ rfl)
    rcases g3 with rfl | ⟨es, rs, rfl, hl, he⟩
    · obtain rfl : i = 0 := by omega
      exact Nat.zero_le _
    · have h1 : Rows.uptoBulkAll es + Rows.uptoBulkAll rs + 1 + 0 ≤ 1048576 := hk
      refine Nat.le_trans (bulk_all es m (fun j d hd => ?_) i (by omega)) (by omega)
      have hj : j < n := by have := (List.getElem?_eq_some_iff.1 hd).1; omega
      rcases he j hj with h | ⟨rs', h⟩
      · omega
      · rw [h] at hd
        cases hd
        have := bulk_lits (H := H) (l j)
        rw [g2 j hj] at this
        show m j ≤ Rows.uptoBulkAll (lits .u8 (l j)) + Rows.uptoBulkAll rs' + 1
        omega
  have hout : (cShaPieces apf [.v (.dsl n 1 (.rows 1 n (rowsV .u8 m l)))]).to ⟨.tt, [], []⟩ := ⟨⟨rfl, m, l, rfl, hb⟩, rfl⟩
  refine (law_calls (args := [.v (.dsl n 1 (.rows 1 n (rowsV .u8 m l)))]) (vals := [v0]) (los := [lo]) s4 (both hL) ⟨g1, trivial⟩ (by simp) hout).mono fun e W' ⟨x, I', ρ', he, hx, hl⟩ => ?_
  obtain rfl := vr_tt hx
  refine ⟨.bool true, he, ?_⟩
  simp only [List.append_nil] at hW' hA'
  exact law_post hW' rfl hA' rfl Tryd.underlying4 rfl (fun t ht => ⟨3, by
    rw [Tryd.params4] at ht
    simp at ht
    subst ht
    kernel_rfl⟩) hl

theorem reads (os : Os) {H : Type} (enc : TypeId × Value → H) : ∃ places, DataW.whole enc Tryd.prog ((laidWorld os).forCall (fun _ _ => 0) ⟨#[], #[.slice none 0 0], []⟩).memory Tryd.f4.params.toList Rows.shaPiecesSpec.vars false #[Value.slice none 0 0].toList 8 = some ([.nil], [], places) :=
  ⟨[], by kernel_rfl⟩

set_option maxRecDepth 100000 in
theorem lifted (os : Os) (started : os.Started) (H : Type) (enc : TypeId × Value → H) (F : Stop.Interp) :
    ReturnsInHanded {} Tryd.checked os 4 .any ((Rows.OpenSpec.upto Rows.shaPiecesSpec).preRow enc Tryd.prog Tryd.f4 Rows.shaPiecesUptoRow.domain false Rows.shaPiecesUptoRow.laid) (((Rows.OpenSpec.upto Rows.shaPiecesSpec).at F).post enc Tryd.prog Tryd.f4 false true false false) := by
  obtain ⟨places, hx⟩ := reads os enc
  refine returnsInHanded_of_row (C := Tryd.checked) (s := Rows.OpenSpec.upto Rows.shaPiecesSpec) own started (by kernel_rfl) Tryd.func4
    (witness_row_at (enc := enc) (C := Tryd.checked) false (laidWorld os) #[.slice none 0 0] rfl (by kernel_rfl) (by kernel_rfl) (by kernel_rfl)
      (OpenSpec.preRow_of_cond 8 hx (by kernel_rfl) (fun k hk => by cases hk; exact decide_eq_true (show 1 + 0 ≤ 1048576 by omega)) (by kernel_rfl) (laid_met os _))) ?_
  intro W base args ds gs before hval hW _ hk _ hL _ _
  exact contract H enc W base args ds gs before hval hW hL hk

theorem said : Rows.ShaPiecesUptoSaid :=
  OpenClaim.holds_of_cond 4 Tryd.f4 rfl rfl rfl rfl rfl rfl rfl ⟨rfl, rfl, rfl, rfl, rfl⟩ rfl rfl rfl rfl rfl (by kernel_rfl) Tryd.func4 (by kernel_rfl)
    (of_decide_eq_true (by kernel_rfl)) (by unfold Func.isWrapper; first | (rw [if_pos (by decide +kernel)]; kernel_rfl) | (rw [if_neg (by decide +kernel)]; exact ⟨rfl, rfl⟩))
    (fun os started H enc _ F => by rw [OpenClaim.pre_eq_preRow]; exact lifted os started H enc F)

theorem plain (f : FuncId) (fn : Func) (hf : Tryd.pinned.checked.prog.funcNamed "cloister/cloisterlaw01.ShaPieces" = some f) (hfn : Tryd.pinned.checked.prog.funcs[f]? = some fn) :
    false = Tryd.pinned.checked.prog.looks [] ∧ ∀ (j : Nat) t, fn.params[j]? = some t → Tryd.pinned.checked.prog.wantsStandIn t = false := by
  obtain rfl : f = 4 := Option.some.inj ((show Tryd.prog.funcNamed "cloister/cloisterlaw01.ShaPieces" = some 4 by kernel_rfl).symm.trans hf) |>.symm
  obtain rfl : fn = Tryd.f4 := (Option.some.inj (Tryd.func4.symm.trans hfn)).symm
  refine ⟨by kernel_rfl, fun j t ht => ?_⟩
  rw [Tryd.params4] at ht
  have hm := Array.mem_of_getElem? ht
  simp at hm
  subst hm
  exact (show Tryd.prog.wantsStandIn 27 = false by kernel_rfl)

theorem card : Rows.ShaPiecesUptoCardSaid :=
  Claim7.holds_tied_plain_at .later [] _ _ _ _ said (fun _ h => by cases h) (by kernel_rfl) (fun _ h => by cases h) shaPieces_row_tie rfl ⟨rfl, rfl⟩ (by kernel_rfl) rfl plain (by kernel_rfl)
end Go.Proofs.YteadbnnfbegpjaaDoor.ShaPieces
