/-
  The laws of slots return true: their fixed answers.
-/
import Derived.Test.YtojllgpnhaaagaaDoorCxbO
namespace Go.Cx.Rb
open Go Go.Cx Go.Proofs

def x_S : List Int := [1, 0, 0, 0, 0, 0, 0, 0, 0, 0, 0, 0, 0, 0, 0, 0]
def x_M : List Int := [7, 0, 0, 0, 0, 0, 0, 0, 0, 0, 0, 0, 0, 0, 0, 0, 0, 0, 0, 0, 0, 0, 0, 0, 0, 0, 0, 0, 0, 0, 0, 0]
def x_W : List Int := [129, 89, 90, 137, 255, 198, 6, 161, 44, 18, 179, 78, 252, 250, 76, 152, 42, 146, 38, 248, 193, 229, 161, 6, 179, 251, 243, 91, 37, 168, 108, 192]
def x_C : List Int := [179, 249, 157, 51, 65, 95, 200, 149, 176, 118, 56, 75, 197, 90, 11, 83, 192, 57, 185, 84, 89, 87, 118, 250]
theorem wrapP_X : wrapP ⟨[112], x_S, 2, x_M, 1⟩ = ⟨true, 1, 2, x_S, x_W, x_C⟩ := wrapP_x
theorem wrapE_X : wrapE ⟨[112], x_S, 2, x_M, 1⟩ = 0 := wrapX_ok
theorem unwE_X : unwE [112] ⟨true, 1, 2, x_S, x_W, x_C⟩ = 0 := by
  have h := right_pass.1
  rw [wrapP_x] at h
  exact h
theorem unwM_X : unwM [112] ⟨true, 1, 2, x_S, x_W, x_C⟩ = x_M := by
  have h := right_pass.2
  rw [wrapP_x] at h
  exact h
theorem unwE_Y : unwE [113] ⟨true, 1, 2, x_S, x_W, x_C⟩ = 14 := by
  have h := wrong_pass
  rw [wrapP_x] at h
  exact h
theorem unwM_Y : unwM [113] ⟨true, 1, 2, x_S, x_W, x_C⟩ = zerosI 32 := by
  have h := unwE_Y
  generalize hq : (⟨true, 1, 2, x_S, x_W, x_C⟩ : SlotP) = q at h ⊢
  unfold unwM
  cases e : (rightS q && q.u && !unwBad [113] q) with
  | false => rfl
  | true =>
    simp only [Bool.and_eq_true, Bool.not_eq_true'] at e
    simp [unwE, e.1.1, e.1.2, e.2] at h
def eqLL (a b : List Int) : Bool := decide (a = b)
def cW37 (_ : AP) : Ctr
  | [.v (.str p), .v (.ints .u8 16 s), .v (.int .i64 r), .v (.ints .u8 32 m), .v (.int .i64 k)] => rif (eqLL p [112] && eqLL s x_S && decide (r = 2) && eqLL m x_M && decide (k = 1)) 341 <|
      .ok ⟨.tcons (.cat 1 74 (.bool true) (.cat 1 73 (.int .i64 1) (.cat 1 72 (.int .i64 2) (.cat 16 56 (.ints .u8 16 x_S) (.cat 32 24 (.ints .u8 32 x_W) (.ints .u8 24 x_C)))))) (.tcons (.int .i64 0) .tnil), [], []⟩
  | _ => .fail 341
def cU37 (_ : AP) : Ctr
  | [.v (.str p), .v (.cat 1 74 (.bool true) (.cat 1 73 (.int .i64 k) (.cat 1 72 (.int .i64 r) (.cat 16 56 (.ints .u8 16 s) (.cat 32 24 (.ints .u8 32 w) (.ints .u8 24 c))))))] =>
      rif (decide (k = 1) && decide (r = 2) && eqLL s x_S && eqLL w x_W && eqLL c x_C) 342 <| match eqLL p [112] with
      | true => .ok ⟨.tcons (.ints .u8 32 x_M) (.tcons (.int .i64 0) .tnil), [], []⟩
      | false => rif (eqLL p [113]) 342 (.ok ⟨.tcons (.ints .u8 32 (zerosI 32)) (.tcons (.int .i64 14) .tnil), [], []⟩)
  | _ => .fail 342
theorem s35f : Sound Tryd.prog G1 35 (pu 35) (fun args => cW37 apf (args.map litA)) := s35.lits.sub fun args out h => by
  generalize args.map litA = ags at h ⊢
  unfold cW37 at h
  split at h
  · rename_i p s r m k
    obtain ⟨hc, h⟩ := rif_to h
    cases h
    simp only [Bool.and_eq_true, eqLL, decide_eq_true_eq] at hc
    obtain ⟨⟨⟨⟨rfl, rfl⟩, rfl⟩, rfl⟩, rfl⟩ := hc
    show (_ : Out) = _
    have e1 := wrapP_X
    have e2 := wrapE_X
    show (⟨.tcons (slotA apf (wrapP ⟨[112], x_S, 2, x_M, 1⟩)) (.tcons (.int .i64 (wrapE ⟨[112], x_S, 2, x_M, 1⟩)) .tnil), [], []⟩ : Out) = _
    rw [e1, e2]
    rfl
  · exact h.elim
theorem s38f : Sound Tryd.prog G1 38 (pu 38) (fun args => cU37 apf (args.map litA)) := s38.sub fun args out h => by
  generalize args.map litA = ags at h ⊢
  unfold cU37 at h
  split at h
  · rename_i p k r s w c
    obtain ⟨hc, h4⟩ := rif_to h
    simp only [Bool.and_eq_true, eqLL, decide_eq_true_eq] at hc
    obtain ⟨⟨⟨⟨rfl, rfl⟩, rfl⟩, rfl⟩, rfl⟩ := hc
    show (⟨.tcons (.ints .u8 32 (unwM p ⟨true, 1, 2, x_S, x_W, x_C⟩)) (.tcons (.int .i64 (unwE p ⟨true, 1, 2, x_S, x_W, x_C⟩)) .tnil), [], []⟩ : Out) = _
    split at h4
    · rename_i hp
      cases h4
      obtain rfl : p = [112] := of_decide_eq_true hp
      rw [unwE_X, unwM_X]
    · have h5 := rif_to h4
      have h6 : p = [113] := of_decide_eq_true h5.1
      subst h6
      rw [unwE_Y, unwM_Y]
      exact h5.2
  · exact h.elim

def cFixS (_ : AP) : Ctr
  | [] => .ok ⟨.tt, [], []⟩
  | _ => .fail 340
set_option maxRecDepth 20000 in
set_option maxHeartbeats 1000000 in
theorem vc37 (args : List Arg) (out : Out) (h : (cFixS apf args).to out) (hok : okAs args) :
    args.length = ic37.nargs ∧ ic37.nargs ≤ ic37.ntmps ∧ ∃ A, run apf [(35, (fun args => cW37 apf (args.map litA))), (38, (fun args => cU37 apf (args.map litA)))] A ic37.body (fnQ apf args out ic37.res) (st0 G1 true args) := by
  unfold cFixS at h
  split at h
  · skip
    cases h
    refine ⟨rfl, by decide, [], ?_⟩
    show run apf _ _ _ _ (st0 [(1, .ints .u32 64 kk)] _ _)
    generalize hK : kk = K
    generalize hap : apf = ap
    cbv
    repeat' first
      | exact True.intro
      | (intro hh; with_reducible exact False.elim (tf_no (Eq.trans (Eq.symm (show _ = true by assumption)) hh)))
      | (intro hh; with_reducible exact False.elim (tf_no (Eq.trans (Eq.symm hh) (show _ = false by assumption))))
      | (intro _; cbv)
      | (refine And.intro ?_ ?_)
    all_goals subst hap
    all_goals (rename_i hq; first | exact tf_no (by assumption) | exact eq_f.1 hq rfl | exact eqL_f.1 hq rfl)
  · exact h.elim
theorem s37 : Sound Tryd.prog G1 37 (pu 37) (cFixS apf) := fn_sound rfl Tryd.call37 ok37 co37 (env_cons s35f (env_cons s38f env_nil)) vc37
end Go.Cx.Rb
