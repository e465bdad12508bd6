/-
  The law 'ShaNil' returns true.
-/
import Derived.Test.YteadbnnfbegpjaaDoorCxaD
namespace Go.Cx.Ra
open Go Go.Cx Go.Proofs

theorem g12 (n : Nat) (v : V) (h : look G1 n = some v) : look G2 n = some v := by
  simp only [look] at h ⊢
  split at h
  · rename_i e; subst e; rw [if_neg (by decide), if_pos rfl]; exact h
  · cases h
theorem s13' : Sound Tryd.prog G2 13 (pu 13) (cNew apf) := s13.more g12
theorem s14' : Sound Tryd.prog G2 14 (pu 14) (cAdd apf) := s14.more g12
theorem s15' : Sound Tryd.prog G2 15 (pu 15) (cSum apf) := s15.more g12

def cShaNil (ap : AP) : Ctr
  | [.b n 1 (.ints .u8 _ _), .b m 1 (.ints .u8 _ _)] => .chk (ap _ _ (ap _ _ leN n) 140737488351232) <| .chk (ap _ _ (ap _ _ leN m) 140737488351232) (.ok ⟨.tt, [], []⟩)
  | _ => .fail 215

theorem sum_digest {b : List Int} {m : Nat} (hb : b.length = m) (hm : m ≤ 9223372036854775807) : digW (addW iv (zs 0) (subL b 0 m)) (addR (zs 0) (subL b 0 m)) (addS (lenI 0) m) = digest b := by
  have e1 : subL b 0 m = b := subL_all (Nat.le_of_eq hb)
  have e2 := digW_digest (b := b) (by rw [hb]; exact hm)
  rw [hb] at e2
  rw [e1]; exact e2

theorem vc5 (args : List Arg) (out : Out) (h : (cShaNil apf args).to out) (hok : okAs args) :
    args.length = ic5.nargs ∧ ic5.nargs ≤ ic5.ntmps ∧ ∃ A, run apf [(10, cFixed apf), (13, cNew apf), (14, cAdd apf), (15, cSum apf), (12, cRef apf)] A ic5.body (fnQ apf args out ic5.res) (st0 G2 true args) := by
  unfold cShaNil at h
  split at h
  · rename_i n n' a m m' b
    obtain ⟨h1, h2, h⟩ := h
    cases h
    have h1 : n ≤ 140737488351232 := h1
    have h2 : m ≤ 140737488351232 := h2
    obtain ⟨⟨hn, ⟨rfl, _⟩, ha⟩, ⟨hm, ⟨rfl, _⟩, hb⟩, _⟩ := hok
    refine ⟨rfl, by decide, [], ?_⟩
    show run apf _ _ _ _ (st0 [(0, .ints .u32 64 kk), (1, .ints .u32 64 kk)] _ _)
    generalize hK : kk = K
    generalize hap : apf = ap
    cbv
    have ea := sum_digest ha.1 hn
    have eb := sum_digest hb.1 hm
    have sa : subL a 0 n' = a := subL_all (Nat.le_of_eq ha.1)
    have sb : subL b 0 m' = b := subL_all (Nat.le_of_eq hb.1)
    and_intros
    rotate_right 2
    · intro h0
      cbv
      and_intros
      any_goals (intro h; exact Bool.noConfusion (h0.symm.trans h))
      any_goals (intro _; cbv)
      and_intros
      any_goals (intro h; exact Bool.noConfusion (h0.symm.trans h))
      any_goals (intro _; cbv)
      and_intros
      any_goals (intro h; exact Bool.noConfusion (h0.symm.trans h))
      any_goals (intro _; cbv)
      and_intros
      any_goals (intro h; exact Bool.noConfusion (h0.symm.trans h))
      any_goals (intro _; cbv)
      and_intros
      all_goals subst hap
      · exact show 0 + m' ≤ m' by omega
      · exact show m' ≤ 140737488355256 by omega
      · refine decide_eq_true ?_
        refine Eq.trans (b := digest b) eb ?_
        show digest b = digest (subL b 0 m')
        rw [sb]
      · exact True.intro
    · intro h0
      exfalso
      subst hap
      have h0 : decide (digW (addW iv (zs 0) (subL a 0 n')) (addR (zs 0) (subL a 0 n')) (addS (lenI 0) n') = digest (subL a 0 n')) = false := h0
      rw [ea, sa] at h0
      exact of_decide_eq_false h0 rfl
    all_goals subst hap
    all_goals simp only [apf, leN, ltN, eqN, addN, V.cnt, addM]
    all_goals omega
  · exact h.elim
theorem s5 : Sound Tryd.prog G2 5 (pu 5) (cShaNil apf) := fn_sound rfl Tryd.call5 ok5 co5 (env_cons s10 (env_cons s13' (env_cons s14' (env_cons s15' (env_cons s12 env_nil))))) vc5
end Go.Cx.Ra
