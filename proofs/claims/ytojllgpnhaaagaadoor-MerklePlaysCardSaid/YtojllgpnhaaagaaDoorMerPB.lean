/-
  What the laws of this claim stand on, part B: proved parts, no statement of its own.
-/
import Derived.Test.YtojllgpnhaaagaaDoorMerPA
import Derived.Laws.BytesString
import Derived.Laws.MakeOwn
import Derived.Great.BuildSlice
import Derived.IntWalk
/- CxOp3 -/
namespace Go.Cx
open Go
section
variable {P : Program} {pure : Nat → Bool} {X : Fix} {I : Nat → Prop} {ρ : Rho} {ow : Own} {s : St} {a : Act} {w : World} {o : Oper}
theorem notV_vr {v : V} {b : Bool} (h : VRep I w ρ v (.bool b)) (hv : v = .tt ∨ v = .ff ∨ ∃ c, v = .bool c) : VRep I w ρ (notV apf v) (.bool (!b)) := by
  rcases hv with rfl | rfl | ⟨c, rfl⟩
  · have := vr_tt h; simp at this; subst this; exact boolV_vr false
  · have := vr_ff h; simp at this; subst this; exact boolV_vr true
  · have := vr_bool h; simp at this; subst this; exact bool_vr _
theorem maxDepth_succ : Op.maxDepth = 9999 + 1 := rfl
theorem run_equal_bool {t : TypeId} (ht : P.underlying t = some .bool) (b c : Bool) (w : World) : (Op.equal t (.bool b) (.bool c)).run P w = .ok (b == c) w := by
  have key : ∀ d, (Op.equalIn (d + 1) t (.bool b) (.bool c)).run P w = .ok (b == c) w := fun d => by simp [Op.equalIn, run_underlying ht]
  exact key 9999
theorem run_equal_ptr {t e : TypeId} (ht : P.underlying t = some (.pointer e)) (x y : Option Addr) (hn : x = none ∨ y = none) (w : World) : (Op.equal t (.pointer x) (.pointer y)).run P w = .ok (x.isNone && y.isNone) w := by
  have key : ∀ d, (Op.equalIn (d + 1) t (.pointer x) (.pointer y)).run P w = .ok (x.isNone && y.isNone) w := fun d => by
    cases x <;> cases y <;> simp_all [Op.equalIn, run_underlying ht]
  exact key 9999
theorem run_equal_sl {t e : TypeId} (ht : P.underlying t = some (.slice e)) (x : Option Addr) (n c : Nat) (w : World) : (Op.equal t (.slice x n c) (.slice none 0 0)).run P w = .ok x.isNone w := by
  have key : ∀ d, (Op.equalIn (d + 1) t (.slice x n c) (.slice none 0 0)).run P w = .ok x.isNone w := fun d => by
    cases x <;> simp [Op.equalIn, run_underlying ht]
  exact key 9999
theorem run_binOp_eqB {t : TypeId} (ht : P.underlying t = some .bool) (b c : Bool) (w : World) : (binOp .eql t (.bool b) (.bool c)).run P w = .ok (.bool (b == c)) w ∧ (binOp .neq t (.bool b) (.bool c)).run P w = .ok (.bool (!(b == c))) w := by
  constructor <;> simp [binOp, run_equal_bool ht]
theorem toBA_inj {l m : List Int} (hl : ∀ y ∈ l, inR .u8 y) (hm : ∀ y ∈ m, inR .u8 y) : ((toBA l).toList == (toBA m).toList) = decide (l = m) := by
  by_cases h : l = m
  · subst h; simp
  · rw [decide_eq_false h]
    simp only [beq_eq_false_iff_ne, ne_eq]
    intro e
    apply h
    have e1 : (toBA l).data.toList = (toBA m).data.toList := by
      simpa [ByteArray.toList_eq] using e
    have : bytesI (toBA l) = bytesI (toBA m) := by unfold bytesI; rw [e1]
    rwa [bytesI_toBA hl, bytesI_toBA hm] at this
theorem eqGuardType_ints {t e : TypeId} {n : Nat} {k : IntKind} (ht : P.underlying t = some (.array n e)) (he : P.underlying e = some (.int k)) : P.eqGuardType P.depth t = false := by
  have hd : P.depth = 2 * (P.types.size + Made.depth) + 1 + 1 := rfl
  rw [hd]
  simp [Program.eqGuardType, ht, he]
theorem run_eqItems_ints {e : TypeId} {k : IntKind} (he : P.underlying e = some (.int k)) (hc : P.cellsOf e = 1) (d : Nat) (xs ys : Array Value) (w : World) :
    ∀ (is : List Nat) (l m : Nat → Int), (∀ i ∈ is, xs[i]? = some (.int k (l i)) ∧ ys[i]? = some (.int k (m i))) → (Op.eqItems (d + 1) e 1 xs ys is).run P w = .ok (decide (∀ i ∈ is, l i = m i)) w
  | [], _, _, _ => by simp [Op.eqItems]
  | i :: is, l, m, h => by
    have hi := h i (by simp)
    have p1 : (part e xs (i * 1)).run P w = .ok (.int k (l i)) w := by simp [part, isAgg, run_underlying he, hi.1]
    have p2 : (part e ys (i * 1)).run P w = .ok (.int k (m i)) w := by simp [part, isAgg, run_underlying he, hi.2]
    have p3 : (Op.equalIn (d + 1) e (.int k (l i)) (.int k (m i))).run P w = .ok (l i == m i) w := by simp [Op.equalIn, run_underlying he]
    simp only [Op.eqItems, Sem.run_bind, p1, p2, p3, Result.andThen_ok]
    by_cases hlm : l i = m i
    · have ih := run_eqItems_ints he hc d xs ys w is l m (fun j hj => h j (by simp [hj]))
      simp [hlm, ih]
    · simp [hlm]
theorem list_eq_iff {l m : List Int} {n : Nat} (hl : l.length = n) (hm : m.length = n) : (∀ i ∈ List.range n, nthI l i = nthI m i) ↔ l = m := by
  constructor
  · intro h
    apply List.ext_getElem (by omega)
    intro i h1 h2
    have := h i (by simp; omega)
    simpa [nthI, List.getD_eq_getElem?_getD, List.getElem?_eq_getElem h1, List.getElem?_eq_getElem h2] using this
  · rintro rfl i _; rfl
theorem run_binOp_eqA {t e : TypeId} {n : Nat} {k : IntKind} (ht : P.underlying t = some (.array n e)) (he : P.underlying e = some (.int k)) (hc : P.cellsOf e = 1) {l m : List Int} {xs ys : Array Value}
    (hl : l.length = n) (hm : m.length = n) (hx : ∀ j, j < n → xs[j]? = some (.int k (nthI l j))) (hy : ∀ j, j < n → ys[j]? = some (.int k (nthI m j))) (w : World) :
    (binOp .eql t (.agg xs) (.agg ys)).run P w = .ok (.bool (decide (l = m))) w ∧ (binOp .neq t (.agg xs) (.agg ys)).run P w = .ok (.bool (!(decide (l = m)))) w := by
  obtain ⟨i, hi⟩ := info_of_underlying he
  have key : (Op.equal t (.agg xs) (.agg ys)).run P w = .ok (decide (l = m)) w := by
    rw [Op.equal, maxDepth_succ, run_equalIn_array w 9999 xs ys ht hi, hc]
    have := run_eqItems_ints he hc 9998 xs ys w (List.range n) (nthI l) (nthI m) (fun j hj => ⟨hx j (by simpa using hj), hy j (by simpa using hj)⟩)
    rw [show (9999 : Nat) = 9998 + 1 from rfl, this]
    congr 1
    exact decide_eq_decide.2 (list_eq_iff hl hm)
  constructor <;> simp [binOp, key]
theorem eqTy_b {t : TypeId} (hty : eqTy P (P.underlying t) = some .b) : P.underlying t = some .bool := by
  cases hu : P.underlying t with
  | none => rw [hu] at hty; cases hty
  | some d => rw [hu] at hty; cases d <;> simp [eqTy] at hty ⊢; split at hty <;> first | (split at hty <;> cases hty) | cases hty
theorem eqTy_p {t : TypeId} (hty : eqTy P (P.underlying t) = some .p) : ∃ el, P.underlying t = some (.pointer el) := by
  cases hu : P.underlying t with
  | none => rw [hu] at hty; cases hty
  | some d => rw [hu] at hty; cases d <;> simp [eqTy] at hty ⊢; split at hty <;> first | (split at hty <;> cases hty) | cases hty
theorem eqTy_l {t : TypeId} (hty : eqTy P (P.underlying t) = some .l) : ∃ el, P.underlying t = some (.slice el) := by
  cases hu : P.underlying t with
  | none => rw [hu] at hty; cases hty
  | some d => rw [hu] at hty; cases d <;> simp [eqTy] at hty ⊢; split at hty <;> first | (split at hty <;> cases hty) | cases hty
theorem eqTy_z {d : Option TypeDesc} {ks : List CK} (hty : eqTy P d = some (.z ks)) : False := by
  cases d with
  | none => cases hty
  | some d => cases d <;> simp [eqTy] at hty; split at hty <;> first | (split at hty <;> cases hty) | cases hty
theorem step_eq (h : Rep X I ρ ow s a.tmps w) (hd : dstOk X o) {t yt : TypeId} {x y : Operand} {ix iy : IX} {ty : ETy} {ne : Bool} (ho : o.op = .binOp (if ne then .neq else .eql) t x y yt) (hty : eqTy P (P.underlying t) = some ty)
    (hx : opIX x = some ix) (hy : opIX y = some iy) {e : Eff} (he : ((eqR apf ty (ev s.t ix) (ev s.t iy)).bind fun v => .ok (noEff (if ne then notV apf v else v))).to e) : StepOk P X o a w s e := by
  obtain ⟨v, hv, rfl⟩ := bind_to he
  have hvx := ev_rep h hx
  have hvy := ev_rep h hy
  have fin : ∀ (b : Bool) (v : V), (∀ u u', a.eval x = u → a.eval y = u' → (eqGuard (if ne then .neq else .eql) t x y u u').run P w = .ok () w ∧ (binOp (if ne then .neq else .eql) t u u').run P w = .ok (.bool (if ne then !b else b)) w) → VRep I w ρ v (.bool b) →
      (v = .tt ∨ v = .ff ∨ ∃ c, v = .bool c) → StepOk P X o a w s (noEff (if ne then notV apf v else v)) := by
    intro b v hrun hvv hf
    obtain ⟨h1, h2⟩ := hrun _ _ rfl rfl
    refine stepVal h hd (x := .bool (if ne then !b else b)) (by simp [execOp, ho, h1, h2]) ?_
    cases ne with
    | true => exact notV_vr hvv hf
    | false => exact hvv
  have bools : ∀ (b c : Bool) (v : V), P.underlying t = some .bool → a.eval x = .bool b → a.eval y = .bool c → VRep I w ρ v (.bool (b == c)) → (v = .tt ∨ v = .ff ∨ ∃ c, v = .bool c) → StepOk P X o a w s (noEff (if ne then notV apf v else v)) := by
    intro b c v ht hb hc hvv hf
    refine fin (b == c) v (fun u u' hu hu' => ?_) hvv hf
    rw [hb] at hu; rw [hc] at hu'
    subst hu; subst hu'
    refine ⟨by rw [eqGuard_at_bool]; rfl, ?_⟩
    have := run_binOp_eqB ht b c w
    cases ne with
    | true => exact this.2
    | false => exact this.1
  unfold eqR at hv
  split at hv
  all_goals first | exact hv.elim | skip
  · rename_i e1 e2; rw [e1] at hvx; rw [e2] at hvy; cases hv; exact bools _ _ _ (eqTy_b hty) (vr_tt hvx) (vr_tt hvy) (boolV_vr true) (.inl rfl)
  · rename_i e1 e2; rw [e1] at hvx; rw [e2] at hvy; cases hv; exact bools _ _ _ (eqTy_b hty) (vr_tt hvx) (vr_ff hvy) (boolV_vr false) (.inr (.inl rfl))
  · rename_i e1 e2; rw [e1] at hvx; rw [e2] at hvy; cases hv; exact bools _ _ _ (eqTy_b hty) (vr_ff hvx) (vr_tt hvy) (boolV_vr false) (.inr (.inl rfl))
  · rename_i e1 e2; rw [e1] at hvx; rw [e2] at hvy; cases hv; exact bools _ _ _ (eqTy_b hty) (vr_ff hvx) (vr_ff hvy) (boolV_vr true) (.inl rfl)
  · rename_i b e1 e2; rw [e1] at hvx; rw [e2] at hvy; cases hv; exact bools _ _ _ (eqTy_b hty) (vr_bool hvx) (vr_tt hvy) (by simpa using bool_vr b) (.inr (.inr ⟨_, rfl⟩))
  · rename_i b e1 e2; rw [e1] at hvx; rw [e2] at hvy; cases hv; exact bools _ _ _ (eqTy_b hty) (vr_tt hvx) (vr_bool hvy) (by simpa using bool_vr b) (.inr (.inr ⟨_, rfl⟩))
  · rename_i b e1 e2; rw [e1] at hvx; rw [e2] at hvy; cases hv; exact bools _ _ _ (eqTy_b hty) (vr_bool hvx) (vr_ff hvy) (by simpa [apf, notB] using bool_vr (!b)) (.inr (.inr ⟨_, rfl⟩))
  · rename_i b e1 e2; rw [e1] at hvx; rw [e2] at hvy; cases hv; exact bools _ _ _ (eqTy_b hty) (vr_ff hvx) (vr_bool hvy) (by simpa [apf, notB] using bool_vr (!b)) (.inr (.inr ⟨_, rfl⟩))
  · rename_i b c e1 e2; rw [e1] at hvx; rw [e2] at hvy; cases hv; exact bools _ _ _ (eqTy_b hty) (vr_bool hvx) (vr_bool hvy) (by simpa [apf, eqB] using bool_vr (b == c)) (.inr (.inr ⟨_, rfl⟩))
  · rename_i l m e1 e2
    rw [e1] at hvx; rw [e2] at hvy
    cases hv
    obtain ⟨h1, _, h2⟩ := vr_str hvx
    obtain ⟨h3, _, h4⟩ := vr_str hvy
    refine fin (decide (l = m)) _ (fun u u' hu hu' => ?_) (bool_vr _) (.inr (.inr ⟨_, rfl⟩))
    rw [h1] at hu; rw [h3] at hu'
    subst hu; subst hu'
    refine ⟨by rw [eqGuard_at_string]; rfl, ?_⟩
    cases ne <;> simp [binOp, Op.stringOp, toBA_inj h2 h4]
  · rename_i k0 n0 k n l k' n' m e1 e2
    rw [e1] at hvx; rw [e2] at hvy
    obtain ⟨h1, h2⟩ := rif_to hv
    cases h2
    simp only [Bool.and_eq_true, beq_iff_eq] at h1
    obtain ⟨⟨⟨rfl, rfl⟩, rfl⟩, rfl⟩ := h1
    obtain ⟨xs, hxs, hxz, hxr⟩ := vr_agg hvx rfl
    obtain ⟨ys, hys, hyz, hyr⟩ := vr_agg hvy rfl
    obtain ⟨el, hu, hel, hce⟩ : ∃ el, P.underlying t = some (.array n el) ∧ P.underlying el = some (.int k) ∧ P.cellsOf el = 1 := by
      cases hu : P.underlying t with
      | none => rw [hu] at hty; cases hty
      | some d =>
        rw [hu] at hty
        cases d <;> simp [eqTy] at hty
        rename_i len el
        split at hty
        · rename_i k2 hk2
          simp at hty
          obtain ⟨hce, rfl, rfl⟩ := hty
          exact ⟨el, rfl, hk2, hce⟩
        · cases hty
    refine fin (decide (l = m)) _ (fun u u' hu1 hu2 => ?_) (bool_vr _) (.inr (.inr ⟨_, rfl⟩))
    rw [hxs] at hu1; rw [hys] at hu2
    subst hu1; subst hu2
    have hg := eqGuardType_ints hu hel
    have hb := run_binOp_eqA hu hel hce hxr.1 hyr.1 hxr.2.2 hyr.2.2 w
    cases ne with
    | true => exact ⟨by simp [eqGuard, hg], hb.2⟩
    | false => exact ⟨by simp [eqGuard, hg], hb.1⟩
  · rename_i e1 e2; rw [e1] at hvx; rw [e2] at hvy; cases hv
    obtain ⟨el, hu⟩ := eqTy_p hty
    refine fin true _ (fun u u' hu1 hu2 => ?_) (boolV_vr true) (.inl rfl)
    rw [vr_nilp hvx] at hu1; rw [vr_nilp hvy] at hu2
    subst hu1; subst hu2
    refine ⟨by rw [eqGuard_at_pointer]; rfl, ?_⟩
    cases ne <;> simp [binOp, run_equal_ptr hu]
  · rename_i p q e1 e2; rw [e1] at hvx; rw [e2] at hvy; cases hv
    obtain ⟨el, hu⟩ := eqTy_p hty
    obtain ⟨b, off, sz, _, h2⟩ := vr_ptr hvx
    refine fin false _ (fun u u' hu1 hu2 => ?_) (boolV_vr false) (.inr (.inl rfl))
    rw [h2] at hu1; rw [vr_nilp hvy] at hu2
    subst hu1; subst hu2
    refine ⟨by rw [eqGuard_at_pointer]; rfl, ?_⟩
    cases ne <;> simp [binOp, run_equal_ptr hu]
  · rename_i p q e1 e2; rw [e1] at hvx; rw [e2] at hvy; cases hv
    obtain ⟨el, hu⟩ := eqTy_p hty
    obtain ⟨b, off, sz, _, h2⟩ := vr_ptr hvy
    refine fin false _ (fun u u' hu1 hu2 => ?_) (boolV_vr false) (.inr (.inl rfl))
    rw [vr_nilp hvx] at hu1; rw [h2] at hu2
    subst hu1; subst hu2
    refine ⟨by rw [eqGuard_at_pointer]; rfl, ?_⟩
    cases ne <;> simp [binOp, run_equal_ptr hu]
  · rename_i e1 e2; rw [e1] at hvx; rw [e2] at hvy; cases hv
    obtain ⟨el, hu⟩ := eqTy_l hty
    refine fin true _ (fun u u' hu1 hu2 => ?_) (boolV_vr true) (.inl rfl)
    rw [vr_nsl hvx] at hu1; rw [vr_nsl hvy] at hu2
    subst hu1; subst hu2
    refine ⟨by rw [eqGuard_at_slice]; rfl, ?_⟩
    cases ne <;> simp [binOp, run_equal_sl hu]
  · exact (eqTy_z hty).elim
  · rename_i n ee c e1 e2; rw [e1] at hvx; rw [e2] at hvy
    obtain ⟨hn, hv⟩ := hv
    cases hv
    obtain ⟨el, hu⟩ := eqTy_l hty
    obtain ⟨ad, cp, h2, _, _, _, _, h3⟩ := vr_dsl hvx
    have hn : 0 < n := hn
    obtain ⟨b, off, rfl, _⟩ := h3.resolve_left (by omega)
    refine fin false _ (fun u u' hu1 hu2 => ?_) (boolV_vr false) (.inr (.inl rfl))
    rw [h2] at hu1; rw [vr_nsl hvy] at hu2
    subst hu1; subst hu2
    refine ⟨by rw [eqGuard_at_slice]; rfl, ?_⟩
    cases ne <;> simp [binOp, run_equal_sl hu]
  · rename_i hh p i n ee cap e1 e2; rw [e1] at hvx; rw [e2] at hvy
    obtain ⟨hn, hv⟩ := hv
    cases hv
    obtain ⟨el, hu⟩ := eqTy_l hty
    obtain ⟨ad, c, l, h2, _, hnc, _, _, h3⟩ := vr_sl hvx
    have hn : 0 < n := hn
    obtain ⟨b, off, sz, _, rfl, _⟩ := h3.resolve_left (by omega)
    refine fin false _ (fun u u' hu1 hu2 => ?_) (boolV_vr false) (.inr (.inl rfl))
    rw [h2] at hu1; rw [vr_nsl hvy] at hu2
    subst hu1; subst hu2
    refine ⟨by rw [eqGuard_at_slice]; rfl, ?_⟩
    cases ne <;> simp [binOp, run_equal_sl hu]
end
end Go.Cx
/- CxOp4 -/
namespace Go.Cx
open Go
section
variable {P : Program} {pure : Nat → Bool} {X : Fix} {I : Nat → Prop} {ρ : Rho} {ow : Own} {s : St} {a : Act} {w : World} {o : Oper}
theorem nat_to {v : V} {n : Nat} {x : Value} (h : (v.nat apf).to n) (hv : VRep I w ρ v x) : ∃ k z, x = .int k z ∧ 0 ≤ z ∧ n = z.toNat := by
  cases v <;> simp only [V.nat] at h <;> first | exact h.elim | skip
  · obtain ⟨h1, h2⟩ := rif_to h
    obtain ⟨rfl, _⟩ := vr_lit hv
    exact ⟨_, _, rfl, by simpa using h1, by cases h2; rfl⟩
  · obtain ⟨h1, h2⟩ := h
    obtain ⟨rfl, _⟩ := vr_int hv
    exact ⟨_, _, rfl, h1, by cases h2; rfl⟩
theorem inR_len {n : Nat} (h : n ≤ maxLen) : inR .i64 (n : Int) := by
  simp only [maxLen] at h
  simp only [inR, IntKind.min, IntKind.max, IntKind.bits, IntKind.signed]
  constructor <;> simp <;> omega
theorem step_lenA (h : Rep X I ρ ow s a.tmps w) (hd : dstOk X o) {n e : Nat} {t : TypeId} {x : Operand} (ho : o.op = .call { callee := .builtin .len, args := #[x], argTypes := #[t] }) (ht : P.underlying t = some (.array n e)) (hn : n ≤ maxLen) {e : Eff}
    (he : (R.ok (noEff (.lit .i64 n))).to e) : StepOk P X o a w s e := by
  cases he
  exact stepVal h hd (x := .int .i64 n) (by simp [execOp, ho, Go.resolve, invoke, builtin, Builtin.len_, run_underlying ht, goInt]) (lit_vr (inR_len hn))
theorem inR_zero (k : IntKind) : inR k 0 := by cases k <;> simp [inR, IntKind.min, IntKind.max, IntKind.bits, IntKind.signed]
theorem step_lenT (h : Rep X I ρ ow s a.tmps w) (hd : dstOk X o) {t : TypeId} {x : Operand} {ix : IX} (ho : o.op = .call { callee := .builtin .len, args := #[x], argTypes := #[t] })
    (hu : P.underlying t = some .string) (hx : opIX x = some ix) {e : Eff}
    (he : (match ev s.t ix with | .str l => R.ok (noEff (.int .i64 (lenI (llen l)))) | _ => .fail 83).to e) : StepOk P X o a w s e := by
  have hv := ev_rep h hx
  split at he
  · rename_i l e1
    rw [e1] at hv
    obtain ⟨h1, hl, _⟩ := vr_str hv
    cases he
    exact stepVal h hd (x := .int .i64 l.length) (by simp [execOp, ho, Go.resolve, invoke, builtin, Builtin.len_, run_underlying hu, goInt, h1, toBA_size]) (int_vr (inR_len hl))
  · exact he.elim
theorem step_lenS (h : Rep X I ρ ow s a.tmps w) (hd : dstOk X o) {t el : TypeId} {x : Operand} {ix : IX} (ho : o.op = .call { callee := .builtin .len, args := #[x], argTypes := #[t] })
    (hu : P.underlying t = some (.slice el)) (hx : opIX x = some ix) {e : Eff}
    (he : (match ev s.t ix with
      | .sl _ _ _ n _ _ => R.ok (noEff (.int .i64 (lenI n)))
      | .dsl n _ _ => .ok (noEff (.int .i64 (lenI n)))
      | .nsl => .ok (noEff (.lit .i64 0))
      | .zsl => .ok (noEff (.lit .i64 0))
      | _ => .fail 83).to e) : StepOk P X o a w s e := by
  have hv := ev_rep h hx
  have sl : ∀ (ad : Option Addr) (n c : Nat) (v : V), a.eval x = .slice ad n c → VRep I w ρ v (.int .i64 n) → StepOk P X o a w s (noEff v) := fun ad n c v hs hv =>
    stepVal h hd (x := .int .i64 n) (by simp [execOp, ho, Go.resolve, invoke, builtin, Builtin.len_, run_underlying hu, goInt, hs]) hv
  split at he
  · rename_i hh p i n ee cap e1
    rw [e1] at hv
    obtain ⟨ad, c, l, h1, _, h2, h3, _⟩ := vr_sl hv
    cases he
    exact sl ad n c _ h1 (int_vr (inR_len (by omega)))
  · rename_i n ee c e1
    rw [e1] at hv
    obtain ⟨ad, cp, h1, h2, h3, _⟩ := vr_dsl hv
    cases he
    exact sl ad n cp _ h1 (int_vr (inR_len (by omega)))
  · rename_i e1
    rw [e1] at hv
    cases he
    exact sl none 0 0 _ (vr_nsl hv) (lit_vr (inR_zero _))
  · rename_i e1
    rw [e1] at hv
    obtain ⟨ad, h1⟩ := vr_zsl hv
    cases he
    exact sl ad 0 0 _ h1 (lit_vr (inR_zero _))
  · exact he.elim
theorem step_fa (h : Rep X I ρ ow s a.tmps w) (hd : dstOk X o) {t : TypeId} {x : Operand} {ix : IX} {f : Nat} {fs : Array Field} {fd : Field} (ho : o.op = .fieldAddr t x f) (ht : P.underlying t = some (.struct fs)) (hf : fs[f]? = some fd)
    (hz : sz P fd.type ≠ 0) (hx : opIX x = some ix) {e : Eff}
    (he : (match ev s.t ix with
      | .ptr hd p => R.ok (noEff (.ptr hd (p ++ [Pt.f fd.offset (sz P fd.type)])))
      | .dptr c p => .ok (noEff (.dptr c (p ++ [Pt.f fd.offset (sz P fd.type)])))
      | _ => .fail 77).to e) : StepOk P X o a w s e := by
  have hv := ev_rep h hx
  obtain ⟨i, hi, his⟩ : ∃ i, P.info? fd.type = some i ∧ i.size ≠ 0 := by
    unfold sz at hz
    cases hi : P.info? fd.type with
    | none => simp [hi] at hz
    | some i => exact ⟨i, rfl, by simpa [hi] using hz⟩
  have run : ∀ (b off : Nat), a.eval x = .pointer (some ⟨b, off, none⟩) → (execOp a.eval o).run P w = .ok (.value (.pointer (some ⟨b, off + fd.offset, none⟩))) w := fun b off hb => by
    simp [execOp, ho, hb, Instr.fieldAt, run_underlying ht, hf, Instr.sureAddr, fieldPlace, sizeOf, typeInfo, hi, his, Addr.add_lit]
  split at he
  · rename_i hh p e1
    rw [e1] at hv
    obtain ⟨b, off, sz', h1, h2⟩ := vr_ptr hv
    cases he
    refine stepVal h hd (run b _ h2) ?_
    have := ptr_vr (I := I) (w := w) (p := p ++ [Pt.f fd.offset (sz P fd.type)]) h1
    simpa [poff_append, poff, Nat.add_assoc] using this
  · rename_i c p e1
    rw [e1] at hv
    obtain ⟨b, off, h1, h2, h3⟩ := vr_dptr hv
    cases he
    refine stepVal h hd (run b _ h2) (leaf_vr rfl rfl rfl ⟨b, off, h1, ?_, h3⟩)
    simp [poff_append, poff, Nat.add_assoc]
  · exact he.elim
theorem sizeOf_run {t : TypeId} (hz : sz P t ≠ 0) (w : World) : (sizeOf t).run P w = .ok (sz P t) w := by
  unfold sz at *
  cases hi : P.info? t with
  | none => simp [hi] at hz
  | some i => simp [sizeOf, typeInfo, hi]
theorem step_iaA (h : Rep X I ρ ow s a.tmps w) (hd : dstOk X o) {t el : TypeId} {n : Nat} {x i : Operand} {ix ii : IX} (ho : o.op = .indexAddr t x i) (ht : P.underlying t = some (.array n el)) (hz : sz P el ≠ 0)
    (hx : opIX x = some ix) (hi : opIX i = some ii) {e : Eff}
    (he : (((ev s.t ii).nat apf).bind fun j => .chk (ltN j n) <| match ev s.t ix with
      | .ptr hd p => .ok (noEff (.ptr hd (p ++ [Pt.x j (sz P el)])))
      | .dptr c p => .ok (noEff (.dptr c (p ++ [Pt.x j (sz P el)])))
      | _ => .fail 79).to e) : StepOk P X o a w s e := by
  have hv := ev_rep h hx
  obtain ⟨j, hj, hlt, he⟩ := bind_to he
  obtain ⟨k, z, hz1, hz2, rfl⟩ := nat_to hj (ev_rep h hi)
  have hlt : z.toNat < n := hlt
  have run : ∀ (b off : Nat), a.eval x = .pointer (some ⟨b, off, none⟩) → (execOp a.eval o).run P w = .ok (.value (.pointer (some ⟨b, off + z.toNat * sz P el, none⟩))) w := fun b off hb => by
    have hb2 : 0 ≤ z ∧ z < n := ⟨hz2, by omega⟩
    simp [execOp, ho, hb, hz1, Instr.indexAt, asIntOf, run_underlying ht, Instr.sureAddr, hb2, sizeOf_run hz, Addr.add_lit]
  split at he
  · rename_i hh p e1
    rw [e1] at hv
    obtain ⟨b, off, sz', h1, h2⟩ := vr_ptr hv
    cases he
    refine stepVal h hd (run b _ h2) ?_
    have := ptr_vr (I := I) (w := w) (p := p ++ [Pt.x z.toNat (sz P el)]) h1
    simpa [poff_append, poff, Nat.add_assoc] using this
  · rename_i c p e1
    rw [e1] at hv
    obtain ⟨b, off, h1, h2, h3⟩ := vr_dptr hv
    cases he
    refine stepVal h hd (run b _ h2) (leaf_vr rfl rfl rfl ⟨b, off, h1, ?_, h3⟩)
    simp [poff_append, poff, Nat.add_assoc]
  · exact he.elim
theorem step_iaS (h : Rep X I ρ ow s a.tmps w) (hd : dstOk X o) {t el : TypeId} {x i : Operand} {ix ii : IX} (ho : o.op = .indexAddr t x i) (ht : P.underlying t = some (.slice el)) (hz : sz P el ≠ 0)
    (hx : opIX x = some ix) (hi : opIX i = some ii) {e : Eff}
    (he : (((ev s.t ii).nat apf).bind fun j => match ev s.t ix with
      | .sl hd p i0 n e' _ => rif (sz P el == e') 80 (.chk (ltN j n) (.ok (noEff (.ptr hd (p ++ [Pt.x (addN i0 j) (sz P el)])))))
      | .dsl n e' c => rif (sz P el == e') 80 (.chk (ltN j n) (.ok (noEff (.dptr c [Pt.x j (sz P el)]))))
      | _ => .fail 80).to e) : StepOk P X o a w s e := by
  have hv := ev_rep h hx
  obtain ⟨j, hj, he⟩ := bind_to he
  obtain ⟨k, z, hz1, hz2, rfl⟩ := nat_to hj (ev_rep h hi)
  have run : ∀ (b off n c : Nat), z.toNat < n → a.eval x = .slice (some ⟨b, off, none⟩) n c → (execOp a.eval o).run P w = .ok (.value (.pointer (some ⟨b, off + z.toNat * sz P el, none⟩))) w := fun b off n c hlt hb => by
    have hb2 : 0 ≤ z ∧ z < n := ⟨hz2, by omega⟩
    simp [execOp, ho, hb, hz1, Instr.indexAt, asIntOf, run_underlying ht, hb2, sizeOf_run hz, Addr.add_lit]
  split at he
  · rename_i hh p i0 n e' cap e1
    rw [e1] at hv
    obtain ⟨h0, hlt, he2⟩ := rif_to he
    have h0 : sz P el = e' := by simpa using h0
    subst h0
    have hlt : z.toNat < n := hlt
    obtain ⟨ad, c, l, h1, h2, h3, h4, _, h5⟩ := vr_sl hv
    obtain ⟨b, off, sz', rfl, rfl, h6⟩ := h5.resolve_left (by omega)
    cases he2
    refine stepVal h hd (run b _ n c hlt h1) ?_
    have := ptr_vr (I := I) (w := w) (p := p ++ [Pt.x (addN i0 z.toNat) (sz P el)]) h2
    have e3 : off + (poff p + i0 * sz P el) + z.toNat * sz P el = off + poff (p ++ [Pt.x (addN i0 z.toNat) (sz P el)]) := by
      simp only [poff_append, poff, addN, Nat.add_mul, Nat.add_zero]
      omega
    rw [e3]
    exact this
  · rename_i n e' c e1
    rw [e1] at hv
    obtain ⟨h0, hlt, he2⟩ := rif_to he
    have h0 : sz P el = e' := by simpa using h0
    subst h0
    have hlt : z.toNat < n := hlt
    obtain ⟨ad, cp, h1, h2, h3, h4, h5, h6⟩ := vr_dsl hv
    obtain ⟨b, off, rfl, hI⟩ := h6.resolve_left (by omega)
    cases he2
    refine stepVal h hd (run b _ n cp hlt h1) (leaf_vr rfl rfl rfl ⟨b, off, hI, by simp [poff], ?_⟩)
    exact h5
  · exact he.elim
theorem wrapV_to {agg : Bool} {v u : V} (h : (wrapV agg v).to u) : (agg = true ∧ v.isAgg = true ∧ u = v) ∨ (agg = true ∧ v.isAgg = false ∧ u = .one v) ∨ (agg = false ∧ v.isAgg = false ∧ u = v ∧ (∀ n e c, v ≠ .osl n e c) ∧ (∀ c, v ≠ .optr c) ∧ v ≠ .tnil ∧ (∀ a b, v ≠ .tcons a b)) := by
  unfold wrapV at h
  split at h
  · simp only [R.to] at h
    cases hv : v.isAgg with
    | true => rw [hv] at h; exact .inl ⟨rfl, rfl, h.symm⟩
    | false => rw [hv] at h; exact .inr (.inl ⟨rfl, rfl, h.symm⟩)
  · obtain ⟨h1, h2⟩ := rif_to h
    simp only [Bool.and_eq_true, Bool.not_eq_true'] at h1
    refine .inr (.inr ⟨rfl, h1.1, h2.symm, ?_⟩)
    cases v <;> simp_all
/-- content read as a value -/
theorem content_vr {agg : Bool} {v u : V} {ow : Own} {q : List Nat} {pos : Nat} {g : Nat → Option Value} (hw : (wrapV agg v).to u) (hno : v.noown = true) (hc : CRep I w ow v ρ q pos g) :
    ∀ cs : List Value, cs.length = v.size → (∀ j, j < v.size → g j = cs[j]?) →
      (agg = true → VRep I w ρ u (.agg cs.toArray)) ∧ (agg = false → ∀ x, cs = [x] → VRep I w ρ u x) := by
  intro cs hl hg
  have h0 : CRep I w (fun _ => none) v ρ [] 0 (cs.toArray[·]?) := by
    refine CRep.mono (fun b hb => ⟨hb, rfl⟩) v _ _ _ _ _ _ (Rho.le_refl _) (fun h => absurd rfl h) (fun j hj => ?_) ((CRep.noq v _ _ [] _ 0 _ hno hc).noow (ow' := fun _ => none))
    rw [hg j hj]
    simp
  rcases wrapV_to hw with ⟨rfl, h1, rfl⟩ | ⟨rfl, h1, rfl⟩ | ⟨rfl, h1, rfl, h2, h3, h4, h5⟩
  · exact ⟨fun _ => agg_vr h1 (by simpa using hl) h0, fun h => by cases h⟩
  · exact ⟨fun _ => agg_vr rfl (by simpa [V.size] using hl) ⟨h1, h0⟩, fun h => by cases h⟩
  · refine ⟨fun h => by (cases h), fun _ x hx => ?_⟩
    subst hx
    by_cases hany : u = .any
    · subst hany; exact VRep.any _ _ _ _
    have hs : u.size = 1 := by simpa using hl.symm
    have hone : x.oneCell' = true := by
      obtain ⟨y, hy, ho⟩ := CRep.cells u _ _ _ _ h0 0 (by omega)
      simp at hy
      subst hy
      exact ho
    have hagg : isAggV x = false := by cases x <;> first | rfl | cases hone
    refine leaf_vr hs h1 hagg ?_
    exact CRep.mono (fun b hb => ⟨hb, rfl⟩) u _ _ _ _ _ _ (Rho.le_refl _) (fun h => absurd rfl h) (fun j hj => by obtain rfl : j = 0 := (by omega); simp) h0
end
end Go.Cx
/- CxOp5 -/
namespace Go.Cx
open Go
section
variable {P : Program} {pure : Nat → Bool} {X : Fix} {I : Nat → Prop} {ρ : Rho} {ow : Own} {s : St} {a : Act} {w : World} {o : Oper}
theorem isAgg_run {t : TypeId} {d : TypeDesc} (ht : P.underlying t = some d) (w : World) : (isAgg t).run P w = .ok (aggT P t) w := by
  unfold aggT
  cases d <;> simp [isAgg, run_underlying ht, ht]
theorem VRep.noown {v : V} {x : Value} (h : VRep I w ρ v x) (ha : v.isAgg = true) : v.noown = true := by
  have key : ∀ (v : V) (g : Nat → Option Value), CRep I w (fun _ => none) v ρ [] 0 g → True := fun _ _ _ => trivial
  obtain ⟨cs, _, _, hc⟩ := vr_agg h ha
  clear key
  have : ∀ (v : V) (pos : Nat) (g : Nat → Option Value), CRep I w (fun _ => none) v ρ [] pos g → v.noown = true := by
    intro v
    induction v with
    | cat n m a b iha ihb => intro pos g hc; simp only [V.noown, Bool.and_eq_true]; exact ⟨iha _ _ hc.2.2.1, ihb _ _ hc.2.2.2⟩
    | one a ih => intro pos g hc; exact ih _ _ hc.2
    | osl n e c ih => intro pos g hc; exact absurd rfl hc.1
    | optr c ih => intro pos g hc; exact absurd rfl hc.1
    | orow n e f o ih => intro pos g hc; exact absurd rfl hc.1
    | tcons a b _ _ => intro pos g hc; exact hc.elim
    | _ => intro pos g hc; rfl
  exact this v 0 _ hc
theorem crep_noown {v : V} {ow : Own} {pos : Nat} {g : Nat → Option Value} (hc : CRep I w ow v ρ [] pos g) : v.noown = true := by
  induction v generalizing pos g with
  | cat n m a b iha ihb => simp only [V.noown, Bool.and_eq_true]; exact ⟨iha hc.2.2.1, ihb hc.2.2.2⟩
  | one a ih => exact ih hc.2
  | osl n e c ih => exact absurd rfl hc.1
  | optr c ih => exact absurd rfl hc.1
  | orow n e f o ih => exact absurd rfl hc.1
  | tcons a b _ _ => exact hc.elim
  | _ => rfl
/-- what part reads of an aggregate's cells -/
theorem part_run {t : TypeId} (hz : sz P t ≠ 0) {d : TypeDesc} (ht : P.underlying t = some d) {v u : V} {cs : Array Value} {off : Nat} (hw : (wrapV (aggT P t) v).to u) (hs : v.size = sz P t)
    (hlt : off + v.size ≤ cs.size) {pos : Nat} (hc : CRep I w (fun _ => none) v ρ [] pos (fun j => cs[off + j]?)) : ∃ x, (part t cs off).run P w = .ok x w ∧ VRep I w ρ u x := by
  have hno := crep_noown hc
  have hread := content_vr hw hno hc ((cs.toList.drop off).take v.size) (by simp; omega) (fun j hj => by simp [hj])
  cases hagg : aggT P t with
  | true =>
    refine ⟨.agg (cs.extract off (off + sz P t)), ?_, ?_⟩
    · simp [part, isAgg_run ht, hagg, sizeOf_run hz]
    · have := hread.1 hagg
      have e : cs.extract off (off + sz P t) = ((cs.toList.drop off).take v.size).toArray := by
        apply Array.ext'
        rw [Array.toList_extract, List.extract_eq_take_drop, hs]
        simp
      rw [e]; exact this
  | false =>
    rcases wrapV_to hw with ⟨h1, _⟩ | ⟨h1, _⟩ | ⟨_, h2, rfl, h3, h4, h5, h6⟩
    · rw [hagg] at h1; cases h1
    · rw [hagg] at h1; cases h1
    · have h1 : u.size = 1 := by cases u <;> first | rfl | cases h2
      have h7 : off < cs.size := by omega
      refine ⟨cs[off], ?_, ?_⟩
      · simp [part, isAgg_run ht, hagg, h7]
      · refine hread.2 hagg _ ?_
        rw [h1]
        rw [List.take_one, List.head?_drop]
        simp [h7]
theorem step_fl (h : Rep X I ρ ow s a.tmps w) (hd : dstOk X o) {t : TypeId} {x : Operand} {ix : IX} {f : Nat} {fs : Array Field} {fd : Field} {d : TypeDesc} (ho : o.op = .field t x f) (ht : P.underlying t = some (.struct fs)) (hf : fs[f]? = some fd)
    (hz : sz P fd.type ≠ 0) (hfd : P.underlying fd.type = some d) (hx : opIX x = some ix) {e : Eff}
    (he : (match (ev s.t ix).unwrap.fld fd.offset (sz P fd.type) with
      | some v => rif (ev s.t ix).isAgg 78 ((wrapV (aggT P fd.type) v).bind fun v => .ok (noEff v))
      | none => .fail 78).to e) : StepOk P X o a w s e := by
  have hv := ev_rep h hx
  split at he
  · rename_i v e1
    obtain ⟨h1, he⟩ := rif_to he
    obtain ⟨u, hu, he⟩ := bind_to he
    cases he
    obtain ⟨cs, hcs, hsz, hc⟩ := vr_agg hv h1
    have hc' : CRep I w (fun _ => none) (ev s.t ix).unwrap ρ [] 0 (cs[·]?) := by
      cases hev : ev s.t ix <;> rw [hev] at hc <;> first | exact hc | exact hc.2
    have hsz' : (ev s.t ix).unwrap.size = cs.size := by
      rw [hsz]; cases ev s.t ix <;> rfl
    obtain ⟨h2, h3, h4⟩ := fld_rep _ e1 hc'
    obtain ⟨y, hy, hvy⟩ := part_run (P := P) hz hfd hu h3 (by omega) h2
    exact stepVal h hd (by simp [execOp, ho, hcs, Instr.field, run_underlying ht, hf, asAgg, hy]) hvy
  · exact he.elim
theorem step_ixA (h : Rep X I ρ ow s a.tmps w) (hd : dstOk X o) {t el : TypeId} {n : Nat} {x i : Operand} {ix ii : IX} {d : TypeDesc} (ho : o.op = .index t x i) (ht : P.underlying t = some (.array n el)) (hz : sz P el ≠ 0) (hel : P.underlying el = some d)
    (hx : opIX x = some ix) (hi : opIX i = some ii) {e : Eff}
    (he : (((ev s.t ii).nat apf).bind fun j => .chk (ltN j n) <| rif (ev s.t ix).isAgg 81 <| ((ev s.t ix).unwrap.at apf [Pt.x j (sz P el)]).bind fun v => rif (v.size == sz P el) 81 <| (wrapV (aggT P el) v).bind fun v => .ok (noEff v)).to e) : StepOk P X o a w s e := by
  have hv := ev_rep h hx
  obtain ⟨j, hj, hlt, he⟩ := bind_to he
  obtain ⟨k, z, hz1, hz2, rfl⟩ := nat_to hj (ev_rep h hi)
  have hlt : z.toNat < n := hlt
  obtain ⟨h1, he⟩ := rif_to he
  obtain ⟨v, hat, he⟩ := bind_to he
  obtain ⟨h0, he⟩ := rif_to he
  have h0 : v.size = sz P el := by simpa using h0
  obtain ⟨u, hu, he⟩ := bind_to he
  cases he
  obtain ⟨cs, hcs, hsz, hc⟩ := vr_agg hv h1
  have hc' : CRep I w (fun _ => none) (ev s.t ix).unwrap ρ [] 0 (cs[·]?) := by
    cases hev : ev s.t ix <;> rw [hev] at hc <;> first | exact hc | exact hc.2
  have hsz' : (ev s.t ix).unwrap.size = cs.size := by
    rw [hsz]; cases ev s.t ix <;> rfl
  obtain ⟨h2, h3⟩ := at_rep _ _ hat hc'
  simp only [poff, Nat.add_zero] at h2 h3
  obtain ⟨y, hy, hvy⟩ := part_run (P := P) hz hel hu h0 (by omega) h2
  have hb2 : 0 ≤ z ∧ z < n := ⟨hz2, by omega⟩
  exact stepVal h hd (by simp [execOp, ho, hcs, hz1, Instr.index, asIntOf, run_underlying ht, hb2, sizeOf_run hz, hy]) hvy
theorem toBA_get {l : List Int} {j : Nat} (hj : j < l.length) (hr : ∀ y ∈ l, inR .u8 y) : (toBA l)[j]? = some (UInt8.ofNat (nthI l j).toNat) ∧ (((UInt8.ofNat (nthI l j).toNat).toNat : Nat) : Int) = nthI l j := by
  have hn : nthI l j = l[j] := by simp [nthI, List.getD_eq_getElem?_getD, List.getElem?_eq_getElem hj]
  constructor
  · rw [hn]
    show (toBA l)[j]? = _
    have : (toBA l).size = l.length := toBA_size l
    rw [getElem?_pos (toBA l) j (by omega)]
    congr 1
    simp [toBA, ByteArray.getElem_eq_getElem_data]
  · rw [hn]; exact ofNat_toNat_u8 (hr _ (List.getElem_mem hj))
theorem step_ixT (h : Rep X I ρ ow s a.tmps w) (hd : dstOk X o) {t : TypeId} {x i : Operand} {ix ii : IX} (ho : o.op = .index t x i) (ht : P.underlying t = some .string)
    (hx : opIX x = some ix) (hi : opIX i = some ii) {e : Eff}
    (he : (match ev s.t ix with
      | .str l => ((ev s.t ii).nat apf).bind fun j => .chk (ltN j (llen l)) (.ok (noEff (.int .u8 (nthI l j))))
      | _ => .fail 82).to e) : StepOk P X o a w s e := by
  have hv := ev_rep h hx
  split at he
  · rename_i l e1
    rw [e1] at hv
    obtain ⟨h1, hl, hr⟩ := vr_str hv
    obtain ⟨j, hj, hlt, he⟩ := bind_to he
    obtain ⟨k, z, hz1, hz2, rfl⟩ := nat_to hj (ev_rep h hi)
    have hlt : z.toNat < l.length := hlt
    cases he
    obtain ⟨g1, g2⟩ := toBA_get hlt hr
    have hm : nthI l z.toNat ∈ l := by
      have hn : nthI l z.toNat = l[z.toNat] := by simp [nthI, List.getD_eq_getElem?_getD, List.getElem?_eq_getElem hlt]
      rw [hn]; exact List.getElem_mem hlt
    refine stepVal h hd (x := .int .u8 (nthI l z.toNat)) ?_ (int_vr (hr _ hm))
    simp only [execOp, ho, h1, hz1, Instr.index, asIntOf, Sem.run_bind, Sem.run_pure, Result.andThen_ok, run_underlying ht, if_pos hz2, g1, g2]
  · exact he.elim
theorem step_ext (h : Rep X I ρ ow s a.tmps w) (hd : dstOk X o) {x : Operand} {ix : IX} {i : Nat} (ho : o.op = .extract x i) (hx : opIX x = some ix) {e : Eff}
    (he : (match ev s.t ix, i with
      | .tcons a _, 0 => R.ok (noEff a)
      | .tcons _ (.tcons b _), 1 => .ok (noEff b)
      | .tcons _ (.tcons _ (.tcons c _)), 2 => .ok (noEff c)
      | _, _ => .fail 87).to e) : StepOk P X o a w s e := by
  have hv := ev_rep h hx
  split at he
  · rename_i va vb e1
    rw [e1] at hv
    obtain ⟨l, h1, y, r, rfl, h2, _⟩ := vr_tcons hv
    cases he
    exact stepVal h hd (x := y) (by simp [execOp, ho, h1, Instr.extract]) h2.up
  · rename_i va vb vc e1
    rw [e1] at hv
    obtain ⟨l, h1, y, r, rfl, _, y2, r2, rfl, h2, _⟩ := vr_tcons hv
    cases he
    exact stepVal h hd (x := y2) (by simp [execOp, ho, h1, Instr.extract]) h2.up
  · rename_i va vb vc vd e1
    rw [e1] at hv
    obtain ⟨l, h1, y, r, rfl, _, y2, r2, rfl, _, y3, r3, rfl, h2, _⟩ := vr_tcons hv
    cases he
    exact stepVal h hd (x := y3) (by simp [execOp, ho, h1, Instr.extract]) h2.up
  · exact he.elim
end
end Go.Cx
/- CxOp6 -/
namespace Go.Cx
open Go
section
variable {P : Program} {pure : Nat → Bool} {X : Fix} {I : Nat → Prop} {ρ : Rho} {ow : Own} {s : St} {a : Act} {w : World} {o : Oper}
/-- a bound that is given, or left out -/
def bdIs (v : Option Value) (dflt n : Nat) : Prop := (v = none ∧ n = dflt) ∨ ∃ k z, v = some (.int k z) ∧ 0 ≤ z ∧ n = z.toNat
theorem run_sliceBounds {isS : Bool} {len cap l h : Nat} {lo hi : Option Value} (hl : bdIs lo 0 l) (hh : bdIs hi len h) (h1 : l ≤ h) (h2 : h ≤ cap) (w : World) :
    (Instr.sliceBounds isS len cap lo hi none).run P w = .ok (l, h, cap) w := by
  have b : ∀ (k : IntKind) (z : Int) (y : Nat) (c : BoundsCode), 0 ≤ z → z.toNat ≤ y → (Instr.sliceBound (.int k z) y c).run P w = .ok z.toNat w := by
    intro k z y c h0 hy
    have : 0 ≤ z ∧ z ≤ y := ⟨h0, by omega⟩
    simp [Instr.sliceBound, asIntOf, this]
  rcases hl with ⟨rfl, rfl⟩ | ⟨k, z, rfl, h3, rfl⟩ <;> rcases hh with ⟨rfl, rfl⟩ | ⟨k', z', rfl, h4, rfl⟩
  · simp [Instr.sliceBounds]
  · simp [Instr.sliceBounds, b _ _ _ _ h4 h2]
  · simp [Instr.sliceBounds, b _ _ _ _ h3 h1]
  · simp [Instr.sliceBounds, b _ _ _ _ h3 h1, b _ _ _ _ h4 h2]
theorem bd_none (n : Nat) : bdIs none n n := .inl ⟨rfl, rfl⟩
theorem opt_none {x : Option Operand} (h : optIX x = some none) : x = none := by
  cases x with
  | none => rfl
  | some y => simp only [optIX, Option.map_eq_some_iff] at h; obtain ⟨i, _, h⟩ := h; cases h
theorem opt_some {x : Option Operand} {i : IX} (h : optIX x = some (some i)) : ∃ y, x = some y ∧ opIX y = some i := by
  cases x with
  | none => cases h
  | some y => simp only [optIX, Option.map_eq_some_iff] at h; obtain ⟨i', h1, h⟩ := h; cases h; exact ⟨y, rfl, h1⟩
theorem bd_some (h : Rep X I ρ ow s a.tmps w) {x : Option Operand} {i : IX} (hx : optIX x = some (some i)) {n dflt : Nat} (hn : ((ev s.t i).nat apf).to n) : bdIs (x.map a.eval) dflt n := by
  obtain ⟨y, rfl, hy⟩ := opt_some hx
  obtain ⟨k, z, h1, h2, h3⟩ := nat_to hn (ev_rep h hy)
  exact .inr ⟨k, z, by simp [h1], h2, h3⟩
theorem bd_none' {x : Option Operand} (hx : optIX x = some none) (n : Nat) : bdIs (x.map a.eval) n n := by
  rw [opt_none hx]; exact bd_none n
/-- the address of a slice that begins at element l of something of size-e elements -/
theorem sl_addr {b off l e m : Nat} : (if m = l then (⟨b, off, none⟩ : Addr) else (⟨b, off, none⟩ : Addr).add (l * e)) = ⟨b, if m = l then off else off + l * e, none⟩ := by
  split
  · rfl
  · rw [Addr.add_lit]
/-- a part of a known block lies within the block -/
theorem blk_room (h : Rep X I ρ ow s a.tmps w) {hd b off sz' : Nat} {k : Bk} {c c' : V} {p : List Pt} (hh : s.h hd = some ⟨k, c⟩) (hl : ρ hd = some (.at b off sz')) (hk : k ≠ .dead) (hat : (c.at apf p).to c') : poff p + c'.size ≤ sz' := by
  obtain ⟨l, h1, h2⟩ := h.heap _ _ hh
  rw [hl] at h1
  cases h1
  cases k with
  | dead => exact absurd rfl hk
  | own =>
    rcases h2 with ⟨h3, _⟩ | ⟨k', off', sz2, cur, h3, _, _, h4, h5⟩
    · cases h3
    · cases h3
      have h6 := (at_rep _ _ hat h5).2
      have h7 : c.size ≤ sz' := by
        rcases Nat.lt_or_ge sz' c.size with h8 | h8
        · obtain ⟨y, hy, _⟩ := CRep.cells c _ _ _ _ h5 sz' h8
          rw [Array.getElem?_eq_none (by omega)] at hy
          cases hy
        · exact h8
      omega
  | bor =>
    rcases h2 with ⟨h3, _⟩ | ⟨k', off', sz2, h3, _, _, h4, h5⟩
    · cases h3
    · cases h3
      have h6 := (at_rep _ _ hat h5).2
      have h4' : c.size ≤ sz' := h4
      omega
  | imm =>
    rcases h2 with ⟨h3, _⟩ | ⟨k', off', sz2, h3, _, h4, h5⟩
    · cases h3
    · cases h3
      have h6 := (at_rep _ _ hat h5).2
      have h4' : c.size ≤ sz' := h4
      omega
theorem step_slA (h : Rep X I ρ ow s a.tmps w) (hd : dstOk X o) {t el : TypeId} {n : Nat} {x : Operand} {lo hi : Option Operand} {ix : IX} {il ih : Option IX} (ho : o.op = .slice t x lo hi none) (ht : P.underlying t = some (.array n el)) (hz : sz P el ≠ 0) (hn : n ≤ maxLen)
    (hx : opIX x = some ix) (hl : optIX lo = some il) (hh : optIX hi = some ih) {e : Eff} {E : List (Nat × Ctr)}
    (he : (stepR apf E s.t s.h o.dst (.slA n (sz P el) ix il ih)).to e) : StepOk P X o a w s e := by
  have hv := ev_rep h hx
  simp only [stepR] at he
  split at he
  case h_2 => exact he.elim
  rename_i hh' p e1
  rw [e1] at hv
  obtain ⟨b, off, sz', h1, h2⟩ := vr_ptr hv
  split at he
  · exact he.elim
  · exact he.elim
  rename_i kk c hnd hh2
  obtain ⟨c', hat, he⟩ := bind_to he
  obtain ⟨hcs, he⟩ := rif_to he
  have hcs : c'.size = n * sz P el := by simpa using hcs
  have hrm : poff p + n * sz P el ≤ sz' := by
    have := blk_room h hh2 h1 (fun e => hnd e) hat
    omega
  have fin : ∀ l m, bdIs (lo.map a.eval) 0 l → bdIs (hi.map a.eval) n m → l ≤ m → m ≤ n → ∀ q, e = noEff (.sl hh' p l (m - l) (sz P el) (some q)) → q = n - l → StepOk P X o a w s e := by
    rintro l m hl hm hlm hmn q rfl rfl
    refine stepVal h hd (x := .slice (some ⟨b, if n = l then off + poff p else off + poff p + l * sz P el, none⟩) (m - l) (n - l)) ?_ (leaf_vr rfl rfl rfl ⟨_, _, _, rfl, h1, by omega, by omega, rfl, ?_⟩)
    · simp [execOp, ho, h2, Instr.sliceAt, run_underlying ht, Instr.sureAddr, run_sliceBounds hl hm hlm hmn, sizeOf_run hz, sl_addr]
    · by_cases hnl : n = l
      · exact .inl (by omega)
      · refine .inr ⟨b, off, sz', rfl, by rw [if_neg hnl]; simp [Nat.add_assoc], ?_⟩
        have : l * sz P el + (n - l) * sz P el = n * sz P el := by rw [← Nat.add_mul]; congr 1; omega
        omega
  cases il with
  | none =>
    cases ih with
    | none => exact fin 0 n (bd_none' hl 0) (bd_none' hh n) (by omega) (by omega) n (by cases he; rfl) (by omega)
    | some ih =>
      obtain ⟨m, hm, hmn, he⟩ := bind_to he
      exact fin 0 m (bd_none' hl 0) (bd_some h hh hm) (by omega) hmn n (by cases he; rfl) (by omega)
  | some il =>
    cases ih with
    | none =>
      obtain ⟨m, hm, hmn, he⟩ := bind_to he
      exact fin m n (bd_some h hl hm) (bd_none' hh n) hmn (by omega) (n - m) (by cases he; rfl) rfl
    | some ih =>
      obtain ⟨l, hl', he⟩ := bind_to he
      obtain ⟨m, hm, hmn, hlm, he⟩ := bind_to he
      exact fin l m (bd_some h hl hl') (bd_some h hh hm) hlm hmn (n - l) (by cases he; rfl) rfl
theorem behind_some {b off : Nat} : behind w (some ⟨b, off, none⟩) = cellsAt w b off := rfl
theorem dsl_vr {n e cp : Nat} {c : V} {ad : Option Addr} (h1 : n ≤ cp) (h2 : cp ≤ maxLen) (h3 : isRow e n c) (h4 : CRep I w (fun _ => none) c noR [] 0 (behind w ad)) (h5 : cp = 0 ∨ ∃ b off, ad = some ⟨b, off, none⟩ ∧ I b) :
    VRep I w ρ (.dsl n e c) (.slice ad n cp) := leaf_vr rfl rfl rfl ⟨ad, cp, rfl, h1, h2, h3, h4, h5⟩
theorem crep_empty {c : V} {ow ow' : Own} {g g' : Nat → Option Value} (hs : c.size = 0) (h : CRep I w ow c noR [] 0 g) : CRep I w ow' c noR [] 0 g' :=
  CRep.mono (fun b hb => ⟨hb, rfl⟩) _ _ _ _ _ _ _ (Rho.le_refl _) (fun h => absurd rfl h) (fun j hj => by omega) h
/-- slicing a deep slice -/
theorem dsl_sub {n e l m : Nat} {c c' : V} {x : Value} (hv : VRep I w ρ (.dsl n e c) x) (hsub : (c.subs apf l (m - l)).to c') (h1 : l ≤ m) (h2 : m ≤ n) :
    ∃ ad cp, x = .slice ad n cp ∧ n ≤ cp ∧ VRep I w ρ (.dsl (m - l) e c') (.slice (if cp = l then ad else ad.map (·.add (l * e))) (m - l) (cp - l)) := by
  obtain ⟨ad, cp, rfl, h3, h4, h5, h6, h7⟩ := vr_dsl hv
  refine ⟨ad, cp, rfl, h3, ?_⟩
  obtain ⟨h8, h9⟩ := subs_rep hsub h5 (by omega) h6
  by_cases hml : cp = l
  · have hs0 : c'.size = 0 := by rw [isRow_size h8, show m - l = 0 by omega]; simp
    exact dsl_vr (by omega) (by omega) h8 (crep_empty hs0 h9) (.inl (by omega))
  · obtain ⟨b, off, rfl, hI⟩ := h7.resolve_left (by omega)
    have hne : cp ≠ l := by omega
    rw [if_neg hne]
    simp only [Option.map_some, Addr.add_lit]
    refine dsl_vr (by omega) (by omega) h8 ?_ (.inr ⟨b, _, rfl, hI⟩)
    have : behind w (some ⟨b, off + l * e, none⟩) = fun j => behind w (some ⟨b, off, none⟩) (l * e + j) := by
      funext j; simp [behind, Nat.add_assoc]
    rw [this]
    exact h9.noow
/-- slicing a slice over a handle -/
theorem sl_sub {hd' n e l m i : Nat} {p : List Pt} {cap : Option Nat} {x : Value} (hv : VRep I w ρ (.sl hd' p i n e cap) x) (h1 : l ≤ m) (h2 : m ≤ n) :
    ∃ ad cp, x = .slice ad n cp ∧ n ≤ cp ∧ VRep I w ρ (.sl hd' p (i + l) (m - l) e (capSub apf cap l)) (.slice (if cp = l then ad else ad.map (·.add (l * e))) (m - l) (cp - l)) := by
  obtain ⟨ad, cp, lo, rfl, h3, h4, h5, h6, h7⟩ := vr_sl hv
  refine ⟨ad, cp, rfl, h4, leaf_vr rfl rfl rfl ⟨_, _, lo, rfl, h3, by omega, by omega, ?_, ?_⟩⟩
  · cases cap with
    | none => trivial
    | some c => have : cp = c := h6; subst this; rfl
  · by_cases hc : cp = l
    · exact .inl (by omega)
    · obtain ⟨b, off, sz', rfl, rfl, h8⟩ := h7.resolve_left (by omega)
      rw [if_neg hc]
      simp only [Option.map_some, Addr.add_lit]
      refine .inr ⟨b, off, sz', rfl, by congr 2; rw [Nat.add_mul]; omega, ?_⟩
      have : l * e + (cp - l) * e = cp * e := by rw [← Nat.add_mul]; congr 1; omega
      rw [Nat.add_mul]
      omega
theorem run_slice {t el : TypeId} (ht : P.underlying t = some (.slice el)) (hz : sz P el ≠ 0) {ad : Option Addr} {n cp l m : Nat} {lo hi : Option Value} (hl : bdIs lo 0 l) (hh : bdIs hi n m) (h1 : l ≤ m) (h2 : m ≤ cp) (w : World) :
    (Instr.sliceAt t (.slice ad n cp) lo hi none).run P w = .ok (.slice (if cp = l then ad else ad.map (·.add (l * sz P el))) (m - l) (cp - l)) w := by
  simp [Instr.sliceAt, Instr.slice, run_underlying ht, run_sliceBounds hl hh h1 h2, sizeOf_run hz]
theorem step_slS (h : Rep X I ρ ow s a.tmps w) (hd : dstOk X o) {t el : TypeId} {x : Operand} {lo hi mx : Option Operand} {ix : IX} {il ih im : Option IX} (ho : o.op = .slice t x lo hi mx) (ht : P.underlying t = some (.slice el)) (hz : sz P el ≠ 0)
    (hx : opIX x = some ix) (hl : optIX lo = some il) (hh : optIX hi = some ih) (hm : optIX mx = some im) {e : Eff} {E : List (Nat × Ctr)}
    (he : (stepR apf E s.t s.h o.dst (.slS (sz P el) ix il ih im)).to e) : StepOk P X o a w s e := by
  have hv := ev_rep h hx
  simp only [stepR] at he
  cases im with
  | some im =>
    obtain ⟨mo, rfl, hmo⟩ := opt_some hm
    simp only at he
    have hvm := ev_rep h hmo
    split at he
    case h_2 => exact he.elim
    rename_i k hi' e1
    rw [e1] at hvm
    obtain ⟨hlo⟩ : lo = none := opt_none hl
    obtain ⟨hio, rfl, hhio⟩ := opt_some hh
    have hvh := ev_rep h hhio
    split at he
    case h_2 => exact he.elim
    rename_i k' e2
    rw [e2] at hvh
    have z1 := (vr_lit hvm).1
    have z2 := (vr_lit hvh).1
    have run : ∀ ad n cp, a.eval x = .slice ad n cp → ∃ ad', (execOp a.eval o).run P w = .ok (.value (.slice ad' 0 0)) w ∧ (ad = none → ad' = none) := by
      intro ad n cp hs
      refine ⟨ad, ?_, fun h => h⟩
      simp [execOp, ho, hs, Instr.sliceAt, Instr.slice, run_underlying ht, Instr.sliceBounds, Instr.sliceBound, asIntOf, z1, z2, sizeOf_run hz]
    split at he
    · rename_i hh' p i n ee cap e3
      rw [e3] at hv
      obtain ⟨ad, c, l, h1, _⟩ := vr_sl hv
      obtain ⟨ad', hr, _⟩ := run _ _ _ h1
      cases he
      exact stepVal h hd hr (zsl_vr _)
    · rename_i n ee c e3
      rw [e3] at hv
      obtain ⟨ad, cp, h1, _⟩ := vr_dsl hv
      obtain ⟨ad', hr, _⟩ := run _ _ _ h1
      cases he
      exact stepVal h hd hr (zsl_vr _)
    · rename_i e3
      rw [e3] at hv
      obtain ⟨ad, h1⟩ := vr_zsl hv
      obtain ⟨ad', hr, _⟩ := run _ _ _ h1
      cases he
      exact stepVal h hd hr (zsl_vr _)
    · rename_i e3
      rw [e3] at hv
      obtain ⟨ad', hr, hn⟩ := run _ _ _ (vr_nsl hv)
      rw [hn rfl] at hr
      cases he
      exact stepVal h hd hr nsl_vr
    · exact he.elim
  | none =>
    have hm' := opt_none hm
    subst hm'
    simp only at he
    split at he
    · rename_i hh' p i n e' cap e1
      rw [e1] at hv
      obtain ⟨h0, he2⟩ := rif_to he
      have h0 : sz P el = e' := by simpa using h0
      subst h0
      clear he
      have fin : ∀ l m, bdIs (lo.map a.eval) 0 l → bdIs (hi.map a.eval) n m → l ≤ m → m ≤ n → ∀ v, VRep I w ρ v = VRep I w ρ (.sl hh' p (i + l) (m - l) (sz P el) (capSub apf cap l)) → e = noEff v → StepOk P X o a w s e := by
        rintro l m hbl hbm hlm hmn v hvv rfl
        obtain ⟨ad, cp, h3, h4, h5⟩ := sl_sub hv hlm hmn
        have hr : (execOp a.eval o).run P w = .ok (.value (.slice (if cp = l then ad else ad.map (·.add (l * sz P el))) (m - l) (cp - l))) w := by
          simp [execOp, ho, h3, run_slice ht hz hbl hbm hlm (Nat.le_trans hmn h4)]
        exact stepVal h hd hr (by rw [hvv]; exact h5)
      cases il with
      | none =>
        cases ih with
        | none => exact fin 0 n (bd_none' hl 0) (bd_none' hh n) (by omega) (by omega) (.sl hh' p i n (sz P el) cap) (congrArg (VRep I w ρ) (by cases cap <;> rfl)) (by cases he2; rfl)
        | some ih =>
          obtain ⟨m, hm, hmn, he⟩ := bind_to he2
          exact fin 0 m (bd_none' hl 0) (bd_some h hh hm) (by omega) hmn (.sl hh' p i m (sz P el) cap) (congrArg (VRep I w ρ) (by cases cap <;> rfl)) (by cases he; rfl)
      | some il =>
        cases ih with
        | none =>
          obtain ⟨l, hm, hmn, he⟩ := bind_to he2
          exact fin l n (bd_some h hl hm) (bd_none' hh n) hmn (by omega) _ rfl (by cases he; rfl)
        | some ih =>
          obtain ⟨l, hl', he⟩ := bind_to he2
          obtain ⟨m, hm, hmn, hlm, he⟩ := bind_to he
          exact fin l m (bd_some h hl hl') (bd_some h hh hm) hlm hmn _ rfl (by cases he; rfl)
    · rename_i n e' c e1
      rw [e1] at hv
      obtain ⟨h0, he2⟩ := rif_to he
      have h0 : sz P el = e' := by simpa using h0
      subst h0
      clear he
      have fin : ∀ l m c', bdIs (lo.map a.eval) 0 l → bdIs (hi.map a.eval) n m → l ≤ m → m ≤ n → (c.subs apf l (m - l)).to c' → ∀ v, VRep I w ρ v = VRep I w ρ (.dsl (m - l) (sz P el) c') → e = noEff v → StepOk P X o a w s e := by
        rintro l m c' hbl hbm hlm hmn hsub v hvv rfl
        obtain ⟨ad, cp, h3, h4, h5⟩ := dsl_sub hv hsub hlm hmn
        have hr : (execOp a.eval o).run P w = .ok (.value (.slice (if cp = l then ad else ad.map (·.add (l * sz P el))) (m - l) (cp - l))) w := by
          simp [execOp, ho, h3, run_slice ht hz hbl hbm hlm (Nat.le_trans hmn h4)]
        exact stepVal h hd hr (by rw [hvv]; exact h5)
      cases il with
      | none =>
        cases ih with
        | none =>
          cases he2
          obtain ⟨ad, cp, h3, h4, h5, h6, h7, h8⟩ := vr_dsl hv
          refine stepVal h hd (x := .slice ad n cp) ?_ (dsl_vr h4 h5 h6 h7 h8)
          have hlo := opt_none hl
          have hhi := opt_none hh
          subst hlo; subst hhi
          have := run_slice (P := P) ht hz (ad := ad) (bd_none 0) (bd_none n) (Nat.zero_le n) h4 w
          simp only [execOp, ho, h3, Option.map_none, this, Result.andThen_ok, Sem.run_bind, Sem.run_pure, Nat.zero_mul, Nat.sub_zero]
          congr 2
          cases ad with
          | none => simp
          | some ad => simp [Addr.add]
        | some ih =>
          obtain ⟨m, hm, hmn, he⟩ := bind_to he2
          obtain ⟨c', hc', he⟩ := bind_to he
          exact fin 0 m c' (bd_none' hl 0) (bd_some h hh hm) (by omega) hmn hc' _ rfl (by cases he; rfl)
      | some il =>
        cases ih with
        | none =>
          obtain ⟨l, hm, hmn, he⟩ := bind_to he2
          obtain ⟨c', hc', he⟩ := bind_to he
          exact fin l n c' (bd_some h hl hm) (bd_none' hh n) hmn (by omega) hc' _ rfl (by cases he; rfl)
        | some ih =>
          obtain ⟨l, hl', he⟩ := bind_to he2
          obtain ⟨m, hm, hmn, hlm, he⟩ := bind_to he
          obtain ⟨c', hc', he⟩ := bind_to he
          exact fin l m c' (bd_some h hl hl') (bd_some h hh hm) hlm hmn hc' _ rfl (by cases he; rfl)
    · exact he.elim
theorem toBA_extract {l : List Int} {i j : Nat} : (toBA l).extract i j = toBA (subL l i (j - i)) := by
  apply ByteArray.ext
  apply Array.ext'
  simp only [ByteArray.data_extract, Array.toList_extract, toBA_data, List.extract_eq_take_drop, subL, List.map_take, List.map_drop]
theorem step_slT (h : Rep X I ρ ow s a.tmps w) (hd : dstOk X o) {t : TypeId} {x : Operand} {lo hi : Option Operand} {ix : IX} {il ih : Option IX} (ho : o.op = .slice t x lo hi none) (ht : P.underlying t = some .string)
    (hx : opIX x = some ix) (hl : optIX lo = some il) (hh : optIX hi = some ih) {e : Eff} {E : List (Nat × Ctr)}
    (he : (stepR apf E s.t s.h o.dst (.slT ix il ih)).to e) : StepOk P X o a w s e := by
  have hv := ev_rep h hx
  simp only [stepR] at he
  split at he
  case h_2 => exact he.elim
  rename_i l e1
  rw [e1] at hv
  obtain ⟨h1, h2, h3⟩ := vr_str hv
  have fin : ∀ i j, bdIs (lo.map a.eval) 0 i → bdIs (hi.map a.eval) l.length j → i ≤ j → j ≤ l.length → e = noEff (.str (subL l i (j - i))) → StepOk P X o a w s e := by
    rintro i j hbi hbj hij hjl rfl
    refine stepVal h hd (x := .string (toBA (subL l i (j - i)))) ?_ (str_vr (by simp [subL]; omega) (fun y hy => h3 y (List.mem_of_mem_drop (List.mem_of_mem_take hy))))
    have hsz : (toBA l).size = l.length := toBA_size l
    have hb : (Instr.sliceBounds false (toBA l).size (toBA l).size (lo.map a.eval) (hi.map a.eval) none).run P w = .ok (i, j, (toBA l).size) w :=
      run_sliceBounds hbi (by rw [hsz]; exact hbj) hij (by rw [hsz]; exact hjl) w
    simp [execOp, ho, h1, Instr.sliceAt, Instr.slice, run_underlying ht, hb, toBA_extract]
  cases il with
  | none =>
    cases ih with
    | none =>
      refine fin 0 l.length (bd_none' hl 0) (bd_none' hh _) (by omega) (by omega) ?_
      cases he
      simp [subL]
    | some ih =>
      obtain ⟨m, hm, hmn, he⟩ := bind_to he
      exact fin 0 m (bd_none' hl 0) (bd_some h hh hm) (by omega) hmn (by cases he; rfl)
  | some il =>
    cases ih with
    | none =>
      obtain ⟨m, hm, hmn, he⟩ := bind_to he
      exact fin m l.length (bd_some h hl hm) (bd_none' hh _) hmn (by omega) (by cases he; rfl)
    | some ih =>
      obtain ⟨i, hl', he⟩ := bind_to he
      obtain ⟨m, hm, hmn, hlm, he⟩ := bind_to he
      exact fin i m (bd_some h hl hl') (bd_some h hh hm) hlm hmn (by cases he; rfl)
end
end Go.Cx
/- CxOp7 -/
namespace Go.Cx
open Go
section
variable {P : Program} {pure : Nat → Bool} {X : Fix} {I : Nat → Prop} {ρ : Rho} {ow : Own} {s : St} {a : Act} {w : World} {o : Oper}
theorem OwnBlk.cells {b : Nat} {cur : Array Value} (h : OwnBlk w b cur) (off : Nat) : (fun j => cur[off + j]?) = cellsAt w b off := by
  obtain ⟨ty, fr, h1, _⟩ := h
  funext j
  exact (cell_of_row w b (off + j) cur ty fr h1).symm
/-- the cells of a known block -/
theorem blk_cells (h : Rep X I ρ ow s a.tmps w) {hd b off sz' : Nat} {k : Bk} {c : V} (hh : s.h hd = some ⟨k, c⟩) (hl : ρ hd = some (.at b off sz')) (hk : k ≠ .dead) : ∃ q, CRep I w ow c ρ q 0 (cellsAt w b off) := by
  obtain ⟨l, h1, h2⟩ := h.heap _ _ hh
  rw [hl] at h1
  cases h1
  cases k with
  | dead => exact absurd rfl hk
  | own =>
    rcases h2 with ⟨h3, _⟩ | ⟨k', off', sz2, cur, h3, _, h6, h4, h5⟩
    · cases h3
    · cases h3
      rw [h6.cells] at h5
      exact ⟨_, h5⟩
  | bor =>
    rcases h2 with ⟨h3, _⟩ | ⟨k', off', sz2, h3, _, _, h4, h5⟩
    · cases h3
    · cases h3
      exact ⟨_, h5⟩
  | imm =>
    rcases h2 with ⟨h3, _⟩ | ⟨k', off', sz2, h3, _, h4, h5⟩
    · cases h3
    · cases h3
      exact ⟨[], CRep.mono (fun b hb => ⟨hb, rfl⟩) _ _ _ _ _ _ _ (noR_le ρ) (fun h => absurd rfl h) (fun _ _ => rfl) h5⟩
/-- the content of a known block that has no cells, or is nowhere -/
theorem blk_any (h : Rep X I ρ ow s a.tmps w) {hd : Nat} {k : Bk} {c : V} (hh : s.h hd = some ⟨k, c⟩) (hk : k ≠ .dead) : ∃ q g, CRep I w ow c ρ q 0 g := by
  obtain ⟨l, h1, h2⟩ := h.heap _ _ hh
  cases k with
  | dead => exact absurd rfl hk
  | own =>
    rcases h2 with ⟨h3, _, h4⟩ | ⟨k', off', sz2, cur, h3, _, h6, h4, h5⟩
    · exact ⟨_, _, h4⟩
    · exact ⟨_, _, h5⟩
  | bor =>
    rcases h2 with ⟨h3, _, h4⟩ | ⟨k', off', sz2, h3, _, _, h4, h5⟩
    · exact ⟨_, _, h4⟩
    · exact ⟨_, _, h5⟩
  | imm =>
    rcases h2 with ⟨h3, _, h4⟩ | ⟨k', off', sz2, h3, _, h4, h5⟩
    · exact ⟨[], _, CRep.mono (fun b hb => ⟨hb, rfl⟩) _ _ _ _ _ _ _ (noR_le ρ) (fun h => absurd rfl h) (fun _ _ => rfl) h4⟩
    · exact ⟨[], _, CRep.mono (fun b hb => ⟨hb, rfl⟩) _ _ _ _ _ _ _ (noR_le ρ) (fun h => absurd rfl h) (fun _ _ => rfl) h5⟩
/-- what a slice value reads as -/
structure SlRep (I : Nat → Prop) (w : World) (e n : Nat) (c : V) (x : Value) : Prop where
  ex : ∃ ad cp, x = .slice ad n cp ∧ n ≤ cp ∧ cp ≤ maxLen ∧ (cp = 0 ∨ ∃ b off, ad = some ⟨b, off, none⟩) ∧ CRep I w (fun _ => none) c noR [] 0 (behind w ad)
  row : isRow e n c
theorem empty_row (k : EK) (x : Value) (hx : ∃ a, x = .slice a 0 0) : SlRep I w k.size 0 (match k with | .i k => .ints k 0 [] | .o e z => .rows e 0 (fun _ => z.val)) x := by
  obtain ⟨ad, rfl⟩ := hx
  cases k with
  | i k => exact ⟨⟨ad, 0, rfl, by omega, by simp, .inl rfl, rfl, by simp, by intro j hj; omega⟩, rfl, rfl⟩
  | o e z => exact ⟨⟨ad, 0, rfl, by omega, by simp, .inl rfl, by intro j hj; omega⟩, rfl, rfl⟩
theorem sliceC_rep (h : Rep X I ρ ow s a.tmps w) {k : EK} {v : V} {x : Value} {r : Nat × V} (hr : (sliceC apf s.h k v).to r) (hv : VRep I w ρ v x) : SlRep I w k.size r.1 r.2 x := by
  unfold sliceC at hr
  split at hr
  · rename_i hd p i n e cap
    split at hr
    · exact hr.elim
    · rename_i kk c hnd hh
      obtain ⟨c', hat, hr⟩ := bind_to hr
      obtain ⟨h1, hle, hr⟩ := rif_to hr
      obtain ⟨c2, hsub, hr⟩ := bind_to hr
      cases hr
      simp only [Bool.and_eq_true, beq_iff_eq] at h1
      obtain ⟨h1, h2⟩ := h1
      have hle : i + n ≤ c'.cnt := hle
      have hrow := isRow_cnt hsub
      obtain ⟨ad, cp, l, h3, h4, h5, h6, _, h7⟩ := vr_sl hv
      by_cases hn : n = 0
      · obtain ⟨q, g, hg⟩ := blk_any h hh (fun e => hnd e)
        obtain ⟨h8, _⟩ := at_rep _ _ hat hg
        obtain ⟨h9, h10⟩ := subs_rep hsub hrow hle h8
        rw [h1, h2] at h9
        have hs0 : c2.size = 0 := by rw [isRow_size h9, hn]; simp
        exact ⟨⟨ad, cp, h3, h5, h6, h7.imp id (fun ⟨b, off, sz, _, ha, _⟩ => ⟨b, _, ha⟩), crep_empty hs0 h10⟩, h9⟩
      · obtain ⟨b, off, sz', rfl, rfl, h8⟩ := h7.resolve_left (by omega)
        obtain ⟨q, hg⟩ := blk_cells h hh h4 (fun e => hnd e)
        obtain ⟨h9, _⟩ := at_rep _ _ hat hg
        obtain ⟨h10, h11⟩ := subs_rep hsub hrow hle h9
        rw [h1, h2] at h10
        refine ⟨⟨_, cp, h3, h5, h6, .inr ⟨b, _, rfl⟩, ?_⟩, h10⟩
        have e1 : behind w (some ⟨b, off + (poff p + i * e), none⟩) = fun j => cellsAt w b off (poff p + (i * c'.rowE + j)) := by
          funext j
          simp only [behind, cellsAt, h1]
          congr 2
          omega
        rw [e1]
        exact h11.noow
    · exact hr.elim
  · rename_i n e c
    obtain ⟨h1, hr⟩ := rif_to hr
    cases hr
    have h1 : e = k.size := by simpa using h1
    subst h1
    obtain ⟨ad, cp, h3, h4, h5, h6, h7, h8⟩ := vr_dsl hv
    exact ⟨⟨ad, cp, h3, h4, h5, h8.imp id fun ⟨b, off, h, _⟩ => ⟨b, off, h⟩, h7⟩, h6⟩
  · cases hr; exact empty_row k x ⟨_, vr_nsl hv⟩
  · cases hr; exact empty_row k x (vr_zsl hv)
  · exact hr.elim
/-- where a slice's row lies: in a block of ours under the slice's own handle, or in a block of nobody's -/
theorem sliceC_place (h : Rep X I ρ ow s a.tmps w) {k : EK} {v : V} {x : Value} {r : Nat × V} (hr : (sliceC apf s.h k v).to r) (hv : VRep I w ρ v x) {b off n cp : Nat} (hx : x = .slice (some ⟨b, off, none⟩) n cp) (hcp : cp ≠ 0) :
    b < w.heap.size ∧ ∀ q, ow b = some q → ∃ hd p i n e cap, v = .sl hd p i n e cap ∧ q = [hd] := by
  unfold sliceC at hr
  split at hr
  · rename_i hd p i n' e cap
    split at hr
    · exact hr.elim
    · rename_i kk c hnd hh
      obtain ⟨ad, cp', l, h3, h4, h5, h6, _, h7⟩ := vr_sl hv
      rw [hx] at h3
      cases h3
      obtain ⟨b', off', sz', rfl, h8, h9⟩ := h7.resolve_left hcp
      cases h8
      obtain ⟨l, g1, g2⟩ := h.heap _ _ hh
      rw [h4] at g1
      cases g1
      cases kk with
      | own =>
        rcases g2 with ⟨g3, _⟩ | ⟨k', off2, sz2, cur, g3, g4, g5, _⟩
        · cases g3
        · cases g3
          exact ⟨g5.lt, fun q hq => ⟨_, _, _, _, _, _, rfl, by rw [g4] at hq; cases hq; rfl⟩⟩
      | bor =>
        rcases g2 with ⟨g3, _⟩ | ⟨k', off2, sz2, g3, g4, g5, _⟩
        · cases g3
        · cases g3
          exact ⟨g4, fun q hq => by rw [g5] at hq; cases hq⟩
      | imm =>
        rcases g2 with ⟨g3, _⟩ | ⟨k', off2, sz2, g3, g4, _⟩
        · cases g3
        · cases g3
          exact ⟨h.ilt _ g4, fun q hq => by rw [h.iow _ g4] at hq; cases hq⟩
      | dead => exact (hnd rfl).elim
    · exact hr.elim
  · rename_i n' e c
    obtain ⟨ad, cp', h3, h4, h5, h6, h7, h8⟩ := vr_dsl hv
    rw [hx] at h3
    cases h3
    obtain ⟨b', off', h9, h10⟩ := h8.resolve_left hcp
    cases h9
    exact ⟨h.ilt _ h10, fun q hq => by rw [h.iow _ h10] at hq; cases hq⟩
  · have := vr_nsl hv
    rw [hx] at this; cases this
  · obtain ⟨ad, this⟩ := vr_zsl hv
    rw [hx] at this; cases this; exact absurd rfl hcp
  · exact hr.elim
theorem foldl_push (l : List Int) : ∀ (s : ByteArray), l.foldl (fun r n => r.push (UInt8.ofNat n.toNat)) s = ⟨s.data ++ (l.map fun n => UInt8.ofNat n.toNat).toArray⟩ := by
  induction l with
  | nil => intro s; simp
  | cons n l ih =>
    intro s
    rw [List.foldl_cons, ih]
    apply ByteArray.ext
    show (s.data.push _) ++ _ = s.data ++ _
    apply Array.ext'
    simp
theorem ints_list {n : Nat} {k : IntKind} {l : List Int} {g : Nat → Option Value} (h : ∀ j, j < n → g j = some (.int k (nthI l j))) (hl : l.length = n) : ∀ j v, (l.map (Value.int k))[j]? = some v → g j = some v := by
  intro j v hv
  rw [List.getElem?_map] at hv
  cases hj : l[j]? with
  | none => simp [hj] at hv
  | some y =>
    obtain ⟨hlt, rfl⟩ := List.getElem?_eq_some_iff.1 hj
    rw [h j (by omega)]
    simp only [hj, Option.map_some] at hv
    rw [← hv]
    simp [nthI, List.getD_eq_getElem?_getD, hlt]
theorem step_b2s (h : Rep X I ρ ow s a.tmps w) (hd : dstOk X o) {t u el : TypeId} {x : Operand} {ix : IX} (ho : o.op = .convert t u x) (ht : P.underlying t = some (.slice el)) (hu : P.underlying u = some .string) (hel : P.underlying el = some (.int .u8))
    (hx : opIX x = some ix) {e : Eff} {E : List (Nat × Ctr)} (he : (stepR apf E s.t s.h o.dst (.b2s ix)).to e) : StepOk P X o a w s e := by
  have hv := ev_rep h hx
  simp only [stepR] at he
  obtain ⟨⟨n, c⟩, hc, he⟩ := bind_to he
  obtain ⟨⟨ad, cp, h1, h2, h3, h4, h5⟩, hrow⟩ := sliceC_rep h hc hv
  simp only at he
  split at he
  · rename_i n' l
    cases he
    obtain ⟨rfl, _⟩ := hrow
    obtain ⟨h6, h7, h8⟩ := h5
    refine stepVal h hd (x := .string (toBA l)) ?_ (str_vr (by simp only at h6 h2; omega) h7)
    have key : (Conv.bytesToString (a.eval x)).run P w = .ok (.string (toBA l)) w := by
      rw [h1]
      cases ad with
      | none =>
        have h0 : l = [] := by
          rcases h4 with h4 | ⟨_, _, h4⟩
          · exact List.eq_nil_of_length_eq_zero (by omega)
          · cases h4
        subst h0
        simp [Conv.bytesToString, toBA]
        rfl
      | some ad =>
        by_cases hn : n' = 0
        · have h0 : l = [] := List.eq_nil_of_length_eq_zero (by omega)
          subst h0
          subst hn
          rw [run_bytesToString w ad 0 cp [] (by simp [loadCells, loadCellsFrom])]
          simp [toBA]
          rfl
        · obtain ⟨b, off, h9⟩ := h4.resolve_left (by omega)
          cases h9
          have hl := run_loadCells_list (P := P) w ⟨b, off, none⟩ (l.map (Value.int .u8)) (fun j v hv => by
            rw [Addr.add_lit]
            exact ints_list h8 h6 j v hv)
          rw [List.length_map, h6] at hl
          rw [run_bytesToString w _ n' cp l hl, foldl_push]
          simp [toBA, ByteArray.empty, ByteArray.emptyWithCapacity]
          rfl
    have hconv : (convert t u (a.eval x)).run P w = .ok (.string (toBA l)) w := by
      rw [h1] at key ⊢
      rw [run_convert_bytes_string (P := P) w t u el ad _ cp ht hel hu]
      exact key
    simp [execOp, ho, hconv]
  · exact he.elim
/-- loading content as a value -/
theorem load_run {t : TypeId} {d : TypeDesc} (ht : P.underlying t = some d) (hz : sz P t ≠ 0) {b off : Nat} {v u : V} {q : List Nat} {pos : Nat} {ow : Own} (hc : CRep I w ow v ρ q pos (cellsAt w b off)) (hno : v.noown = true) (hs : v.size = sz P t)
    (hw : (wrapV (aggT P t) v).to u) : ∃ x, (loadVar t ⟨b, off, none⟩).run P w = .ok x w ∧ VRep I w ρ u x := by
  have hcell : ∀ j, j < v.size → ∃ y, cellsAt w b off j = some y := fun j hj => by
    obtain ⟨y, hy, _⟩ := CRep.cells v _ _ _ _ hc j hj
    exact ⟨y, hy⟩
  let f : Nat → Value := fun j => (cellsAt w b off j).getD undef
  have hf : ∀ j, j < v.size → cellsAt w b off j = some (f j) := fun j hj => by
    obtain ⟨y, hy⟩ := hcell j hj
    simp [f, hy]
  have hread := content_vr hw hno hc ((List.range v.size).map f) (by simp) (fun j hj => by rw [hf j hj]; simp [hj])
  cases hagg : aggT P t with
  | true =>
    refine ⟨.agg ((List.range v.size).map f).toArray, ?_, hread.1 hagg⟩
    have := run_loadCells (P := P) w ⟨b, off, none⟩ v.size f (fun j hj => by rw [Addr.add_lit]; exact hf j hj)
    rw [hs] at this ⊢
    simp [loadVar, isAgg_run ht, hagg, sizeOf_run hz, this]
  | false =>
    have h1 : v.size = 1 := by
      rcases wrapV_to hw with ⟨h1, _⟩ | ⟨h1, _⟩ | ⟨_, h2, rfl, _⟩
      · rw [hagg] at h1; cases h1
      · rw [hagg] at h1; cases h1
      · cases u <;> first | rfl | cases h2
    refine ⟨f 0, ?_, hread.2 hagg _ (by rw [h1]; rfl)⟩
    have := hf 0 (by omega)
    simp only [cellsAt, Nat.add_zero] at this
    simp [loadVar, isAgg_run ht, hagg, this]
theorem step_ld (h : Rep X I ρ ow s a.tmps w) (hd : dstOk X o) {t : TypeId} {d : TypeDesc} {x : Operand} {ix : IX} (ho : o.op = .load t x) (ht : P.underlying t = some d) (hz : sz P t ≠ 0)
    (hx : opIX x = some ix) {e : Eff} {E : List (Nat × Ctr)} (he : (stepR apf E s.t s.h o.dst (.ld (sz P t) (aggT P t) ix)).to e) : StepOk P X o a w s e := by
  have hv := ev_rep h hx
  simp only [stepR] at he
  have fin : ∀ (b off : Nat) (v u : V) (q : List Nat) (pos : Nat) (ow : Own), a.eval x = .pointer (some ⟨b, off, none⟩) → CRep I w ow v ρ q pos (cellsAt w b off) → v.size = sz P t → v.noown = true → (wrapV (aggT P t) v).to u → StepOk P X o a w s (noEff u) := by
    intro b off v u q pos ow hp hc hs hno hw
    obtain ⟨y, hy, hvy⟩ := load_run (P := P) ht hz hc hno hs hw
    exact stepVal h hd (by simp [execOp, ho, hp, Instr.loadAt, Instr.sureAddr, hy]) hvy
  split at he
  · rename_i hh p e1
    rw [e1] at hv
    obtain ⟨b, off, sz', h1, h2⟩ := vr_ptr hv
    split at he
    · exact he.elim
    · rename_i kk c hnd hh2
      obtain ⟨v, hat, he⟩ := bind_to he
      obtain ⟨hs, he⟩ := rif_to he
      simp only [Bool.and_eq_true, beq_iff_eq] at hs
      obtain ⟨hs, hno⟩ := hs
      obtain ⟨u, hu, he⟩ := bind_to he
      cases he
      obtain ⟨q, hg⟩ := blk_cells h hh2 h1 (fun e => hnd e)
      obtain ⟨h9, _⟩ := at_rep _ _ hat hg
      refine fin b (off + poff p) v u q (0 + poff p) ow h2 ?_ hs hno hu
      have e2 : cellsAt w b (off + poff p) = fun j => cellsAt w b off (poff p + j) := by funext j; simp [cellsAt, Nat.add_assoc]
      rw [e2]; exact h9
    · exact he.elim
  · rename_i c p e1
    rw [e1] at hv
    obtain ⟨b, off, hI, h2, h3⟩ := vr_dptr hv
    obtain ⟨v, hat, he⟩ := bind_to he
    obtain ⟨hs, he⟩ := rif_to he
    simp only [Bool.and_eq_true, beq_iff_eq] at hs
    obtain ⟨hs, hno⟩ := hs
    obtain ⟨u, hu, he⟩ := bind_to he
    cases he
    have h3' : CRep I w (fun _ => none) c ρ [] 0 (cellsAt w b off) := CRep.mono (fun b hb => ⟨hb, rfl⟩) _ _ _ _ _ _ _ (noR_le ρ) (fun h => absurd rfl h) (fun _ _ => rfl) h3
    obtain ⟨h9, _⟩ := at_rep _ _ hat h3'
    refine fin b (off + poff p) v u [] (0 + poff p) (fun _ => none) h2 ?_ hs hno hu
    have e2 : cellsAt w b (off + poff p) = fun j => cellsAt w b off (poff p + j) := by funext j; simp [cellsAt, Nat.add_assoc]
    rw [e2]; exact h9
  · exact he.elim
end
end Go.Cx
/- CxOp8 -/
namespace Go.Cx
open Go
section
variable {P : Program} {pure : Nat → Bool} {X : Fix} {I : Nat → Prop} {ρ : Rho} {ow : Own} {s : St} {a : Act} {w : World} {o : Oper}
theorem OwnBlk.unfrozen {b j : Nat} {cur : Array Value} (h : OwnBlk w b cur) (hj : j < cur.size) : w.frozen? ⟨b, j, none⟩ = false := by
  obtain ⟨ty, ⟨lo, hi⟩, h1, h2⟩ := h
  simp only [World.frozen?, h1]
  simp only at h2
  rcases h2 with rfl | h2
  · by_cases h3 : lo ≤ j <;> simp [h3]
  · have : ¬ lo ≤ j := by omega
    simp [this]
theorem run_store1 {b j : Nat} {cur : Array Value} (h : OwnBlk w b cur) (hj : j < cur.size) {v : Value} (hv : v.oneCell' = true) :
    ∃ w', (store ⟨b, j, none⟩ v).run P w = .ok () w' ∧ Only w w' (some b) ∧ w'.heap.size = w.heap.size ∧ OwnBlk w' b (cur.setIfInBounds j v) := by
  refine ⟨w.setCell ⟨b, j, none⟩ v, ?_, ⟨rfl, rfl, rfl, by simp, fun k _ hk => ?_⟩, by simp, ?_⟩
  · have hf := h.unfrozen hj
    obtain ⟨ty, fr, h1, _⟩ := h
    rw [run_store P w _ v _ hv, cell_of_row w b j cur ty fr h1]
    simp [hj, hf]
  · simp only [World.setCell, Array.getElem?_modify]
    rw [if_neg (fun e => hk (by rw [← e]))]
  · obtain ⟨ty, fr, h1, h2⟩ := h
    refine ⟨ty, fr, ?_, by simpa using h2⟩
    rw [setCell_eq_setRow w b j cur ty fr v h1]
    exact setRow_heap w b cur _ ty fr h1
theorem run_storeN {b off : Nat} : ∀ (xs : List Value) (i : Nat) (cur : Array Value) (w : World), OwnBlk w b cur → off + i + xs.length ≤ cur.size → (∀ v ∈ xs, v.oneCell' = true) →
    ∃ w' cur', (storeCells ⟨b, off, none⟩ xs i).run P w = .ok () w' ∧ Only w w' (some b) ∧ w'.heap.size = w.heap.size ∧ OwnBlk w' b cur' ∧ cur'.size = cur.size ∧
      ∀ j, cur'[j]? = if off + i ≤ j ∧ j < off + i + xs.length then xs[j - (off + i)]? else cur[j]? := by
  intro xs
  induction xs with
  | nil =>
    intro i cur w h _ _
    refine ⟨w, cur, rfl, Only.refl _ _, rfl, h, rfl, fun j => ?_⟩
    rw [if_neg (by simp)]
  | cons v xs ih =>
    intro i cur w h hle hall
    simp only [List.length_cons] at hle
    obtain ⟨w1, h1, h2, h3, h4⟩ := run_store1 (P := P) h (j := off + i) (by omega) (hall v (by simp))
    obtain ⟨w2, cur2, h5, h6, h7, h8, h9, h10⟩ := ih (i + 1) _ w1 h4 (by simp; omega) (fun u hu => hall u (by simp [hu]))
    refine ⟨w2, cur2, ?_, h2.trans h6, by omega, h8, by simpa using h9, fun j => ?_⟩
    · simp only [storeCells, Sem.run_bind, Addr.add_lit, h1, Result.andThen_ok, h5]
    · rw [h10 j]
      simp only [List.length_cons]
      by_cases hj : j = off + i
      · subst hj
        rw [if_neg (by omega), if_pos (by omega)]
        simp [show off + i < cur.size by omega]
      · by_cases hj2 : off + (i + 1) ≤ j ∧ j < off + (i + 1) + xs.length
        · rw [if_pos hj2, if_pos (by omega), show j - (off + i) = j - (off + (i + 1)) + 1 by omega]
          simp
        · rw [if_neg hj2, if_neg (by omega), Array.getElem?_setIfInBounds_ne (fun e => hj e.symm)]
theorem crep_ok1 {v : V} {g : Nat → Option Value} {ow : Own} {q : List Nat} {pos : Nat} (h : CRep I w ow v ρ q pos g) : ∀ k n, v = .int k n ∨ v = .lit k n → g 0 = some (.int k n) ∧ inR k n := by
  rintro k n (rfl | rfl)
  · exact h
  · exact h
/-- an own block that has a place -/
theorem own_at (h : Rep X I ρ ow s a.tmps w) {hd b off sz' : Nat} {c : V} (hh : s.h hd = some ⟨.own, c⟩) (hl : ρ hd = some (.at b off sz')) :
    ∃ cur, ow b = some [hd] ∧ OwnBlk w b cur ∧ cur.size = off + sz' ∧ CRep I w ow c ρ [hd] 0 (fun j => cur[off + j]?) := by
  obtain ⟨l, h1, h2⟩ := h.heap _ _ hh
  rw [hl] at h1
  cases h1
  rcases h2 with ⟨h3, _⟩ | ⟨k', off', sz2, cur, h3, h4, h5, h6, h7⟩
  · cases h3
  · cases h3
    exact ⟨cur, h4, h5, h6, h7⟩
theorem own_size {off sz' : Nat} {cur : Array Value} {c : V} {q : List Nat} (hs : cur.size = off + sz') (hc : CRep I w ow c ρ q 0 (fun j => cur[off + j]?)) : c.size ≤ sz' := by
  rcases Nat.lt_or_ge sz' c.size with h8 | h8
  · obtain ⟨y, hy, _⟩ := CRep.cells c _ _ _ _ hc sz' h8
    rw [Array.getElem?_eq_none (by omega)] at hy
    cases hy
  · exact h8
/-- a value is laid into an own block -/
theorem store_own (h : Rep X I ρ ow s a.tmps w) {hd b off sz' : Nat} {c c' v : V} {p : List Pt} {xs : List Value} (hh : s.h hd = some ⟨.own, c⟩) (hl : ρ hd = some (.at b off sz')) (hput : (c.put apf p v).to c') (hv : CRep I w (fun _ => none) v ρ [] 0 (xs[·]?)) (hxs : xs.length = v.size) :
    ∃ w', (storeCells ⟨b, off + poff p, none⟩ xs).run P w = .ok () w' ∧ Rep X I ρ ow ⟨s.t, upd s.h hd (some ⟨.own, c'⟩)⟩ a.tmps w' := by
  obtain ⟨cur, h1, h2, h3, h4⟩ := own_at h hh hl
  have hno := crep_noown hv
  have hv' : CRep I w ow v ρ [hd] (0 + poff p) (xs[·]?) := CRep.noq v _ _ _ _ _ _ hno (hv.noow (ow' := ow))
  obtain ⟨h5, h6, h7⟩ := put_rep p c hput h4 hv' (crep_ok1 hv)
  have h8 := own_size h3 h4
  have hone : ∀ u ∈ xs, u.oneCell' = true := by
    intro u hu
    obtain ⟨j, hj, rfl⟩ := List.mem_iff_getElem.1 hu
    obtain ⟨y, hy, ho⟩ := CRep.cells v _ _ _ _ hv j (by omega)
    rw [List.getElem?_eq_getElem hj] at hy
    cases hy
    exact ho
  obtain ⟨w', cur', h9, h10, h11, h12, h13, h14⟩ := run_storeN (P := P) xs 0 cur w h2 (off := off + poff p) (by omega) hone
  refine ⟨w', h9, h.write hh hl h1 h10 h11 h12 (by omega) ?_ (rfl : cur.size = cur.size)⟩
  refine CRep.mono (fun b hb => ⟨hb, rfl⟩) _ _ _ _ _ _ _ (Rho.le_refl _) (fun _ _ _ _ h => ⟨h, rfl⟩) (fun j hj => ?_) h5
  rw [h14 (off + j)]
  simp only [lay]
  by_cases hj2 : poff p ≤ j ∧ j < poff p + v.size
  · rw [if_pos hj2, if_pos (by omega)]
    congr 1
    omega
  · rw [if_neg hj2, if_neg (by omega)]
theorem step_st (h : Rep X I ρ ow s a.tmps w) {t : TypeId} {x y : Operand} {ix iy : IX} (ho : o.op = .store t x y) (hdst : o.dst = none) (hz : sz P t ≠ 0)
    (hx : opIX x = some ix) (hy : opIX y = some iy) {e : Eff} {E : List (Nat × Ctr)} (he : (stepR apf E s.t s.h o.dst (.st (sz P t) ix iy)).to e) : StepOk P X o a w s e := by
  have hv := ev_rep h hx
  have hvy := ev_rep h hy
  simp only [stepR] at he
  split at he
  · rename_i hh p e1
    rw [e1] at hv
    obtain ⟨b, off, sz', h1, h2⟩ := vr_ptr hv
    split at he
    · rename_i c hh2
      obtain ⟨hf, he⟩ := rif_to he
      simp only [Bool.and_eq_true, beq_iff_eq] at hf
      obtain ⟨hf, hs⟩ := hf
      obtain ⟨c', hput, he⟩ := bind_to he
      cases he
      obtain ⟨h3, h4, _⟩ := vr_full hvy hf
      obtain ⟨w', h5, h6⟩ := store_own (P := P) h hh2 h1 hput (xs := (a.eval y).cells.toList) (by simpa using h4) (by simpa using h3)
      refine .inr (.inl ⟨w', ?_, I, ρ, ow, ?_⟩)
      · have hsz : (a.eval y).cells.size = sz P t := by omega
        simp [execOp, ho, h2, Instr.storeAt, Instr.sureAddr, storeVar, sizeOf_run hz, hsz, h5]
      · rw [hdst]
        exact h6
    · exact he.elim
  · exact he.elim
theorem fresh_to {h : Nat → Option Blk} {d : Option Nat} {k : Nat → R Eff} {e : Eff} (he : (fresh h d k).to e) : ∃ n, d = some n ∧ h n = none ∧ (k n).to e := by
  unfold fresh at he
  split at he
  · rename_i n
    split at he
    · exact ⟨n, rfl, by assumption, he⟩
    · exact he.elim
  · exact he.elim
/-- the state behind a new block, its pointer or slice in the slot -/
theorem stepNew (h : Rep X I ρ ow s a.tmps w) (hd : dstOk X o) {d : Nat} (hdst : o.dst = some d) (hn : s.h d = none) {w1 : World} (ho : Only w w1 none) {cs : Array Value} {ty : TypeId} {fr : Nat × Nat} (hfr : fr.1 = fr.2 ∨ cs.size ≤ fr.1)
    {c v : V} {x : Value} (hno : c.noown = true) (hc : CRep I w ow c ρ [] 0 (fun j => cs[j]?)) (hrun : (execOp a.eval o).run P w = .ok (.value x) (w1.alloc (.cells cs ty fr)))
    (hv : ∀ I w ρ, ρ d = some (.at w1.heap.size 0 cs.size) → VRep I w ρ v x) : StepOk P X o a w s ⟨v, [(d, ⟨.own, c⟩)]⟩ := by
  have hlt : d < X.N := hd d hdst
  have hnle := h.nle
  obtain ⟨ρ', ow', h1, h2, h3⟩ := h.new hn (by omega) ho (ty := ty) hfr hno hc
  refine .inl ⟨x, _, hrun, I, ρ', ow', ?_⟩
  have := h3.setT hlt (hv I _ ρ' h2)
  rw [hdst]
  exact this
theorem ptr_new {d b n : Nat} {I : Nat → Prop} {w : World} {ρ : Rho} (h : ρ d = some (.at b 0 n)) : VRep I w ρ (.ptr d []) (.pointer (some ⟨b, 0, none⟩)) := by
  have := ptr_vr (I := I) (w := w) (p := []) h
  simpa [poff] using this
theorem sl_new {d b n e c m : Nat} {cap : Option Nat} {I : Nat → Prop} {w : World} {ρ : Rho} (h : ρ d = some (.at b 0 m)) (h1 : n ≤ c) (h2 : c ≤ maxLen) (h3 : c * e ≤ m) (hc : capOk cap c) : VRep I w ρ (.sl d [] 0 n e cap) (.slice (some ⟨b, 0, none⟩) n c) :=
  leaf_vr rfl rfl rfl ⟨_, c, _, rfl, h, h1, h2, hc, .inr ⟨b, 0, m, rfl, by simp [poff], by simp [poff]; exact h3⟩⟩
theorem eqCell_eq {a b : Value} (h : eqCell a b = true) : a = b := by
  unfold eqCell at h
  split at h
  · simpa using h
  · simp only [Bool.and_eq_true, beq_iff_eq] at h; rw [h.1, h.2]
  · rename_i a b
    simp only [beq_iff_eq] at h
    congr 1
    exact ByteArray.ext h
  · rfl
  · rfl
  · cases h
theorem eqCells_eq : ∀ {l m : List Value}, eqCells l m = true → l = m
  | [], [], _ => rfl
  | a :: l, b :: m, h => by
    simp only [eqCells, Bool.and_eq_true] at h
    rw [eqCell_eq h.1, eqCells_eq h.2]
  | [], _ :: _, h => by simp [eqCells] at h
  | _ :: _, [], h => by simp [eqCells] at h
theorem flatten_get {e : Nat} {l : List Value} (hl : l.length = e) : ∀ (n j r : Nat), j < n → r < e → ((List.replicate n l).flatten)[j * e + r]? = l[r]? := by
  intro n
  induction n with
  | zero => intro j r hj; omega
  | succ n ih =>
    intro j r hj hr
    simp only [List.replicate_succ, List.flatten_cons]
    cases j with
    | zero =>
      simp only [Nat.zero_mul, Nat.zero_add]
      rw [List.getElem?_append_left (by omega)]
    | succ j =>
      rw [List.getElem?_append_right (by rw [hl, Nat.add_mul]; omega), show (j + 1) * e + r - l.length = j * e + r by rw [hl, Nat.add_mul]; omega]
      exact ih j r (by omega) hr
theorem zt_rep (z : ZT) (h : z.good = true) : z.val.size = z.cells.length ∧ z.val.noown = true ∧ CRep I w ow z.val ρ [] 0 (z.cells[·]?) := by
  induction z generalizing ρ with
  | v x =>
    cases x with
    | ff => exact ⟨rfl, rfl, rfl⟩
    | nilp => exact ⟨rfl, rfl, rfl⟩
    | nsl => exact ⟨rfl, rfl, rfl⟩
    | lit k n =>
      have h : n = 0 := by simpa [ZT.good] using h
      subst h
      exact ⟨rfl, rfl, rfl, inR_zero k⟩
    | str l =>
      cases l with
      | nil => exact ⟨rfl, rfl, rfl, by simp, by simp⟩
      | cons => exact absurd h (by simp [ZT.good])
    | _ => exact absurd h (by simp [ZT.good])
  | ints k n =>
    refine ⟨by simp [ZT.val, ZT.cells, V.size], rfl, by simp, ?_, ?_⟩
    · intro y hy
      have := List.eq_of_mem_replicate hy
      subst this
      exact inR_zero k
    · intro j hj
      simp [ZT.cells, hj, nthI, List.getD_eq_getElem?_getD]
  | cat n m a b iha ihb =>
    simp only [ZT.good, Bool.and_eq_true, beq_iff_eq] at h
    obtain ⟨⟨⟨h1, h2⟩, h3⟩, h4⟩ := h
    obtain ⟨a1, a2, a3⟩ := iha (ρ := ρ) h1
    obtain ⟨b1, b2, b3⟩ := ihb (ρ := ρ) h2
    refine ⟨by simp [ZT.val, ZT.cells, V.size, h3, h4], by simp [ZT.val, V.noown, a2, b2], by omega, by omega, ?_, ?_⟩
    · refine CRep.mono (fun b hb => ⟨hb, rfl⟩) _ _ _ _ _ _ _ (Rho.le_refl _) (fun h => absurd rfl h) (fun j hj => ?_) a3
      simp only [ZT.cells]
      rw [List.getElem?_append_left (by omega)]
    · have : CRep I w ow b.val ρ [] 0 (fun j => (ZT.cat n m a b).cells[n + j]?) := by
        refine CRep.mono (fun b hb => ⟨hb, rfl⟩) _ _ _ _ _ _ _ (Rho.le_refl _) (fun h => absurd rfl h) (fun j hj => ?_) b3
        simp only [ZT.cells]
        rw [List.getElem?_append_right (by omega)]
        congr 1; omega
      exact this.anyq _ _ _ _ _ _
  | rows e n z ih =>
    simp only [ZT.good, Bool.and_eq_true, beq_iff_eq] at h
    obtain ⟨h1, h2⟩ := h
    obtain ⟨a1, a2, a3⟩ := ih (ρ := noR) h1
    refine ⟨by simp [ZT.val, ZT.cells, V.size, h2], rfl, fun j hj => ⟨(by show z.val.size = e; omega), ?_⟩⟩
    refine CRep.mono (fun b hb => ⟨hb, rfl⟩) _ _ _ _ _ _ _ (Rho.le_refl _) (fun h => absurd rfl h) (fun r hr => ?_) a3
    simp only [ZT.cells]
    have hr' : r < z.val.size := hr
    exact flatten_get h2 n j r hj (by omega)
theorem zOk_spec {t : TypeId} {z : ZT} (h : zOk P t z = true) : ∃ i v, P.info? t = some i ∧ i.zero = some v ∧ v.cells.toList = z.cells ∧ z.good = true ∧ i.size = z.cells.length ∧ 0 < i.size := by
  unfold zOk at h
  split at h
  · rename_i i hi
    split at h
    · rename_i v hv
      simp only [Bool.and_eq_true, beq_iff_eq, decide_eq_true_eq] at h
      exact ⟨i, v, hi, hv, eqCells_eq h.1.1.1, h.1.1.2, h.1.2, h.2⟩
    · cases h
  · cases h
theorem step_alloc (h : Rep X I ρ ow s a.tmps w) (hd : dstOk X o) {t : TypeId} {z : ZT} (ho : o.op = .alloc t) (hz : zOk P t z = true) {e : Eff} {E : List (Nat × Ctr)}
    (he : (stepR apf E s.t s.h o.dst (.alloc z)).to e) : StepOk P X o a w s e := by
  simp only [stepR, valA_apf] at he
  obtain ⟨d, hdst, hn, he⟩ := fresh_to he
  cases he
  obtain ⟨i, v, h1, h2, h3, h4, h5, h6⟩ := zOk_spec hz
  obtain ⟨z1, z2, z3⟩ := zt_rep (I := I) (w := w) (ow := ow) (ρ := ρ) z h4
  refine stepNew h hd hdst hn (Only.refl w none) (ty := t) (fr := (0, 0)) (.inl rfl) (cs := v.cells) z2 ?_ (x := .pointer (some ⟨w.heap.size, 0, none⟩)) ?_ (fun _ _ _ hρ => ptr_new hρ)
  · rw [← h3] at z3
    simpa using z3
  · simp [execOp, ho, Instr.alloc, zeroValue, typeInfo, h1, h2, newVar, newRow]
theorem step_box (h : Rep X I ρ ow s a.tmps w) (hd : dstOk X o) {t : TypeId} {x : Operand} {ix : IX} (ho : o.op = .box t x) (hx : opIX x = some ix) {e : Eff} {E : List (Nat × Ctr)}
    (he : (stepR apf E s.t s.h o.dst (.box ix)).to e) : StepOk P X o a w s e := by
  simp only [stepR] at he
  obtain ⟨d, hdst, hn, he⟩ := fresh_to he
  obtain ⟨hf, he⟩ := rif_to he
  cases he
  obtain ⟨h1, h2, _⟩ := vr_full (ev_rep h hx) hf
  refine stepNew h hd hdst hn (Only.refl w none) (ty := t) (fr := (0, 0)) (.inl rfl) (cs := (a.eval x).cells) (crep_noown h2) (h2.noow (ow' := ow)) (x := .pointer (some ⟨w.heap.size, 0, none⟩)) ?_ (fun _ _ _ hρ => ptr_new hρ)
  simp [execOp, ho, Instr.box, newVar, newRow]
end
end Go.Cx
/- CxOp9 -/
namespace Go.Cx
open Go
section
variable {P : Program} {pure : Nat → Bool} {X : Fix} {I : Nat → Prop} {ρ : Rho} {ow : Own} {s : St} {a : Act} {w : World} {o : Oper}
/-- two lists, member by member -/
inductive F2 {α β : Type} (R : α → β → Prop) : List α → List β → Prop
  | nil : F2 R [] []
  | cons {x : α} {y : β} {l : List α} {m : List β} : R x y → F2 R l m → F2 R (x :: l) (y :: m)
theorem fold_set (off : Nat) : ∀ (l : List Value) (i : Nat) (cs : Array Value), off + i + l.length ≤ cs.size →
    ((l.zipIdx i).foldl (fun cs p => cs.setIfInBounds (off + p.2) p.1) cs).size = cs.size ∧
    ∀ k, ((l.zipIdx i).foldl (fun cs p => cs.setIfInBounds (off + p.2) p.1) cs)[k]? = if off + i ≤ k ∧ k < off + i + l.length then l[k - (off + i)]? else cs[k]? := by
  intro l
  induction l with
  | nil => intro i cs _; exact ⟨rfl, fun k => by rw [if_neg (by simp)]; rfl⟩
  | cons v l ih =>
    intro i cs h
    simp only [List.length_cons] at h
    obtain ⟨h1, h2⟩ := ih (i + 1) (cs.setIfInBounds (off + i) v) (by simp; omega)
    simp only [List.zipIdx_cons, List.foldl_cons]
    refine ⟨by simpa using h1, fun k => ?_⟩
    rw [h2 k]
    simp only [List.length_cons]
    by_cases hj : k = off + i
    · subst hj
      rw [if_neg (by omega), if_pos (by omega)]
      simp [show off + i < cs.size by omega]
    · by_cases hj2 : off + (i + 1) ≤ k ∧ k < off + (i + 1) + l.length
      · rw [if_pos hj2, if_pos (by omega), show k - (off + i) = k - (off + (i + 1)) + 1 by omega]
        simp
      · rw [if_neg hj2, if_neg (by omega), Array.getElem?_setIfInBounds_ne (fun e => hj e.symm)]
/-- what 'fill' does with its first part -/
theorem fill_cons {place : Nat → Option (Nat × Nat)} {cs : Array Value} {i off n : Nat} {v : Value} {rest : List (Nat × Value)} (hp : place i = some (off, n)) (hv : v.cells.size = n) (hle : off + n ≤ cs.size) :
    ∃ cs', cs'.size = cs.size ∧ (∀ k, cs'[k]? = lay (cs[·]?) off n (v.cells[·]?) k) ∧ Instr.fill place cs ((i, v) :: rest) = Instr.fill place cs' rest := by
  obtain ⟨h1, h2⟩ := fold_set off v.cells.toList 0 cs (by simp; omega)
  refine ⟨(v.cells.toList.zipIdx 0).foldl (fun cs p => cs.setIfInBounds (off + p.2) p.1) cs, h1, fun k => ?_, ?_⟩
  · rw [h2 k]
    simp only [lay, Nat.add_zero, Array.length_toList, hv]
    split <;> simp
  · simp only [Instr.fill, hp]
    rw [if_neg (by simp; omega)]
    congr 1
    rw [← Array.foldl_toList, Array.toList_zipIdx]
theorem putParts_fill {place : Nat → Option (Nat × Nat)} : ∀ (ps : List (Nat × Nat × V)) (is : List (Nat × Value)) {z v : V} {cs : Array Value}, (putParts apf z ps).to v → CRep I w (fun _ => none) z ρ [] 0 (cs[·]?) → cs.size = z.size →
    F2 (fun p i => place i.1 = some (p.1, p.2.1) ∧ VRep I w ρ p.2.2 i.2) ps is → ∃ cs', Instr.fill place cs is = some cs' ∧ cs'.size = v.size ∧ CRep I w (fun _ => none) v ρ [] 0 (cs'[·]?) := by
  intro ps
  induction ps with
  | nil =>
    intro is z v cs h hc hs hf
    cases hf
    cases h
    exact ⟨cs, rfl, hs, hc⟩
  | cons p ps ih =>
    intro is z v cs h hc hs hf
    cases hf with
    | cons h1 h2 =>
      rename_i i is
      obtain ⟨o', s', u⟩ := p
      obtain ⟨i, x⟩ := i
      obtain ⟨hp, hv⟩ := h1
      obtain ⟨hf, h⟩ := rif_to h
      obtain ⟨z', hz, h⟩ := bind_to h
      simp only at hp hv hf hz
      obtain ⟨h3, h4, _⟩ := vr_full hv hf
      have hno := crep_noown h4
      obtain ⟨h5, h6, h7⟩ := put_rep [Pt.f o' s'] z (x := (x.cells[·]?)) hz hc (by simpa [poff] using CRep.noq u.unwrap _ _ [] _ (0 + o') _ hno h4) (crep_ok1 h4)
      simp only [poff, Nat.add_zero] at h5 h7
      have hsz : u.unwrap.size = s' := by
        simp only [V.put] at hz
        split at hz
        · rename_i c' hc'
          obtain ⟨c2, h8, _⟩ := bind_to hz
          obtain ⟨h9, _⟩ := rif_to h8
          have := (fld_rep z hc' hc).2.1
          have h9 : c'.size = u.unwrap.size := by simpa using h9
          omega
        · exact hz.elim
      obtain ⟨cs', h8, h9, h10⟩ := fill_cons (rest := is) hp (show x.cells.size = s' by omega) (show o' + s' ≤ cs.size by omega)
      rw [h10]
      refine ih is h ?_ (by omega) h2
      have e : (fun j => cs'[j]?) = lay (cs[·]?) o' u.unwrap.size (x.cells[·]?) := by
        funext k; rw [h9 k, hsz]
      exact e ▸ h5
theorem optL_map {α β : Type} {f : α → Option β} : ∀ {l : List α} {m : List β}, optL (l.map f) = some m → F2 (fun x y => f x = some y) l m
  | [], m, h => by cases h; exact .nil
  | x :: l, m, h => by
    simp only [List.map_cons] at h
    cases hf : f x with
    | none => rw [hf] at h; cases h
    | some y =>
      rw [hf] at h
      simp only [optL] at h
      cases hr : optL (l.map f) with
      | none => rw [hr] at h; cases h
      | some m' =>
        rw [hr] at h
        cases h
        exact .cons hf (optL_map hr)
theorem mapM_places {fs : List Field} (h : fs.all (fun f => (P.info? f.type).isSome) = true) : fs.mapM (fun f : Field => (P.info? f.type).map fun i => (f.offset, i.size)) = some (fs.map fun f : Field => (f.offset, sz P f.type)) := by
  induction fs with
  | nil => rfl
  | cons f fs ih =>
    simp only [List.all_cons, Bool.and_eq_true] at h
    obtain ⟨i, hi⟩ := Option.isSome_iff_exists.1 h.1
    simp [List.mapM_cons, ih h.2, sz, hi]
theorem structs_eval2 (h : Rep X I ρ ow s a.tmps w) {fs : Array Field} {places : List (Nat × Nat)} (hplace : ∀ (j : Nat) (f : Field), fs[j]? = some f → places.toArray[j]? = some (f.offset, sz P f.type)) :
    ∀ {pl : List (Nat × Operand)} {l : List (Nat × Nat × IX)}, optL (pl.map fun p => match fs[p.1]? with | some f => (opIX p.2).map fun x => (f.offset, sz P f.type, x) | none => none) = some l →
    F2 (fun (p : Nat × Nat × V) (i : Nat × Value) => places.toArray[i.1]? = some (p.1, p.2.1) ∧ VRep I w ρ p.2.2 i.2) (l.map fun p => (p.1, p.2.1, ev s.t p.2.2)) (pl.map fun p => (p.1, a.eval p.2)) := by
  intro pl l hl
  have hfa := optL_map hl
  clear hl
  induction hfa with
  | nil => exact .nil
  | cons hxy _ ih =>
    refine .cons ?_ ih
    split at hxy
    · rename_i f hf
      simp only [Option.map_eq_some_iff] at hxy
      obtain ⟨ix, hix, rfl⟩ := hxy
      exact ⟨hplace _ _ hf, ev_rep h hix⟩
    · cases hxy
theorem step_bldS (h : Rep X I ρ ow s a.tmps w) (hd : dstOk X o) {t : TypeId} {fs : Array Field} {ps : Array (Nat × Operand)} {z : ZT} {l : List (Nat × Nat × IX)} (ho : o.op = .build t ps) (ht : P.underlying t = some (.struct fs)) (hz : zOk P t z = true)
    (hfs : fs.toList.all (fun f => (P.info? f.type).isSome) = true)
    (hl : optL (ps.toList.map fun p => match fs[p.1]? with | some f => (opIX p.2).map fun x => (f.offset, sz P f.type, x) | none => none) = some l) {e : Eff} {E : List (Nat × Ctr)}
    (he : (stepR apf E s.t s.h o.dst (.bldS z l)).to e) : StepOk P X o a w s e := by
  simp only [stepR, valA_apf] at he
  obtain ⟨v, hv, he⟩ := bind_to he
  obtain ⟨u, hu, he⟩ := bind_to he
  cases he
  obtain ⟨i, zv, h1, h2, h3, h4, h5, h6⟩ := zOk_spec hz
  obtain ⟨z1, z2, z3⟩ := zt_rep (I := I) (w := w) (ow := fun _ => none) (ρ := ρ) z h4
  let places : List (Nat × Nat) := fs.toList.map fun f : Field => (f.offset, sz P f.type)
  have hplace : ∀ (j : Nat) (f : Field), fs[j]? = some f → places.toArray[j]? = some (f.offset, sz P f.type) := by
    intro j f hj
    simp [places, hj]
  obtain ⟨cs', hf, hs, hc⟩ := putParts_fill (place := (places.toArray[·]?)) (l.map fun p => (p.1, p.2.1, ev s.t p.2.2)) (ps.toList.map fun p => (p.1, a.eval p.2)) (cs := zv.cells) hv
    (by rw [← h3] at z3; simpa using z3) (by rw [z1, ← h3]; simp) (structs_eval2 h hplace hl)
  have hbuilt : P.built t (ps.map fun (i, x) => (i, a.eval x)).toList = some cs' := by
    unfold Program.built
    simp only [h1, ht, h2, mapM_places hfs]
    simpa [places] using hf
  have hagg := wrapV_to hu
  refine stepVal h hd (x := .agg cs') (by simp [execOp, ho, run_build w t _ cs' hbuilt]) ?_
  rcases hagg with ⟨_, h7, rfl⟩ | ⟨_, h7, rfl⟩ | ⟨h7, _⟩
  · exact agg_vr h7 hs hc
  · exact agg_vr rfl hs ⟨h7, hc⟩
  · cases h7
theorem lkV_skip {z : V} : ∀ {ps : List (Nat × V)} {j : Nat}, j ∉ ps.map (·.1) → lkV z ps j = z
  | [], _, _ => rfl
  | (i, v) :: r, j, h => by
    simp only [List.map_cons, List.mem_cons, not_or] at h
    simp only [lkV]
    rw [if_neg h.1]
    exact lkV_skip h.2
theorem nodupN_spec : ∀ {l : List Nat}, nodupN l = true → l.Nodup
  | [], _ => List.nodup_nil
  | a :: r, h => by
    simp only [nodupN, Bool.and_eq_true, Bool.not_eq_true', List.contains_eq_mem, decide_eq_false_iff_not] at h
    exact List.nodup_cons.2 ⟨h.1, nodupN_spec h.2⟩
/-- filling a row of n elements of e cells -/
theorem fill_row {e n : Nat} : ∀ (ps : List (Nat × V)) (is : List (Nat × Value)) (B : Nat → V) (cs : Array Value), partsOk e n ps = true → (ps.map (·.1)).Nodup → cs.size = n * e →
    (∀ j, j < n → (B j).size = e ∧ CRep I w (fun _ => none) (B j) noR [] 0 (fun r => cs[j * e + r]?)) →
    F2 (fun p i => i.1 = p.1 ∧ VRep I w ρ p.2 i.2) ps is →
    ∃ cs', Instr.fill (fun i => some (i * e, e)) cs is = some cs' ∧ cs'.size = n * e ∧
      ∀ j, j < n → (lkV (B j) (ps.map fun p => (p.1, p.2.unwrap)) j).size = e ∧ CRep I w (fun _ => none) (lkV (B j) (ps.map fun p => (p.1, p.2.unwrap)) j) noR [] 0 (fun r => cs'[j * e + r]?) := by
  intro ps
  induction ps with
  | nil =>
    intro is B cs _ _ hs hB hf
    cases hf
    exact ⟨cs, rfl, hs, hB⟩
  | cons p ps ih =>
    intro is B cs hok hnd hs hB hf
    obtain ⟨i, v⟩ := p
    cases hf with
    | cons h1 h2 =>
      rename_i i' is
      obtain ⟨i', x⟩ := i'
      obtain ⟨rfl, hv⟩ := h1
      simp only [partsOk, Bool.and_eq_true, beq_iff_eq, decide_eq_true_eq] at hok
      obtain ⟨⟨⟨⟨hclo, hfull⟩, hsz⟩, hlt⟩, hok⟩ := hok
      simp only at hv
      simp only [List.map_cons, List.nodup_cons] at hnd
      obtain ⟨h3, h4, _⟩ := vr_full hv hfull
      have hmul : i' * e + e ≤ n * e := by
        have := Nat.mul_le_mul_right e (show i' + 1 ≤ n from hlt)
        rw [Nat.add_mul] at this; omega
      obtain ⟨cs', h5, h6, h7⟩ := fill_cons (place := fun i => some (i * e, e)) (rest := is) (rfl : (fun i => some (i * e, e)) i' = some (i' * e, e)) (show x.cells.size = e by omega) (show i' * e + e ≤ cs.size by omega)
      rw [h7]
      have hclo' : v.unwrap.clo = true := by cases v <;> first | exact hclo | (simpa [V.unwrap, V.clo] using hclo)
      obtain ⟨cs'', h8, h9, h10⟩ := ih is (fun j => if j = i' then v.unwrap else B j) cs' hok hnd.2 (by omega) (fun j hj => by
        by_cases e1 : j = i'
        · subst e1
          simp only [if_true]
          refine ⟨hsz, CRep.mono (fun _ hb => ⟨hb, rfl⟩) _ _ _ _ _ _ _ (Rho.le_refl _) (fun h => absurd rfl h) (fun r hr => ?_) (CRep.closed v.unwrap _ noR _ _ _ hclo' h4)⟩
          rw [h6]
          simp only [lay]
          rw [if_pos (by omega)]
          congr 1; omega
        · simp only [if_neg e1]
          obtain ⟨h11, h12⟩ := hB j hj
          refine ⟨h11, CRep.mono (fun _ hb => ⟨hb, rfl⟩) _ _ _ _ _ _ _ (Rho.le_refl _) (fun h => absurd rfl h) (fun r hr => ?_) h12⟩
          rw [h6]
          simp only [lay]
          rw [if_neg]
          rw [h11] at hr
          rcases Nat.lt_or_gt_of_ne e1 with hlt' | hgt
          · have := Nat.mul_le_mul_right e (show j + 1 ≤ i' from hlt')
            rw [Nat.add_mul] at this
            omega
          · have := Nat.mul_le_mul_right e (show i' + 1 ≤ j from hgt)
            rw [Nat.add_mul] at this
            omega) h2
      refine ⟨cs'', h8, h9, fun j hj => ?_⟩
      have := h10 j hj
      simp only [List.map_cons, lkV]
      by_cases e1 : j = i'
      · subst e1
        simp only [if_true] at this ⊢
        rw [lkV_skip (by simpa using hnd.1)] at this
        exact this
      · simp only [if_neg e1] at this ⊢
        exact this
theorem look_lkV {z : V} : ∀ {ps : List (Nat × V)} {j : Nat}, lkV z (ps.map fun p => (p.1, p.2.unwrap)) j = match look ps j with | some v => v.unwrap | none => z
  | [], _ => rfl
  | (i, v) :: r, j => by
    simp only [List.map_cons, lkV, look]
    split
    · rfl
    · exact look_lkV
theorem rowI_spec {k : IntKind} {ps : List (Nat × V)} : ∀ (is : List Nat) {l : List Int}, (rowI k ps is).to l → l.length = is.length ∧ ∀ (m : Nat) (i : Nat), is[m]? = some i → (∃ v, look ps i = some v ∧ (v = .int k (nthI l m) ∨ v = .lit k (nthI l m))) ∨ (look ps i = none ∧ nthI l m = 0)
  | [], l, h => by cases h; exact ⟨rfl, fun m i hm => by simp at hm⟩
  | i :: is, l, h => by
    simp only [rowI] at h
    have step : ∀ (x : Int) (l' : List Int), (rowI k ps is).to l' → l = x :: l' → ((∃ v, look ps i = some v ∧ (v = .int k x ∨ v = .lit k x)) ∨ (look ps i = none ∧ x = 0)) → l.length = (i :: is).length ∧ ∀ (m : Nat) (j : Nat), (i :: is)[m]? = some j → (∃ v, look ps j = some v ∧ (v = .int k (nthI l m) ∨ v = .lit k (nthI l m))) ∨ (look ps j = none ∧ nthI l m = 0) := by
      rintro x l' hl' rfl hx
      obtain ⟨h1, h2⟩ := rowI_spec is hl'
      refine ⟨by simp [h1], fun m j hm => ?_⟩
      cases m with
      | zero =>
        simp only [List.getElem?_cons_zero, Option.some.injEq] at hm
        subst hm
        simpa [nthI] using hx
      | succ m =>
        have := h2 m j (by simpa using hm)
        simpa [nthI] using this
    split at h
    · rename_i v hv
      obtain ⟨x, hx, h⟩ := bind_to h
      obtain ⟨l', hl', h⟩ := bind_to h
      cases h
      refine step x l' hl' rfl (.inl ⟨v, hv, ?_⟩)
      cases v <;> simp only [V.asI] at hx <;> first | exact hx.elim | skip
      · obtain ⟨h1, h2⟩ := rif_to hx
        rw [beq_iff_eq] at h1
        subst h1; cases h2; exact .inr rfl
      · obtain ⟨h1, h2⟩ := rif_to hx
        rw [beq_iff_eq] at h1
        subst h1; cases h2; exact .inl rfl
    · rename_i hv
      obtain ⟨l', hl', h⟩ := bind_to h
      cases h
      exact step 0 l' hl' rfl (.inr ⟨hv, rfl⟩)
/-- an element's zero -/
def EK.zv : EK → V
  | .i k => .lit k 0
  | .o _ z => z.val
/-- the content of a literal row -/
theorem rowC_rep {k : EK} {n : Nat} {ps : List (Nat × V)} {is : List (Nat × Value)} {c : V} {cs : Array Value} (hr : (rowC k n ps).to c) (hs : cs.size = n * k.size)
    (hB : ∀ j, j < n → CRep I w (fun _ => none) k.zv noR [] 0 (fun r => cs[j * k.size + r]?)) (hzs : ∀ e z, k = .o e z → z.val.size = e)
    (hf : F2 (fun p i => i.1 = p.1 ∧ VRep I w ρ p.2 i.2) ps is) :
    ∃ cs', Instr.fill (fun i => some (i * k.size, k.size)) cs is = some cs' ∧ cs'.size = n * k.size ∧ c.size = n * k.size ∧ c.isAgg = true ∧ c.noown = true ∧ isRow k.size n c ∧ CRep I w (fun _ => none) c ρ [] 0 (cs'[·]?) := by
  unfold rowC at hr
  obtain ⟨h1, hr⟩ := rif_to hr
  simp only [Bool.and_eq_true] at h1
  obtain ⟨cs', h2, h3, h4⟩ := fill_row ps is (fun _ => k.zv) cs h1.1 (nodupN_spec h1.2) hs (fun j hj => ⟨by cases k with | i k => rfl | o e z => exact hzs e z rfl, hB j hj⟩) hf
  refine ⟨cs', h2, h3, ?_⟩
  cases k with
  | i k =>
    obtain ⟨l, hl, hr⟩ := bind_to hr
    cases hr
    obtain ⟨h5, h6⟩ := rowI_spec _ hl
    have key : ∀ j, j < n → cs'[j]? = some (.int k (nthI l j)) ∧ inR k (nthI l j) := by
      intro j hj
      have h7 := (h4 j hj).2
      simp only [EK.size, Nat.mul_one] at h7
      rw [look_lkV] at h7
      rcases h6 j j (by simp [hj]) with ⟨v, hv, hvv⟩ | ⟨hv, hvv⟩
      · rw [hv] at h7
        rcases hvv with rfl | rfl
        · exact h7
        · exact h7
      · rw [hv] at h7
        rw [hvv]
        exact h7
    refine ⟨by simp [V.size, EK.size], rfl, rfl, ⟨rfl, rfl⟩, by simpa using h5, ?_, fun j hj => (key j hj).1⟩
    intro y hy
    obtain ⟨j, hj, rfl⟩ := List.mem_iff_getElem.1 hy
    have := (key j (by simpa [h5] using hj)).2
    simpa [nthI, List.getD_eq_getElem?_getD, List.getElem?_eq_getElem hj] using this
  | o e z =>
    cases hr
    exact ⟨rfl, rfl, rfl, ⟨rfl, rfl⟩, fun j hj => h4 j hj⟩
theorem parts_eval2 (h : Rep X I ρ ow s a.tmps w) {ps : Array (Nat × Operand)} {l : List (Nat × IX)} (hl : optL (ps.toList.map fun p => (opIX p.2).map fun x => (p.1, x)) = some l) :
    F2 (fun (p : Nat × V) (i : Nat × Value) => i.1 = p.1 ∧ VRep I w ρ p.2 i.2) (l.map fun p => (p.1, ev s.t p.2)) (ps.toList.map fun p => (p.1, a.eval p.2)) := by
  have hfa := optL_map hl
  generalize ps.toList = pl at hfa
  clear hl
  induction hfa with
  | nil => exact .nil
  | cons hxy _ ih =>
    refine .cons ?_ ih
    simp only [Option.map_eq_some_iff] at hxy
    obtain ⟨ix, hix, rfl⟩ := hxy
    exact ⟨rfl, ev_rep h hix⟩
theorem step_bldA (h : Rep X I ρ ow s a.tmps w) (hd : dstOk X o) {t el : TypeId} {n : Nat} {ps : Array (Nat × Operand)} {k : EK} {l : List (Nat × IX)} (ho : o.op = .build t ps) (ht : P.underlying t = some (.array n el)) (hk : arrOk P t el k n = true)
    (hinfo : (P.info? el).isSome = true)
    (hl : optL (ps.toList.map fun p => (opIX p.2).map fun x => (p.1, x)) = some l) {e : Eff} {E : List (Nat × Ctr)}
    (he : (stepR apf E s.t s.h o.dst (.bldA k n l)).to e) : StepOk P X o a w s e := by
  simp only [stepR] at he
  obtain ⟨v, hv, he⟩ := bind_to he
  cases he
  simp only [arrOk, Bool.and_eq_true, beq_iff_eq] at hk
  obtain ⟨hsz, hk⟩ := hk
  have key : ∃ i zv, P.info? t = some i ∧ i.zero = some zv ∧ zv.cells.size = n * k.size ∧ (∀ j, j < n → CRep I w (fun _ => none) k.zv noR [] 0 (fun r => zv.cells[j * k.size + r]?)) ∧ ∀ e z, k = .o e z → z.val.size = e := by
    cases k with
    | i k =>
      obtain ⟨i, zv, h1, h2, h3, h4, h5, h6⟩ := zOk_spec hk
      refine ⟨i, zv, h1, h2, ?_, fun j hj => ?_, fun e z hh => by cases hh⟩
      · have := congrArg List.length h3
        simpa [ZT.cells, EK.size] using this
      · refine ⟨?_, inR_zero k⟩
        have : zv.cells[j]? = (ZT.ints k n).cells[j]? := by rw [← h3]; simp
        simp [EK.size, this, ZT.cells, hj]
    | o e z =>
      obtain ⟨i, zv, h1, h2, h3, h4, h5, h6⟩ := zOk_spec hk
      obtain ⟨z1, z2, z3⟩ := zt_rep (I := I) (w := w) (ow := fun _ => none) (ρ := ρ) _ h4
      have hze : z.val.size = e := by
        simp only [ZT.good, Bool.and_eq_true, beq_iff_eq] at h4
        have := (zt_rep (I := I) (w := w) (ow := fun _ => none) (ρ := noR) z h4.1).1
        omega
      refine ⟨i, zv, h1, h2, ?_, fun j hj => ?_, fun e' z' hh => by cases hh; exact hze⟩
      · have := congrArg List.length h3
        rw [← z1] at this
        simpa [ZT.val, V.size, EK.size] using this
      · have := (z3 j hj).2
        rw [← h3] at this
        simpa [EK.size, EK.zv] using this
  obtain ⟨i, zv, h1, h2, h3, h4, h5⟩ := key
  obtain ⟨cs', h6, h7, h8, h9, h10, _, h11⟩ := rowC_rep hv h3 h4 h5 (parts_eval2 h hl)
  obtain ⟨ie, hie⟩ := Option.isSome_iff_exists.1 hinfo
  have hies : ie.size = k.size := by simpa [sz, hie] using hsz
  have hbuilt : P.built t (ps.map fun (i, x) => (i, a.eval x)).toList = some cs' := by
    unfold Program.built
    simp only [h1, ht, h2, hie, hies]
    simpa using h6
  exact stepVal h hd (x := .agg cs') (by simp [execOp, ho, run_build w t _ cs' hbuilt]) (agg_vr h9 (by omega) h11)
structure EkOk (P : Program) (el : TypeId) (k : EK) : Prop where
  i : ∃ i zv, P.info? el = some i ∧ i.zero = some zv ∧ i.size = k.size ∧ 0 < i.size ∧ zv.cells.size = k.size ∧ (∀ kk, k = .i kk → zv.cells = #[.int kk 0] ∧ P.underlying el = some (.int kk)) ∧ (∀ e z, k = .o e z → z.good = true ∧ zv.cells.toList = z.cells)
theorem zeroK_ok {t : TypeId} {z : ZT} (h : zeroK P t = some z) : zOk P t z = true := by
  unfold zeroK at h
  split at h
  · split at h
    · cases h; assumption
    · cases h
  · cases h
theorem ekOf_ok {el : TypeId} {k : EK} (h : ekOf P el = some k) : EkOk P el k := by
  unfold ekOf at h
  split at h
  · rename_i kk hu
    split at h
    · rename_i k' hz
      split at h
      · rename_i hkk
        cases h
        have hkk : kk = k' := by simpa using hkk
        subst hkk
        obtain ⟨i, zv, h1, h2, h3, h4, h5, h6⟩ := zOk_spec (zeroK_ok hz)
        have hc : zv.cells = #[.int kk 0] := by
          apply Array.ext'
          rw [h3]; rfl
        exact ⟨⟨i, zv, h1, h2, by simpa [ZT.cells, EK.size] using h5, h6, by rw [hc]; rfl, fun kk' e => by cases e; exact ⟨hc, hu⟩, fun e z hh => by cases hh⟩⟩
      · cases h
    · cases h
  · rename_i hu
    simp only [Option.map_eq_some_iff] at h
    obtain ⟨z, hz, rfl⟩ := h
    obtain ⟨i, zv, h1, h2, h3, h4, h5, h6⟩ := zOk_spec (zeroK_ok hz)
    have hs : sz P el = i.size := by simp [sz, h1]
    refine ⟨⟨i, zv, h1, h2, by simp [EK.size, hs], h6, ?_, fun kk e => by (cases e), fun e z' hh => by cases hh; exact ⟨h4, h3⟩⟩⟩
    have := congrArg List.length h3
    simp only [EK.size, hs]
    simp only [Array.length_toList] at this
    omega
/-- the zero cells of a row of elements -/
theorem made_rep {el : TypeId} {k : EK} {i : TypeInfo} {zv : Value} (hk : zv.cells.size = k.size) (hpos : 0 < k.size) (hi1 : ∀ kk, k = .i kk → zv.cells = #[.int kk 0]) (hi2 : ∀ e z, k = .o e z → z.good = true ∧ zv.cells.toList = z.cells) (n : Nat) (_ : el = el) (_ : i = i) :
    (∀ j, j < n → CRep I w (fun _ => none) k.zv noR [] 0 (fun r => (madeCells zv.cells (n * k.size))[j * k.size + r]?)) ∧ ∀ e z, k = .o e z → z.val.size = e := by
  have hm : ∀ j r, j < n → r < k.size → (madeCells zv.cells (n * k.size))[j * k.size + r]? = zv.cells[r]? := by
    intro j r hj hr
    have hlt : j * k.size + r < n * k.size := by
      have := Nat.mul_le_mul_right k.size (show j + 1 ≤ n from hj)
      rw [Nat.add_mul] at this; omega
    have hmod : (j * k.size + r) % zv.cells.size = r := by rw [hk, Nat.mul_comm, Nat.mul_add_mod, Nat.mod_eq_of_lt hr]
    simp only [madeCells]
    rw [Array.getElem?_map, Array.getElem?_range, if_pos hlt]
    simp only [Option.map_some, hmod]
    rw [getElem!_pos zv.cells r (by omega), Array.getElem?_eq_getElem (by omega)]
  cases k with
  | i k =>
    refine ⟨fun j hj => ⟨?_, inR_zero k⟩, fun e z hh => by cases hh⟩
    show (madeCells zv.cells (n * (EK.i k).size))[j * (EK.i k).size + 0]? = _
    rw [hm j 0 hj (by simp [EK.size]), hi1 k rfl]
    rfl
  | o e z =>
    obtain ⟨h1, h2⟩ := hi2 e z rfl
    obtain ⟨z1, z2, z3⟩ := zt_rep (I := I) (w := w) (ow := fun _ => none) (ρ := noR) z h1
    have hze : z.val.size = e := by
      rw [z1, ← h2]
      simpa [EK.size] using hk
    refine ⟨fun j hj => ?_, fun e' z' hh => by cases hh; exact hze⟩
    refine CRep.mono (fun _ hb => ⟨hb, rfl⟩) _ _ _ _ _ _ _ (Rho.le_refl _) (fun h => absurd rfl h) (fun r hr => ?_) z3
    have hr : r < z.val.size := hr
    rw [hm j r hj (by rw [hze] at hr; exact hr), ← h2]
    simp
theorem step_bsl (h : Rep X I ρ ow s a.tmps w) (hd : dstOk X o) {t el : TypeId} {n : Nat} {ps : Array (Nat × Operand)} {k : EK} {l : List (Nat × IX)} (ho : o.op = .buildSlice t n ps) (ht : P.underlying t = some (.slice el)) (hk : EkOk P el k)
    (hsmall : n * k.size ≤ 65536) (hl : optL (ps.toList.map fun p => (opIX p.2).map fun x => (p.1, x)) = some l) (hn0 : n = 0 → ps = #[]) {e : Eff} {E : List (Nat × Ctr)}
    (he : (stepR apf E s.t s.h o.dst (.bsl k n l)).to e) : StepOk P X o a w s e := by
  obtain ⟨i, zv, h1, h2, h3, h4, h5, h6, h7⟩ := hk.i
  cases n with
  | zero =>
    simp only [stepR] at he
    cases he
    have hps := hn0 rfl
    subst hps
    have ho2 : Only w (w.alloc (.cells #[] el)) none := Only.alloc _ _ _
    refine stepVal' h hd ho2 (x := .slice (some ⟨w.heap.size, 0, none⟩) 0 0) ?_ (zsl_vr _)
    simp [execOp, ho, Instr.buildSlice, run_underlying ht, sizeOf, typeInfo, h1, Instr.fill, newRow, Array.range_zero']
  | succ n =>
    simp only [stepR] at he
    obtain ⟨d, hdst, hn, he⟩ := fresh_to he
    obtain ⟨c, hc, he⟩ := bind_to he
    cases he
    obtain ⟨m1, m2⟩ := made_rep (I := I) (w := w) (el := el) (i := i) h5 (by omega) (fun kk hh => (h6 kk hh).1) h7 (n + 1) rfl rfl
    obtain ⟨cs', g1, g2, g3, g4, g5, g6, g7⟩ := rowC_rep hc (by simp [size_madeCells]) m1 m2 (parts_eval2 h hl)
    have hpos : 0 < (n + 1) * k.size := Nat.mul_pos (by omega) (by omega)
    refine stepNew h hd hdst hn (Only.refl w none) (ty := el) (fr := (0, 0)) (.inl rfl) (cs := cs') g5 (g7.noow (ow' := ow)) (x := .slice (some ⟨w.heap.size, 0, none⟩) (n + 1) (n + 1)) ?_ (fun _ _ _ hρ => sl_new hρ (by omega) ?_ (by omega) trivial)
    · have := run_buildSlice (P := P) w t el (n + 1) (ps.map fun (i, x) => (i, a.eval x)) cs' i zv ht h1 h2 (by rw [h3]; omega) (by rw [h3]; omega) (by
        rw [h3]
        have e1 : ((Array.range ((n + 1) * k.size)).map fun x => zv.cells[x % zv.cells.size]!) = madeCells zv.cells ((n + 1) * k.size) := rfl
        rw [e1]
        simpa using g1)
      simp only [execOp, ho, Sem.run_bind, this, Result.andThen_ok, Sem.run_pure]
    · simp only [maxLen]
      have : n + 1 ≤ (n + 1) * k.size := Nat.le_mul_of_pos_right _ (by omega)
      omega
theorem step_mks (h : Rep X I ρ ow s a.tmps w) (hd : dstOk X o) {t el : TypeId} {x y : Operand} {k : EK} {ix : IX} (ho : o.op = .makeSlice t x y) (hxy : a.eval y = a.eval x) (ht : P.underlying t = some (.slice el)) (hk : EkOk P el k) (hbp : 0 < byt P el)
    (hx : opIX x = some ix) {e : Eff} {E : List (Nat × Ctr)} (he : (stepR apf E s.t s.h o.dst (.mks k (byt P el) ix)).to e) : StepOk P X o a w s e := by
  obtain ⟨i, zv, h1, h2, h3, h4, h5, h6, h7⟩ := hk.i
  simp only [stepR] at he
  obtain ⟨d, hdst, hn, he⟩ := fresh_to he
  obtain ⟨n, hnn, hb, he⟩ := bind_to he
  obtain ⟨kk, zz, hz1, hz2, rfl⟩ := nat_to hnn (ev_rep h hx)
  have hb : byt P el * zz.toNat ≤ 140737488355328 := hb
  have hbi : byt P el = i.bytes := by simp [byt, h1]
  obtain ⟨n, rfl⟩ : ∃ n : Nat, zz = n := ⟨zz.toNat, by omega⟩
  rw [Int.toNat_natCast] at hb
  rw [hbi] at hb hbp
  have hle : n ≤ 140737488355328 := Nat.le_trans (Nat.le_mul_of_pos_left _ hbp) hb
  have hcap : n ≤ maxLen := by simp only [maxLen]; omega
  have hrun := run_make (P := P) w t el i zv ht h1 h2 kk kk n n hz2 (Int.le_refl _) (by
    have : ((i.bytes * n : Nat) : Int) ≤ 281474976710656 := by omega
    rwa [Int.natCast_mul] at this) (by omega)
  rw [h3, Int.toNat_natCast] at hrun
  obtain ⟨m1, m2⟩ := made_rep (I := I) (w := w) (el := el) (i := i) h5 (by omega) (fun kk hh => (h6 kk hh).1) h7 n rfl rfl
  have hsz : (madeCells zv.cells (n * k.size)).size = n * k.size := size_madeCells _ _
  have hex : (execOp a.eval o).run P w = .ok (.value (.slice (some ⟨w.heap.size, 0, none⟩) n n)) (w.alloc (.cells (madeCells zv.cells (n * k.size)) el)) := by
    simp only [execOp, ho, hxy, hz1, Sem.run_bind, hrun, Result.andThen_ok, Sem.run_pure]
  rw [Int.toNat_natCast] at he
  cases k with
  | i kk' =>
    cases he
    refine stepNew h hd hdst hn (Only.refl w none) (ty := el) (fr := (0, 0)) (.inl rfl) (cs := madeCells zv.cells (n * (EK.i kk').size)) rfl ⟨by simp [apf, zerosI], ?_, fun j hj => ?_⟩ hex (fun _ _ _ hρ => sl_new hρ (Nat.le_refl _) hcap (by rw [hsz]; exact Nat.le_refl _) rfl)
    · intro y hy
      have := List.eq_of_mem_replicate hy
      subst this
      exact inR_zero kk'
    · have := (m1 j hj).1
      simp only [EK.size, Nat.mul_one, Nat.add_zero] at this ⊢
      rw [this]
      simp [apf, zerosI, nthI, List.getD_eq_getElem?_getD, hj]
  | o e z =>
    cases he
    exact stepNew h hd hdst hn (Only.refl w none) (ty := el) (fr := (0, 0)) (.inl rfl) (cs := madeCells zv.cells (n * (EK.o e z).size)) rfl (fun j hj => ⟨m2 e z rfl, (m1 j hj).noow⟩) hex (fun _ _ _ hρ => sl_new hρ (Nat.le_refl _) hcap (by rw [hsz]; exact Nat.le_refl _) rfl)
/-- a block of nobody's is one that is never written again -/
theorem Rep.addI {tm : Array Value} (h : Rep X I ρ ow s tm w) {b : Nat} (h1 : ow b = none) (h2 : X.F b ∨ X.w0.heap.size ≤ b) (h3 : b < w.heap.size) : Rep X (fun x => I x ∨ x = b) ρ ow s tm w :=
  have hI : ∀ y, I y → (I y ∨ y = b) ∧ w.heap[y]? = w.heap[y]? := fun _ hy => ⟨.inl hy, rfl⟩
  { h with
    iold := fun y hy => .inl (h.iold y hy)
    inew := fun y hy => hy.elim (h.inew y) (fun e => by subst e; exact .inr h2)
    ilt := fun y hy => hy.elim (h.ilt y) (fun e => by subst e; exact h3)
    iow := fun y hy => hy.elim (h.iow y) (fun e => by subst e; exact h1)
    tmps := fun i => (h.tmps i).mono hI (Rho.le_refl _)
    heap := fun hd blk hh => by
      obtain ⟨l, g1, g2⟩ := h.heap hd blk hh
      refine ⟨l, g1, ?_⟩
      unfold BRep at g2 ⊢
      split at g2
      · rcases g2 with ⟨e1, e2, e3⟩ | ⟨k, off, sz, cur, e1, e2, e3, e4, e5⟩
        · exact .inl ⟨e1, e2, CRep.mono hI _ _ _ _ _ _ _ (Rho.le_refl _) (fun h => absurd rfl h) (fun _ _ => rfl) e3⟩
        · exact .inr ⟨k, off, sz, cur, e1, e2, e3, e4, CRep.mono hI _ _ _ _ _ _ _ (Rho.le_refl _) (fun _ _ _ _ hb => ⟨hb, rfl⟩) (fun _ _ => rfl) e5⟩
      · rcases g2 with ⟨e1, e2, e3⟩ | ⟨k, off, sz, e1, e2, e3, e4, e5⟩
        · exact .inl ⟨e1, e2, CRep.mono hI _ _ _ _ _ _ _ (Rho.le_refl _) (fun h => absurd rfl h) (fun _ _ => rfl) e3⟩
        · exact .inr ⟨k, off, sz, e1, e2, e3, e4, CRep.mono hI _ _ _ _ _ _ _ (Rho.le_refl _) (fun h => absurd rfl h) (fun _ _ => rfl) e5⟩
      · rcases g2 with ⟨e1, e2, e3⟩ | ⟨k, off, sz, e1, e2, e3, e4⟩
        · exact .inl ⟨e1, e2, CRep.mono hI _ _ _ _ _ _ _ (Rho.le_refl _) (fun h => absurd rfl h) (fun _ _ => rfl) e3⟩
        · exact .inr ⟨k, off, sz, e1, .inl e2, e3, CRep.mono hI _ _ _ _ _ _ _ (Rho.le_refl _) (fun h => absurd rfl h) (fun _ _ => rfl) e4⟩
      · trivial }
theorem step_mksF (h : Rep X I ρ ow s a.tmps w) (hd : dstOk X o) {t el : TypeId} {x y : Operand} {k : EK} {ix : IX} (ho : o.op = .makeSlice t x y) (hxy : a.eval y = a.eval x) (ht : P.underlying t = some (.slice el)) (hk : EkOk P el k) (hbp : 0 < byt P el)
    (hx : opIX x = some ix) {e : Eff} {E : List (Nat × Ctr)} (he : (stepR apf E s.t s.h o.dst (.mksF k (byt P el) ix)).to e) : StepOk P X o a w s e := by
  obtain ⟨i, zv, h1, h2, h3, h4, h5, h6, h7⟩ := hk.i
  simp only [stepR] at he
  obtain ⟨n, hnn, hb, he⟩ := bind_to he
  obtain ⟨kk, zz, hz1, hz2, rfl⟩ := nat_to hnn (ev_rep h hx)
  have hb : byt P el * zz.toNat ≤ 140737488355328 := hb
  have hbi : byt P el = i.bytes := by simp [byt, h1]
  obtain ⟨n, rfl⟩ : ∃ n : Nat, zz = n := ⟨zz.toNat, by omega⟩
  rw [Int.toNat_natCast] at hb
  rw [hbi] at hb hbp
  have hle : n ≤ 140737488355328 := Nat.le_trans (Nat.le_mul_of_pos_left _ hbp) hb
  have hcap : n ≤ maxLen := by simp only [maxLen]; omega
  have hrun := run_make (P := P) w t el i zv ht h1 h2 kk kk n n hz2 (Int.le_refl _) (by
    have : ((i.bytes * n : Nat) : Int) ≤ 281474976710656 := by omega
    rwa [Int.natCast_mul] at this) (by omega)
  rw [h3, Int.toNat_natCast] at hrun
  obtain ⟨m1, m2⟩ := made_rep (I := I) (w := w) (el := el) (i := i) h5 (by omega) (fun kk hh => (h6 kk hh).1) h7 n rfl rfl
  have hsz : (madeCells zv.cells (n * k.size)).size = n * k.size := size_madeCells _ _
  have hex : (execOp a.eval o).run P w = .ok (.value (.slice (some ⟨w.heap.size, 0, none⟩) n n)) (w.alloc (.cells (madeCells zv.cells (n * k.size)) el)) := by
    simp only [execOp, ho, hxy, hz1, Sem.run_bind, hrun, Result.andThen_ok, Sem.run_pure]
  rw [Int.toNat_natCast] at he
  have hon : Only w (w.alloc (.cells (madeCells zv.cells (n * k.size)) el)) none := Only.alloc _ _ _
  have hg := h.grow hon
  have hsize : w.heap.size < (w.alloc (.cells (madeCells zv.cells (n * k.size)) el)).heap.size := by simp
  have how : ow w.heap.size = none := by
    cases e0 : ow w.heap.size with
    | none => rfl
    | some q => exact absurd (h.owf _ _ e0).1 (Nat.lt_irrefl _)
  have hgI := hg.addI how (.inr h.size) hsize
  have hmI : ∀ y, I y → (I y ∨ y = w.heap.size) ∧ (w.alloc (.cells (madeCells zv.cells (n * k.size)) el)).heap[y]? = w.heap[y]? := fun y hy => ⟨.inl hy, hon.block y (h.ilt y hy) (by simp)⟩
  have hcell : ∀ j, j < n * k.size → cellsAt (w.alloc (.cells (madeCells zv.cells (n * k.size)) el)) w.heap.size 0 j = (madeCells zv.cells (n * k.size))[j]? := fun j hj => by
    have e := heap_alloc_new w (.cells (madeCells zv.cells (n * k.size)) el)
    simp only [cellsAt, World.cell?, e, Nat.zero_add]
    rfl
  refine .inl ⟨_, _, hex, fun x => I x ∨ x = w.heap.size, ρ, ow, ?_⟩
  cases k with
  | i kk' =>
    cases he
    refine hgI.putD hd (dsl_vr (Nat.le_refl _) hcap ⟨rfl, rfl⟩ ?_ (.inr ⟨_, _, rfl, .inr rfl⟩))
    rw [behind_some]
    refine ⟨by simp [apf, zerosI], ?_, fun j hj => ?_⟩
    · intro y hy
      have := List.eq_of_mem_replicate hy
      subst this
      exact inR_zero kk'
    · have h0 := (m1 j hj).1
      rw [hcell j (by simpa [EK.size] using hj)]
      simp only [EK.size, Nat.mul_one, Nat.add_zero] at h0 ⊢
      rw [h0]
      simp [apf, zerosI, nthI, List.getD_eq_getElem?_getD, hj]
  | o e z =>
    cases he
    refine hgI.putD hd (dsl_vr (Nat.le_refl _) hcap ⟨rfl, rfl⟩ ?_ (.inr ⟨_, _, rfl, .inr rfl⟩))
    rw [behind_some]
    intro j hj
    refine ⟨m2 e z rfl, CRep.mono (ow := ow) hmI _ _ _ _ _ _ _ (Rho.le_refl _) (fun h => absurd rfl h) (fun r hr => ?_) (m1 j hj).noow⟩
    rw [m2 e z rfl] at hr
    rw [hcell (j * e + r) (by
      have : (j + 1) * e ≤ n * e := Nat.mul_le_mul_right _ hj
      rw [Nat.add_mul] at this
      simp only [EK.size]
      omega)]
    rfl
end
end Go.Cx
/- CxSt2 -/
namespace Go.Cx
open Go
def killO (ow : Own) (hd : Nat) : Own := fun b => match ow b with
  | some (x :: r) => if x = hd then none else some (x :: r)
  | q => q
theorem killO_ne {ow : Own} {hd b x : Nat} {r : List Nat} (h : ow b = some (x :: r)) (hne : x ≠ hd) : killO ow hd b = some (x :: r) := by simp [killO, h, hne]
theorem killO_none {ow : Own} {hd b : Nat} (h : ow b = none) : killO ow hd b = none := by simp [killO, h]
theorem killO_some {ow : Own} {hd b : Nat} {q : List Nat} (h : killO ow hd b = some q) : ow b = some q := by
  unfold killO at h
  split at h
  · rename_i x r e
    split at h
    · cases h
    · rw [e]; exact h
  · exact h
theorem killO_head {ow : Own} {hd b x : Nat} {r : List Nat} (h : killO ow hd b = some (x :: r)) : x ≠ hd := by
  intro e
  subst e
  have := killO_some h
  simp [killO, this] at h
section
variable {X : Fix} {I : Nat → Prop} {ρ : Rho} {ow : Own} {s : St} {tm : Array Value} {w : World}
/-- a block is given up -/
theorem Rep.kill (h : Rep X I ρ ow s tm w) {hd : Nat} {blk : Blk} (hh : s.h hd = some blk) : Rep X I ρ (killO ow hd) ⟨s.t, upd s.h hd (some ⟨.dead, .any⟩)⟩ tm w :=
  { h with
    iow := fun b hb => killO_none (h.iow b hb)
    owf := fun b q hb => by
      obtain ⟨h1, h2, hh', r, c0, h3, h4⟩ := h.owf b q (killO_some hb)
      subst h3
      refine ⟨h1, h2, hh', r, c0, rfl, ?_⟩
      simp only [upd_ne _ _ (killO_head hb), h4]
    dom := fun i l hi hi2 => by
      by_cases e : i = hd
      · subst e; simp [upd]
      · simp only [upd_ne _ _ e]; exact h.dom i l hi hi2
    heap := fun hd' blk' hh' => by
      by_cases e : hd' = hd
      · subst e
        simp only [upd_same, Option.some.injEq] at hh'
        subst hh'
        obtain ⟨l, h1, _⟩ := h.heap _ _ hh
        exact ⟨l, h1, trivial⟩
      · simp only [upd_ne _ _ e] at hh'
        obtain ⟨l, h1, h2⟩ := h.heap hd' blk' hh'
        exact ⟨l, h1, BRep.keep h (Only.refl w none) (fun k e => by cases e) (fun _ h => h) (Rho.le_refl _) h2 (fun k r hk => ⟨by simp, killO_ne hk e⟩) (fun _ _ h => killO_none h)⟩ }
/-- a block without cells, under a new handle -/
theorem Rep.phantom (h : Rep X I ρ ow s tm w) {d : Nat} (hd : s.h d = none) (hlt : d < 100000) {c : V} (hz : c.size = 0) (hc : CRep I w (fun _ => none) c noR [] 0 (fun _ => none)) :
    ∃ ρ', Rho.le ρ ρ' ∧ ρ' d = some .ph ∧ Rep X I ρ' ow ⟨s.t, upd s.h d (some ⟨.own, c⟩)⟩ tm w := by
  have hnd : ρ d = none := by
    cases hρ : ρ d with
    | none => rfl
    | some l => exact absurd hd (h.dom d l hρ hlt)
  let ρ' : Rho := fun k => if k = d then some .ph else ρ k
  have hle : Rho.le ρ ρ' := fun k l hk => by
    have : k ≠ d := fun e => by rw [e, hnd] at hk; cases hk
    simp only [ρ', if_neg this, hk]
  refine ⟨ρ', hle, by simp [ρ'], ?_⟩
  exact
    { h with
      owf := fun b q hb => by
        obtain ⟨h1, h2, hh', r, c0, h3, h4⟩ := h.owf b q hb
        refine ⟨h1, h2, hh', r, c0, h3, ?_⟩
        have : hh' ≠ d := fun e => by rw [e, hd] at h4; cases h4
        simp only [upd_ne _ _ this, h4]
      dom := fun i l hi hi2 => by
        by_cases e : i = d
        · subst e; simp [upd]
        · simp only [ρ', if_neg e] at hi
          simp only [upd_ne _ _ e]; exact h.dom i l hi hi2
      glob := fun n => by
        obtain ⟨sz, hg⟩ := h.glob n
        exact ⟨sz, hle _ _ hg⟩
      tmps := fun i => (h.tmps i).mono (fun b hb => ⟨hb, rfl⟩) hle
      rle := fun k l hk => hle _ _ (h.rle k l hk)
      heap := fun hd' blk' hh' => by
        by_cases e : hd' = d
        · subst e
          simp only [upd_same, Option.some.injEq] at hh'
          subst hh'
          refine ⟨.ph, by simp [ρ'], .inl ⟨rfl, hz, ?_⟩⟩
          exact CRep.mono (fun b hb => ⟨hb, rfl⟩) _ _ _ _ _ _ _ (fun _ _ e => by cases e) (fun h => absurd rfl h) (fun _ _ => rfl) hc
        · simp only [upd_ne _ _ e] at hh'
          obtain ⟨l, h1, h2⟩ := h.heap hd' blk' hh'
          exact ⟨l, hle _ _ h1, BRep.keep h (Only.refl w none) (fun k e => by cases e) (fun _ h => h) hle h2 (fun k r hk => ⟨by simp, hk⟩) (fun _ _ h => h)⟩ }
/-- A block is written and passed on to a new handle. -/
theorem Rep.move (h : Rep X I ρ ow s tm w) {hd d k off sz off2 sz2 : Nat} {c c' : V} {cur' : Array Value} (hh : s.h hd = some ⟨.own, c⟩) (hl : ρ hd = some (.at k off sz)) (hk : ow k = some [hd]) (hn : s.h d = none) (hlt : d < 100000)
    {w' : World} (ho : Only w w' (some k)) (hz : w'.heap.size = w.heap.size) (hb : OwnBlk w' k cur') (hsz : cur'.size = off2 + sz2) (hno : c'.noown = true) (hc : CRep I w (fun _ => none) c' noR [] 0 (fun j => cur'[off2 + j]?)) :
    ∃ ρ' ow', Rho.le ρ ρ' ∧ ρ' d = some (.at k off2 sz2) ∧ Rep X I ρ' ow' ⟨s.t, upd (upd s.h hd (some ⟨.dead, .any⟩)) d (some ⟨.own, c'⟩)⟩ tm w' := by
  have hII : ∀ b, I b → I b ∧ w'.heap[b]? = w.heap[b]? := fun b hb => ⟨hb, ho.block b (h.ilt b hb) (fun e => by cases e; rw [h.iow _ hb] at hk; cases hk)⟩
  have hkf := h.owf k _ hk
  have hdne : hd ≠ d := fun e => by rw [e, hn] at hh; cases hh
  have hnd : ρ d = none := by
    cases hρ : ρ d with
    | none => rfl
    | some l => exact absurd hn (h.dom d l hρ hlt)
  let ρ' : Rho := fun k' => if k' = d then some (.at k off2 sz2) else ρ k'
  have hle : Rho.le ρ ρ' := fun k l hk => by
    have : k ≠ d := fun e => by rw [e, hnd] at hk; cases hk
    simp only [ρ', if_neg this, hk]
  let ow' : Own := fun b => if b = k then some [d] else killO ow hd b
  have hnone : ∀ b, b < w.heap.size → ow b = none → ow' b = none := fun b _ hb => by
    have : b ≠ k := fun e => by rw [e, hk] at hb; cases hb
    simp only [ow', if_neg this]
    exact killO_none hb
  have hown : ∀ hd', hd' ≠ hd → ∀ b r, ow b = some (hd' :: r) → some b ≠ some k ∧ ow' b = some (hd' :: r) := fun hd' hne b r hb => by
    have : b ≠ k := fun e => by
      rw [e, hk] at hb
      simp at hb
      exact hne hb.1.symm
    refine ⟨by simpa using this, ?_⟩
    simp only [ow', if_neg this]
    exact killO_ne hb hne
  refine ⟨ρ', ow', hle, by simp [ρ'], ?_⟩
  exact
    { frame := fun b hb hF => by
        by_cases e : b = k
        · subst e
          rcases hkf.2.1 with h1 | h1
          · exact absurd h1 hF
          · omega
        · exact (ho.block b (Nat.lt_of_lt_of_le hb h.size) (by simpa using e)).trans (h.frame b hb hF)
      size := by rw [hz]; exact h.size
      os := ho.os.trans h.os
      tape := ho.tape.trans h.tape
      output := ho.output.trans h.output
      iold := h.iold
      inew := h.inew
      ilt := fun b hb => by rw [hz]; exact h.ilt b hb
      iow := fun b hb => hnone b (h.ilt b hb) (h.iow b hb)
      owf := fun b q hb => by
        by_cases e : b = k
        · subst e
          simp only [ow', if_true, Option.some.injEq] at hb
          subst hb
          exact ⟨by rw [hz]; exact hkf.1, hkf.2.1, d, [], c', rfl, by simp [upd]⟩
        · simp only [ow', if_neg e] at hb
          obtain ⟨h1, h2, hh', r, c0, h3, h4⟩ := h.owf b q (killO_some hb)
          subst h3
          refine ⟨by omega, h2, hh', r, c0, rfl, ?_⟩
          have : hh' ≠ d := fun e => by rw [e, hn] at h4; cases h4
          simp only [upd_ne _ _ this, upd_ne _ _ (killO_head hb), h4]
      dom := fun i l hi hi2 => by
        by_cases e : i = d
        · subst e; simp [upd]
        · simp only [ρ', if_neg e] at hi
          simp only [upd_ne _ _ e]
          by_cases e2 : i = hd
          · subst e2; simp [upd]
          · simp only [upd_ne _ _ e2]; exact h.dom i l hi hi2
      glob := fun n => by
        obtain ⟨sz, hg⟩ := h.glob n
        exact ⟨sz, hle _ _ hg⟩
      tsz := h.tsz
      nle := h.nle
      rle := fun k l hk => hle _ _ (h.rle k l hk)
      tmps := fun i => (h.tmps i).mono hII hle
      heap := fun hd' blk hh' => by
        by_cases e : hd' = d
        · subst e
          simp only [upd_same, Option.some.injEq] at hh'
          subst hh'
          refine ⟨.at k off2 sz2, by simp [ρ'], .inr ⟨k, off2, sz2, cur', rfl, by simp [ow'], hb, hsz, ?_⟩⟩
          have h0 : CRep I w' ow' c' ρ' [] 0 (fun j => cur'[off2 + j]?) := CRep.mono hII _ _ _ _ _ _ _ (fun _ _ e => by cases e) (fun h => absurd rfl h) (fun _ _ => rfl) hc
          simpa using CRep.noq c' _ _ [hd'] _ 0 _ hno h0
        · simp only [upd_ne _ _ e] at hh'
          by_cases e2 : hd' = hd
          · subst e2
            simp only [upd_same, Option.some.injEq] at hh'
            subst hh'
            exact ⟨_, hle _ _ hl, trivial⟩
          · simp only [upd_ne _ _ e2] at hh'
            obtain ⟨l, h1, h2⟩ := h.heap hd' blk hh'
            exact ⟨l, hle _ _ h1, BRep.keep h ho (fun k' e => by cases e; exact ⟨_, hk⟩) (fun _ h => h) hle h2 (fun b r hb => hown hd' e2 b r hb) hnone⟩ }
end
end Go.Cx
/- CxFn1 -/
namespace Go.Cx
open Go
section
variable {I : Nat → Prop} {w : World} {ow ow' : Own}
/-- content hangs on the owners of its own places alone -/
theorem CRep.sub (c : V) : ∀ (ρ ρ' : Rho) (q q' : List Nat) (pos pos' : Nat) (g : Nat → Option Value), Rho.le ρ ρ' →
    (q ≠ [] → q' ≠ [] ∧ ∀ b p r, p < c.size → ow b = some (q ++ (pos + p) :: r) → ow' b = some (q' ++ (pos' + p) :: r)) → CRep I w ow c ρ q pos g → CRep I w ow' c ρ' q' pos' g := by
  induction c with
  | ptr h p => intro ρ ρ' q q' pos pos' g hρ _ hc; obtain ⟨b, off, sz, h1, h2⟩ := hc; exact ⟨b, off, sz, hρ _ _ h1, h2⟩
  | sl h p i n e cap => intro ρ ρ' q q' pos pos' g hρ _ hc; obtain ⟨a, c, l, h1, h2, h3⟩ := hc; exact ⟨a, c, l, h1, hρ _ _ h2, h3⟩
  | dptr c p ih => intro ρ ρ' q q' pos pos' g hρ _ hc; obtain ⟨b, off, h1, h2, h3⟩ := hc; exact ⟨b, off, h1, h2, ih _ _ _ _ _ _ _ (Rho.le_refl _) (fun e => absurd rfl e) h3⟩
  | dsl n e c ih => intro ρ ρ' q q' pos pos' g hρ _ hc; obtain ⟨a, cp, h1, h2, h3, h4, h5, h6⟩ := hc; exact ⟨a, cp, h1, h2, h3, h4, ih _ _ _ _ _ _ _ (Rho.le_refl _) (fun e => absurd rfl e) h5, h6⟩
  | cat n m a b iha ihb =>
    intro ρ ρ' q q' pos pos' g hρ ho hc
    obtain ⟨h1, h2, h3, h4⟩ := hc
    refine ⟨h1, h2, iha _ _ _ _ _ _ _ hρ (fun e => ⟨(ho e).1, fun b p r hp hb => (ho e).2 b p r (by simp only [V.size]; omega) hb⟩) h3, ihb _ _ _ _ _ _ _ hρ (fun e => ⟨(ho e).1, fun b p r hp hb => ?_⟩) h4⟩
    have := (ho e).2 b (n + p) r (by simp only [V.size]; omega) (by rw [Nat.add_assoc] at hb; exact hb)
    rw [Nat.add_assoc]; exact this
  | rows e n f ih => intro ρ ρ' q q' pos pos' g hρ _ hc j hj; exact ⟨(hc j hj).1, ih j _ _ _ _ _ _ _ (Rho.le_refl _) (fun e => absurd rfl e) (hc j hj).2⟩
  | one a ih => intro ρ ρ' q q' pos pos' g hρ ho hc; exact ⟨hc.1, ih _ _ _ _ _ _ _ hρ ho hc.2⟩
  | osl n e c ih =>
    intro ρ ρ' q q' pos pos' g hρ ho hc
    obtain ⟨hq, a, cp, h1, h2, h3, hrow, h4⟩ := hc
    obtain ⟨hq', ho⟩ := ho hq
    refine ⟨hq', a, cp, h1, h2, h3, hrow, ?_⟩
    rcases h4 with ⟨h5, h6⟩ | ⟨b, off, cur, ha, hb, hc, hsz, h6⟩
    · exact .inl ⟨h5, ih _ _ _ _ _ _ _ (Rho.le_refl _) (fun e => absurd rfl e) h6⟩
    · refine .inr ⟨b, off, cur, ha, ho b 0 [] (by simp [V.size]) hb, hc, hsz, ih _ _ _ _ _ _ _ (Rho.le_refl _) (fun _ => ⟨by simp, fun b' p r _ hb' => ?_⟩) h6⟩
      have := ho b' 0 ((0 + p) :: r) (by simp [V.size]) (by simpa using hb')
      simpa using this
  | optr c ih =>
    intro ρ ρ' q q' pos pos' g hρ ho hc
    obtain ⟨hq, b, off, cur, h1, hb, hc, h5, h6⟩ := hc
    obtain ⟨hq', ho⟩ := ho hq
    refine ⟨hq', b, off, cur, h1, ho b 0 [] (by simp [V.size]) hb, hc, h5, ih _ _ _ _ _ _ _ (Rho.le_refl _) (fun _ => ⟨by simp, fun b' p r _ hb' => ?_⟩) h6⟩
    have := ho b' 0 ((0 + p) :: r) (by simp [V.size]) (by simpa using hb')
    simpa using this
  | orow n e f o ih =>
    intro ρ ρ' q q' pos pos' g hρ ho hc
    obtain ⟨hq, h0, hc⟩ := hc
    obtain ⟨hq', ho⟩ := ho hq
    refine ⟨hq', h0, fun j hj => ?_⟩
    obtain ⟨a, m, cp, h1, h2, h3, h4, h5⟩ := hc j hj
    refine ⟨a, m, cp, h1, h2, h3, fun h k hl => ?_, fun hn => ?_⟩
    · obtain ⟨e1, l, e2, e3⟩ := h4 h k hl
      exact ⟨e1, l, hρ _ _ e2, e3⟩
    · obtain ⟨r1, r2, r3⟩ := h5 hn
      refine ⟨r1, r2, ?_⟩
      rcases r3 with ⟨e1, e2⟩ | ⟨b, off, cur, e1, e2, e3, e4, e5⟩
      · exact .inl ⟨e1, ih j _ _ _ _ _ _ _ (Rho.le_refl _) (fun h => absurd rfl h) e2⟩
      · exact .inr ⟨b, off, cur, e1, ho b j [] hj e2, e3, e4, ih j _ _ _ _ _ _ _ (Rho.le_refl _) (fun h => absurd rfl h) e5⟩
  | _ => intro ρ ρ' q q' pos pos' g _ _ hc; exact hc
def LeafAt (I : Nat → Prop) (w : World) (ow : Own) (c2 : V) (q : List Nat) (p : Nat) (lo : Lo) : Prop :=
  (lo = .ph ∧ c2.size = 0 ∧ CRep I w ow c2 noR [] 0 (fun _ => none)) ∨
    ∃ k off sz cur, lo = .at k off sz ∧ ow k = some (q ++ [p]) ∧ OwnBlk w k cur ∧ cur.size = off + sz ∧ CRep I w ow c2 noR (q ++ [p]) 0 (fun j => cur[off + j]?)
theorem opn1_spec {hk : Nat} : ∀ (c : V) {c' c2 : V} {p : Nat} {ρ : Rho} {q : List Nat} {pos : Nat} {g : Nat → Option Value}, opn1 hk c = some (c', c2, p) → CRep I w ow c ρ q pos g →
    q ≠ [] ∧ c'.size = c.size ∧ c'.isAgg = c.isAgg ∧ ∃ lo, LeafAt I w ow c2 q (pos + p) lo ∧ ∀ (ρ' : Rho) (ow' : Own), Rho.le ρ ρ' → ρ' hk = some lo →
      (∀ b p' r, p' ≠ pos + p → ow b = some (q ++ p' :: r) → ow' b = some (q ++ p' :: r)) → CRep I w ow' c' ρ' q pos g := by
  intro c
  induction c with
  | osl n e c _ =>
    intro c' c2 p ρ q pos g h hc
    cases h
    obtain ⟨hq, a, cp, h1, h2, h3, hrow, h4⟩ := hc
    refine ⟨hq, rfl, rfl, ?_⟩
    rcases h4 with ⟨rfl, h6⟩ | ⟨b, off, cur, rfl, hb, hcb, hsz, h6⟩
    · obtain rfl : n = 0 := by omega
      exact ⟨.ph, .inl ⟨rfl, isRow_zero hrow, h6⟩, fun ρ' ow' _ hl _ => ⟨a, 0, .ph, h1, hl, by omega, h3, trivial, .inl rfl⟩⟩
    · refine ⟨.at b off (cur.size - off), .inr ⟨b, off, _, cur, rfl, hb, hcb, by omega, h6⟩, fun ρ' ow' _ hl _ => ⟨_, cp, _, h1, hl, h2, h3, trivial, .inr ⟨b, off, _, rfl, by simp [poff], by simp only [poff]; omega⟩⟩⟩
  | optr c _ =>
    intro c' c2 p ρ q pos g h hc
    cases h
    obtain ⟨hq, b, off, cur, h1, hb, hcb, h5, h6⟩ := hc
    refine ⟨hq, rfl, rfl, .at b off (cur.size - off), .inr ⟨b, off, _, cur, rfl, hb, hcb, by omega, h6⟩, fun ρ' ow' _ hl _ => ⟨b, off, _, hl, by simpa [poff] using h1⟩⟩
  | cat n m a b iha ihb =>
    intro c' c2 p ρ q pos g h hc
    simp only [opn1] at h
    obtain ⟨h1, h2, h3, h4⟩ := hc
    split at h
    · rename_i r hr
      obtain ⟨a', c2', p'⟩ := r
      cases h
      obtain ⟨g1, g2, _, lo, g4, g5⟩ := iha hr h3
      refine ⟨g1, rfl, rfl, lo, g4, fun ρ' ow' hρ hl ho => ⟨g2.trans h1, h2, g5 ρ' ow' hρ hl ho, ?_⟩⟩
      have hp : p' < n := by
        rw [← h1]
        exact opn1_lt hr h3
      exact CRep.sub _ _ _ _ _ _ _ _ hρ (fun _ => ⟨g1, fun b' p2 r _ hb' => ho b' _ r (by simp only; omega) hb'⟩) h4
    · split at h
      · rename_i r hr
        obtain ⟨b', c2', p'⟩ := r
        cases h
        obtain ⟨g1, g2, _, lo, g4, g5⟩ := ihb hr h4
        rw [Nat.add_assoc] at g4
        refine ⟨g1, rfl, rfl, lo, g4, fun ρ' ow' hρ hl ho => ⟨h1, g2.trans h2, ?_, g5 ρ' ow' hρ hl (fun b p' r hne hb => ho b p' r (by simp only; omega) hb)⟩⟩
        exact CRep.sub _ _ _ _ _ _ _ _ hρ (fun _ => ⟨g1, fun b' p' r hp' hb' => ho b' _ r (by simp only; omega) hb'⟩) h3
      · cases h
  | _ => intro c' c2 p ρ q pos g h; cases h
where
  opn1_lt {hk : Nat} : ∀ {c : V} {c' c2 : V} {p : Nat} {ρ : Rho} {q : List Nat} {pos : Nat} {g : Nat → Option Value}, opn1 hk c = some (c', c2, p) → CRep I w ow c ρ q pos g → p < c.size := by
    intro c
    induction c with
    | osl n e c _ => intro c' c2 p ρ q pos g h _; cases h; simp [V.size]
    | optr c _ => intro c' c2 p ρ q pos g h _; cases h; simp [V.size]
    | cat n m a b iha ihb =>
      intro c' c2 p ρ q pos g h hc
      simp only [opn1] at h
      obtain ⟨h1, h2, h3, h4⟩ := hc
      split at h
      · rename_i r hr
        obtain ⟨a', c2', p'⟩ := r
        cases h
        have := iha hr h3
        simp only [V.size]; omega
      · split at h
        · rename_i r hr
          obtain ⟨b', c2', p'⟩ := r
          cases h
          have := ihb hr h4
          simp only [V.size]; omega
        · cases h
    | _ => intro c' c2 p ρ q pos g h; cases h
end
section
variable {X : Fix} {I : Nat → Prop} {ρ : Rho} {ow : Own} {s : St} {tm : Array Value} {w : World}
theorem Rep.open1 (h : Rep X I ρ ow s tm w) {hd hk : Nat} {c c' c2 : V} {p : Nat} (hh : s.h hd = some ⟨.own, c⟩) (hn : s.h hk = none) (hlt : hk < 100000) (ho : opn1 hk c = some (c', c2, p)) :
    ∃ ρ' ow', Rho.le ρ ρ' ∧ Rep X I ρ' ow' ⟨s.t, upd (upd s.h hd (some ⟨.own, c'⟩)) hk (some ⟨.own, c2⟩)⟩ tm w := by
  have hne : hd ≠ hk := fun e => by rw [e, hn] at hh; cases hh
  have hnk : ρ hk = none := by
    cases hρ : ρ hk with
    | none => rfl
    | some l => exact absurd hn (h.dom hk l hρ hlt)
  obtain ⟨l, hl, hB⟩ := h.heap hd _ hh
  obtain ⟨k, off, sz, cur, rfl, hk1, hk2, hk3, hk4⟩ : ∃ k off sz cur, l = .at k off sz ∧ ow k = some [hd] ∧ OwnBlk w k cur ∧ cur.size = off + sz ∧ CRep I w ow c ρ [hd] 0 (fun j => cur[off + j]?) := by
    rcases hB with ⟨_, _, h3⟩ | h3
    · exact absurd rfl (opn1_spec c ho h3).1
    · exact h3
  obtain ⟨_, g2, _, lo, g4, g5⟩ := opn1_spec c ho hk4
  rw [Nat.zero_add] at g4 g5
  let ρ' : Rho := fun b => if b = hk then some lo else ρ b
  let ow' : Own := fun b => match ow b with
    | some (x :: y :: r) => if x = hd ∧ y = p then some (hk :: r) else some (x :: y :: r)
    | o => o
  have hle : Rho.le ρ ρ' := fun b l hb => by
    have : b ≠ hk := fun e => by rw [e, hnk] at hb; cases hb
    simp only [ρ', if_neg this, hb]
  have o1 : ∀ b x, ow b = some [x] → ow' b = some [x] := fun b x hb => by simp only [ow', hb]
  have o2 : ∀ b x r, x ≠ hd → ow b = some (x :: r) → ow' b = some (x :: r) := fun b x r hx hb => by
    cases r with
    | nil => exact o1 b x hb
    | cons y r => simp only [ow', hb]; rw [if_neg (fun e => hx e.1)]
  have o3 : ∀ b y r, y ≠ p → ow b = some (hd :: y :: r) → ow' b = some (hd :: y :: r) := fun b y r hy hb => by
    simp only [ow', hb]; rw [if_neg (fun e => hy e.2)]
  have o4 : ∀ b r, ow b = some (hd :: p :: r) → ow' b = some (hk :: r) := fun b r hb => by simp [ow', hb]
  have o5 : ∀ b, ow b = none → ow' b = none := fun b hb => by simp [ow', hb]
  have o6 : ∀ b q, ow' b = some q → ∃ x r, ow b = some (x :: r) ∧ (q = x :: r ∨ (x = hd ∧ ∃ r', q = hk :: r')) := fun b q hb => by
    simp only [ow'] at hb
    split at hb
    · rename_i x y r hxy
      split at hb
      · rename_i e
        cases hb
        exact ⟨x, y :: r, hxy, .inr ⟨e.1, r, rfl⟩⟩
      · cases hb
        exact ⟨x, y :: r, hxy, .inl rfl⟩
    · obtain ⟨_, _, x, r, c, e, _⟩ := h.owf b q hb
      subst e
      exact ⟨x, r, hb, .inl rfl⟩
  refine ⟨ρ', ow', hle, ?_⟩
  exact
    { h with
      iow := fun b hb => o5 b (h.iow b hb)
      owf := fun b q hb => by
        obtain ⟨x, r, e1, e2⟩ := o6 b q hb
        obtain ⟨g6, g7, x', r', cx, g8, g9⟩ := h.owf b _ e1
        cases g8
        refine ⟨g6, g7, ?_⟩
        rcases e2 with rfl | ⟨rfl, r'', rfl⟩
        · have hxk : x ≠ hk := fun e => by rw [e, hn] at g9; cases g9
          by_cases e : x = hd
          · subst e; exact ⟨x, r, c', rfl, by simp only [upd_ne _ _ hxk, upd_same]⟩
          · exact ⟨x, r, cx, rfl, by simp only [upd_ne _ _ hxk, upd_ne _ _ e]; exact g9⟩
        · exact ⟨hk, r'', c2, rfl, by simp only [upd_same]⟩
      dom := fun b l hb hb2 => by
        by_cases e : b = hk
        · subst e; simp [upd]
        · simp only [ρ', if_neg e] at hb
          simp only [upd_ne _ _ e]
          by_cases e2 : b = hd
          · subst e2; simp [upd]
          · simp only [upd_ne _ _ e2]; exact h.dom b l hb hb2
      glob := fun n => by
        obtain ⟨sz, hg⟩ := h.glob n
        exact ⟨sz, hle _ _ hg⟩
      rle := fun b l hb => hle _ _ (h.rle b l hb)
      tmps := fun i => (h.tmps i).mono (fun b hb => ⟨hb, rfl⟩) hle
      heap := fun b blk hb => by
        by_cases e : b = hk
        · subst e
          simp only [upd_same, Option.some.injEq] at hb
          subst hb
          refine ⟨lo, by simp [ρ'], ?_⟩
          rcases g4 with ⟨rfl, h2, h3⟩ | ⟨k', off', sz', cur', rfl, h2, h3, h4, h5⟩
          · exact .inl ⟨rfl, h2, CRep.sub _ _ _ _ _ _ _ _ (noR_le _) (fun e => absurd rfl e) h3⟩
          · refine .inr ⟨k', off', sz', cur', rfl, o4 _ _ (by simpa using h2), h3, h4, CRep.sub _ _ _ _ _ _ _ _ (noR_le _) (fun _ => ⟨by simp, fun b' p' r _ hb' => ?_⟩) h5⟩
            have := o4 b' ((0 + p') :: r) (by simpa using hb')
            simpa using this
        · simp only [upd_ne _ _ e] at hb
          by_cases e2 : b = hd
          · subst e2
            simp only [upd_same, Option.some.injEq] at hb
            subst hb
            refine ⟨_, hle _ _ hl, .inr ⟨k, off, sz, cur, rfl, o1 _ _ hk1, hk2, hk3, g5 ρ' ow' hle (by simp [ρ']) (fun b' p' r hp hb' => ?_)⟩⟩
            exact o3 b' p' r (by omega) (by simpa using hb')
          · simp only [upd_ne _ _ e2] at hb
            obtain ⟨l', h1, h2⟩ := h.heap b blk hb
            exact ⟨l', hle _ _ h1, BRep.keep h (Only.refl w none) (fun k e => by cases e) (fun _ h => h) hle h2 (fun k' r hk' => ⟨by simp, o2 _ _ _ e2 hk'⟩) (fun b' _ h => o5 b' h)⟩ }
theorem Rep.opens : ∀ (f hk : Nat) (ks : List Nat) {ρ : Rho} {ow : Own} {hh : Nat → Option Blk}, hk + f ≤ 100000 → Rep X I ρ ow ⟨s.t, hh⟩ tm w → ∃ ρ' ow', Rho.le ρ ρ' ∧ Rep X I ρ' ow' ⟨s.t, opn f hk ks hh⟩ tm w := by
  intro f
  induction f with
  | zero => intro hk ks ρ ow hh _ h; exact ⟨ρ, ow, Rho.le_refl _, h⟩
  | succ f ih =>
    intro hk ks ρ ow hh hlt h
    cases ks with
    | nil => exact ⟨ρ, ow, Rho.le_refl _, h⟩
    | cons k ks =>
      simp only [opn]
      split
      · rename_i c hc
        split
        · exact ⟨ρ, ow, Rho.le_refl _, h⟩
        · rename_i hn
          split
          · rename_i r hr
            obtain ⟨c', c2, p⟩ := r
            obtain ⟨ρ1, ow1, h1, h2⟩ := h.open1 (hd := k) (hk := hk) hc hn (by omega) hr
            obtain ⟨ρ2, ow2, h3, h4⟩ := ih (hk + 1) (k :: ks ++ [hk]) (by omega) h2
            exact ⟨ρ2, ow2, fun b l hb => h3 b l (h1 b l hb), h4⟩
          · exact ih hk ks (by omega) h
      · exact ih hk ks (by omega) h
end
end Go.Cx
/- CxOp10 -/
namespace Go.Cx
open Go
section
variable {P : Program} {pure : Nat → Bool} {X : Fix} {I : Nat → Prop} {ρ : Rho} {ow : Own} {s : St} {a : Act} {w : World} {o : Oper}
/-- the cells of a slice's elements, as 'append' and 'copy' read them -/
theorem SlRep.first {e n : Nat} {c : V} {x : Value} (h : SlRep I w e n c x) : ∃ cs : List Value, cs.length = n * e ∧ (∀ v ∈ cs, v.oneCell' = true) ∧ (∀ w', w'.heap = w.heap → (Builtin.firstCells e n x).run P w' = .ok cs.toArray w') ∧
    CRep I w (fun _ => none) c noR [] 0 (cs[·]?) ∧ ∀ b off cp, x = .slice (some ⟨b, off, none⟩) n cp → ∀ j, j < n * e → cs[j]? = cellsAt w b off j := by
  obtain ⟨⟨ad, cp, rfl, h1, h2, h3, h4⟩, hrow⟩ := h
  have hsz := isRow_size hrow
  rcases Nat.eq_zero_or_pos n with rfl | hn
  · refine ⟨[], by simp, by simp, fun w' _ => ?_, crep_empty (by rw [hsz]; simp) h4, fun _ _ _ _ j hj => by omega⟩
    cases ad <;> simp [Builtin.firstCells, loadCells, loadCellsFrom]
  · obtain ⟨b, off, rfl⟩ := h3.resolve_left (by omega)
    have hcell : ∀ j, j < n * e → ∃ y, cellsAt w b off j = some y ∧ y.oneCell' = true := fun j hj => CRep.cells c _ _ _ _ h4 j (by omega)
    let f : Nat → Value := fun j => (cellsAt w b off j).getD undef
    have hf : ∀ j, j < n * e → cellsAt w b off j = some (f j) := fun j hj => by
      obtain ⟨y, hy, _⟩ := hcell j hj
      simp [f, hy]
    refine ⟨(List.range (n * e)).map f, by simp, ?_, fun w' hw' => ?_, ?_, ?_⟩
    · intro v hv
      simp only [List.mem_map, List.mem_range] at hv
      obtain ⟨j, hj, rfl⟩ := hv
      obtain ⟨y, hy, ho⟩ := hcell j hj
      have := hf j hj
      rw [hy] at this
      cases this
      exact ho
    · have := run_loadCells (P := P) w' ⟨b, off, none⟩ (n * e) f (fun j hj => by
        rw [Addr.add_lit]
        have := hf j hj
        rw [← cellsAt_same (w' := w') (by rw [hw'])] at this
        exact this)
      simp only [Builtin.firstCells, this]
    · refine CRep.mono (fun _ hb => ⟨hb, rfl⟩) _ _ _ _ _ _ _ (Rho.le_refl _) (fun h => absurd rfl h) (fun j hj => ?_) h4
      rw [hsz] at hj
      show ((List.range (n * e)).map f)[j]? = cellsAt w b off j
      rw [hf j hj]
      simp [hj]
    · intro b' off' cp' he j hj
      cases he
      rw [hf j hj]
      simp [hj]
theorem catC_rep {c1 c2 c : V} {e n m : Nat} {as bs : List Value} (h : (catC apf c1 c2).to c) (h1 : isRow e n c1) (h2 : isRow e m c2) (ha : as.length = n * e) (r1 : CRep I w (fun _ => none) c1 noR [] 0 (as[·]?)) (r2 : CRep I w (fun _ => none) c2 noR [] 0 (bs[·]?)) (rest : List Value) (hb : bs.length = m * e) :
    isRow e (n + m) c ∧ c.noown = true ∧ CRep I w (fun _ => none) c noR [] 0 ((as ++ bs ++ rest)[·]?) := by
  cases c1 <;> cases c2 <;> simp only [catC] at h <;> first | exact h.elim | skip
  · rename_i k n' l k' m' l'
    obtain ⟨hk, h'⟩ := rif_to h
    rw [beq_iff_eq] at hk
    subst hk
    cases h'
    obtain ⟨rfl, rfl⟩ := h1
    obtain ⟨rfl, _⟩ := h2
    obtain ⟨g1, g2, g3⟩ := r1
    obtain ⟨g4, g5, g6⟩ := r2
    refine ⟨⟨rfl, rfl⟩, rfl, by simp [apf, catL, addN, g1, g4], ?_, fun j hj => ?_⟩
    · intro y hy
      rcases List.mem_append.1 hy with hy | hy
      · exact g2 y hy
      · exact g5 y hy
    · have hj : j < n' + m' := hj
      rw [Nat.mul_one] at ha hb
      show (as ++ bs ++ rest)[j]? = some (.int k (nthI (l ++ l') j))
      rw [List.getElem?_append_left (by simp; omega)]
      simp only [nthI, List.getD_eq_getElem?_getD]
      by_cases hj2 : j < n'
      · rw [List.getElem?_append_left (by omega), List.getElem?_append_left (by omega)]
        have := g3 j hj2
        simpa [nthI, List.getD_eq_getElem?_getD] using this
      · rw [List.getElem?_append_right (by omega), List.getElem?_append_right (by omega)]
        have := g6 (j - n') (by omega)
        simpa [nthI, List.getD_eq_getElem?_getD, ha, g1] using this
  · rename_i e1 n' f e2 m' g
    obtain ⟨hk, h'⟩ := rif_to h
    rw [beq_iff_eq] at hk
    subst hk
    cases h'
    obtain ⟨rfl, rfl⟩ := h1
    obtain ⟨rfl, _⟩ := h2
    refine ⟨⟨rfl, rfl⟩, rfl, fun j hj => ?_⟩
    have hj : j < n' + m' := hj
    simp only [apf, catR]
    have hmul : j * e1 + e1 ≤ (n' + m') * e1 := by
      have := Nat.mul_le_mul_right e1 (show j + 1 ≤ n' + m' from hj)
      rw [Nat.add_mul] at this; omega
    rw [Nat.add_mul] at hmul
    by_cases hj2 : j < n'
    · rw [if_pos hj2]
      obtain ⟨g1, g2⟩ := r1 j hj2
      have hmul2 : j * e1 + e1 ≤ n' * e1 := by
        have := Nat.mul_le_mul_right e1 (show j + 1 ≤ n' from hj2)
        rw [Nat.add_mul] at this; omega
      refine ⟨g1, CRep.mono (fun _ hb => ⟨hb, rfl⟩) _ _ _ _ _ _ _ (Rho.le_refl _) (fun h => absurd rfl h) (fun r hr => ?_) g2⟩
      rw [g1] at hr
      show (as ++ bs ++ rest)[j * e1 + r]? = as[j * e1 + r]?
      rw [List.getElem?_append_left (by simp; omega), List.getElem?_append_left (by omega)]
    · rw [if_neg hj2]
      obtain ⟨g1, g2⟩ := r2 (j - n') (by omega)
      refine ⟨g1, CRep.mono (fun _ hb => ⟨hb, rfl⟩) _ _ _ _ _ _ _ (Rho.le_refl _) (fun h => absurd rfl h) (fun r hr => ?_) g2⟩
      rw [g1] at hr
      show (as ++ bs ++ rest)[j * e1 + r]? = bs[(j - n') * e1 + r]?
      have hsub : (j - n') * e1 + n' * e1 = j * e1 := by rw [← Nat.add_mul]; congr 1; omega
      rw [List.getElem?_append_left (by simp; omega), List.getElem?_append_right (by omega)]
      congr 1; omega
/-- content with cells behind it -/
theorem crep_more {c : V} {as rest : List Value} (hs : c.size = as.length) (r1 : CRep I w (fun _ => none) c noR [] 0 (as[·]?)) : CRep I w (fun _ => none) c noR [] 0 ((as ++ rest)[·]?) :=
  CRep.mono (fun _ hb => ⟨hb, rfl⟩) _ _ _ _ _ _ _ (Rho.le_refl _) (fun h => absurd rfl h) (fun j hj => by
    show (as ++ rest)[j]? = as[j]?
    rw [List.getElem?_append_left (by omega)]) r1
theorem size_zeroCells' (z : Array Value) (n : Nat) : (Builtin.zeroCells z n).size = n * z.size := by simp [Builtin.zeroCells]
/-- what is appended: a slice or a string -/
structure Apd1 (P : Program) (w : World) (u : TypeId) (y : Value) (e m : Nat) (news : List Value) : Prop where
  ty : ∃ d, P.underlying u = some d ∧ ∀ k, d ≠ .int k
  len : ∀ w', (Builtin.lenOf y).run P w' = .ok m w'
  cells : ∀ n, (Builtin.firstCells e m y).run P { w with drawn := n } = .ok news.toArray { w with drawn := n }
/-- zeros that are appended -/
structure ApdZ (P : Program) (el u : TypeId) (y : Value) (m : Nat) (news : List Value) : Prop where
  ex : ∃ k k' i zv, P.underlying u = some (.int k) ∧ y = .int k' (m : Int) ∧ P.info? el = some i ∧ i.zero = some zv ∧ m * i.bytes ≤ 140737488355328 ∧ m ≤ 140737488355328 ∧ (m * i.size = 0 → news = []) ∧ news = (Builtin.zeroCells zv.cells m).toList
def Apd (P : Program) (w : World) (el u : TypeId) (y : Value) (e m : Nat) (news : List Value) : Prop := Apd1 P w u y e m news ∨ ApdZ P el u y m news
/-- append, where the slice has no room -/
theorem run_append_new {t u ty el : TypeId} {i : TypeInfo} {zv y : Value} {ad : Option Addr} {n cp m : Nat} {olds news : List Value} (ht : P.underlying t = some (.slice el)) (hi : P.info? el = some i) (hz : i.zero = some zv)
    (hy : Apd P w el u y i.size m news) (hfo : (Builtin.firstCells i.size n (.slice ad n cp)).run P w.drew = .ok olds.toArray w.drew)
    (hg : cp < n + m) (hb : (n + m) * i.bytes ≤ 140737488355328) (h63 : n + m ≤ maxLen) :
    ∃ cap, n + m ≤ cap ∧ cap ≤ maxLen ∧ (Builtin.append_ #[t, u] ty #[.slice ad n cp, y]).run P w = .ok (.slice (some ⟨w.heap.size, 0, none⟩) (n + m) cap) (w.drew.alloc (.cells ((olds ++ news).toArray ++ Builtin.zeroCells zv.cells (cap - (n + m))) el)) := by
  refine ⟨grownCap w (n + m) cp el, grownCap_ge _ _ _ _, grownCap_le_maxLen _ _ _ _ h63, ?_⟩
  have h63' : ¬ (9223372036854775807 < ((n : Int) + (m : Int))) := by
    simp only [maxLen] at h63
    omega
  have hfit : ¬ (281474976710656 < Builtin.nextslicecap (n + m) cp * i.bytes) := by
    have := growslice_fits hg hb
    omega
  have hroom : ¬ n + m ≤ cp := by omega
  rcases hy with ⟨⟨d, hd, hdi⟩, hlen, hcells⟩ | ⟨k, k', i', zv', hd, rfl, hi', hz', hm1, hm2, hm3, hnews⟩
  · have hcells := hcells (w.drawn + 1)
    have e1 : w.drew = { w with drawn := w.drawn + 1 } := rfl
    rw [← e1] at hcells
    simp [Builtin.append_, run_underlying ht, run_underlying hd, sizeOf, typeInfo, zeroValue, hi, hz, hlen, hroom, h63', hfit, Question.forced, hcells, hfo, newRow, grownCap, Array.append_assoc]
    rw [← List.append_toArray, Array.append_assoc]
  · rw [hi] at hi'
    cases hi'
    rw [hz] at hz'
    cases hz'
    have hwr : IntKind.i64.wrap (m : Int) = (m : Int) := IntWalk.i64_in _ ⟨by omega, by omega⟩
    have hfit2 : ¬ (281474976710656 < (m : Int) * (i.bytes : Int)) := by
      have : ((m * i.bytes : Nat) : Int) = (m : Int) * (i.bytes : Int) := by simp
      omega
    have hneg : ¬ (m : Int) < 0 := by omega
    have hai : ∀ w', (asInt (.int k' (m : Int))).run P w' = .ok (m : Int) w' := fun w' => by simp [asInt, asIntOf]
    simp [Builtin.append_, run_underlying ht, run_underlying hd, sizeOf, typeInfo, zeroValue, hi, hz, hai, hwr, hneg, hfit2, hroom, h63', hfit, Question.forced, hfo, newRow, grownCap, Array.append_assoc]
    rw [hnews] at hm3 ⊢
    split
    · rename_i h0
      have h1 := hm3 h0
      have h2 : Builtin.zeroCells zv.cells m = #[] := by simpa using h1
      rw [h2]
      simp
    · rw [← List.append_toArray, Array.toArray_toList, Array.append_assoc]
/-- append, where the slice has room -/
theorem run_append_room' {t u ty el : TypeId} {i : TypeInfo} {ad : Option Addr} {y : Value} {n cp m : Nat} {news : List Value} (ht : P.underlying t = some (.slice el)) (hi : P.info? el = some i)
    (hy : Apd P w el u y i.size m news) (hg : n + m ≤ cp) {w' : World} (hs : ∀ a, ad = some a → (storeCells (a.add (n * i.size)) news).run P w = .ok () w') (hn : ad = none → w' = w) :
    (Builtin.append_ #[t, u] ty #[.slice ad n cp, y]).run P w = .ok (.slice ad (n + m) cp) w' := by
  rcases hy with ⟨⟨d, hd, hdi⟩, hlen, hcells⟩ | ⟨k, k', i', zv', hd, rfl, hi', hz', hm1, hm2, hm3, hnews⟩
  · have hcells := hcells w.drawn
    have e1 : ({ w with drawn := w.drawn } : World) = w := rfl
    rw [e1] at hcells
    cases ad with
    | none =>
      cases hn rfl
      simp [Builtin.append_, run_underlying ht, run_underlying hd, sizeOf, typeInfo, hi, hlen, hg, hcells]
    | some a =>
      simp [Builtin.append_, run_underlying ht, run_underlying hd, sizeOf, typeInfo, hi, hlen, hg, hcells, hs a rfl]
  · rw [hi] at hi'
    cases hi'
    have hwr : IntKind.i64.wrap (m : Int) = (m : Int) := IntWalk.i64_in _ ⟨by omega, by omega⟩
    have hfit2 : ¬ (281474976710656 < (m : Int) * (i.bytes : Int)) := by
      have : ((m * i.bytes : Nat) : Int) = (m : Int) * (i.bytes : Int) := by simp
      omega
    have hneg : ¬ (m : Int) < 0 := by omega
    have hai : ∀ w', (asInt (.int k' (m : Int))).run P w' = .ok (m : Int) w' := fun w' => by simp [asInt, asIntOf]
    by_cases h0 : m * i.size = 0
    · have hn0 := hm3 h0
      subst hn0
      cases ad with
      | none =>
        cases hn rfl
        simp [Builtin.append_, run_underlying ht, run_underlying hd, sizeOf, typeInfo, hi, hai, hwr, hneg, hfit2, hg, h0]
      | some a =>
        have := hs a rfl
        simp [Builtin.append_, run_underlying ht, run_underlying hd, sizeOf, typeInfo, hi, hai, hwr, hneg, hfit2, hg, h0, this]
    · cases ad with
      | none =>
        cases hn rfl
        simp [Builtin.append_, run_underlying ht, run_underlying hd, sizeOf, typeInfo, zeroValue, hi, hz', hai, hwr, hneg, hfit2, hg]
      | some a =>
        have := hs a rfl
        rw [hnews] at this
        simp [Builtin.append_, run_underlying ht, run_underlying hd, sizeOf, typeInfo, zeroValue, hi, hz', hai, hwr, hneg, hfit2, hg, h0, this]
theorem Apd.slice {u el el0 : TypeId} {y : Value} {e m : Nat} {c : V} (hu : P.underlying u = some (.slice el)) (h : SlRep I w e m c y) : ∃ news, Apd P w el0 u y e m news ∧ news.length = m * e ∧ (∀ v ∈ news, v.oneCell' = true) ∧ CRep I w (fun _ => none) c noR [] 0 (news[·]?) := by
  obtain ⟨cs, h1, h2, h3, h4, _⟩ := h.first (P := P)
  refine ⟨cs, .inl ⟨⟨_, hu, by simp⟩, ?_, fun n => h3 _ rfl⟩, h1, h2, h4⟩
  obtain ⟨⟨ad, cp, rfl, _⟩, _⟩ := h
  intro w'; rfl
theorem Apd.string {u el : TypeId} {l : List Int} (hu : P.underlying u = some .string) (hl : ∀ y ∈ l, inR .u8 y) : Apd P w el u (.string (toBA l)) 1 l.length (l.map (Value.int .u8)) ∧ CRep I w (fun _ => none) (.ints .u8 l.length l) noR [] 0 ((l.map (Value.int .u8))[·]?) := by
  refine ⟨.inl ⟨⟨_, hu, by simp⟩, fun w' => ?_, fun n => ?_⟩, rfl, hl, fun j hj => ?_⟩
  · simp [Builtin.lenOf, toBA_size]
  · have hex : (toBA l).extract 0 l.length = toBA l := by
      rw [← toBA_size l]
      exact ByteArray.extract_zero_size
    simp only [Builtin.firstCells, hex, Sem.run_pure]
    congr 1
    apply Array.ext'
    rw [Array.toList_map, toBA_data, List.map_map]
    simp only
    apply List.map_congr_left
    intro y hy
    simp only [Function.comp]
    rw [ofNat_toNat_u8 (hl y hy)]
  · simp [nthI, List.getD_eq_getElem?_getD, hj]
/-- an append that makes a new row -/
theorem app_new (h : Rep X I ρ ow s a.tmps w) (hd : dstOk X o) {d : Nat} (hdst : o.dst = some d) (hn : s.h d = none) {t u el : TypeId} {x y : Operand} {k : EK} (ho : o.op = .call { callee := .builtin .append, args := #[x, y], argTypes := #[t, u] })
    (ht : P.underlying t = some (.slice el)) (hk : EkOk P el k) (hpos : 0 < byt P el) {ad : Option Addr} {n m cp : Nat} {olds news : List Value} (hx : a.eval x = .slice ad n cp)
    (hfo : ∀ w', w'.heap = w.heap → (Builtin.firstCells k.size n (.slice ad n cp)).run P w' = .ok olds.toArray w') (hy : Apd P w el u (a.eval y) k.size m news) (hol : olds.length = n * k.size) (hnl : news.length = m * k.size)
    {c : V} (hno : c.noown = true) (hc : ∀ rest, CRep I w (fun _ => none) c noR [] 0 ((olds ++ news ++ rest)[·]?)) (hg : cp < n + m) (hb : (n + m) * byt P el ≤ 140737488355328) :
    StepOk P X o a w s ⟨.sl d [] 0 (n + m) k.size none, [(d, ⟨.own, c⟩)]⟩ := by
  obtain ⟨i, zv, h1, h2, h3, h4, h5, h6, h7⟩ := hk.i
  have hbi : byt P el = i.bytes := by simp [byt, h1]
  have hnm : n + m ≤ (n + m) * byt P el := Nat.le_mul_of_pos_right _ hpos
  rw [hbi] at hb hnm
  rw [← h3] at hy hfo
  obtain ⟨cap, g1, g2, g3⟩ := run_append_new (P := P) (w := w) (ty := o.type) ht h1 h2 hy (hfo w.drew rfl) hg hb (by simp only [maxLen]; omega)
  have hsz : ((olds ++ news).toArray ++ Builtin.zeroCells zv.cells (cap - (n + m))).size = cap * k.size := by
    simp only [Array.size_append, List.size_toArray, List.length_append, size_zeroCells', hol, hnl, h5, ← Nat.add_mul]
    congr 1; omega
  refine stepNew h hd hdst hn (Only.drew w none) (ty := el) (fr := (0, 0)) (.inl rfl) (cs := (olds ++ news).toArray ++ Builtin.zeroCells zv.cells (cap - (n + m))) hno ?_ (x := .slice (some ⟨w.heap.size, 0, none⟩) (n + m) cap) ?_ (fun _ _ _ hρ => sl_new hρ g1 g2 (by rw [hsz]; exact Nat.le_refl _) trivial)
  · have := hc (Builtin.zeroCells zv.cells (cap - (n + m))).toList
    refine CRep.mono (fun _ hb => ⟨hb, rfl⟩) _ _ _ _ _ _ _ (fun _ _ e => by cases e) (fun h => absurd rfl h) (fun j hj => ?_) this
    show ((olds ++ news).toArray ++ Builtin.zeroCells zv.cells (cap - (n + m)))[j]? = _
    rw [← Array.getElem?_toList]
    simp
  · simp [execOp, ho, Go.resolve, invoke, builtin, hx, g3]
/-- an append to a slice without room -/
theorem app_nil (h : Rep X I ρ ow s a.tmps w) (hd : dstOk X o) {d : Nat} (hdst : o.dst = some d) (hn : s.h d = none) {t u el : TypeId} {x y : Operand} {k : EK} (ho : o.op = .call { callee := .builtin .append, args := #[x, y], argTypes := #[t, u] })
    (ht : P.underlying t = some (.slice el)) (hk : EkOk P el k) (hpos : 0 < byt P el) {ad : Option Addr} {m : Nat} {news : List Value} (hx : a.eval x = .slice ad 0 0)
    (hy : Apd P w el u (a.eval y) k.size m news) (hnl : news.length = m * k.size) {c : V} (hrow : isRow k.size m c) (hc : CRep I w (fun _ => none) c noR [] 0 (news[·]?)) (hb : m * byt P el ≤ 140737488355328) :
    StepOk P X o a w s ⟨.sl d [] 0 m k.size none, [(d, ⟨.own, c⟩)]⟩ := by
  have hno := crep_noown hc
  rcases Nat.eq_zero_or_pos m with rfl | hm
  · obtain ⟨i, zv, h1, h2, h3, h4, h5, h6, h7⟩ := hk.i
    rw [← h3] at hy
    have hnil : news = [] := List.eq_nil_of_length_eq_zero (by simpa using hnl)
    subst hnil
    have hrun := run_append_room' (P := P) (w := w) (ty := o.type) (ad := ad) (n := 0) (cp := 0) ht h1 hy (by omega) (w' := w) (fun a _ => rfl) (fun _ => rfl)
    have hnle := h.nle
    have hdN : d < X.N := hd d hdst
    have hz := isRow_zero hrow
    obtain ⟨ρ', g1, g2, g3⟩ := h.phantom hn (by omega) hz (crep_empty hz hc)
    refine .inl ⟨.slice ad 0 0, w, by simp [execOp, ho, Go.resolve, invoke, builtin, hx, hrun], I, ρ', ow, ?_⟩
    have := g3.setT hdN (v := .sl d [] 0 0 k.size none) (x := .slice ad 0 0) (leaf_vr rfl rfl rfl ⟨ad, 0, _, rfl, g2, by omega, by simp, trivial, .inl rfl⟩)
    rw [hdst]
    exact this
  · have := app_new (olds := []) (n := 0) (ad := ad) (cp := 0) h hd hdst hn ho ht hk hpos hx (fun w' _ => by cases ad <;> simp [Builtin.firstCells, loadCells, loadCellsFrom]) hy (by simp) hnl hno (fun rest => by
      have := crep_more (rest := rest) (by rw [isRow_size hrow, hnl]) hc
      simpa using this) (by omega) (by simpa using hb)
    simpa using this
/-- an append to a slice whose row we own: the row goes, whether the append stays in it or not -/
theorem app_own (h : Rep X I ρ ow s a.tmps w) (hd : dstOk X o) {d : Nat} (hdst : o.dst = some d) (hn : s.h d = none) {t u el : TypeId} {x y : Operand} {k : EK} (ho : o.op = .call { callee := .builtin .append, args := #[x, y], argTypes := #[t, u] })
    (ht : P.underlying t = some (.slice el)) (hk : EkOk P el k) (hpos : 0 < byt P el) {hd' i n m : Nat} {cap : Option Nat} {news : List Value} {c0 cx c : V} (hvx : VRep I w ρ (.sl hd' [] i n k.size cap) (a.eval x)) (hh : s.h hd' = some ⟨.own, c0⟩)
    (hsl : SlRep I w k.size n cx (a.eval x)) (hy : Apd P w el u (a.eval y) k.size m news) (hnl : news.length = m * k.size) (hone : ∀ v ∈ news, v.oneCell' = true) {cy : V} (hcat : (catC apf cx cy).to c) (hrow : isRow k.size m cy) (hc : CRep I w (fun _ => none) cy noR [] 0 (news[·]?))
    (hb : (n + m) * byt P el ≤ 140737488355328) :
    StepOk P X o a w s ⟨.sl d [] 0 (n + m) k.size none, [(hd', ⟨.dead, .any⟩), (d, ⟨.own, c⟩)]⟩ := by
  have hdne : d ≠ hd' := fun e => by rw [← e, hn] at hh; cases hh
  obtain ⟨ad, cp, l, hx, hl, hncp, hcpm, _, hplace⟩ := vr_sl hvx
  obtain ⟨olds, f1, f2, f3, f4, f5⟩ := hsl.first (P := P)
  have hcc := fun rest => catC_rep hcat hsl.row hrow f1 f4 hc rest hnl
  obtain ⟨hrowc, hnoc, _⟩ := hcc []
  have hnle := h.nle
  have hdN : d < X.N := hd d hdst
  rcases Nat.lt_or_ge cp (n + m) with hlt | hge
  · have := app_new (h.kill hh) hd hdst (by simp only [upd_ne _ _ hdne]; exact hn) ho ht hk hpos hx (fun w' hw' => by rw [← hx]; exact f3 w' hw') hy f1 hnl hnoc (fun rest => (hcc rest).2.2) hlt hb
    exact this
  · obtain ⟨i', zv, h1, h2, h3, h4, h5, h6, h7⟩ := hk.i
    rw [← h3] at hy
    rcases hplace with hcp0 | ⟨b, off, sz, rfl, rfl, hroom⟩
    · obtain rfl : n = 0 := by omega
      obtain rfl : m = 0 := by omega
      subst hcp0
      have hnil : news = [] := List.eq_nil_of_length_eq_zero (by simpa using hnl)
      subst hnil
      have hrun := run_append_room' (P := P) (w := w) (ty := o.type) (ad := ad) (n := 0) (cp := 0) ht h1 hy (by omega) (w' := w) (fun a _ => rfl) (fun _ => rfl)
      have hz : c.size = 0 := isRow_zero hrowc
      obtain ⟨ρ', g1, g2, g3⟩ := (h.kill hh).phantom (d := d) (by simp only [upd_ne _ _ hdne]; exact hn) (by omega) hz (crep_empty hz (hcc []).2.2)
      refine .inl ⟨.slice ad 0 0, w, by simp [execOp, ho, Go.resolve, invoke, builtin, hx, hrun], I, ρ', killO ow hd', ?_⟩
      have := g3.setT hdN (v := .sl d [] 0 0 k.size none) (x := .slice ad 0 0) (leaf_vr (w := w) rfl rfl rfl ⟨ad, 0, _, rfl, g2, by omega, by simp, trivial, .inl rfl⟩)
      rw [hdst]
      exact this
    · obtain ⟨cur, q1, q2, q3, q4⟩ := own_at h hh hl
      simp only [poff, Nat.zero_add] at hroom hx
      have hle1 : (n + m) * k.size ≤ cp * k.size := Nat.mul_le_mul_right _ hge
      rw [Nat.add_mul] at hle1
      obtain ⟨w', cur', h9, h10, h11, h12, h13, h14⟩ := run_storeN (P := P) news 0 cur w q2 (off := off + i * k.size + n * k.size) (by omega) hone
      have hrun := run_append_room' (P := P) (w := w) (ty := o.type) (ad := some ⟨b, off + i * k.size, none⟩) (n := n) (cp := cp) ht h1 hy hge (w' := w') (fun a ha => by
        cases ha
        rw [Addr.add_lit, h3]
        exact h9) (fun e => by cases e)
      obtain ⟨ρ', ow', g1, g2, g3⟩ := h.move (d := d) (off2 := off + i * k.size) (sz2 := sz - i * k.size) (c' := c) hh hl q1 hn (by omega) h10 h11 h12 (by omega) hnoc (by
        refine CRep.mono (fun _ hb => ⟨hb, rfl⟩) _ _ _ _ _ _ _ (fun _ _ e => by cases e) (fun h => absurd rfl h) (fun j hj => ?_) (hcc []).2.2
        rw [isRow_size hrowc, Nat.add_mul] at hj
        show cur'[off + i * k.size + j]? = _
        rw [h14, List.append_nil]
        by_cases hjn : j < n * k.size
        · rw [if_neg (by omega), List.getElem?_append_left (by omega), f5 b (off + i * k.size) cp hx j hjn]
          have := congrFun (q2.cells (off + i * k.size)) j
          exact this
        · rw [if_pos (by omega), List.getElem?_append_right (by omega)]
          congr 1
          omega)
      refine .inl ⟨.slice (some ⟨b, off + i * k.size, none⟩) (n + m) cp, w', by simp [execOp, ho, Go.resolve, invoke, builtin, hx, hrun], I, ρ', ow', ?_⟩
      have := g3.setT hdN (v := .sl d [] 0 (n + m) k.size none) (x := .slice (some ⟨b, off + i * k.size, none⟩) (n + m) cp) (leaf_vr rfl rfl rfl ⟨_, cp, _, rfl, g2, hge, hcpm, trivial, .inr ⟨b, _, _, rfl, by simp [poff], by simp only [poff]; omega⟩⟩)
      rw [hdst]
      exact this
theorem step_app0 (h : Rep X I ρ ow s a.tmps w) (hd : dstOk X o) {t u el : TypeId} {x y : Operand} {k : EK} {ix iy : IX} (ho : o.op = .call { callee := .builtin .append, args := #[x, y], argTypes := #[t, u] })
    (ht : P.underlying t = some (.slice el)) (hu : P.underlying u = some (.slice el)) (hk : EkOk P el k) (hpos : 0 < byt P el) (hx : opIX x = some ix) (hy : opIX y = some iy) {e : Eff} {E : List (Nat × Ctr)}
    (he : (stepR apf E s.t s.h o.dst (.app0 k (byt P el) ix iy)).to e) : StepOk P X o a w s e := by
  simp only [stepR] at he
  obtain ⟨d, hdst, hn, he⟩ := fresh_to he
  obtain ⟨⟨m, cy⟩, hcy, he⟩ := bind_to he
  have hvx := ev_rep h hx
  have hsl := sliceC_rep h hcy (ev_rep h hy)
  obtain ⟨news, g1, g2, g3, g4⟩ := Apd.slice (P := P) hu hsl
  have fin : ∀ ad, a.eval x = .slice ad 0 0 → appN (byt P el) m → StepOk P X o a w s ⟨.sl d [] 0 m k.size none, [(d, ⟨.own, cy⟩)]⟩ := fun ad hx hm =>
    app_nil h hd hdst hn ho ht hk hpos hx g1 g2 hsl.row g4 hm
  simp only at he
  split at he
  · rename_i e1
    rw [e1] at hvx
    obtain ⟨hm, rfl⟩ := he
    exact fin none (vr_nsl hvx) hm
  · rename_i e1
    rw [e1] at hvx
    obtain ⟨hm, rfl⟩ := he
    obtain ⟨ad, hx⟩ := vr_zsl hvx
    exact fin ad hx hm
  · exact he.elim
/-- all of append, whatever comes behind -/
theorem app_all (h : Rep X I ρ ow s a.tmps w) (hd : dstOk X o) {d : Nat} (hdst : o.dst = some d) (hn : s.h d = none) {t u el : TypeId} {x y : Operand} {k : EK} {ix : IX} (ho : o.op = .call { callee := .builtin .append, args := #[x, y], argTypes := #[t, u] })
    (ht : P.underlying t = some (.slice el)) (hk : EkOk P el k) (hpos : 0 < byt P el) (hx : opIX x = some ix) {m : Nat} {news : List Value} {cy : V} (hy : Apd P w el u (a.eval y) k.size m news) (hnl : news.length = m * k.size) (hone : ∀ v ∈ news, v.oneCell' = true)
    (hrow : isRow k.size m cy) (hc : CRep I w (fun _ => none) cy noR [] 0 (news[·]?)) {e : Eff} {r : Nat}
    (he : ((match ev s.t ix with
      | .nsl | .zsl => .chk (apf _ _ (apf _ _ appN (byt P el)) m) (.ok ⟨.sl d [] 0 m k.size none, [(d, ⟨.own, cy⟩)]⟩)
      | .sl hd p i n e cap => (sliceC apf s.h k (.sl hd p i n e cap)).bind fun (_, cx) => (catC apf cx cy).bind fun c =>
        .chk (apf _ _ (apf _ _ appN (byt P el)) (apf _ _ (apf _ _ addN n) m)) <|
        match cap with
        | some cp => .chk (apf _ _ (apf _ _ ltN cp) (apf _ _ (apf _ _ addN n) m)) (.ok ⟨.sl d [] 0 (apf _ _ (apf _ _ addN n) m) k.size none, [(d, ⟨.own, c⟩)]⟩)
        | none => match p, s.h hd with
          | [], some ⟨.own, _⟩ => .ok ⟨.sl d [] 0 (apf _ _ (apf _ _ addN n) m) k.size none, [(hd, ⟨.dead, .any⟩), (d, ⟨.own, c⟩)]⟩
          | _, _ => .fail r
      | _ => .fail r) : R Eff).to e) : StepOk P X o a w s e := by
  have hvx := ev_rep h hx
  split at he
  · rename_i e1
    rw [e1] at hvx
    obtain ⟨hm, rfl⟩ := he
    exact app_nil h hd hdst hn ho ht hk hpos (vr_nsl hvx) hy hnl hrow hc hm
  · rename_i e1
    rw [e1] at hvx
    obtain ⟨hm, rfl⟩ := he
    obtain ⟨ad, hx⟩ := vr_zsl hvx
    exact app_nil h hd hdst hn ho ht hk hpos hx hy hnl hrow hc hm
  · rename_i hd' p i n e' cap e1
    rw [e1] at hvx
    obtain ⟨⟨n', cx⟩, hcx, he1⟩ := bind_to he
    clear he
    obtain ⟨c, hcat, hb, he⟩ := bind_to he1
    clear he1
    have hslx := sliceC_rep h hcx hvx
    obtain ⟨hnn, he'⟩ : n' = n ∧ e' = k.size := by
      simp only [sliceC] at hcx
      split at hcx
      · exact hcx.elim
      · obtain ⟨c', _, hcx⟩ := bind_to hcx
        obtain ⟨hr, _, hcx⟩ := rif_to hcx
        obtain ⟨c2, _, hcx⟩ := bind_to hcx
        cases hcx
        simp only [Bool.and_eq_true, beq_iff_eq] at hr
        exact ⟨rfl, hr.2⟩
      · exact hcx.elim
    subst hnn he'
    cases cap with
    | some cp =>
      obtain ⟨hlt, rfl⟩ := he
      obtain ⟨ad, cp', l, hx', hl, hncp, hcpm, hcap, hplace⟩ := vr_sl hvx
      have hcap : cp' = cp := hcap
      subst hcap
      obtain ⟨olds, f1, f2, f3, f4, f5⟩ := hslx.first (P := P)
      have hcc := fun rest => catC_rep hcat hslx.row hrow f1 f4 hc rest hnl
      exact app_new h hd hdst hn ho ht hk hpos hx' (fun w' hw' => by rw [← hx']; exact f3 w' hw') hy f1 hnl (hcc []).2.1 (fun rest => (hcc rest).2.2) hlt hb
    | none =>
      simp only at he
      split at he
      · rename_i hh
        cases he
        exact app_own h hd hdst hn ho ht hk hpos hvx hh hslx hy hnl hone hcat hrow hc hb
      · exact he.elim
  · exact he.elim
theorem step_app (h : Rep X I ρ ow s a.tmps w) (hd : dstOk X o) {t u el : TypeId} {x y : Operand} {k : EK} {ix iy : IX} (ho : o.op = .call { callee := .builtin .append, args := #[x, y], argTypes := #[t, u] })
    (ht : P.underlying t = some (.slice el)) (hu : P.underlying u = some (.slice el)) (hk : EkOk P el k) (hpos : 0 < byt P el) (hx : opIX x = some ix) (hy : opIX y = some iy) {e : Eff} {E : List (Nat × Ctr)}
    (he : (stepR apf E s.t s.h o.dst (.app k (byt P el) ix iy)).to e) : StepOk P X o a w s e := by
  simp only [stepR] at he
  obtain ⟨d, hdst, hn, he⟩ := fresh_to he
  obtain ⟨⟨m, cy⟩, hcy, he⟩ := bind_to he
  have hsl := sliceC_rep h hcy (ev_rep h hy)
  obtain ⟨news, g1, g2, g3, g4⟩ := Apd.slice (P := P) hu hsl
  exact app_all h hd hdst hn ho ht hk hpos hx g1 g2 g3 hsl.row g4 he
end
end Go.Cx
