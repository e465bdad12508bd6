/-
  Cx 7: the operations that leave memory alone.
-/
import Derived.Test.YtojllgpnhaaagaaDoorCxA
import Derived.ChangeKeysEq
import Derived.Laws.BytesString
namespace Go.Cx
open Go

theorem inR_wrap (k : IntKind) (n : Int) : inR k (k.wrap n) := by
  unfold inR IntKind.wrap
  cases k <;> simp [IntKind.min, IntKind.max, IntKind.bits, IntKind.signed] <;> first | omega | (split <;> omega)

theorem inR_lit {k : IntKind} {n : Int} (h : k.min ≤ n ∧ n ≤ k.max) : inR k n := h

theorem bytesI_rng (s : ByteArray) : ∀ y ∈ bytesI s, inR .u8 y := by
  intro y hy
  simp only [bytesI, List.mem_map] at hy
  obtain ⟨b, _, rfl⟩ := hy
  have := b.toNat_lt
  simp only [inR, IntKind.min, IntKind.max, IntKind.bits, IntKind.signed]
  constructor <;> simp <;> omega

theorem bytesI_len (s : ByteArray) : (bytesI s).length = s.size := by
  show (s.data.toList.map _).length = s.data.size
  rw [List.length_map, Array.length_toList]

theorem toBA_bytesI (s : ByteArray) : toBA (bytesI s) = s := by
  cases s with
  | mk d =>
    simp only [toBA, bytesI, List.map_map]
    congr 1
    have : (fun n : Int => UInt8.ofNat n.toNat) ∘ (fun b : UInt8 => (b.toNat : Int)) = id := by
      funext b
      simp
    rw [this]
    simp

theorem toBA_data (l : List Int) : (toBA l).data.toList = l.map fun n => UInt8.ofNat n.toNat := by simp [toBA]
theorem toBA_size (l : List Int) : (toBA l).size = l.length := by simp [toBA, ByteArray.size]

theorem ofNat_toNat_u8 {n : Int} (h : inR .u8 n) : (((UInt8.ofNat n.toNat).toNat : Nat) : Int) = n := by
  simp only [inR, IntKind.min, IntKind.max, IntKind.bits, IntKind.signed] at h
  obtain ⟨h1, h2⟩ := h
  simp at h1 h2
  simp only [UInt8.toNat_ofNat']
  omega

theorem bytesI_toBA {l : List Int} (h : ∀ y ∈ l, inR .u8 y) : bytesI (toBA l) = l := by
  simp only [bytesI, toBA_data, List.map_map]
  conv => rhs; rw [← List.map_id l]
  apply List.map_congr_left
  intro y hy
  exact ofNat_toNat_u8 (h y hy)

section
variable {I : Nat → Prop} {w : World} {ρ : Rho} {x : Value}

theorem vr_leaf {v : V} (h : VRep I w ρ v x) (hne : v ≠ .any := by simp) (ha : v.isAgg = false := by rfl) (ht : ∀ a b, v ≠ .tcons a b := by simp) (ht' : v ≠ .tnil := by simp) : CRep I w (fun _ => none) v ρ [] 0 (fun j => #[x][j]?) := by
  have h0 : VRep0 I w ρ v x := by
    cases v with
    | tnil => exact absurd rfl ht'
    | tcons a b => exact absurd rfl (ht a b)
    | _ => exact h
  exact (h0.leaf hne ha).2.2

theorem vr_tt (h : VRep I w ρ .tt x) : x = .bool true := by simpa [CRep] using vr_leaf h
theorem vr_ff (h : VRep I w ρ .ff x) : x = .bool false := by simpa [CRep] using vr_leaf h
theorem vr_bool {b : Bool} (h : VRep I w ρ (.bool b) x) : x = .bool b := by simpa [CRep] using vr_leaf h
theorem vr_int {k : IntKind} {n : Int} (h : VRep I w ρ (.int k n) x) : x = .int k n ∧ inR k n := by simpa [CRep] using vr_leaf h
theorem vr_lit {k : IntKind} {n : Int} (h : VRep I w ρ (.lit k n) x) : x = .int k n ∧ inR k n := by simpa [CRep] using vr_leaf h
theorem vr_str {l : List Int} (h : VRep I w ρ (.str l) x) : x = .string (toBA l) ∧ l.length ≤ maxLen ∧ ∀ y ∈ l, inR .u8 y := by simpa [CRep] using vr_leaf h
theorem vr_nilp (h : VRep I w ρ .nilp x) : x = .pointer none := by simpa [CRep] using vr_leaf h
theorem vr_nsl (h : VRep I w ρ .nsl x) : x = .slice none 0 0 := by simpa [CRep] using vr_leaf h
theorem vr_zsl (h : VRep I w ρ .zsl x) : ∃ a, x = .slice a 0 0 := by simpa [CRep] using vr_leaf h
theorem vr_ptr {hd : Nat} {p : List Pt} (h : VRep I w ρ (.ptr hd p) x) : ∃ b off sz, ρ hd = some (.at b off sz) ∧ x = .pointer (some ⟨b, off + poff p, none⟩) := by simpa [CRep] using vr_leaf h
theorem vr_dptr {c : V} {p : List Pt} (h : VRep I w ρ (.dptr c p) x) : ∃ b off, I b ∧ x = .pointer (some ⟨b, off + poff p, none⟩) ∧ CRep I w (fun _ => none) c noR [] 0 (cellsAt w b off) := by simpa [CRep] using vr_leaf h
theorem vr_sl {hd : Nat} {p : List Pt} {i n e : Nat} {cap : Option Nat} (h : VRep I w ρ (.sl hd p i n e cap) x) : ∃ a c l, x = .slice a n c ∧ ρ hd = some l ∧ n ≤ c ∧ c ≤ maxLen ∧ capOk cap c ∧
      (c = 0 ∨ ∃ b off sz, l = .at b off sz ∧ a = some ⟨b, off + (poff p + i * e), none⟩ ∧ poff p + i * e + c * e ≤ sz) := by simpa [CRep] using vr_leaf h
theorem vr_dsl {n e : Nat} {c : V} (h : VRep I w ρ (.dsl n e c) x) : ∃ a cp, x = .slice a n cp ∧ n ≤ cp ∧ cp ≤ maxLen ∧ isRow e n c ∧ CRep I w (fun _ => none) c noR [] 0 (behind w a) ∧ (cp = 0 ∨ ∃ b off, a = some ⟨b, off, none⟩ ∧ I b) := by
  simpa [CRep] using vr_leaf h

theorem vr_agg {v : V} (h : VRep I w ρ v x) (ha : v.isAgg = true) : ∃ cs, x = .agg cs ∧ cs.size = v.size ∧ CRep I w (fun _ => none) v ρ [] 0 (cs[·]?) := by
  have h0 : VRep0 I w ρ v x := by
    cases v with
    | tnil => cases ha
    | tcons a b => cases ha
    | _ => exact h
  rcases h0 with rfl | ⟨h1, h2, h3⟩
  · cases ha
  · rw [ha] at h2
    cases x <;> first | exact ⟨_, rfl, h1, h3⟩ | cases h2

theorem vr_tcons {a b : V} (h : VRep I w ρ (.tcons a b) x) : ∃ l, x = .tuple l.toArray ∧ TRep I w ρ (.tcons a b) l := h

/-- a value that may be stored: its cells -/
theorem vr_full {v : V} (h : VRep I w ρ v x) (hf : v.full = true) : x.cells.size = v.unwrap.size ∧ CRep I w (fun _ => none) v.unwrap ρ [] 0 (x.cells[·]?) ∧ isAggV x = v.isAgg := by
  have h0 : VRep0 I w ρ v x := by
    cases v with
    | tnil => cases hf
    | tcons a b => cases hf
    | _ => exact h
  rcases h0 with rfl | ⟨h1, h2, h3⟩
  · cases hf
  · cases v with
    | one a => exact ⟨by simpa [V.unwrap, V.size] using h1, h3.2, h2⟩
    | _ => exact ⟨h1, h3, h2⟩

theorem leaf_vr {v : V} (hs : v.size = 1) (ha : v.isAgg = false) (hx : isAggV x = false) (h : CRep I w (fun _ => none) v ρ [] 0 (fun _ => some x)) : VRep I w ρ v x := (VRep0.ofLeaf hs ha hx h).up
theorem bool_vr (b : Bool) : VRep I w ρ (.bool b) (.bool b) := leaf_vr rfl rfl rfl rfl
theorem boolV_vr (b : Bool) : VRep I w ρ (boolV b) (.bool b) := by cases b <;> exact leaf_vr rfl rfl rfl rfl
theorem int_vr {k : IntKind} {n : Int} (h : inR k n) : VRep I w ρ (.int k n) (.int k n) := leaf_vr rfl rfl rfl ⟨rfl, h⟩
theorem lit_vr {k : IntKind} {n : Int} (h : inR k n) : VRep I w ρ (.lit k n) (.int k n) := leaf_vr rfl rfl rfl ⟨rfl, h⟩
theorem str_vr {l : List Int} (hn : l.length ≤ maxLen) (h : ∀ y ∈ l, inR .u8 y) : VRep I w ρ (.str l) (.string (toBA l)) := leaf_vr rfl rfl rfl ⟨rfl, hn, h⟩
theorem nilp_vr : VRep I w ρ .nilp (.pointer none) := leaf_vr rfl rfl rfl rfl
theorem nsl_vr : VRep I w ρ .nsl (.slice none 0 0) := leaf_vr rfl rfl rfl rfl
theorem zsl_vr (a : Option Addr) : VRep I w ρ .zsl (.slice a 0 0) := leaf_vr rfl rfl rfl ⟨a, rfl⟩
theorem ptr_vr {hd : Nat} {p : List Pt} {b off sz : Nat} (h : ρ hd = some (.at b off sz)) : VRep I w ρ (.ptr hd p) (.pointer (some ⟨b, off + poff p, none⟩)) := leaf_vr rfl rfl rfl ⟨b, off, sz, h, rfl⟩
theorem agg_vr {v : V} {cs : Array Value} (ha : v.isAgg = true) (hs : cs.size = v.size) (h : CRep I w (fun _ => none) v ρ [] 0 (cs[·]?)) : VRep I w ρ v (.agg cs) := VRep0.up (.inr ⟨hs, ha.symm, h⟩)

theorem constV_rep {v : Value} {c : V} (h : constV v = some c) : VRep I w ρ c v := by
  unfold constV at h
  split at h
  · cases h; exact boolV_vr _
  · split at h
    · cases h; exact lit_vr (by assumption)
    · cases h
  · split at h
    · rename_i s hs
      cases h
      have := str_vr (I := I) (w := w) (ρ := ρ) (by rw [bytesI_len]; simp only [maxLen]; omega) (bytesI_rng s)
      rwa [toBA_bytesI] at this
    · cases h
  · cases h; exact nilp_vr
  · cases h; exact nsl_vr
  · cases h
end

section
variable {P : Program} {pure : Nat → Bool} {X : Fix} {I : Nat → Prop} {ρ : Rho} {ow : Own} {s : St} {a : Act} {w : World} {o : Oper}

theorem ev_rep (h : Rep X I ρ ow s a.tmps w) {x : Operand} {i : IX} (hx : opIX x = some i) : VRep I w ρ (ev s.t i) (a.eval x) := by
  cases x with
  | tmp t => cases hx; exact h.tmps t
  | const v =>
    simp only [opIX, Option.map_eq_some_iff] at hx
    obtain ⟨c, hc, rfl⟩ := hx
    exact constV_rep hc
  | global g =>
    cases hx
    obtain ⟨sz, hg⟩ := h.glob g
    have := ptr_vr (I := I) (w := w) (p := []) hg
    simpa [poff, ev, Act.eval] using this
  | func f => cases hx

/-- what a step of the small code promises of the step of the program -/
def StepOk (P : Program) (X : Fix) (o : Oper) (a : Act) (w : World) (s : St) (e : Eff) : Prop :=
  (∃ x w', (execOp a.eval o).run P w = .ok (.value x) w' ∧ RepE X (e.on o.dst s) (a.put o.dst x).tmps w') ∨
  (∃ w', (execOp a.eval o).run P w = .ok .skip w' ∧ RepE X (e.on o.dst s) (a.put o.dst undef).tmps w') ∨
  (∃ f args w1, (execOp a.eval o).run P w = .ok (.enter f args) w1 ∧ Calls P f args w1 fun en w' => ∃ x, en = .returned x ∧ RepE X (e.on o.dst s) (a.put o.dst x).tmps w')

def dstOk (X : Fix) (o : Oper) : Prop := ∀ d, o.dst = some d → d < X.N

theorem Rep.putD (h : Rep X I ρ ow s a.tmps w) (hd : dstOk X o) {v : V} {x : Value} (hv : VRep I w ρ v x) : Rep X I ρ ow ⟨putT s.t o.dst v, s.h⟩ (a.put o.dst x).tmps w := by
  unfold dstOk at hd
  cases hdst : o.dst with
  | none => exact h
  | some d => exact h.setT (hd d hdst) hv

theorem stepVal (h : Rep X I ρ ow s a.tmps w) (hd : dstOk X o) {v : V} {x : Value} (hrun : (execOp a.eval o).run P w = .ok (.value x) w) (hv : VRep I w ρ v x) : StepOk P X o a w s (noEff v) :=
  .inl ⟨x, w, hrun, I, ρ, ow, h.putD hd hv⟩

/-- the same where the run only draws -/
theorem stepVal' (h : Rep X I ρ ow s a.tmps w) (hd : dstOk X o) {v : V} {x : Value} {w' : World} (hw : Only w w' none) (hrun : (execOp a.eval o).run P w = .ok (.value x) w') (hv : VRep I w ρ v x) : StepOk P X o a w s (noEff v) :=
  .inl ⟨x, w', hrun, I, ρ, ow, (h.grow hw).putD hd (hv.mono (fun b hb => ⟨hb, hw.block b (h.ilt b hb) (by simp)⟩) (Rho.le_refl _))⟩
end
end Go.Cx

/- Cx 8: numbers, comparisons, conversions. -/
namespace Go.Cx
open Go

section
variable {P : Program} {pure : Nat → Bool} {X : Fix} {I : Nat → Prop} {ρ : Rho} {ow : Own} {s : St} {a : Act} {w : World} {o : Oper}

/-- a number's value -/
theorem num_vr {v : V} {x : Value} (h : VRep I w ρ v x) : ∀ k n, (v = .int k n ∨ v = .lit k n) → x = .int k n ∧ inR k n := by
  rintro k n (rfl | rfl)
  · exact vr_int h
  · exact vr_lit h

theorem numOut {v : V} {k : IntKind} {n : Int} (hv : v = .int k n ∨ v = .lit k n) (h : inR k n) : VRep I w ρ v (.int k n) := by
  rcases hv with rfl | rfl
  · exact int_vr h
  · exact lit_vr h

theorem inR_tmod {k : IntKind} {x y : Int} (hx : inR k x) : inR k (x.tmod y) := by
  obtain ⟨h1, h2⟩ := hx
  have hmin : k.min ≤ 0 := by cases k <;> simp [IntKind.min, IntKind.signed, IntKind.bits]
  have hmax : 0 ≤ k.max := by cases k <;> simp [IntKind.max, IntKind.signed, IntKind.bits]
  have e := Int.tmod_def x y
  rcases Int.le_total 0 x with hx0 | hx0
  · have := Int.tmod_nonneg (b := y) hx0
    have h3 : x.tmod y ≤ x := by
      have h4 : (x.tmod y).natAbs ≤ x.natAbs := by
        rw [Int.natAbs_tmod]
        exact Nat.mod_le _ _
      omega
    exact ⟨by omega, by omega⟩
  · have h4 : (x.tmod y).natAbs ≤ x.natAbs := by
      rw [Int.natAbs_tmod]
      exact Nat.mod_le _ _
    have h5 : x.tmod y ≤ 0 := by
      have := Int.tmod_nonneg (a := -x) (b := y) (by omega)
      rw [Int.neg_tmod] at this
      omega
    exact ⟨by omega, by omega⟩

theorem inR_fdiv {k : IntKind} {x : Int} (hx : inR k x) (n : Nat) : inR k (x.fdiv (2 ^ n)) := by
  obtain ⟨h1, h2⟩ := hx
  have hmin : k.min ≤ 0 := by cases k <;> simp [IntKind.min, IntKind.signed, IntKind.bits]
  have hmax : 0 ≤ k.max := by cases k <;> simp [IntKind.max, IntKind.signed, IntKind.bits]
  have hp : (0 : Int) < 2 ^ n := Int.pow_pos (by decide)
  rw [Int.fdiv_eq_ediv_of_nonneg _ (by omega)]
  rcases Int.le_total 0 x with hx0 | hx0
  · have h3 := Int.ediv_nonneg hx0 (Int.le_of_lt hp)
    have h4 := Int.ediv_le_self (2 ^ n) hx0
    exact ⟨by omega, by omega⟩
  · have h3 : x ≤ x / 2 ^ n := by
      rw [Int.le_ediv_iff_mul_le hp]
      have : x * 2 ^ n ≤ x * 1 := Int.mul_le_mul_of_nonpos_left hx0 (by omega)
      omega
    have h4 : x / 2 ^ n ≤ 0 := by
      have : x / 2 ^ n < 1 := by
        rw [Int.ediv_lt_iff_lt_mul hp]
        omega
      omega
    exact ⟨by omega, by omega⟩

theorem arF_in {op : BinOp} {k : IntKind} {x y : Int} (hop : isAr op = true) (hx : inR k x) : inR k (arF op k x y) := by
  cases op <;> simp only [isAr] at hop <;> first
    | exact inR_wrap _ _
    | exact inR_tmod hx
    | cases hop

theorem run_binOp_ar {op : BinOp} {t : TypeId} {k : IntKind} {x y : Int} (hop : isAr op = true) (hd : isDiv op = true → y ≠ 0) (w : World) :
    (binOp op t (.int k x) (.int k y)).run P w = .ok (.int k (arF op k x y)) w := by
  cases op <;> simp only [isAr, Bool.false_eq_true] at hop <;> simp_all [binOp, arF, Op.intArith, Op.intDiv, Op.intBits, isDiv, wadd, wsub, wmul, wquo, wrem, band, bor, bxor, bandn]

theorem eqGuard_int (op : BinOp) (t : TypeId) (x y : Operand) (k : IntKind) (n : Int) (v : Value) : eqGuard op t x y (.int k n) v = Pure.pure () := eqGuard_at_int op t x y v k n

theorem execOp_bin {op : BinOp} {t yt : TypeId} {x y : Operand} (ho : o.op = .binOp op t x y yt) {k : IntKind} {n : Int} {u v : Value} (hx : a.eval x = .int k n) (hy : a.eval y = u) (hrun : (binOp op t (.int k n) u).run P w = .ok v w) :
    (execOp a.eval o).run P w = .ok (.value v) w := by
  simp [execOp, ho, hx, hy, eqGuard_int, hrun]

theorem step_ar (h : Rep X I ρ ow s a.tmps w) (hd : dstOk X o) {op : BinOp} {t yt : TypeId} {x y : Operand} {ix iy : IX} {k : IntKind} (ho : o.op = .binOp op t x y yt) (hop : isAr op = true)
    (hx : opIX x = some ix) (hy : opIX y = some iy) {e : Eff} (he : ((arR apf op (ev s.t ix) (ev s.t iy)).bind fun v => .ok (noEff v)).to e) (_ : k = k) : StepOk P X o a w s e := by
  obtain ⟨v, hv, rfl⟩ := bind_to he
  have hvx := ev_rep h hx
  have hvy := ev_rep h hy
  have fin : ∀ (k : IntKind) (n m : Int), (ev s.t ix = .int k n ∨ ev s.t ix = .lit k n) → (ev s.t iy = .int k m ∨ ev s.t iy = .lit k m) → (isDiv op = true → m ≠ 0) →
      (v = .int k (arF op k n m) ∨ v = .lit k (arF op k n m)) → StepOk P X o a w s (noEff v) := by
    intro k n m hn hm hdiv hv
    obtain ⟨ex, rx⟩ := num_vr hvx k n hn
    obtain ⟨ey, _⟩ := num_vr hvy k m hm
    exact stepVal h hd (execOp_bin ho ex ey (run_binOp_ar hop hdiv w)) (numOut hv (arF_in hop rx))
  unfold arR at hv
  split at hv
  all_goals first | exact hv.elim | skip
  · rename_i k n k' m e1 e2
    obtain ⟨h1, h2⟩ := rif_to hv
    simp only [Bool.and_eq_true, beq_iff_eq, Bool.not_eq_true', Bool.and_eq_false_imp] at h1
    obtain ⟨rfl, h3⟩ := h1
    exact fin k n m (.inr e1) (.inr e2) (fun hd0 hm0 => by have := h3 hd0; simp [hm0] at this) (.inr h2.symm)
  · rename_i k n k' m e1 e2
    obtain ⟨h1, h2⟩ := rif_to hv
    simp only [Bool.and_eq_true, beq_iff_eq, Bool.not_eq_true', Bool.and_eq_false_imp] at h1
    obtain ⟨rfl, h3⟩ := h1
    exact fin k n m (.inl e1) (.inr e2) (fun hd0 hm0 => by have := h3 hd0; simp [hm0] at this) (.inl h2.symm)
  · rename_i k n k' m e1 e2
    obtain ⟨h1, h2⟩ := rif_to hv
    have h1 : k = k' := by simpa using h1
    subst h1
    split at h2
    · exact fin k n m (.inr e1) (.inl e2) (fun _ => h2.1) (.inl h2.2.symm)
    · rename_i hnd
      exact fin k n m (.inr e1) (.inl e2) (fun hd0 => absurd hd0 hnd) (.inl h2.symm)
  · rename_i k n k' m e1 e2
    obtain ⟨h1, h2⟩ := rif_to hv
    have h1 : k = k' := by simpa using h1
    subst h1
    split at h2
    · exact fin k n m (.inl e1) (.inl e2) (fun _ => h2.1) (.inl h2.2.symm)
    · rename_i hnd
      exact fin k n m (.inl e1) (.inl e2) (fun hd0 => absurd hd0 hnd) (.inl h2.symm)

theorem run_binOp_cmp {op : BinOp} {t : TypeId} {k : IntKind} {x y : Int} (hop : isCmp op = true) (w : World) :
    (binOp op t (.int k x) (.int k y)).run P w = .ok (.bool (cmF op x y)) w := by
  cases op <;> simp only [isCmp, Bool.false_eq_true] at hop <;> simp [binOp, cmF, Op.intCmp, eqI, neI, ltI, leI, gtI, geI] <;> first | rfl | (by_cases hxy : x = y <;> simp [hxy])

theorem step_cmp (h : Rep X I ρ ow s a.tmps w) (hd : dstOk X o) {op : BinOp} {t yt : TypeId} {x y : Operand} {ix iy : IX} (ho : o.op = .binOp op t x y yt) (hop : isCmp op = true)
    (hx : opIX x = some ix) (hy : opIX y = some iy) {e : Eff} (he : ((cmR apf op (ev s.t ix) (ev s.t iy)).bind fun v => .ok (noEff v)).to e) : StepOk P X o a w s e := by
  obtain ⟨v, hv, rfl⟩ := bind_to he
  have hvx := ev_rep h hx
  have hvy := ev_rep h hy
  have fin : ∀ (k : IntKind) (n m : Int), (ev s.t ix = .int k n ∨ ev s.t ix = .lit k n) → (ev s.t iy = .int k m ∨ ev s.t iy = .lit k m) →
      (v = .bool (cmF op n m) ∨ v = boolV (cmF op n m)) → StepOk P X o a w s (noEff v) := by
    intro k n m hn hm hv
    obtain ⟨ex, rx⟩ := num_vr hvx k n hn
    obtain ⟨ey, _⟩ := num_vr hvy k m hm
    refine stepVal h hd (execOp_bin ho ex ey (run_binOp_cmp hop w)) ?_
    rcases hv with rfl | rfl
    · exact bool_vr _
    · exact boolV_vr _
  unfold cmR at hv
  split at hv
  all_goals first
    | exact hv.elim
    | (rename_i k n k' m e1 e2
       obtain ⟨h1, h2⟩ := rif_to hv
       have h1 : k = k' := by simpa using h1
       subst h1
       first
         | exact fin k n m (.inr e1) (.inr e2) (.inr h2.symm)
         | exact fin k n m (.inl e1) (.inr e2) (.inl h2.symm)
         | exact fin k n m (.inr e1) (.inl e2) (.inl h2.symm)
         | exact fin k n m (.inl e1) (.inl e2) (.inl h2.symm))

theorem step_shf (h : Rep X I ρ ow s a.tmps w) (hd : dstOk X o) {op : BinOp} {t yt : TypeId} {x y : Operand} {ix iy : IX} (ho : o.op = .binOp op t x y yt) (hop : op = .shl ∨ op = .shr)
    (hx : opIX x = some ix) (hy : opIX y = some iy) {e : Eff} (he : ((shR apf op (ev s.t ix) (ev s.t iy)).bind fun v => .ok (noEff v)).to e) : StepOk P X o a w s e := by
  obtain ⟨v, hv, rfl⟩ := bind_to he
  have hvx := ev_rep h hx
  have hvy := ev_rep h hy
  have fin : ∀ (k k' : IntKind) (n m : Int), (ev s.t ix = .int k n ∨ ev s.t ix = .lit k n) → (ev s.t iy = .int k' m ∨ ev s.t iy = .lit k' m) → 0 ≤ m →
      (v = .int k (arF op k n m) ∨ v = .lit k (arF op k n m)) → StepOk P X o a w s (noEff v) := by
    intro k k' n m hn hm hm0 hv
    obtain ⟨ex, rx⟩ := num_vr hvx k n hn
    obtain ⟨ey, _⟩ := num_vr hvy k' m hm
    have hrun : (binOp op t (.int k n) (.int k' m)).run P w = .ok (.int k (arF op k n m)) w := by
      rcases hop with rfl | rfl <;> simp [binOp, Op.shift, arF, bshl, bshr, show ¬ m < 0 by omega]
    refine stepVal h hd (execOp_bin ho ex ey hrun) (numOut hv ?_)
    rcases hop with rfl | rfl
    · exact inR_wrap _ _
    · exact inR_fdiv rx _
  unfold shR at hv
  split at hv
  all_goals first | exact hv.elim | skip
  · rename_i k n k' m e1 e2
    obtain ⟨h1, h2⟩ := rif_to hv
    exact fin k _ n m (.inr e1) (.inr e2) (by simpa using h1) (.inr h2.symm)
  · rename_i k n k' m e1 e2
    obtain ⟨h1, h2⟩ := rif_to hv
    exact fin k _ n m (.inl e1) (.inr e2) (by simpa using h1) (.inl h2.symm)
  · rename_i k n k' m e1 e2
    exact fin k _ n m (.inr e1) (.inl e2) hv.1 (.inl hv.2.symm)
  · rename_i k n k' m e1 e2
    exact fin k _ n m (.inl e1) (.inl e2) hv.1 (.inl hv.2.symm)

theorem step_mv (h : Rep X I ρ ow s a.tmps w) (hd : dstOk X o) {x : Operand} {ix : IX} (ho : o.op = .move x ∨ o.op = .assign x) (hx : opIX x = some ix) {e : Eff} (he : (R.ok (noEff (ev s.t ix))).to e) : StepOk P X o a w s e := by
  cases he
  refine stepVal h hd (x := a.eval x) ?_ (ev_rep h hx)
  rcases ho with ho | ho <;> simp [execOp, ho]

theorem step_nck (h : Rep X I ρ ow s a.tmps w) (hd : dstOk X o) {x : Operand} {ix : IX} (ho : o.op = .nilCheck x) (hx : opIX x = some ix) {e : Eff}
    (he : (match ev s.t ix with | .ptr h p => R.ok (noEff (.ptr h p)) | .dptr c p => .ok (noEff (.dptr c p)) | _ => .fail 60).to e) : StepOk P X o a w s e := by
  have hv := ev_rep h hx
  split at he
  · rename_i hd' p e1
    cases he
    rw [e1] at hv
    obtain ⟨b, off, sz, _, h2⟩ := vr_ptr hv
    exact stepVal h hd (x := a.eval x) (by simp [execOp, ho, h2]) hv
  · rename_i c p e1
    cases he
    rw [e1] at hv
    obtain ⟨b, off, _, h2, _⟩ := vr_dptr hv
    exact stepVal h hd (x := a.eval x) (by simp [execOp, ho, h2]) hv
  · exact he.elim

theorem step_pick (h : Rep X I ρ ow s a.tmps w) (hd : dstOk X o) {c x y : Operand} {ic ix iy : IX} (ho : o.op = .pick c x y) (hc : opIX c = some ic) (hx : opIX x = some ix) (hy : opIX y = some iy) {e : Eff}
    (he : (match ev s.t ic with | .tt => R.ok (noEff (ev s.t ix)) | .ff => .ok (noEff (ev s.t iy)) | .bool z => .br z (.ok (noEff (ev s.t ix))) (.ok (noEff (ev s.t iy))) | _ => .fail 61).to e) : StepOk P X o a w s e := by
  have hv := ev_rep h hc
  have yes : a.eval c = .bool true → StepOk P X o a w s (noEff (ev s.t ix)) := fun hb => stepVal h hd (x := a.eval x) (by simp [execOp, ho, hb, asBool]) (ev_rep h hx)
  have no : a.eval c = .bool false → StepOk P X o a w s (noEff (ev s.t iy)) := fun hb => stepVal h hd (x := a.eval y) (by simp [execOp, ho, hb, asBool]) (ev_rep h hy)
  split at he
  · rename_i e1; rw [e1] at hv; cases he; exact yes (vr_tt hv)
  · rename_i e1; rw [e1] at hv; cases he; exact no (vr_ff hv)
  · rename_i z e1
    rw [e1] at hv
    have hb := vr_bool hv
    rcases he with ⟨rfl, he⟩ | ⟨rfl, he⟩
    · cases he; exact yes hb
    · cases he; exact no hb
  · exact he.elim

theorem step_neg (h : Rep X I ρ ow s a.tmps w) (hd : dstOk X o) {k : IntKind} {t : TypeId} {x : Operand} {ix : IX} (ho : o.op = .unOp .neg t x) (hx : opIX x = some ix) {e : Eff}
    (he : (match ev s.t ix with | .lit k' n => rif (k == k') 67 (.ok (noEff (.lit k (wneg k n)))) | .int k' n => rif (k == k') 67 (.ok (noEff (.int k (wneg k n)))) | _ => .fail 67).to e) : StepOk P X o a w s e := by
  have hv := ev_rep h hx
  have fin : ∀ n v, a.eval x = .int k n → (v = .int k (wneg k n) ∨ v = .lit k (wneg k n)) → StepOk P X o a w s (noEff v) := fun n v hn hv =>
    stepVal h hd (x := .int k (wneg k n)) (by simp [execOp, ho, hn, Op.unary, Op.intArith, wneg]) (numOut hv (inR_wrap _ _))
  split at he
  · rename_i k' n e1
    rw [e1] at hv
    obtain ⟨h1, h2⟩ := rif_to he
    have : k = k' := by simpa using h1
    subst this
    cases h2
    exact fin n _ (vr_lit hv).1 (.inr rfl)
  · rename_i k' n e1
    rw [e1] at hv
    obtain ⟨h1, h2⟩ := rif_to he
    have : k = k' := by simpa using h1
    subst this
    cases h2
    exact fin n _ (vr_int hv).1 (.inl rfl)
  · exact he.elim

theorem step_cpl (h : Rep X I ρ ow s a.tmps w) (hd : dstOk X o) {k : IntKind} {t : TypeId} {x : Operand} {ix : IX} (ho : o.op = .unOp .xor t x) (hx : opIX x = some ix) {e : Eff}
    (he : (match ev s.t ix with | .lit k' n => rif (k == k') 68 (.ok (noEff (.lit k (bcpl k n)))) | .int k' n => rif (k == k') 68 (.ok (noEff (.int k (bcpl k n)))) | _ => .fail 68).to e) : StepOk P X o a w s e := by
  have hv := ev_rep h hx
  have fin : ∀ n v, a.eval x = .int k n → (v = .int k (bcpl k n) ∨ v = .lit k (bcpl k n)) → StepOk P X o a w s (noEff v) := fun n v hn hv =>
    stepVal h hd (x := .int k (bcpl k n)) (by simp [execOp, ho, hn, Op.unary, Op.intBits, bcpl, bxor]) (numOut hv (inR_wrap _ _))
  split at he
  · rename_i k' n e1
    rw [e1] at hv
    obtain ⟨h1, h2⟩ := rif_to he
    have : k = k' := by simpa using h1
    subst this
    cases h2
    exact fin n _ (vr_lit hv).1 (.inr rfl)
  · rename_i k' n e1
    rw [e1] at hv
    obtain ⟨h1, h2⟩ := rif_to he
    have : k = k' := by simpa using h1
    subst this
    cases h2
    exact fin n _ (vr_int hv).1 (.inl rfl)
  · exact he.elim

theorem step_not (h : Rep X I ρ ow s a.tmps w) (hd : dstOk X o) {t : TypeId} {x : Operand} {ix : IX} (ho : o.op = .unOp .not t x) (hx : opIX x = some ix) {e : Eff}
    (he : (match ev s.t ix with | .tt => R.ok (noEff .ff) | .ff => .ok (noEff .tt) | .bool b => .ok (noEff (.bool (notB b))) | _ => .fail 69).to e) : StepOk P X o a w s e := by
  have hv := ev_rep h hx
  have fin : ∀ b v, a.eval x = .bool b → VRep I w ρ v (.bool (!b)) → StepOk P X o a w s (noEff v) := fun b v hb hv =>
    stepVal h hd (x := .bool (!b)) (by simp [execOp, ho, hb, Op.unary]) hv
  split at he
  · rename_i e1; rw [e1] at hv; cases he; exact fin _ _ (vr_tt hv) (boolV_vr false)
  · rename_i e1; rw [e1] at hv; cases he; exact fin _ _ (vr_ff hv) (boolV_vr true)
  · rename_i b e1; rw [e1] at hv; cases he; exact fin _ _ (vr_bool hv) (bool_vr _)
  · exact he.elim

theorem step_cv (h : Rep X I ρ ow s a.tmps w) (hd : dstOk X o) {k j : IntKind} {t u : TypeId} {x : Operand} {ix : IX} (ho : o.op = .convert t u x) (hu : P.underlying u = some (.int k)) (ht : P.underlying t = some (.int j)) (hx : opIX x = some ix) {e : Eff}
    (he : (match ev s.t ix with | .lit _ n => R.ok (noEff (.lit k (wcv k n))) | .int _ n => .ok (noEff (.int k (wcv k n))) | _ => .fail 70).to e) : StepOk P X o a w s e := by
  have hv := ev_rep h hx
  have fin : ∀ k' n v, a.eval x = .int k' n → (v = .int k (wcv k n) ∨ v = .lit k (wcv k n)) → StepOk P X o a w s (noEff v) := fun k' n v hn hv =>
    stepVal h hd (x := .int k (wcv k n)) (by simp [execOp, ho, hn, convert, run_underlying hu, run_underlying ht, Conv.intToInt, wcv]) (numOut hv (inR_wrap _ _))
  split at he
  · rename_i k' n e1; rw [e1] at hv; cases he; exact fin _ n _ (vr_lit hv).1 (.inr rfl)
  · rename_i k' n e1; rw [e1] at hv; cases he; exact fin _ n _ (vr_int hv).1 (.inl rfl)
  · exact he.elim

theorem minmax_in {k : IntKind} {n m : Int} (hn : inR k n) (hm : inR k m) : inR k (minI n m) ∧ inR k (maxI n m) := by
  unfold minI maxI
  constructor <;> (split <;> assumption)

theorem step_min (h : Rep X I ρ ow s a.tmps w) (hd : dstOk X o) {x y : Operand} {ix iy : IX} {ts : Array TypeId} (ho : o.op = .call { callee := .builtin .min, args := #[x, y], argTypes := ts })
    (hx : opIX x = some ix) (hy : opIX y = some iy) {e : Eff} (he : ((minR apf (ev s.t ix) (ev s.t iy)).bind fun v => .ok (noEff v)).to e) : StepOk P X o a w s e := by
  obtain ⟨v, hv, rfl⟩ := bind_to he
  have hvx := ev_rep h hx
  have hvy := ev_rep h hy
  have fin : ∀ (k : IntKind) (n m : Int), (ev s.t ix = .int k n ∨ ev s.t ix = .lit k n) → (ev s.t iy = .int k m ∨ ev s.t iy = .lit k m) →
      (v = .int k (minI n m) ∨ v = .lit k (minI n m)) → StepOk P X o a w s (noEff v) := by
    intro k n m hn hm hv
    obtain ⟨ex, rx⟩ := num_vr hvx k n hn
    obtain ⟨ey, ry⟩ := num_vr hvy k m hm
    exact stepVal h hd (x := .int k (minI n m)) (by simp [execOp, ho, Go.resolve, invoke, builtin, Builtin.min_, Builtin.min2, ex, ey, minI]) (numOut hv (minmax_in rx ry).1)
  unfold minR at hv
  split at hv
  all_goals first
    | exact hv.elim
    | (rename_i k n k' m e1 e2
       obtain ⟨h1, h2⟩ := rif_to hv
       have h1 : k = k' := by simpa using h1
       subst h1
       first
         | exact fin k n m (.inr e1) (.inr e2) (.inr h2.symm)
         | exact fin k n m (.inl e1) (.inr e2) (.inl h2.symm)
         | exact fin k n m (.inr e1) (.inl e2) (.inl h2.symm)
         | exact fin k n m (.inl e1) (.inl e2) (.inl h2.symm))

theorem step_max (h : Rep X I ρ ow s a.tmps w) (hd : dstOk X o) {x y : Operand} {ix iy : IX} {ts : Array TypeId} (ho : o.op = .call { callee := .builtin .max, args := #[x, y], argTypes := ts })
    (hx : opIX x = some ix) (hy : opIX y = some iy) {e : Eff} (he : ((maxR apf (ev s.t ix) (ev s.t iy)).bind fun v => .ok (noEff v)).to e) : StepOk P X o a w s e := by
  obtain ⟨v, hv, rfl⟩ := bind_to he
  have hvx := ev_rep h hx
  have hvy := ev_rep h hy
  have fin : ∀ (k : IntKind) (n m : Int), (ev s.t ix = .int k n ∨ ev s.t ix = .lit k n) → (ev s.t iy = .int k m ∨ ev s.t iy = .lit k m) →
      (v = .int k (maxI n m) ∨ v = .lit k (maxI n m)) → StepOk P X o a w s (noEff v) := by
    intro k n m hn hm hv
    obtain ⟨ex, rx⟩ := num_vr hvx k n hn
    obtain ⟨ey, ry⟩ := num_vr hvy k m hm
    exact stepVal h hd (x := .int k (maxI n m)) (by simp [execOp, ho, Go.resolve, invoke, builtin, Builtin.max_, Builtin.max2, ex, ey, maxI]) (numOut hv (minmax_in rx ry).2)
  unfold maxR at hv
  split at hv
  all_goals first
    | exact hv.elim
    | (rename_i k n k' m e1 e2
       obtain ⟨h1, h2⟩ := rif_to hv
       have h1 : k = k' := by simpa using h1
       subst h1
       first
         | exact fin k n m (.inr e1) (.inr e2) (.inr h2.symm)
         | exact fin k n m (.inl e1) (.inr e2) (.inl h2.symm)
         | exact fin k n m (.inr e1) (.inl e2) (.inl h2.symm)
         | exact fin k n m (.inl e1) (.inl e2) (.inl h2.symm))
end
end Go.Cx

/- Cx 9: comparisons of other kinds, lengths, addresses, slices, parts of values. -/
namespace Go.Cx
open Go

section
variable {P : Program} {pure : Nat → Bool} {X : Fix} {I : Nat → Prop} {ρ : Rho} {ow : Own} {s : St} {a : Act} {w : World} {o : Oper}

/-! ### == -/
theorem notV_vr {v : V} {b : Bool} (h : VRep I w ρ v (.bool b)) (hv : v = .tt ∨ v = .ff ∨ ∃ c, v = .bool c) : VRep I w ρ (notV apf v) (.bool (!b)) := by
  rcases hv with rfl | rfl | ⟨c, rfl⟩
  · have := vr_tt h; simp at this; subst this; exact boolV_vr false
  · have := vr_ff h; simp at this; subst this; exact boolV_vr true
  · have := vr_bool h; simp at this; subst this; exact bool_vr _

theorem maxDepth_succ : Op.maxDepth = 9999 + 1 := rfl

theorem run_equal_bool {t : TypeId} (ht : P.underlying t = some .bool) (b c : Bool) (w : World) : (Op.equal t (.bool b) (.bool c)).run P w = .ok (b == c) w := by
  have key : ∀ d, (Op.equalIn (d + 1) t (.bool b) (.bool c)).run P w = .ok (b == c) w := fun d => by simp [Op.equalIn, run_underlying ht]
  exact key 9999

theorem run_equal_ptr {t e : TypeId} (ht : P.underlying t = some (.pointer e)) (x y : Option Addr) (hn : x = none ∨ y = none) (w : World) : (Op.equal t (.pointer x) (.pointer y)).run P w = .ok (x.isNone && y.isNone) w := by
  have key : ∀ d, (Op.equalIn (d + 1) t (.pointer x) (.pointer y)).run P w = .ok (x.isNone && y.isNone) w := fun d => by
    cases x <;> cases y <;> simp_all [Op.equalIn, run_underlying ht]
  exact key 9999

theorem run_equal_sl {t e : TypeId} (ht : P.underlying t = some (.slice e)) (x : Option Addr) (n c : Nat) (w : World) : (Op.equal t (.slice x n c) (.slice none 0 0)).run P w = .ok x.isNone w := by
  have key : ∀ d, (Op.equalIn (d + 1) t (.slice x n c) (.slice none 0 0)).run P w = .ok x.isNone w := fun d => by
    cases x <;> simp [Op.equalIn, run_underlying ht]
  exact key 9999

theorem run_binOp_eqB {t : TypeId} (ht : P.underlying t = some .bool) (b c : Bool) (w : World) : (binOp .eql t (.bool b) (.bool c)).run P w = .ok (.bool (b == c)) w ∧ (binOp .neq t (.bool b) (.bool c)).run P w = .ok (.bool (!(b == c))) w := by
  constructor <;> simp [binOp, run_equal_bool ht]

theorem toBA_inj {l m : List Int} (hl : ∀ y ∈ l, inR .u8 y) (hm : ∀ y ∈ m, inR .u8 y) : ((toBA l).toList == (toBA m).toList) = decide (l = m) := by
  by_cases h : l = m
  · subst h; simp
  · rw [decide_eq_false h]
    simp only [beq_eq_false_iff_ne, ne_eq]
    intro e
    apply h
    have e1 : (toBA l).data.toList = (toBA m).data.toList := by
      simpa [ByteArray.toList_eq] using e
    have : bytesI (toBA l) = bytesI (toBA m) := by unfold bytesI; rw [e1]
    rwa [bytesI_toBA hl, bytesI_toBA hm] at this

theorem eqGuardType_ints {t e : TypeId} {n : Nat} {k : IntKind} (ht : P.underlying t = some (.array n e)) (he : P.underlying e = some (.int k)) : P.eqGuardType P.depth t = false := by
  have hd : P.depth = 2 * (P.types.size + Made.depth) + 1 + 1 := rfl
  rw [hd]
  simp [Program.eqGuardType, ht, he]

theorem run_eqItems_ints {e : TypeId} {k : IntKind} (he : P.underlying e = some (.int k)) (hc : P.cellsOf e = 1) (d : Nat) (xs ys : Array Value) (w : World) :
    ∀ (is : List Nat) (l m : Nat → Int), (∀ i ∈ is, xs[i]? = some (.int k (l i)) ∧ ys[i]? = some (.int k (m i))) → (Op.eqItems (d + 1) e 1 xs ys is).run P w = .ok (decide (∀ i ∈ is, l i = m i)) w
  | [], _, _, _ => by simp [Op.eqItems]
  | i :: is, l, m, h => by
    have hi := h i (by simp)
    have p1 : (part e xs (i * 1)).run P w = .ok (.int k (l i)) w := by simp [part, isAgg, run_underlying he, hi.1]
    have p2 : (part e ys (i * 1)).run P w = .ok (.int k (m i)) w := by simp [part, isAgg, run_underlying he, hi.2]
    have p3 : (Op.equalIn (d + 1) e (.int k (l i)) (.int k (m i))).run P w = .ok (l i == m i) w := by simp [Op.equalIn, run_underlying he]
    simp only [Op.eqItems, Sem.run_bind, p1, p2, p3, Result.andThen_ok]
    by_cases hlm : l i = m i
    · have ih := run_eqItems_ints he hc d xs ys w is l m (fun j hj => h j (by simp [hj]))
      simp [hlm, ih]
    · simp [hlm]

theorem list_eq_iff {l m : List Int} {n : Nat} (hl : l.length = n) (hm : m.length = n) : (∀ i ∈ List.range n, nthI l i = nthI m i) ↔ l = m := by
  constructor
  · intro h
    apply List.ext_getElem (by omega)
    intro i h1 h2
    have := h i (by simp; omega)
    simpa [nthI, List.getD_eq_getElem?_getD, List.getElem?_eq_getElem h1, List.getElem?_eq_getElem h2] using this
  · rintro rfl i _; rfl

theorem run_binOp_eqA {t e : TypeId} {n : Nat} {k : IntKind} (ht : P.underlying t = some (.array n e)) (he : P.underlying e = some (.int k)) (hc : P.cellsOf e = 1) {l m : List Int} {xs ys : Array Value}
    (hl : l.length = n) (hm : m.length = n) (hx : ∀ j, j < n → xs[j]? = some (.int k (nthI l j))) (hy : ∀ j, j < n → ys[j]? = some (.int k (nthI m j))) (w : World) :
    (binOp .eql t (.agg xs) (.agg ys)).run P w = .ok (.bool (decide (l = m))) w ∧ (binOp .neq t (.agg xs) (.agg ys)).run P w = .ok (.bool (!(decide (l = m)))) w := by
  obtain ⟨i, hi⟩ := info_of_underlying he
  have key : (Op.equal t (.agg xs) (.agg ys)).run P w = .ok (decide (l = m)) w := by
    rw [Op.equal, maxDepth_succ, run_equalIn_array w 9999 xs ys ht hi, hc]
    have := run_eqItems_ints he hc 9998 xs ys w (List.range n) (nthI l) (nthI m) (fun j hj => ⟨hx j (by simpa using hj), hy j (by simpa using hj)⟩)
    rw [show (9999 : Nat) = 9998 + 1 from rfl, this]
    congr 1
    exact decide_eq_decide.2 (list_eq_iff hl hm)
  constructor <;> simp [binOp, key]

theorem eqTy_b {t : TypeId} (hty : eqTy P (P.underlying t) = some .b) : P.underlying t = some .bool := by
  cases hu : P.underlying t with
  | none => rw [hu] at hty; cases hty
  | some d => rw [hu] at hty; cases d <;> simp [eqTy] at hty ⊢; split at hty <;> first | (split at hty <;> cases hty) | cases hty
theorem eqTy_p {t : TypeId} (hty : eqTy P (P.underlying t) = some .p) : ∃ el, P.underlying t = some (.pointer el) := by
  cases hu : P.underlying t with
  | none => rw [hu] at hty; cases hty
  | some d => rw [hu] at hty; cases d <;> simp [eqTy] at hty ⊢; split at hty <;> first | (split at hty <;> cases hty) | cases hty
theorem eqTy_l {t : TypeId} (hty : eqTy P (P.underlying t) = some .l) : ∃ el, P.underlying t = some (.slice el) := by
  cases hu : P.underlying t with
  | none => rw [hu] at hty; cases hty
  | some d => rw [hu] at hty; cases d <;> simp [eqTy] at hty ⊢; split at hty <;> first | (split at hty <;> cases hty) | cases hty

theorem eqTy_z {d : Option TypeDesc} {ks : List CK} (hty : eqTy P d = some (.z ks)) : False := by
  cases d with
  | none => cases hty
  | some d => cases d <;> simp [eqTy] at hty; split at hty <;> first | (split at hty <;> cases hty) | cases hty

theorem step_eq (h : Rep X I ρ ow s a.tmps w) (hd : dstOk X o) {t yt : TypeId} {x y : Operand} {ix iy : IX} {ty : ETy} {ne : Bool} (ho : o.op = .binOp (if ne then .neq else .eql) t x y yt) (hty : eqTy P (P.underlying t) = some ty)
    (hx : opIX x = some ix) (hy : opIX y = some iy) {e : Eff} (he : ((eqR apf ty (ev s.t ix) (ev s.t iy)).bind fun v => .ok (noEff (if ne then notV apf v else v))).to e) : StepOk P X o a w s e := by
  obtain ⟨v, hv, rfl⟩ := bind_to he
  have hvx := ev_rep h hx
  have hvy := ev_rep h hy
  have fin : ∀ (b : Bool) (v : V), (∀ u u', a.eval x = u → a.eval y = u' → (eqGuard (if ne then .neq else .eql) t x y u u').run P w = .ok () w ∧ (binOp (if ne then .neq else .eql) t u u').run P w = .ok (.bool (if ne then !b else b)) w) → VRep I w ρ v (.bool b) →
      (v = .tt ∨ v = .ff ∨ ∃ c, v = .bool c) → StepOk P X o a w s (noEff (if ne then notV apf v else v)) := by
    intro b v hrun hvv hf
    obtain ⟨h1, h2⟩ := hrun _ _ rfl rfl
    refine stepVal h hd (x := .bool (if ne then !b else b)) (by simp [execOp, ho, h1, h2]) ?_
    cases ne with
    | true => exact notV_vr hvv hf
    | false => exact hvv
  have bools : ∀ (b c : Bool) (v : V), P.underlying t = some .bool → a.eval x = .bool b → a.eval y = .bool c → VRep I w ρ v (.bool (b == c)) → (v = .tt ∨ v = .ff ∨ ∃ c, v = .bool c) → StepOk P X o a w s (noEff (if ne then notV apf v else v)) := by
    intro b c v ht hb hc hvv hf
    refine fin (b == c) v (fun u u' hu hu' => ?_) hvv hf
    rw [hb] at hu; rw [hc] at hu'
    subst hu; subst hu'
    refine ⟨by rw [eqGuard_at_bool]; rfl, ?_⟩
    have := run_binOp_eqB ht b c w
    cases ne with
    | true => exact this.2
    | false => exact this.1
  unfold eqR at hv
  split at hv
  all_goals first | exact hv.elim | skip
  · rename_i e1 e2; rw [e1] at hvx; rw [e2] at hvy; cases hv; exact bools _ _ _ (eqTy_b hty) (vr_tt hvx) (vr_tt hvy) (boolV_vr true) (.inl rfl)
  · rename_i e1 e2; rw [e1] at hvx; rw [e2] at hvy; cases hv; exact bools _ _ _ (eqTy_b hty) (vr_tt hvx) (vr_ff hvy) (boolV_vr false) (.inr (.inl rfl))
  · rename_i e1 e2; rw [e1] at hvx; rw [e2] at hvy; cases hv; exact bools _ _ _ (eqTy_b hty) (vr_ff hvx) (vr_tt hvy) (boolV_vr false) (.inr (.inl rfl))
  · rename_i e1 e2; rw [e1] at hvx; rw [e2] at hvy; cases hv; exact bools _ _ _ (eqTy_b hty) (vr_ff hvx) (vr_ff hvy) (boolV_vr true) (.inl rfl)
  · rename_i b e1 e2; rw [e1] at hvx; rw [e2] at hvy; cases hv; exact bools _ _ _ (eqTy_b hty) (vr_bool hvx) (vr_tt hvy) (by simpa using bool_vr b) (.inr (.inr ⟨_, rfl⟩))
  · rename_i b e1 e2; rw [e1] at hvx; rw [e2] at hvy; cases hv; exact bools _ _ _ (eqTy_b hty) (vr_tt hvx) (vr_bool hvy) (by simpa using bool_vr b) (.inr (.inr ⟨_, rfl⟩))
  · rename_i b e1 e2; rw [e1] at hvx; rw [e2] at hvy; cases hv; exact bools _ _ _ (eqTy_b hty) (vr_bool hvx) (vr_ff hvy) (by simpa [apf, notB] using bool_vr (!b)) (.inr (.inr ⟨_, rfl⟩))
  · rename_i b e1 e2; rw [e1] at hvx; rw [e2] at hvy; cases hv; exact bools _ _ _ (eqTy_b hty) (vr_ff hvx) (vr_bool hvy) (by simpa [apf, notB] using bool_vr (!b)) (.inr (.inr ⟨_, rfl⟩))
  · rename_i b c e1 e2; rw [e1] at hvx; rw [e2] at hvy; cases hv; exact bools _ _ _ (eqTy_b hty) (vr_bool hvx) (vr_bool hvy) (by simpa [apf, eqB] using bool_vr (b == c)) (.inr (.inr ⟨_, rfl⟩))
  · rename_i l m e1 e2
    rw [e1] at hvx; rw [e2] at hvy
    cases hv
    obtain ⟨h1, _, h2⟩ := vr_str hvx
    obtain ⟨h3, _, h4⟩ := vr_str hvy
    refine fin (decide (l = m)) _ (fun u u' hu hu' => ?_) (bool_vr _) (.inr (.inr ⟨_, rfl⟩))
    rw [h1] at hu; rw [h3] at hu'
    subst hu; subst hu'
    refine ⟨by rw [eqGuard_at_string]; rfl, ?_⟩
    cases ne <;> simp [binOp, Op.stringOp, toBA_inj h2 h4]
  · rename_i k0 n0 k n l k' n' m e1 e2
    rw [e1] at hvx; rw [e2] at hvy
    obtain ⟨h1, h2⟩ := rif_to hv
    cases h2
    simp only [Bool.and_eq_true, beq_iff_eq] at h1
    obtain ⟨⟨⟨rfl, rfl⟩, rfl⟩, rfl⟩ := h1
    obtain ⟨xs, hxs, hxz, hxr⟩ := vr_agg hvx rfl
    obtain ⟨ys, hys, hyz, hyr⟩ := vr_agg hvy rfl
    obtain ⟨el, hu, hel, hce⟩ : ∃ el, P.underlying t = some (.array n el) ∧ P.underlying el = some (.int k) ∧ P.cellsOf el = 1 := by
      cases hu : P.underlying t with
      | none => rw [hu] at hty; cases hty
      | some d =>
        rw [hu] at hty
        cases d <;> simp [eqTy] at hty
        rename_i len el
        split at hty
        · rename_i k2 hk2
          simp at hty
          obtain ⟨hce, rfl, rfl⟩ := hty
          exact ⟨el, rfl, hk2, hce⟩
        · cases hty
    refine fin (decide (l = m)) _ (fun u u' hu1 hu2 => ?_) (bool_vr _) (.inr (.inr ⟨_, rfl⟩))
    rw [hxs] at hu1; rw [hys] at hu2
    subst hu1; subst hu2
    have hg := eqGuardType_ints hu hel
    have hb := run_binOp_eqA hu hel hce hxr.1 hyr.1 hxr.2.2 hyr.2.2 w
    cases ne with
    | true => exact ⟨by simp [eqGuard, hg], hb.2⟩
    | false => exact ⟨by simp [eqGuard, hg], hb.1⟩
  · rename_i e1 e2; rw [e1] at hvx; rw [e2] at hvy; cases hv
    obtain ⟨el, hu⟩ := eqTy_p hty
    refine fin true _ (fun u u' hu1 hu2 => ?_) (boolV_vr true) (.inl rfl)
    rw [vr_nilp hvx] at hu1; rw [vr_nilp hvy] at hu2
    subst hu1; subst hu2
    refine ⟨by rw [eqGuard_at_pointer]; rfl, ?_⟩
    cases ne <;> simp [binOp, run_equal_ptr hu]
  · rename_i p q e1 e2; rw [e1] at hvx; rw [e2] at hvy; cases hv
    obtain ⟨el, hu⟩ := eqTy_p hty
    obtain ⟨b, off, sz, _, h2⟩ := vr_ptr hvx
    refine fin false _ (fun u u' hu1 hu2 => ?_) (boolV_vr false) (.inr (.inl rfl))
    rw [h2] at hu1; rw [vr_nilp hvy] at hu2
    subst hu1; subst hu2
    refine ⟨by rw [eqGuard_at_pointer]; rfl, ?_⟩
    cases ne <;> simp [binOp, run_equal_ptr hu]
  · rename_i p q e1 e2; rw [e1] at hvx; rw [e2] at hvy; cases hv
    obtain ⟨el, hu⟩ := eqTy_p hty
    obtain ⟨b, off, sz, _, h2⟩ := vr_ptr hvy
    refine fin false _ (fun u u' hu1 hu2 => ?_) (boolV_vr false) (.inr (.inl rfl))
    rw [vr_nilp hvx] at hu1; rw [h2] at hu2
    subst hu1; subst hu2
    refine ⟨by rw [eqGuard_at_pointer]; rfl, ?_⟩
    cases ne <;> simp [binOp, run_equal_ptr hu]
  · rename_i e1 e2; rw [e1] at hvx; rw [e2] at hvy; cases hv
    obtain ⟨el, hu⟩ := eqTy_l hty
    refine fin true _ (fun u u' hu1 hu2 => ?_) (boolV_vr true) (.inl rfl)
    rw [vr_nsl hvx] at hu1; rw [vr_nsl hvy] at hu2
    subst hu1; subst hu2
    refine ⟨by rw [eqGuard_at_slice]; rfl, ?_⟩
    cases ne <;> simp [binOp, run_equal_sl hu]
  · exact (eqTy_z hty).elim
  · rename_i n ee c e1 e2; rw [e1] at hvx; rw [e2] at hvy
    obtain ⟨hn, hv⟩ := hv
    cases hv
    obtain ⟨el, hu⟩ := eqTy_l hty
    obtain ⟨ad, cp, h2, _, _, _, _, h3⟩ := vr_dsl hvx
    have hn : 0 < n := hn
    obtain ⟨b, off, rfl, _⟩ := h3.resolve_left (by omega)
    refine fin false _ (fun u u' hu1 hu2 => ?_) (boolV_vr false) (.inr (.inl rfl))
    rw [h2] at hu1; rw [vr_nsl hvy] at hu2
    subst hu1; subst hu2
    refine ⟨by rw [eqGuard_at_slice]; rfl, ?_⟩
    cases ne <;> simp [binOp, run_equal_sl hu]
  · rename_i hh p i n ee cap e1 e2; rw [e1] at hvx; rw [e2] at hvy
    obtain ⟨hn, hv⟩ := hv
    cases hv
    obtain ⟨el, hu⟩ := eqTy_l hty
    obtain ⟨ad, c, l, h2, _, hnc, _, _, h3⟩ := vr_sl hvx
    have hn : 0 < n := hn
    obtain ⟨b, off, sz, _, rfl, _⟩ := h3.resolve_left (by omega)
    refine fin false _ (fun u u' hu1 hu2 => ?_) (boolV_vr false) (.inr (.inl rfl))
    rw [h2] at hu1; rw [vr_nsl hvy] at hu2
    subst hu1; subst hu2
    refine ⟨by rw [eqGuard_at_slice]; rfl, ?_⟩
    cases ne <;> simp [binOp, run_equal_sl hu]
end
end Go.Cx

/- Cx 10: lengths, addresses, slices of slices, parts of values. -/
namespace Go.Cx
open Go

section
variable {P : Program} {pure : Nat → Bool} {X : Fix} {I : Nat → Prop} {ρ : Rho} {ow : Own} {s : St} {a : Act} {w : World} {o : Oper}

theorem nat_to {v : V} {n : Nat} {x : Value} (h : (v.nat apf).to n) (hv : VRep I w ρ v x) : ∃ k z, x = .int k z ∧ 0 ≤ z ∧ n = z.toNat := by
  cases v <;> simp only [V.nat] at h <;> first | exact h.elim | skip
  · obtain ⟨h1, h2⟩ := rif_to h
    obtain ⟨rfl, _⟩ := vr_lit hv
    exact ⟨_, _, rfl, by simpa using h1, by cases h2; rfl⟩
  · obtain ⟨h1, h2⟩ := h
    obtain ⟨rfl, _⟩ := vr_int hv
    exact ⟨_, _, rfl, h1, by cases h2; rfl⟩

/-! ### Lengths -/
theorem inR_len {n : Nat} (h : n ≤ maxLen) : inR .i64 (n : Int) := by
  simp only [maxLen] at h
  simp only [inR, IntKind.min, IntKind.max, IntKind.bits, IntKind.signed]
  constructor <;> simp <;> omega

theorem step_lenA (h : Rep X I ρ ow s a.tmps w) (hd : dstOk X o) {n e : Nat} {t : TypeId} {x : Operand} (ho : o.op = .call { callee := .builtin .len, args := #[x], argTypes := #[t] }) (ht : P.underlying t = some (.array n e)) (hn : n ≤ maxLen) {e : Eff}
    (he : (R.ok (noEff (.lit .i64 n))).to e) : StepOk P X o a w s e := by
  cases he
  exact stepVal h hd (x := .int .i64 n) (by simp [execOp, ho, Go.resolve, invoke, builtin, Builtin.len_, run_underlying ht, goInt]) (lit_vr (inR_len hn))

theorem inR_zero (k : IntKind) : inR k 0 := by cases k <;> simp [inR, IntKind.min, IntKind.max, IntKind.bits, IntKind.signed]

theorem step_lenT (h : Rep X I ρ ow s a.tmps w) (hd : dstOk X o) {t : TypeId} {x : Operand} {ix : IX} (ho : o.op = .call { callee := .builtin .len, args := #[x], argTypes := #[t] })
    (hu : P.underlying t = some .string) (hx : opIX x = some ix) {e : Eff}
    (he : (match ev s.t ix with | .str l => R.ok (noEff (.int .i64 (lenI (llen l)))) | _ => .fail 83).to e) : StepOk P X o a w s e := by
  have hv := ev_rep h hx
  split at he
  · rename_i l e1
    rw [e1] at hv
    obtain ⟨h1, hl, _⟩ := vr_str hv
    cases he
    exact stepVal h hd (x := .int .i64 l.length) (by simp [execOp, ho, Go.resolve, invoke, builtin, Builtin.len_, run_underlying hu, goInt, h1, toBA_size]) (int_vr (inR_len hl))
  · exact he.elim

theorem step_lenS (h : Rep X I ρ ow s a.tmps w) (hd : dstOk X o) {t el : TypeId} {x : Operand} {ix : IX} (ho : o.op = .call { callee := .builtin .len, args := #[x], argTypes := #[t] })
    (hu : P.underlying t = some (.slice el)) (hx : opIX x = some ix) {e : Eff}
    (he : (match ev s.t ix with
      | .sl _ _ _ n _ _ => R.ok (noEff (.int .i64 (lenI n)))
      | .dsl n _ _ => .ok (noEff (.int .i64 (lenI n)))
      | .nsl => .ok (noEff (.lit .i64 0))
      | .zsl => .ok (noEff (.lit .i64 0))
      | _ => .fail 83).to e) : StepOk P X o a w s e := by
  have hv := ev_rep h hx
  have sl : ∀ (ad : Option Addr) (n c : Nat) (v : V), a.eval x = .slice ad n c → VRep I w ρ v (.int .i64 n) → StepOk P X o a w s (noEff v) := fun ad n c v hs hv =>
    stepVal h hd (x := .int .i64 n) (by simp [execOp, ho, Go.resolve, invoke, builtin, Builtin.len_, run_underlying hu, goInt, hs]) hv
  split at he
  · rename_i hh p i n ee cap e1
    rw [e1] at hv
    obtain ⟨ad, c, l, h1, _, h2, h3, _⟩ := vr_sl hv
    cases he
    exact sl ad n c _ h1 (int_vr (inR_len (by omega)))
  · rename_i n ee c e1
    rw [e1] at hv
    obtain ⟨ad, cp, h1, h2, h3, _⟩ := vr_dsl hv
    cases he
    exact sl ad n cp _ h1 (int_vr (inR_len (by omega)))
  · rename_i e1
    rw [e1] at hv
    cases he
    exact sl none 0 0 _ (vr_nsl hv) (lit_vr (inR_zero _))
  · rename_i e1
    rw [e1] at hv
    obtain ⟨ad, h1⟩ := vr_zsl hv
    cases he
    exact sl ad 0 0 _ h1 (lit_vr (inR_zero _))
  · exact he.elim

/-! ### Addresses -/
theorem step_fa (h : Rep X I ρ ow s a.tmps w) (hd : dstOk X o) {t : TypeId} {x : Operand} {ix : IX} {f : Nat} {fs : Array Field} {fd : Field} (ho : o.op = .fieldAddr t x f) (ht : P.underlying t = some (.struct fs)) (hf : fs[f]? = some fd)
    (hz : sz P fd.type ≠ 0) (hx : opIX x = some ix) {e : Eff}
    (he : (match ev s.t ix with
      | .ptr hd p => R.ok (noEff (.ptr hd (p ++ [Pt.f fd.offset (sz P fd.type)])))
      | .dptr c p => .ok (noEff (.dptr c (p ++ [Pt.f fd.offset (sz P fd.type)])))
      | _ => .fail 77).to e) : StepOk P X o a w s e := by
  have hv := ev_rep h hx
  obtain ⟨i, hi, his⟩ : ∃ i, P.info? fd.type = some i ∧ i.size ≠ 0 := by
    unfold sz at hz
    cases hi : P.info? fd.type with
    | none => simp [hi] at hz
    | some i => exact ⟨i, rfl, by simpa [hi] using hz⟩
  have run : ∀ (b off : Nat), a.eval x = .pointer (some ⟨b, off, none⟩) → (execOp a.eval o).run P w = .ok (.value (.pointer (some ⟨b, off + fd.offset, none⟩))) w := fun b off hb => by
    simp [execOp, ho, hb, Instr.fieldAt, run_underlying ht, hf, Instr.sureAddr, fieldPlace, sizeOf, typeInfo, hi, his, Addr.add_lit]
  split at he
  · rename_i hh p e1
    rw [e1] at hv
    obtain ⟨b, off, sz', h1, h2⟩ := vr_ptr hv
    cases he
    refine stepVal h hd (run b _ h2) ?_
    have := ptr_vr (I := I) (w := w) (p := p ++ [Pt.f fd.offset (sz P fd.type)]) h1
    simpa [poff_append, poff, Nat.add_assoc] using this
  · rename_i c p e1
    rw [e1] at hv
    obtain ⟨b, off, h1, h2, h3⟩ := vr_dptr hv
    cases he
    refine stepVal h hd (run b _ h2) (leaf_vr rfl rfl rfl ⟨b, off, h1, ?_, h3⟩)
    simp [poff_append, poff, Nat.add_assoc]
  · exact he.elim

theorem sizeOf_run {t : TypeId} (hz : sz P t ≠ 0) (w : World) : (sizeOf t).run P w = .ok (sz P t) w := by
  unfold sz at *
  cases hi : P.info? t with
  | none => simp [hi] at hz
  | some i => simp [sizeOf, typeInfo, hi]

theorem step_iaA (h : Rep X I ρ ow s a.tmps w) (hd : dstOk X o) {t el : TypeId} {n : Nat} {x i : Operand} {ix ii : IX} (ho : o.op = .indexAddr t x i) (ht : P.underlying t = some (.array n el)) (hz : sz P el ≠ 0)
    (hx : opIX x = some ix) (hi : opIX i = some ii) {e : Eff}
    (he : (((ev s.t ii).nat apf).bind fun j => .chk (ltN j n) <| match ev s.t ix with
      | .ptr hd p => .ok (noEff (.ptr hd (p ++ [Pt.x j (sz P el)])))
      | .dptr c p => .ok (noEff (.dptr c (p ++ [Pt.x j (sz P el)])))
      | _ => .fail 79).to e) : StepOk P X o a w s e := by
  have hv := ev_rep h hx
  obtain ⟨j, hj, hlt, he⟩ := bind_to he
  obtain ⟨k, z, hz1, hz2, rfl⟩ := nat_to hj (ev_rep h hi)
  have hlt : z.toNat < n := hlt
  have run : ∀ (b off : Nat), a.eval x = .pointer (some ⟨b, off, none⟩) → (execOp a.eval o).run P w = .ok (.value (.pointer (some ⟨b, off + z.toNat * sz P el, none⟩))) w := fun b off hb => by
    have hb2 : 0 ≤ z ∧ z < n := ⟨hz2, by omega⟩
    simp [execOp, ho, hb, hz1, Instr.indexAt, asIntOf, run_underlying ht, Instr.sureAddr, hb2, sizeOf_run hz, Addr.add_lit]
  split at he
  · rename_i hh p e1
    rw [e1] at hv
    obtain ⟨b, off, sz', h1, h2⟩ := vr_ptr hv
    cases he
    refine stepVal h hd (run b _ h2) ?_
    have := ptr_vr (I := I) (w := w) (p := p ++ [Pt.x z.toNat (sz P el)]) h1
    simpa [poff_append, poff, Nat.add_assoc] using this
  · rename_i c p e1
    rw [e1] at hv
    obtain ⟨b, off, h1, h2, h3⟩ := vr_dptr hv
    cases he
    refine stepVal h hd (run b _ h2) (leaf_vr rfl rfl rfl ⟨b, off, h1, ?_, h3⟩)
    simp [poff_append, poff, Nat.add_assoc]
  · exact he.elim

theorem step_iaS (h : Rep X I ρ ow s a.tmps w) (hd : dstOk X o) {t el : TypeId} {x i : Operand} {ix ii : IX} (ho : o.op = .indexAddr t x i) (ht : P.underlying t = some (.slice el)) (hz : sz P el ≠ 0)
    (hx : opIX x = some ix) (hi : opIX i = some ii) {e : Eff}
    (he : (((ev s.t ii).nat apf).bind fun j => match ev s.t ix with
      | .sl hd p i0 n e' _ => rif (sz P el == e') 80 (.chk (ltN j n) (.ok (noEff (.ptr hd (p ++ [Pt.x (addN i0 j) (sz P el)])))))
      | .dsl n e' c => rif (sz P el == e') 80 (.chk (ltN j n) (.ok (noEff (.dptr c [Pt.x j (sz P el)]))))
      | _ => .fail 80).to e) : StepOk P X o a w s e := by
  have hv := ev_rep h hx
  obtain ⟨j, hj, he⟩ := bind_to he
  obtain ⟨k, z, hz1, hz2, rfl⟩ := nat_to hj (ev_rep h hi)
  have run : ∀ (b off n c : Nat), z.toNat < n → a.eval x = .slice (some ⟨b, off, none⟩) n c → (execOp a.eval o).run P w = .ok (.value (.pointer (some ⟨b, off + z.toNat * sz P el, none⟩))) w := fun b off n c hlt hb => by
    have hb2 : 0 ≤ z ∧ z < n := ⟨hz2, by omega⟩
    simp [execOp, ho, hb, hz1, Instr.indexAt, asIntOf, run_underlying ht, hb2, sizeOf_run hz, Addr.add_lit]
  split at he
  · rename_i hh p i0 n e' cap e1
    rw [e1] at hv
    obtain ⟨h0, hlt, he2⟩ := rif_to he
    have h0 : sz P el = e' := by simpa using h0
    subst h0
    have hlt : z.toNat < n := hlt
    obtain ⟨ad, c, l, h1, h2, h3, h4, _, h5⟩ := vr_sl hv
    obtain ⟨b, off, sz', rfl, rfl, h6⟩ := h5.resolve_left (by omega)
    cases he2
    refine stepVal h hd (run b _ n c hlt h1) ?_
    have := ptr_vr (I := I) (w := w) (p := p ++ [Pt.x (addN i0 z.toNat) (sz P el)]) h2
    have e3 : off + (poff p + i0 * sz P el) + z.toNat * sz P el = off + poff (p ++ [Pt.x (addN i0 z.toNat) (sz P el)]) := by
      simp only [poff_append, poff, addN, Nat.add_mul, Nat.add_zero]
      omega
    rw [e3]
    exact this
  · rename_i n e' c e1
    rw [e1] at hv
    obtain ⟨h0, hlt, he2⟩ := rif_to he
    have h0 : sz P el = e' := by simpa using h0
    subst h0
    have hlt : z.toNat < n := hlt
    obtain ⟨ad, cp, h1, h2, h3, h4, h5, h6⟩ := vr_dsl hv
    obtain ⟨b, off, rfl, hI⟩ := h6.resolve_left (by omega)
    cases he2
    refine stepVal h hd (run b _ n cp hlt h1) (leaf_vr rfl rfl rfl ⟨b, off, hI, by simp [poff], ?_⟩)
    exact h5
  · exact he.elim

/-! ### Parts of values -/
theorem wrapV_to {agg : Bool} {v u : V} (h : (wrapV agg v).to u) : (agg = true ∧ v.isAgg = true ∧ u = v) ∨ (agg = true ∧ v.isAgg = false ∧ u = .one v) ∨ (agg = false ∧ v.isAgg = false ∧ u = v ∧ (∀ n e c, v ≠ .osl n e c) ∧ (∀ c, v ≠ .optr c) ∧ v ≠ .tnil ∧ (∀ a b, v ≠ .tcons a b)) := by
  unfold wrapV at h
  split at h
  · simp only [R.to] at h
    cases hv : v.isAgg with
    | true => rw [hv] at h; exact .inl ⟨rfl, rfl, h.symm⟩
    | false => rw [hv] at h; exact .inr (.inl ⟨rfl, rfl, h.symm⟩)
  · obtain ⟨h1, h2⟩ := rif_to h
    simp only [Bool.and_eq_true, Bool.not_eq_true'] at h1
    refine .inr (.inr ⟨rfl, h1.1, h2.symm, ?_⟩)
    cases v <;> simp_all

/-- content read as a value -/
theorem content_vr {agg : Bool} {v u : V} {ow : Own} {q : List Nat} {pos : Nat} {g : Nat → Option Value} (hw : (wrapV agg v).to u) (hno : v.noown = true) (hc : CRep I w ow v ρ q pos g) :
    ∀ cs : List Value, cs.length = v.size → (∀ j, j < v.size → g j = cs[j]?) →
      (agg = true → VRep I w ρ u (.agg cs.toArray)) ∧ (agg = false → ∀ x, cs = [x] → VRep I w ρ u x) := by
  intro cs hl hg
  have h0 : CRep I w (fun _ => none) v ρ [] 0 (cs.toArray[·]?) := by
    refine CRep.mono (fun b hb => ⟨hb, rfl⟩) v _ _ _ _ _ _ (Rho.le_refl _) (fun h => absurd rfl h) (fun j hj => ?_) ((CRep.noq v _ _ [] _ 0 _ hno hc).noow (ow' := fun _ => none))
    rw [hg j hj]
    simp
  rcases wrapV_to hw with ⟨rfl, h1, rfl⟩ | ⟨rfl, h1, rfl⟩ | ⟨rfl, h1, rfl, h2, h3, h4, h5⟩
  · exact ⟨fun _ => agg_vr h1 (by simpa using hl) h0, fun h => by cases h⟩
  · exact ⟨fun _ => agg_vr rfl (by simpa [V.size] using hl) ⟨h1, h0⟩, fun h => by cases h⟩
  · refine ⟨fun h => by (cases h), fun _ x hx => ?_⟩
    subst hx
    by_cases hany : u = .any
    · subst hany; exact VRep.any _ _ _ _
    have hs : u.size = 1 := by simpa using hl.symm
    have hone : x.oneCell' = true := by
      obtain ⟨y, hy, ho⟩ := CRep.cells u _ _ _ _ h0 0 (by omega)
      simp at hy
      subst hy
      exact ho
    have hagg : isAggV x = false := by cases x <;> first | rfl | cases hone
    refine leaf_vr hs h1 hagg ?_
    exact CRep.mono (fun b hb => ⟨hb, rfl⟩) u _ _ _ _ _ _ (Rho.le_refl _) (fun h => absurd rfl h) (fun j hj => by obtain rfl : j = 0 := (by omega); simp) h0
end
end Go.Cx

/- Cx 11: parts of values, strings, slices. -/
namespace Go.Cx
open Go

section
variable {P : Program} {pure : Nat → Bool} {X : Fix} {I : Nat → Prop} {ρ : Rho} {ow : Own} {s : St} {a : Act} {w : World} {o : Oper}

theorem isAgg_run {t : TypeId} {d : TypeDesc} (ht : P.underlying t = some d) (w : World) : (isAgg t).run P w = .ok (aggT P t) w := by
  unfold aggT
  cases d <;> simp [isAgg, run_underlying ht, ht]

theorem VRep.noown {v : V} {x : Value} (h : VRep I w ρ v x) (ha : v.isAgg = true) : v.noown = true := by
  have key : ∀ (v : V) (g : Nat → Option Value), CRep I w (fun _ => none) v ρ [] 0 g → True := fun _ _ _ => trivial
  obtain ⟨cs, _, _, hc⟩ := vr_agg h ha
  clear key
  have : ∀ (v : V) (pos : Nat) (g : Nat → Option Value), CRep I w (fun _ => none) v ρ [] pos g → v.noown = true := by
    intro v
    induction v with
    | cat n m a b iha ihb => intro pos g hc; simp only [V.noown, Bool.and_eq_true]; exact ⟨iha _ _ hc.2.2.1, ihb _ _ hc.2.2.2⟩
    | one a ih => intro pos g hc; exact ih _ _ hc.2
    | osl n e c ih => intro pos g hc; exact absurd rfl hc.1
    | optr c ih => intro pos g hc; exact absurd rfl hc.1
    | tcons a b _ _ => intro pos g hc; exact hc.elim
    | _ => intro pos g hc; rfl
  exact this v 0 _ hc

theorem crep_noown {v : V} {ow : Own} {pos : Nat} {g : Nat → Option Value} (hc : CRep I w ow v ρ [] pos g) : v.noown = true := by
  induction v generalizing pos g with
  | cat n m a b iha ihb => simp only [V.noown, Bool.and_eq_true]; exact ⟨iha hc.2.2.1, ihb hc.2.2.2⟩
  | one a ih => exact ih hc.2
  | osl n e c ih => exact absurd rfl hc.1
  | optr c ih => exact absurd rfl hc.1
  | tcons a b _ _ => exact hc.elim
  | _ => rfl

/-- what part reads of an aggregate's cells -/
theorem part_run {t : TypeId} (hz : sz P t ≠ 0) {d : TypeDesc} (ht : P.underlying t = some d) {v u : V} {cs : Array Value} {off : Nat} (hw : (wrapV (aggT P t) v).to u) (hs : v.size = sz P t)
    (hlt : off + v.size ≤ cs.size) {pos : Nat} (hc : CRep I w (fun _ => none) v ρ [] pos (fun j => cs[off + j]?)) : ∃ x, (part t cs off).run P w = .ok x w ∧ VRep I w ρ u x := by
  have hno := crep_noown hc
  have hread := content_vr hw hno hc ((cs.toList.drop off).take v.size) (by simp; omega) (fun j hj => by simp [hj])
  cases hagg : aggT P t with
  | true =>
    refine ⟨.agg (cs.extract off (off + sz P t)), ?_, ?_⟩
    · simp [part, isAgg_run ht, hagg, sizeOf_run hz]
    · have := hread.1 hagg
      have e : cs.extract off (off + sz P t) = ((cs.toList.drop off).take v.size).toArray := by
        apply Array.ext'
        rw [Array.toList_extract, List.extract_eq_take_drop, hs]
        simp
      rw [e]; exact this
  | false =>
    rcases wrapV_to hw with ⟨h1, _⟩ | ⟨h1, _⟩ | ⟨_, h2, rfl, h3, h4, h5, h6⟩
    · rw [hagg] at h1; cases h1
    · rw [hagg] at h1; cases h1
    · have h1 : u.size = 1 := by cases u <;> first | rfl | cases h2
      have h7 : off < cs.size := by omega
      refine ⟨cs[off], ?_, ?_⟩
      · simp [part, isAgg_run ht, hagg, h7]
      · refine hread.2 hagg _ ?_
        rw [h1]
        rw [List.take_one, List.head?_drop]
        simp [h7]

theorem underlying_some {t : TypeId} (hu : ∃ d, P.underlying t = some d) : ∃ d, P.underlying t = some d := hu

theorem step_fl (h : Rep X I ρ ow s a.tmps w) (hd : dstOk X o) {t : TypeId} {x : Operand} {ix : IX} {f : Nat} {fs : Array Field} {fd : Field} {d : TypeDesc} (ho : o.op = .field t x f) (ht : P.underlying t = some (.struct fs)) (hf : fs[f]? = some fd)
    (hz : sz P fd.type ≠ 0) (hfd : P.underlying fd.type = some d) (hx : opIX x = some ix) {e : Eff}
    (he : (match (ev s.t ix).unwrap.fld fd.offset (sz P fd.type) with
      | some v => rif (ev s.t ix).isAgg 78 ((wrapV (aggT P fd.type) v).bind fun v => .ok (noEff v))
      | none => .fail 78).to e) : StepOk P X o a w s e := by
  have hv := ev_rep h hx
  split at he
  · rename_i v e1
    obtain ⟨h1, he⟩ := rif_to he
    obtain ⟨u, hu, he⟩ := bind_to he
    cases he
    obtain ⟨cs, hcs, hsz, hc⟩ := vr_agg hv h1
    have hc' : CRep I w (fun _ => none) (ev s.t ix).unwrap ρ [] 0 (cs[·]?) := by
      cases hev : ev s.t ix <;> rw [hev] at hc <;> first | exact hc | exact hc.2
    have hsz' : (ev s.t ix).unwrap.size = cs.size := by
      rw [hsz]; cases ev s.t ix <;> rfl
    obtain ⟨h2, h3, h4⟩ := fld_rep _ e1 hc'
    obtain ⟨y, hy, hvy⟩ := part_run (P := P) hz hfd hu h3 (by omega) h2
    exact stepVal h hd (by simp [execOp, ho, hcs, Instr.field, run_underlying ht, hf, asAgg, hy]) hvy
  · exact he.elim

theorem step_ixA (h : Rep X I ρ ow s a.tmps w) (hd : dstOk X o) {t el : TypeId} {n : Nat} {x i : Operand} {ix ii : IX} {d : TypeDesc} (ho : o.op = .index t x i) (ht : P.underlying t = some (.array n el)) (hz : sz P el ≠ 0) (hel : P.underlying el = some d)
    (hx : opIX x = some ix) (hi : opIX i = some ii) {e : Eff}
    (he : (((ev s.t ii).nat apf).bind fun j => .chk (ltN j n) <| rif (ev s.t ix).isAgg 81 <| ((ev s.t ix).unwrap.at apf [Pt.x j (sz P el)]).bind fun v => rif (v.size == sz P el) 81 <| (wrapV (aggT P el) v).bind fun v => .ok (noEff v)).to e) : StepOk P X o a w s e := by
  have hv := ev_rep h hx
  obtain ⟨j, hj, hlt, he⟩ := bind_to he
  obtain ⟨k, z, hz1, hz2, rfl⟩ := nat_to hj (ev_rep h hi)
  have hlt : z.toNat < n := hlt
  obtain ⟨h1, he⟩ := rif_to he
  obtain ⟨v, hat, he⟩ := bind_to he
  obtain ⟨h0, he⟩ := rif_to he
  have h0 : v.size = sz P el := by simpa using h0
  obtain ⟨u, hu, he⟩ := bind_to he
  cases he
  obtain ⟨cs, hcs, hsz, hc⟩ := vr_agg hv h1
  have hc' : CRep I w (fun _ => none) (ev s.t ix).unwrap ρ [] 0 (cs[·]?) := by
    cases hev : ev s.t ix <;> rw [hev] at hc <;> first | exact hc | exact hc.2
  have hsz' : (ev s.t ix).unwrap.size = cs.size := by
    rw [hsz]; cases ev s.t ix <;> rfl
  obtain ⟨h2, h3⟩ := at_rep _ _ hat hc'
  simp only [poff, Nat.add_zero] at h2 h3
  obtain ⟨y, hy, hvy⟩ := part_run (P := P) hz hel hu h0 (by omega) h2
  have hb2 : 0 ≤ z ∧ z < n := ⟨hz2, by omega⟩
  exact stepVal h hd (by simp [execOp, ho, hcs, hz1, Instr.index, asIntOf, run_underlying ht, hb2, sizeOf_run hz, hy]) hvy

theorem toBA_get {l : List Int} {j : Nat} (hj : j < l.length) (hr : ∀ y ∈ l, inR .u8 y) : (toBA l)[j]? = some (UInt8.ofNat (nthI l j).toNat) ∧ (((UInt8.ofNat (nthI l j).toNat).toNat : Nat) : Int) = nthI l j := by
  have hn : nthI l j = l[j] := by simp [nthI, List.getD_eq_getElem?_getD, List.getElem?_eq_getElem hj]
  constructor
  · rw [hn]
    show (toBA l)[j]? = _
    have : (toBA l).size = l.length := toBA_size l
    rw [getElem?_pos (toBA l) j (by omega)]
    congr 1
    simp [toBA, ByteArray.getElem_eq_getElem_data]
  · rw [hn]; exact ofNat_toNat_u8 (hr _ (List.getElem_mem hj))

theorem step_ixT (h : Rep X I ρ ow s a.tmps w) (hd : dstOk X o) {t : TypeId} {x i : Operand} {ix ii : IX} (ho : o.op = .index t x i) (ht : P.underlying t = some .string)
    (hx : opIX x = some ix) (hi : opIX i = some ii) {e : Eff}
    (he : (match ev s.t ix with
      | .str l => ((ev s.t ii).nat apf).bind fun j => .chk (ltN j (llen l)) (.ok (noEff (.int .u8 (nthI l j))))
      | _ => .fail 82).to e) : StepOk P X o a w s e := by
  have hv := ev_rep h hx
  split at he
  · rename_i l e1
    rw [e1] at hv
    obtain ⟨h1, hl, hr⟩ := vr_str hv
    obtain ⟨j, hj, hlt, he⟩ := bind_to he
    obtain ⟨k, z, hz1, hz2, rfl⟩ := nat_to hj (ev_rep h hi)
    have hlt : z.toNat < l.length := hlt
    cases he
    obtain ⟨g1, g2⟩ := toBA_get hlt hr
    have hm : nthI l z.toNat ∈ l := by
      have hn : nthI l z.toNat = l[z.toNat] := by simp [nthI, List.getD_eq_getElem?_getD, List.getElem?_eq_getElem hlt]
      rw [hn]; exact List.getElem_mem hlt
    refine stepVal h hd (x := .int .u8 (nthI l z.toNat)) ?_ (int_vr (hr _ hm))
    simp only [execOp, ho, h1, hz1, Instr.index, asIntOf, Sem.run_bind, Sem.run_pure, Result.andThen_ok, run_underlying ht, if_pos hz2, g1, g2]
  · exact he.elim

theorem step_ext (h : Rep X I ρ ow s a.tmps w) (hd : dstOk X o) {x : Operand} {ix : IX} {i : Nat} (ho : o.op = .extract x i) (hx : opIX x = some ix) {e : Eff}
    (he : (match ev s.t ix, i with
      | .tcons a _, 0 => R.ok (noEff a)
      | .tcons _ (.tcons b _), 1 => .ok (noEff b)
      | .tcons _ (.tcons _ (.tcons c _)), 2 => .ok (noEff c)
      | _, _ => .fail 87).to e) : StepOk P X o a w s e := by
  have hv := ev_rep h hx
  split at he
  · rename_i va vb e1
    rw [e1] at hv
    obtain ⟨l, h1, y, r, rfl, h2, _⟩ := vr_tcons hv
    cases he
    exact stepVal h hd (x := y) (by simp [execOp, ho, h1, Instr.extract]) h2.up
  · rename_i va vb vc e1
    rw [e1] at hv
    obtain ⟨l, h1, y, r, rfl, _, y2, r2, rfl, h2, _⟩ := vr_tcons hv
    cases he
    exact stepVal h hd (x := y2) (by simp [execOp, ho, h1, Instr.extract]) h2.up
  · rename_i va vb vc vd e1
    rw [e1] at hv
    obtain ⟨l, h1, y, r, rfl, _, y2, r2, rfl, _, y3, r3, rfl, h2, _⟩ := vr_tcons hv
    cases he
    exact stepVal h hd (x := y3) (by simp [execOp, ho, h1, Instr.extract]) h2.up
  · exact he.elim
end
end Go.Cx

/- Cx 12: slices out of arrays, slices and strings. -/
namespace Go.Cx
open Go

section
variable {P : Program} {pure : Nat → Bool} {X : Fix} {I : Nat → Prop} {ρ : Rho} {ow : Own} {s : St} {a : Act} {w : World} {o : Oper}

/-- a bound that is given, or left out -/
def bdIs (v : Option Value) (dflt n : Nat) : Prop := (v = none ∧ n = dflt) ∨ ∃ k z, v = some (.int k z) ∧ 0 ≤ z ∧ n = z.toNat

theorem run_sliceBounds {isS : Bool} {len cap l h : Nat} {lo hi : Option Value} (hl : bdIs lo 0 l) (hh : bdIs hi len h) (h1 : l ≤ h) (h2 : h ≤ cap) (w : World) :
    (Instr.sliceBounds isS len cap lo hi none).run P w = .ok (l, h, cap) w := by
  have b : ∀ (k : IntKind) (z : Int) (y : Nat) (c : BoundsCode), 0 ≤ z → z.toNat ≤ y → (Instr.sliceBound (.int k z) y c).run P w = .ok z.toNat w := by
    intro k z y c h0 hy
    have : 0 ≤ z ∧ z ≤ y := ⟨h0, by omega⟩
    simp [Instr.sliceBound, asIntOf, this]
  rcases hl with ⟨rfl, rfl⟩ | ⟨k, z, rfl, h3, rfl⟩ <;> rcases hh with ⟨rfl, rfl⟩ | ⟨k', z', rfl, h4, rfl⟩
  · simp [Instr.sliceBounds]
  · simp [Instr.sliceBounds, b _ _ _ _ h4 h2]
  · simp [Instr.sliceBounds, b _ _ _ _ h3 h1]
  · simp [Instr.sliceBounds, b _ _ _ _ h3 h1, b _ _ _ _ h4 h2]

theorem bd_none (n : Nat) : bdIs none n n := .inl ⟨rfl, rfl⟩

theorem opt_none {x : Option Operand} (h : optIX x = some none) : x = none := by
  cases x with
  | none => rfl
  | some y => simp only [optIX, Option.map_eq_some_iff] at h; obtain ⟨i, _, h⟩ := h; cases h

theorem opt_some {x : Option Operand} {i : IX} (h : optIX x = some (some i)) : ∃ y, x = some y ∧ opIX y = some i := by
  cases x with
  | none => cases h
  | some y => simp only [optIX, Option.map_eq_some_iff] at h; obtain ⟨i', h1, h⟩ := h; cases h; exact ⟨y, rfl, h1⟩

theorem bd_some (h : Rep X I ρ ow s a.tmps w) {x : Option Operand} {i : IX} (hx : optIX x = some (some i)) {n dflt : Nat} (hn : ((ev s.t i).nat apf).to n) : bdIs (x.map a.eval) dflt n := by
  obtain ⟨y, rfl, hy⟩ := opt_some hx
  obtain ⟨k, z, h1, h2, h3⟩ := nat_to hn (ev_rep h hy)
  exact .inr ⟨k, z, by simp [h1], h2, h3⟩

theorem bd_none' {x : Option Operand} (hx : optIX x = some none) (n : Nat) : bdIs (x.map a.eval) n n := by
  rw [opt_none hx]; exact bd_none n

/-- the address of a slice that begins at element l of something of size-e elements -/
theorem sl_addr {b off l e m : Nat} : (if m = l then (⟨b, off, none⟩ : Addr) else (⟨b, off, none⟩ : Addr).add (l * e)) = ⟨b, if m = l then off else off + l * e, none⟩ := by
  split
  · rfl
  · rw [Addr.add_lit]

/-- a part of a known block lies within the block -/
theorem blk_room (h : Rep X I ρ ow s a.tmps w) {hd b off sz' : Nat} {k : Bk} {c c' : V} {p : List Pt} (hh : s.h hd = some ⟨k, c⟩) (hl : ρ hd = some (.at b off sz')) (hk : k ≠ .dead) (hat : (c.at apf p).to c') : poff p + c'.size ≤ sz' := by
  obtain ⟨l, h1, h2⟩ := h.heap _ _ hh
  rw [hl] at h1
  cases h1
  cases k with
  | dead => exact absurd rfl hk
  | own =>
    rcases h2 with ⟨h3, _⟩ | ⟨k', off', sz2, cur, h3, _, _, h4, h5⟩
    · cases h3
    · cases h3
      have h6 := (at_rep _ _ hat h5).2
      have h7 : c.size ≤ sz' := by
        rcases Nat.lt_or_ge sz' c.size with h8 | h8
        · obtain ⟨y, hy, _⟩ := CRep.cells c _ _ _ _ h5 sz' h8
          rw [Array.getElem?_eq_none (by omega)] at hy
          cases hy
        · exact h8
      omega
  | bor =>
    rcases h2 with ⟨h3, _⟩ | ⟨k', off', sz2, h3, _, _, h4, h5⟩
    · cases h3
    · cases h3
      have h6 := (at_rep _ _ hat h5).2
      have h4' : c.size ≤ sz' := h4
      omega
  | imm =>
    rcases h2 with ⟨h3, _⟩ | ⟨k', off', sz2, h3, _, h4, h5⟩
    · cases h3
    · cases h3
      have h6 := (at_rep _ _ hat h5).2
      have h4' : c.size ≤ sz' := h4
      omega

theorem step_slA (h : Rep X I ρ ow s a.tmps w) (hd : dstOk X o) {t el : TypeId} {n : Nat} {x : Operand} {lo hi : Option Operand} {ix : IX} {il ih : Option IX} (ho : o.op = .slice t x lo hi none) (ht : P.underlying t = some (.array n el)) (hz : sz P el ≠ 0) (hn : n ≤ maxLen)
    (hx : opIX x = some ix) (hl : optIX lo = some il) (hh : optIX hi = some ih) {e : Eff} {E : List (Nat × Ctr)}
    (he : (stepR apf E s.t s.h o.dst (.slA n (sz P el) ix il ih)).to e) : StepOk P X o a w s e := by
  have hv := ev_rep h hx
  simp only [stepR] at he
  split at he
  case h_2 => exact he.elim
  rename_i hh' p e1
  rw [e1] at hv
  obtain ⟨b, off, sz', h1, h2⟩ := vr_ptr hv
  split at he
  · exact he.elim
  · exact he.elim
  rename_i kk c hnd hh2
  obtain ⟨c', hat, he⟩ := bind_to he
  obtain ⟨hcs, he⟩ := rif_to he
  have hcs : c'.size = n * sz P el := by simpa using hcs
  have hrm : poff p + n * sz P el ≤ sz' := by
    have := blk_room h hh2 h1 (fun e => hnd e) hat
    omega
  have fin : ∀ l m, bdIs (lo.map a.eval) 0 l → bdIs (hi.map a.eval) n m → l ≤ m → m ≤ n → ∀ q, e = noEff (.sl hh' p l (m - l) (sz P el) (some q)) → q = n - l → StepOk P X o a w s e := by
    rintro l m hl hm hlm hmn q rfl rfl
    refine stepVal h hd (x := .slice (some ⟨b, if n = l then off + poff p else off + poff p + l * sz P el, none⟩) (m - l) (n - l)) ?_ (leaf_vr rfl rfl rfl ⟨_, _, _, rfl, h1, by omega, by omega, rfl, ?_⟩)
    · simp [execOp, ho, h2, Instr.sliceAt, run_underlying ht, Instr.sureAddr, run_sliceBounds hl hm hlm hmn, sizeOf_run hz, sl_addr]
    · by_cases hnl : n = l
      · exact .inl (by omega)
      · refine .inr ⟨b, off, sz', rfl, by rw [if_neg hnl]; simp [Nat.add_assoc], ?_⟩
        have : l * sz P el + (n - l) * sz P el = n * sz P el := by rw [← Nat.add_mul]; congr 1; omega
        omega
  cases il with
  | none =>
    cases ih with
    | none => exact fin 0 n (bd_none' hl 0) (bd_none' hh n) (by omega) (by omega) n (by cases he; rfl) (by omega)
    | some ih =>
      obtain ⟨m, hm, hmn, he⟩ := bind_to he
      exact fin 0 m (bd_none' hl 0) (bd_some h hh hm) (by omega) hmn n (by cases he; rfl) (by omega)
  | some il =>
    cases ih with
    | none =>
      obtain ⟨m, hm, hmn, he⟩ := bind_to he
      exact fin m n (bd_some h hl hm) (bd_none' hh n) hmn (by omega) (n - m) (by cases he; rfl) rfl
    | some ih =>
      obtain ⟨l, hl', he⟩ := bind_to he
      obtain ⟨m, hm, hmn, hlm, he⟩ := bind_to he
      exact fin l m (bd_some h hl hl') (bd_some h hh hm) hlm hmn (n - l) (by cases he; rfl) rfl

theorem behind_some {b off : Nat} : behind w (some ⟨b, off, none⟩) = cellsAt w b off := rfl

theorem dsl_vr {n e cp : Nat} {c : V} {ad : Option Addr} (h1 : n ≤ cp) (h2 : cp ≤ maxLen) (h3 : isRow e n c) (h4 : CRep I w (fun _ => none) c noR [] 0 (behind w ad)) (h5 : cp = 0 ∨ ∃ b off, ad = some ⟨b, off, none⟩ ∧ I b) :
    VRep I w ρ (.dsl n e c) (.slice ad n cp) := leaf_vr rfl rfl rfl ⟨ad, cp, rfl, h1, h2, h3, h4, h5⟩

theorem crep_empty {c : V} {ow ow' : Own} {g g' : Nat → Option Value} (hs : c.size = 0) (h : CRep I w ow c noR [] 0 g) : CRep I w ow' c noR [] 0 g' :=
  CRep.mono (fun b hb => ⟨hb, rfl⟩) _ _ _ _ _ _ _ (Rho.le_refl _) (fun h => absurd rfl h) (fun j hj => by omega) h

/-- slicing a deep slice -/
theorem dsl_sub {n e l m : Nat} {c c' : V} {x : Value} (hv : VRep I w ρ (.dsl n e c) x) (hsub : (c.subs apf l (m - l)).to c') (h1 : l ≤ m) (h2 : m ≤ n) :
    ∃ ad cp, x = .slice ad n cp ∧ n ≤ cp ∧ VRep I w ρ (.dsl (m - l) e c') (.slice (if cp = l then ad else ad.map (·.add (l * e))) (m - l) (cp - l)) := by
  obtain ⟨ad, cp, rfl, h3, h4, h5, h6, h7⟩ := vr_dsl hv
  refine ⟨ad, cp, rfl, h3, ?_⟩
  obtain ⟨h8, h9⟩ := subs_rep hsub h5 (by omega) h6
  by_cases hml : cp = l
  · have hs0 : c'.size = 0 := by rw [isRow_size h8, show m - l = 0 by omega]; simp
    exact dsl_vr (by omega) (by omega) h8 (crep_empty hs0 h9) (.inl (by omega))
  · obtain ⟨b, off, rfl, hI⟩ := h7.resolve_left (by omega)
    have hne : cp ≠ l := by omega
    rw [if_neg hne]
    simp only [Option.map_some, Addr.add_lit]
    refine dsl_vr (by omega) (by omega) h8 ?_ (.inr ⟨b, _, rfl, hI⟩)
    have : behind w (some ⟨b, off + l * e, none⟩) = fun j => behind w (some ⟨b, off, none⟩) (l * e + j) := by
      funext j; simp [behind, Nat.add_assoc]
    rw [this]
    exact h9.noow

/-- slicing a slice over a handle -/
theorem sl_sub {hd' n e l m i : Nat} {p : List Pt} {cap : Option Nat} {x : Value} (hv : VRep I w ρ (.sl hd' p i n e cap) x) (h1 : l ≤ m) (h2 : m ≤ n) :
    ∃ ad cp, x = .slice ad n cp ∧ n ≤ cp ∧ VRep I w ρ (.sl hd' p (i + l) (m - l) e (capSub apf cap l)) (.slice (if cp = l then ad else ad.map (·.add (l * e))) (m - l) (cp - l)) := by
  obtain ⟨ad, cp, lo, rfl, h3, h4, h5, h6, h7⟩ := vr_sl hv
  refine ⟨ad, cp, rfl, h4, leaf_vr rfl rfl rfl ⟨_, _, lo, rfl, h3, by omega, by omega, ?_, ?_⟩⟩
  · cases cap with
    | none => trivial
    | some c => have : cp = c := h6; subst this; rfl
  · by_cases hc : cp = l
    · exact .inl (by omega)
    · obtain ⟨b, off, sz', rfl, rfl, h8⟩ := h7.resolve_left (by omega)
      rw [if_neg hc]
      simp only [Option.map_some, Addr.add_lit]
      refine .inr ⟨b, off, sz', rfl, by congr 2; rw [Nat.add_mul]; omega, ?_⟩
      have : l * e + (cp - l) * e = cp * e := by rw [← Nat.add_mul]; congr 1; omega
      rw [Nat.add_mul]
      omega

theorem run_slice {t el : TypeId} (ht : P.underlying t = some (.slice el)) (hz : sz P el ≠ 0) {ad : Option Addr} {n cp l m : Nat} {lo hi : Option Value} (hl : bdIs lo 0 l) (hh : bdIs hi n m) (h1 : l ≤ m) (h2 : m ≤ cp) (w : World) :
    (Instr.sliceAt t (.slice ad n cp) lo hi none).run P w = .ok (.slice (if cp = l then ad else ad.map (·.add (l * sz P el))) (m - l) (cp - l)) w := by
  simp [Instr.sliceAt, Instr.slice, run_underlying ht, run_sliceBounds hl hh h1 h2, sizeOf_run hz]

theorem subs_self {c : V} {n e : Nat} {g : Nat → Option Value} {ow : Own} (hrow : isRow e n c) (hc : CRep I w ow c noR [] 0 g) : ∃ c', (c.subs apf 0 n).to c' := by
  cases c <;> simp_all [isRow, V.subs, R.to]

theorem step_slS (h : Rep X I ρ ow s a.tmps w) (hd : dstOk X o) {t el : TypeId} {x : Operand} {lo hi mx : Option Operand} {ix : IX} {il ih im : Option IX} (ho : o.op = .slice t x lo hi mx) (ht : P.underlying t = some (.slice el)) (hz : sz P el ≠ 0)
    (hx : opIX x = some ix) (hl : optIX lo = some il) (hh : optIX hi = some ih) (hm : optIX mx = some im) {e : Eff} {E : List (Nat × Ctr)}
    (he : (stepR apf E s.t s.h o.dst (.slS (sz P el) ix il ih im)).to e) : StepOk P X o a w s e := by
  have hv := ev_rep h hx
  simp only [stepR] at he
  cases im with
  | some im =>
    obtain ⟨mo, rfl, hmo⟩ := opt_some hm
    simp only at he
    have hvm := ev_rep h hmo
    split at he
    case h_2 => exact he.elim
    rename_i k hi' e1
    rw [e1] at hvm
    obtain ⟨hlo⟩ : lo = none := opt_none hl
    obtain ⟨hio, rfl, hhio⟩ := opt_some hh
    have hvh := ev_rep h hhio
    split at he
    case h_2 => exact he.elim
    rename_i k' e2
    rw [e2] at hvh
    have z1 := (vr_lit hvm).1
    have z2 := (vr_lit hvh).1
    have run : ∀ ad n cp, a.eval x = .slice ad n cp → ∃ ad', (execOp a.eval o).run P w = .ok (.value (.slice ad' 0 0)) w ∧ (ad = none → ad' = none) := by
      intro ad n cp hs
      refine ⟨ad, ?_, fun h => h⟩
      simp [execOp, ho, hs, Instr.sliceAt, Instr.slice, run_underlying ht, Instr.sliceBounds, Instr.sliceBound, asIntOf, z1, z2, sizeOf_run hz]
    split at he
    · rename_i hh' p i n ee cap e3
      rw [e3] at hv
      obtain ⟨ad, c, l, h1, _⟩ := vr_sl hv
      obtain ⟨ad', hr, _⟩ := run _ _ _ h1
      cases he
      exact stepVal h hd hr (zsl_vr _)
    · rename_i n ee c e3
      rw [e3] at hv
      obtain ⟨ad, cp, h1, _⟩ := vr_dsl hv
      obtain ⟨ad', hr, _⟩ := run _ _ _ h1
      cases he
      exact stepVal h hd hr (zsl_vr _)
    · rename_i e3
      rw [e3] at hv
      obtain ⟨ad, h1⟩ := vr_zsl hv
      obtain ⟨ad', hr, _⟩ := run _ _ _ h1
      cases he
      exact stepVal h hd hr (zsl_vr _)
    · rename_i e3
      rw [e3] at hv
      obtain ⟨ad', hr, hn⟩ := run _ _ _ (vr_nsl hv)
      rw [hn rfl] at hr
      cases he
      exact stepVal h hd hr nsl_vr
    · exact he.elim
  | none =>
    have hm' := opt_none hm
    subst hm'
    simp only at he
    split at he
    · rename_i hh' p i n e' cap e1
      rw [e1] at hv
      obtain ⟨h0, he2⟩ := rif_to he
      have h0 : sz P el = e' := by simpa using h0
      subst h0
      clear he
      have fin : ∀ l m, bdIs (lo.map a.eval) 0 l → bdIs (hi.map a.eval) n m → l ≤ m → m ≤ n → ∀ v, VRep I w ρ v = VRep I w ρ (.sl hh' p (i + l) (m - l) (sz P el) (capSub apf cap l)) → e = noEff v → StepOk P X o a w s e := by
        rintro l m hbl hbm hlm hmn v hvv rfl
        obtain ⟨ad, cp, h3, h4, h5⟩ := sl_sub hv hlm hmn
        have hr : (execOp a.eval o).run P w = .ok (.value (.slice (if cp = l then ad else ad.map (·.add (l * sz P el))) (m - l) (cp - l))) w := by
          simp [execOp, ho, h3, run_slice ht hz hbl hbm hlm (Nat.le_trans hmn h4)]
        exact stepVal h hd hr (by rw [hvv]; exact h5)
      cases il with
      | none =>
        cases ih with
        | none => exact fin 0 n (bd_none' hl 0) (bd_none' hh n) (by omega) (by omega) (.sl hh' p i n (sz P el) cap) (congrArg (VRep I w ρ) (by cases cap <;> rfl)) (by cases he2; rfl)
        | some ih =>
          obtain ⟨m, hm, hmn, he⟩ := bind_to he2
          exact fin 0 m (bd_none' hl 0) (bd_some h hh hm) (by omega) hmn (.sl hh' p i m (sz P el) cap) (congrArg (VRep I w ρ) (by cases cap <;> rfl)) (by cases he; rfl)
      | some il =>
        cases ih with
        | none =>
          obtain ⟨l, hm, hmn, he⟩ := bind_to he2
          exact fin l n (bd_some h hl hm) (bd_none' hh n) hmn (by omega) _ rfl (by cases he; rfl)
        | some ih =>
          obtain ⟨l, hl', he⟩ := bind_to he2
          obtain ⟨m, hm, hmn, hlm, he⟩ := bind_to he
          exact fin l m (bd_some h hl hl') (bd_some h hh hm) hlm hmn _ rfl (by cases he; rfl)
    · rename_i n e' c e1
      rw [e1] at hv
      obtain ⟨h0, he2⟩ := rif_to he
      have h0 : sz P el = e' := by simpa using h0
      subst h0
      clear he
      have fin : ∀ l m c', bdIs (lo.map a.eval) 0 l → bdIs (hi.map a.eval) n m → l ≤ m → m ≤ n → (c.subs apf l (m - l)).to c' → ∀ v, VRep I w ρ v = VRep I w ρ (.dsl (m - l) (sz P el) c') → e = noEff v → StepOk P X o a w s e := by
        rintro l m c' hbl hbm hlm hmn hsub v hvv rfl
        obtain ⟨ad, cp, h3, h4, h5⟩ := dsl_sub hv hsub hlm hmn
        have hr : (execOp a.eval o).run P w = .ok (.value (.slice (if cp = l then ad else ad.map (·.add (l * sz P el))) (m - l) (cp - l))) w := by
          simp [execOp, ho, h3, run_slice ht hz hbl hbm hlm (Nat.le_trans hmn h4)]
        exact stepVal h hd hr (by rw [hvv]; exact h5)
      cases il with
      | none =>
        cases ih with
        | none =>
          cases he2
          obtain ⟨ad, cp, h3, h4, h5, h6, h7, h8⟩ := vr_dsl hv
          refine stepVal h hd (x := .slice ad n cp) ?_ (dsl_vr h4 h5 h6 h7 h8)
          have hlo := opt_none hl
          have hhi := opt_none hh
          subst hlo; subst hhi
          have := run_slice (P := P) ht hz (ad := ad) (bd_none 0) (bd_none n) (Nat.zero_le n) h4 w
          simp only [execOp, ho, h3, Option.map_none, this, Result.andThen_ok, Sem.run_bind, Sem.run_pure, Nat.zero_mul, Nat.sub_zero]
          congr 2
          cases ad with
          | none => simp
          | some ad => simp [Addr.add]
        | some ih =>
          obtain ⟨m, hm, hmn, he⟩ := bind_to he2
          obtain ⟨c', hc', he⟩ := bind_to he
          exact fin 0 m c' (bd_none' hl 0) (bd_some h hh hm) (by omega) hmn hc' _ rfl (by cases he; rfl)
      | some il =>
        cases ih with
        | none =>
          obtain ⟨l, hm, hmn, he⟩ := bind_to he2
          obtain ⟨c', hc', he⟩ := bind_to he
          exact fin l n c' (bd_some h hl hm) (bd_none' hh n) hmn (by omega) hc' _ rfl (by cases he; rfl)
        | some ih =>
          obtain ⟨l, hl', he⟩ := bind_to he2
          obtain ⟨m, hm, hmn, hlm, he⟩ := bind_to he
          obtain ⟨c', hc', he⟩ := bind_to he
          exact fin l m c' (bd_some h hl hl') (bd_some h hh hm) hlm hmn hc' _ rfl (by cases he; rfl)
    · exact he.elim

theorem toBA_extract {l : List Int} {i j : Nat} : (toBA l).extract i j = toBA (subL l i (j - i)) := by
  apply ByteArray.ext
  apply Array.ext'
  simp only [ByteArray.data_extract, Array.toList_extract, toBA_data, List.extract_eq_take_drop, subL, List.map_take, List.map_drop]

theorem step_slT (h : Rep X I ρ ow s a.tmps w) (hd : dstOk X o) {t : TypeId} {x : Operand} {lo hi : Option Operand} {ix : IX} {il ih : Option IX} (ho : o.op = .slice t x lo hi none) (ht : P.underlying t = some .string)
    (hx : opIX x = some ix) (hl : optIX lo = some il) (hh : optIX hi = some ih) {e : Eff} {E : List (Nat × Ctr)}
    (he : (stepR apf E s.t s.h o.dst (.slT ix il ih)).to e) : StepOk P X o a w s e := by
  have hv := ev_rep h hx
  simp only [stepR] at he
  split at he
  case h_2 => exact he.elim
  rename_i l e1
  rw [e1] at hv
  obtain ⟨h1, h2, h3⟩ := vr_str hv
  have fin : ∀ i j, bdIs (lo.map a.eval) 0 i → bdIs (hi.map a.eval) l.length j → i ≤ j → j ≤ l.length → e = noEff (.str (subL l i (j - i))) → StepOk P X o a w s e := by
    rintro i j hbi hbj hij hjl rfl
    refine stepVal h hd (x := .string (toBA (subL l i (j - i)))) ?_ (str_vr (by simp [subL]; omega) (fun y hy => h3 y (List.mem_of_mem_drop (List.mem_of_mem_take hy))))
    have hsz : (toBA l).size = l.length := toBA_size l
    have hb : (Instr.sliceBounds false (toBA l).size (toBA l).size (lo.map a.eval) (hi.map a.eval) none).run P w = .ok (i, j, (toBA l).size) w :=
      run_sliceBounds hbi (by rw [hsz]; exact hbj) hij (by rw [hsz]; exact hjl) w
    simp [execOp, ho, h1, Instr.sliceAt, Instr.slice, run_underlying ht, hb, toBA_extract]
  cases il with
  | none =>
    cases ih with
    | none =>
      refine fin 0 l.length (bd_none' hl 0) (bd_none' hh _) (by omega) (by omega) ?_
      cases he
      simp [subL]
    | some ih =>
      obtain ⟨m, hm, hmn, he⟩ := bind_to he
      exact fin 0 m (bd_none' hl 0) (bd_some h hh hm) (by omega) hmn (by cases he; rfl)
  | some il =>
    cases ih with
    | none =>
      obtain ⟨m, hm, hmn, he⟩ := bind_to he
      exact fin m l.length (bd_some h hl hm) (bd_none' hh _) hmn (by omega) (by cases he; rfl)
    | some ih =>
      obtain ⟨i, hl', he⟩ := bind_to he
      obtain ⟨m, hm, hmn, hlm, he⟩ := bind_to he
      exact fin i m (bd_some h hl hl') (bd_some h hh hm) hlm hmn (by cases he; rfl)
end
end Go.Cx

/- Cx 13: reading memory: loads, the content of slices, bytes as strings. -/
namespace Go.Cx
open Go

section
variable {P : Program} {pure : Nat → Bool} {X : Fix} {I : Nat → Prop} {ρ : Rho} {ow : Own} {s : St} {a : Act} {w : World} {o : Oper}

theorem OwnBlk.cells {b : Nat} {cur : Array Value} (h : OwnBlk w b cur) (off : Nat) : (fun j => cur[off + j]?) = cellsAt w b off := by
  obtain ⟨ty, fr, h1, _⟩ := h
  funext j
  exact (cell_of_row w b (off + j) cur ty fr h1).symm

/-- the cells of a known block -/
theorem blk_cells (h : Rep X I ρ ow s a.tmps w) {hd b off sz' : Nat} {k : Bk} {c : V} (hh : s.h hd = some ⟨k, c⟩) (hl : ρ hd = some (.at b off sz')) (hk : k ≠ .dead) : ∃ q, CRep I w ow c ρ q 0 (cellsAt w b off) := by
  obtain ⟨l, h1, h2⟩ := h.heap _ _ hh
  rw [hl] at h1
  cases h1
  cases k with
  | dead => exact absurd rfl hk
  | own =>
    rcases h2 with ⟨h3, _⟩ | ⟨k', off', sz2, cur, h3, _, h6, h4, h5⟩
    · cases h3
    · cases h3
      rw [h6.cells] at h5
      exact ⟨_, h5⟩
  | bor =>
    rcases h2 with ⟨h3, _⟩ | ⟨k', off', sz2, h3, _, _, h4, h5⟩
    · cases h3
    · cases h3
      exact ⟨_, h5⟩
  | imm =>
    rcases h2 with ⟨h3, _⟩ | ⟨k', off', sz2, h3, _, h4, h5⟩
    · cases h3
    · cases h3
      exact ⟨[], CRep.mono (fun b hb => ⟨hb, rfl⟩) _ _ _ _ _ _ _ (noR_le ρ) (fun h => absurd rfl h) (fun _ _ => rfl) h5⟩

/-- the content of a known block that has no cells, or is nowhere -/
theorem blk_any (h : Rep X I ρ ow s a.tmps w) {hd : Nat} {k : Bk} {c : V} (hh : s.h hd = some ⟨k, c⟩) (hk : k ≠ .dead) : ∃ q g, CRep I w ow c ρ q 0 g := by
  obtain ⟨l, h1, h2⟩ := h.heap _ _ hh
  cases k with
  | dead => exact absurd rfl hk
  | own =>
    rcases h2 with ⟨h3, _, h4⟩ | ⟨k', off', sz2, cur, h3, _, h6, h4, h5⟩
    · exact ⟨_, _, h4⟩
    · exact ⟨_, _, h5⟩
  | bor =>
    rcases h2 with ⟨h3, _, h4⟩ | ⟨k', off', sz2, h3, _, _, h4, h5⟩
    · exact ⟨_, _, h4⟩
    · exact ⟨_, _, h5⟩
  | imm =>
    rcases h2 with ⟨h3, _, h4⟩ | ⟨k', off', sz2, h3, _, h4, h5⟩
    · exact ⟨[], _, CRep.mono (fun b hb => ⟨hb, rfl⟩) _ _ _ _ _ _ _ (noR_le ρ) (fun h => absurd rfl h) (fun _ _ => rfl) h4⟩
    · exact ⟨[], _, CRep.mono (fun b hb => ⟨hb, rfl⟩) _ _ _ _ _ _ _ (noR_le ρ) (fun h => absurd rfl h) (fun _ _ => rfl) h5⟩

/-- what a slice value reads as -/
structure SlRep (I : Nat → Prop) (w : World) (e n : Nat) (c : V) (x : Value) : Prop where
  ex : ∃ ad cp, x = .slice ad n cp ∧ n ≤ cp ∧ cp ≤ maxLen ∧ (cp = 0 ∨ ∃ b off, ad = some ⟨b, off, none⟩) ∧ CRep I w (fun _ => none) c noR [] 0 (behind w ad)
  row : isRow e n c

theorem empty_row (k : EK) (x : Value) (hx : ∃ a, x = .slice a 0 0) : SlRep I w k.size 0 (match k with | .i k => .ints k 0 [] | .o e z => .rows e 0 (fun _ => z.val)) x := by
  obtain ⟨ad, rfl⟩ := hx
  cases k with
  | i k => exact ⟨⟨ad, 0, rfl, by omega, by simp, .inl rfl, rfl, by simp, by intro j hj; omega⟩, rfl, rfl⟩
  | o e z => exact ⟨⟨ad, 0, rfl, by omega, by simp, .inl rfl, by intro j hj; omega⟩, rfl, rfl⟩

theorem sliceC_rep (h : Rep X I ρ ow s a.tmps w) {k : EK} {v : V} {x : Value} {r : Nat × V} (hr : (sliceC apf s.h k v).to r) (hv : VRep I w ρ v x) : SlRep I w k.size r.1 r.2 x := by
  unfold sliceC at hr
  split at hr
  · rename_i hd p i n e cap
    split at hr
    · exact hr.elim
    · rename_i kk c hnd hh
      obtain ⟨c', hat, hr⟩ := bind_to hr
      obtain ⟨h1, hle, hr⟩ := rif_to hr
      obtain ⟨c2, hsub, hr⟩ := bind_to hr
      cases hr
      simp only [Bool.and_eq_true, beq_iff_eq] at h1
      obtain ⟨h1, h2⟩ := h1
      have hle : i + n ≤ c'.cnt := hle
      have hrow := isRow_cnt hsub
      obtain ⟨ad, cp, l, h3, h4, h5, h6, _, h7⟩ := vr_sl hv
      by_cases hn : n = 0
      · obtain ⟨q, g, hg⟩ := blk_any h hh (fun e => hnd e)
        obtain ⟨h8, _⟩ := at_rep _ _ hat hg
        obtain ⟨h9, h10⟩ := subs_rep hsub hrow hle h8
        rw [h1, h2] at h9
        have hs0 : c2.size = 0 := by rw [isRow_size h9, hn]; simp
        exact ⟨⟨ad, cp, h3, h5, h6, h7.imp id (fun ⟨b, off, sz, _, ha, _⟩ => ⟨b, _, ha⟩), crep_empty hs0 h10⟩, h9⟩
      · obtain ⟨b, off, sz', rfl, rfl, h8⟩ := h7.resolve_left (by omega)
        obtain ⟨q, hg⟩ := blk_cells h hh h4 (fun e => hnd e)
        obtain ⟨h9, _⟩ := at_rep _ _ hat hg
        obtain ⟨h10, h11⟩ := subs_rep hsub hrow hle h9
        rw [h1, h2] at h10
        refine ⟨⟨_, cp, h3, h5, h6, .inr ⟨b, _, rfl⟩, ?_⟩, h10⟩
        have e1 : behind w (some ⟨b, off + (poff p + i * e), none⟩) = fun j => cellsAt w b off (poff p + (i * c'.rowE + j)) := by
          funext j
          simp only [behind, cellsAt, h1]
          congr 2
          omega
        rw [e1]
        exact h11.noow
    · exact hr.elim
  · rename_i n e c
    obtain ⟨h1, hr⟩ := rif_to hr
    cases hr
    have h1 : e = k.size := by simpa using h1
    subst h1
    obtain ⟨ad, cp, h3, h4, h5, h6, h7, h8⟩ := vr_dsl hv
    exact ⟨⟨ad, cp, h3, h4, h5, h8.imp id fun ⟨b, off, h, _⟩ => ⟨b, off, h⟩, h7⟩, h6⟩
  · cases hr; exact empty_row k x ⟨_, vr_nsl hv⟩
  · cases hr; exact empty_row k x (vr_zsl hv)
  · exact hr.elim

/-- where a slice's row lies: in a block of ours under the slice's own handle, or in a block of nobody's -/
theorem sliceC_place (h : Rep X I ρ ow s a.tmps w) {k : EK} {v : V} {x : Value} {r : Nat × V} (hr : (sliceC apf s.h k v).to r) (hv : VRep I w ρ v x) {b off n cp : Nat} (hx : x = .slice (some ⟨b, off, none⟩) n cp) (hcp : cp ≠ 0) :
    b < w.heap.size ∧ ∀ q, ow b = some q → ∃ hd p i n e cap, v = .sl hd p i n e cap ∧ q = [hd] := by
  unfold sliceC at hr
  split at hr
  · rename_i hd p i n' e cap
    split at hr
    · exact hr.elim
    · rename_i kk c hnd hh
      obtain ⟨ad, cp', l, h3, h4, h5, h6, _, h7⟩ := vr_sl hv
      rw [hx] at h3
      cases h3
      obtain ⟨b', off', sz', rfl, h8, h9⟩ := h7.resolve_left hcp
      cases h8
      obtain ⟨l, g1, g2⟩ := h.heap _ _ hh
      rw [h4] at g1
      cases g1
      cases kk with
      | own =>
        rcases g2 with ⟨g3, _⟩ | ⟨k', off2, sz2, cur, g3, g4, g5, _⟩
        · cases g3
        · cases g3
          exact ⟨g5.lt, fun q hq => ⟨_, _, _, _, _, _, rfl, by rw [g4] at hq; cases hq; rfl⟩⟩
      | bor =>
        rcases g2 with ⟨g3, _⟩ | ⟨k', off2, sz2, g3, g4, g5, _⟩
        · cases g3
        · cases g3
          exact ⟨g4, fun q hq => by rw [g5] at hq; cases hq⟩
      | imm =>
        rcases g2 with ⟨g3, _⟩ | ⟨k', off2, sz2, g3, g4, _⟩
        · cases g3
        · cases g3
          exact ⟨h.ilt _ g4, fun q hq => by rw [h.iow _ g4] at hq; cases hq⟩
      | dead => exact (hnd rfl).elim
    · exact hr.elim
  · rename_i n' e c
    obtain ⟨ad, cp', h3, h4, h5, h6, h7, h8⟩ := vr_dsl hv
    rw [hx] at h3
    cases h3
    obtain ⟨b', off', h9, h10⟩ := h8.resolve_left hcp
    cases h9
    exact ⟨h.ilt _ h10, fun q hq => by rw [h.iow _ h10] at hq; cases hq⟩
  · have := vr_nsl hv
    rw [hx] at this; cases this
  · obtain ⟨ad, this⟩ := vr_zsl hv
    rw [hx] at this; cases this; exact absurd rfl hcp
  · exact hr.elim

theorem foldl_push (l : List Int) : ∀ (s : ByteArray), l.foldl (fun r n => r.push (UInt8.ofNat n.toNat)) s = ⟨s.data ++ (l.map fun n => UInt8.ofNat n.toNat).toArray⟩ := by
  induction l with
  | nil => intro s; simp
  | cons n l ih =>
    intro s
    rw [List.foldl_cons, ih]
    apply ByteArray.ext
    show (s.data.push _) ++ _ = s.data ++ _
    apply Array.ext'
    simp

theorem ints_list {n : Nat} {k : IntKind} {l : List Int} {g : Nat → Option Value} (h : ∀ j, j < n → g j = some (.int k (nthI l j))) (hl : l.length = n) : ∀ j v, (l.map (Value.int k))[j]? = some v → g j = some v := by
  intro j v hv
  rw [List.getElem?_map] at hv
  cases hj : l[j]? with
  | none => simp [hj] at hv
  | some y =>
    obtain ⟨hlt, rfl⟩ := List.getElem?_eq_some_iff.1 hj
    rw [h j (by omega)]
    simp only [hj, Option.map_some] at hv
    rw [← hv]
    simp [nthI, List.getD_eq_getElem?_getD, hlt]

theorem step_b2s (h : Rep X I ρ ow s a.tmps w) (hd : dstOk X o) {t u el : TypeId} {x : Operand} {ix : IX} (ho : o.op = .convert t u x) (ht : P.underlying t = some (.slice el)) (hu : P.underlying u = some .string) (hel : P.underlying el = some (.int .u8))
    (hx : opIX x = some ix) {e : Eff} {E : List (Nat × Ctr)} (he : (stepR apf E s.t s.h o.dst (.b2s ix)).to e) : StepOk P X o a w s e := by
  have hv := ev_rep h hx
  simp only [stepR] at he
  obtain ⟨⟨n, c⟩, hc, he⟩ := bind_to he
  obtain ⟨⟨ad, cp, h1, h2, h3, h4, h5⟩, hrow⟩ := sliceC_rep h hc hv
  simp only at he
  split at he
  · rename_i n' l
    cases he
    obtain ⟨rfl, _⟩ := hrow
    obtain ⟨h6, h7, h8⟩ := h5
    refine stepVal h hd (x := .string (toBA l)) ?_ (str_vr (by simp only at h6 h2; omega) h7)
    have key : (Conv.bytesToString (a.eval x)).run P w = .ok (.string (toBA l)) w := by
      rw [h1]
      cases ad with
      | none =>
        have h0 : l = [] := by
          rcases h4 with h4 | ⟨_, _, h4⟩
          · exact List.eq_nil_of_length_eq_zero (by omega)
          · cases h4
        subst h0
        simp [Conv.bytesToString, toBA]
        rfl
      | some ad =>
        by_cases hn : n' = 0
        · have h0 : l = [] := List.eq_nil_of_length_eq_zero (by omega)
          subst h0
          subst hn
          rw [run_bytesToString w ad 0 cp [] (by simp [loadCells, loadCellsFrom])]
          simp [toBA]
          rfl
        · obtain ⟨b, off, h9⟩ := h4.resolve_left (by omega)
          cases h9
          have hl := run_loadCells_list (P := P) w ⟨b, off, none⟩ (l.map (Value.int .u8)) (fun j v hv => by
            rw [Addr.add_lit]
            exact ints_list h8 h6 j v hv)
          rw [List.length_map, h6] at hl
          rw [run_bytesToString w _ n' cp l hl, foldl_push]
          simp [toBA, ByteArray.empty, ByteArray.emptyWithCapacity]
          rfl
    have hconv : (convert t u (a.eval x)).run P w = .ok (.string (toBA l)) w := by
      rw [h1] at key ⊢
      rw [run_convert_bytes_string (P := P) w t u el ad _ cp ht hel hu]
      exact key
    simp [execOp, ho, hconv]
  · exact he.elim

/-- loading content as a value -/
theorem load_run {t : TypeId} {d : TypeDesc} (ht : P.underlying t = some d) (hz : sz P t ≠ 0) {b off : Nat} {v u : V} {q : List Nat} {pos : Nat} {ow : Own} (hc : CRep I w ow v ρ q pos (cellsAt w b off)) (hno : v.noown = true) (hs : v.size = sz P t)
    (hw : (wrapV (aggT P t) v).to u) : ∃ x, (loadVar t ⟨b, off, none⟩).run P w = .ok x w ∧ VRep I w ρ u x := by
  have hcell : ∀ j, j < v.size → ∃ y, cellsAt w b off j = some y := fun j hj => by
    obtain ⟨y, hy, _⟩ := CRep.cells v _ _ _ _ hc j hj
    exact ⟨y, hy⟩
  let f : Nat → Value := fun j => (cellsAt w b off j).getD undef
  have hf : ∀ j, j < v.size → cellsAt w b off j = some (f j) := fun j hj => by
    obtain ⟨y, hy⟩ := hcell j hj
    simp [f, hy]
  have hread := content_vr hw hno hc ((List.range v.size).map f) (by simp) (fun j hj => by rw [hf j hj]; simp [hj])
  cases hagg : aggT P t with
  | true =>
    refine ⟨.agg ((List.range v.size).map f).toArray, ?_, hread.1 hagg⟩
    have := run_loadCells (P := P) w ⟨b, off, none⟩ v.size f (fun j hj => by rw [Addr.add_lit]; exact hf j hj)
    rw [hs] at this ⊢
    simp [loadVar, isAgg_run ht, hagg, sizeOf_run hz, this]
  | false =>
    have h1 : v.size = 1 := by
      rcases wrapV_to hw with ⟨h1, _⟩ | ⟨h1, _⟩ | ⟨_, h2, rfl, _⟩
      · rw [hagg] at h1; cases h1
      · rw [hagg] at h1; cases h1
      · cases u <;> first | rfl | cases h2
    refine ⟨f 0, ?_, hread.2 hagg _ (by rw [h1]; rfl)⟩
    have := hf 0 (by omega)
    simp only [cellsAt, Nat.add_zero] at this
    simp [loadVar, isAgg_run ht, hagg, this]

theorem step_ld (h : Rep X I ρ ow s a.tmps w) (hd : dstOk X o) {t : TypeId} {d : TypeDesc} {x : Operand} {ix : IX} (ho : o.op = .load t x) (ht : P.underlying t = some d) (hz : sz P t ≠ 0)
    (hx : opIX x = some ix) {e : Eff} {E : List (Nat × Ctr)} (he : (stepR apf E s.t s.h o.dst (.ld (sz P t) (aggT P t) ix)).to e) : StepOk P X o a w s e := by
  have hv := ev_rep h hx
  simp only [stepR] at he
  have fin : ∀ (b off : Nat) (v u : V) (q : List Nat) (pos : Nat) (ow : Own), a.eval x = .pointer (some ⟨b, off, none⟩) → CRep I w ow v ρ q pos (cellsAt w b off) → v.size = sz P t → v.noown = true → (wrapV (aggT P t) v).to u → StepOk P X o a w s (noEff u) := by
    intro b off v u q pos ow hp hc hs hno hw
    obtain ⟨y, hy, hvy⟩ := load_run (P := P) ht hz hc hno hs hw
    exact stepVal h hd (by simp [execOp, ho, hp, Instr.loadAt, Instr.sureAddr, hy]) hvy
  split at he
  · rename_i hh p e1
    rw [e1] at hv
    obtain ⟨b, off, sz', h1, h2⟩ := vr_ptr hv
    split at he
    · exact he.elim
    · rename_i kk c hnd hh2
      obtain ⟨v, hat, he⟩ := bind_to he
      obtain ⟨hs, he⟩ := rif_to he
      simp only [Bool.and_eq_true, beq_iff_eq] at hs
      obtain ⟨hs, hno⟩ := hs
      obtain ⟨u, hu, he⟩ := bind_to he
      cases he
      obtain ⟨q, hg⟩ := blk_cells h hh2 h1 (fun e => hnd e)
      obtain ⟨h9, _⟩ := at_rep _ _ hat hg
      refine fin b (off + poff p) v u q (0 + poff p) ow h2 ?_ hs hno hu
      have e2 : cellsAt w b (off + poff p) = fun j => cellsAt w b off (poff p + j) := by funext j; simp [cellsAt, Nat.add_assoc]
      rw [e2]; exact h9
    · exact he.elim
  · rename_i c p e1
    rw [e1] at hv
    obtain ⟨b, off, hI, h2, h3⟩ := vr_dptr hv
    obtain ⟨v, hat, he⟩ := bind_to he
    obtain ⟨hs, he⟩ := rif_to he
    simp only [Bool.and_eq_true, beq_iff_eq] at hs
    obtain ⟨hs, hno⟩ := hs
    obtain ⟨u, hu, he⟩ := bind_to he
    cases he
    have h3' : CRep I w (fun _ => none) c ρ [] 0 (cellsAt w b off) := CRep.mono (fun b hb => ⟨hb, rfl⟩) _ _ _ _ _ _ _ (noR_le ρ) (fun h => absurd rfl h) (fun _ _ => rfl) h3
    obtain ⟨h9, _⟩ := at_rep _ _ hat h3'
    refine fin b (off + poff p) v u [] (0 + poff p) (fun _ => none) h2 ?_ hs hno hu
    have e2 : cellsAt w b (off + poff p) = fun j => cellsAt w b off (poff p + j) := by funext j; simp [cellsAt, Nat.add_assoc]
    rw [e2]; exact h9
  · exact he.elim
end
end Go.Cx
