/-
  What the laws of this claim stand on, part C: proved parts, no statement of its own.
-/
import Derived.Test.YtojllgpnhaaagaaDevBB
import Derived.Orders
/- CxOp13 -/
namespace Go.Cx
open Go
def LV.val : LV → Value
  | .b x => .bool x
  | .i k n => .int k n
  | .s l => .string (toBA l)
def LV.lit : LV → Lit
  | .b x => .bool x
  | .i k n => .int k n
  | .s l => .string (toBA l).data.toList
def LV.wf : LV → Prop
  | .b _ => True
  | .i k n => inR k n
  | .s l => l.length ≤ maxLen ∧ ∀ y ∈ l, inR .u8 y
theorem lit_inj {a b : LV} (ha : a.wf) (hb : b.wf) (h : a.lit = b.lit) : a = b := by
  cases a <;> cases b <;> simp only [LV.lit] at h <;> first | (cases h; done) | (cases h; rfl) | skip
  rename_i l m
  have h1 : (toBA l).data.toList = (toBA m).data.toList := by simpa using h
  have : bytesI (toBA l) = bytesI (toBA m) := by unfold bytesI; rw [h1]
  rw [bytesI_toBA ha.2, bytesI_toBA hb.2] at this
  rw [this]
theorem lits_inj : ∀ {a b : List LV}, (∀ x ∈ a, x.wf) → (∀ x ∈ b, x.wf) → (a.map LV.lit = b.map LV.lit ↔ a = b)
  | [], [], _, _ => by simp
  | [], _ :: _, _, _ => by simp
  | _ :: _, [], _, _ => by simp
  | x :: a, y :: b, ha, hb => by
    simp only [List.map_cons, List.cons.injEq]
    rw [lits_inj (fun z hz => ha z (by simp [hz])) (fun z hz => hb z (by simp [hz]))]
    constructor
    · rintro ⟨h1, h2⟩; exact ⟨lit_inj (ha x (by simp)) (hb y (by simp)) h1, h2⟩
    · rintro ⟨rfl, rfl⟩; exact ⟨rfl, rfl⟩
/-- rows of one length, one behind the other -/
theorem flat_at {α : Type} {f : Nat → List α} {e : Nat} : ∀ {n : Nat}, (∀ j, j < n → (f j).length = e) → ((List.range n).flatMap f).length = n * e ∧ ∀ j r, j < n → r < e → ((List.range n).flatMap f)[j * e + r]? = (f j)[r]?
  | 0, _ => ⟨by simp, fun j r hj => by omega⟩
  | n + 1, h => by
    obtain ⟨h1, h2⟩ := flat_at (n := n) fun j hj => h j (by omega)
    rw [List.range_succ, List.flatMap_append]
    simp only [List.flatMap_cons, List.flatMap_nil, List.append_nil]
    have hn := h n (by omega)
    refine ⟨by rw [List.length_append, h1, hn, Nat.add_mul]; omega, fun j r hj hr => ?_⟩
    by_cases hjn : j < n
    · have hlt : j * e + r < n * e := by
        have := Nat.mul_le_mul_right e (show j + 1 ≤ n from hjn)
        rw [Nat.add_mul] at this; omega
      rw [List.getElem?_append_left (by omega)]
      exact h2 j r hjn hr
    · obtain rfl : j = n := by omega
      rw [List.getElem?_append_right (by omega), h1]
      congr 1; omega
section
variable {P : Program} {X : Fix} {I : Nat → Prop} {ρ : Rho} {ow : Own} {s : St} {a : Act} {w : World} {o : Oper}
theorem lits_rep : ∀ (v : V) {ρ : Rho} {q : List Nat} {pos : Nat} {g : Nat → Option Value}, litOkP v → CRep I w ow v ρ q pos g → (litsV v).length = v.size ∧ (∀ x ∈ litsV v, x.wf) ∧ ∀ j, j < v.size → g j = ((litsV v)[j]?).map LV.val := by
  intro v
  have one : ∀ {x : LV} {g : Nat → Option Value}, g 0 = some x.val → ∀ j, j < 1 → g j = (([x] : List LV)[j]?).map LV.val := fun h j hj => by
    obtain rfl : j = 0 := by omega
    simpa using h
  induction v with
  | tt => intro ρ q pos g _ h; exact ⟨rfl, by simp [litsV, LV.wf], one h⟩
  | ff => intro ρ q pos g _ h; exact ⟨rfl, by simp [litsV, LV.wf], one h⟩
  | bool b => intro ρ q pos g _ h; exact ⟨rfl, by simp [litsV, LV.wf], one h⟩
  | lit k n => intro ρ q pos g _ h; exact ⟨rfl, by simpa [litsV, LV.wf] using h.2, one h.1⟩
  | int k n => intro ρ q pos g _ h; exact ⟨rfl, by simpa [litsV, LV.wf] using h.2, one h.1⟩
  | str l => intro ρ q pos g _ h; exact ⟨rfl, by simpa only [litsV, List.mem_singleton, forall_eq, LV.wf] using h.2, one h.1⟩
  | ints k n l =>
    intro ρ q pos g _ h
    refine ⟨by simpa [litsV, V.size] using h.1, ?_, fun j hj => ?_⟩
    · intro x hx
      obtain ⟨y, hy, rfl⟩ := List.mem_map.1 hx
      exact h.2.1 y hy
    · simp only [V.size] at hj
      rw [h.2.2 j hj]
      have : j < l.length := by rw [h.1]; exact hj
      simp [litsV, LV.val, nthI, List.getD_eq_getElem?_getD, List.getElem?_eq_getElem this]
  | cat n m a b iha ihb =>
    intro ρ q pos g hok h
    obtain ⟨h1, h2, h3, h4⟩ := h
    obtain ⟨a1, a2, a3⟩ := iha hok.1 h3
    obtain ⟨b1, b2, b3⟩ := ihb hok.2 h4
    refine ⟨by simp only [litsV, List.length_append, V.size]; omega, fun x hx => (List.mem_append.1 hx).elim (a2 x) (b2 x), fun j hj => ?_⟩
    simp only [V.size] at hj
    simp only [litsV]
    by_cases hlt : j < n
    · rw [List.getElem?_append_left (by omega)]
      exact a3 j (by omega)
    · rw [List.getElem?_append_right (by omega)]
      have := b3 (j - n) (by omega)
      rw [show n + (j - n) = j by omega] at this
      rw [this, a1, h1]
  | rows e n f ih =>
    intro ρ q pos g hok h
    have each := fun j hj => ih j (hok j hj) (h j hj).2
    obtain ⟨f1, f2⟩ := flat_at (f := fun j => litsV (f j)) (e := e) (n := n) fun j hj => by rw [(each j hj).1]; exact (h j hj).1
    refine ⟨by simp only [litsV, V.size]; exact f1, fun x hx => ?_, fun j hj => ?_⟩
    · simp only [litsV, List.mem_flatMap, List.mem_range] at hx
      obtain ⟨j, hj, hx⟩ := hx
      exact (each j hj).2.1 x hx
    · simp only [V.size] at hj
      have he : 0 < e := by
        rcases Nat.eq_zero_or_pos e with rfl | he
        · simp at hj
        · exact he
      have hd : j / e < n := by rwa [Nat.div_lt_iff_lt_mul he]
      have hm := Nat.mod_lt j he
      have h3 := (each (j / e) hd).2.2 (j % e) (by rw [(h (j / e) hd).1]; exact hm)
      have h4 := f2 (j / e) (j % e) hd hm
      have e1 : j / e * e + j % e = j := by rw [Nat.mul_comm]; exact Nat.div_add_mod j e
      rw [e1] at h3 h4
      simp only [litsV]
      rw [h3, h4]
  | one a ih => intro ρ q pos g hok h; exact ih hok h.2
  | _ => intro ρ q pos g hok; exact hok.elim
theorem int_wf {k : IntKind} {n : Int} (h : inR k n) : (Lit.int k n).wf = true := by
  simp only [Lit.wf, Bool.and_eq_true, decide_eq_true_eq]; exact h
theorem ckF_keys {f : TypeId → Option (List CK)} {d : Nat} (ih : ∀ (t : TypeId) (ks : List CK) (lv : List LV), f t = some ks → P.keyTypeAt d t = true → ks.length = P.cellsOf t → lv.map kindL = ks → (∀ x ∈ lv, x.wf) → P.keyLits d t (lv.map LV.val) = some (lv.map LV.lit)) :
    ∀ (fs : List Field) (o : Nat) (ks : List CK) (pre lv : List LV), ckT.ckF P f o fs = some ks → (∀ g ∈ fs, P.keyTypeAt d g.type = true) → pre.length = o → lv.map kindL = ks → (∀ x ∈ lv, x.wf) →
      (fs.mapM fun g => P.keyLits d g.type ((((pre ++ lv).map LV.val).drop g.offset).take (P.cellsOf g.type))).map List.flatten = some (lv.map LV.lit)
  | [], o, ks, pre, lv, h, _, _, hk, _ => by
    simp only [ckT.ckF, Option.some.injEq] at h
    subst h
    have : lv = [] := by simpa using hk
    subst this
    simp
  | g :: fs, o, ks, pre, lv, h, hkt, hp, hk, hw => by
    simp only [ckT.ckF, Option.bind_eq_some_iff] at h
    obtain ⟨l, h1, h2⟩ := h
    split at h2
    · rename_i hc
      simp only [Bool.and_eq_true, beq_iff_eq] at hc
      simp only [Option.map_eq_some_iff] at h2
      obtain ⟨r, h3, rfl⟩ := h2
      -- the list parts in two
      obtain ⟨lv1, lv2, rfl, k1, k2⟩ : ∃ lv1 lv2, lv = lv1 ++ lv2 ∧ lv1.map kindL = l ∧ lv2.map kindL = r := by
        obtain ⟨a, b, h4, h5, h6⟩ := List.map_eq_append_iff.1 hk
        exact ⟨a, b, h4, h5, h6⟩
      have hl1 : lv1.length = l.length := by rw [← k1]; simp
      have e1 : ((((pre ++ (lv1 ++ lv2)).map LV.val).drop g.offset).take (P.cellsOf g.type)) = lv1.map LV.val := by
        rw [hc.1, ← hp, ← hc.2, ← hl1, List.map_append, List.map_append, List.drop_left' (by simp), List.take_left' (by simp)]
      have e2 := ih g.type l lv1 h1 (hkt g (by simp)) hc.2 k1 fun x hx => hw x (by simp [hx])
      have e3 := ckF_keys ih fs (o + l.length) r (pre ++ lv1) lv2 h3 (fun g' hg => hkt g' (by simp [hg])) (by simp; omega) k2 fun x hx => hw x (by simp [hx])
      rw [List.mapM_cons]
      simp only [e1, e2, Option.bind_eq_bind, Option.bind_some, Option.pure_def]
      rw [List.append_assoc] at e3
      simp only [Option.map_eq_some_iff] at e3 ⊢
      obtain ⟨y, h7, h8⟩ := e3
      exact ⟨lv1.map LV.lit :: y, by rw [h7]; rfl, by simp [h8]⟩
    · cases h2
theorem parts_eq {n m : Nat} {ks : List CK} : ∀ {lv : List LV}, lv.map kindL = (List.replicate n ks).flatten → ks.length = m → ∃ parts : List (List LV), parts.length = n ∧ lv = parts.flatten ∧ (∀ p ∈ parts, p.map kindL = ks) := by
  induction n with
  | zero =>
    intro lv h _
    exact ⟨[], rfl, by simpa using h, by simp⟩
  | succ n ih =>
    intro lv h hm
    rw [List.replicate_succ, List.flatten_cons] at h
    obtain ⟨a, b, h4, h5, h6⟩ := List.map_eq_append_iff.1 h
    obtain ⟨ps, g1, g2, g3⟩ := ih h6 hm
    exact ⟨a :: ps, by simp [g1], by simp [h4, g2], fun p hp => (List.mem_cons.1 hp).elim (fun e => e ▸ h5) (g3 p)⟩
theorem flat_chunk {α : Type} {m : Nat} : ∀ {parts : List (List α)} {i : Nat}, (∀ p ∈ parts, p.length = m) → i < parts.length → (parts.flatten.drop (i * m)).take m = parts[i]?.getD []
  | [], i, _, hi => by simp at hi
  | p :: ps, 0, h, _ => by
    have hp := h p (by simp)
    simp only [Nat.zero_mul, List.drop_zero, List.flatten_cons, List.getElem?_cons_zero, Option.getD_some]
    exact List.take_left' hp
  | p :: ps, i + 1, h, hi => by
    have hp := h p (by simp)
    have := flat_chunk (parts := ps) (i := i) (fun q hq => h q (List.mem_cons_of_mem _ hq)) (by simpa using hi)
    rw [List.flatten_cons, Nat.add_mul, Nat.one_mul, Nat.add_comm, ← List.drop_drop, List.drop_left' hp, this]
    simp
theorem mapM_range {α β : Type} {f : Nat → Option α} {g : β → α} : ∀ {l : List β} (k : Nat), (∀ (i : Nat) (x : β), l[i]? = some x → f (k + i) = some (g x)) → ((List.range' k l.length).mapM f) = some (l.map g)
  | [], _, _ => rfl
  | x :: l, k, h => by
    have h0 := h 0 x rfl
    have ih := mapM_range (l := l) (k + 1) fun i y hy => by
      have := h (i + 1) y (by simpa using hy)
      rw [show k + 1 + i = k + (i + 1) by omega]; exact this
    rw [List.length_cons, List.range'_succ, List.mapM_cons]
    rw [Nat.add_zero] at h0
    simp [h0, ih]
theorem ck_keys : ∀ (d : Nat) (t : TypeId) (ks : List CK) (lv : List LV), ckT P d t = some ks → P.keyTypeAt d t = true → ks.length = P.cellsOf t → lv.map kindL = ks → (∀ x ∈ lv, x.wf) → P.keyLits d t (lv.map LV.val) = some (lv.map LV.lit)
  | 0, _, _, _, h, _, _, _, _ => by simp [ckT] at h
  | d + 1, t, ks, lv, h, hkt, hn, hk, hw => by
    unfold ckT at h
    unfold Program.keyTypeAt at hkt
    have len1 : ∀ {c : CK}, [c] = ks → ∃ x, lv = [x] ∧ kindL x = c := fun {c} e => by
      rw [← e] at hk
      obtain ⟨x, r, h1, h2, h3⟩ := List.map_eq_cons_iff.1 hk
      have : r = [] := by simpa using h3
      subst this
      exact ⟨x, h1, h2⟩
    cases hu : P.underlying t with
    | none => rw [hu] at h; cases h
    | some kd =>
      rw [hu] at h hkt
      cases kd <;> first | (cases h; done) | skip
      case bool =>
        obtain ⟨x, rfl, hx⟩ := len1 (Option.some.inj h)
        cases x <;> simp [kindL] at hx
        simp [Program.keyLits, hu, LV.val, LV.lit]
      case int k =>
        obtain ⟨x, rfl, hx⟩ := len1 (Option.some.inj h)
        cases x <;> simp [kindL] at hx
        subst hx
        have := hw _ (List.mem_singleton.2 rfl)
        simp [Program.keyLits, hu, LV.val, LV.lit, int_wf this]
      case string =>
        obtain ⟨x, rfl, hx⟩ := len1 (Option.some.inj h)
        cases x <;> simp [kindL] at hx
        rename_i l
        have h1 := hw _ (List.mem_singleton.2 rfl)
        have h2 : (toBA l).size ≤ maxLen := by rw [toBA_size]; exact h1.1
        simp [Program.keyLits, hu, LV.val, LV.lit, h2]
      case array n e =>
        simp only [Option.bind_eq_some_iff] at h
        obtain ⟨l, h1, h2⟩ := h
        split at h2
        · rename_i hc
          simp only [Bool.and_eq_true, beq_iff_eq, decide_eq_true_eq] at hc
          cases h2
          obtain ⟨ps, g1, rfl, g3⟩ := parts_eq (m := P.cellsOf e) hk hc.1
          have hlen : ∀ p ∈ ps, p.length = P.cellsOf e := fun p hp => by rw [← hc.1, ← g3 p hp]; simp
          unfold Program.keyLits
          simp only [hu]
          have hcs : (ps.flatten.map LV.val).length = P.cellsOf t := by rw [List.length_map, ← hn, ← hk, List.length_map]
          rw [if_pos hcs]
          have hm := mapM_range (f := fun i => P.keyLits d e (((ps.flatten.map LV.val).drop (i * P.cellsOf e)).take (P.cellsOf e))) (g := fun p : List LV => p.map LV.lit) (l := ps) 0 fun i p hp => by
            have hi : i < ps.length := (List.getElem?_eq_some_iff.1 hp).1
            have hmem := List.mem_of_getElem? hp
            rw [Nat.zero_add]
            have e1 : ((ps.flatten.map LV.val).drop (i * P.cellsOf e)).take (P.cellsOf e) = p.map LV.val := by
              rw [← List.map_drop, ← List.map_take, flat_chunk hlen hi, hp]; rfl
            rw [e1]
            exact ck_keys d e l p h1 hkt hc.1 (g3 p hmem) fun x hx => hw x (List.mem_flatten.2 ⟨p, hmem, hx⟩)
          rw [g1, ← List.range_eq_range'] at hm
          rw [hm]
          simp [List.map_flatten]
        · cases h2
      case struct fs =>
        simp only [Bool.and_eq_true] at hkt
        have hkt1 : ∀ g ∈ fs.toList, g.name ≠ "_" ∧ P.keyTypeAt d g.type = true := fun g hg => by
          have := Array.all_eq_true_iff_forall_mem.1 hkt.1.1 g (Array.mem_toList_iff.1 hg)
          simpa only [Bool.and_eq_true, bne_iff_ne, ne_eq] using this
        have := ckF_keys (P := P) (d := d) (fun t ks lv a b c d' e => ck_keys d t ks lv a b c d' e) fs.toList 0 ks [] lv h (fun g hg => (hkt1 g hg).2) rfl hk hw
        unfold Program.keyLits
        simp only [hu]
        have hcs : (lv.map LV.val).length = P.cellsOf t := by rw [List.length_map, ← hn, ← hk, List.length_map]
        rw [if_pos ⟨hcs, Array.all_eq_true_iff_forall_mem.2 fun g hg => by simpa using (hkt1 g (Array.mem_toList_iff.2 hg)).1⟩]
        simpa using this
/-- cells of plain literals, as a value of this type -/
theorem key_rep {t : TypeId} {ks : List CK} {v : V} {x : Value} (hks : ckT P 6 t = some ks) (hkt : P.keyTypeAt 6 t = true) (hn : ks.length = P.cellsOf t) (hw : (∃ n e, P.underlying t = some (.array n e)) ∨ ∃ fs, P.underlying t = some (.struct fs))
    (hk : kindsP ks v) (hv : VRep I w ρ v x) (ha : v.isAgg = true) : ∃ cs, x = .agg cs ∧ x.formed P t = true ∧ P.keyLits 6 t x.cells.toList = some ((litsV v).map LV.lit) ∧ ∀ y ∈ litsV v, y.wf := by
  obtain ⟨cs, rfl, h1, h2⟩ := vr_agg hv ha
  obtain ⟨h3, h4, h5⟩ := lits_rep v hk.1 h2
  have hlen : (litsV v).length = ks.length := by rw [← hk.2]; simp
  have hcs : cs.toList = (litsV v).map LV.val := by
    apply List.ext_getElem?
    intro j
    rw [Array.getElem?_toList, List.getElem?_map]
    by_cases hj : j < v.size
    · exact h5 j hj
    · rw [Array.getElem?_eq_none (by omega), List.getElem?_eq_none (by omega)]; rfl
  refine ⟨cs, rfl, ?_, ?_, h4⟩
  · rcases hw with ⟨n, e, hu⟩ | ⟨fs, hu⟩ <;> simp [Value.formed, hu] <;> omega
  · show P.keyLits 6 t cs.toList = _
    rw [hcs]
    exact ck_keys 6 t ks _ hks hkt hn hk.2 h4
theorem eqZT_spec {t : TypeId} {ty : ETy} (hty : eqZT P t = some ty) : ∃ ks, ty = .z ks ∧ P.keyTypeAt 6 t = true ∧ P.eqGuardType P.depth t = false ∧ ckT P 6 t = some ks ∧ ks.length = P.cellsOf t ∧
    ((∃ n e, P.underlying t = some (.array n e)) ∨ ∃ fs, P.underlying t = some (.struct fs)) := by
  have body : ((∃ n e, P.underlying t = some (.array n e)) ∨ ∃ fs, P.underlying t = some (.struct fs)) →
      (if (P.keyTypeAt 6 t && !P.eqGuardType P.depth t) = true then (match ckT P 6 t with
        | some ks => if (ks.length == P.cellsOf t) = true then some (ETy.z ks) else none
        | none => none) else none) = some ty →
      ∃ ks, ty = .z ks ∧ P.keyTypeAt 6 t = true ∧ P.eqGuardType P.depth t = false ∧ ckT P 6 t = some ks ∧ ks.length = P.cellsOf t ∧ ((∃ n e, P.underlying t = some (.array n e)) ∨ ∃ fs, P.underlying t = some (.struct fs)) := fun hw hb => by
    split at hb
    · rename_i h1
      simp only [Bool.and_eq_true, Bool.not_eq_true'] at h1
      split at hb
      · rename_i ks hks
        split at hb
        · rename_i hn
          cases hb
          exact ⟨ks, rfl, h1.1, h1.2, hks, by simpa using hn, hw⟩
        · cases hb
      · cases hb
    · cases hb
  unfold eqZT at hty
  split at hty
  · rename_i n e hu; exact body (.inl ⟨_, _, hu⟩) hty
  · rename_i fs hu; exact body (.inr ⟨_, hu⟩) hty
  · cases hty
theorem step_eqZ (h : Rep X I ρ ow s a.tmps w) (hd : dstOk X o) {t yt : TypeId} {x y : Operand} {ix iy : IX} {ty : ETy} {ne : Bool} (ho : o.op = .binOp (if ne then .neq else .eql) t x y yt) (hty : eqZT P t = some ty)
    (hx : opIX x = some ix) (hy : opIX y = some iy) {e : Eff} (he : ((eqR apf ty (ev s.t ix) (ev s.t iy)).bind fun v => .ok (noEff (if ne then notV apf v else v))).to e) : StepOk P X o a w s e := by
  obtain ⟨v, hv, rfl⟩ := bind_to he
  have hvx := ev_rep h hx
  have hvy := ev_rep h hy
  obtain ⟨ks, rfl, hkt, hg, hks, hn, hw⟩ := eqZT_spec hty
  simp only [eqR] at hv
  obtain ⟨hag, hk1, hk2, hv⟩ := rif_to hv
  cases hv
  simp only [Bool.and_eq_true] at hag
  obtain ⟨cs, hxe, f1, k1, w1⟩ := key_rep hks hkt hn hw hk1 hvx hag.1
  obtain ⟨ds, hye, f2, k2, w2⟩ := key_rep hks hkt hn hw hk2 hvy hag.2
  obtain ⟨r, hr, hiff⟩ := run_equalIn_deep (P := P) 9994 6 t hkt w 6 6 (a.eval x) (a.eval y) _ _ f1 f2 k1 k2
  have hr' : (Op.equal t (a.eval x) (a.eval y)).run P w = .ok r w := hr
  have hrb : r = eqZ (ev s.t ix) (ev s.t iy) := by
    have := hiff.trans (lits_inj w1 w2)
    unfold eqZ
    cases r with
    | true => exact (decide_eq_true (this.1 rfl)).symm
    | false => exact (decide_eq_false fun e => by have := this.2 e; cases this).symm
  rw [hxe, hye] at hr'
  refine stepVal h hd (x := .bool (if ne then !r else r)) ?_ ?_
  · cases ne <;> simp [execOp, ho, hxe, hye, eqGuard, hg, binOp, hr']
  · subst hrb
    cases ne with
    | true => exact bool_vr _
    | false => exact bool_vr _
end
end Go.Cx
/- CxCall -/
namespace Go.Cx
open Go
/-- content of a block whose owner has a new name -/
theorem CRep.reown {I : Nat → Prop} {w : World} {ow ow' : Own} (c : V) : ∀ (ρ ρ' : Rho) (q q' : List Nat) (pos : Nat) (g : Nat → Option Value), c.clo = true →
    (q ≠ [] → q' ≠ [] ∧ ∀ b r, r ≠ [] → ow b = some (q ++ r) → ow' b = some (q' ++ r)) → CRep I w ow c ρ q pos g → CRep I w ow' c ρ' q' pos g := by
  induction c with
  | cat n m a b iha ihb =>
    intro ρ ρ' q q' pos g hc ho h
    simp only [V.clo, Bool.and_eq_true] at hc
    exact ⟨h.1, h.2.1, iha _ _ _ _ _ _ hc.1 ho h.2.2.1, ihb _ _ _ _ _ _ hc.2 ho h.2.2.2⟩
  | one a ih =>
    intro ρ ρ' q q' pos g hc ho h
    exact ⟨h.1, ih _ _ _ _ _ _ (by simpa [V.clo] using hc) ho h.2⟩
  | ptr h p => intro ρ ρ' q q' pos g hc; simp [V.clo] at hc
  | sl h p i n e cap => intro ρ ρ' q q' pos g hc; simp [V.clo] at hc
  | any => intro ρ ρ' q q' pos g hc; simp [V.clo] at hc
  | tcons a b => intro ρ ρ' q q' pos g hc ho h; exact h.elim
  | tnil => intro ρ ρ' q q' pos g hc ho h; exact h.elim
  | osl n e c ih =>
    intro ρ ρ' q q' pos g hc ho h
    simp only [V.clo] at hc
    obtain ⟨h1, a, cp, h2, h3, h4, h5, h6⟩ := h
    obtain ⟨k1, k2⟩ := ho h1
    have key : ∀ b r, r ≠ [] → ow b = some (q ++ [pos] ++ r) → ow' b = some (q' ++ [pos] ++ r) := fun b r hr hb => by
      have := k2 b ([pos] ++ r) (by simp) (by simpa using hb)
      simpa using this
    refine ⟨k1, a, cp, h2, h3, h4, h5, h6.imp (fun ⟨e1, e2⟩ => ⟨e1, ?_⟩) (fun ⟨b, off, cur, e1, e2, e3, e4, e5⟩ => ⟨b, off, cur, e1, k2 b _ (by simp) e2, e3, e4, ?_⟩)⟩
    · exact CRep.mono (fun b hb => ⟨hb, rfl⟩) _ _ _ _ _ _ _ (Rho.le_refl _) (fun h => absurd rfl h) (fun _ _ => rfl) e2
    · exact ih _ _ _ _ _ _ hc (fun _ => ⟨by simp, key⟩) e5
  | optr c ih =>
    intro ρ ρ' q q' pos g hc ho h
    simp only [V.clo] at hc
    obtain ⟨h1, b, off, cur, h2, h3, h4, h6, h5⟩ := h
    obtain ⟨k1, k2⟩ := ho h1
    have key : ∀ b r, r ≠ [] → ow b = some (q ++ [pos] ++ r) → ow' b = some (q' ++ [pos] ++ r) := fun b r hr hb => by
      have := k2 b ([pos] ++ r) (by simp) (by simpa using hb)
      simpa using this
    exact ⟨k1, b, off, cur, h2, k2 b _ (by simp) h3, h4, h6, ih _ _ _ _ _ _ hc (fun _ => ⟨by simp, key⟩) h5⟩
  | dptr c p => intro ρ ρ' q q' pos g hc ho h; obtain ⟨b, off, h1, h2, h3⟩ := h; exact ⟨b, off, h1, h2, h3.noow⟩
  | dsl n e c => intro ρ ρ' q q' pos g hc ho h; obtain ⟨a, cp, h1, h2, h3, h4, h5, h6⟩ := h; exact ⟨a, cp, h1, h2, h3, h4, h5.noow, h6⟩
  | rows e n f => intro ρ ρ' q q' pos g hc ho h j hj; exact ⟨(h j hj).1, (h j hj).2.noow⟩
  | _ => intro ρ ρ' q q' pos g hc ho h; exact h
/-- a value whose handles have new names -/
theorem CRep.rename {I : Nat → Prop} {w : World} {n : Nat} {f : Nat → Nat} (v : V) : ∀ (ρ ρ' : Rho) (pos : Nat) (g : Nat → Option Value), v.hOk n = true → (∀ a l, a < n → ρ a = some l → ρ' (f a) = some l) →
    CRep I w (fun _ => none) v ρ [] pos g → CRep I w (fun _ => none) (renV f v) ρ' [] pos g ∧ (renV f v).size = v.size ∧ (renV f v).isAgg = v.isAgg := by
  induction v with
  | ptr h p =>
    intro ρ ρ' pos g hc hr hh
    obtain ⟨b, off, sz, h1, h2⟩ := hh
    exact ⟨⟨b, off, sz, hr _ _ (by simpa [V.hOk] using hc) h1, h2⟩, rfl, rfl⟩
  | sl h p i n e cap =>
    intro ρ ρ' pos g hc hr hh
    obtain ⟨a, c, l, h1, h2, h3⟩ := hh
    exact ⟨⟨a, c, l, h1, hr _ _ (by simpa [V.hOk] using hc) h2, h3⟩, rfl, rfl⟩
  | cat n m a b iha ihb =>
    intro ρ ρ' pos g hc hr hh
    simp only [V.hOk, Bool.and_eq_true] at hc
    obtain ⟨h1, h2, h3, h4⟩ := hh
    have ha := iha _ _ _ _ hc.1 hr h3
    have hb := ihb _ _ _ _ hc.2 hr h4
    exact ⟨⟨ha.2.1.trans h1, hb.2.1.trans h2, ha.1, hb.1⟩, rfl, rfl⟩
  | tcons a b => intro ρ ρ' pos g hc hr hh; exact hh.elim
  | _ => intro ρ ρ' pos g hc hr hh; exact ⟨CRep.closed _ _ _ _ _ _ hc hh, rfl, rfl⟩
theorem VRep0.rename {I : Nat → Prop} {w : World} {n : Nat} {f : Nat → Nat} {v : V} {x : Value} {ρ ρ' : Rho} (hc : v.hOk n = true) (hr : ∀ a l, a < n → ρ a = some l → ρ' (f a) = some l) (h : VRep0 I w ρ v x) : VRep0 I w ρ' (renV f v) x := by
  rcases h with rfl | ⟨h1, h2, h3⟩
  · simp [V.hOk, V.clo] at hc
  · obtain ⟨k1, k2, k3⟩ := CRep.rename v _ _ _ _ hc hr h3
    exact .inr ⟨by rw [k2, h1], by rw [k3, h2], k1⟩
theorem TRep.rename {I : Nat → Prop} {w : World} {n : Nat} {f : Nat → Nat} {ρ ρ' : Rho} (hr : ∀ a l, a < n → ρ a = some l → ρ' (f a) = some l) : ∀ {v : V} {l : List Value}, v.hOk n = true → TRep I w ρ v l → TRep I w ρ' (renV f v) l := by
  intro v
  induction v with
  | tnil => intro l _ h; exact h
  | tcons a b _ ihb =>
    intro l hc h
    simp only [V.hOk, Bool.and_eq_true] at hc
    obtain ⟨y, r, h1, h2, h3⟩ := h
    exact ⟨y, r, h1, h2.rename hc.1 hr, ihb hc.2 h3⟩
  | _ => intro l _ h; exact h.elim
theorem VRep.rename {I : Nat → Prop} {w : World} {n : Nat} {f : Nat → Nat} {v : V} {x : Value} {ρ ρ' : Rho} (hc : v.hOk n = true) (hr : ∀ a l, a < n → ρ a = some l → ρ' (f a) = some l) (h : VRep I w ρ v x) : VRep I w ρ' (renV f v) x := by
  cases v with
  | tnil => exact h
  | tcons a b => obtain ⟨l, h1, h2⟩ := h; exact ⟨l, h1, TRep.rename hr hc h2⟩
  | _ => exact VRep0.up (VRep0.rename hc hr h)
section
variable {X : Fix} {I : Nat → Prop} {ρ : Rho} {ow : Own} {s : St} {tm : Array Value} {w : World}
/-- the blocks that go with the objects handed over -/
def overF (ow : Own) (hs : List Nat) : Nat → Prop := fun b => ∃ x r, ow b = some (x :: r) ∧ x ∈ hs
open Classical in
noncomputable def backRho (ρ ρ' : Rho) (rn : Nat → Option Nat) : Rho := fun b => if h : ∃ a, rn a = some b then ρ' h.choose else ρ b
open Classical in
noncomputable def backOw (ow ow' : Own) (F' : Nat → Prop) (n : Nat) (rn : Nat → Option Nat) : Own := fun b =>
  if b < n ∧ ¬ F' b then ow b else match ow' b with | some (a :: r) => (rn a).map (· :: r) | _ => none
/-- The caller's state behind a call. -/
theorem Rep.back (h : Rep X I ρ ow s tm w) {hs : List Nat} {I' : Nat → Prop} {ρ' r0 : Rho} {ow' : Own} {hc' hh : Nat → Option Blk} {w' : World} {rn : Nat → Option Nat}
    (h' : Rep ⟨overF ow hs, I, w, 0, r0⟩ I' ρ' ow' ⟨fun _ => .any, hc'⟩ #[] w')
    (inj : ∀ a a' b, rn a = some b → rn a' = some b → a = a')
    (h1 : ∀ a b, rn a = some b → (∃ c, hc' a = some ⟨.own, c⟩ ∧ c.clo = true ∧ hh b = some ⟨.own, c⟩) ∧ ((b ∈ hs ∧ ρ b = ρ' a) ∨ (b < 100000 ∧ s.h b = none)))
    (h2 : ∀ b, (∀ a, rn a ≠ some b) → b ∉ hs ∧ hh b = s.h b) :
    ∃ ρ'' ow'', Rho.le ρ ρ'' ∧ (∀ a b, rn a = some b → ρ'' b = ρ' a) ∧ Rep X I' ρ'' ow'' ⟨s.t, hh⟩ tm w' := by
  classical
  have hnew : ∀ a b, rn a = some b → backRho ρ ρ' rn b = ρ' a := fun a b hab => by
    have hex : ∃ a, rn a = some b := ⟨a, hab⟩
    simp only [backRho, dif_pos hex]
    rw [inj _ _ _ hex.choose_spec hab]
  have hold : ∀ b, (∀ a, rn a ≠ some b) → backRho ρ ρ' rn b = ρ b := fun b hb => by
    have hex : ¬ ∃ a, rn a = some b := fun ⟨a, ha⟩ => hb a ha
    simp only [backRho, dif_neg hex]
  have hle : Rho.le ρ (backRho ρ ρ' rn) := fun b l hl => by
    by_cases hex : ∃ a, rn a = some b
    · obtain ⟨a, ha⟩ := hex
      rw [hnew a b ha]
      obtain ⟨_, ⟨_, e⟩ | ⟨hb, e⟩⟩ := h1 a b ha
      · rw [← e]; exact hl
      · exact absurd e (h.dom b l hl hb)
    · rw [hold b (fun a ha => hex ⟨a, ha⟩)]; exact hl
  have hF : ∀ b, overF ow hs b → b < w.heap.size ∧ (X.F b ∨ X.w0.heap.size ≤ b) := fun b ⟨x, r, hb, _⟩ => ⟨(h.owf b _ hb).1, (h.owf b _ hb).2.1⟩
  have hnF : ∀ b, ow b = none → ¬ overF ow hs b := fun b hb ⟨x, r, e, _⟩ => by rw [hb] at e; cases e
  have hnF2 : ∀ b x r, ow b = some (x :: r) → x ∉ hs → ¬ overF ow hs b := fun b x r hb hx ⟨x', r', e, hx'⟩ => by
    rw [hb] at e; cases e; exact hx hx'
  have owold : ∀ b, b < w.heap.size → ¬ overF ow hs b → backOw ow ow' (overF ow hs) w.heap.size rn b = ow b := fun b hb hn => by
    simp only [backOw, if_pos (And.intro hb hn)]
  have ownew : ∀ b, (overF ow hs b ∨ w.heap.size ≤ b) → backOw ow ow' (overF ow hs) w.heap.size rn b = match ow' b with | some (a :: r) => (rn a).map (· :: r) | _ => none := fun b hb => by
    have : ¬ (b < w.heap.size ∧ ¬ overF ow hs b) := fun ⟨e1, e2⟩ => by
      rcases hb with hb | hb
      · exact e2 hb
      · omega
    simp only [backOw, if_neg this]
  have hframe : ∀ b, b < w.heap.size → ¬ overF ow hs b → w'.heap[b]? = w.heap[b]? := fun b hb hn => h'.frame b hb hn
  have hII : ∀ b, I b → I' b ∧ w'.heap[b]? = w.heap[b]? := fun b hb => ⟨h'.iold b hb, hframe b (h.ilt b hb) (hnF b (h.iow b hb))⟩
  refine ⟨backRho ρ ρ' rn, backOw ow ow' (overF ow hs) w.heap.size rn, hle, hnew, ?_⟩
  exact
    { frame := fun b hb hFb => (hframe b (Nat.lt_of_lt_of_le hb h.size) (fun e => by
        rcases (hF b e).2 with e | e
        · exact hFb e
        · omega)).trans (h.frame b hb hFb)
      size := Nat.le_trans h.size h'.size
      os := h'.os.trans h.os
      tape := h'.tape.trans h.tape
      output := h'.output.trans h.output
      iold := fun b hb => h'.iold b (h.iold b hb)
      inew := fun b hb => by
        rcases h'.inew b hb with e | e | e
        · exact h.inew b e
        · exact .inr (hF b e).2
        · exact .inr (.inr (Nat.le_trans h.size e))
      ilt := h'.ilt
      iow := fun b hb => by
        by_cases hc : b < w.heap.size ∧ ¬ overF ow hs b
        · rw [owold b hc.1 hc.2]
          rcases h'.inew b hb with e | e | e
          · exact h.iow b e
          · exact absurd e hc.2
          · have e : w.heap.size ≤ b := e
            omega
        · have hc2 : overF ow hs b ∨ w.heap.size ≤ b := by
            by_cases e : overF ow hs b
            · exact .inl e
            · exact .inr (Nat.le_of_not_lt fun e2 => hc ⟨e2, e⟩)
          rw [ownew b hc2, h'.iow b hb]
      owf := fun b q hb => by
        by_cases hc : b < w.heap.size ∧ ¬ overF ow hs b
        · rw [owold b hc.1 hc.2] at hb
          obtain ⟨g1, g2, x, r, c, rfl, g3⟩ := h.owf b q hb
          refine ⟨Nat.lt_of_lt_of_le g1 h'.size, g2, x, r, c, rfl, ?_⟩
          by_cases hex : ∃ a, rn a = some x
          · obtain ⟨a, ha⟩ := hex
            obtain ⟨_, ⟨e, _⟩ | ⟨_, e⟩⟩ := h1 a x ha
            · exact absurd ⟨x, r, hb, e⟩ hc.2
            · rw [e] at g3; cases g3
          · exact (h2 x (fun a ha => hex ⟨a, ha⟩)).2.trans g3
        · have hc2 : overF ow hs b ∨ w.heap.size ≤ b := by
            by_cases e : overF ow hs b
            · exact .inl e
            · exact .inr (Nat.le_of_not_lt fun e2 => hc ⟨e2, e⟩)
          rw [ownew b hc2] at hb
          split at hb
          · rename_i a r hab
            obtain ⟨g1, g2, _⟩ := h'.owf b _ hab
            cases hra : rn a with
            | none => rw [hra] at hb; cases hb
            | some y =>
              rw [hra] at hb
              cases hb
              obtain ⟨⟨c, _, _, e⟩, _⟩ := h1 a y hra
              refine ⟨g1, ?_, y, r, c, rfl, e⟩
              rcases g2 with g2 | g2
              · exact (hF b g2).2
              · exact .inr (Nat.le_trans h.size g2)
          · cases hb
      dom := fun b l hl hb => by
        by_cases hex : ∃ a, rn a = some b
        · obtain ⟨a, ha⟩ := hex
          obtain ⟨⟨c, _, _, e⟩, _⟩ := h1 a b ha
          simp only [e]; simp
        · rw [hold b (fun a ha => hex ⟨a, ha⟩)] at hl
          simp only [(h2 b (fun a ha => hex ⟨a, ha⟩)).2]
          exact h.dom b l hl hb
      glob := fun n => by
        obtain ⟨sz, hg⟩ := h.glob n
        exact ⟨sz, hle _ _ hg⟩
      tsz := h.tsz
      nle := h.nle
      rle := fun b l hl => hle _ _ (h.rle b l hl)
      tmps := fun i => (h.tmps i).mono hII hle
      heap := fun b blk hb => by
        by_cases hex : ∃ a, rn a = some b
        · obtain ⟨a, ha⟩ := hex
          obtain ⟨⟨c, e1, e2, e3⟩, _⟩ := h1 a b ha
          simp only [e3, Option.some.injEq] at hb
          subst hb
          obtain ⟨l, g1, g2⟩ := h'.heap a _ e1
          refine ⟨l, by rw [hnew a b ha]; exact g1, ?_⟩
          rcases g2 with ⟨rfl, g3, g4⟩ | ⟨k, off, sz, cur, rfl, g3, g4, g5, g6⟩
          · exact .inl ⟨rfl, g3, CRep.reown _ _ _ _ _ _ _ e2 (fun h => absurd rfl h) g4⟩
          · have hk := (h'.owf k _ g3).2.1
            refine .inr ⟨k, off, sz, cur, rfl, by rw [ownew k hk, g3]; simp [ha], g4, g5, CRep.reown _ _ _ _ _ _ _ e2 (fun _ => ⟨by simp, fun b' r hr hb' => ?_⟩) g6⟩
            have hk' := (h'.owf b' _ hb').2.1
            rw [ownew b' hk', hb']
            simp [ha]
        · obtain ⟨hnb, e⟩ := h2 b (fun a ha => hex ⟨a, ha⟩)
          simp only [e] at hb
          obtain ⟨l, g1, g2⟩ := h.heap b blk hb
          refine ⟨l, hle _ _ g1, ?_⟩
          unfold BRep at *
          split at g2
          · rcases g2 with ⟨g3, g4, g5⟩ | ⟨k, off, sz, cur, g3, g4, g5, g6, g7⟩
            · exact .inl ⟨g3, g4, CRep.mono hII _ _ _ _ _ _ _ hle (fun h => absurd rfl h) (fun _ _ => rfl) g5⟩
            · have hkF := hnF2 k b [] g4 hnb
              refine .inr ⟨k, off, sz, cur, g3, by rw [owold k g5.lt hkF]; exact g4, g5.same (hframe k g5.lt hkF), g6, CRep.mono hII _ _ _ _ _ _ _ hle (fun _ b' r _ hb' => ?_) (fun _ _ => rfl) g7⟩
              have hbF := hnF2 b' b r hb' hnb
              have hbl := (h.owf b' _ hb').1
              exact ⟨by rw [owold b' hbl hbF]; exact hb', hframe b' hbl hbF⟩
          · rcases g2 with ⟨g3, g4, g5⟩ | ⟨k, off, sz, g3, g4, g5, g6, g7⟩
            · exact .inl ⟨g3, g4, CRep.mono hII _ _ _ _ _ _ _ hle (fun h => absurd rfl h) (fun _ _ => rfl) g5⟩
            · have hkF := hnF k g5
              refine .inr ⟨k, off, sz, g3, Nat.lt_of_lt_of_le g4 h'.size, by rw [owold k g4 hkF]; exact g5, g6, ?_⟩
              rw [cellsAt_same (hframe k g4 hkF)]
              exact CRep.mono hII _ _ _ _ _ _ _ hle (fun h => absurd rfl h) (fun _ _ => rfl) g7
          · rcases g2 with ⟨g3, g4, g5⟩ | ⟨k, off, sz, g3, g4, g5, g6⟩
            · exact .inl ⟨g3, g4, CRep.mono hII _ _ _ _ _ _ _ (Rho.le_refl _) (fun h => absurd rfl h) (fun _ _ => rfl) g5⟩
            · refine .inr ⟨k, off, sz, g3, (hII k g4).1, g5, ?_⟩
              rw [cellsAt_same (hII k g4).2]
              exact CRep.mono hII _ _ _ _ _ _ _ (Rho.le_refl _) (fun h => absurd rfl h) (fun _ _ => rfl) g6
          · trivial }
end
end Go.Cx
/- CxCall2 -/
namespace Go.Cx
open Go
def parV (i : Nat) : Arg → V
  | .v v => v
  | .b n e _ => .sl (parH i) [] 0 n e none
  | .o _ none => .ptr (parH i) []
  | .o _ (some (j, n, e, cap)) => .sl (parH i) [] j n e cap
/-- an object, as it is handed over -/
def vwV : Option (Nat × Nat × Nat × Option Nat) → Nat → V
  | none, hd => .ptr hd []
  | some (j, n, e, cap), hd => .sl hd [] j n e cap
def parB (pure : Bool) : Arg → Option Blk
  | .v _ => none
  | .b _ _ c => some ⟨.bor, c⟩
  | .o c _ => some ⟨if pure then .bor else .own, c⟩
def parHs (G : List (Nat × V)) (pure : Bool) (args : List Arg) : Nat → Option Blk := fun h =>
  if 200000 ≤ h then (look G (h - 200000)).map fun c => ⟨.imm, c⟩ else if 100000 ≤ h then (args[h - 100000]?).bind (parB pure) else none
def outO : Nat → List Arg → List V → List (Nat × Blk)
  | i, .o _ _ :: r, c :: cs => (parH i, ⟨.own, c⟩) :: outO (i + 1) r cs
  | _, .o _ _ :: _, [] => []
  | i, _ :: r, cs => outO (i + 1) r cs
  | _, [], _ => []
def outN : Nat → List V → List (Nat × Blk)
  | _, [] => []
  | j, c :: r => (j, ⟨.own, c⟩) :: outN (j + 1) r
def outHs (args : List Arg) (out : Out) : Nat → Option Blk := look (outO 0 args out.objs ++ outN 0 out.news)
/-- the package's variables that are known: laid once, never written -/
structure GOk (G : List (Nat × V)) (X : Fix) : Prop where
  i0 : ∀ b, X.I0 b → ¬ X.F b ∧ b < X.w0.heap.size
  g : ∀ n c, look G n = some c → X.I0 n ∧ (∃ sz, X.r0 (globH n) = some (.at n 0 sz) ∧ c.size ≤ sz) ∧ CRep X.I0 X.w0 (fun _ => none) c noR [] 0 (cellsAt X.w0 n 0)
section
variable {G : List (Nat × V)} {X : Fix} {I : Nat → Prop} {ρ : Rho} {ow : Own} {s : St} {tm : Array Value} {w : World}
theorem Rep.glo (h : Rep X I ρ ow s tm w) (hG : GOk G X) {n : Nat} {c : V} (hn : look G n = some c) :
    I n ∧ (∃ sz, ρ (globH n) = some (.at n 0 sz) ∧ c.size ≤ sz) ∧ CRep I w (fun _ => none) c noR [] 0 (cellsAt w n 0) := by
  obtain ⟨h1, ⟨sz, h2, h3⟩, h4⟩ := hG.g n c hn
  have hII : ∀ b, X.I0 b → I b ∧ w.heap[b]? = X.w0.heap[b]? := fun b hb => ⟨h.iold b hb, h.frame b (hG.i0 b hb).2 (hG.i0 b hb).1⟩
  refine ⟨h.iold n h1, ⟨sz, h.rle _ _ h2, h3⟩, ?_⟩
  rw [cellsAt_same (hII n h1).2]
  exact CRep.mono hII _ _ _ _ _ _ _ (Rho.le_refl _) (fun h => absurd rfl h) (fun _ _ => rfl) h4
end
section
variable (I : Nat → Prop) (w : World) (ρ : Rho) (ow : Own) (s : St) (pure : Bool) (HS : List Nat)
/-- one argument -/
def ArgOk (arg : Arg) (x : Value) (lo : Lo) (ho : Option Nat) : Prop := match arg with
  | .v v => VRep I w noR v x ∧ ho = none
  | .b n e c => ho = none ∧ isRow e n c ∧ ∃ ad cp, x = .slice ad n cp ∧ n ≤ cp ∧ cp ≤ maxLen ∧ CRep I w (fun _ => none) c noR [] 0 (behind w ad) ∧
      ((cp = 0 ∧ lo = .ph) ∨ ∃ b off, ad = some ⟨b, off, none⟩ ∧ lo = .at b off (cp * e) ∧ b < w.heap.size ∧ ∀ q, ow b = some q → ∃ hd, q = [hd] ∧ hd ∉ HS)
  | .o c vw => ∃ hd kk, s.h hd = some ⟨kk, c⟩ ∧ c.clo = true ∧ ρ hd = some lo ∧ VRep I w ρ (vwV vw hd) x ∧
      ((pure = false ∧ kk = .own ∧ ho = some hd) ∨ (pure = true ∧ c.noown = true ∧ (kk = .own ∨ kk = .bor) ∧ ho = none))
def ArgsOk : List Arg → List Value → List Lo → List (Option Nat) → Prop
  | a :: as, x :: xs, l :: ls, h :: hs => ArgOk I w ρ ow s pure HS a x l h ∧ ArgsOk as xs ls hs
  | [], [], [], [] => True
  | _, _, _, _ => False
end
section
variable {I : Nat → Prop} {w : World} {ρ : Rho} {ow : Own} {s : St} {pure : Bool} {HS : List Nat}
theorem ArgsOk.get : ∀ {as : List Arg} {xs : List Value} {ls : List Lo} {hs : List (Option Nat)}, ArgsOk I w ρ ow s pure HS as xs ls hs → as.length = xs.length ∧ as.length = ls.length ∧ as.length = hs.length ∧
    ∀ (i : Nat) (a : Arg), as[i]? = some a → ∃ x l h, xs[i]? = some x ∧ ls[i]? = some l ∧ hs[i]? = some h ∧ ArgOk I w ρ ow s pure HS a x l h
  | [], [], [], [], _ => ⟨rfl, rfl, rfl, fun i a h => by simp at h⟩
  | a :: as, x :: xs, l :: ls, h :: hs, ⟨h1, h2⟩ => by
    obtain ⟨g1, g2, g3, g4⟩ := ArgsOk.get h2
    refine ⟨by simp [g1], by simp [g2], by simp [g3], fun i b hb => ?_⟩
    cases i with
    | zero => cases hb; exact ⟨x, l, h, rfl, rfl, rfl, h1⟩
    | succ i => simpa using g4 i b (by simpa using hb)
  | [], _ :: _, _, _, h => h.elim
  | [], [], _ :: _, _, h => h.elim
  | [], [], [], _ :: _, h => h.elim
  | _ :: _, [], _, _, h => h.elim
  | _ :: _, _ :: _, [], _, h => h.elim
  | _ :: _, _ :: _, _ :: _, [], h => h.elim
end
section
variable {P : Program} {X : Fix} {I : Nat → Prop} {ρ : Rho} {ow : Own} {s : St} {a : Act} {w : World} {o : Oper} {pure : Bool} {HS : List Nat}
theorem closed_vr {v : V} {x : Value} (hc : v.clo = true) (hn : ∀ n e c, v ≠ .osl n e c) (hn2 : ∀ c, v ≠ .optr c) (h : VRep I w ρ v x) : VRep I w noR v x := by
  have go0 : ∀ {v : V} {x : Value}, v.clo = true → VRep0 I w ρ v x → VRep0 I w noR v x := by
    intro v x hc h
    rcases h with rfl | ⟨h1, h2, h3⟩
    · simp [V.clo] at hc
    · exact .inr ⟨h1, h2, CRep.closed _ _ _ _ _ _ hc h3⟩
  have goT : ∀ {v : V} {l : List Value}, v.clo = true → TRep I w ρ v l → TRep I w noR v l := by
    intro v
    induction v with
    | tnil => intro l _ h; exact h
    | tcons a b _ ihb =>
      intro l hc h
      simp only [V.clo, Bool.and_eq_true] at hc
      obtain ⟨y, r, h1, h2, h3⟩ := h
      exact ⟨y, r, h1, go0 hc.1 h2, ihb hc.2 h3⟩
    | _ => intro l _ h; exact h.elim
  cases v with
  | tnil => exact h
  | tcons a b => obtain ⟨l, h1, h2⟩ := h; exact ⟨l, h1, goT hc h2⟩
  | _ => exact go0 hc h
theorem resolve_ok (h : Rep X I ρ ow s a.tmps w) {k : AK} {v : V} {x : Value} {r : Arg × Option Nat} (hr : (resolve apf s.h pure k v).to r) (hv : VRep I w ρ v x) (hl : ∀ hd p i n e cap kk, v = .sl hd p i n e cap → k = .b kk → hd ∉ HS) :
    ∃ lo, ArgOk I w ρ ow s pure HS r.1 x lo r.2 := by
  unfold resolve at hr
  split at hr
  · rename_i k
    obtain ⟨⟨n, c⟩, hc, hr⟩ := bind_to hr
    cases hr
    have hsl := sliceC_rep h hc hv
    obtain ⟨⟨ad, cp, h1, h2, h3, h4, h5⟩, hrow⟩ := hsl
    by_cases hcp : cp = 0
    · exact ⟨.ph, rfl, hrow, ad, cp, h1, h2, h3, h5, .inl ⟨hcp, rfl⟩⟩
    · obtain ⟨b, off, rfl⟩ := h4.resolve_left hcp
      obtain ⟨g1, g2⟩ := sliceC_place h hc hv h1 hcp
      refine ⟨.at b off (cp * k.size), rfl, hrow, _, cp, h1, h2, h3, h5, .inr ⟨b, off, rfl, rfl, g1, fun q hq => ?_⟩⟩
      obtain ⟨hd, p, i, n, e, cap, e1, e2⟩ := g2 q hq
      exact ⟨hd, e2, hl _ _ _ _ _ _ _ e1 rfl⟩
  · split at hr
    · rename_i hd i n e cap
      split at hr
      · rename_i c hh
        obtain ⟨h1, hr⟩ := rif_to hr
        cases hr
        simp only [Bool.and_eq_true, Bool.not_eq_true'] at h1
        obtain ⟨l, g1, g2⟩ := h.heap _ _ hh
        exact ⟨l, hd, .own, hh, h1.1.1.1, g1, hv, .inl ⟨h1.1.1.2, rfl, rfl⟩⟩
      · exact hr.elim
    · exact hr.elim
  · split at hr
    · rename_i hd
      split at hr
      · rename_i c hh
        obtain ⟨h1, hr⟩ := rif_to hr
        cases hr
        simp only [Bool.and_eq_true, Bool.or_eq_true, Bool.not_eq_true'] at h1
        obtain ⟨l, g1, g2⟩ := h.heap _ _ hh
        refine ⟨l, hd, .own, hh, h1.1, g1, hv, ?_⟩
        cases pure with
        | true => exact .inr ⟨rfl, by simpa using h1.2, .inl rfl, rfl⟩
        | false => exact .inl ⟨rfl, rfl, rfl⟩
      · rename_i c hh
        obtain ⟨h1, hr⟩ := rif_to hr
        cases hr
        simp only [Bool.and_eq_true] at h1
        obtain ⟨l, g1, g2⟩ := h.heap _ _ hh
        exact ⟨l, hd, .bor, hh, h1.1.2, g1, hv, .inr ⟨h1.1.1, h1.2, .inr rfl, rfl⟩⟩
      · exact hr.elim
    · obtain ⟨h1, hr⟩ := rif_to hr
      cases hr
      simp only [Bool.and_eq_true] at h1
      refine ⟨.ph, closed_vr h1.1 (fun n e c e1 => ?_) (fun c e1 => ?_) hv, rfl⟩
      · rw [e1] at h1; simp at h1
      · rw [e1] at h1; simp at h1
theorem resolveL_ok (h : Rep X I ρ ow s a.tmps w) : ∀ {xs : List (V × AK)} {vals : List Value} {r : List Arg × List Nat}, (resolveL apf s.h pure xs).to r → F2 (fun x v => VRep I w ρ x.1 v) xs vals → (∀ i ∈ lent xs, i ∉ HS) →
    ∃ los hos, ArgsOk I w ρ ow s pure HS r.1 vals los hos ∧ hos.filterMap id = r.2 := by
  intro xs
  induction xs with
  | nil =>
    intro vals r hr hv _
    cases hv
    cases hr
    exact ⟨[], [], trivial, rfl⟩
  | cons x xs ih =>
    intro vals r hr hv hl
    cases hv with
    | cons hxv hv =>
      simp only [resolveL] at hr
      obtain ⟨r1, hr1, hr⟩ := bind_to hr
      obtain ⟨r2, hr2, hr⟩ := bind_to hr
      cases hr
      have hsub : ∀ i ∈ lent xs, i ∈ lent (x :: xs) := by
        intro i hi
        obtain ⟨v, k⟩ := x
        cases v <;> cases k <;> simp [lent, hi]
      obtain ⟨los, hos, g1, g2⟩ := ih hr2 hv (fun i hi => hl i (hsub i hi))
      obtain ⟨lo, g3⟩ := resolve_ok (HS := HS) h hr1 hxv (fun hd p i n e cap kk e1 e2 => hl hd (by
        obtain ⟨v, k⟩ := x
        simp only at e1 e2
        subst e1 e2
        simp [lent]))
      refine ⟨lo :: los, r1.2 :: hos, ⟨g3, g1⟩, ?_⟩
      cases hq : r1.2 <;> simp [g2]
end
theorem fm_inj : ∀ {l : List (Option Nat)} {i j x : Nat}, (l.filterMap id).Nodup → l[i]? = some (some x) → l[j]? = some (some x) → i = j := by
  intro l
  induction l with
  | nil => intro i j x _ h; simp at h
  | cons a l ih =>
    intro i j x hn hi hj
    have hmem : ∀ {k : Nat}, l[k]? = some (some x) → x ∈ l.filterMap id := fun {k} hk => by
      simp only [List.mem_filterMap, id]
      exact ⟨some x, List.mem_of_getElem? hk, rfl⟩
    cases a with
    | none =>
      cases i with
      | zero => simp at hi
      | succ i =>
        cases j with
        | zero => simp at hj
        | succ j => exact congrArg (· + 1) (ih (by simpa using hn) (by simpa using hi) (by simpa using hj))
    | some y =>
      simp only [List.filterMap_cons, id, List.nodup_cons] at hn
      cases i with
      | zero =>
        cases j with
        | zero => rfl
        | succ j =>
          simp at hi
          subst hi
          exact absurd (hmem (by simpa using hj)) hn.1
      | succ i =>
        cases j with
        | zero =>
          simp at hj
          subst hj
          exact absurd (hmem (by simpa using hi)) hn.1
        | succ j => exact congrArg (· + 1) (ih hn.2 (by simpa using hi) (by simpa using hj))
section
variable {G : List (Nat × V)} {X : Fix} {I : Nat → Prop} {ρ : Rho} {ow : Own} {s : St} {tm : Array Value} {w : World} {pure : Bool}
open Classical in
noncomputable def forthOw (ow : Own) (hos : List (Option Nat)) : Own := fun b => match ow b with
  | some (x :: r) => if h : ∃ i : Nat, hos[i]? = some (some x) then some (parH h.choose :: r) else none
  | _ => none
def forthRho (ρ : Rho) (los : List Lo) : Rho := fun h => if 200000 ≤ h then ρ h else if 100000 ≤ h then los[h - 100000]? else none
theorem forthRho_par {los : List Lo} {i : Nat} (h : i < 100000) : forthRho ρ los (parH i) = los[i]? := by
  have h1 : ¬ 200000 ≤ parH i := by simp only [parH]; omega
  have h2 : 100000 ≤ parH i := by simp only [parH]; omega
  have h3 : parH i - 100000 = i := by simp only [parH]; omega
  simp only [forthRho, if_neg h1, if_pos h2, h3]
theorem parHs_par {args : List Arg} {i : Nat} (h : i < 100000) : parHs G pure args (parH i) = (args[i]?).bind (parB pure) := by
  have h1 : ¬ 200000 ≤ parH i := by simp only [parH]; omega
  have h2 : 100000 ≤ parH i := by simp only [parH]; omega
  have h3 : parH i - 100000 = i := by simp only [parH]; omega
  simp only [parHs, if_neg h1, if_pos h2, h3]
theorem forthOw_at {ow : Own} {hos : List (Option Nat)} (hn : (hos.filterMap id).Nodup) {b x i : Nat} {r : List Nat} (hb : ow b = some (x :: r)) (hi : hos[i]? = some (some x)) : forthOw ow hos b = some (parH i :: r) := by
  have hex : ∃ i : Nat, hos[i]? = some (some x) := ⟨i, hi⟩
  simp only [forthOw, hb, dif_pos hex]
  rw [fm_inj hn hex.choose_spec hi]
theorem forthOw_none {ow : Own} {hos : List (Option Nat)} {b : Nat} (h : ∀ q, ow b = some q → ∃ x, q = [x] ∧ x ∉ hos.filterMap id) : forthOw ow hos b = none := by
  cases hb : ow b with
  | none => simp [forthOw, hb]
  | some q =>
    obtain ⟨x, rfl, hx⟩ := h q hb
    have hex : ¬ ∃ i : Nat, hos[i]? = some (some x) := fun ⟨i, hi⟩ => hx (by
      simp only [List.mem_filterMap, id]
      exact ⟨some x, List.mem_of_getElem? hi, rfl⟩)
    simp only [forthOw, hb, dif_neg hex]
theorem forthOw_some {ow : Own} {hos : List (Option Nat)} {b : Nat} {q : List Nat} (h : forthOw ow hos b = some q) : ∃ (x : Nat) (r : List Nat) (i : Nat), ow b = some (x :: r) ∧ hos[i]? = some (some x) ∧ q = parH i :: r := by
  simp only [forthOw] at h
  split at h
  · rename_i x r hb
    split at h
    · rename_i hex
      cases h
      exact ⟨x, r, hex.choose, hb, hex.choose_spec, rfl⟩
    · cases h
  · cases h
/-- The callee's first state. -/
theorem Rep.forth (h : Rep X I ρ ow s tm w) (hG : GOk G X) {args : List Arg} {vals : List Value} {los : List Lo} {hos : List (Option Nat)} (hlen : args.length ≤ 100000) (hn : (hos.filterMap id).Nodup)
    (hok : ArgsOk I w ρ ow s pure (hos.filterMap id) args vals los hos) :
    Rep ⟨overF ow (hos.filterMap id), I, w, 0, forthRho ρ los⟩ I (forthRho ρ los) (forthOw ow hos) ⟨fun _ => .any, parHs G pure args⟩ #[] w ∧
      ∀ (i : Nat) (a : Arg), args[i]? = some a → VRep I w (forthRho ρ los) (parV i a) (vals.toArray.getD i undef) := by
  obtain ⟨l1, l2, l3, hget⟩ := hok.get
  have hpar : ∀ (i : Nat), i < args.length → forthRho ρ los (parH i) = los[i]? := fun i hi => by
    exact forthRho_par (by omega)
  have hmem : ∀ {i x : Nat}, hos[i]? = some (some x) → x ∈ hos.filterMap id := fun {i x} hi => by
    simp only [List.mem_filterMap, id]
    exact ⟨some x, List.mem_of_getElem? hi, rfl⟩
  refine ⟨?_, fun i arg hi => ?_⟩
  · exact
      { frame := fun b _ _ => rfl
        size := Nat.le_refl _
        os := rfl
        tape := rfl
        output := rfl
        iold := fun _ h => h
        inew := fun _ h => .inl h
        ilt := h.ilt
        iow := fun b hb => forthOw_none (fun q hq => by rw [h.iow b hb] at hq; cases hq)
        owf := fun b q hb => by
          obtain ⟨x, r, i, h1, h2, rfl⟩ := forthOw_some hb
          refine ⟨(h.owf b _ h1).1, .inl ⟨x, r, h1, hmem h2⟩, parH i, r, ?_⟩
          have hil : i < args.length := by rw [l3]; exact (List.getElem?_eq_some_iff.1 h2).1
          obtain ⟨y, l, ho, g1, g2, g3, g4⟩ := hget i _ (List.getElem?_eq_getElem hil)
          rw [h2] at g3
          cases g3
          generalize hga : args[i] = arg at g4
          cases arg with
          | v v => cases g4.2
          | b n e c => cases g4.1
          | o c vw =>
            obtain ⟨hd, kk, _, _, _, _, g5⟩ := g4
            rcases g5 with ⟨g5, _, _⟩ | ⟨_, _, _, g5⟩
            · refine ⟨c, rfl, ?_⟩
              have : args[i]? = some (.o c vw) := by rw [List.getElem?_eq_getElem hil, hga]
              show parHs G pure args (parH i) = _
              rw [parHs_par (by omega), this]
              simp [parB, g5]
            · cases g5
        dom := fun k l hk hlt => by
          simp only [forthRho] at hk
          rw [if_neg (by omega), if_neg (by omega)] at hk
          cases hk
        glob := fun n => by
          obtain ⟨sz, hg⟩ := h.glob n
          refine ⟨sz, ?_⟩
          simp only [forthRho]
          rw [if_pos (by simp [globH])]
          exact hg
        tsz := rfl
        nle := by simp
        rle := Rho.le_refl _
        tmps := fun i => VRep.any _ _ _ _
        heap := fun k blk hk => by
          simp only [parHs] at hk
          split at hk
          · rename_i hk2
            simp only [Option.map_eq_some_iff] at hk
            obtain ⟨c, hc, rfl⟩ := hk
            obtain ⟨g1, ⟨sz, g2, g3⟩, g4⟩ := h.glo hG hc
            have e1 : globH (k - 200000) = k := by simp only [globH]; omega
            rw [e1] at g2
            refine ⟨.at (k - 200000) 0 sz, by simp only [forthRho]; rw [if_pos hk2]; exact g2, .inr ⟨k - 200000, 0, sz, rfl, g1, g3, g4.noow⟩⟩
          · split at hk
            · rename_i hk2 hk3
              simp only [Option.bind_eq_some_iff] at hk
              obtain ⟨arg, harg, hk⟩ := hk
              have hil : k - 100000 < args.length := (List.getElem?_eq_some_iff.1 harg).1
              obtain ⟨y, l, ho, g1, g2, g3, g4⟩ := hget _ _ harg
              have e1 : parH (k - 100000) = k := by simp only [parH]; omega
              have hρ := hpar _ hil
              rw [e1, g2] at hρ
              refine ⟨l, hρ, ?_⟩
              cases arg with
              | v v => cases hk
              | b n e c =>
                cases hk
                obtain ⟨_, hrow, ad, cp, g5, g6, g7, g8, g9⟩ := g4
                rcases g9 with ⟨rfl, rfl⟩ | ⟨b, off, rfl, rfl, g10, g11⟩
                · obtain rfl : n = 0 := by omega
                  have hz := isRow_zero hrow
                  exact .inl ⟨rfl, hz, CRep.mono (ow := forthOw ow hos) (fun b hb => ⟨hb, rfl⟩) _ _ _ _ _ _ _ (noR_le _) (fun h => absurd rfl h) (fun j hj => by have hj : j < c.size := hj; omega) g8.noow⟩
                · refine .inr ⟨b, off, cp * e, rfl, g10, forthOw_none g11, by rw [isRow_size hrow]; exact Nat.mul_le_mul_right _ g6, ?_⟩
                  exact CRep.mono (ow := forthOw ow hos) (fun b hb => ⟨hb, rfl⟩) _ _ _ _ _ _ _ (noR_le _) (fun h => absurd rfl h) (fun j hj => rfl) g8.noow
              | o c vw =>
                cases hk
                obtain ⟨hd, kk, g5, g6, g7, g8, g9⟩ := g4
                obtain ⟨l', g10, g11⟩ := h.heap _ _ g5
                rw [g7] at g10
                cases g10
                rcases g9 with ⟨rfl, rfl, rfl⟩ | ⟨rfl, g12, g13, rfl⟩
                · rcases g11 with ⟨rfl, q1, q2⟩ | ⟨b, off, sz, cur, rfl, q1, q2, q3, q4⟩
                  · exact .inl ⟨rfl, q1, CRep.reown _ _ _ _ _ _ _ g6 (fun h => absurd rfl h) q2⟩
                  · have hb := forthOw_at hn q1 g3
                    rw [e1] at hb
                    refine .inr ⟨b, off, sz, cur, rfl, hb, q2, q3, CRep.reown _ _ _ _ _ _ _ g6 (fun _ => ⟨by simp, fun b' r _ hb' => ?_⟩) q4⟩
                    have := forthOw_at hn hb' g3
                    rw [e1] at this
                    exact this
                · have hnil : ∀ b, forthOw ow hos b = none := fun b => by
                    cases hb : forthOw ow hos b with
                    | none => rfl
                    | some q =>
                      obtain ⟨x, r, i, h1, h2, _⟩ := forthOw_some hb
                      have hil' : i < args.length := by rw [l3]; exact (List.getElem?_eq_some_iff.1 h2).1
                      obtain ⟨y', l', ho', p1, p2, p3, p4⟩ := hget i _ (List.getElem?_eq_getElem hil')
                      rw [h2] at p3
                      cases p3
                      generalize args[i] = arg at p4
                      cases arg with
                      | v v => cases p4.2
                      | b n e c => cases p4.1
                      | o c vw =>
                        obtain ⟨hd, kk, _, _, _, _, p5⟩ := p4
                        rcases p5 with ⟨p5, _⟩ | ⟨_, _, _, p5⟩
                        · cases p5
                        · cases p5
                  rcases g13 with rfl | rfl
                  · rcases g11 with ⟨rfl, q1, q2⟩ | ⟨b, off, sz, cur, rfl, q1, q2, q3, q4⟩
                    · exact .inl ⟨rfl, q1, CRep.reown _ _ _ _ _ _ _ g6 (fun h => absurd rfl h) q2⟩
                    · have hs := own_size q3 q4
                      refine .inr ⟨b, off, sz, rfl, q2.lt, hnil b, hs, ?_⟩
                      rw [← q2.cells]
                      exact CRep.reown _ _ _ _ _ _ _ g6 (fun h => absurd rfl h) (CRep.noq _ _ _ [] _ 0 _ g12 q4)
                  · rcases g11 with ⟨rfl, q1, q2⟩ | ⟨b, off, sz, rfl, q1, q2, q3, q4⟩
                    · exact .inl ⟨rfl, q1, CRep.reown _ _ _ _ _ _ _ g6 (fun h => absurd rfl h) q2⟩
                    · exact .inr ⟨b, off, sz, rfl, q1, hnil b, q3, CRep.reown _ _ _ _ _ _ _ g6 (fun h => absurd rfl h) q4⟩
            · cases hk }
  · obtain ⟨x, l, ho, g1, g2, g3, g4⟩ := hget i arg hi
    have hil : i < args.length := (List.getElem?_eq_some_iff.1 hi).1
    have hx : vals.toArray.getD i undef = x := by simp [Array.getD_eq_getD_getElem?, g1]
    have hρ := hpar i hil
    rw [g2] at hρ
    rw [hx]
    cases arg with
    | v v => exact g4.1.mono (fun b hb => ⟨hb, rfl⟩) (noR_le _)
    | b n e c =>
      obtain ⟨_, hrow, ad, cp, rfl, g6, g7, g8, g9⟩ := g4
      refine leaf_vr rfl rfl rfl ⟨ad, cp, l, rfl, hρ, g6, g7, trivial, ?_⟩
      rcases g9 with ⟨g9, _⟩ | ⟨b, off, rfl, rfl, _⟩
      · exact .inl g9
      · exact .inr ⟨b, off, cp * e, rfl, by simp [poff], by simp [poff]⟩
    | o c vw =>
      obtain ⟨hd, kk, g5, g6, g7, g8, g9⟩ := g4
      cases vw with
      | none =>
        obtain ⟨b, off, sz, g10, rfl⟩ := vr_ptr g8
        rw [g7] at g10
        cases g10
        exact ptr_vr hρ
      | some q =>
        obtain ⟨j, n, e, cap⟩ := q
        obtain ⟨ad, c', l', k1, k2, k3, k4, k5, k6⟩ := vr_sl g8
        rw [g7] at k2
        cases k2
        subst k1
        exact leaf_vr rfl rfl rfl ⟨ad, c', l, rfl, hρ, k3, k4, k5, k6⟩
end
end Go.Cx
/- CxCall3 -/
namespace Go.Cx
open Go
/-- what a contract promises of a function -/
def Sound (P : Program) (G : List (Nat × V)) (f : FuncId) (pure : Bool) (ctr : Ctr) : Prop :=
  (∀ xs w, (callFunc f xs).run P w = .ok (.enter f xs) w) ∧
  ∀ (args : List Arg) (out : Out) (vals : List Value) (w : World) (F I : Nat → Prop) (ρ : Rho) (ow : Own), (ctr args).to out → args.length = vals.length → args.length ≤ 100000 → (∀ (i n e : Nat) (c : V), args[i]? = some (.b n e c) → isRow e n c) → (∀ b, I b → ¬ F b) →
    Rep ⟨F, I, w, 0, ρ⟩ I ρ ow ⟨fun _ => .any, parHs G pure args⟩ #[] w → (∀ (i : Nat) (a : Arg), args[i]? = some a → VRep I w ρ (parV i a) (vals.toArray.getD i undef)) →
    Calls P f vals.toArray w fun en w' => ∃ x I' ρ' ow', en = .returned x ∧ VRep I' w' ρ' out.v x ∧ Rep ⟨F, I, w, 0, ρ⟩ I' ρ' ow' ⟨fun _ => .any, outHs args out⟩ #[] w'
def EnvSound (P : Program) (G : List (Nat × V)) (pure : Nat → Bool) (E : List (Nat × Ctr)) : Prop := ∀ f c, look E f = some c → Sound P G f (pure f) c
theorem putHs_append (h : Nat → Option Blk) : ∀ (l m : List (Nat × Blk)), putHs h (l ++ m) = putHs (putHs h l) m := by
  intro l
  induction l generalizing h with
  | nil => intro m; rfl
  | cons p l ih => intro m; exact ih _ m
theorem putHs_not {b : Nat} : ∀ {l : List (Nat × Blk)} {h : Nat → Option Blk}, b ∉ l.map (·.1) → putHs h l b = h b := by
  intro l
  induction l with
  | nil => intro h _; rfl
  | cons p l ih =>
    intro h hb
    simp only [List.map_cons, List.mem_cons, not_or] at hb
    show putHs (upd h p.1 (some p.2)) l b = h b
    rw [ih hb.2, upd_ne _ _ hb.1]
theorem objsL_keys : ∀ {hs : List Nat} {cs : List V} {b : Nat}, b ∈ (objsL hs cs).map (·.1) → b ∈ hs := by
  intro hs
  induction hs with
  | nil => intro cs b h; simp [objsL] at h
  | cons x hs ih =>
    intro cs b h
    cases cs with
    | nil => simp [objsL] at h
    | cons c cs =>
      simp only [objsL, List.map_cons, List.mem_cons] at h
      rcases h with h | h
      · simp [h]
      · exact List.mem_cons_of_mem _ (ih h)
theorem putHs_objs : ∀ {hs : List Nat} {cs : List V} {h : Nat → Option Blk} {m x : Nat} {c : V}, hs.Nodup → hs[m]? = some x → cs[m]? = some c → putHs h (objsL hs cs) x = some ⟨.own, c⟩ := by
  intro hs
  induction hs with
  | nil => intro cs h m x c _ hx; simp at hx
  | cons y hs ih =>
    intro cs h m x c hn hx hc
    cases cs with
    | nil => simp at hc
    | cons c0 cs =>
      simp only [List.nodup_cons] at hn
      cases m with
      | zero =>
        simp at hx hc
        subst hx hc
        show putHs (upd h y _) (objsL hs cs) y = _
        rw [putHs_not (fun hh => hn.1 (objsL_keys hh)), upd_same]
      | succ m => exact ih hn.2 (by simpa using hx) (by simpa using hc)
theorem newH_inj {d i j : Nat} (_hd : d < 10000) (h : newH d i = newH d j) : i = j := by
  simp only [newH] at h
  split at h <;> split at h <;> omega
theorem newsL_keys {d : Nat} : ∀ {news : List V} {j0 b : Nat}, b ∈ (newsL d j0 news).map (·.1) → ∃ j, j < news.length ∧ b = newH d (j0 + j) := by
  intro news
  induction news with
  | nil => intro j0 b h; simp [newsL] at h
  | cons c r ih =>
    intro j0 b h
    simp only [newsL, List.map_cons, List.mem_cons] at h
    rcases h with h | h
    · exact ⟨0, by simp, h⟩
    · obtain ⟨j, h1, h2⟩ := ih h
      exact ⟨j + 1, by simp; omega, by rw [h2]; congr 1; omega⟩
theorem putHs_news {d : Nat} (hd : d < 10000) : ∀ {news : List V} {j0 j : Nat} {h : Nat → Option Blk} {c : V}, news[j]? = some c → putHs h (newsL d j0 news) (newH d (j0 + j)) = some ⟨.own, c⟩ := by
  intro news
  induction news with
  | nil => intro j0 j h c hc; simp at hc
  | cons c0 r ih =>
    intro j0 j h c hc
    cases j with
    | zero =>
      simp at hc
      subst hc
      show putHs (upd h (newH d j0) _) (newsL d (j0 + 1) r) (newH d j0) = _
      rw [putHs_not (fun hh => ?_), upd_same]
      obtain ⟨j, _, e⟩ := newsL_keys hh
      have := newH_inj hd e
      omega
    | succ j =>
      have := ih (j0 := j0 + 1) (h := upd h (newH d j0) (some ⟨.own, c0⟩)) (j := j) (c := c) (by simpa using hc)
      rw [show j0 + 1 + j = j0 + (j + 1) by omega] at this
      exact this
theorem allFresh_spec {h : Nat → Option Blk} : ∀ {l : List (Nat × Blk)}, allFresh h l = true → ∀ p ∈ l, h p.1 = none ∧ p.1 < 100000 ∧ p.2.c.clo = true := by
  intro l
  induction l with
  | nil => intro _ p hp; simp at hp
  | cons x l ih =>
    intro hf p hp
    simp only [allFresh, Bool.and_eq_true, decide_eq_true_eq, Option.isNone_iff_eq_none] at hf
    rcases List.mem_cons.1 hp with rfl | hp
    · exact ⟨hf.1.1.1, hf.1.1.2, hf.1.2⟩
    · exact ih hf.2 p hp
theorem newsL_mem {d : Nat} : ∀ {news : List V} {j0 j : Nat} {c : V}, news[j]? = some c → (newH d (j0 + j), (⟨.own, c⟩ : Blk)) ∈ newsL d j0 news := by
  intro news
  induction news with
  | nil => intro j0 j c hc; simp at hc
  | cons c0 r ih =>
    intro j0 j c hc
    cases j with
    | zero => simp at hc; subst hc; simp [newsL]
    | succ j =>
      have := ih (j0 := j0 + 1) (j := j) (c := c) (by simpa using hc)
      rw [show j0 + 1 + j = j0 + (j + 1) by omega] at this
      exact List.mem_cons_of_mem _ this
theorem look_append {α : Type} {l m : List (Nat × α)} {b : Nat} : look (l ++ m) b = match look l b with | some x => some x | none => look m b := by
  induction l with
  | nil => rfl
  | cons p l ih =>
    obtain ⟨k, v⟩ := p
    simp only [List.cons_append, look]
    split
    · rfl
    · exact ih
theorem outO_keys {b : Nat} : ∀ {args : List Arg} {i : Nat} {cs : List V}, b < 100000 → look (outO i args cs) b = none := by
  intro args
  induction args with
  | nil => intro i cs _; cases cs <;> rfl
  | cons x args ih =>
    intro i cs hb
    cases x with
    | v v => exact ih hb
    | b n e c => exact ih hb
    | o c vw =>
      cases cs with
      | nil => rfl
      | cons c0 cs =>
        simp only [outO, look]
        rw [if_neg (by simp only [parH]; omega)]
        exact ih hb
theorem outN_look : ∀ {news : List V} {j0 j : Nat} {c : V}, news[j]? = some c → look (outN j0 news) (j0 + j) = some ⟨.own, c⟩ := by
  intro news
  induction news with
  | nil => intro j0 j c hc; simp at hc
  | cons c0 r ih =>
    intro j0 j c hc
    cases j with
    | zero => simp at hc; subst hc; simp [outN, look]
    | succ j =>
      have := ih (j0 := j0 + 1) (j := j) (c := c) (by simpa using hc)
      rw [show j0 + 1 + j = j0 + (j + 1) by omega] at this
      simp only [outN, look]
      rw [if_neg (by omega)]
      exact this
/-- arguments and objects handed over -/
def Al : List Arg → List (Option Nat) → Prop
  | .o _ _ :: as, some _ :: hs => Al as hs
  | .v _ :: as, none :: hs => Al as hs
  | .b _ _ _ :: as, none :: hs => Al as hs
  | [], [] => True
  | _, _ => False
theorem ArgsOk.al {I : Nat → Prop} {w : World} {ρ : Rho} {ow : Own} {s : St} {HS : List Nat} : ∀ {as : List Arg} {xs : List Value} {ls : List Lo} {hs : List (Option Nat)}, ArgsOk I w ρ ow s false HS as xs ls hs → Al as hs
  | [], [], [], [], _ => trivial
  | a :: as, x :: xs, l :: ls, h :: hs, ⟨h1, h2⟩ => by
    have := ArgsOk.al h2
    cases a with
    | v v => obtain ⟨_, rfl⟩ := h1; exact this
    | b n e c => obtain ⟨rfl, _⟩ := h1; exact this
    | o c vw =>
      obtain ⟨hd, kk, _, _, _, _, g⟩ := h1
      rcases g with ⟨_, _, rfl⟩ | ⟨g, _⟩
      · exact this
      · cases g
  | [], _ :: _, _, _, h => h.elim
  | [], [], _ :: _, _, h => h.elim
  | [], [], [], _ :: _, h => h.elim
  | _ :: _, [], _, _, h => h.elim
  | _ :: _, _ :: _, [], _, h => h.elim
  | _ :: _, _ :: _, _ :: _, [], h => h.elim
theorem Al.look : ∀ {args : List Arg} {hos : List (Option Nat)} {cs : List V} {i0 k x : Nat}, Al args hos → cs.length = (hos.filterMap id).length → hos[k]? = some (some x) →
    ∃ (m : Nat) (c : V), (hos.filterMap id)[m]? = some x ∧ cs[m]? = some c ∧ Cx.look (outO i0 args cs) (parH (i0 + k)) = some ⟨.own, c⟩ := by
  intro args
  induction args with
  | nil =>
    intro hos cs i0 k x hal _ hk
    cases hos with
    | nil => simp at hk
    | cons _ _ => exact hal.elim
  | cons a args ih =>
    intro hos cs i0 k x hal hlen hk
    cases hos with
    | nil => cases a <;> exact hal.elim
    | cons h hos =>
      have skip : h = none → Al args hos → outO i0 (a :: args) cs = outO (i0 + 1) args cs → ∃ (m : Nat) (c : V), ((h :: hos).filterMap id)[m]? = some x ∧ cs[m]? = some c ∧ Cx.look (outO i0 (a :: args) cs) (parH (i0 + k)) = some ⟨.own, c⟩ := fun e1 e2 e3 => by
        subst e1
        cases k with
        | zero => simp at hk
        | succ k =>
          obtain ⟨m, c, g1, g2, g3⟩ := ih (i0 := i0 + 1) (cs := cs) (k := k) (x := x) e2 (by simpa using hlen) (by simpa using hk)
          refine ⟨m, c, by simpa using g1, g2, ?_⟩
          rw [e3, show i0 + (k + 1) = i0 + 1 + k by omega]
          exact g3
      cases a with
      | v v => cases h with | none => exact skip rfl hal rfl | some _ => exact hal.elim
      | b n e c => cases h with | none => exact skip rfl hal rfl | some _ => exact hal.elim
      | o c0 vw =>
        cases h with
        | none => exact hal.elim
        | some y =>
          cases cs with
          | nil => simp at hlen
          | cons c1 cs =>
            cases k with
            | zero =>
              simp at hk
              subst hk
              exact ⟨0, c1, by simp, rfl, by simp [outO, Cx.look]⟩
            | succ k =>
              obtain ⟨m, c, g1, g2, g3⟩ := ih (i0 := i0 + 1) (cs := cs) (k := k) (x := x) hal (by simpa using hlen) (by simpa using hk)
              refine ⟨m + 1, c, by simpa using g1, by simpa using g2, ?_⟩
              simp only [outO, Cx.look]
              rw [if_neg (by simp only [parH]; omega), show i0 + (k + 1) = i0 + 1 + k by omega]
              exact g3
end Go.Cx
/- CxCall4 -/
namespace Go.Cx
open Go
section
variable {P : Program} {G : List (Nat × V)} {pure : Nat → Bool} {X : Fix} {I : Nat → Prop} {ρ : Rho} {ow : Own} {s : St} {a : Act} {w : World} {o : Oper}
theorem F2.length {α β : Type} {R : α → β → Prop} {l : List α} {m : List β} (h : F2 R l m) : l.length = m.length := by
  induction h with
  | nil => rfl
  | cons _ _ ih => simp [ih]
theorem args_eval (h : Rep X I ρ ow s a.tmps w) {args : List Operand} {l : List (IX × AK)} (hl : F2 (fun x y => opIX x = some y.1) args l) :
    F2 (fun (x : V × AK) v => VRep I w ρ x.1 v) (l.map fun x => (ev s.t x.1, x.2)) (args.map a.eval) := by
  induction hl with
  | nil => exact .nil
  | cons hxy _ ih => exact .cons (ev_rep h hxy) ih
theorem nodupN_to {l : List Nat} (h : nodupN l = true) : l.Nodup := nodupN_spec h
theorem step_call (h : Rep X I ρ ow s a.tmps w) (hd : dstOk X o) (hG : GOk G X) {E : List (Nat × Ctr)} (hE : EnvSound P G pure E) {f : FuncId} {args : Array Operand} {ts : Array TypeId} {l : List (IX × AK)}
    (ho : o.op = .call { callee := .value (.func f), args, argTypes := ts }) (hl : F2 (fun x y => opIX x = some y.1) args.toList l) (hlen : l.length ≤ 100000) {e : Eff}
    (he : (stepR apf E s.t s.h o.dst (.call f (pure f) l)).to e) : StepOk P X o a w s e := by
  simp only [stepR, callR] at he
  split at he
  · exact he.elim
  · rename_i c hlook
    obtain ⟨hsnd1, hsnd2⟩ := hE f c hlook
    obtain ⟨⟨as, hs⟩, hres, he⟩ := bind_to he
    obtain ⟨hnd, he⟩ := rif_to he
    obtain ⟨out, hout, he⟩ := bind_to he
    obtain ⟨hchk, he⟩ := rif_to he
    simp only [Bool.and_eq_true, beq_iff_eq, List.all_eq_true, Bool.not_eq_true', List.contains_eq_mem, decide_eq_false_iff_not] at hchk
    obtain ⟨⟨hlen1, hclo⟩, hlent⟩ := hchk
    have hnd := nodupN_to hnd
    have hvals := args_eval h hl
    obtain ⟨los, hos, hok, hhs⟩ := resolveL_ok (HS := hs) h hres hvals hlent
    simp only at hok hhs hnd hlen1
    subst hhs
    obtain ⟨k1, k2, k3, hget⟩ := hok.get
    have hal : as.length ≤ 100000 := by
      rw [k1, List.length_map]
      have := F2.length hl
      omega
    obtain ⟨hR, hV⟩ := h.forth hG hal hnd hok
    have hI : ∀ b, I b → ¬ overF ow (hos.filterMap id) b := fun b hb ⟨x, r, e1, _⟩ => by rw [h.iow b hb] at e1; cases e1
    have hrow : ∀ (i n e : Nat) (c : V), as[i]? = some (.b n e c) → isRow e n c := fun i n e c hi => by
      obtain ⟨x, l, ho, _, _, _, g⟩ := hget i _ hi
      exact g.2.1
    have hcalls := hsnd2 as out (args.toList.map a.eval) w _ I _ _ hout k1 hal hrow hI hR hV
    refine .inr (.inr ⟨f, (args.toList.map a.eval).toArray, w, ?_, Calls.mono hcalls ?_⟩)
    · have e1 : (args.toList.map a.eval).toArray = args.map a.eval := by
        apply Array.ext'; simp
      rw [e1]
      simp [execOp, ho, Go.resolve, invoke, Deferred.ofValue, Act.eval, hsnd1]
    · rintro en w' ⟨x, I', ρ', ow', rfl, hx, hR'⟩
      refine ⟨x, rfl, ?_⟩
      -- objects: where they stand
      have hobj : ∀ (k hd : Nat), hos[k]? = some (some hd) → pure f = false ∧ ∃ c, s.h hd = some ⟨.own, c⟩ ∧ ∃ lo, ρ hd = some lo ∧ ρ' (parH k) = some lo := by
        intro k hd' hk
        have hkl : k < as.length := by rw [k3]; exact (List.getElem?_eq_some_iff.1 hk).1
        obtain ⟨y, lo, ho', g1, g2, g3, g4⟩ := hget k _ (List.getElem?_eq_getElem hkl)
        rw [hk] at g3
        cases g3
        generalize as[k] = arg at g4
        cases arg with
        | v v => cases g4.2
        | b n e c => cases g4.1
        | o c vw =>
          obtain ⟨hd2, kk, g5, g6, g7, g8, g9⟩ := g4
          rcases g9 with ⟨g9, rfl, g10⟩ | ⟨_, _, _, g10⟩
          · cases g10
            refine ⟨g9, c, g5, lo, g7, hR'.rle _ _ ?_⟩
            show forthRho ρ los (parH k) = some lo
            rw [forthRho_par (by omega)]
            exact g2
          · cases g10
      have hal2 : ∀ (k hd : Nat), hos[k]? = some (some hd) → Al as hos := fun k hd' hk => by
        obtain ⟨e1, _⟩ := hobj k hd' hk
        rw [e1] at hok
        exact hok.al
      have hmem : ∀ {i x : Nat}, hos[i]? = some (some x) → x ∈ hos.filterMap id := fun {i x} hi => by
        simp only [List.mem_filterMap, id]
        exact ⟨some x, List.mem_of_getElem? hi, rfl⟩
      have hmem2 : ∀ {x : Nat}, x ∈ hos.filterMap id → ∃ i : Nat, hos[i]? = some (some x) := fun {x} hx => by
        simp only [List.mem_filterMap, id] at hx
        obtain ⟨y, hy, rfl⟩ := hx
        exact List.mem_iff_getElem?.1 hy
      -- what is left, under which name
      obtain ⟨newN, d0, hnew, hefs⟩ : ∃ (newN : List V) (d0 : Nat), (∀ (j : Nat) (c : V), newN[j]? = some c → out.news[j]? = some c ∧ s.h (newH d0 j) = none ∧ newH d0 j < 100000 ∧ c.clo = true) ∧ d0 < 10000 ∧
          e.hs = objsL (hos.filterMap id) out.objs ++ newsL d0 0 newN ∧ ((o.dst = none ∧ e.v = .any) ∨ (o.dst = some d0 ∧ newN = out.news ∧ e.v = renV (newH d0) out.v ∧ out.v.hOk out.news.length = true)) := by
        split at he
        · rename_i d hdst
          obtain ⟨hch, he⟩ := rif_to he
          cases he
          simp only [Bool.and_eq_true, decide_eq_true_eq] at hch
          refine ⟨out.news, d, fun j c hc => ?_, hch.2, rfl, .inr ⟨hdst, rfl, rfl, hch.1.2⟩⟩
          obtain ⟨g1, g2, g3⟩ := allFresh_spec hch.1.1 _ (newsL_mem (j0 := 0) hc)
          rw [Nat.zero_add] at g1 g2
          exact ⟨hc, g1, g2, g3⟩
        · rename_i hdst
          cases he
          exact ⟨[], 0, fun j c hc => by simp at hc, by omega, by simp [newsL], .inl ⟨hdst, rfl⟩⟩
      obtain ⟨hd0, hehs, hev⟩ := hefs
      let rn : Nat → Option Nat := fun b => if 100000 ≤ b then (hos[b - 100000]?).join else if b < newN.length then some (newH d0 b) else none
      have rn_obj : ∀ b y, 100000 ≤ b → (rn b = some y ↔ hos[b - 100000]? = some (some y)) := fun b y hb => by
        simp only [rn, if_pos hb, Option.join_eq_some_iff]
      have rn_new : ∀ b y, ¬ 100000 ≤ b → (rn b = some y ↔ b < newN.length ∧ y = newH d0 b) := fun b y hb => by
        simp only [rn, if_neg hb]
        split
        · rename_i hl
          simp only [Option.some.injEq, hl, true_and, eq_comm]
        · rename_i hl
          simp [hl]
      have hnewj : ∀ j, j < newN.length → ∃ c, newN[j]? = some c := fun j hj => ⟨_, List.getElem?_eq_getElem hj⟩
      have hparH : ∀ b, 100000 ≤ b → parH (b - 100000) = b := fun b hb => by simp only [parH]; omega
      obtain ⟨ρ2, ow2, b1, b2, b3⟩ := h.back (hs := hos.filterMap id) (rn := rn) (hh := putHs s.h e.hs) hR' (by
        intro b b' y hb hb'
        by_cases c1 : 100000 ≤ b <;> by_cases c2 : 100000 ≤ b'
        · have e1 := (rn_obj b y c1).1 hb
          have e2 := (rn_obj b' y c2).1 hb'
          have := fm_inj hnd e1 e2
          omega
        · have e1 := (rn_obj b y c1).1 hb
          obtain ⟨e2, e3⟩ := (rn_new b' y c2).1 hb'
          obtain ⟨_, c, e4, _⟩ := hobj _ _ e1
          obtain ⟨c', hc'⟩ := hnewj _ e2
          have := (hnew _ _ hc').2.1
          rw [← e3, e4] at this
          cases this
        · have e1 := (rn_obj b' y c2).1 hb'
          obtain ⟨e2, e3⟩ := (rn_new b y c1).1 hb
          obtain ⟨_, c, e4, _⟩ := hobj _ _ e1
          obtain ⟨c', hc'⟩ := hnewj _ e2
          have := (hnew _ _ hc').2.1
          rw [← e3, e4] at this
          cases this
        · obtain ⟨_, e3⟩ := (rn_new b y c1).1 hb
          obtain ⟨_, e4⟩ := (rn_new b' y c2).1 hb'
          exact newH_inj hd0 (e3.symm.trans e4)) (by
        intro b y hb
        by_cases c1 : 100000 ≤ b
        · have e1 := (rn_obj b y c1).1 hb
          obtain ⟨m, c, g1, g2, g3⟩ := (hal2 _ _ e1).look (i0 := 0) hlen1 e1
          rw [Nat.zero_add, hparH b c1] at g3
          obtain ⟨_, c', e4, lo, e5, e6⟩ := hobj _ _ e1
          rw [hparH b c1] at e6
          refine ⟨⟨c, ?_, hclo c (List.mem_of_getElem? g2), ?_⟩, .inl ⟨hmem e1, by rw [e5, e6]⟩⟩
          · show look (outO 0 as out.objs ++ outN 0 out.news) b = _
            rw [look_append, g3]
          · rw [hehs, putHs_append, putHs_not (fun hh => ?_)]
            · exact putHs_objs hnd g1 g2
            · obtain ⟨j, hj, e7⟩ := newsL_keys hh
              rw [Nat.zero_add] at e7
              obtain ⟨c2, hc2⟩ := hnewj _ hj
              have := (hnew _ _ hc2).2.1
              rw [← e7, e4] at this
              cases this
        · obtain ⟨e2, e3⟩ := (rn_new b y c1).1 hb
          obtain ⟨c, hc⟩ := hnewj _ e2
          obtain ⟨g1, g2, g3, g4⟩ := hnew _ _ hc
          refine ⟨⟨c, ?_, g4, ?_⟩, .inr ⟨by rw [e3]; exact g3, by rw [e3]; exact g2⟩⟩
          · show look (outO 0 as out.objs ++ outN 0 out.news) b = _
            rw [look_append, outO_keys (by omega)]
            have := outN_look (j0 := 0) g1
            rw [Nat.zero_add] at this
            exact this
          · rw [hehs, putHs_append, e3]
            have := putHs_news hd0 (j0 := 0) (h := putHs s.h (objsL (hos.filterMap id) out.objs)) hc
            rw [Nat.zero_add] at this
            exact this) (by
        intro b hb
        have n1 : b ∉ hos.filterMap id := fun hh => by
          obtain ⟨i, hi⟩ := hmem2 hh
          refine hb (parH i) ((rn_obj _ _ (by simp only [parH]; omega)).2 ?_)
          rw [show parH i - 100000 = i by simp only [parH]; omega]
          exact hi
        refine ⟨n1, ?_⟩
        rw [hehs, putHs_append, putHs_not (fun hh => ?_), putHs_not (fun hh => n1 (objsL_keys hh))]
        obtain ⟨j, hj, e7⟩ := newsL_keys hh
        rw [Nat.zero_add] at e7
        obtain ⟨c2, hc2⟩ := hnewj _ hj
        have hlt := (hnew _ _ hc2).2.2.1
        have hj2 : j < 100000 := by
          simp only [newH] at hlt
          split at hlt <;> omega
        exact hb j ((rn_new _ _ (by omega)).2 ⟨hj, e7⟩))
      refine ⟨I', ρ2, ow2, ?_⟩
      rcases hev with ⟨e1, e2⟩ | ⟨e1, e2, e3, e4⟩
      · have := b3.putD (o := o) (a := a) hd (v := e.v) (x := x) (by rw [e2]; exact VRep.any _ _ _ _)
        exact this
      · subst e2
        refine b3.putD (o := o) (a := a) hd (v := e.v) (x := x) ?_
        rw [e3]
        refine hx.rename e4 (fun j lo hj hlo => ?_)
        have hlt := (hnew j _ (List.getElem?_eq_getElem hj)).2.2.1
        have hj2 : j < 100000 := by
          simp only [newH] at hlt
          split at hlt <;> omega
        rw [b2 j _ ((rn_new _ _ (by omega)).2 ⟨hj, rfl⟩)]
        exact hlo
end
end Go.Cx
/- CxStep -/
namespace Go.Cx
open Go
section
variable {P : Program} {G : List (Nat × V)} {pure : Nat → Bool} {X : Fix} {I : Nat → Prop} {ρ : Rho} {ow : Own} {s : St} {a : Act} {w : World} {o : Oper}
def storeOk (o : Oper) : Bool := match o.op, o.dst with
  | .store .., some _ => false
  | _, _ => true
theorem isU8_eq {d : Option TypeDesc} (h : isU8 d = true) : d = some (.int .u8) := by
  unfold isU8 at h
  split at h
  · rfl
  · cases h
theorem isEkU8_eq {d : Option EK} (h : isEkU8 d = true) : d = some (.i .u8) := by
  unfold isEkU8 at h
  split at h
  · rfl
  · cases h
theorem arr_one {α : Type} {as : Array α} {x : α} (h : as.toList = [x]) : as = #[x] := by apply Array.ext'; simpa using h
theorem arr_two {α : Type} {as : Array α} {x y : α} (h : as.toList = [x, y]) : as = #[x, y] := by apply Array.ext'; simpa using h
theorem sameOp_eval {x y : Operand} (h : sameOp x y = true) : a.eval y = a.eval x := by
  cases x <;> cases y <;> simp [sameOp] at h
  · subst h; rfl
  · rename_i v v'
    cases v <;> cases v' <;> simp at h
    obtain ⟨rfl, rfl⟩ := h
    rfl
theorem F2.mapR {α β γ : Type} {R : α → γ → Prop} {S : α → β → Prop} {T : β → γ → Prop} (hf : ∀ x y z, S x y → T y z → R x z) : ∀ {l : List α} {m : List β} {n : List γ}, F2 S l m → F2 T m n → F2 R l n := by
  intro l
  induction l with
  | nil => intro m n h1 h2; cases h1; cases h2; exact .nil
  | cons x l ih =>
    intro m n h1 h2
    cases h1 with
    | cons a1 a2 => cases h2 with | cons b1 b2 => exact .cons (hf _ _ _ a1 b1) (ih a2 b2)
theorem F2.zipL {α β : Type} {R : α → β → Prop} : ∀ {as : List α} {ts : List TypeId} {l : List β}, as.length = ts.length → F2 (fun p y => R p.1 y) (as.zip ts) l → F2 R as l := by
  intro as
  induction as with
  | nil => intro ts l _ h; simp at h; cases h; exact .nil
  | cons x as ih =>
    intro ts l hl h
    cases ts with
    | nil => simp at hl
    | cons t ts =>
      simp only [List.zip_cons_cons] at h
      cases h with
      | cons h1 h2 => exact .cons h1 (ih (by simpa using hl) h2)
theorem akL_fst : ∀ {l : List (IX × TypeId)} {m : List (IX × AK)} {j : Nat}, akL P pure j l = some m → F2 (fun (x : IX × TypeId) (y : IX × AK) => x.1 = y.1) l m := by
  intro l
  induction l with
  | nil => intro m j h; simp only [akL, Option.some.injEq] at h; subst h; exact .nil
  | cons p l ih =>
    obtain ⟨x, t⟩ := p
    intro m j h
    simp only [akL, Option.bind_eq_some_iff, Option.some.injEq] at h
    obtain ⟨k, _, r, hr, rfl⟩ := h
    exact .cons rfl (ih hr)
theorem step_sound (h : Rep X I ρ ow s a.tmps w) (hd : dstOk X o) (hG : GOk G X) {E : List (Nat × Ctr)} (hE : EnvSound P G pure E) (hst : storeOk o = true) {i i' : IOp} (hc : compOp P pure o.op = some i)
    (hi : i' = i ∨ (∃ k b x y, i = .app k b x y ∧ i' = .app0 k b x y) ∨ ∃ k b x, i = .mks k b x ∧ i' = .mksF k b x) {e : Eff} (he : (stepR apf E s.t s.h o.dst i').to e) : StepOk P X o a w s e := by
  have same : ((∀ k b x y, i ≠ .app k b x y) ∧ ∀ k b x, i ≠ .mks k b x) → i' = i := fun hn => hi.resolve_right (fun hh => hh.elim (fun ⟨k, b, x, y, e1, _⟩ => hn.1 k b x y e1) (fun ⟨k, b, x, e1, _⟩ => hn.2 k b x e1))
  cases hop : o.op
  case move x =>
    rw [hop] at hc
    simp only [compOp, Option.map_eq_some_iff] at hc
    obtain ⟨ix, hx, rfl⟩ := hc
    cases same (by simp)
    exact step_mv h hd (.inl hop) hx he
  case assign x =>
    rw [hop] at hc
    simp only [compOp, Option.map_eq_some_iff] at hc
    obtain ⟨ix, hx, rfl⟩ := hc
    cases same (by simp)
    exact step_mv h hd (.inr hop) hx he
  case pick c x y =>
    rw [hop] at hc
    simp only [compOp, bind, Option.bind_eq_some_iff, Option.some.injEq] at hc
    obtain ⟨ic, h1, ix, h2, iy, h3, rfl⟩ := hc
    cases same (by simp)
    exact step_pick h hd hop h1 h2 h3 he
  case alloc t =>
    rw [hop] at hc
    simp only [compOp, Option.map_eq_some_iff] at hc
    obtain ⟨z, hz, rfl⟩ := hc
    cases same (by simp)
    exact step_alloc h hd hop (zeroK_ok hz) he
  case box t x =>
    rw [hop] at hc
    simp only [compOp, Option.map_eq_some_iff] at hc
    obtain ⟨ix, hx, rfl⟩ := hc
    cases same (by simp)
    exact step_box h hd hop hx he
  case build t ps =>
    rw [hop] at hc
    simp only [compOp] at hc
    split at hc
    · rename_i fs ht
      simp only [bind, Option.bind_eq_some_iff] at hc
      obtain ⟨z, hz, hc⟩ := hc
      split at hc
      · cases hc
      · rename_i hfs
        simp only [Option.bind_eq_some_iff, Option.some.injEq] at hc
        obtain ⟨l, hl, rfl⟩ := hc
        cases same (by simp)
        exact step_bldS h hd hop ht (zeroK_ok hz) (by simpa [← Option.isSome_iff_ne_none] using hfs) hl he
    · rename_i n el ht
      simp only [bind, Option.bind_eq_some_iff] at hc
      obtain ⟨k, hk, l, hl, hc⟩ := hc
      split at hc
      · rename_i hck
        cases hc
        simp only [Bool.and_eq_true] at hck
        cases same (by simp)
        exact step_bldA h hd hop ht hck.1 hck.2 hl he
      · cases hc
    · cases hc
  case buildSlice t n ps =>
    rw [hop] at hc
    simp only [compOp, bind, Option.bind_eq_some_iff] at hc
    obtain ⟨k, hk, l, hl, hc⟩ := hc
    simp only [ekSlice] at hk
    split at hk
    · rename_i el ht
      split at hc
      · rename_i hck
        cases hc
        simp only [Bool.and_eq_true, decide_eq_true_eq, Bool.or_eq_true, bne_iff_ne, ne_eq] at hck
        cases same (by simp)
        exact step_bsl h hd hop ht (ekOf_ok hk) hck.1 hl (fun hn => by
          rcases hck.2 with h1 | h1
          · exact absurd hn h1
          · simpa using h1) he
      · cases hc
    · cases hk
  case load t x =>
    rw [hop] at hc
    simp only [compOp] at hc
    split at hc
    · rename_i hck
      simp only [Bool.and_eq_true, bne_iff_ne, ne_eq] at hck
      obtain ⟨d, hu⟩ := Option.isSome_iff_exists.1 hck.2
      simp only [Option.map_eq_some_iff] at hc
      obtain ⟨ix, hx, rfl⟩ := hc
      cases same (by simp)
      exact step_ld h hd hop hu hck.1 hx he
    · cases hc
  case store t x y =>
    rw [hop] at hc
    simp only [compOp] at hc
    split at hc
    · rename_i hck
      simp only [bne_iff_ne, ne_eq] at hck
      simp only [bind, Option.bind_eq_some_iff, Option.some.injEq] at hc
      obtain ⟨ix, hx, iy, hy, rfl⟩ := hc
      cases same (by simp)
      have hdst : o.dst = none := by
        simp only [storeOk, hop] at hst
        cases hq : o.dst with
        | none => rfl
        | some d => rw [hq] at hst; cases hst
      exact step_st h hop hdst hck hx hy he
    · cases hc
  case nilCheck x =>
    rw [hop] at hc
    simp only [compOp, Option.map_eq_some_iff] at hc
    obtain ⟨ix, hx, rfl⟩ := hc
    cases same (by simp)
    exact step_nck h hd hop hx he
  case binOp op t x y yt =>
    rw [hop] at hc
    simp only [compOp] at hc
    split at hc
    · rename_i k ht
      split at hc
      · rename_i hcm
        simp only [bind, Option.bind_eq_some_iff, Option.some.injEq] at hc
        obtain ⟨ix, hx, iy, hy, rfl⟩ := hc
        cases same (by simp)
        exact step_cmp h hd hop hcm hx hy he
      · split at hc
        · rename_i har
          simp only [bind, Option.bind_eq_some_iff, Option.some.injEq] at hc
          obtain ⟨ix, hx, iy, hy, rfl⟩ := hc
          cases same (by simp)
          exact step_ar (k := k) h hd hop har hx hy he rfl
        · split at hc
          · rename_i hsh
            simp only [bind, Option.bind_eq_some_iff, Option.some.injEq] at hc
            obtain ⟨ix, hx, iy, hy, rfl⟩ := hc
            cases same (by simp)
            refine step_shf h hd hop ?_ hx hy he
            cases op <;> simp [isSh] at hsh <;> simp
          · cases hc
    · split at hc
      · rename_i k hk
        simp only [bind, Option.bind_eq_some_iff, Option.some.injEq] at hc
        obtain ⟨ix, hx, iy, hy, rfl⟩ := hc
        cases same (by simp)
        exact step_eq (ne := false) h hd hop hk hx hy he
      · rename_i k hk
        simp only [bind, Option.bind_eq_some_iff, Option.some.injEq] at hc
        obtain ⟨ix, hx, iy, hy, rfl⟩ := hc
        cases same (by simp)
        exact step_eq (ne := true) h hd hop hk hx hy he
      · simp only [bind, Option.bind_eq_some_iff, Option.some.injEq] at hc
        obtain ⟨ty, hty, ix, hx, iy, hy, rfl⟩ := hc
        cases same (by simp)
        exact step_eqZ (ne := false) h hd hop hty hx hy he
      · simp only [bind, Option.bind_eq_some_iff, Option.some.injEq] at hc
        obtain ⟨ty, hty, ix, hx, iy, hy, rfl⟩ := hc
        cases same (by simp)
        exact step_eqZ (ne := true) h hd hop hty hx hy he
      · cases hc
  case unOp op t x =>
    rw [hop] at hc
    simp only [compOp] at hc
    split at hc
    · rename_i k ht
      simp only [Option.map_eq_some_iff] at hc
      obtain ⟨ix, hx, rfl⟩ := hc
      cases same (by simp)
      exact step_neg h hd hop hx he
    · rename_i k ht
      simp only [Option.map_eq_some_iff] at hc
      obtain ⟨ix, hx, rfl⟩ := hc
      cases same (by simp)
      exact step_cpl h hd hop hx he
    · simp only [Option.map_eq_some_iff] at hc
      obtain ⟨ix, hx, rfl⟩ := hc
      cases same (by simp)
      exact step_not h hd hop hx he
    · cases hc
  case convert t u x =>
    rw [hop] at hc
    simp only [compOp] at hc
    split at hc
    · rename_i j k ht hu
      simp only [Option.map_eq_some_iff] at hc
      obtain ⟨ix, hx, rfl⟩ := hc
      cases same (by simp)
      exact step_cv h hd hop hu ht hx he
    · rename_i el ht hu
      split at hc
      · rename_i hel
        simp only [Option.map_eq_some_iff] at hc
        obtain ⟨ix, hx, rfl⟩ := hc
        cases same (by simp)
        exact step_b2s h hd hop ht hu (isU8_eq hel) hx he
      · cases hc
    · rename_i el ht hu
      split at hc
      · rename_i hel
        simp only [Option.map_eq_some_iff] at hc
        obtain ⟨ix, hx, rfl⟩ := hc
        cases same (by simp)
        exact step_s2b h hd hop ht hu (isU8_eq hel) hx he
      · cases hc
    · rename_i el0 el ht hu
      split at hc
      · rename_i hck
        simp only [Bool.and_eq_true, beq_iff_eq] at hck
        simp only [Option.map_eq_some_iff] at hc
        obtain ⟨ix, hx, rfl⟩ := hc
        cases same (by simp)
        obtain ⟨rfl, hel⟩ := hck
        exact step_mst h hd hop hu (isU8_eq hel) hx he
      · cases hc
    · cases hc
  case makeSlice t x y =>
    rw [hop] at hc
    simp only [compOp] at hc
    split at hc
    · rename_i el ht
      split at hc
      · rename_i hck
        simp only [Bool.and_eq_true, decide_eq_true_eq] at hck
        simp only [bind, Option.bind_eq_some_iff, Option.some.injEq] at hc
        obtain ⟨k, hk, ix, hx, rfl⟩ := hc
        rcases hi with rfl | ⟨k', b', x', y', e1, rfl⟩ | ⟨k', b', x', e1, rfl⟩
        · exact step_mks h hd hop (sameOp_eval hck.1) ht (ekOf_ok hk) hck.2 hx he
        · cases e1
        · cases e1
          exact step_mksF h hd hop (sameOp_eval hck.1) ht (ekOf_ok hk) hck.2 hx he
      · cases hc
    · cases hc
  case slice t x lo hi' mx =>
    rw [hop] at hc
    simp only [compOp] at hc
    split at hc
    · rename_i n el ht
      split at hc
      · rename_i hck
        simp only [Bool.and_eq_true, bne_iff_ne, ne_eq, decide_eq_true_eq, Option.isNone_iff_eq_none] at hck
        obtain ⟨⟨rfl, hz⟩, hn⟩ := hck
        simp only [bind, Option.bind_eq_some_iff, Option.some.injEq] at hc
        obtain ⟨ix, hx, il, hl, ih, hh, rfl⟩ := hc
        cases same (by simp)
        exact step_slA h hd hop ht hz (by simp only [maxLen]; omega) hx hl hh he
      · cases hc
    · rename_i el ht
      split at hc
      · rename_i hz
        simp only [bne_iff_ne, ne_eq] at hz
        split at hc
        · simp only [bind, Option.bind_eq_some_iff, Option.some.injEq] at hc
          obtain ⟨ix, hx, ih, hh, rfl⟩ := hc
          cases same (by simp)
          exact step_slX h hd hop ht hz hx hh rfl he
        · simp only [bind, Option.bind_eq_some_iff, Option.some.injEq] at hc
          obtain ⟨ix, hx, il, hl, ih, hh, im, hm, rfl⟩ := hc
          cases same (by simp)
          exact step_slS h hd hop ht hz hx hl hh hm he
      · cases hc
    · rename_i ht
      split at hc
      · rename_i hmx
        simp only [Option.isNone_iff_eq_none] at hmx
        subst hmx
        simp only [bind, Option.bind_eq_some_iff, Option.some.injEq] at hc
        obtain ⟨ix, hx, il, hl, ih, hh, rfl⟩ := hc
        cases same (by simp)
        exact step_slT h hd hop ht hx hl hh he
      · cases hc
    · cases hc
  case sliceToArrayPointer t x =>
    rw [hop] at hc
    simp only [compOp] at hc
    split at hc
    · rename_i n el ht
      split at hc
      · simp only [Option.map_eq_some_iff] at hc
        obtain ⟨ix, hx, rfl⟩ := hc
        cases same (by simp)
        exact step_s2a h hd hop ht hx he
      · cases hc
    · cases hc
  case fieldAddr t x f =>
    rw [hop] at hc
    simp only [compOp] at hc
    split at hc
    · rename_i fs ht
      split at hc
      · rename_i fd hf
        split at hc
        · cases hc
        · rename_i hz
          simp only [Option.map_eq_some_iff] at hc
          obtain ⟨ix, hx, rfl⟩ := hc
          cases same (by simp)
          exact step_fa h hd hop ht hf hz hx he
      · cases hc
    · cases hc
  case field t x f =>
    rw [hop] at hc
    simp only [compOp] at hc
    split at hc
    · rename_i fs ht
      split at hc
      · rename_i fd hf
        split at hc
        · rename_i hck
          simp only [Bool.and_eq_true, bne_iff_ne, ne_eq] at hck
          obtain ⟨d, hu⟩ := Option.isSome_iff_exists.1 hck.2
          simp only [Option.map_eq_some_iff] at hc
          obtain ⟨ix, hx, rfl⟩ := hc
          cases same (by simp)
          exact step_fl h hd hop ht hf hck.1 hu hx he
        · cases hc
      · cases hc
    · cases hc
  case indexAddr t x j =>
    rw [hop] at hc
    simp only [compOp] at hc
    split at hc
    · rename_i n el ht
      split at hc
      · rename_i hz
        simp only [bne_iff_ne, ne_eq] at hz
        simp only [bind, Option.bind_eq_some_iff, Option.some.injEq] at hc
        obtain ⟨ix, hx, ii, hi2, rfl⟩ := hc
        cases same (by simp)
        exact step_iaA h hd hop ht hz hx hi2 he
      · cases hc
    · rename_i el ht
      split at hc
      · rename_i hz
        simp only [bne_iff_ne, ne_eq] at hz
        simp only [bind, Option.bind_eq_some_iff, Option.some.injEq] at hc
        obtain ⟨ix, hx, ii, hi2, rfl⟩ := hc
        cases same (by simp)
        exact step_iaS h hd hop ht hz hx hi2 he
      · cases hc
    · cases hc
  case index t x j =>
    rw [hop] at hc
    simp only [compOp] at hc
    split at hc
    · rename_i n el ht
      split at hc
      · rename_i hck
        simp only [Bool.and_eq_true, bne_iff_ne, ne_eq] at hck
        obtain ⟨d, hu⟩ := Option.isSome_iff_exists.1 hck.2
        simp only [bind, Option.bind_eq_some_iff, Option.some.injEq] at hc
        obtain ⟨ix, hx, ii, hi2, rfl⟩ := hc
        cases same (by simp)
        exact step_ixA h hd hop ht hck.1 hu hx hi2 he
      · cases hc
    · rename_i ht
      simp only [bind, Option.bind_eq_some_iff, Option.some.injEq] at hc
      obtain ⟨ix, hx, ii, hi2, rfl⟩ := hc
      cases same (by simp)
      exact step_ixT h hd hop ht hx hi2 he
    · cases hc
  case extract x j =>
    rw [hop] at hc
    simp only [compOp, Option.map_eq_some_iff] at hc
    obtain ⟨ix, hx, rfl⟩ := hc
    cases same (by simp)
    exact step_ext h hd hop hx he
  case call c =>
    obtain ⟨callee, args, ts⟩ := c
    rw [hop] at hc
    cases callee with
    | builtin b =>
      simp only [compOp, compCall] at hc
      split at hc
      · rename_i x t hxs hts
        cases arr_one hxs
        cases arr_one hts
        split at hc
        · rename_i hu
          simp only [Option.map_eq_some_iff] at hc
          obtain ⟨ix, hx, rfl⟩ := hc
          cases same (by simp)
          exact step_lenT h hd hop hu hx he
        · rename_i el hu
          simp only [Option.map_eq_some_iff] at hc
          obtain ⟨ix, hx, rfl⟩ := hc
          cases same (by simp)
          exact step_lenS h hd hop hu hx he
        · rename_i n el hu
          split at hc
          · rename_i hn
            cases hc
            cases same (by simp)
            exact step_lenA h hd hop hu (by simp only [maxLen]; omega) he
          · cases hc
        · cases hc
      · rename_i x y t u hxs hts
        cases arr_two hxs
        cases arr_two hts
        split at hc
        · rename_i el el' ht hu
          split at hc
          · rename_i hck
            simp only [Bool.and_eq_true, beq_iff_eq, decide_eq_true_eq] at hck
            obtain ⟨rfl, hb⟩ := hck
            simp only [bind, Option.bind_eq_some_iff, Option.some.injEq] at hc
            obtain ⟨k, hk, ix, hx, iy, hy, rfl⟩ := hc
            rcases hi with rfl | ⟨k', b', x', y', e1, rfl⟩ | ⟨k', b', x', e1, rfl⟩
            · exact step_app h hd hop ht hu (ekOf_ok hk) hb hx hy he
            · cases e1
              exact step_app0 h hd hop ht hu (ekOf_ok hk) hb hx hy he
            · cases e1
          · cases hc
        · rename_i el ht hu
          split at hc
          · rename_i hck
            simp only [Bool.and_eq_true, beq_iff_eq] at hck
            simp only [bind, Option.bind_eq_some_iff, Option.some.injEq] at hc
            obtain ⟨ix, hx, iy, hy, rfl⟩ := hc
            cases same (by simp)
            exact step_appT h hd hop ht hu (ekOf_ok (isEkU8_eq hck.1)) hck.2 hx hy he
          · cases hc
        · rename_i el ik ht hu
          split at hc
          · rename_i hb
            simp only [bind, Option.bind_eq_some_iff, Option.some.injEq] at hc
            obtain ⟨k, hk, ix, hx, iy, hy, rfl⟩ := hc
            cases same (by simp)
            exact step_appz h hd hop ht hu (ekOf_ok hk) hb hx hy he
          · cases hc
        · cases hc
      · rename_i x y t u hxs hts
        cases arr_two hxs
        cases arr_two hts
        split at hc
        · rename_i el el' ht hu
          split at hc
          · simp only [bind, Option.bind_eq_some_iff, Option.some.injEq] at hc
            obtain ⟨k, hk, ix, hx, iy, hy, rfl⟩ := hc
            cases same (by simp)
            exact step_cpy h hd hop ht (ekOf_ok hk) hx hy he
          · cases hc
        · cases hc
      · rename_i x y t u hxs hts
        cases arr_two hxs
        split at hc
        · simp only [bind, Option.bind_eq_some_iff, Option.some.injEq] at hc
          obtain ⟨ix, hx, iy, hy, rfl⟩ := hc
          cases same (by simp)
          exact step_min h hd hop hx hy he
        · cases hc
      · rename_i x y t u hxs hts
        cases arr_two hxs
        split at hc
        · simp only [bind, Option.bind_eq_some_iff, Option.some.injEq] at hc
          obtain ⟨ix, hx, iy, hy, rfl⟩ := hc
          cases same (by simp)
          exact step_max h hd hop hx hy he
        · cases hc
      · cases hc
    | invoke x nm => simp [compOp] at hc
    | value v =>
      cases v with
      | func f =>
        simp only [compOp, bind, Option.bind_eq_some_iff] at hc
        obtain ⟨l1, hl1, l2, hl2, hc⟩ := hc
        split at hc
        · rename_i hck
          simp only [Bool.and_eq_true, beq_iff_eq, decide_eq_true_eq] at hck
          cases hc
          cases same (by simp)
          have g1 := optL_map hl1
          have g3 : F2 (fun (p : Operand × TypeId) (y : IX × AK) => opIX p.1 = some y.1) (args.toList.zip ts.toList) l2 := F2.mapR (fun p y z h1 h2 => by
            simp only [Option.map_eq_some_iff] at h1
            obtain ⟨ix, h3, rfl⟩ := h1
            rw [h3]; exact congrArg some h2) g1 (akL_fst hl2)
          have g4 := F2.zipL (R := fun (x : Operand) (y : IX × AK) => opIX x = some y.1) (by simpa using hck.1) g3
          exact step_call h hd hG hE hop g4 (by omega) he
        · cases hc
      | _ => simp [compOp] at hc
  all_goals (rw [hop] at hc; simp [compOp] at hc)
end
end Go.Cx
/- CxGh -/
namespace Go.Cx
open Go
section
variable {X : Fix} {I : Nat → Prop} {ρ : Rho} {ow : Own} {s : St} {tm : Array Value} {w : World}
/-- what stands at the leaf's place -/
def AtLeaf (I : Nat → Prop) (w : World) (ow' : Own) (q : List Nat) (c2 : V) (a : Option Addr) (cp e : Nat) : Prop :=
  (cp = 0 ∧ CRep I w ow' c2 noR [] 0 (fun _ => none)) ∨ ∃ b off cur, a = some ⟨b, off, none⟩ ∧ ow' b = some q ∧ OwnBlk w b cur ∧ off + cp * e ≤ cur.size ∧ CRep I w ow' c2 noR q 0 (fun j => cur[off + j]?)
/-- content with its first leaf owned -/
theorem shut1_spec {c2 : V} : ∀ (c : V) {k n e p : Nat} {q : List Nat} {pos : Nat} {g : Nat → Option Value}, leaf1 c = some (k, n, e, p) → CRep I w ow c ρ q pos g →
    (shut1 c2 c).size = c.size ∧ p < c.size ∧ ∃ a cp l, ρ k = some l ∧ n ≤ cp ∧ cp ≤ maxLen ∧ (cp = 0 ∨ ∃ b off sz, l = .at b off sz ∧ a = some ⟨b, off, none⟩ ∧ cp * e ≤ sz) ∧
      ∀ (ow' : Own), q ≠ [] → (∀ b p' r, p' ≠ pos + p → ow b = some (q ++ p' :: r) → ow' b = some (q ++ p' :: r)) →
        isRow e n c2 → AtLeaf I w ow' (q ++ [pos + p]) c2 a cp e → CRep I w ow' (shut1 c2 c) ρ q pos g := by
  intro c
  induction c with
  | sl h pt i m e' cap =>
    intro k n e p q pos g hl hc
    unfold leaf1 at hl
    split at hl
    · cases hl
      rename_i heq
      cases heq
      obtain ⟨a, cp, l, h1, h2, h3, h4, _, h5⟩ := hc
      refine ⟨rfl, by simp [V.size], a, cp, l, h2, h3, h4, ?_, fun ow' hq _ hrow hat => ?_⟩
      · rcases h5 with h5 | ⟨b, off, sz, e1, e2, e3⟩
        · exact .inl h5
        · refine .inr ⟨b, off, sz, e1, ?_, ?_⟩
          · simpa [poff] using e2
          · simpa [poff] using e3
      · exact ⟨hq, a, cp, h1, h3, h4, hrow, hat⟩
    · rename_i heq
      cases heq
    · cases hl
  | cat n' m' a b iha ihb =>
    intro k n e p q pos g hl hc
    obtain ⟨h1, h2, h3, h4⟩ := hc
    simp only [leaf1] at hl
    split at hl
    · rename_i r hr
      cases hl
      obtain ⟨g1, g2, x, cp, l, g3, g4, g5, g6, g7⟩ := iha hr h3
      rw [show shut1 c2 (.cat n' m' a b) = .cat n' m' (shut1 c2 a) b by simp only [shut1, hr]]
      refine ⟨rfl, by simp only [V.size]; omega, x, cp, l, g3, g4, g5, g6, fun ow' hq ho hrow hat => ⟨g1.trans h1, h2, g7 ow' hq ho hrow hat, ?_⟩⟩
      exact CRep.sub _ _ _ _ _ _ _ _ (Rho.le_refl _) (fun _ => ⟨hq, fun b' p' r _ hb' => ho b' _ r (by omega) hb'⟩) h4
    · rename_i hn
      split at hl
      · rename_i k' m p' hr
        cases hl
        obtain ⟨g1, g2, x, cp, l, g3, g4, g5, g6, g7⟩ := ihb hr h4
        rw [show shut1 c2 (.cat n' m' a b) = .cat n' m' a (shut1 c2 b) by simp only [shut1, hn]]
        refine ⟨rfl, by simp only [V.size]; omega, x, cp, l, g3, g4, g5, g6, fun ow' hq ho hrow hat => ⟨h1, g1.trans h2, ?_, ?_⟩⟩
        · exact CRep.sub _ _ _ _ _ _ _ _ (Rho.le_refl _) (fun _ => ⟨hq, fun b' p2 r hp2 hb' => ho b' _ r (by omega) hb'⟩) h3
        · exact g7 ow' hq (fun b' p2 r hne hb' => ho b' p2 r (by omega) hb') hrow (by rwa [Nat.add_assoc])
      · cases hl
  | _ => intro k n e p q pos g h; cases h
theorem isRow_nil {e : Nat} {c2 : V} (h : isRow e 0 c2) {ow' : Own} {q : List Nat} {pos : Nat} {g : Nat → Option Value} (hc : CRep I w ow c2 ρ q pos g) : CRep I w ow' c2 noR [] 0 (fun _ => none) := by
  cases c2 <;> simp only [isRow] at h
  · obtain ⟨rfl, _⟩ := h
    exact ⟨hc.1, hc.2.1, fun j hj => by omega⟩
  · obtain ⟨rfl, _⟩ := h
    exact fun j hj => by omega
theorem Rep.shutOne (h : Rep X I ρ ow s tm w) {hd hk n e p : Nat} {c c2 : V} (hh : s.h hd = some ⟨.own, c⟩) (hkk : s.h hk = some ⟨.own, c2⟩) (hne : hk ≠ hd) (hlf : leaf1 c = some (hk, n, e, p))
    (hclo : c2.clo = true) (hrow : isRow e n c2) : ∃ ow', Rep X I ρ ow' ⟨s.t, upd (upd s.h hd (some ⟨.own, shut1 c2 c⟩)) hk (some ⟨.dead, .any⟩)⟩ tm w := by
  obtain ⟨l0, hl0, hB⟩ := h.heap hd _ hh
  obtain ⟨kb, off, sz, cur, rfl, hk1, hk2, hk3, hk4⟩ : ∃ k off sz cur, l0 = .at k off sz ∧ ow k = some [hd] ∧ OwnBlk w k cur ∧ cur.size = off + sz ∧ CRep I w ow c ρ [hd] 0 (fun j => cur[off + j]?) := by
    rcases hB with ⟨_, h2, h3⟩ | h3
    · have := (shut1_spec (c2 := c2) c hlf h3).2.1
      simp only at h2
      omega
    · exact h3
  obtain ⟨g1, g2, a, cp, l, g3, g4, g5, g6, g7⟩ := shut1_spec (c2 := c2) c hlf hk4
  obtain ⟨l', hl', hB2⟩ := h.heap hk _ hkk
  have hll : l' = l := Option.some.inj (hl'.symm.trans g3)
  subst hll
  let ow' : Own := fun b => match ow b with
    | some (x :: r) => if x = hk then (if cp = 0 then none else some (hd :: p :: r)) else some (x :: r)
    | o => o
  have o2 : ∀ b x r, x ≠ hk → ow b = some (x :: r) → ow' b = some (x :: r) := fun b x r hx hb => by
    simp only [ow', hb]; rw [if_neg hx]
  have o4 : ∀ b r, cp ≠ 0 → ow b = some (hk :: r) → ow' b = some (hd :: p :: r) := fun b r hc hb => by simp [ow', hb, hc]
  have o5 : ∀ b, ow b = none → ow' b = none := fun b hb => by simp [ow', hb]
  have o6 : ∀ b q, ow' b = some q → ∃ x r, ow b = some (x :: r) ∧ ((x ≠ hk ∧ q = x :: r) ∨ (x = hk ∧ q = hd :: p :: r)) := fun b q hb => by
    simp only [ow'] at hb
    split at hb
    · rename_i x r hxy
      split at hb
      · rename_i e1
        split at hb
        · cases hb
        · cases hb
          exact ⟨x, r, hxy, .inr ⟨e1, rfl⟩⟩
      · rename_i e1
        cases hb
        exact ⟨x, r, hxy, .inl ⟨e1, rfl⟩⟩
    · rename_i hno
      obtain ⟨_, _, x, r, c, e, _⟩ := h.owf b q hb
      subst e
      exact (hno x r hb).elim
  have hat : AtLeaf I w ow' ([hd] ++ [0 + p]) c2 a cp e := by
    by_cases hc0 : cp = 0
    · subst hc0
      obtain rfl : n = 0 := by omega
      refine .inl ⟨rfl, ?_⟩
      rcases hB2 with ⟨_, _, h3⟩ | ⟨_, _, _, _, _, _, _, _, h3⟩
      · exact isRow_nil hrow h3
      · exact isRow_nil hrow h3
    · rcases g6 with g6 | ⟨b, off2, sz2, e1, e2, e3⟩
      · exact absurd g6 hc0
      · subst e1
        rcases hB2 with ⟨h3, _⟩ | ⟨k3, off3, sz3, cur3, h3, h4, h5, h6, h7⟩
        · cases h3
        · cases h3
          refine .inr ⟨_, _, cur3, e2, ?_, h5, by omega, ?_⟩
          · rw [Nat.zero_add]; exact o4 _ [] hc0 h4
          · have h8 := CRep.closed c2 ρ noR _ _ _ hclo h7
            refine CRep.sub _ _ _ _ _ _ _ _ (Rho.le_refl _) (fun _ => ⟨by simp, fun b' p' r _ hb' => ?_⟩) h8
            have := o4 b' ((0 + p') :: r) hc0 (by simpa using hb')
            simpa using this
  refine ⟨ow', ?_⟩
  exact
    { h with
      iow := fun b hb => o5 b (h.iow b hb)
      owf := fun b q hb => by
        obtain ⟨x, r, e1, e2⟩ := o6 b q hb
        obtain ⟨g8, g9, x', r', cx, g10, g11⟩ := h.owf b _ e1
        cases g10
        refine ⟨g8, g9, ?_⟩
        rcases e2 with ⟨hx, rfl⟩ | ⟨rfl, rfl⟩
        · by_cases e : x = hd
          · subst e; exact ⟨x, r, shut1 c2 c, rfl, by simp only [upd_ne _ _ hx, upd_same]⟩
          · exact ⟨x, r, cx, rfl, by simp only [upd_ne _ _ hx, upd_ne _ _ e]; exact g11⟩
        · exact ⟨hd, p :: r, shut1 c2 c, rfl, by simp only [upd_ne _ _ (Ne.symm hne), upd_same]⟩
      dom := fun b l hb hb2 => by
        by_cases e : b = hk
        · subst e; simp [upd]
        · simp only [upd_ne _ _ e]
          by_cases e2 : b = hd
          · subst e2; simp [upd]
          · simp only [upd_ne _ _ e2]; exact h.dom b l hb hb2
      heap := fun b blk hb => by
        by_cases e : b = hk
        · subst e
          simp only [upd_same, Option.some.injEq] at hb
          subst hb
          exact ⟨_, g3, trivial⟩
        · simp only [upd_ne _ _ e] at hb
          by_cases e2 : b = hd
          · subst e2
            simp only [upd_same, Option.some.injEq] at hb
            subst hb
            refine ⟨_, hl0, .inr ⟨kb, off, sz, cur, rfl, o2 _ _ _ (Ne.symm hne) hk1, hk2, hk3, g7 ow' (by simp) (fun b' p' r _ hb' => ?_) hrow hat⟩⟩
            exact o2 b' _ _ (Ne.symm hne) (by simpa using hb')
          · simp only [upd_ne _ _ e2] at hb
            obtain ⟨l', h1, h2⟩ := h.heap b blk hb
            exact ⟨l', h1, BRep.keep h (Only.refl w none) (fun k e => by cases e) (fun _ h => h) (Rho.le_refl _) h2 (fun k' r hk' => ⟨by simp, o2 _ _ _ e hk'⟩) (fun b' _ h => o5 b' h)⟩ }
theorem Rep.closes {p : Nat} : ∀ (f : Nat) {ow : Own} {hh h' : Nat → Option Blk}, Rep X I ρ ow ⟨s.t, hh⟩ tm w → (closeR apf p f hh).to h' → ∃ ow', Rep X I ρ ow' ⟨s.t, h'⟩ tm w := by
  intro f
  induction f with
  | zero => intro ow hh h' h hc; cases hc; exact ⟨ow, h⟩
  | succ f ih =>
    intro ow hh h' h hc
    simp only [closeR] at hc
    split at hc
    · rename_i c hp
      split at hc
      · rename_i k n e pp hl
        split at hc
        · rename_i c2 hk
          obtain ⟨h1, hc⟩ := rif_to hc
          obtain ⟨h2, hc⟩ := hc
          simp only [Bool.and_eq_true, beq_iff_eq, bne_iff_ne, decide_eq_true_eq] at h1
          have hrow : isRow e n c2 := by
            have h2 : n = c2.cnt := h2
            have h4 := h1.1.1.2
            have h5 := h1.1.1.1.2
            subst h2
            cases c2 <;> simp_all [isRow, V.isRowB, V.cnt, V.rowE]
          obtain ⟨ow', h3⟩ := h.shutOne hp hk h1.1.2 hl h1.1.1.1.1 hrow
          exact ih h3 hc
        · exact hc.elim
      · cases hc; exact ⟨ow, h⟩
    · cases hc; exact ⟨ow, h⟩
end
end Go.Cx
/- CxReg -/
namespace Go.Cx
open Go
/-- the state of a function's run -/
def RA (X : Fix) (s : St) (a : Act) (w : World) : Prop := RepE X s a.tmps w ∧ a.defers = []
theorem put_defers (a : Act) (d : Option Tmp) (v : Value) : (a.put d v).defers = a.defers := by cases d <;> rfl
theorem toApp0_spec {P : Program} {pure : Nat → Bool} {ops : Array Oper} (i : IOp) : toApp0 P pure ops i = i ∨ ∃ k b x y, i = .app k b x y ∧ toApp0 P pure ops i = .app0 k b x y := by
  unfold toApp0
  split
  · split
    · exact .inr ⟨_, _, _, _, rfl, rfl⟩
    · exact .inl rfl
  · exact .inr ⟨_, _, _, _, rfl, rfl⟩
  · exact .inl rfl
theorem toMF_spec {pure : Nat → Bool} {d : Option Nat} (i : IOp) : toMF pure d i = i ∨ ∃ k b x, i = .mks k b x ∧ toMF pure d i = .mksF k b x := by
  unfold toMF
  split
  · split
    · exact .inl rfl
    · exact .inr ⟨_, _, _, rfl, rfl⟩
  · exact .inl rfl
theorem toBoth_spec {P : Program} {pure : Nat → Bool} {ops : Array Oper} {d : Option Nat} (i : IOp) : toMF pure d (toApp0 P pure ops i) = i ∨ (∃ k b x y, i = .app k b x y ∧ toMF pure d (toApp0 P pure ops i) = .app0 k b x y) ∨ ∃ k b x, i = .mks k b x ∧ toMF pure d (toApp0 P pure ops i) = .mksF k b x := by
  rcases toApp0_spec (P := P) (pure := pure) (ops := ops) i with e | ⟨k, b, x, y, e1, e2⟩
  · rw [e]
    rcases toMF_spec (pure := pure) (d := d) i with h | h
    · exact .inl h
    · exact .inr (.inr h)
  · refine .inr (.inl ⟨k, b, x, y, e1, ?_⟩)
    rw [e2]
    rfl
section
variable {P : Program} {G : List (Nat × V)} {pure : Nat → Bool} {X : Fix} {E : List (Nat × Ctr)} {s : St} {a : Act} {w : World} {o : Oper} {ops : Array Oper}
structure OpOk (X : Fix) (ops : Array Oper) (o : Oper) : Prop where
  d : dstOk X o
  st : storeOk o = true
  g : guardOk ops o = true
theorem step_go (hG : GOk G X) (hE : EnvSound P G pure E) (hok : OpOk X ops o) (hRA : RA X s a w) {e : Eff} (he : (stepR apf E s.t s.h o.dst (compOper P pure ops o).o).to e) {next : Act → World → Prop} {Q : Exit → Act → World → Prop}
    (hn : ∀ a' w', RA X (e.on o.dst s) a' w' → next a' w') : o.wp P a w next Q := by
  obtain ⟨⟨I, ρ, ow, h⟩, hdf⟩ := hRA
  simp only [compOper] at he
  split at he
  · rename_i i hc
    have hsp := toBoth_spec (P := P) (pure := pure) (ops := ops) (d := o.dst) i
    have := step_sound h hok.d hG hE hok.st hc hsp he
    have df : ∀ x, (a.put o.dst x).defers = [] := fun x => by rw [put_defers]; exact hdf
    unfold Oper.wp
    rcases this with ⟨x, w', h1, h2⟩ | ⟨w', h1, h2⟩ | ⟨f, args, w1, h1, h2⟩
    · rw [h1]
      exact hn _ _ ⟨h2, df x⟩
    · rw [h1]
      exact hn _ _ ⟨h2, df undef⟩
    · rw [h1]
      refine Calls.mono h2 ?_
      rintro en w' ⟨x, rfl, h3⟩
      exact hn _ _ ⟨h3, df x⟩
  · exact he.elim
theorem RA.closeL {ps : List Nat} : ∀ {s : St} {h1 : Nat → Option Blk}, RA X s a w → (Go.Cx.closeL apf ps s.h).to h1 → RA X ⟨s.t, h1⟩ a w := by
  induction ps with
  | nil => intro s h1 h hc; cases hc; exact h
  | cons p ps ih =>
    intro s h1 h hc
    simp only [Go.Cx.closeL] at hc
    obtain ⟨h2, g1, g2⟩ := bind_to hc
    obtain ⟨⟨I, ρ, ow, hr⟩, hdf⟩ := h
    obtain ⟨ow', hr'⟩ := Rep.closes (s := s) 40 hr g1
    exact ih (s := ⟨s.t, h2⟩) ⟨⟨I, ρ, ow', hr'⟩, hdf⟩ g2
theorem stepS_go (hG : GOk G X) (hE : EnvSound P G pure E) (hok : OpOk X ops o) (hRA : RA X s a w) {s' : St} (he : (stepS apf E o.dst (compOper P pure ops o).o s).to s') {next : Act → World → Prop} {Q : Exit → Act → World → Prop}
    (hn : ∀ a' w', RA X s' a' w' → next a' w') : o.wp P a w next Q := by
  unfold stepS at he
  split at he
  · rename_i f xs hop
    split at he
    · obtain ⟨e, h3, h4⟩ := bind_to he
      cases h4
      rw [← hop] at h3
      exact step_go hG hE hok hRA h3 hn
    · rename_i p ps _
      obtain ⟨hb, he⟩ := rif_to he
      obtain ⟨h1, h2, he⟩ := bind_to he
      obtain ⟨e, h3, h4⟩ := bind_to he
      cases h4
      rw [← hop] at h3
      refine step_go (s := ⟨s.t, h1⟩) hG hE hok (hRA.closeL h2) h3 (fun a' w' hh => hn _ _ ?_)
      obtain ⟨⟨I, ρ, ow, hr⟩, hdf⟩ := hh
      obtain ⟨ρ', ow', _, hr'⟩ := Rep.opens (s := e.on o.dst ⟨s.t, h1⟩) 40 (opnBase o.dst) (p :: ps) (by have := of_decide_eq_true hb; omega) hr
      exact ⟨⟨I, ρ', ow', hr'⟩, hdf⟩
  · obtain ⟨e, h3, h4⟩ := bind_to he
    cases h4
    exact step_go hG hE hok hRA h3 hn
theorem RA.skip (hd : dstOk X o) (h : RA X s a w) : RA X ⟨putT s.t o.dst .tnil, s.h⟩ (a.put o.dst undef) w := by
  obtain ⟨⟨I, ρ, ow, h⟩, hdf⟩ := h
  exact ⟨⟨I, ρ, ow, h.putD hd (show VRep I w ρ .tnil undef from rfl)⟩, by rw [put_defers]; exact hdf⟩
theorem getD_bool {tm : Array Value} {g : Nat} {b : Bool} (h : tm.getD g undef = .bool b) : tm[g]? = some (.bool b) := by
  rw [Array.getD_eq_getD_getElem?] at h
  cases hq : tm[g]? with
  | none => rw [hq] at h; simp [undef] at h
  | some v => rw [hq] at h; simp at h; rw [h]
/-- the guard's slot, and what it says -/
theorem guard_says {j : Nat} {want : Bool} (hg : o.guard = some (j, want)) (hgo : guardOk ops o = true) {g : Nat} (hgs : (compOper P pure ops o).g = some (g, want)) {b : Bool} (hb : a.tmps.getD g undef = .bool b) :
    Region.wanted o (yielded ops a.tmps) = (b == want) := by
  simp only [guardOk, hg] at hgo
  obtain ⟨g', hg'⟩ := Option.isSome_iff_exists.1 hgo
  have e1 : g = g' := by
    simp only [compOper, hg, hg', Option.getD_some, Option.some.injEq, Prod.mk.injEq, and_true] at hgs
    exact hgs.symm
  subst e1
  simp only [Region.wanted, hg, yielded, hg', Option.bind_some, getD_bool hb]
  cases b <;> cases want <;> rfl
/-- the guard's slot says nothing -/
theorem guard_mute {j : Nat} {want : Bool} (hg : o.guard = some (j, want)) (hgo : guardOk ops o = true) {g : Nat} (hgs : (compOper P pure ops o).g = some (g, want)) (hb : a.tmps.getD g undef = undef) :
    Region.wanted o (yielded ops a.tmps) = false := by
  simp only [guardOk, hg] at hgo
  obtain ⟨g', hg'⟩ := Option.isSome_iff_exists.1 hgo
  have e1 : g = g' := by
    simp only [compOper, hg, hg', Option.getD_some, Option.some.injEq, Prod.mk.injEq, and_true] at hgs
    exact hgs.symm
  subst e1
  have e2 : a.tmps[g]? = none ∨ a.tmps[g]? = some undef := by
    rw [Array.getD_eq_getD_getElem?] at hb
    cases hq : a.tmps[g]? with
    | none => exact .inl rfl
    | some v => rw [hq] at hb; exact .inr (by rw [show v = undef from hb])
  simp only [Region.wanted, hg, yielded, hg', Option.bind_some]
  rcases e2 with e2 | e2 <;> rw [e2] <;> cases want <;> rfl
theorem comp_guard : (compOper P pure ops o).g = none ∧ o.guard = none ∨ ∃ j want g, o.guard = some (j, want) ∧ (compOper P pure ops o).g = some (g, want) := by
  cases hg : o.guard with
  | none => exact .inl ⟨by simp [compOper, hg], rfl⟩
  | some p => obtain ⟨j, want⟩ := p; exact .inr ⟨j, want, _, rfl, by simp [compOper, hg]; rfl⟩
theorem op_run (hG : GOk G X) (hE : EnvSound P G pure E) (hok : OpOk X ops o) (hRA : RA X s a w) {K : St → Prop} (h : (opR apf E (compOper P pure ops o) s).all K) {next : Act → World → Prop} {Q : Exit → Act → World → Prop}
    (hn : ∀ s' a' w', K s' → RA X s' a' w' → next a' w') :
    if Region.wanted o (yielded ops a.tmps) then o.wp P a w next Q else next (a.put o.dst undef) w := by
  have go : ∀ {s : St}, RA X s a w → (stepS apf E o.dst (compOper P pure ops o).o s).all K → o.wp P a w next Q := fun {s} hRA h => by
    obtain ⟨s', h1, h2⟩ := all_to h
    exact stepS_go hG hE hok hRA h1 (fun a' w' hh => hn _ _ _ h2 hh)
  have sk : ∀ {s : St}, RA X s a w → K ⟨putT s.t o.dst .tnil, s.h⟩ → next (a.put o.dst undef) w := fun {s} hRA h => hn _ _ _ h (hRA.skip hok.d)
  rcases comp_guard (P := P) (pure := pure) (ops := ops) (o := o) with ⟨h1, h2⟩ | ⟨j, want, g, h1, h2⟩
  · have hw : Region.wanted o (yielded ops a.tmps) = true := by simp [Region.wanted, h2]
    rw [if_pos hw]
    simp only [opR, h1] at h
    exact go hRA h
  · simp only [opR, h2] at h
    obtain ⟨⟨I, ρ, ow, hr⟩, hdf⟩ := hRA
    have hv := hr.tmps g
    split at h
    · rename_i e1
      rw [e1] at hv
      rw [guard_says h1 hok.g h2 (vr_tt hv)]
      cases want
      · exact sk ⟨⟨I, ρ, ow, hr⟩, hdf⟩ h
      · exact go ⟨⟨I, ρ, ow, hr⟩, hdf⟩ h
    · rename_i e1
      rw [e1] at hv
      rw [guard_says h1 hok.g h2 (vr_ff hv)]
      cases want
      · exact go ⟨⟨I, ρ, ow, hr⟩, hdf⟩ h
      · exact sk ⟨⟨I, ρ, ow, hr⟩, hdf⟩ h
    · rename_i b e1
      rw [e1] at hv
      have hb := vr_bool hv
      rw [guard_says h1 hok.g h2 hb]
      obtain ⟨ht, hf⟩ := h
      cases b with
      | true =>
        have hk : RA X ⟨upd s.t g .tt, s.h⟩ a w := ⟨⟨I, ρ, ow, hr.know (by rw [hb]; exact boolV_vr true)⟩, hdf⟩
        have ht := ht rfl
        cases want
        · exact sk hk ht
        · exact go hk ht
      | false =>
        have hk : RA X ⟨upd s.t g .ff, s.h⟩ a w := ⟨⟨I, ρ, ow, hr.know (by rw [hb]; exact boolV_vr false)⟩, hdf⟩
        have hf := hf rfl
        cases want
        · exact go hk hf
        · exact sk hk hf
    · rename_i e1
      rw [e1] at hv
      rw [guard_mute h1 hok.g h2 hv]
      exact sk ⟨⟨I, ρ, ow, hr⟩, hdf⟩ h
    · exact h.elim
theorem reg_list (hG : GOk G X) (hE : EnvSound P G pure E) {Q : Exit → Act → World → Prop} {K : St → Prop} (hK : ∀ s' a' w', K s' → RA X s' a' w' → Q .normal a' w') :
    ∀ (rest : List Oper) {s : St} {a : Act} {w : World}, (∀ o ∈ rest, OpOk X ops o) → RA X s a w → runOps apf E (rest.map (compOper P pure ops)) s K → wpList P ops Q rest a w := by
  intro rest
  induction rest with
  | nil => intro s a w _ hRA h; exact hK _ _ _ h hRA
  | cons o rest ih =>
    intro s a w hok hRA h
    simp only [List.map_cons, runOps] at h
    have := op_run (next := wpList P ops Q rest) (Q := Q) hG hE (hok o (by simp)) hRA h (fun s' a' w' hk hr => ih (fun o ho => hok o (List.mem_cons_of_mem _ ho)) hr hk)
    simp only [wpList]
    split
    · rename_i hw
      rw [if_pos hw] at this
      exact .inl this
    · rename_i hw
      rw [if_neg hw] at this
      exact this
theorem RA.keep {X : Fix} {s : St} {a : Act} {w : World} (h : RA X s a w) (l : List Nat) : RA X ⟨keepT s.t l, s.h⟩ a w := by
  obtain ⟨⟨I, ρ, ow, h⟩, hdf⟩ := h
  exact ⟨⟨I, ρ, ow, h.keep l⟩, hdf⟩
/-- what a wp owes where the small code's run promises Q -/
def toQ (X : Fix) (Q : Ex → St → Prop) : Exit → Act → World → Prop
  | .normal, a, w => ∃ s, Q .nrm s ∧ RA X s a w
  | .ret, a, w => ∃ s, Q .ret s ∧ RA X s a w
  | .exit i, a, w => ∃ s, Q (.exit i) s ∧ RA X s a w
  | _, _, _ => False
theorem reg_sound (hG : GOk G X) (hE : EnvSound P G pure E) {A : List (Nat × Ann)} {Q : Ex → St → Prop} {id : Nat} {keep : List Nat} (hok : ∀ o ∈ ops.toList, OpOk X ops o) (hRA : RA X s a w)
    (h : run apf E A (.reg keep (ops.toList.map (compOper P pure ops))) Q s) : (Code.region id ops false).wp P (toQ X Q) a w :=
  wp_region_list (reg_list hG hE (fun _ _ _ hk hr => ⟨_, hk, hr.keep keep⟩) ops.toList hok hRA h)
end
end Go.Cx
/- CxDraw1 -/
namespace Go.Cx
open Go
theorem ev_congr {t t' : Nat → V} {x : IX} (h : ∀ n ∈ x.tmps, t n = t' n) : ev t x = ev t' x := by
  cases x with
  | t n => exact h n (by simp [IX.tmps])
  | c v => rfl
  | g n => rfl
theorem map_congr' {α β : Type} {f g : α → β} : ∀ {l : List α}, (∀ x ∈ l, f x = g x) → l.map f = l.map g
  | [], _ => rfl
  | x :: l, h => by rw [List.map_cons, List.map_cons, h x (by simp), map_congr' fun y hy => h y (by simp [hy])]
/-- an operation looks at its slots alone -/
theorem stepR_tmps (ap : AP) (E : List (Nat × Ctr)) {t t' : Nat → V} (h : Nat → Option Blk) (d : Option Nat) (o : IOp) (ht : ∀ n ∈ o.tmps, t n = t' n) : stepR ap E t h d o = stepR ap E t' h d o := by
  cases o
  case bldS z ps =>
    have : (ps.map fun p => (p.1, p.2.1, ev t p.2.2)) = ps.map fun p => (p.1, p.2.1, ev t' p.2.2) := map_congr' fun p hp => by
      rw [ev_congr fun n hn => ht n (by simp only [IOp.tmps, List.mem_flatMap]; exact ⟨p, hp, hn⟩)]
    simp only [stepR, this]
  case bldA k n ps =>
    have : (ps.map fun p => (p.1, ev t p.2)) = ps.map fun p => (p.1, ev t' p.2) := map_congr' fun p hp => by
      rw [ev_congr fun n hn => ht n (by simp only [IOp.tmps, List.mem_flatMap]; exact ⟨p, hp, hn⟩)]
    simp only [stepR, this]
  case bsl k n ps =>
    have : (ps.map fun p => (p.1, ev t p.2)) = ps.map fun p => (p.1, ev t' p.2) := map_congr' fun p hp => by
      rw [ev_congr fun n hn => ht n (by simp only [IOp.tmps, List.mem_flatMap]; exact ⟨p, hp, hn⟩)]
    cases n <;> simp only [stepR, this]
  case call f pu l =>
    have : (l.map fun x => (ev t x.1, x.2)) = l.map fun x => (ev t' x.1, x.2) := map_congr' fun p hp => by
      rw [ev_congr fun n hn => ht n (by simp only [IOp.tmps, List.mem_flatMap]; exact ⟨p, hp, hn⟩)]
    simp only [stepR, this]
  case slA n e x lo hi =>
    have hx := ev_congr (x := x) fun n hn => ht n (by simp [IOp.tmps, hn])
    have hlo : ∀ y, lo = some y → ev t y = ev t' y := fun y e => ev_congr fun n hn => ht n (by simp [IOp.tmps, optTmps, e, hn])
    have hhi : ∀ y, hi = some y → ev t y = ev t' y := fun y e => ev_congr fun n hn => ht n (by simp [IOp.tmps, optTmps, e, hn])
    cases lo <;> cases hi <;> simp only [stepR, hx] <;> simp_all
  case slT x lo hi =>
    have hx := ev_congr (x := x) fun n hn => ht n (by simp [IOp.tmps, hn])
    have hlo : ∀ y, lo = some y → ev t y = ev t' y := fun y e => ev_congr fun n hn => ht n (by simp [IOp.tmps, optTmps, e, hn])
    have hhi : ∀ y, hi = some y → ev t y = ev t' y := fun y e => ev_congr fun n hn => ht n (by simp [IOp.tmps, optTmps, e, hn])
    cases lo <;> cases hi <;> simp only [stepR, hx] <;> simp_all
  case slS e x lo hi mx =>
    have hx := ev_congr (x := x) fun n hn => ht n (by simp [IOp.tmps, hn])
    have hlo : ∀ y, lo = some y → ev t y = ev t' y := fun y e => ev_congr fun n hn => ht n (by simp [IOp.tmps, optTmps, e, hn])
    have hhi : ∀ y, hi = some y → ev t y = ev t' y := fun y e => ev_congr fun n hn => ht n (by simp [IOp.tmps, optTmps, e, hn])
    have hmx : ∀ y, mx = some y → ev t y = ev t' y := fun y e => ev_congr fun n hn => ht n (by simp [IOp.tmps, optTmps, e, hn])
    cases mx with
    | none => cases lo <;> cases hi <;> simp only [stepR, hx] <;> simp_all
    | some m =>
      have hm := hmx m rfl
      simp only [stepR, hx, hm]
      cases hi with
      | none => cases lo <;> (split <;> simp_all)
      | some y =>
        have hy := hhi y rfl
        cases lo with
        | some _ => split <;> simp_all
        | none => split <;> simp_all
  case pick a b c =>
    have h1 := ev_congr (x := a) fun n hn => ht n (by simp [IOp.tmps, hn])
    have h2 := ev_congr (x := b) fun n hn => ht n (by simp [IOp.tmps, hn])
    have h3 := ev_congr (x := c) fun n hn => ht n (by simp [IOp.tmps, hn])
    simp only [stepR, h1, h2, h3]
  case slX e x y z =>
    have h1 := ev_congr (x := x) fun n hn => ht n (by simp [IOp.tmps, hn])
    have h2 := ev_congr (x := y) fun n hn => ht n (by simp [IOp.tmps, hn])
    have h3 := ev_congr (x := z) fun n hn => ht n (by simp [IOp.tmps, hn])
    simp only [stepR, h1, h2, h3]
  case alloc => rfl
  case lenA => rfl
  case bad => rfl
  case st s x y | ar b k x y | cmp b x y | shf b k x y | eq k n x y | iaA n e x y | iaS e x y | ixA n e g x y | ixT x y | app k b x y | app0 k b x y | appz k b x y | appT x y | cpy k x y | min2 x y | max2 x y =>
    have h1 := ev_congr (x := x) fun n hn => ht n (by simp [IOp.tmps, hn])
    have h2 := ev_congr (x := y) fun n hn => ht n (by simp [IOp.tmps, hn])
    simp only [stepR, h1, h2]
  case mv x | nck x | box x | ld s g x | neg k x | cpl k x | not x | cv k x | b2s x | s2b x | mst x | mks k b x | mksF k b x | fa o s x | fl o s g x | lenS x | lenT x | ext i x | s2a n e x =>
    have h1 := ev_congr (x := x) fun n hn => ht n (by simpa [IOp.tmps] using hn)
    simp only [stepR, h1]
/-- plain operations look at no block -/
theorem stepR_plain (ap : AP) (E : List (Nat × Ctr)) (t : Nat → V) (h h' : Nat → Option Blk) (d : Option Nat) (o : IOp) (hc : cls o = .p) : stepR ap E t h d o = stepR ap E t h' d o := by
  cases o <;> first | rfl | (simp only [cls] at hc; first | cases hc | (split at hc <;> cases hc))
end Go.Cx
/- CxDraw2 -/
namespace Go.Cx
open Go
section
variable {h h' : Nat → Option Blk} (hle : ∀ j b, h' j = some b → h j = some b)
include hle
theorem sliceC_mono {k : EK} {v : V} {r : Nat × V} (hr : (sliceC apf h' k v).to r) : (sliceC apf h k v).to r := by
  cases v <;> try exact hr
  rename_i hd p i n e cap
  simp only [sliceC] at hr ⊢
  cases hb : h' hd with
  | none => rw [hb] at hr; exact hr.elim
  | some b => rw [hb] at hr; rw [hle _ _ hb]; exact hr
theorem resolve_mono {pure : Bool} {k : AK} {v : V} {r : Arg × Option Nat} (hr : (resolve apf h' pure k v).to r) : (resolve apf h pure k v).to r := by
  cases k with
  | b k =>
    simp only [resolve] at hr ⊢
    obtain ⟨a, h1, h2⟩ := bind_to hr
    exact to_bind (sliceC_mono hle h1) h2
  | w k =>
    cases v <;> try exact hr
    rename_i hd p i n e cap
    cases p with
    | cons x p => exact hr
    | nil =>
      simp only [resolve] at hr ⊢
      cases hb : h' hd with
      | none => rw [hb] at hr; exact hr.elim
      | some b => rw [hb] at hr; rw [hle _ _ hb]; exact hr
  | v =>
    cases v <;> try exact hr
    rename_i hd p
    cases p with
    | cons x p => exact hr
    | nil =>
      simp only [resolve] at hr ⊢
      cases hb : h' hd with
      | none => rw [hb] at hr; exact hr.elim
      | some b => rw [hb] at hr; rw [hle _ _ hb]; exact hr
theorem resolveL_mono {pure : Bool} : ∀ {xs : List (V × AK)} {r : List Arg × List Nat}, (resolveL apf h' pure xs).to r → (resolveL apf h pure xs).to r := by
  intro xs
  induction xs with
  | nil => intro r hr; exact hr
  | cons x xs ih =>
    intro r hr
    simp only [resolveL] at hr ⊢
    obtain ⟨a, h1, hr⟩ := bind_to hr
    obtain ⟨b, h2, hr⟩ := bind_to hr
    exact to_bind (resolve_mono hle h1) (to_bind (ih h2) hr)
theorem to_rif {α : Type} {b : Bool} {n : Nat} {r : R α} {a : α} (hb : b = true) (hr : r.to a) : (rif b n r).to a := by
  have _ := hle
  subst hb; exact hr
theorem fresh_mono {d : Option Nat} {k k' : Nat → R Eff} {e : Eff} (hd : ∀ n, d = some n → h' n = h n) (he : (fresh h' d k').to e) (hk : ∀ n, (k' n).to e → (k n).to e) : (fresh h d k).to e := by
  have _ := hle
  obtain ⟨n, rfl, h1, h2⟩ := fresh_to he
  rw [hd n rfl] at h1
  simp only [fresh, h1]
  exact hk n h2
theorem allFresh_mono {l : List (Nat × Blk)} (hl : ∀ p ∈ l, p.1 < 100000 → h' p.1 = h p.1) (hf : allFresh h' l = true) : allFresh h l = true := by
  have _ := hle
  induction l with
  | nil => rfl
  | cons x l ih =>
    obtain ⟨i, b⟩ := x
    simp only [allFresh, Bool.and_eq_true, decide_eq_true_eq] at hf ⊢
    refine ⟨⟨⟨?_, hf.1.1.2⟩, hf.1.2⟩, ih (fun p hp => hl p (by simp [hp])) hf.2⟩
    have := hl (i, b) (by simp) hf.1.1.2
    simp only at this
    rw [← this]
    exact hf.1.1.1
theorem newsL_in {d : Nat} {news : List V} : ∀ p ∈ newsL d 0 news, p.1 < 100000 → p.1 ∈ (List.range 10).map (newH d) := by
  have _ := hle
  intro p hp hlt
  obtain ⟨j, _, e⟩ := newsL_keys (j0 := 0) (List.mem_map.2 ⟨p, hp, rfl⟩)
  rw [Nat.zero_add] at e
  rw [e] at hlt ⊢
  refine List.mem_map.2 ⟨j, ?_, rfl⟩
  simp only [newH] at hlt
  simp only [List.mem_range]
  split at hlt <;> omega
/-- with more blocks in sight -/
theorem stepR_mono {E : List (Nat × Ctr)} {t : Nat → V} {d : Option Nat} {o : IOp} {g : Option (Nat × Bool)} {e : Eff} (hfr : ∀ j ∈ mayMake ⟨d, g, o⟩, h' j = h j) (he : (stepR apf E t h' d o).to e) : (stepR apf E t h d o).to e := by
  have blk : ∀ {hd : Nat} {f : Option Blk → R Eff}, (∀ e, ¬ (f none).to e) → (f (h' hd)).to e → (f (h hd)).to e := fun {hd f} hn hf => by
    cases hb : h' hd with
    | none => rw [hb] at hf; exact absurd hf (hn e)
    | some b => rw [hb] at hf; rw [hle _ _ hb]; exact hf
  cases o
  case ld s agg x =>
    simp only [stepR] at he ⊢
    generalize ev t x = v at he ⊢
    cases v <;> first | exact he | skip
    rename_i hd p
    cases hb : h' hd with
    | none => simp only [hb] at he; exact he.elim
    | some b => simp only [hb] at he; simp only [hle _ _ hb]; exact he
  case st s x y =>
    simp only [stepR] at he ⊢
    generalize ev t x = v at he ⊢
    cases v <;> first | exact he | skip
    rename_i hd p
    cases hb : h' hd with
    | none => simp only [hb] at he; exact he.elim
    | some b => simp only [hb] at he; simp only [hle _ _ hb]; exact he
  case slA n e' x lo hi =>
    simp only [stepR] at he ⊢
    generalize ev t x = v at he ⊢
    cases v <;> first | exact he | skip
    rename_i hd p
    cases hb : h' hd with
    | none => simp only [hb] at he; exact he.elim
    | some b => simp only [hb] at he; simp only [hle _ _ hb]; exact he
  case b2s x =>
    simp only [stepR] at he ⊢
    obtain ⟨r, h1, h2⟩ := bind_to he
    exact to_bind (sliceC_mono hle h1) h2
  case cpy k x y =>
    simp only [stepR] at he ⊢
    obtain ⟨r, h1, h2⟩ := bind_to he
    refine to_bind (sliceC_mono hle h1) ?_
    obtain ⟨m, cy⟩ := r
    generalize ev t x = v at h2 ⊢
    cases v <;> first | exact h2 | skip
    rename_i hd p i n e' cap
    cases cy <;> first | exact h2 | skip
    cases hb : h' hd with
    | none => simp only [hb] at h2; exact h2.elim
    | some b => simp only [hb] at h2; simp only [hle _ _ hb]; exact h2
  case alloc z => exact fresh_mono hle (fun n hn => hfr n (by simp [mayMake, hn])) he (fun _ h => h)
  case box x => exact fresh_mono hle (fun n hn => hfr n (by simp [mayMake, hn])) he (fun _ h => h)
  case bsl k n ps =>
    cases n with
    | zero => exact he
    | succ n => exact fresh_mono hle (fun n hn => hfr n (by simp [mayMake, hn])) he (fun _ h => h)
  case mst x =>
    simp only [stepR] at he ⊢
    generalize ev t x = v at he ⊢
    cases v <;> first | exact he | skip
    rename_i hd p i n e' cap
    cases hb : h' hd with
    | none => simp only [hb] at he; exact he.elim
    | some b => simp only [hb] at he; simp only [hle _ _ hb]; exact he
  case s2b x =>
    simp only [stepR] at he ⊢
    generalize ev t x = v at he ⊢
    cases v <;> first | exact he | skip
    exact fresh_mono hle (fun n hn => hfr n (by simp [mayMake, hn])) he (fun _ h => h)
  case mks k b x => exact fresh_mono hle (fun n hn => hfr n (by simp [mayMake, hn])) he (fun _ h => h)
  case app0 k b x y =>
    refine fresh_mono hle (fun n hn => hfr n (by simp [mayMake, hn])) he (fun n hn => ?_)
    obtain ⟨r, h1, h2⟩ := bind_to hn
    exact to_bind (sliceC_mono hle h1) h2
  case app k b x y =>
    refine fresh_mono hle (fun n hn => hfr n (by simp [mayMake, hn])) he (fun n hn => ?_)
    obtain ⟨r, h1, h2⟩ := bind_to hn
    refine to_bind (sliceC_mono hle h1) ?_
    obtain ⟨m, cy⟩ := r
    generalize ev t x = v at h2 ⊢
    cases v <;> first | exact h2 | skip
    rename_i hd p i n' e' cap
    obtain ⟨r2, h3, h4⟩ := bind_to h2
    refine to_bind (sliceC_mono hle h3) ?_
    obtain ⟨c, h5, h6⟩ := bind_to h4
    refine to_bind h5 ⟨h6.1, ?_⟩
    obtain ⟨_, h7⟩ := h6
    cases cap with
    | some cp => exact h7
    | none =>
      cases p with
      | cons _ _ => exact h7.elim
      | nil =>
        cases hb : h' hd with
        | none => simp only [hb] at h7; exact h7.elim
        | some b => simp only [hb] at h7; simp only [hle _ _ hb]; exact h7
  case appz k b x y =>
    refine fresh_mono hle (fun n hn => hfr n (by simp [mayMake, hn])) he (fun n hn => ?_)
    obtain ⟨m, h1, h2⟩ := bind_to hn
    refine to_bind h1 ?_
    generalize ev t x = v at h2 ⊢
    cases v <;> first | exact h2 | skip
    rename_i hd p i n' e' cap
    obtain ⟨r2, h3, h4⟩ := bind_to h2
    refine to_bind (sliceC_mono hle h3) ?_
    obtain ⟨c, h5, h6⟩ := bind_to h4
    refine to_bind h5 ⟨h6.1, ?_⟩
    obtain ⟨_, h7⟩ := h6
    cases cap with
    | some cp => exact h7
    | none =>
      cases p with
      | cons _ _ => exact h7.elim
      | nil =>
        cases hb : h' hd with
        | none => simp only [hb] at h7; exact h7.elim
        | some b => simp only [hb] at h7; simp only [hle _ _ hb]; exact h7
  case appT x y =>
    simp only [stepR] at he ⊢
    generalize ev t y = u at he ⊢
    cases u <;> first | exact he | skip
    rename_i l
    refine fresh_mono hle (fun n hn => hfr n (by simp [mayMake, hn])) he (fun n h2 => ?_)
    generalize ev t x = v at h2 ⊢
    cases v <;> first | exact h2 | skip
    rename_i hd p i n' e' cap
    obtain ⟨r2, h3, h4⟩ := bind_to h2
    refine to_bind (sliceC_mono hle h3) ?_
    obtain ⟨c, h5, h6⟩ := bind_to h4
    refine to_bind h5 ⟨h6.1, ?_⟩
    obtain ⟨_, h7⟩ := h6
    cases cap with
    | some cp => exact h7
    | none =>
      cases p with
      | cons _ _ => exact h7.elim
      | nil =>
        cases hb : h' hd with
        | none => simp only [hb] at h7; exact h7.elim
        | some b => simp only [hb] at h7; simp only [hle _ _ hb]; exact h7
  case call f pu l =>
    simp only [stepR, callR] at he ⊢
    cases hc : look E f with
    | none => rw [hc] at he; exact he.elim
    | some c =>
      simp only [hc] at he ⊢
      obtain ⟨r, h1, he⟩ := bind_to he
      obtain ⟨h2, he⟩ := rif_to he
      obtain ⟨out, h3, he⟩ := bind_to he
      obtain ⟨h4, he⟩ := rif_to he
      refine to_bind (resolveL_mono hle h1) (to_rif hle h2 (to_bind h3 (to_rif hle h4 ?_)))
      cases d with
      | none => exact he
      | some d =>
        obtain ⟨h5, he⟩ := rif_to he
        refine to_rif hle ?_ he
        simp only [Bool.and_eq_true] at h5 ⊢
        exact ⟨⟨allFresh_mono hle (fun p hp hlt => hfr _ (by simp only [mayMake]; exact newsL_in hle p hp hlt)) h5.1.1, h5.1.2⟩, h5.2⟩
  all_goals exact he
end
end Go.Cx
/- CxDraw3 -/
namespace Go.Cx
open Go
/-- it holds of whatever comes out -/
def R.lf {α : Type} : R α → (α → Prop) → Prop
  | .fail _, _ => True
  | .ok a, K => K a
  | .chk _ r, K => r.lf K
  | .br _ x y, K => x.lf K ∧ y.lf K
  | .nam _ k, K => ∀ y, (k y).lf K
theorem lf_to {α : Type} {r : R α} {K : α → Prop} {a : α} (h : r.lf K) (ha : r.to a) : K a := by
  induction r with
  | fail => exact ha.elim
  | ok b => cases ha; exact h
  | chk p r ih => exact ih h ha.2
  | br b x y ihx ihy =>
    rcases ha with ⟨_, ha⟩ | ⟨_, ha⟩
    · exact ihx h.1 ha
    · exact ihy h.2 ha
  | nam x k ih => exact ih x (h x) ha
theorem lf_bind {α β : Type} {r : R α} {f : α → R β} {K : β → Prop} (h : ∀ a, (f a).lf K) : (r.bind f).lf K := by
  induction r with
  | fail => trivial
  | ok b => exact h b
  | chk p r ih => exact ih
  | br b x y ihx ihy => exact ⟨ihx, ihy⟩
  | nam x k ih => exact fun y => ih y
theorem lf_rif {α : Type} {b : Bool} {n : Nat} {r : R α} {K : α → Prop} (h : r.lf K) : (rif b n r).lf K := by
  unfold rif
  split
  · exact h
  · trivial
theorem lf_chk {α : Type} {p : Prop} {r : R α} {K : α → Prop} (h : r.lf K) : (R.chk p r).lf K := h
theorem lf_ok {α : Type} {a : α} {K : α → Prop} (h : K a) : (R.ok a).lf K := h
theorem lf_fail {α : Type} {n : Nat} {K : α → Prop} : (R.fail n : R α).lf K := trivial
theorem lf_br {α : Type} {b : Bool} {x y : R α} {K : α → Prop} (h1 : x.lf K) (h2 : y.lf K) : (R.br b x y).lf K := ⟨h1, h2⟩
theorem lf_fresh {h : Nat → Option Blk} {d : Option Nat} {k : Nat → R Eff} {K : Eff → Prop} (hk : ∀ n, d = some n → (k n).lf K) : (fresh h d k).lf K := by
  unfold fresh
  split
  · split
    · exact hk _ rfl
    · trivial
  · trivial
theorem stepR_p {E : List (Nat × Ctr)} {t : Nat → V} {h : Nat → Option Blk} {d : Option Nat} {o : IOp} (hc : cls o = .p) : (stepR apf E t h d o).lf (fun e => e.hs = []) := by
  cases o <;>
    first
      | (exfalso; revert hc; simp only [cls]; first | decide | (split <;> decide))
      | (simp only [stepR]; repeat' first | exact lf_ok rfl | exact lf_fail | (refine lf_br ?_ ?_) | split | (with_reducible apply lf_rif) | (with_reducible apply lf_chk) | (with_reducible refine lf_bind fun _ => ?_))
theorem resolve_pure {h : Nat → Option Blk} {k : AK} {v : V} {r : Arg × Option Nat} (hr : (resolve apf h true k v).to r) : r.2 = none := by
  unfold resolve at hr
  split at hr
  · obtain ⟨⟨n, c⟩, _, hr⟩ := bind_to hr
    cases hr
    rfl
  · split at hr
    · split at hr
      · obtain ⟨h1, hr⟩ := rif_to hr
        simp at h1
      · exact hr.elim
    · exact hr.elim
  · split at hr
    · split at hr
      · obtain ⟨_, hr⟩ := rif_to hr
        cases hr
        rfl
      · obtain ⟨_, hr⟩ := rif_to hr
        cases hr
        rfl
      · exact hr.elim
    · obtain ⟨_, hr⟩ := rif_to hr
      cases hr
      rfl
theorem stepR_n {E : List (Nat × Ctr)} {t : Nat → V} {h : Nat → Option Blk} {d : Option Nat} {g : Option (Nat × Bool)} {o : IOp} (hc : cls o = .n) {e : Eff} (he : (stepR apf E t h d o).to e) : ∀ k ∈ e.hs.map (·.1), k ∈ mayMake ⟨d, g, o⟩ := by
  have nil : (stepR apf E t h d o).lf (fun e => e.hs = []) → ∀ k ∈ e.hs.map (·.1), k ∈ mayMake ⟨d, g, o⟩ := fun hl k hk => by
    rw [lf_to hl he] at hk
    simp at hk
  have one : (stepR apf E t h d o).lf (fun e => ∀ k ∈ e.hs.map (·.1), d = some k) → (∀ n, d = some n → n ∈ mayMake ⟨d, g, o⟩) → ∀ k ∈ e.hs.map (·.1), k ∈ mayMake ⟨d, g, o⟩ := fun hl hm k hk => hm k (lf_to hl he k hk)
  cases o <;> try (exfalso; revert hc; simp only [cls]; decide)
  case ld s agg x =>
    apply nil
    simp only [stepR]
    repeat' first | exact lf_ok rfl | exact lf_fail | (refine lf_br ?_ ?_) | split | (with_reducible apply lf_rif) | (with_reducible apply lf_chk) | (with_reducible refine lf_bind fun _ => ?_)
  case mksF k b x =>
    apply nil
    simp only [stepR]
    repeat' first | exact lf_ok rfl | exact lf_fail | (refine lf_br ?_ ?_) | split | (with_reducible apply lf_rif) | (with_reducible apply lf_chk) | (with_reducible refine lf_bind fun _ => ?_)
  case b2s x =>
    apply nil
    simp only [stepR]
    repeat' first | exact lf_ok rfl | exact lf_fail | (refine lf_br ?_ ?_) | split | (with_reducible apply lf_rif) | (with_reducible apply lf_chk) | (with_reducible refine lf_bind fun _ => ?_)
  case slA n e x lo hi =>
    apply nil
    simp only [stepR]
    repeat' first | exact lf_ok rfl | exact lf_fail | (refine lf_br ?_ ?_) | split | (with_reducible apply lf_rif) | (with_reducible apply lf_chk) | (with_reducible refine lf_bind fun _ => ?_)
  case call f pu l =>
    have hp : pu = true := by
      cases pu
      · exact absurd hc (by simp [cls])
      · rfl
    subst hp
    simp only [stepR, callR] at he
    cases hq : look E f with
    | none => rw [hq] at he; exact he.elim
    | some c =>
      simp only [hq] at he
      obtain ⟨r, h1, he⟩ := bind_to he
      obtain ⟨_, he⟩ := rif_to he
      obtain ⟨out, _, he⟩ := bind_to he
      obtain ⟨_, he⟩ := rif_to he
      have hnil : r.2 = [] := by
        have key : ∀ (xs : List (V × AK)) (r : List Arg × List Nat), (resolveL apf h true xs).to r → r.2 = [] := by
          intro xs
          induction xs with
          | nil => intro r hr; cases hr; rfl
          | cons x xs ih =>
            intro r hr
            simp only [resolveL] at hr
            obtain ⟨a, g1, hr⟩ := bind_to hr
            obtain ⟨b, g2, hr⟩ := bind_to hr
            cases hr
            have hb := ih _ g2
            have ha : a.2 = none := resolve_pure g1
            rw [ha, hb]
        exact key _ _ h1
      have hob : objsL r.2 out.objs = [] := by rw [hnil]; cases out.objs <;> rfl
      cases d with
      | none =>
        cases he
        intro k hk
        rw [hob] at hk
        simp at hk
      | some d =>
        obtain ⟨h5, he⟩ := rif_to he
        cases he
        intro k hk
        rw [hob, List.nil_append] at hk
        simp only [Bool.and_eq_true] at h5
        obtain ⟨p, hp, rfl⟩ := List.mem_map.1 hk
        exact newsL_in (h := h) (h' := h) (fun _ _ h => h) p hp (allFresh_spec h5.1.1 p hp).2.1
  case bsl k n ps =>
    refine one ?_ (fun n hn => by simp [mayMake, hn])
    cases n with
    | zero =>
      intro k hk
      simp [noEff] at hk
    | succ n =>
      simp only [stepR]
      refine lf_fresh fun m hm => ?_
      refine lf_bind fun c => lf_ok fun k hk => ?_
      simp only [List.map_cons, List.map_nil, List.mem_singleton] at hk
      rw [hm, hk]
  all_goals
    refine one ?_ (fun n hn => by simp [mayMake, hn])
    simp only [stepR]
    repeat' first | exact lf_fail | (refine lf_ok fun k hk => ?_; simp only [List.map_cons, List.map_nil, List.mem_singleton] at hk; rw [hm, hk]) | split | (with_reducible refine lf_fresh fun m hm => ?_) | (with_reducible apply lf_rif) | (with_reducible apply lf_chk) | (with_reducible refine lf_bind fun _ => ?_)
end Go.Cx
/- CxDraw4 -/
namespace Go.Cx
open Go
theorem all_mono_to {α : Type} {r : R α} {K K' : α → Prop} (h : ∀ a, r.to a → K a → K' a) (hr : r.all K) : r.all K' := by
  induction r with
  | fail => exact hr
  | ok a => exact h a rfl hr
  | chk p r ih => exact ⟨hr.1, ih (fun a ha => h a ⟨hr.1, ha⟩) hr.2⟩
  | br b x y ihx ihy => exact ⟨fun hb => ihx (fun a ha => h a (.inl ⟨hb, ha⟩)) (hr.1 hb), fun hb => ihy (fun a ha => h a (.inr ⟨hb, ha⟩)) (hr.2 hb)⟩
  | nam x k ih => exact fun y e => by subst e; exact ih _ (fun a ha => h a ha) (hr _ rfl)
theorem all_and {α : Type} {r : R α} {K : α → Prop} {p : Prop} (hp : p) (hr : r.all K) : r.all fun a => p ∧ K a := all_mono_to (fun _ _ h => ⟨hp, h⟩) hr
theorem all_comm {α β : Type} {r1 : R α} {r2 : R β} {K : α → β → Prop} (h : r1.all fun a => r2.all fun b => K a b) : r2.all fun b => r1.all fun a => K a b := by
  induction r1 with
  | fail => exact h.elim
  | ok a => exact h
  | chk p r ih => exact all_and h.1 (ih h.2)
  | br b x y ihx ihy =>
    cases b with
    | true => exact all_mono_to (fun _ _ h => ⟨fun _ => h, fun e => by cases e⟩) (ihx (h.1 rfl))
    | false => exact all_mono_to (fun _ _ h => ⟨fun e => by (cases e), fun _ => h⟩) (ihy (h.2 rfl))
  | nam x k ih => exact all_mono_to (fun _ _ h y e => by subst e; exact h) (ih x (h x rfl))
theorem all_bind {α β : Type} {r : R α} {f : α → R β} {K : β → Prop} : (r.bind f).all K ↔ r.all fun a => (f a).all K := by
  induction r with
  | fail => exact Iff.rfl
  | ok a => exact Iff.rfl
  | chk p r ih => exact and_congr Iff.rfl ih
  | br b x y ihx ihy => exact and_congr (imp_congr Iff.rfl ihx) (imp_congr Iff.rfl ihy)
  | nam x k ih => exact forall_congr' fun y => imp_congr Iff.rfl (ih y)
/-- what an operation of an open region does -/
def effR (ap : AP) (E : List (Nat × Ctr)) (o : IOper) (m : Msk) (s : St) : R Eff :=
  match o.g with
  | none => stepW ap E m.w s.t (maskH m.m s.h) o.d o.o
  | some (g, want) => match s.t g with
    | .tt => if want then stepW ap E m.w s.t (maskH m.m s.h) o.d o.o else .ok ⟨.tnil, []⟩
    | .ff => if want then .ok ⟨.tnil, []⟩ else stepW ap E m.w s.t (maskH m.m s.h) o.d o.o
    | .bool b => .br b
        (if want then stepW ap E m.w s.t (maskH m.m s.h) o.d o.o else .ok ⟨.tnil, []⟩)
        (if want then .ok ⟨.tnil, []⟩ else stepW ap E m.w s.t (maskH m.m s.h) o.d o.o)
    | .tnil => .ok ⟨.tnil, []⟩
    | _ => .fail 90
theorem dopR_eff (E : List (Nat × Ctr)) (o : IOper) (m : Msk) (s : St) : dopR apf E o m s = (effR apf E o m s).bind fun e => .ok (e.on o.d s) := by
  unfold dopR effR
  cases o.g with
  | none => rfl
  | some p =>
    obtain ⟨g, want⟩ := p
    simp only
    cases s.t g <;> cases want <;> rfl
theorem stepW_to {E : List (Nat × Ctr)} {w : Option (List Nat)} {t : Nat → V} {h : Nat → Option Blk} {d : Option Nat} {o : IOp} {e : Eff} (he : (stepW apf E w t h d o).to e) :
    (stepR apf E t h d o).to e ∧ ∀ l, w = some l → ∀ k ∈ e.hs.map (·.1), k ∈ l := by
  cases w with
  | none => exact ⟨he, fun l e => by cases e⟩
  | some l =>
    obtain ⟨e', h1, h2⟩ := bind_to (show ((stepR apf E t h d o).bind fun e => rif (e.hs.all fun p => l.contains p.1) 150 (.ok e)).to e from he)
    obtain ⟨h3, h4⟩ := rif_to h2
    cases h4
    refine ⟨h1, fun l' e1 k hk => ?_⟩
    cases e1
    obtain ⟨p, hp, rfl⟩ := List.mem_map.1 hk
    have := List.all_eq_true.1 h3 p hp
    simpa using this
theorem effR_indep {E : List (Nat × Ctr)} {o : IOper} {m : Msk} {s s' : St} (ht : ∀ n ∈ o.tmps, s.t n = s'.t n) (hh : cls o.o = .p ∨ maskH m.m s.h = maskH m.m s'.h) : effR apf E o m s = effR apf E o m s' := by
  have h0 : stepR apf E s.t (maskH m.m s.h) o.d o.o = stepR apf E s'.t (maskH m.m s'.h) o.d o.o := by
    rw [stepR_tmps apf E (t' := s'.t) (maskH m.m s.h) o.d o.o (fun n hn => ht n (by simp [IOper.tmps, hn]))]
    rcases hh with hh | hh
    · exact stepR_plain _ _ _ _ _ _ _ hh
    · rw [hh]
  have h1 : stepW apf E m.w s.t (maskH m.m s.h) o.d o.o = stepW apf E m.w s'.t (maskH m.m s'.h) o.d o.o := by
    unfold stepW
    rw [h0]
  unfold effR
  cases hg : o.g with
  | none => exact h1
  | some p =>
    obtain ⟨g, want⟩ := p
    have h2 : s.t g = s'.t g := ht g (by simp [IOper.tmps, hg])
    simp only [h1, h2]
theorem effR_keys {E : List (Nat × Ctr)} {o : IOper} {m : Msk} {s : St} {e : Eff} (he : (effR apf E o m s).to e) :
    (cls o.o = .p → e.hs = []) ∧ (cls o.o = .n → ∀ k ∈ e.hs.map (·.1), k ∈ mayMake o) ∧ ∀ l, m.w = some l → ∀ k ∈ e.hs.map (·.1), k ∈ l := by
  have go : (stepW apf E m.w s.t (maskH m.m s.h) o.d o.o).to e → (cls o.o = .p → e.hs = []) ∧ (cls o.o = .n → ∀ k ∈ e.hs.map (·.1), k ∈ mayMake o) ∧ ∀ l, m.w = some l → ∀ k ∈ e.hs.map (·.1), k ∈ l := fun hw => by
    obtain ⟨h, h'⟩ := stepW_to hw
    exact ⟨fun hc => lf_to (K := fun e : Eff => e.hs = []) (stepR_p hc) h, fun hc => stepR_n (g := o.g) hc h, h'⟩
  have nil : (R.ok (⟨.tnil, []⟩ : Eff)).to e → (cls o.o = .p → e.hs = []) ∧ (cls o.o = .n → ∀ k ∈ e.hs.map (·.1), k ∈ mayMake o) ∧ ∀ l, m.w = some l → ∀ k ∈ e.hs.map (·.1), k ∈ l := fun h => by
    cases h; exact ⟨fun _ => rfl, fun _ k hk => by simp at hk, fun _ _ k hk => by simp at hk⟩
  unfold effR at he
  split at he
  · exact go he
  · split at he
    · split at he
      · exact go he
      · exact nil he
    · split at he
      · exact nil he
      · exact go he
    · rename_i want _ b _
      rcases he with ⟨_, he⟩ | ⟨_, he⟩
      · split at he
        · exact go he
        · exact nil he
      · split at he
        · exact nil he
        · exact go he
    · exact nil he
    · exact he.elim
theorem putHs_upd {i : Nat} {b : Blk} : ∀ {l : List (Nat × Blk)} {h : Nat → Option Blk}, i ∉ l.map (·.1) → putHs (upd h i (some b)) l = upd (putHs h l) i (some b) := by
  intro l
  induction l with
  | nil => intro h _; rfl
  | cons p l ih =>
    intro h hi
    simp only [List.map_cons, List.mem_cons, not_or] at hi
    show putHs (upd (upd h i (some b)) p.1 (some p.2)) l = _
    have : upd (upd h i (some b)) p.1 (some p.2) = upd (upd h p.1 (some p.2)) i (some b) := by
      funext j
      simp only [upd]
      by_cases h1 : j = p.1
      · rw [if_pos h1, if_neg (fun e => hi.1 (e.symm.trans h1)), if_pos h1]
      · rw [if_neg h1]
        by_cases h2 : j = i
        · rw [if_pos h2, if_pos h2]
        · rw [if_neg h2, if_neg h2, if_neg h1]
    rw [this, ih hi.2]
    rfl
theorem putHs_comm : ∀ {l m : List (Nat × Blk)} {h : Nat → Option Blk}, (∀ k ∈ l.map (·.1), k ∉ m.map (·.1)) → putHs (putHs h l) m = putHs (putHs h m) l := by
  intro l
  induction l with
  | nil => intro m h _; rfl
  | cons p l ih =>
    intro m h hd
    have h1 : putHs (upd h p.1 (some p.2)) m = upd (putHs h m) p.1 (some p.2) := putHs_upd (hd p.1 (by simp))
    show putHs (putHs (upd h p.1 (some p.2)) l) m = putHs (upd (putHs h m) p.1 (some p.2)) l
    rw [ih (fun k hk => hd k (by simp only [List.map_cons, List.mem_cons]; exact .inr hk)), h1]
theorem maskH_putHs {m : List Nat} {l : List (Nat × Blk)} {h : Nat → Option Blk} (hl : ∀ k ∈ l.map (·.1), k ∈ m) : maskH m (putHs h l) = maskH m h := by
  funext j
  simp only [maskH]
  by_cases hj : m.contains j = true
  · rw [if_pos hj, if_pos hj]
  · rw [if_neg hj, if_neg hj, putHs_not (fun hk => hj (by simpa using hl j hk))]
structure Apart (x y : IOper) (mx my : Msk) : Prop where
  xd : ∀ d, x.d = some d → d ∉ y.tmps ∧ y.d ≠ some d
  yd : ∀ d, y.d = some d → d ∉ x.tmps
  cl : cls x.o = .p ∨ cls y.o = .p ∨ (cls x.o = .n ∧ cls y.o = .n) ∨ (cls x.o = .n ∧ ∃ l, my.w = some l ∧ ∀ j ∈ l, j ∈ mx.m) ∨ (cls y.o = .n ∧ ∃ l, mx.w = some l ∧ ∀ j ∈ l, j ∈ my.m)
  dj : ∀ j ∈ mayMake x, j ∉ mayMake y
  ox : ∀ j ∈ mayMake x, j ∉ mx.m
  oy : ∀ j ∈ mayMake y, j ∉ my.m
structure ApartS (x y : IOper) : Prop where
  xd : ∀ d, x.d = some d → d ∉ y.tmps ∧ y.d ≠ some d
  yd : ∀ d, y.d = some d → d ∉ x.tmps
  cl : cls x.o = .p ∨ cls y.o = .p ∨ cls x.o = .n ∨ cls y.o = .n
  dj : ∀ j ∈ mayMake x, j ∉ mayMake y
theorem apartO_spec {x y : IOper} (h : apartO x y = true) : ApartS x y := by
  simp only [apartO, Bool.and_eq_true, Bool.or_eq_true, beq_iff_eq, List.all_eq_true, Bool.not_eq_true', List.contains_eq_mem, decide_eq_false_iff_not] at h
  obtain ⟨⟨⟨h1, h2⟩, h3⟩, h4⟩ := h
  refine ⟨fun d hd => ?_, fun d hd => ?_, ?_, h4⟩
  · simp only [hd, Bool.and_eq_true, Bool.not_eq_true', decide_eq_false_iff_not, bne_iff_ne] at h1
    exact h1
  · simpa [hd] using h2
  · rcases h3 with ((h3 | h3) | h3) | h3
    · exact .inl h3
    · exact .inr (.inl h3)
    · exact .inr (.inr (.inl h3))
    · exact .inr (.inr (.inr h3))
theorem putT_ne {t : Nat → V} {d : Option Nat} {v : V} {n : Nat} (h : ∀ k, d = some k → k ≠ n) : putT t d v n = t n := by
  cases d with
  | none => rfl
  | some k => exact upd_ne _ _ (fun e => h k rfl e.symm)
theorem putT_comm {t : Nat → V} {d d' : Option Nat} {v v' : V} (h : ∀ k, d = some k → d' ≠ some k) : putT (putT t d v) d' v' = putT (putT t d' v') d v := by
  cases d with
  | none => cases d' <;> rfl
  | some k =>
    cases d' with
    | none => rfl
    | some k' =>
      have hk : k' ≠ k := fun e => h k rfl (by rw [e])
      funext j
      simp only [putT, upd]
      by_cases h1 : j = k'
      · rw [if_pos h1, if_neg (fun e => hk (h1.symm.trans e)), if_pos h1]
      · rw [if_neg h1]
        by_cases h2 : j = k
        · rw [if_pos h2, if_pos h2]
        · rw [if_neg h2, if_neg h2, if_neg h1]
theorem dop_swap {E : List (Nat × Ctr)} {x y : IOper} {mx my : Msk} {s : St} {K : St → Prop} (ha : Apart x y mx my) (hx : ∀ j ∈ mayMake x, j ∈ my.m) (hy : ∀ j ∈ mayMake y, j ∈ mx.m)
    (h : (dopR apf E x mx s).all fun s1 => (dopR apf E y my s1).all K) : (dopR apf E y my s).all fun s1 => (dopR apf E x mx s1).all K := by
  have iy : ∀ e, (effR apf E x mx s).to e → effR apf E y my (e.on x.d s) = effR apf E y my s := fun e he => by
    obtain ⟨k1, k2, k3⟩ := effR_keys he
    refine effR_indep (fun n hn => ?_) ?_
    · exact putT_ne (fun k hk e => (ha.xd k hk).1 (e ▸ hn))
    · rcases ha.cl with c | c | ⟨c, _⟩ | ⟨c, _⟩ | ⟨_, l, c, c2⟩
      · right
        show maskH my.m (putHs s.h e.hs) = _
        rw [k1 c]; rfl
      · exact .inl c
      · exact .inr (maskH_putHs fun k hk => hx k (k2 c k hk))
      · exact .inr (maskH_putHs fun k hk => hx k (k2 c k hk))
      · exact .inr (maskH_putHs fun k hk => c2 k (k3 l c k hk))
  have ix : ∀ e, (effR apf E y my s).to e → effR apf E x mx (e.on y.d s) = effR apf E x mx s := fun e he => by
    obtain ⟨k1, k2, k3⟩ := effR_keys he
    refine effR_indep (fun n hn => ?_) ?_
    · exact putT_ne (fun k hk e => ha.yd k hk (e ▸ hn))
    · rcases ha.cl with c | c | ⟨_, c⟩ | ⟨_, l, c, c2⟩ | ⟨c, _⟩
      · exact .inl c
      · right
        show maskH mx.m (putHs s.h e.hs) = _
        rw [k1 c]; rfl
      · exact .inr (maskH_putHs fun k hk => hy k (k2 c k hk))
      · exact .inr (maskH_putHs fun k hk => c2 k (k3 l c k hk))
      · exact .inr (maskH_putHs fun k hk => hy k (k2 c k hk))
  have comm : ∀ e1 e2, (effR apf E x mx s).to e1 → (effR apf E y my s).to e2 → e2.on y.d (e1.on x.d s) = e1.on x.d (e2.on y.d s) := fun e1 e2 h1 h2 => by
    obtain ⟨k1, k2, k5⟩ := effR_keys h1
    obtain ⟨k3, k4, k6⟩ := effR_keys h2
    have g1 : putT (putT s.t x.d e1.v) y.d e2.v = putT (putT s.t y.d e2.v) x.d e1.v := putT_comm fun k hk => (ha.xd k hk).2
    have g2 : putHs (putHs s.h e1.hs) e2.hs = putHs (putHs s.h e2.hs) e1.hs := by
      rcases ha.cl with c | c | ⟨c, c'⟩ | ⟨c, l, c', c2⟩ | ⟨c, l, c', c2⟩
      · rw [k1 c]; rfl
      · rw [k3 c]; rfl
      · exact putHs_comm fun k hk hk' => ha.dj k (k2 c k hk) (k4 c' k hk')
      · exact putHs_comm fun k hk hk' => ha.ox k (k2 c k hk) (c2 k (k6 l c' k hk'))
      · exact putHs_comm fun k hk hk' => ha.oy k (k4 c k hk') (c2 k (k5 l c' k hk))
    simp only [Eff.on, g1, g2]
  rw [dopR_eff, all_bind] at h ⊢
  have h' : (effR apf E x mx s).all fun e1 => (effR apf E y my s).all fun e2 => K (e2.on y.d (e1.on x.d s)) := all_mono_to (fun e1 he1 hk => by
    have hk : (dopR apf E y my (e1.on x.d s)).all K := hk
    rw [dopR_eff, all_bind, iy e1 he1] at hk
    exact hk) h
  have h2 := all_comm h'
  refine all_mono_to (fun e2 he2 hk => ?_) h2
  show (dopR apf E x mx (e2.on y.d s)).all K
  rw [dopR_eff, all_bind, ix e2 he2]
  refine all_mono_to (fun e1 he1 hk => ?_) hk
  show K (e1.on x.d (e2.on y.d s))
  rw [← comm e1 e2 he1 he2]
  exact hk
def SwapOk (p q : IOper × Msk) : Prop := Apart p.1 q.1 p.2 q.2 ∧ (∀ j ∈ mayMake p.1, j ∈ q.2.m) ∧ ∀ j ∈ mayMake q.1, j ∈ p.2.m
theorem move_front {E : List (Nat × Ctr)} {x : IOper × Msk} {post : List (IOper × Msk)} {K : St → Prop} : ∀ (pre : List (IOper × Msk)) {s : St}, (∀ y ∈ pre, SwapOk y x) → runDops apf E (pre ++ x :: post) s K →
    runDops apf E (x :: (pre ++ post)) s K := by
  intro pre
  induction pre with
  | nil => intro s _ h; exact h
  | cons y pre ih =>
    intro s hs h
    have h1 : (dopR apf E y.1 y.2 s).all fun s1 => (dopR apf E x.1 x.2 s1).all fun s2 => runDops apf E (pre ++ post) s2 K := all_mono_to (fun s1 _ hk => ih (fun z hz => hs z (by simp [hz])) hk) h
    obtain ⟨g1, g2, g3⟩ := hs y (by simp)
    exact dop_swap g1 g2 g3 h1
end Go.Cx
/- CxDraw5 -/
namespace Go.Cx
open Go
section
variable {P : Program} {G : List (Nat × V)} {pure : Nat → Bool} {X : Fix} {E : List (Nat × Ctr)} {ops : Array Oper}
theorem dop_run {s : St} {a : Act} {w : World} {o : Oper} {m : Msk} (hG : GOk G X) (hE : EnvSound P G pure E) (hok : OpOk X ops o) (hm : ∀ j ∈ mayMake (compOper P pure ops o), j ∉ m.m) (hRA : RA X s a w) {K : St → Prop}
    (h : (dopR apf E (compOper P pure ops o) m s).all K) {next : Act → World → Prop} {Q : Exit → Act → World → Prop} (hn : ∀ s' a' w', K s' → RA X s' a' w' → next a' w') :
    if Region.wanted o (yielded ops a.tmps) then o.wp P a w next Q else next (a.put o.dst undef) w := by
  have hle : ∀ j b, maskH m.m s.h j = some b → s.h j = some b := fun j b hj => by
    simp only [maskH] at hj
    split at hj
    · cases hj
    · exact hj
  have go : ∀ {K : St → Prop}, ((stepW apf E m.w s.t (maskH m.m s.h) o.dst (compOper P pure ops o).o).bind fun e => .ok (e.on o.dst s)).all K → (∀ s' a' w', K s' → RA X s' a' w' → next a' w') → o.wp P a w next Q := fun {K} h hn => by
    obtain ⟨s', h1, h2⟩ := all_to h
    obtain ⟨e, h3, h4⟩ := bind_to h1
    cases h4
    have h5 := stepR_mono hle (g := (compOper P pure ops o).g) (fun j hj => by
      have := hm j hj
      simp only [maskH]
      rw [if_neg (by simpa using this)]) (stepW_to h3).1
    exact step_go hG hE hok hRA h5 (fun a' w' hh => hn _ _ _ h2 hh)
  have sk : K ⟨putT s.t o.dst .tnil, s.h⟩ → next (a.put o.dst undef) w := fun h => hn _ _ _ h (hRA.skip hok.d)
  rcases comp_guard (P := P) (pure := pure) (ops := ops) (o := o) with ⟨h1, h2⟩ | ⟨j, want, g, h1, h2⟩
  · have hw : Region.wanted o (yielded ops a.tmps) = true := by simp [Region.wanted, h2]
    rw [if_pos hw]
    simp only [dopR, h1] at h
    exact go h hn
  · simp only [dopR, h2] at h
    obtain ⟨⟨I, ρ, ow, hr⟩, hdf⟩ := hRA
    have hv := hr.tmps g
    split at h
    · rename_i e1
      rw [e1] at hv
      rw [guard_says h1 hok.g h2 (vr_tt hv)]
      cases want
      · exact sk h
      · exact go h hn
    · rename_i e1
      rw [e1] at hv
      rw [guard_says h1 hok.g h2 (vr_ff hv)]
      cases want
      · exact go h hn
      · exact sk h
    · rename_i b e1
      rw [e1] at hv
      have hb := vr_bool hv
      rw [guard_says h1 hok.g h2 hb]
      obtain ⟨ht, hf⟩ := h
      cases b with
      | true =>
        have ht := ht rfl
        cases want
        · exact sk ht
        · exact go ht hn
      | false =>
        have hf := hf rfl
        cases want
        · exact go hf hn
        · exact sk hf
    · rename_i e1
      rw [e1] at hv
      rw [guard_mute h1 hok.g h2 hv]
      exact sk h
    · exact h.elim
/-- what a region must be for its order not to matter -/
structure DrawOk (P : Program) (pure : Nat → Bool) (ops : Array Oper) (b : Array Nat) (mk : Nat → Msk) : Prop where
  low : ∀ (i : Nat) (o : Oper), ops[i]? = some o → ∀ e ∈ o.after, Region.binds .any e = true → e.on < i
  up : ∀ (i q : Nat) (o : Oper), ops[i]? = some o → q < ops.size → bef b q i = true → q < i ∧ ∃ e ∈ o.after, Region.binds .any e = true ∧ (q = e.on ∨ bef b q e.on = true)
  own : ∀ (i : Nat) (o : Oper), ops[i]? = some o → ∀ j ∈ mayMake (compOper P pure ops o), j ∉ (mk i).m
  swap : ∀ (q i : Nat) (oq oi : Oper), q < i → ops[q]? = some oq → ops[i]? = some oi → bef b q i = false → SwapOk (compOper P pure ops oq, mk q) (compOper P pure ops oi, mk i)
theorem getD_same {l : Array Bool} {i : Nat} (h : i < l.size) : l.getD i false = l.getD i true := by
  simp [Array.getD_eq_getD_getElem?, h]
theorem getD_setB {l : Array Bool} {i j : Nat} (h : i < l.size) : (l.setIfInBounds i true).getD j true = if j = i then true else l.getD j true := by
  by_cases e : j = i
  · subst e; simp [Array.getD_eq_getD_getElem?, h]
  · rw [if_neg e]; simp [Array.getD_eq_getD_getElem?, Array.getElem?_setIfInBounds_ne (Ne.symm e)]
theorem ready_mem {listed : Array Bool} {i : Nat} (_hs : listed.size = ops.size) (h : i ∈ Region.ready .any ops listed) : listed.getD i true = false ∧ ∃ o, ops[i]? = some o ∧ ∀ e ∈ o.after, Region.binds .any e = true → listed.getD e.on false = true := by
  simp only [Region.ready, List.mem_filter, List.mem_range, Bool.and_eq_true, Bool.not_eq_true'] at h
  obtain ⟨h1, h2, h3⟩ := h
  refine ⟨h2, ?_⟩
  obtain ⟨o, ho⟩ : ∃ o, ops[i]? = some o := ⟨_, Array.getElem?_eq_getElem h1⟩
  rw [ho] at h3
  simp only [Option.map_some, Option.getD_some, Array.all_eq_true', Bool.or_eq_true, Bool.not_eq_true'] at h3
  refine ⟨o, ho, fun e he hb => ?_⟩
  rcases h3 e he with h4 | h4
  · rw [hb] at h4; cases h4
  · exact h4
theorem draw_any {b : Array Nat} {mk : Nat → Msk} (hD : DrawOk P pure ops b mk) (hG : GOk G X) (hE : EnvSound P G pure E) (hok : ∀ o ∈ ops.toList, OpOk X ops o) {Q : Exit → Act → World → Prop} {K : St → Prop}
    (hK : ∀ s' a' w', K s' → RA X s' a' w' → Q .normal a' w') :
    ∀ (fuel : Nat) (rest : List (Nat × Oper)) (listed : Array Bool) {s : St} {a : Act} {w : World}, listed.size = ops.size → rest.length ≤ fuel → (∀ p ∈ rest, ops[p.1]? = some p.2) → rest.Pairwise (fun p q => p.1 < q.1) →
      (∀ (i : Nat), i < ops.size → (listed.getD i true = false ↔ i ∈ rest.map (·.1))) → (∀ (i : Nat) (o : Oper), ops[i]? = some o → listed.getD i true = true → ∀ q, q < ops.size → bef b q i = true → listed.getD q true = true) →
      RA X s a w → runDops apf E (rest.map fun p => (compOper P pure ops p.2, mk p.1)) s K → wpAny P .any ops Q fuel listed a w := by
  have lt_of : ∀ {i : Nat} {o : Oper}, ops[i]? = some o → i < ops.size := fun h => (Array.getElem?_eq_some_iff.1 h).1
  have rdy : ∀ (rest : List (Nat × Oper)) (listed : Array Bool), listed.size = ops.size → (∀ p ∈ rest, ops[p.1]? = some p.2) → rest.Pairwise (fun p q => p.1 < q.1) →
      (∀ (i : Nat), i < ops.size → (listed.getD i true = false ↔ i ∈ rest.map (·.1))) → Region.ready .any ops listed = [] → rest = [] := by
    intro rest listed hs hop hpw hls hr
    cases rest with
    | nil => rfl
    | cons p rest =>
      exfalso
      have hp := hop p (by simp)
      have hlt := lt_of hp
      have : p.1 ∈ Region.ready .any ops listed := by
        simp only [Region.ready, List.mem_filter, List.mem_range]
        refine ⟨hlt, ?_⟩
        rw [(hls p.1 hlt).2 (by simp), hp]
        simp only [Bool.not_false, Option.map_some, Option.getD_some, Bool.true_and, Array.all_eq_true']
        intro e he
        by_cases hb : Region.binds .any e = true
        · have hlow := hD.low p.1 p.2 hp e he hb
          have hel : e.on < ops.size := by omega
          have : listed.getD e.on true = true := by
            cases hq : listed.getD e.on true with
            | true => rfl
            | false =>
              have hm := (hls e.on hel).1 hq
              obtain ⟨p', hp', e1⟩ := List.mem_map.1 hm
              rcases List.mem_cons.1 hp' with rfl | hp'
              · omega
              · have := (List.pairwise_cons.1 hpw).1 p' hp'
                omega
          rw [getD_same (by omega), this]
          simp
        · simp [hb]
      rw [hr] at this
      simp at this
  intro fuel
  induction fuel with
  | zero =>
    intro rest listed s a w hs hlen hop hpw hls hcl hRA h
    have hnil : rest = [] := List.eq_nil_of_length_eq_zero (by omega)
    subst hnil
    refine ⟨?_, hK _ _ _ h hRA⟩
    cases hq : Region.ready .any ops listed with
    | nil => rfl
    | cons i l =>
      obtain ⟨h1, o, ho, _⟩ := ready_mem hs (show i ∈ Region.ready .any ops listed by rw [hq]; simp)
      have := (hls i (lt_of ho)).1 h1
      simp at this
  | succ fuel ih =>
    intro rest listed s a w hs hlen hop hpw hls hcl hRA h
    refine ⟨fun hr => ?_, fun i hi => ?_⟩
    · have hnil := rdy rest listed hs hop hpw hls hr
      subst hnil
      exact hK _ _ _ h hRA
    · obtain ⟨h1, o, ho, haft⟩ := ready_mem hs hi
      have hil := lt_of ho
      have hm := (hls i hil).1 h1
      obtain ⟨p, hp, e1⟩ := List.mem_map.1 hm
      have e2 : p = (i, o) := by
        have := hop p hp
        rw [e1, ho] at this
        cases p
        simp only [Option.some.injEq] at this e1
        rw [e1, this]
      subst e2
      obtain ⟨pre, post, rfl⟩ := List.append_of_mem hp
      -- what stands before i is listed
      have befl : ∀ q, q < ops.size → bef b q i = true → listed.getD q true = true := fun q hq hb => by
        obtain ⟨_, e, he, hbd, hor⟩ := hD.up i q o ho hq hb
        have h3 := haft e he hbd
        have hel : e.on < ops.size := Nat.lt_trans (hD.low i o ho e he hbd) hil
        rw [getD_same (by omega)] at h3
        rcases hor with rfl | hor
        · exact h3
        · exact hcl e.on _ (Array.getElem?_eq_getElem hel) h3 q hq hor
      have hpw2 := List.pairwise_append.1 hpw
      have hpre : ∀ y ∈ pre, SwapOk (compOper P pure ops y.2, mk y.1) (compOper P pure ops o, mk i) := fun y hy => by
        have hlt : y.1 < i := hpw2.2.2 y hy (i, o) (by simp)
        have hyo := hop y (by simp [hy])
        refine hD.swap y.1 i y.2 o hlt hyo ho ?_
        cases hb : bef b y.1 i with
        | false => rfl
        | true =>
          have h4 := befl y.1 (by omega) hb
          have h5 := (hls y.1 (by omega)).2 (List.mem_map.2 ⟨y, by simp [hy], rfl⟩)
          rw [h4] at h5
          cases h5
      rw [List.map_append, List.map_cons] at h
      have h6 := move_front (E := E) (K := K) (pre.map fun p => (compOper P pure ops p.2, mk p.1)) (fun y hy => by
        obtain ⟨z, hz, rfl⟩ := List.mem_map.1 hy
        exact hpre z hz) h
      rw [← List.map_append] at h6
      have hini : ∀ z ∈ pre ++ post, z.1 ≠ i := fun z hz e => by
        rcases List.mem_append.1 hz with hz | hz
        · have : z.1 < i := hpw2.2.2 z hz (i, o) (by simp)
          omega
        · have : i < z.1 := (List.pairwise_cons.1 hpw2.2.1).1 z hz
          omega
      have hrun := dop_run (next := wpAny P .any ops Q fuel (listed.setIfInBounds i true)) (Q := Q) (m := mk i) hG hE (hok o (by
        have := Array.mem_of_getElem? ho
        simpa using this)) (hD.own i o ho) hRA (K := fun s' => runDops apf E ((pre ++ post).map fun p : Nat × Oper => (compOper P pure ops p.2, mk p.1)) s' K) h6 (fun s' a' w' hk hr => by
          refine ih (pre ++ post) _ (by simp [hs]) (by simp only [List.length_append, List.length_cons] at hlen ⊢; omega) (fun z hz => hop z (by
            rcases List.mem_append.1 hz with hz | hz <;> simp [hz])) ?_ (fun j hj => ?_) (fun j oj hoj hlj q hq hb => ?_) hr hk
          · exact hpw.sublist (List.Sublist.append_left (List.sublist_cons_self _ _) _)
          · rw [getD_setB (by omega)]
            by_cases e : j = i
            · subst e
              simp only [if_true]
              constructor
              · intro e; cases e
              · intro hj2
                obtain ⟨z, hz, e⟩ := List.mem_map.1 hj2
                exact absurd e (hini z hz)
            · rw [if_neg e, hls j hj]
              simp only [List.map_append, List.map_cons, List.mem_append, List.mem_cons]
              constructor
              · rintro (h | h | h)
                · exact .inl h
                · exact absurd h e
                · exact .inr h
              · rintro (h | h)
                · exact .inl h
                · exact .inr (.inr h)
          · rw [getD_setB (by omega)] at hlj ⊢
            by_cases e : q = i
            · rw [if_pos e]
            · rw [if_neg e]
              by_cases e3 : j = i
              · subst e3; exact befl q hq hb
              · rw [if_neg e3] at hlj
                exact hcl j oj hoj hlj q hq hb)
      simp only [wpOp, ho]
      split
      · rename_i hw
        rw [if_pos hw] at hrun
        exact .inl hrun
      · rename_i hw
        rw [if_neg hw] at hrun
        exact hrun
end
end Go.Cx
/- CxDraw6 -/
namespace Go.Cx
open Go
theorem mem_zip {α : Type} {l : List α} {x : α} {i : Nat} : (x, i) ∈ l.zipIdx ↔ l[i]? = some x := List.mem_zipIdx_iff_getElem?
theorem zip_rising {α β : Type} {f : α → β} : ∀ (l : List α) (k : Nat), ((l.zipIdx k).map fun p => (p.2, f p.1)).Pairwise (fun p q => p.1 < q.1) ∧ ∀ p ∈ (l.zipIdx k).map (fun p => (p.2, f p.1)), k ≤ p.1 := by
  intro l
  induction l with
  | nil => intro k; simp
  | cons x l ih =>
    intro k
    obtain ⟨h1, h2⟩ := ih (k + 1)
    simp only [List.zipIdx_cons, List.map_cons, List.pairwise_cons]
    refine ⟨⟨fun p hp => ?_, h1⟩, fun p hp => ?_⟩
    · have := h2 p hp
      show k < p.1
      omega
    · rcases List.mem_cons.1 hp with rfl | hp
      · exact Nat.le_refl _
      · have := h2 p hp
        omega
section
variable {P : Program} {G : List (Nat × V)} {pure : Nat → Bool} {X : Fix} {E : List (Nat × Ctr)} {ops : Array Oper}
theorem hOfs_mem {t : Nat → V} {j : Nat} : ∀ {r : List Nat}, j ∈ hOfs t r ↔ ∃ n ∈ r, j ∈ hOf (t n)
  | [] => by simp [hOfs]
  | n :: r => by simp [hOfs, hOfs_mem (r := r)]
def mkOf (t : Nat → V) (b : Array Nat) (l : List IOper) (i : Nat) : Msk := match l[i]? with
  | some o => ((mskD b l o i).msk t).2
  | none => ⟨[], none⟩
theorem mskOk_mem : ∀ {l : List (IOper × Msk)}, mskOk l = true → ∀ x ∈ l, ∀ j ∈ mayMake x.1, j ∉ x.2.m
  | [], _, x, hx => by simp at hx
  | y :: r, h, x, hx => by
    simp only [mskOk, Bool.and_eq_true, List.all_eq_true, Bool.not_eq_true', List.contains_eq_mem, decide_eq_false_iff_not] at h
    rcases List.mem_cons.1 hx with rfl | hx
    · exact h.1
    · exact mskOk_mem h.2 x hx
theorem drawOk_spec {b : Array Nat} {t : Nat → V} (h1 : drawOk b (ops.toList.map (compOper P pure ops)) = true) (h2 : befOk b ops = true) (h3 : mskOk ((masks b (ops.toList.map (compOper P pure ops))).map (DOp.msk t)) = true) :
    DrawOk P pure ops b (mkOf t b (ops.toList.map (compOper P pure ops))) := by
  have hl : ∀ {i : Nat} {o : Oper}, ops[i]? = some o → (compOper P pure ops o, i) ∈ (ops.toList.map (compOper P pure ops)).zipIdx := fun {i o} h => by
    rw [mem_zip, List.getElem?_map, Array.getElem?_toList, h]; rfl
  have hmk : ∀ {i : Nat} {o : Oper}, ops[i]? = some o → mkOf t b (ops.toList.map (compOper P pure ops)) i = ((mskD b (ops.toList.map (compOper P pure ops)) (compOper P pure ops o) i).msk t).2 := fun {i o} h => by
    have : (ops.toList.map (compOper P pure ops))[i]? = some (compOper P pure ops o) := by rw [List.getElem?_map, Array.getElem?_toList, h]; rfl
    simp only [mkOf, this]
  have hown : ∀ {i : Nat} {o : Oper}, ops[i]? = some o → ∀ j ∈ mayMake (compOper P pure ops o), j ∉ (mkOf t b (ops.toList.map (compOper P pure ops)) i).m := fun {i o} h j hj => by
    have hm : (mskD b (ops.toList.map (compOper P pure ops)) (compOper P pure ops o) i).msk t ∈ (masks b (ops.toList.map (compOper P pure ops))).map (DOp.msk t) :=
      List.mem_map.2 ⟨_, List.mem_map.2 ⟨_, hl h, rfl⟩, rfl⟩
    rw [hmk h]
    exact mskOk_mem h3 _ hm j hj
  have hapart : ∀ (q i : Nat) (oq oi : Oper), q < i → ops[q]? = some oq → ops[i]? = some oi → bef b q i = false → ApartS (compOper P pure ops oq) (compOper P pure ops oi) := fun q i oq oi hlt hq hi hb => by
    simp only [drawOk, List.all_eq_true] at h1
    have := h1 _ (hl hi) _ (hl hq)
    simp only [hb, Bool.or_false, Bool.or_eq_true, Bool.not_eq_true', decide_eq_false_iff_not] at this
    exact apartO_spec (this.resolve_left (fun e => e hlt))
  have hbef : ∀ (i : Nat) (o : Oper), ops[i]? = some o → (∀ e ∈ o.after, Region.binds .any e = true → e.on < i) ∧
      ∀ q, q < ops.size → bef b q i = true → q < i ∧ ∃ e ∈ o.after, Region.binds .any e = true ∧ (q = e.on ∨ bef b q e.on = true) := fun i o ho => by
    simp only [befOk, List.all_eq_true] at h2
    have h3 := h2 (o, i) (by rw [mem_zip, Array.getElem?_toList]; exact ho)
    simp only [Bool.and_eq_true, List.all_eq_true, List.mem_range, Array.mem_toList_iff, Bool.or_eq_true, Bool.not_eq_true', decide_eq_true_eq, List.any_eq_true, beq_iff_eq] at h3
    obtain ⟨h4, h5⟩ := h3
    refine ⟨fun e he hb => ?_, fun q hq hb => ?_⟩
    · rcases h4 e he with h | h
      · rw [hb] at h; cases h
      · exact h
    · rcases h5 q hq with h | ⟨h, e, he, hbd, hor⟩
      · rw [hb] at h; cases h
      · exact ⟨h, e, he, hbd, hor⟩
  have hseen : ∀ {q i : Nat}, q ≠ i → bef b q i = false → bef b i q = false → seen b i q = true := fun {q i} h1 h2 h3 => by
    simp [seen, h2, h3, Ne.symm h1]
  have hsub : ∀ (q i : Nat) (oq oi : Oper), q ≠ i → ops[q]? = some oq → ops[i]? = some oi → bef b q i = false → bef b i q = false → ∀ j ∈ mayMake (compOper P pure ops oq), j ∈ (mkOf t b (ops.toList.map (compOper P pure ops)) i).m := fun q i oq oi hne hq hi hb1 hb2 j hj => by
    rw [hmk hi]
    simp only [DOp.msk, mskD, List.mem_append]
    refine .inl ?_
    split
    · simp only [msk, List.mem_flatMap]
      refine ⟨(compOper P pure ops oq, q), hl hq, ?_⟩
      rw [if_pos (hseen hne hb1 hb2)]
      exact List.mem_append.2 (.inl hj)
    · simp only [List.mem_flatMap]
      refine ⟨(compOper P pure ops oq, q), hl hq, ?_⟩
      rw [if_pos (hseen hne hb1 hb2)]
      exact hj
  -- one that writes, beside one that looks
  have hwr : ∀ (q i : Nat) (oq oi : Oper), q ≠ i → ops[q]? = some oq → ops[i]? = some oi → bef b q i = false → bef b i q = false → cls (compOper P pure ops oi).o = .n → cls (compOper P pure ops oq).o = .w →
      ∃ l, (mkOf t b (ops.toList.map (compOper P pure ops)) q).w = some l ∧ ∀ j ∈ l, j ∈ (mkOf t b (ops.toList.map (compOper P pure ops)) i).m := fun q i oq oi hne hq hi hb1 hb2 c1 c2 => by
    have hw : watch b (ops.toList.map (compOper P pure ops)) q (compOper P pure ops oq) = true := by
      simp only [watch, c2, beq_self_eq_true, Bool.true_and, List.any_eq_true, Bool.and_eq_true, beq_iff_eq]
      exact ⟨(compOper P pure ops oi, i), hl hi, hseen (Ne.symm hne) hb2 hb1, c1⟩
    rw [hmk hq, hmk hi]
    refine ⟨(footX (ops.toList.map (compOper P pure ops)) q (compOper P pure ops oq)).1 ++ hOfs t (footX (ops.toList.map (compOper P pure ops)) q (compOper P pure ops oq)).2, ?_, fun j hj => ?_⟩
    · simp only [DOp.msk, mskD, hw, if_true]
    · simp only [DOp.msk, mskD, c1, beq_self_eq_true, if_true, List.mem_append]
      rcases List.mem_append.1 hj with hj | hj
      · left
        simp only [msk, List.mem_flatMap]
        refine ⟨(compOper P pure ops oq, q), hl hq, ?_⟩
        rw [if_pos (hseen hne hb1 hb2)]
        refine List.mem_append.2 (.inr ?_)
        simp only [c2, beq_self_eq_true, if_true]
        exact hj
      · right
        obtain ⟨n, hn, hj⟩ := hOfs_mem.1 hj
        refine hOfs_mem.2 ⟨n, ?_, hj⟩
        simp only [mskT, c1, beq_self_eq_true, if_true, List.mem_flatMap]
        refine ⟨(compOper P pure ops oq, q), hl hq, ?_⟩
        simp only [hseen hne hb1 hb2, c2, beq_self_eq_true, Bool.and_self, if_true]
        exact hn
  have hback : ∀ (q i : Nat) (oq : Oper), q < i → i < ops.size → ops[q]? = some oq → bef b i q = false := fun q i oq hlt hi hq => by
    cases hb : bef b i q with
    | false => rfl
    | true =>
      have := ((hbef q oq hq).2 i hi hb).1
      omega
  have lt_of : ∀ {i : Nat} {o : Oper}, ops[i]? = some o → i < ops.size := fun h => (Array.getElem?_eq_some_iff.1 h).1
  refine ⟨fun i o ho => (hbef i o ho).1, fun i q o ho => (hbef i o ho).2 q, fun i o ho => hown ho, fun q i oq oi hlt hq hi hb => ?_⟩
  have hb2 := hback q i oq hlt (lt_of hi) hq
  have ha := hapart q i oq oi hlt hq hi hb
  refine ⟨⟨ha.xd, ha.yd, ?_, ha.dj, hown hq, hown hi⟩, hsub q i oq oi (by omega) hq hi hb hb2, hsub i q oi oq (by omega) hi hq hb2 hb⟩
  show cls (compOper P pure ops oq).o = .p ∨ cls (compOper P pure ops oi).o = .p ∨ _
  have hcl : cls (compOper P pure ops oq).o = .p ∨ cls (compOper P pure ops oi).o = .p ∨ cls (compOper P pure ops oq).o = .n ∨ cls (compOper P pure ops oi).o = .n := ha.cl
  show cls (compOper P pure ops oq).o = .p ∨ cls (compOper P pure ops oi).o = .p ∨ (cls (compOper P pure ops oq).o = .n ∧ cls (compOper P pure ops oi).o = .n) ∨ (cls (compOper P pure ops oq).o = .n ∧ ∃ l, (mkOf t b (ops.toList.map (compOper P pure ops)) i).w = some l ∧ ∀ j ∈ l, j ∈ (mkOf t b (ops.toList.map (compOper P pure ops)) q).m) ∨
    (cls (compOper P pure ops oi).o = .n ∧ ∃ l, (mkOf t b (ops.toList.map (compOper P pure ops)) q).w = some l ∧ ∀ j ∈ l, j ∈ (mkOf t b (ops.toList.map (compOper P pure ops)) i).m)
  have w1 := hwr i q oi oq (by omega) hi hq hb2 hb
  have w2 := hwr q i oq oi (by omega) hq hi hb hb2
  generalize cls (compOper P pure ops oq).o = c1 at hcl w1 w2 ⊢
  generalize cls (compOper P pure ops oi).o = c2 at hcl w1 w2 ⊢
  cases c1 <;> cases c2
  · exact .inl rfl
  · exact .inl rfl
  · exact .inl rfl
  · exact .inr (.inl rfl)
  · exact .inr (.inr (.inl ⟨rfl, rfl⟩))
  · exact .inr (.inr (.inr (.inl ⟨rfl, w1 rfl rfl⟩)))
  · exact .inr (.inl rfl)
  · exact .inr (.inr (.inr (.inr ⟨rfl, w2 rfl rfl⟩)))
  · rcases hcl with h | h | h | h <;> cases h
theorem dreg_sound {s : St} {a : Act} {w : World} (hm : P.follows .mixedOrders = true) (hG : GOk G X) (hE : EnvSound P G pure E) {A : List (Nat × Ann)} {Q : Ex → St → Prop} {id : Nat} {keep : List Nat} {b : Array Nat} (hok : ∀ o ∈ ops.toList, OpOk X ops o)
    (h1 : drawOk b (ops.toList.map (compOper P pure ops)) = true) (h2 : befOk b ops = true) (hRA : RA X s a w)
    (h : run apf E A (.dreg keep (masks b (ops.toList.map (compOper P pure ops)))) Q s) : (Code.region id ops true).wp P (toQ X Q) a w := by
  obtain ⟨h3, h⟩ := h
  have hD := drawOk_spec h1 h2 h3
  have hRA2 : RA X s a { w with drawn := w.drawn + 1 } := by
    obtain ⟨⟨I, ρ, ow, hr⟩, hdf⟩ := hRA
    exact ⟨⟨I, ρ, ow, hr.grow (Only.drew w none)⟩, hdf⟩
  refine wp_region_any hm (draw_any hD hG hE hok (Q := toQ X Q) (K := fun s' => Q .nrm ⟨keepT s'.t keep, s'.h⟩) (fun _ _ _ hk hr => ⟨_, hk, hr.keep keep⟩) ops.size (ops.toList.zipIdx.map fun p => (p.2, p.1)) (Array.replicate ops.size false)
    (by simp) (by simp) (fun p hp => ?_) (zip_rising (f := fun x => x) ops.toList 0).1 (fun i hi => ?_) (fun i o ho hl => ?_) hRA2 ?_)
  · obtain ⟨⟨o, i⟩, ho, rfl⟩ := List.mem_map.1 hp
    rw [mem_zip, Array.getElem?_toList] at ho
    exact ho
  · simp only [Array.getD_eq_getD_getElem?, Array.getElem?_replicate, hi, if_true, Option.getD_some, true_iff, List.map_map, List.mem_map]
    refine ⟨(ops[i], i), ?_, rfl⟩
    rw [mem_zip, Array.getElem?_toList]
    exact Array.getElem?_eq_getElem hi
  · have hi := (Array.getElem?_eq_some_iff.1 ho).1
    simp [Array.getD_eq_getD_getElem?, hi] at hl
  · have e : (ops.toList.zipIdx.map fun p => (p.2, p.1)).map (fun p : Nat × Oper => (compOper P pure ops p.2, mkOf s.t b (ops.toList.map (compOper P pure ops)) p.1)) = (masks b (ops.toList.map (compOper P pure ops))).map (DOp.msk s.t) := by
      simp only [masks, List.zipIdx_map, List.map_map]
      apply map_congr'
      rintro ⟨o, i⟩ hm
      rw [mem_zip, Array.getElem?_toList] at hm
      have hg : (ops.toList.map (compOper P pure ops))[i]? = some (compOper P pure ops o) := by rw [List.getElem?_map, Array.getElem?_toList, hm]; rfl
      show (compOper P pure ops o, mkOf s.t b (ops.toList.map (compOper P pure ops)) i) = _
      simp only [mkOf, hg]
      rfl
    rw [e]
    exact h
end
end Go.Cx
