/-
  What the laws of this claim stand on, part C: proved parts, no statement of its own.
-/
import Derived.Test.YtojllgpnhaaagaaDoorMerPB
import Derived.Laws.IdiomStrings
import Derived.Laws.IdiomCopy
/- CxOp11 -/
namespace Go.Cx
open Go
section
variable {X : Fix} {I : Nat → Prop} {ρ : Rho} {ow : Own} {s : St} {tm : Array Value} {w : World}
/-- a block is told otherwise, nothing turned -/
theorem Rep.rewrite (h : Rep X I ρ ow s tm w) {hd : Nat} {c c2 : V} {l : Lo} (hh : s.h hd = some ⟨.own, c⟩) (hl : ρ hd = some l) (hB : BRep I w ρ ow hd l ⟨.own, c2⟩) : Rep X I ρ ow ⟨s.t, upd s.h hd (some ⟨.own, c2⟩)⟩ tm w :=
  { h with
    owf := fun b q hb => by
      obtain ⟨h1, h2, hh', r, c0, h3, h4⟩ := h.owf b q hb
      refine ⟨h1, h2, hh', r, ?_⟩
      by_cases e : hh' = hd
      · subst e; exact ⟨c2, h3, by simp [upd]⟩
      · exact ⟨c0, h3, by simp only [upd_ne _ _ e, h4]⟩
    dom := fun i l hi hi2 => by
      by_cases e : i = hd
      · subst e; simp [upd]
      · simp only [upd_ne _ _ e]; exact h.dom i l hi hi2
    heap := fun hd' blk' hh' => by
      by_cases e : hd' = hd
      · subst e
        simp only [upd_same, Option.some.injEq] at hh'
        subst hh'
        exact ⟨l, hl, hB⟩
      · simp only [upd_ne _ _ e] at hh'
        exact h.heap hd' blk' hh' }
end
section
variable {P : Program} {pure : Nat → Bool} {X : Fix} {I : Nat → Prop} {ρ : Rho} {ow : Own} {s : St} {a : Act} {w : World} {o : Oper}
theorem step_appT (h : Rep X I ρ ow s a.tmps w) (hd : dstOk X o) {t u el : TypeId} {x y : Operand} {ix iy : IX} (ho : o.op = .call { callee := .builtin .append, args := #[x, y], argTypes := #[t, u] })
    (ht : P.underlying t = some (.slice el)) (hu : P.underlying u = some .string) (hk : EkOk P el (.i .u8)) (hb1 : byt P el = 1) (hx : opIX x = some ix) (hy : opIX y = some iy) {e : Eff} {E : List (Nat × Ctr)}
    (he : (stepR apf E s.t s.h o.dst (.appT ix iy)).to e) : StepOk P X o a w s e := by
  simp only [stepR] at he
  split at he
  · rename_i l e1
    have hvy := ev_rep h hy
    rw [e1] at hvy
    obtain ⟨hy1, hy2, hy3⟩ := vr_str hvy
    obtain ⟨d, hdst, hn, he⟩ := fresh_to he
    obtain ⟨g1, g2⟩ := Apd.string (P := P) (w := w) (I := I) hu hy3
    rw [← hy1] at g1
    refine app_all (k := .i .u8) (m := l.length) (cy := .ints .u8 l.length l) (r := 85) h hd hdst hn ho ht hk (by omega) hx g1 (by simp [EK.size]) (fun v hv => ?_) ⟨rfl, rfl⟩ g2 ?_
    · simp only [List.mem_map] at hv
      obtain ⟨n, _, rfl⟩ := hv
      rfl
    · rw [hb1]
      exact he
  · exact he.elim
theorem step_s2b (h : Rep X I ρ ow s a.tmps w) (hd : dstOk X o) {t u el : TypeId} {x : Operand} {ix : IX} (ho : o.op = .convert t u x) (ht : P.underlying t = some .string) (hu : P.underlying u = some (.slice el)) (hel : P.underlying el = some (.int .u8))
    (hx : opIX x = some ix) {e : Eff} {E : List (Nat × Ctr)} (he : (stepR apf E s.t s.h o.dst (.s2b ix)).to e) : StepOk P X o a w s e := by
  simp only [stepR] at he
  split at he
  · rename_i l e1
    have hv := ev_rep h hx
    rw [e1] at hv
    obtain ⟨h1, h2, h3⟩ := vr_str hv
    obtain ⟨d, hdst, hn, he⟩ := fresh_to he
    cases he
    have hrun := run_bytes_of_string (P := P) w t u el (toBA l) ht hu hel
    rw [toBA_size] at hrun
    have hge := grownCap_ge w l.length 0 el
    have hle := grownCap_le_maxLen w l.length 0 el h2
    generalize grownCap w l.length 0 el = cap at hrun hge hle
    have hsz : (bytesRow (toBA l) cap).size = cap := by
      have e1 : (toBA l).data.size = l.length := by simp [toBA]
      simp only [bytesRow, Array.size_append, Array.size_map, Array.size_replicate, toBA_size, e1]
      omega
    refine stepNew h hd hdst hn (Only.drew w none) (ty := el) (fr := ((bytesRow (toBA l) cap).size, (bytesRow (toBA l) cap).size + 1)) (.inr (Nat.le_refl _)) (cs := bytesRow (toBA l) cap) rfl ⟨rfl, h3, fun j hj => ?_⟩
      (x := .slice (some ⟨w.heap.size, 0, none⟩) l.length cap) (by simp [execOp, ho, h1, hrun]) (fun _ _ _ hρ => sl_new hρ hge hle (by rw [hsz]; omega) trivial)
    have hj : j < l.length := hj
    have h5 : (toBA l).data.size = l.length := by simp [toBA]
    have h6 : (toBA l).data.map (fun b => Value.int .u8 b.toNat) = (l.map (Value.int .u8)).toArray := by
      apply Array.ext'
      rw [Array.toList_map, toBA_data, List.map_map]
      simp only
      apply List.map_congr_left
      intro y hy
      simp only [Function.comp]
      rw [ofNat_toNat_u8 (h3 y hy)]
    simp only [bytesRow, h6]
    rw [Array.getElem?_append_left (by simpa using hj)]
    simp [nthI, List.getD_eq_getElem?_getD, hj]
  · exact he.elim
theorem layL_get {l x : List Int} {i j : Nat} (hi : i + x.length ≤ l.length) : (layL l i x)[j]? = if i ≤ j ∧ j < i + x.length then x[j - i]? else l[j]? := by
  simp only [layL]
  by_cases h1 : j < i
  · rw [if_neg (by omega), List.append_assoc, List.getElem?_append_left (by simp; omega), List.getElem?_take, if_pos h1]
  · by_cases h2 : j < i + x.length
    · rw [if_pos (by omega), List.getElem?_append_left (by simp; omega), List.getElem?_append_right (by simp; omega)]
      simp [Nat.min_eq_left (show i ≤ l.length by omega)]
    · rw [if_neg (by omega), List.getElem?_append_right (by simp; omega), List.getElem?_drop]
      congr 1
      simp [Nat.min_eq_left (show i ≤ l.length by omega)]
      omega
theorem layL_len {l x : List Int} {i : Nat} (hi : i + x.length ≤ l.length) : (layL l i x).length = l.length := by
  simp only [layL, List.length_append, List.length_take, List.length_drop]
  omega
theorem layL_in {k : IntKind} {l x : List Int} {i : Nat} (h1 : ∀ y ∈ l, inR k y) (h2 : ∀ y ∈ x, inR k y) : ∀ y ∈ layL l i x, inR k y := by
  intro y hy
  simp only [layL, List.mem_append] at hy
  rcases hy with (hy | hy) | hy
  · exact h1 y (List.mem_of_mem_take hy)
  · exact h2 y hy
  · exact h1 y (List.mem_of_mem_drop hy)
theorem step_cpy (h : Rep X I ρ ow s a.tmps w) (hd : dstOk X o) {t u el : TypeId} {x y : Operand} {k : EK} {ix iy : IX} (ho : o.op = .call { callee := .builtin .copy, args := #[x, y], argTypes := #[t, u] })
    (ht : P.underlying t = some (.slice el)) (hk : EkOk P el k) (hx : opIX x = some ix) (hy : opIX y = some iy) {e : Eff} {E : List (Nat × Ctr)}
    (he : (stepR apf E s.t s.h o.dst (.cpy k ix iy)).to e) : StepOk P X o a w s e := by
  simp only [stepR] at he
  obtain ⟨⟨m, cy⟩, hcy, he⟩ := bind_to he
  have hsl := sliceC_rep h hcy (ev_rep h hy)
  have hvx := ev_rep h hx
  split at he
  · rename_i hd' p i n ee cap k2 m2 l2 e1 e2
    simp only at e2 he
    subst e2
    split at he
    · rename_i c hh
      obtain ⟨c', hat, he⟩ := bind_to he
      split at he
      · rename_i k1 n1 l1
        obtain ⟨hkk, hin, he⟩ := rif_to he
        obtain ⟨c2, hput, he⟩ := bind_to he
        cases he
        simp only [Bool.and_eq_true, beq_iff_eq] at hkk
        obtain ⟨rfl, rfl⟩ := hkk
        have hin : i + n ≤ n1 := hin
        rw [e1] at hvx
        obtain ⟨⟨ad2, cp2, s1, s2, s3, s4, s5⟩, hrow⟩ := hsl
        obtain ⟨rfl, hk1⟩ := hrow
        simp only at hk1 s1 s2 s3 s4 s5
        obtain ⟨hl2, hr2, hg2⟩ := s5
        obtain ⟨ad, cp, lo, hxe, hlo, hncp, hcpm, _, hplace⟩ := vr_sl hvx
        obtain ⟨i', zv, q1, q2, q3, q4, q5, q6, q7⟩ := hk.i
        have hsz1 : (P.info? el).map (·.size) = some 1 := by rw [q1]; simp [q3, hk1]
        -- the list laid down
        obtain ⟨mn, hmn⟩ : ∃ mn, min m2 n = mn := ⟨_, rfl⟩
        have hmn1 : mn ≤ m2 := by rw [← hmn]; exact Nat.min_le_left _ _
        have hmn2 : mn ≤ n := by rw [← hmn]; exact Nat.min_le_right _ _
        have hmn3 : Nat.min m2 n = mn := hmn
        show StepOk P X o a w s ⟨.int .i64 ((min m2 n : Nat) : Int), [(hd', ⟨.own, c2⟩)]⟩
        have hput : (c.put apf p (.ints k1 n1 (layL l1 i (l2.take (min m2 n))))).to c2 := hput
        rw [hmn] at hput ⊢
        have hxl : (l2.take (mn)).length = mn := by rw [List.length_take]; omega
        have hval : VRep I w ρ (.int .i64 ((mn : Nat) : Int)) (goInt ((mn : Nat) : Int)) := int_vr (inR_len (n := mn) (by omega))
        obtain ⟨lo', hlo', hB⟩ := h.heap _ _ hh
        rw [hlo] at hlo'
        cases hlo'
        -- content over cells that are the old ones with the new laid over
        have key : ∀ (q : List Nat) (g g' : Nat → Option Value), CRep I w ow c ρ q 0 g → (∀ j, j < c.size → g' j = if poff p + i ≤ j ∧ j < poff p + i + mn then some (.int k1 (nthI l2 (j - (poff p + i)))) else g j) → CRep I w ow c2 ρ q 0 g' ∧ c2.size = c.size ∧ poff p + n1 ≤ c.size := by
          intro q g g' hg hg'
          obtain ⟨⟨r1, r2, r3⟩, r4⟩ := at_rep p c hat hg
          have hlen : (layL l1 i (l2.take (mn))).length = n1 := by rw [layL_len (by omega), r1]
          have hx0 : CRep I w ow (.ints k1 n1 (layL l1 i (l2.take (mn)))) ρ q (0 + poff p) (fun j => some (.int k1 (nthI (layL l1 i (l2.take (mn))) j))) :=
            ⟨hlen, layL_in r2 (fun y hy => hr2 y (List.mem_of_mem_take hy)), fun _ _ => rfl⟩
          obtain ⟨t1, t2, t3⟩ := put_rep p c hput hg hx0 (by rintro k n (e | e) <;> cases e)
          refine ⟨CRep.mono (fun _ hb => ⟨hb, rfl⟩) _ _ _ _ _ _ _ (Rho.le_refl _) (fun _ _ _ _ h => ⟨h, rfl⟩) (fun j hj => ?_) t1, t2, t3⟩
          rw [hg' j (by omega)]
          show _ = if poff p ≤ j ∧ j < poff p + n1 then some (Value.int k1 (nthI (layL l1 i (l2.take (mn))) (j - poff p))) else g j
          by_cases h1 : poff p ≤ j ∧ j < poff p + n1
          · rw [if_pos h1]
            have hget := layL_get (l := l1) (x := l2.take (mn)) (i := i) (j := j - poff p) (by omega)
            simp only [nthI, List.getD_eq_getElem?_getD]
            rw [hget, hxl]
            by_cases h2 : poff p + i ≤ j ∧ j < poff p + i + mn
            · rw [if_pos h2, if_pos (by omega), List.getElem?_take, if_pos (by omega)]
              congr 4
              omega
            · rw [if_neg h2, if_neg (by omega)]
              have := r3 (j - poff p) (by omega)
              simp only [show poff p + (j - poff p) = j by omega] at this
              rw [this]
              simp [nthI, List.getD_eq_getElem?_getD]
          · rw [if_neg h1, if_neg (by omega)]
        rcases Nat.eq_zero_or_pos mn with h0 | hpos
        · have hrun := run_copy_none (P := P) w t u o.type el ad ad2 n cp m2 cp2 ht hsz1 (hmn3.trans h0)
          have hr : Rep X I ρ ow ⟨s.t, upd s.h hd' (some ⟨.own, c2⟩)⟩ a.tmps w := by
            refine h.rewrite hh hlo ?_
            rcases hB with ⟨rfl, b1, b2⟩ | ⟨kk, off, sz, cur, rfl, b1, b2, b3, b4⟩
            · obtain ⟨t1, t2, _⟩ := key [] _ (fun _ => none) b2 (fun j hj => by simp only at b1; omega)
              exact .inl ⟨rfl, by simp only at b1 ⊢; omega, t1⟩
            · obtain ⟨t1, t2, _⟩ := key [hd'] _ (fun j => cur[off + j]?) b4 (fun j hj => by rw [if_neg (by omega)])
              exact .inr ⟨kk, off, sz, cur, rfl, b1, b2, b3, t1⟩
          refine .inl ⟨goInt ((mn : Nat) : Int), w, by simp [execOp, ho, Go.resolve, invoke, builtin, hxe, s1, hrun, h0], I, ρ, ow, ?_⟩
          exact hr.putD hd hval
        · obtain ⟨b, off, sz, rfl, rfl, hroom⟩ := hplace.resolve_left (by omega)
          obtain ⟨b2, off2, rfl⟩ := s4.resolve_left (by omega)
          obtain ⟨cur, c1, c2', c3, c4⟩ := own_at h hh hlo
          simp only [Nat.mul_one] at hroom hxe
          have hone : ∀ v ∈ (l2.take (mn)).map (Value.int k1), v.oneCell' = true := fun v hv => by
            simp only [List.mem_map] at hv
            obtain ⟨n, _, rfl⟩ := hv
            rfl
          obtain ⟨w', cur', h9, h10, h11, h12, h13, h14⟩ := run_storeN (P := P) ((l2.take (mn)).map (Value.int k1)) 0 cur w c2' (off := off + (poff p + i)) (by simp only [List.length_map, hxl]; omega) hone
          simp only [List.length_map, hxl, Nat.add_zero] at h14
          have hload := run_loadCells_list (P := P) w ⟨b2, off2, none⟩ ((l2.take (mn)).map (Value.int k1)) (fun j v hv => by
            rw [Addr.add_lit]
            rw [List.getElem?_map, List.getElem?_take] at hv
            by_cases hj : j < mn
            · rw [if_pos hj] at hv
              exact ints_list hg2 hl2 j v (by rw [List.getElem?_map]; exact hv)
            · rw [if_neg hj] at hv; cases hv)
          simp only [List.length_map, hxl] at hload
          have hrun : (Builtin.copy_ #[t, u] o.type #[.slice (some ⟨b, off + (poff p + i), none⟩) n cp, .slice (some ⟨b2, off2, none⟩) m2 cp2]).run P w = .ok (goInt ((mn : Nat) : Int)) w' := by
            simp [Builtin.copy_, run_underlying ht, Builtin.lenOf, Builtin.firstCells, sizeOf, typeInfo, q1, q3, hk1, hmn3, hload, h9, -List.map_take]
          obtain ⟨t1, t2, t3⟩ := key [hd'] _ (fun j => cur'[off + j]?) c4 (fun j hj => by
            rw [h14]
            by_cases h2 : poff p + i ≤ j ∧ j < poff p + i + mn
            · rw [if_pos h2, if_pos (by omega), List.getElem?_map, List.getElem?_take, if_pos (by omega)]
              have : j - (poff p + i) < l2.length := by omega
              rw [show off + j - (off + (poff p + i)) = j - (poff p + i) by omega, List.getElem?_eq_getElem this]
              simp [nthI, List.getD_eq_getElem?_getD, this]
            · rw [if_neg h2, if_neg (by omega)])
          have hr := h.write hh hlo c1 h10 h11 h12 (by omega) t1 (rfl : cur.size = cur.size)
          refine .inl ⟨goInt ((mn : Nat) : Int), w', by simp [execOp, ho, Go.resolve, invoke, builtin, hxe, s1, hrun], I, ρ, ow, ?_⟩
          exact hr.putD hd (int_vr (inR_len (by omega)))
      · exact he.elim
    · exact he.elim
  · exact he.elim
theorem frozen_own {k : Nat} {cur : Array Value} (hb : OwnBlk w k cur) : OwnBlk (w.freeze ⟨k, cur.size, none⟩ 1) k cur ∧ Only w (w.freeze ⟨k, cur.size, none⟩ 1) (some k) ∧ (w.freeze ⟨k, cur.size, none⟩ 1).heap.size = w.heap.size := by
  obtain ⟨ty, ⟨lo, hi⟩, h1, h2⟩ := hb
  have hk := heap_lt h1
  refine ⟨⟨ty, if lo == hi then (cur.size, cur.size + 1) else (min lo cur.size, max hi (cur.size + 1)), ?_, ?_⟩, ⟨rfl, rfl, rfl, by simp [World.freeze], fun j hj hne => ?_⟩, by simp [World.freeze]⟩
  · simp only [World.freeze, Nat.one_ne_zero, if_false, Array.getElem?_modify, h1, if_true, Option.map_some]
  · by_cases e : lo = hi
    · rw [if_pos (by simpa using e)]; exact .inr (Nat.le_refl _)
    · rw [if_neg (by simpa using e)]
      refine .inr ?_
      have h2 : cur.size ≤ lo := h2.resolve_left e
      show cur.size ≤ min lo cur.size
      omega
  · have hne : k ≠ j := fun e => hne (by rw [e])
    simp only [World.freeze, Nat.one_ne_zero, if_false, Array.getElem?_modify]
    rw [if_neg hne]
theorem step_mst (h : Rep X I ρ ow s a.tmps w) (hd : dstOk X o) {t el : TypeId} {x : Operand} {ix : IX} (ho : o.op = .convert t t x) (ht : P.underlying t = some (.slice el)) (hel : P.underlying el = some (.int .u8))
    (hx : opIX x = some ix) {e : Eff} {E : List (Nat × Ctr)} (he : (stepR apf E s.t s.h o.dst (.mst ix)).to e) : StepOk P X o a w s e := by
  have hv := ev_rep h hx
  simp only [stepR] at he
  split at he
  · rename_i hd' p i n e' cap e1
    rw [e1] at hv
    split at he
    · rename_i c hh
      obtain ⟨hn, he⟩ := he
      cases he
      have hn : 0 < n := hn
      obtain ⟨ad, cp, l, h1, h2, h3, h4, _, h6⟩ := vr_sl hv
      obtain ⟨b, off, sz, rfl, rfl, h7⟩ := h6.resolve_left (by omega)
      obtain ⟨l', g1, g2⟩ := h.heap _ _ hh
      rw [h2] at g1
      cases g1
      rcases g2 with ⟨g2, _⟩ | ⟨b', off', sz', cur, g2, g3, g4, g5, g6⟩
      · cases g2
      cases g2
      obtain ⟨k1, k2, k3⟩ := frozen_own g4
      have hw := h.write (cur := cur) hh h2 g3 k2 k3 k1 g5 g6 rfl
      have hII : ∀ y, I y → I y ∧ (w.freeze ⟨b, cur.size, none⟩ 1).heap[y]? = w.heap[y]? := fun y hb => ⟨hb, k2.block y (h.ilt y hb) (fun e => by cases e; rw [h.iow _ hb] at g3; cases g3)⟩
      refine .inl ⟨a.eval x, w.freeze ⟨b, cur.size, none⟩ 1, ?_, I, ρ, ow, ?_⟩
      · obtain ⟨ty, fr, e2, _⟩ := g4
        have hsh : w.shape? b = some (ty, cur.size) := by
          simp only [World.shape?, e2]
        rw [h1]
        simp [execOp, ho, h1, convert, run_underlying ht, run_underlying hel, markStringish, Sem.run, shape, freeze, hsh]
      · have hvx : VRep I (w.freeze ⟨b, cur.size, none⟩ 1) ρ (.sl hd' p i n e' cap) (a.eval x) := hv.mono hII (Rho.le_refl _)
        exact hw.putD (o := o) (a := a) hd hvx
    · exact he.elim
  · exact he.elim
end
end Go.Cx
/- CxOp12 -/
namespace Go.Cx
open Go
section
variable {P : Program} {pure : Nat → Bool} {X : Fix} {I : Nat → Prop} {ρ : Rho} {ow : Own} {s : St} {a : Act} {w : World} {o : Oper}
theorem step_s2a (h : Rep X I ρ ow s a.tmps w) (hd : dstOk X o) {t el : TypeId} {n : Nat} {x : Operand} {ix : IX} (ho : o.op = .sliceToArrayPointer t x) (ht : P.underlying t = some (.array n el)) (hx : opIX x = some ix) {e : Eff} {E : List (Nat × Ctr)}
    (he : (stepR apf E s.t s.h o.dst (.s2a n (sz P el) ix)).to e) : StepOk P X o a w s e := by
  have hv := ev_rep h hx
  simp only [stepR] at he
  split at he
  · rename_i hh p i m e' cap e1
    rw [e1] at hv
    obtain ⟨h0, hlt, he2⟩ := rif_to he
    simp only [Bool.and_eq_true, beq_iff_eq, decide_eq_true_eq] at h0
    obtain ⟨h0, hn⟩ := h0
    subst h0
    have hlt : n ≤ m := hlt
    obtain ⟨ad, c, l, h1, h2, h3, h4, _, h5⟩ := vr_sl hv
    obtain ⟨b, off, sz', rfl, rfl, h6⟩ := h5.resolve_left (by omega)
    cases he2
    refine stepVal h hd (x := .pointer (some ⟨b, off + (poff p + i * sz P el), none⟩)) (by simp [execOp, ho, h1, Instr.arrayAt, run_underlying ht, show ¬ m < n by omega]) ?_
    have := ptr_vr (I := I) (w := w) (p := p ++ [Pt.r i (sz P el) n]) h2
    have e3 : off + (poff p + i * sz P el) = off + poff (p ++ [Pt.r i (sz P el) n]) := by
      simp only [poff_append, poff, Nat.add_zero]
    rw [e3]
    exact this
  · rename_i m e' c e1
    rw [e1] at hv
    obtain ⟨h0, hlt, he2⟩ := rif_to he
    simp only [Bool.and_eq_true, beq_iff_eq, decide_eq_true_eq] at h0
    obtain ⟨h0, hn⟩ := h0
    subst h0
    have hlt : n ≤ m := hlt
    obtain ⟨ad, cp, h1, h2, h3, h4, h5, h6⟩ := vr_dsl hv
    obtain ⟨b, off, rfl, hI⟩ := h6.resolve_left (by omega)
    cases he2
    refine stepVal h hd (x := .pointer (some ⟨b, off, none⟩)) (by simp [execOp, ho, h1, Instr.arrayAt, run_underlying ht, show ¬ m < n by omega]) (leaf_vr rfl rfl rfl ⟨b, off, hI, by simp [poff], ?_⟩)
    exact h5
  · exact he.elim
theorem step_slX (h : Rep X I ρ ow s a.tmps w) (hd : dstOk X o) {t el : TypeId} {x y z : Operand} {ix iy iz : IX} (ho : o.op = .slice t x none (some y) (some z)) (ht : P.underlying t = some (.slice el)) (hz : sz P el ≠ 0)
    (hx : opIX x = some ix) (hy : opIX y = some iy) (hzz : opIX z = some iz) {e : Eff} {E : List (Nat × Ctr)}
    (he : (stepR apf E s.t s.h o.dst (.slX (sz P el) ix iy iz)).to e) : StepOk P X o a w s e := by
  have hv := ev_rep h hx
  simp only [stepR] at he
  obtain ⟨b, hb, he⟩ := bind_to he
  obtain ⟨m, hm, heq, he⟩ := bind_to he
  have heq : m = b := heq
  subst heq
  obtain ⟨k1, z1, g1, g2, g3⟩ := nat_to hb (ev_rep h hy)
  obtain ⟨k2, z2, g4, g5, g6⟩ := nat_to hm (ev_rep h hzz)
  have run : ∀ ad n cp, a.eval x = .slice ad n cp → m ≤ cp → (execOp a.eval o).run P w = .ok (.value (.slice ad m m)) w := by
    intro ad n cp hs hc
    have c1 : 0 ≤ z2 ∧ z2 ≤ (cp : Int) := ⟨g5, by omega⟩
    have c2 : 0 ≤ z1 ∧ z1 ≤ (z2.toNat : Int) := ⟨g2, by omega⟩
    have e1 : z1.toNat = m := g3.symm
    have e2 : z2.toNat = m := g6.symm
    rw [e2] at c2
    have hb : (Instr.sliceBounds true n cp none (some (a.eval y)) (some (a.eval z))).run P w = .ok (0, m, m) w := by
      simp [Instr.sliceBounds, Instr.sliceBound, asIntOf, g1, g4, c1, c2, e1, e2]
    by_cases h0 : m = 0
    · subst h0
      simp [execOp, ho, hs, Instr.sliceAt, Instr.slice, run_underlying ht, hb, sizeOf_run hz]
    · cases ad <;> simp [execOp, ho, hs, Instr.sliceAt, Instr.slice, run_underlying ht, hb, sizeOf_run hz, h0, Addr.add]
  split at he
  · rename_i hh p i n e' cap e1
    rw [e1] at hv
    obtain ⟨h0, hlt, he2⟩ := rif_to he
    have h0 : sz P el = e' := by simpa using h0
    subst h0
    have hlt : m ≤ n := hlt
    obtain ⟨ad, c, l, h1, h2, h3, h4, _, h5⟩ := vr_sl hv
    cases he2
    refine stepVal h hd (run _ _ _ h1 (by omega)) (leaf_vr rfl rfl rfl ⟨ad, m, l, rfl, h2, Nat.le_refl _, by omega, rfl, ?_⟩)
    rcases h5 with h5 | ⟨b, off, sz', e2, e3, h6⟩
    · exact .inl (by omega)
    · refine .inr ⟨b, off, sz', e2, e3, ?_⟩
      have : m * sz P el ≤ c * sz P el := Nat.mul_le_mul_right _ (by omega)
      omega
  · rename_i n e' c e1
    rw [e1] at hv
    obtain ⟨h0, hlt, he2⟩ := rif_to he
    have h0 : sz P el = e' := by simpa using h0
    subst h0
    have hlt : m ≤ n := hlt
    obtain ⟨c', hc', he3⟩ := bind_to he2
    cases he3
    obtain ⟨ad, cp, h1, h2, h3, h4, h5, h6⟩ := vr_dsl hv
    refine stepVal h hd (run _ _ _ h1 (by omega)) ?_
    obtain ⟨h8, h9⟩ := subs_rep (ρ := noR) hc' h4 (by omega) h5
    simp only [Nat.zero_mul, Nat.zero_add] at h9
    exact dsl_vr (Nat.le_refl _) (by omega) h8 h9 (h6.imp (fun h => by omega) id)
  · exact he.elim
theorem step_appz (h : Rep X I ρ ow s a.tmps w) (hd : dstOk X o) {t u el : TypeId} {x y : Operand} {k : EK} {ik : IntKind} {ix iy : IX} (ho : o.op = .call { callee := .builtin .append, args := #[x, y], argTypes := #[t, u] })
    (ht : P.underlying t = some (.slice el)) (hu : P.underlying u = some (.int ik)) (hk : EkOk P el k) (hpos : 0 < byt P el) (hx : opIX x = some ix) (hy : opIX y = some iy) {e : Eff} {E : List (Nat × Ctr)}
    (he : (stepR apf E s.t s.h o.dst (.appz k (byt P el) ix iy)).to e) : StepOk P X o a w s e := by
  simp only [stepR] at he
  obtain ⟨d, hdst, hn, he⟩ := fresh_to he
  obtain ⟨m, hm, he⟩ := bind_to he
  obtain ⟨k', z, g1, g2, rfl⟩ := nat_to hm (ev_rep h hy)
  obtain ⟨i, zv, h1, h2, h3, h4, h5, h6, h7⟩ := hk.i
  have hbi : byt P el = i.bytes := by simp [byt, h1]
  have hbound : z.toNat * byt P el ≤ 140737488355328 := by
    split at he
    · exact he.1
    · exact he.1
    · rename_i hd' p j n e' cap e1
      obtain ⟨⟨n', cx⟩, _, he⟩ := bind_to he
      obtain ⟨c, _, hb, _⟩ := bind_to he
      have hb : (n + z.toNat) * byt P el ≤ 140737488355328 := hb
      rw [Nat.add_mul] at hb
      omega
    · exact he.elim
  have hle : z.toNat ≤ z.toNat * byt P el := Nat.le_mul_of_pos_right _ hpos
  have hbound2 := hbound
  rw [hbi] at hbound2
  obtain ⟨m, rfl⟩ : ∃ m : Nat, z = m := ⟨z.toNat, by omega⟩
  rw [Int.toNat_natCast] at he hbound hbound2 hle
  have hzs : zv.cells.size = k.size := by rw [h5]
  have hl0 : (Builtin.zeroCells zv.cells m).toList.length = m * k.size := by
    rw [Array.length_toList, size_zeroCells', hzs]
  have hap : Apd P w el u (a.eval y) k.size m (Builtin.zeroCells zv.cells m).toList := .inr ⟨ik, k', i, zv, hu, g1, h1, h2, hbound2, by omega, fun h0 => by
    rw [← h3] at hl0
    rw [h0] at hl0
    exact List.eq_nil_of_length_eq_zero hl0, rfl⟩
  have hmc : Builtin.zeroCells zv.cells m = madeCells zv.cells (m * k.size) := by rw [← hzs]; rfl
  obtain ⟨m1, m2⟩ := made_rep (I := I) (w := w) (el := el) (i := i) h5 (by omega) (fun kk hh => (h6 kk hh).1) h7 m rfl rfl
  have hrow : isRow k.size m (zerosC apf k m) := by cases k <;> exact ⟨rfl, rfl⟩
  have hc : CRep I w (fun _ => none) (zerosC apf k m) noR [] 0 ((Builtin.zeroCells zv.cells m).toList[·]?) := by
    rw [hmc]
    have e0 : (fun j : Nat => (madeCells zv.cells (m * k.size)).toList[j]?) = fun j : Nat => (madeCells zv.cells (m * k.size))[j]? := by funext j; simp
    rw [e0]
    cases k with
    | i kk' =>
      refine ⟨by simp [apf, zerosI], ?_, fun j hj => ?_⟩
      · intro y hy
        have := List.eq_of_mem_replicate hy
        subst this
        exact inR_zero kk'
      · have := (m1 j hj).1
        simp only [EK.size, Nat.mul_one, Nat.add_zero] at this ⊢
        rw [this]
        simp [apf, zerosI, nthI, List.getD_eq_getElem?_getD, hj]
    | o e z => exact fun j hj => ⟨m2 e z rfl, (m1 j hj).noow⟩
  have hone : ∀ v ∈ (Builtin.zeroCells zv.cells m).toList, v.oneCell' = true := fun v hv => by
    obtain ⟨j, hj⟩ := List.mem_iff_getElem?.1 hv
    have hlt : j < (Builtin.zeroCells zv.cells m).toList.length := (List.getElem?_eq_some_iff.1 hj).1
    have hsz : (zerosC apf k m).size = m * k.size := isRow_size hrow
    obtain ⟨y, h1, h2⟩ := CRep.cells _ _ _ _ _ hc j (by rw [hsz]; omega)
    have h1 : (Builtin.zeroCells zv.cells m).toList[j]? = some y := h1
    rw [hj] at h1
    cases h1
    exact h2
  exact app_all h hd hdst hn ho ht hk hpos hx hap hl0 hone hrow hc he
end
end Go.Cx
/- CxOp13 -/
namespace Go.Cx
open Go
def LV.val : LV → Value
  | .b x => .bool x
  | .i k n => .int k n
  | .s l => .string (toBA l)
def LV.lit : LV → Lit
  | .b x => .bool x
  | .i k n => .int k n
  | .s l => .string (toBA l).data.toList
def LV.wf : LV → Prop
  | .b _ => True
  | .i k n => inR k n
  | .s l => l.length ≤ maxLen ∧ ∀ y ∈ l, inR .u8 y
theorem lit_inj {a b : LV} (ha : a.wf) (hb : b.wf) (h : a.lit = b.lit) : a = b := by
  cases a <;> cases b <;> simp only [LV.lit] at h <;> first | (cases h; done) | (cases h; rfl) | skip
  rename_i l m
  have h1 : (toBA l).data.toList = (toBA m).data.toList := by simpa using h
  have : bytesI (toBA l) = bytesI (toBA m) := by unfold bytesI; rw [h1]
  rw [bytesI_toBA ha.2, bytesI_toBA hb.2] at this
  rw [this]
theorem lits_inj : ∀ {a b : List LV}, (∀ x ∈ a, x.wf) → (∀ x ∈ b, x.wf) → (a.map LV.lit = b.map LV.lit ↔ a = b)
  | [], [], _, _ => by simp
  | [], _ :: _, _, _ => by simp
  | _ :: _, [], _, _ => by simp
  | x :: a, y :: b, ha, hb => by
    simp only [List.map_cons, List.cons.injEq]
    rw [lits_inj (fun z hz => ha z (by simp [hz])) (fun z hz => hb z (by simp [hz]))]
    constructor
    · rintro ⟨h1, h2⟩; exact ⟨lit_inj (ha x (by simp)) (hb y (by simp)) h1, h2⟩
    · rintro ⟨rfl, rfl⟩; exact ⟨rfl, rfl⟩
/-- rows of one length, one behind the other -/
theorem flat_at {α : Type} {f : Nat → List α} {e : Nat} : ∀ {n : Nat}, (∀ j, j < n → (f j).length = e) → ((List.range n).flatMap f).length = n * e ∧ ∀ j r, j < n → r < e → ((List.range n).flatMap f)[j * e + r]? = (f j)[r]?
  | 0, _ => ⟨by simp, fun j r hj => by omega⟩
  | n + 1, h => by
    obtain ⟨h1, h2⟩ := flat_at (n := n) fun j hj => h j (by omega)
    rw [List.range_succ, List.flatMap_append]
    simp only [List.flatMap_cons, List.flatMap_nil, List.append_nil]
    have hn := h n (by omega)
    refine ⟨by rw [List.length_append, h1, hn, Nat.add_mul]; omega, fun j r hj hr => ?_⟩
    by_cases hjn : j < n
    · have hlt : j * e + r < n * e := by
        have := Nat.mul_le_mul_right e (show j + 1 ≤ n from hjn)
        rw [Nat.add_mul] at this; omega
      rw [List.getElem?_append_left (by omega)]
      exact h2 j r hjn hr
    · obtain rfl : j = n := by omega
      rw [List.getElem?_append_right (by omega), h1]
      congr 1; omega
section
variable {P : Program} {X : Fix} {I : Nat → Prop} {ρ : Rho} {ow : Own} {s : St} {a : Act} {w : World} {o : Oper}
theorem lits_rep : ∀ (v : V) {ρ : Rho} {q : List Nat} {pos : Nat} {g : Nat → Option Value}, litOkP v → CRep I w ow v ρ q pos g → (litsV v).length = v.size ∧ (∀ x ∈ litsV v, x.wf) ∧ ∀ j, j < v.size → g j = ((litsV v)[j]?).map LV.val := by
  intro v
  have one : ∀ {x : LV} {g : Nat → Option Value}, g 0 = some x.val → ∀ j, j < 1 → g j = (([x] : List LV)[j]?).map LV.val := fun h j hj => by
    obtain rfl : j = 0 := by omega
    simpa using h
  induction v with
  | tt => intro ρ q pos g _ h; exact ⟨rfl, by simp [litsV, LV.wf], one h⟩
  | ff => intro ρ q pos g _ h; exact ⟨rfl, by simp [litsV, LV.wf], one h⟩
  | bool b => intro ρ q pos g _ h; exact ⟨rfl, by simp [litsV, LV.wf], one h⟩
  | lit k n => intro ρ q pos g _ h; exact ⟨rfl, by simpa [litsV, LV.wf] using h.2, one h.1⟩
  | int k n => intro ρ q pos g _ h; exact ⟨rfl, by simpa [litsV, LV.wf] using h.2, one h.1⟩
  | str l => intro ρ q pos g _ h; exact ⟨rfl, by simpa only [litsV, List.mem_singleton, forall_eq, LV.wf] using h.2, one h.1⟩
  | ints k n l =>
    intro ρ q pos g _ h
    refine ⟨by simpa [litsV, V.size] using h.1, ?_, fun j hj => ?_⟩
    · intro x hx
      obtain ⟨y, hy, rfl⟩ := List.mem_map.1 hx
      exact h.2.1 y hy
    · simp only [V.size] at hj
      rw [h.2.2 j hj]
      have : j < l.length := by rw [h.1]; exact hj
      simp [litsV, LV.val, nthI, List.getD_eq_getElem?_getD, List.getElem?_eq_getElem this]
  | cat n m a b iha ihb =>
    intro ρ q pos g hok h
    obtain ⟨h1, h2, h3, h4⟩ := h
    obtain ⟨a1, a2, a3⟩ := iha hok.1 h3
    obtain ⟨b1, b2, b3⟩ := ihb hok.2 h4
    refine ⟨by simp only [litsV, List.length_append, V.size]; omega, fun x hx => (List.mem_append.1 hx).elim (a2 x) (b2 x), fun j hj => ?_⟩
    simp only [V.size] at hj
    simp only [litsV]
    by_cases hlt : j < n
    · rw [List.getElem?_append_left (by omega)]
      exact a3 j (by omega)
    · rw [List.getElem?_append_right (by omega)]
      have := b3 (j - n) (by omega)
      rw [show n + (j - n) = j by omega] at this
      rw [this, a1, h1]
  | rows e n f ih =>
    intro ρ q pos g hok h
    have each := fun j hj => ih j (hok j hj) (h j hj).2
    obtain ⟨f1, f2⟩ := flat_at (f := fun j => litsV (f j)) (e := e) (n := n) fun j hj => by rw [(each j hj).1]; exact (h j hj).1
    refine ⟨by simp only [litsV, V.size]; exact f1, fun x hx => ?_, fun j hj => ?_⟩
    · simp only [litsV, List.mem_flatMap, List.mem_range] at hx
      obtain ⟨j, hj, hx⟩ := hx
      exact (each j hj).2.1 x hx
    · simp only [V.size] at hj
      have he : 0 < e := by
        rcases Nat.eq_zero_or_pos e with rfl | he
        · simp at hj
        · exact he
      have hd : j / e < n := by rwa [Nat.div_lt_iff_lt_mul he]
      have hm := Nat.mod_lt j he
      have h3 := (each (j / e) hd).2.2 (j % e) (by rw [(h (j / e) hd).1]; exact hm)
      have h4 := f2 (j / e) (j % e) hd hm
      have e1 : j / e * e + j % e = j := by rw [Nat.mul_comm]; exact Nat.div_add_mod j e
      rw [e1] at h3 h4
      simp only [litsV]
      rw [h3, h4]
  | one a ih => intro ρ q pos g hok h; exact ih hok h.2
  | _ => intro ρ q pos g hok; exact hok.elim
theorem int_wf {k : IntKind} {n : Int} (h : inR k n) : (Lit.int k n).wf = true := by
  simp only [Lit.wf, Bool.and_eq_true, decide_eq_true_eq]; exact h
theorem ckF_keys {f : TypeId → Option (List CK)} {d : Nat} (ih : ∀ (t : TypeId) (ks : List CK) (lv : List LV), f t = some ks → P.keyTypeAt d t = true → ks.length = P.cellsOf t → lv.map kindL = ks → (∀ x ∈ lv, x.wf) → P.keyLits d t (lv.map LV.val) = some (lv.map LV.lit)) :
    ∀ (fs : List Field) (o : Nat) (ks : List CK) (pre lv : List LV), ckT.ckF P f o fs = some ks → (∀ g ∈ fs, P.keyTypeAt d g.type = true) → pre.length = o → lv.map kindL = ks → (∀ x ∈ lv, x.wf) →
      (fs.mapM fun g => P.keyLits d g.type ((((pre ++ lv).map LV.val).drop g.offset).take (P.cellsOf g.type))).map List.flatten = some (lv.map LV.lit)
  | [], o, ks, pre, lv, h, _, _, hk, _ => by
    simp only [ckT.ckF, Option.some.injEq] at h
    subst h
    have : lv = [] := by simpa using hk
    subst this
    simp
  | g :: fs, o, ks, pre, lv, h, hkt, hp, hk, hw => by
    simp only [ckT.ckF, Option.bind_eq_some_iff] at h
    obtain ⟨l, h1, h2⟩ := h
    split at h2
    · rename_i hc
      simp only [Bool.and_eq_true, beq_iff_eq] at hc
      simp only [Option.map_eq_some_iff] at h2
      obtain ⟨r, h3, rfl⟩ := h2
      -- the list parts in two
      obtain ⟨lv1, lv2, rfl, k1, k2⟩ : ∃ lv1 lv2, lv = lv1 ++ lv2 ∧ lv1.map kindL = l ∧ lv2.map kindL = r := by
        obtain ⟨a, b, h4, h5, h6⟩ := List.map_eq_append_iff.1 hk
        exact ⟨a, b, h4, h5, h6⟩
      have hl1 : lv1.length = l.length := by rw [← k1]; simp
      have e1 : ((((pre ++ (lv1 ++ lv2)).map LV.val).drop g.offset).take (P.cellsOf g.type)) = lv1.map LV.val := by
        rw [hc.1, ← hp, ← hc.2, ← hl1, List.map_append, List.map_append, List.drop_left' (by simp), List.take_left' (by simp)]
      have e2 := ih g.type l lv1 h1 (hkt g (by simp)) hc.2 k1 fun x hx => hw x (by simp [hx])
      have e3 := ckF_keys ih fs (o + l.length) r (pre ++ lv1) lv2 h3 (fun g' hg => hkt g' (by simp [hg])) (by simp; omega) k2 fun x hx => hw x (by simp [hx])
      rw [List.mapM_cons]
      simp only [e1, e2, Option.bind_eq_bind, Option.bind_some, Option.pure_def]
      rw [List.append_assoc] at e3
      simp only [Option.map_eq_some_iff] at e3 ⊢
      obtain ⟨y, h7, h8⟩ := e3
      exact ⟨lv1.map LV.lit :: y, by rw [h7]; rfl, by simp [h8]⟩
    · cases h2
theorem parts_eq {n m : Nat} {ks : List CK} : ∀ {lv : List LV}, lv.map kindL = (List.replicate n ks).flatten → ks.length = m → ∃ parts : List (List LV), parts.length = n ∧ lv = parts.flatten ∧ (∀ p ∈ parts, p.map kindL = ks) := by
  induction n with
  | zero =>
    intro lv h _
    exact ⟨[], rfl, by simpa using h, by simp⟩
  | succ n ih =>
    intro lv h hm
    rw [List.replicate_succ, List.flatten_cons] at h
    obtain ⟨a, b, h4, h5, h6⟩ := List.map_eq_append_iff.1 h
    obtain ⟨ps, g1, g2, g3⟩ := ih h6 hm
    exact ⟨a :: ps, by simp [g1], by simp [h4, g2], fun p hp => (List.mem_cons.1 hp).elim (fun e => e ▸ h5) (g3 p)⟩
theorem flat_chunk {α : Type} {m : Nat} : ∀ {parts : List (List α)} {i : Nat}, (∀ p ∈ parts, p.length = m) → i < parts.length → (parts.flatten.drop (i * m)).take m = parts[i]?.getD []
  | [], i, _, hi => by simp at hi
  | p :: ps, 0, h, _ => by
    have hp := h p (by simp)
    simp only [Nat.zero_mul, List.drop_zero, List.flatten_cons, List.getElem?_cons_zero, Option.getD_some]
    exact List.take_left' hp
  | p :: ps, i + 1, h, hi => by
    have hp := h p (by simp)
    have := flat_chunk (parts := ps) (i := i) (fun q hq => h q (List.mem_cons_of_mem _ hq)) (by simpa using hi)
    rw [List.flatten_cons, Nat.add_mul, Nat.one_mul, Nat.add_comm, ← List.drop_drop, List.drop_left' hp, this]
    simp
theorem mapM_range {α β : Type} {f : Nat → Option α} {g : β → α} : ∀ {l : List β} (k : Nat), (∀ (i : Nat) (x : β), l[i]? = some x → f (k + i) = some (g x)) → ((List.range' k l.length).mapM f) = some (l.map g)
  | [], _, _ => rfl
  | x :: l, k, h => by
    have h0 := h 0 x rfl
    have ih := mapM_range (l := l) (k + 1) fun i y hy => by
      have := h (i + 1) y (by simpa using hy)
      rw [show k + 1 + i = k + (i + 1) by omega]; exact this
    rw [List.length_cons, List.range'_succ, List.mapM_cons]
    rw [Nat.add_zero] at h0
    simp [h0, ih]
theorem ck_keys : ∀ (d : Nat) (t : TypeId) (ks : List CK) (lv : List LV), ckT P d t = some ks → P.keyTypeAt d t = true → ks.length = P.cellsOf t → lv.map kindL = ks → (∀ x ∈ lv, x.wf) → P.keyLits d t (lv.map LV.val) = some (lv.map LV.lit)
  | 0, _, _, _, h, _, _, _, _ => by simp [ckT] at h
  | d + 1, t, ks, lv, h, hkt, hn, hk, hw => by
    unfold ckT at h
    unfold Program.keyTypeAt at hkt
    have len1 : ∀ {c : CK}, [c] = ks → ∃ x, lv = [x] ∧ kindL x = c := fun {c} e => by
      rw [← e] at hk
      obtain ⟨x, r, h1, h2, h3⟩ := List.map_eq_cons_iff.1 hk
      have : r = [] := by simpa using h3
      subst this
      exact ⟨x, h1, h2⟩
    cases hu : P.underlying t with
    | none => rw [hu] at h; cases h
    | some kd =>
      rw [hu] at h hkt
      cases kd <;> first | (cases h; done) | skip
      case bool =>
        obtain ⟨x, rfl, hx⟩ := len1 (Option.some.inj h)
        cases x <;> simp [kindL] at hx
        simp [Program.keyLits, hu, LV.val, LV.lit]
      case int k =>
        obtain ⟨x, rfl, hx⟩ := len1 (Option.some.inj h)
        cases x <;> simp [kindL] at hx
        subst hx
        have := hw _ (List.mem_singleton.2 rfl)
        simp [Program.keyLits, hu, LV.val, LV.lit, int_wf this]
      case string =>
        obtain ⟨x, rfl, hx⟩ := len1 (Option.some.inj h)
        cases x <;> simp [kindL] at hx
        rename_i l
        have h1 := hw _ (List.mem_singleton.2 rfl)
        have h2 : (toBA l).size ≤ maxLen := by rw [toBA_size]; exact h1.1
        simp [Program.keyLits, hu, LV.val, LV.lit, h2]
      case array n e =>
        simp only [Option.bind_eq_some_iff] at h
        obtain ⟨l, h1, h2⟩ := h
        split at h2
        · rename_i hc
          simp only [Bool.and_eq_true, beq_iff_eq, decide_eq_true_eq] at hc
          cases h2
          obtain ⟨ps, g1, rfl, g3⟩ := parts_eq (m := P.cellsOf e) hk hc.1
          have hlen : ∀ p ∈ ps, p.length = P.cellsOf e := fun p hp => by rw [← hc.1, ← g3 p hp]; simp
          unfold Program.keyLits
          simp only [hu]
          have hcs : (ps.flatten.map LV.val).length = P.cellsOf t := by rw [List.length_map, ← hn, ← hk, List.length_map]
          rw [if_pos hcs]
          have hm := mapM_range (f := fun i => P.keyLits d e (((ps.flatten.map LV.val).drop (i * P.cellsOf e)).take (P.cellsOf e))) (g := fun p : List LV => p.map LV.lit) (l := ps) 0 fun i p hp => by
            have hi : i < ps.length := (List.getElem?_eq_some_iff.1 hp).1
            have hmem := List.mem_of_getElem? hp
            rw [Nat.zero_add]
            have e1 : ((ps.flatten.map LV.val).drop (i * P.cellsOf e)).take (P.cellsOf e) = p.map LV.val := by
              rw [← List.map_drop, ← List.map_take, flat_chunk hlen hi, hp]; rfl
            rw [e1]
            exact ck_keys d e l p h1 hkt hc.1 (g3 p hmem) fun x hx => hw x (List.mem_flatten.2 ⟨p, hmem, hx⟩)
          rw [g1, ← List.range_eq_range'] at hm
          rw [hm]
          simp [List.map_flatten]
        · cases h2
      case struct fs =>
        simp only [Bool.and_eq_true] at hkt
        have hkt1 : ∀ g ∈ fs.toList, g.name ≠ "_" ∧ P.keyTypeAt d g.type = true := fun g hg => by
          have := Array.all_eq_true_iff_forall_mem.1 hkt.1.1 g (Array.mem_toList_iff.1 hg)
          simpa only [Bool.and_eq_true, bne_iff_ne, ne_eq] using this
        have := ckF_keys (P := P) (d := d) (fun t ks lv a b c d' e => ck_keys d t ks lv a b c d' e) fs.toList 0 ks [] lv h (fun g hg => (hkt1 g hg).2) rfl hk hw
        unfold Program.keyLits
        simp only [hu]
        have hcs : (lv.map LV.val).length = P.cellsOf t := by rw [List.length_map, ← hn, ← hk, List.length_map]
        rw [if_pos ⟨hcs, Array.all_eq_true_iff_forall_mem.2 fun g hg => by simpa using (hkt1 g (Array.mem_toList_iff.2 hg)).1⟩]
        simpa using this
/-- cells of plain literals, as a value of this type -/
theorem key_rep {t : TypeId} {ks : List CK} {v : V} {x : Value} (hks : ckT P 6 t = some ks) (hkt : P.keyTypeAt 6 t = true) (hn : ks.length = P.cellsOf t) (hw : (∃ n e, P.underlying t = some (.array n e)) ∨ ∃ fs, P.underlying t = some (.struct fs))
    (hk : kindsP ks v) (hv : VRep I w ρ v x) (ha : v.isAgg = true) : ∃ cs, x = .agg cs ∧ x.formed P t = true ∧ P.keyLits 6 t x.cells.toList = some ((litsV v).map LV.lit) ∧ ∀ y ∈ litsV v, y.wf := by
  obtain ⟨cs, rfl, h1, h2⟩ := vr_agg hv ha
  obtain ⟨h3, h4, h5⟩ := lits_rep v hk.1 h2
  have hlen : (litsV v).length = ks.length := by rw [← hk.2]; simp
  have hcs : cs.toList = (litsV v).map LV.val := by
    apply List.ext_getElem?
    intro j
    rw [Array.getElem?_toList, List.getElem?_map]
    by_cases hj : j < v.size
    · exact h5 j hj
    · rw [Array.getElem?_eq_none (by omega), List.getElem?_eq_none (by omega)]; rfl
  refine ⟨cs, rfl, ?_, ?_, h4⟩
  · rcases hw with ⟨n, e, hu⟩ | ⟨fs, hu⟩ <;> simp [Value.formed, hu] <;> omega
  · show P.keyLits 6 t cs.toList = _
    rw [hcs]
    exact ck_keys 6 t ks _ hks hkt hn hk.2 h4
theorem eqZT_spec {t : TypeId} {ty : ETy} (hty : eqZT P t = some ty) : ∃ ks, ty = .z ks ∧ P.keyTypeAt 6 t = true ∧ P.eqGuardType P.depth t = false ∧ ckT P 6 t = some ks ∧ ks.length = P.cellsOf t ∧
    ((∃ n e, P.underlying t = some (.array n e)) ∨ ∃ fs, P.underlying t = some (.struct fs)) := by
  have body : ((∃ n e, P.underlying t = some (.array n e)) ∨ ∃ fs, P.underlying t = some (.struct fs)) →
      (if (P.keyTypeAt 6 t && !P.eqGuardType P.depth t) = true then (match ckT P 6 t with
        | some ks => if (ks.length == P.cellsOf t) = true then some (ETy.z ks) else none
        | none => none) else none) = some ty →
      ∃ ks, ty = .z ks ∧ P.keyTypeAt 6 t = true ∧ P.eqGuardType P.depth t = false ∧ ckT P 6 t = some ks ∧ ks.length = P.cellsOf t ∧ ((∃ n e, P.underlying t = some (.array n e)) ∨ ∃ fs, P.underlying t = some (.struct fs)) := fun hw hb => by
    split at hb
    · rename_i h1
      simp only [Bool.and_eq_true, Bool.not_eq_true'] at h1
      split at hb
      · rename_i ks hks
        split at hb
        · rename_i hn
          cases hb
          exact ⟨ks, rfl, h1.1, h1.2, hks, by simpa using hn, hw⟩
        · cases hb
      · cases hb
    · cases hb
  unfold eqZT at hty
  split at hty
  · rename_i n e hu; exact body (.inl ⟨_, _, hu⟩) hty
  · rename_i fs hu; exact body (.inr ⟨_, hu⟩) hty
  · cases hty
theorem step_eqZ (h : Rep X I ρ ow s a.tmps w) (hd : dstOk X o) {t yt : TypeId} {x y : Operand} {ix iy : IX} {ty : ETy} {ne : Bool} (ho : o.op = .binOp (if ne then .neq else .eql) t x y yt) (hty : eqZT P t = some ty)
    (hx : opIX x = some ix) (hy : opIX y = some iy) {e : Eff} (he : ((eqR apf ty (ev s.t ix) (ev s.t iy)).bind fun v => .ok (noEff (if ne then notV apf v else v))).to e) : StepOk P X o a w s e := by
  obtain ⟨v, hv, rfl⟩ := bind_to he
  have hvx := ev_rep h hx
  have hvy := ev_rep h hy
  obtain ⟨ks, rfl, hkt, hg, hks, hn, hw⟩ := eqZT_spec hty
  simp only [eqR] at hv
  obtain ⟨hag, hk1, hk2, hv⟩ := rif_to hv
  cases hv
  simp only [Bool.and_eq_true] at hag
  obtain ⟨cs, hxe, f1, k1, w1⟩ := key_rep hks hkt hn hw hk1 hvx hag.1
  obtain ⟨ds, hye, f2, k2, w2⟩ := key_rep hks hkt hn hw hk2 hvy hag.2
  obtain ⟨r, hr, hiff⟩ := run_equalIn_deep (P := P) 9994 6 t hkt w 6 6 (a.eval x) (a.eval y) _ _ f1 f2 k1 k2
  have hr' : (Op.equal t (a.eval x) (a.eval y)).run P w = .ok r w := hr
  have hrb : r = eqZ (ev s.t ix) (ev s.t iy) := by
    have := hiff.trans (lits_inj w1 w2)
    unfold eqZ
    cases r with
    | true => exact (decide_eq_true (this.1 rfl)).symm
    | false => exact (decide_eq_false fun e => by have := this.2 e; cases this).symm
  rw [hxe, hye] at hr'
  refine stepVal h hd (x := .bool (if ne then !r else r)) ?_ ?_
  · cases ne <;> simp [execOp, ho, hxe, hye, eqGuard, hg, binOp, hr']
  · subst hrb
    cases ne with
    | true => exact bool_vr _
    | false => exact bool_vr _
end
end Go.Cx
/- CxOp14 -/
namespace Go.Cx
open Go
section
variable {X : Fix} {I : Nat → Prop} {ρ : Rho} {ow : Own} {s : St} {tm : Array Value} {w : World}
theorem isRow_cnt' {e m : Nat} {c : V} (h : isRow e m c) : c.cnt = m := by cases c <;> simp_all [isRow, V.cnt]
theorem OwnBlk.cell {b j : Nat} {cur : Array Value} (h : OwnBlk w b cur) : w.cell? ⟨b, j, none⟩ = cur[j]? := by
  obtain ⟨ty, fr, h1, _⟩ := h
  exact cell_of_row w b j cur ty fr h1
theorem own_blk (h : Rep X I ρ ow s tm w) {hd b off sz' : Nat} {c : V} (hh : s.h hd = some ⟨.own, c⟩) (hl : ρ hd = some (.at b off sz')) :
    ∃ cur, ow b = some [hd] ∧ OwnBlk w b cur ∧ cur.size = off + sz' ∧ CRep I w ow c ρ [hd] 0 (fun j => cur[off + j]?) := by
  obtain ⟨l, h1, h2⟩ := h.heap _ _ hh
  rw [hl] at h1
  cases h1
  rcases h2 with ⟨h3, _⟩ | ⟨k', off', sz2, cur, h3, h4, h5, h6, h7⟩
  · cases h3
  · cases h3
    exact ⟨cur, h4, h5, h6, h7⟩
/-- an owned row of rows is somewhere -/
theorem orow_at (h : Rep X I ρ ow s tm w) {hd n e : Nat} {f : Nat → V} {o : List (Nat × Nat × Nat)} (hh : s.h hd = some ⟨.own, .orow n e f o⟩) : ∃ b off sz, ρ hd = some (.at b off sz) := by
  obtain ⟨l, h1, h2⟩ := h.heap _ _ hh
  rcases h2 with ⟨_, _, h4⟩ | ⟨k', off', sz2, cur, h3, _⟩
  · exact absurd rfl h4.1
  · subst h3; exact ⟨_, _, _, h1⟩
/-- An element is taken out: its row gets a handle of its own. -/
theorem Rep.takeE (h : Rep X I ρ ow s tm w) {hd d' n e j k off sz : Nat} {f : Nat → V} {o : List (Nat × Nat × Nat)} (hh : s.h hd = some ⟨.own, .orow n e f o⟩) (hl : ρ hd = some (.at k off sz)) (hj : j < n) (hno : lk3 o j = none)
    (hd' : s.h d' = none) (hlt : d' < 100000) :
    ∃ ρ' ow' a cp l, Rho.le ρ ρ' ∧ w.cell? ⟨k, off + j, none⟩ = some (.slice a (f j).cnt cp) ∧ (f j).cnt ≤ cp ∧ cp ≤ maxLen ∧ ρ' d' = some l ∧ (cp = 0 ∨ ∃ b off' sz', l = .at b off' sz' ∧ a = some ⟨b, off', none⟩ ∧ cp * e ≤ sz') ∧
      Rep X I ρ' ow' ⟨s.t, upd (upd s.h hd (some ⟨.own, .orow n e f ((j, d', (f j).cnt) :: o)⟩)) d' (some ⟨.own, f j⟩)⟩ tm w := by
  obtain ⟨cur, h1, h2, h3, h4⟩ := own_blk h hh hl
  obtain ⟨a, m, cp, g1, g2, g3, _, g5⟩ := h4.2.2 j hj
  obtain ⟨r1, r2, r3⟩ := g5 hno
  obtain rfl := isRow_cnt' r1
  have hne : hd ≠ d' := fun e => by rw [e, hd'] at hh; cases hh
  have hnd : ρ d' = none := by
    cases hρ : ρ d' with
    | none => rfl
    | some l => exact absurd hd' (h.dom d' l hρ hlt)
  obtain ⟨lo, hlo, hB⟩ : ∃ lo : Lo, (cp = 0 ∨ ∃ b off' sz', lo = .at b off' sz' ∧ a = some ⟨b, off', none⟩ ∧ cp * e ≤ sz') ∧
      ((lo = .ph ∧ (f j).size = 0 ∧ CRep I w ow (f j) noR [] 0 (fun _ => none)) ∨ ∃ b off' sz' cur', lo = .at b off' sz' ∧ ow b = some [hd, j] ∧ OwnBlk w b cur' ∧ cur'.size = off' + sz' ∧ CRep I w ow (f j) noR [] 0 (fun i => cur'[off' + i]?)) := by
    rcases r3 with ⟨e1, e2⟩ | ⟨b, off', cur', e1, e2, e3, e4, e5⟩
    · refine ⟨.ph, .inl e1, .inl ⟨rfl, ?_, e2⟩⟩
      have : (f j).cnt = 0 := by omega
      rw [this] at r1
      exact isRow_zero r1
    · refine ⟨.at b off' (cur'.size - off'), .inr ⟨b, off', _, rfl, e1, by omega⟩, .inr ⟨b, off', _, cur', rfl, by simpa using e2, e3, by omega, e5⟩⟩
  let ρ' : Rho := fun x => if x = d' then some lo else ρ x
  let ow' : Own := fun b => if ow b = some [hd, j] then some [d'] else ow b
  have hle : Rho.le ρ ρ' := fun x l hx => by
    have : x ≠ d' := fun e => by rw [e, hnd] at hx; cases hx
    simp only [ρ', if_neg this, hx]
  have o1 : ∀ b q, q ≠ [hd, j] → ow b = some q → ow' b = some q := fun b q hq hb => by
    simp only [ow', hb, Option.some.injEq, if_neg hq]
  have o2 : ∀ b, ow b = none → ow' b = none := fun b hb => by simp [ow', hb]
  refine ⟨ρ', ow', a, cp, lo, hle, by rw [h2.cell]; exact g1, g2, g3, by simp [ρ'], hlo, ?_⟩
  exact
    { h with
      iow := fun b hb => o2 b (h.iow b hb)
      owf := fun b q hb => by
        simp only [ow'] at hb
        split at hb
        · rename_i ee
          cases hb
          exact ⟨(h.owf b _ ee).1, (h.owf b _ ee).2.1, d', [], f j, rfl, by simp [upd]⟩
        · obtain ⟨q1, q2, x, r, c0, q3, q4⟩ := h.owf b q hb
          refine ⟨q1, q2, x, r, ?_⟩
          have hx : x ≠ d' := fun e => by rw [e, hd'] at q4; cases q4
          by_cases ee : x = hd
          · subst ee; exact ⟨.orow n e f ((j, d', (f j).cnt) :: o), q3, by simp only [upd_ne _ _ hx, upd_same]⟩
          · exact ⟨c0, q3, by simp only [upd_ne _ _ hx, upd_ne _ _ ee]; exact q4⟩
      dom := fun x l hx hx2 => by
        by_cases e : x = d'
        · subst e; simp [upd]
        · simp only [ρ', if_neg e] at hx
          simp only [upd_ne _ _ e]
          by_cases e2 : x = hd
          · subst e2; simp [upd]
          · simp only [upd_ne _ _ e2]; exact h.dom x l hx hx2
      glob := fun n => by
        obtain ⟨sz, hg⟩ := h.glob n
        exact ⟨sz, hle _ _ hg⟩
      rle := fun x l hx => hle _ _ (h.rle x l hx)
      tmps := fun i => (h.tmps i).mono (fun b hb => ⟨hb, rfl⟩) hle
      heap := fun x blk hx => by
        by_cases e : x = d'
        · subst e
          simp only [upd_same, Option.some.injEq] at hx
          subst hx
          refine ⟨lo, by simp [ρ'], ?_⟩
          rcases hB with ⟨e1, e2, e3⟩ | ⟨b, off', sz', cur', e1, e2, e3, e4, e5⟩
          · exact .inl ⟨e1, e2, CRep.out e3.noow⟩
          · refine .inr ⟨b, off', sz', cur', e1, by simp [ow', e2], e3, e4, ?_⟩
            have := CRep.out (ρ := ρ') (q := [x]) (pos' := 0) (e5.noow (ow' := ow'))
            exact this
        · simp only [upd_ne _ _ e] at hx
          by_cases e2 : x = hd
          · subst e2
            simp only [upd_same, Option.some.injEq] at hx
            subst hx
            refine ⟨_, hle _ _ hl, .inr ⟨k, off, sz, cur, rfl, o1 k _ (by simp) h1, h2, h3, by simp, h4.2.1, fun i hi => ?_⟩⟩
            by_cases e3 : i = j
            · subst e3
              refine ⟨a, _, cp, g1, g2, g3, fun b q hq => ?_, fun hq => ?_⟩
              · simp only [lk3, if_true, Option.some.injEq, Prod.mk.injEq] at hq
                obtain ⟨rfl, rfl⟩ := hq
                exact ⟨rfl, lo, by simp [ρ'], hlo⟩
              · simp [lk3] at hq
            · obtain ⟨a2, m2, cp2, k1, k2, k3, k4, k5⟩ := h4.2.2 i hi
              refine ⟨a2, m2, cp2, k1, k2, k3, fun b q hq => ?_, fun hq => ?_⟩
              · simp only [lk3, if_neg e3] at hq
                obtain ⟨e4, l, e5, e6⟩ := k4 b q hq
                exact ⟨e4, l, hle _ _ e5, e6⟩
              · simp only [lk3, if_neg e3] at hq
                obtain ⟨e4, e5, e6⟩ := k5 hq
                refine ⟨e4, e5, e6.imp (fun ⟨x1, x2⟩ => ⟨x1, x2.noow⟩) (fun ⟨b, off2, cur2, x1, x2, x3, x4, x5⟩ => ⟨b, off2, cur2, x1, o1 b _ ?_ x2, x3, x4, x5.noow⟩)⟩
                simp only [List.cons_append, List.nil_append, Nat.zero_add, ne_eq, List.cons.injEq, and_true, true_and]
                exact e3
          · simp only [upd_ne _ _ e2] at hx
            obtain ⟨l', q1, q2⟩ := h.heap x blk hx
            exact ⟨l', hle _ _ q1, BRep.keep h (Only.refl w none) (fun k e => by cases e) (fun _ h => h) hle q2 (fun k' r hk' => ⟨by simp, o1 _ _ (fun e3 => by simp only [List.cons.injEq] at e3; exact e2 e3.1) hk'⟩) (fun b' _ h => o2 b' h)⟩ }
/-- An element is put back. -/
theorem Rep.putE (h : Rep X I ρ ow s tm w) {hd d' n e j m : Nat} {f : Nat → V} {o : List (Nat × Nat × Nat)} {c : V} (hh : s.h hd = some ⟨.own, .orow n e f ((j, d', m) :: o)⟩) (hk : s.h d' = some ⟨.own, c⟩) (hne : d' ≠ hd)
    (hclo : c.clo = true) (hno : c.noown = true) (hrow : isRow e m c) (hnot : lk3 o j = none) :
    ∃ ow', Rep X I ρ ow' ⟨s.t, upd (upd s.h d' (some ⟨.dead, .any⟩)) hd (some ⟨.own, .orow n e (updR f j c) o⟩)⟩ tm w := by
  obtain ⟨k, off, sz, hl⟩ := orow_at h hh
  obtain ⟨cur, h1, h2, h3, h4⟩ := own_blk h hh hl
  obtain ⟨l2, hl2, hB⟩ := h.heap _ _ hk
  let ow' : Own := fun b => if ow b = some [d'] then some [hd, j] else killO ow d' b
  have o1 : ∀ b x r, x ≠ d' → ow b = some (x :: r) → ow' b = some (x :: r) := fun b x r hx hb => by
    simp only [ow', hb, Option.some.injEq, List.cons.injEq]
    rw [if_neg (fun e => hx e.1)]
    exact killO_ne hb hx
  have o2 : ∀ b, ow b = none → ow' b = none := fun b hb => by
    simp only [ow', hb]
    rw [if_neg (by simp)]
    exact killO_none hb
  have hsz : c.size = m * e := isRow_size hrow
  refine ⟨ow', ?_⟩
  exact
    { h with
      iow := fun b hb => o2 b (h.iow b hb)
      owf := fun b q hb => by
        simp only [ow'] at hb
        split at hb
        · rename_i ee
          cases hb
          exact ⟨(h.owf b _ ee).1, (h.owf b _ ee).2.1, hd, [j], .orow n e (updR f j c) o, rfl, by simp only [upd_same]⟩
        · obtain ⟨q1, q2, x, r, c0, q3, q4⟩ := h.owf b q (killO_some hb)
          subst q3
          have hx := killO_head hb
          refine ⟨q1, q2, x, r, ?_⟩
          by_cases ee : x = hd
          · subst ee; exact ⟨.orow n e (updR f j c) o, rfl, by simp only [upd_same]⟩
          · exact ⟨c0, rfl, by simp only [upd_ne _ _ hx, upd_ne _ _ ee]; exact q4⟩
      dom := fun x l hx hx2 => by
        by_cases e : x = hd
        · subst e; simp [upd]
        · simp only [upd_ne _ _ e]
          by_cases e2 : x = d'
          · subst e2; simp [upd]
          · simp only [upd_ne _ _ e2]; exact h.dom x l hx hx2
      heap := fun x blk hx => by
        by_cases e : x = hd
        · subst e
          simp only [upd_same, Option.some.injEq] at hx
          subst hx
          refine ⟨_, hl, .inr ⟨k, off, sz, cur, rfl, o1 k _ _ (Ne.symm hne) h1, h2, h3, by simp, h4.2.1, fun i hi => ?_⟩⟩
          obtain ⟨a2, m2, cp2, k1, k2, k3, k4, k5⟩ := h4.2.2 i hi
          by_cases e3 : i = j
          · subst e3
            obtain ⟨rfl, l, e5, e6⟩ := k4 d' m (by simp [lk3])
            rw [hl2] at e5
            cases e5
            refine ⟨a2, m2, cp2, k1, k2, k3, fun b q hq => (by rw [hnot] at hq; cases hq), fun _ => ⟨by simpa [updR] using hrow, by simpa [updR] using hno, ?_⟩⟩
            simp only [updR, if_true]
            by_cases hz : cp2 = 0
            · subst hz
              obtain rfl : m2 = 0 := by omega
              refine .inl ⟨rfl, ?_⟩
              have hz0 : c.size = 0 := by rw [hsz]; simp
              rcases hB with ⟨_, _, q3⟩ | ⟨_, _, _, _, _, _, _, _, q3⟩
              · exact crep_empty hz0 (CRep.closed c _ _ _ _ _ hclo q3)
              · exact crep_empty hz0 (CRep.noq c _ _ [] _ 0 _ hno (CRep.closed c _ _ _ _ _ hclo q3))
            · obtain ⟨b, off2, sz2, rfl, e7, e8⟩ := e6.resolve_left hz
              rcases hB with ⟨q1, _⟩ | ⟨b', off', sz', cur', q1, q2, q3, q4, q5⟩
              · cases q1
              cases q1
              refine .inr ⟨b, off2, cur', e7, ?_, q3, by omega, ?_⟩
              · simp [ow', q2]
              · exact (CRep.noq c _ _ [] _ 0 _ hno (CRep.closed c _ noR _ _ _ hclo q5)).noow
          · refine ⟨a2, m2, cp2, k1, k2, k3, fun b q hq => k4 b q (by simp only [lk3, if_neg e3]; exact hq), fun hq => ?_⟩
            obtain ⟨e4, e5, e6⟩ := k5 (by simp only [lk3, if_neg e3]; exact hq)
            simp only [updR, if_neg e3]
            exact ⟨e4, e5, e6.imp (fun ⟨x1, x2⟩ => ⟨x1, x2.noow⟩) (fun ⟨b, off2, cur2, x1, x2, x3, x4, x5⟩ => ⟨b, off2, cur2, x1, o1 b _ _ (Ne.symm hne) x2, x3, x4, x5.noow⟩)⟩
        · simp only [upd_ne _ _ e] at hx
          by_cases e2 : x = d'
          · subst e2
            simp only [upd_same, Option.some.injEq] at hx
            subst hx
            exact ⟨_, hl2, trivial⟩
          · simp only [upd_ne _ _ e2] at hx
            obtain ⟨l', q1, q2⟩ := h.heap x blk hx
            exact ⟨l', q1, BRep.keep h (Only.refl w none) (fun k e => by cases e) (fun _ h => h) (Rho.le_refl _) q2 (fun k' r hk' => ⟨by simp, o1 _ _ _ e2 hk'⟩) (fun b' _ h => o2 b' h)⟩ }
end
section
variable {P : Program} {pure : Nat → Bool} {X : Fix} {I : Nat → Prop} {ρ : Rho} {ow : Own} {s : St} {a : Act} {w : World} {o : Oper}
theorem lk3_no : ∀ {o : List (Nat × Nat × Nat)} {j : Nat}, j ∉ o.map (fun p => p.1) → lk3 o j = none := by
  intro o
  induction o with
  | nil => intro j _; rfl
  | cons p o ih =>
    intro j h
    obtain ⟨i, x⟩ := p
    simp only [List.map_cons, List.mem_cons, not_or] at h
    simp only [lk3, if_neg h.1]
    exact ih h.2
theorem step_ldE (h : Rep X I ρ ow s a.tmps w) (hd : dstOk X o) {t : TypeId} {d : TypeDesc} {x : Operand} {ix : IX} {re : Bool} (ho : o.op = .load t x) (ht : P.underlying t = some d) (hagg : aggT P t = false)
    (hx : opIX x = some ix) {e : Eff} {E : List (Nat × Ctr)} (he : (stepR apf E s.t s.h o.dst (.ldE re ix)).to e) : StepOk P X o a w s e := by
  have hv := ev_rep h hx
  simp only [stepR] at he
  split at he
  · rename_i hd' j i1 e1
    rw [e1] at hv
    obtain ⟨b, off, sz', h1, h2⟩ := vr_ptr hv
    obtain ⟨hi1, he⟩ := rif_to he
    obtain rfl : i1 = 1 := by simpa using hi1
    split at he
    · rename_i n es f o' hh
      obtain ⟨hj, he⟩ := he
      have hj : j < n := hj
      simp only [poff, Nat.mul_one, Nat.add_zero] at h2
      have run : ∀ v, w.cell? ⟨b, off + j, none⟩ = some v → (execOp a.eval o).run P w = .ok (.value v) w := fun v hc => by
        simp [execOp, ho, h2, Instr.loadAt, Instr.sureAddr, loadVar, isAgg_run ht, hagg, hc]
      split at he
      · split at he
        · rename_i j0 h0 m0 rest
          obtain ⟨hj0, he⟩ := he
          obtain rfl : j = j0 := hj0
          cases he
          obtain ⟨cur, q1, q2, q3, q4⟩ := own_blk h hh h1
          obtain ⟨a2, m2, cp, g1, g2, g3, g4, _⟩ := q4.2.2 j hj
          obtain ⟨rfl, l, g5, g6⟩ := g4 h0 m0 (by simp [lk3])
          refine stepVal h hd (run _ (by rw [q2.cell]; exact g1)) (leaf_vr rfl rfl rfl ⟨a2, cp, l, rfl, g5, g2, g3, trivial, g6.imp id fun ⟨b2, off2, sz2, k1, k2, k3⟩ => ⟨b2, off2, sz2, k1, ?_, ?_⟩⟩)
          · simpa [poff] using k2
          · simpa [poff] using k3
        · exact he.elim
      · split at he
        · rename_i dd hdst
          split at he
          · rename_i hn
            obtain ⟨hlt, hni, he⟩ := rif_to he
            simp only [decide_eq_true_eq] at hlt
            have hni : j ∉ o'.map (fun p => p.1) := hni
            cases he
            obtain ⟨ρ', ow', av, cp, l, hle, hc, k1, k2, k3, k4, k5⟩ := h.takeE hh h1 hj (lk3_no hni) hn (by omega)
            refine .inl ⟨_, w, run _ hc, I, ρ', ow', ?_⟩
            have := k5.putD hd (v := .sl (40000 + dd) [] 0 (f j).cnt es none) (x := .slice av (f j).cnt cp) (leaf_vr rfl rfl rfl ⟨av, cp, l, rfl, k3, k1, k2, trivial, k4.imp id fun ⟨b2, off2, sz2, e1, e2, e3⟩ => ⟨b2, off2, sz2, e1, by simpa [poff] using e2, by simpa [poff] using e3⟩⟩)
            exact this
          · exact he.elim
        · exact he.elim
    · exact he.elim
  · exact he.elim
/-- a row's entry put in, told by what was there -/
theorem putIn_spec {hp : Nat → Option Blk} {j hy m : Nat} : ∀ {o' o2 : List (Nat × Nat × Nat)}, (putIn apf hp j hy m o').to o2 → lk3 o2 j = some (hy, m) ∧ ∀ i, i ≠ j → lk3 o2 i = lk3 o' i := by
  intro o' o2 hm
  cases o' with
  | nil => cases hm; exact ⟨by simp [lk3], fun i hi => by simp [lk3, hi]⟩
  | cons p o' =>
    obtain ⟨j0, h0, m0⟩ := p
    simp only [putIn] at hm
    split at hm
    · obtain ⟨h1, _, h3⟩ := hm
      have h1 : j = j0 := h1
      subst h1
      cases h3
      exact ⟨by simp [lk3], fun i hi => by simp [lk3, hi]⟩
    · obtain ⟨_, h3⟩ := hm
      cases h3
      exact ⟨by simp [lk3], fun i hi => by simp only [lk3, if_neg hi]⟩
    · exact hm.elim
theorem step_stE (h : Rep X I ρ ow s a.tmps w) {t : TypeId} {x y : Operand} {ix iy : IX} (ho : o.op = .store t x y) (hdst : o.dst = none) (hz : sz P t = 1)
    (hx : opIX x = some ix) (hy : opIX y = some iy) {e : Eff} {E : List (Nat × Ctr)} (he : (stepR apf E s.t s.h o.dst (.stE ix iy)).to e) : StepOk P X o a w s e := by
  have hv := ev_rep h hx
  have hvy := ev_rep h hy
  simp only [stepR] at he
  split at he
  · rename_i hd' j i1 hy' i m e' cap e1 e2
    rw [e1] at hv
    rw [e2] at hvy
    obtain ⟨b, off, sz', h1, h2⟩ := vr_ptr hv
    obtain ⟨ay, cpy, ly, y1, y2, y3, y4, _, y6⟩ := vr_sl hvy
    obtain ⟨hi1, he⟩ := rif_to he
    obtain rfl : i1 = 1 := by simpa using hi1
    split at he
    · rename_i n es f o' hh
      obtain ⟨_, he2⟩ := rif_to he
      obtain ⟨hc, hi0, hj, he3⟩ := rif_to he2
      clear he he2
      simp only [Bool.and_eq_true, beq_iff_eq, bne_iff_ne] at hc
      obtain ⟨rfl, hne⟩ := hc
      have hi0 : i = 0 := hi0
      have hj : j < n := hj
      subst hi0
      obtain ⟨o2, hput, he4⟩ := bind_to he3
      cases he4
      obtain ⟨p1, p2⟩ := putIn_spec hput
      obtain ⟨cur, q1, q2, q3, q4⟩ := own_blk h hh h1
      simp only [poff, Nat.mul_one, Nat.add_zero, Nat.zero_add, Nat.zero_mul] at h2 y6
      have hlt : off + j < cur.size := by
        have := own_size q3 q4
        simp only [V.size] at this
        omega
      obtain ⟨w', r1, r2, r3, r4⟩ := run_store1 (P := P) q2 hlt (v := a.eval y) (by rw [y1]; rfl)
      have hrep := h.write (hd := hd') (c' := .orow n es f o2) (cur := cur) (cur' := cur.setIfInBounds (off + j) (a.eval y)) hh h1 q1 r2 r3 r4 (by simpa using q3) (by
        refine ⟨by simp, q4.2.1, fun i hi => ?_⟩
        obtain ⟨a2, m2, cp2, k1, k2, k3, k4, k5⟩ := q4.2.2 i hi
        by_cases e3 : i = j
        · subst e3
          refine ⟨ay, m, cpy, by simp [y1, hlt], y3, y4, fun b2 q hq => ?_, fun hq => by rw [p1] at hq; cases hq⟩
          rw [p1] at hq
          cases hq
          exact ⟨rfl, ly, y2, y6.imp id fun ⟨b3, off3, sz3, z1, z2, z3⟩ => ⟨b3, off3, sz3, z1, by simpa using z2, by simpa using z3⟩⟩
        · refine ⟨a2, m2, cp2, ?_, k2, k3, fun b2 q hq => k4 b2 q (by rw [← p2 i e3]; exact hq), fun hq => k5 (by rw [← p2 i e3]; exact hq)⟩
          rw [← k1]
          simp only [Array.getElem?_setIfInBounds]
          rw [if_neg (by omega)]) rfl
      refine .inr (.inl ⟨w', ?_, I, ρ, ow, ?_⟩)
      · have hone : (a.eval y).cells = #[a.eval y] := by rw [y1]; rfl
        simp [execOp, ho, h2, Instr.storeAt, Instr.sureAddr, storeVar, sizeOf_run (show sz P t ≠ 0 by omega), hz, hone, storeCells, Addr.add, r1]
      · rw [hdst]
        exact hrep
    · exact he.elim
  · exact he.elim
def hdl : V → Nat
  | .sl h _ _ _ _ _ => h
  | _ => 0
def lenV : V → Nat
  | .sl _ _ _ m _ _ => m
  | _ => 0
theorem outsOf_spec {e : Nat} : ∀ {l : List (Nat × V)} {o' : List (Nat × Nat × Nat)}, (outsOf apf e l).to o' → o' = l.map (fun p => (p.1, hdl p.2, lenV p.2)) ∧ ∀ p ∈ l, ∃ hk m cap, p.2 = .sl hk [] 0 m e cap := by
  intro l
  induction l with
  | nil => intro o' h; cases h; exact ⟨rfl, fun p hp => by simp at hp⟩
  | cons p l ih =>
    intro o' h
    obtain ⟨j, v⟩ := p
    cases v <;> try exact h.elim
    rename_i hk pt i m e' cap
    cases pt with
    | cons _ _ => exact h.elim
    | nil =>
      obtain ⟨h1, h2, h3⟩ := rif_to h
      obtain rfl : e = e' := by simpa using h1
      have h2 : i = 0 := h2
      subst h2
      obtain ⟨l', h4, h5⟩ := bind_to h3
      cases h5
      obtain ⟨rfl, h6⟩ := ih h4
      refine ⟨rfl, fun p hp => ?_⟩
      rcases List.mem_cons.1 hp with rfl | hp
      · exact ⟨hk, m, cap, rfl⟩
      · exact h6 p hp
theorem look_any {α : Type} {l : List (Nat × α)} {k : Nat} (h : k ∈ l.map (·.1)) : ∃ v, look l k = some v ∧ (k, v) ∈ l := by
  induction l with
  | nil => simp at h
  | cons p l ih =>
    obtain ⟨k', v'⟩ := p
    simp only [look]
    by_cases e : k = k'
    · exact ⟨v', by rw [if_pos e], by rw [e]; simp⟩
    · rw [if_neg e]
      obtain ⟨v, h1, h2⟩ := ih (by simpa [e] using h)
      exact ⟨v, h1, by simp [h2]⟩
theorem lk3_map {l : List (Nat × V)} {j : Nat} : lk3 (l.map (fun p => (p.1, hdl p.2, lenV p.2))) j = (look l j).map fun v => (hdl v, lenV v) := by
  induction l with
  | nil => rfl
  | cons p l ih =>
    obtain ⟨k, v⟩ := p
    simp only [List.map_cons, lk3, look]
    split
    · rfl
    · exact ih
theorem lkV_raw {z : V} {l : List (Nat × Value)} {j : Nat} {x : Value} (h : look l j = some x) : lkV z (l.map fun i => (i.1, V.raw i.2)) j = .raw x := by
  induction l with
  | nil => cases h
  | cons p l ih =>
    obtain ⟨k, v⟩ := p
    simp only [look] at h
    simp only [List.map_cons, lkV]
    split
    · rename_i e; rw [if_pos e] at h; cases h; rfl
    · rename_i e; rw [if_neg e] at h; exact ih h
theorem F2_look {R : V → Value → Prop} : ∀ {l : List (Nat × V)} {is : List (Nat × Value)}, F2 (fun (p : Nat × V) (i : Nat × Value) => i.1 = p.1 ∧ R p.2 i.2) l is → ∀ {j : Nat} {v : V}, look l j = some v → ∃ x, look is j = some x ∧ R v x := by
  intro l
  induction l with
  | nil => intro is _ j v h; cases h
  | cons p l ih =>
    intro is hf j v h
    cases hf with
    | cons h1 h2 =>
      rename_i q is'
      obtain ⟨k, u⟩ := p
      obtain ⟨k', x⟩ := q
      obtain ⟨h3, h4⟩ := h1
      simp only at h3 h4
      subst h3
      simp only [look] at h ⊢
      split at h
      · rename_i e; cases h; exact ⟨x, by rw [if_pos e], h4⟩
      · rename_i e; rw [if_neg e]; exact ih h2 h
theorem F2_raw {R : V → Value → Prop} : ∀ {l : List (Nat × V)} {is : List (Nat × Value)}, F2 (fun (p : Nat × V) (i : Nat × Value) => i.1 = p.1 ∧ R p.2 i.2) l is → (∀ p ∈ l, ∀ x, R p.2 x → isAggV x = false ∧ x.oneCell' = true) →
    F2 (fun (p : Nat × V) (i : Nat × Value) => i.1 = p.1 ∧ VRep I w ρ p.2 i.2) (is.map fun i => (i.1, V.raw i.2)) is ∧ is.map (·.1) = l.map (·.1) := by
  intro l
  induction l with
  | nil => intro is hf _; cases hf; exact ⟨.nil, rfl⟩
  | cons p l ih =>
    intro is hf hp
    cases hf with
    | cons h1 h2 =>
      rename_i q is'
      obtain ⟨g1, g2⟩ := ih h2 (fun p hp' => hp p (by simp [hp']))
      obtain ⟨k1, k2⟩ := hp p (by simp) q.2 h1.2
      exact ⟨.cons ⟨rfl, leaf_vr rfl rfl k1 ⟨rfl, k2⟩⟩ g1, by simp [g2, h1.1]⟩
theorem step_bslE (h : Rep X I ρ ow s a.tmps w) (hd : dstOk X o) {t el : TypeId} {n : Nat} {ps : Array (Nat × Operand)} {z : ZT} {l : List (Nat × IX)} (ho : o.op = .buildSlice t n ps) (ht : P.underlying t = some (.slice el)) (hk : EkOk P el (.o 1 z))
    (hsmall : n * (EK.o 1 z).size ≤ 65536) (hl : optL (ps.toList.map fun p => (opIX p.2).map fun x => (p.1, x)) = some l) {e : Eff} {E : List (Nat × Ctr)}
    (he : (stepR apf E s.t s.h o.dst (.bslE n l)).to e) : StepOk P X o a w s e := by
  obtain ⟨i, zv, h1, h2, h3, h4, h5, h6, h7⟩ := hk.i
  simp only [stepR] at he
  obtain ⟨d, hdst, hn, he⟩ := fresh_to he
  obtain ⟨hck, he⟩ := rif_to he
  simp only [Bool.and_eq_true, decide_eq_true_eq, beq_iff_eq] at hck
  obtain ⟨hpos, hkeys⟩ := hck
  obtain ⟨o2, hout, he⟩ := bind_to he
  cases he
  obtain ⟨rfl, hsl⟩ := outsOf_spec hout
  have hf := parts_eval2 h hl
  generalize hL : (l.map fun p => (p.1, ev s.t p.2)) = L at hf hsl hout
  generalize hE : sizeOf1 L = es at hsl hout
  have hLk : L.map (·.1) = List.range n := by rw [← hL, List.map_map]; exact hkeys
  generalize his : (ps.toList.map fun p => (p.1, a.eval p.2)) = is at hf
  obtain ⟨r1, r2⟩ := F2_raw (I := I) (w := w) (ρ := ρ) hf (fun p hp x hx => by
    obtain ⟨hk2, m, cap, e1⟩ := hsl p hp
    rw [e1] at hx
    obtain ⟨a2, c2, _, rfl, _⟩ := vr_sl hx
    exact ⟨rfl, rfl⟩)
  have hrow : (rowC (.o 1 z) n (is.map fun i => (i.1, V.raw i.2))).to (.rows 1 n (lkV z.val (is.map fun i => (i.1, V.raw i.2)))) := by
    have hk1 : (is.map fun i => (i.1, V.raw i.2)).map (fun p => p.1) = List.range n := by rw [List.map_map, ← hLk, ← r2]; rfl
    have nd : ∀ k m, nodupN (List.range' k m) = true := by
      intro k m
      induction m generalizing k with
      | zero => rfl
      | succ m ih => simp only [List.range'_succ, nodupN, ih, Bool.and_true, Bool.not_eq_true', List.contains_eq_mem, decide_eq_false_iff_not, List.mem_range'_1]; omega
    have pk : ∀ (q : List (Nat × Value)), (∀ p ∈ q, p.1 < n) → partsOk 1 n (q.map fun i => (i.1, V.raw i.2)) = true := by
      intro q
      induction q with
      | nil => intro _; rfl
      | cons p q ih =>
        intro hq
        simp only [List.map_cons, partsOk, V.clo, V.full, V.unwrap, V.size, Bool.true_and, BEq.rfl, Bool.and_eq_true, decide_eq_true_eq]
        exact ⟨hq p (by simp), ih (fun p hp => hq p (by simp [hp]))⟩
    simp only [rowC, rif]
    rw [if_pos]
    · simp only [R.to, List.map_map]
      congr 2
    · rw [Bool.and_eq_true]
      refine ⟨pk is (fun p hp => ?_), by rw [hk1, List.range_eq_range']; exact nd 0 n⟩
      have : p.1 ∈ is.map (·.1) := List.mem_map.2 ⟨p, hp, rfl⟩
      rw [r2, hLk] at this
      exact List.mem_range.1 this
  obtain ⟨m1, m2⟩ := made_rep (I := I) (w := w) (el := el) (i := i) h5 (by omega) (fun kk hh => (h6 kk hh).1) h7 n rfl rfl
  obtain ⟨cs', g1, g2, g3, g4, g5, g6, g7⟩ := rowC_rep hrow (by simp [size_madeCells]) m1 m2 r1
  have hes : (EK.o 1 z).size = 1 := rfl
  rw [hes] at h3 h5 hsmall g1 g2
  have hlt : d < X.N := hd d hdst
  have hnle := h.nle
  obtain ⟨ρ', ow', k1, k2, k3⟩ := h.new hn (by omega) (Only.refl w none) (cs := cs') (ty := el) (fr := (0, 0)) (.inl rfl) g5 (g7.noow (ow' := ow))
  obtain ⟨cur, q1, q2, q3, q4⟩ := own_blk k3 (show (upd s.h d (some ⟨.own, _⟩)) d = some ⟨.own, .rows 1 n (lkV z.val (is.map fun i => (i.1, V.raw i.2)))⟩ by simp [upd]) k2
  have k4 := k3.rewrite (c2 := .orow n es (fun _ => .tnil) (L.map fun p => (p.1, hdl p.2, lenV p.2))) (show (upd s.h d (some ⟨.own, _⟩)) d = some ⟨.own, .rows 1 n (lkV z.val (is.map fun i => (i.1, V.raw i.2)))⟩ by simp [upd]) k2
    (.inr ⟨_, _, _, cur, rfl, q1, q2, q3, by simp, hpos, fun j hj => by
      obtain ⟨v, v1, v2⟩ := look_any (l := L) (k := j) (by rw [hLk]; exact List.mem_range.2 hj)
      obtain ⟨hk2, m, cap, rfl⟩ : ∃ hk m cap, v = .sl hk [] 0 m es cap := hsl _ v2
      obtain ⟨x, x1, x2⟩ := F2_look hf v1
      obtain ⟨a2, c2, l2, rfl, y2, y3, y4, _, y6⟩ := vr_sl x2
      have hc := (q4 j hj).2
      rw [lkV_raw x1] at hc
      simp only [poff, Nat.zero_add, Nat.zero_mul, Nat.add_zero] at y6
      refine ⟨a2, m, c2, by simpa using hc.1, y3, y4, fun b q hq => ?_, fun hq => ?_⟩
      · rw [lk3_map, v1] at hq
        simp only [Option.map_some, hdl, lenV, Option.some.injEq, Prod.mk.injEq] at hq
        obtain ⟨rfl, rfl⟩ := hq
        exact ⟨rfl, l2, k1 _ _ y2, y6⟩
      · rw [lk3_map, v1] at hq
        cases hq⟩)
  have hu : upd (upd s.h d (some ⟨.own, .rows 1 n (lkV z.val (is.map fun i => (i.1, V.raw i.2)))⟩)) d (some ⟨.own, .orow n es (fun _ => .tnil) (L.map fun p => (p.1, hdl p.2, lenV p.2))⟩) = upd s.h d (some ⟨.own, .orow n es (fun _ => .tnil) (L.map fun p => (p.1, hdl p.2, lenV p.2))⟩) := by
    funext y; simp only [upd]; split <;> rfl
  rw [hu] at k4
  refine .inl ⟨.slice (some ⟨w.heap.size, 0, none⟩) n n, w.alloc (.cells cs' el (0, 0)), ?_, I, ρ', ow', ?_⟩
  · have := run_buildSlice (P := P) w t el n (ps.map fun (i, x) => (i, a.eval x)) cs' i zv ht h1 h2 (by rw [h3]; omega) (by rw [h3]; omega) (by
      rw [h3]
      have e1 : ((Array.range (n * 1)).map fun x => zv.cells[x % zv.cells.size]!) = madeCells zv.cells (n * 1) := rfl
      rw [e1]
      simpa [his] using g1)
    simp only [execOp, ho, Sem.run_bind, this, Result.andThen_ok, Sem.run_pure]
  · have := k4.setT hlt (v := .sl d [] 0 n 1 none) (x := .slice (some ⟨w.heap.size, 0, none⟩) n n) (sl_new k2 (Nat.le_refl _) (by simp only [maxLen]; omega) (by omega) trivial)
    rw [hdst]
    exact this
theorem step_allocE (h : Rep X I ρ ow s a.tmps w) (hd : dstOk X o) {t : TypeId} {n : Nat} (ho : o.op = .alloc t) (hz : zOk P t (.rows 1 n (.v .nsl)) = true) {e : Eff} {E : List (Nat × Ctr)}
    (he : (stepR apf E s.t s.h o.dst (.allocE n)).to e) : StepOk P X o a w s e := by
  simp only [stepR] at he
  obtain ⟨d, hdst, hn, he⟩ := fresh_to he
  obtain ⟨hpos, he⟩ := rif_to he
  simp only [decide_eq_true_eq] at hpos
  cases he
  obtain ⟨i, v, h1, h2, h3, h4, h5, h6⟩ := zOk_spec hz
  obtain ⟨z1, z2, z3⟩ := zt_rep (I := I) (w := w) (ow := ow) (ρ := ρ) (.rows 1 n (.v .nsl)) h4
  have hlt : d < X.N := hd d hdst
  have hnle := h.nle
  obtain ⟨ρ', ow', k1, k2, k3⟩ := h.new hn (by omega) (Only.refl w none) (cs := v.cells) (ty := t) (fr := (0, 0)) (.inl rfl) z2 (by rw [← h3] at z3; simpa using z3)
  have hh : (upd s.h d (some ⟨.own, (ZT.rows 1 n (.v .nsl)).val⟩)) d = some ⟨.own, (ZT.rows 1 n (.v .nsl)).val⟩ := by simp [upd]
  obtain ⟨cur, q1, q2, q3, q4⟩ := own_blk k3 hh k2
  have k4 := k3.rewrite (c2 := .orow n 1 (fun _ => .rows 1 0 (fun _ => .tt)) []) hh k2
    (.inr ⟨_, _, _, cur, rfl, q1, q2, q3, by simp, hpos, fun j hj => by
      have hc : cur[0 + (j * 1 + 0)]? = some (.slice none 0 0) := (q4 j hj).2
      refine ⟨none, 0, 0, by simpa using hc, Nat.le_refl _, by simp, fun b q hq => (by cases hq), fun _ => ⟨⟨rfl, rfl⟩, rfl, .inl ⟨rfl, fun j hj => by omega⟩⟩⟩⟩)
  have hu : upd (upd s.h d (some ⟨.own, (ZT.rows 1 n (.v .nsl)).val⟩)) d (some ⟨.own, .orow n 1 (fun _ => .rows 1 0 (fun _ => .tt)) []⟩) = upd s.h d (some ⟨.own, .orow n 1 (fun _ => .rows 1 0 (fun _ => .tt)) []⟩) := by
    funext y; simp only [upd]; split <;> rfl
  rw [hu] at k4
  refine .inl ⟨.pointer (some ⟨w.heap.size, 0, none⟩), w.alloc (.cells v.cells t (0, 0)), by simp [execOp, ho, Instr.alloc, zeroValue, typeInfo, h1, h2, newVar, newRow], I, ρ', ow', ?_⟩
  have := k4.setT hlt (v := .ptr d []) (x := .pointer (some ⟨w.heap.size, 0, none⟩)) (ptr_new k2)
  rw [hdst]
  exact this
end
section
variable {X : Fix} {I : Nat → Prop} {ρ : Rho} {ow : Own} {s : St} {tm : Array Value} {w : World}
theorem isRow_self {c : V} (h : c.isRowB = true) : isRow c.rowE c.cnt c := by cases c <;> first | exact ⟨rfl, rfl⟩ | cases h
theorem Rep.pbL {t : Nat → V} {hd n e : Nat} : ∀ {o : List (Nat × Nat × Nat)} {f : Nat → V} {ow : Own} {hh h' : Nat → Option Blk}, Rep X I ρ ow ⟨t, hh⟩ tm w → hh hd = some ⟨.own, .orow n e f o⟩ → (Go.Cx.pbL apf hd n e o f hh).to h' → ∃ ow', Rep X I ρ ow' ⟨t, h'⟩ tm w := by
  intro o
  induction o with
  | nil => intro f ow hh h' h _ hp; cases hp; exact ⟨ow, h⟩
  | cons p o ih =>
    intro f ow hh h' h hk hp
    obtain ⟨j, d, m⟩ := p
    simp only [Go.Cx.pbL] at hp
    split at hp
    · rename_i c hd2
      obtain ⟨h1, h2, h3, hp⟩ := rif_to hp
      simp only [Bool.and_eq_true, beq_iff_eq, bne_iff_ne] at h1
      obtain ⟨⟨⟨⟨h1a, h1b⟩, h1c⟩, h1d⟩, h1e⟩ := h1
      have h2 : m = c.cnt := h2
      have h3 : j ∉ o.map (fun p => p.1) := h3
      have hrow : isRow e m c := by rw [h2, ← h1d]; exact isRow_self h1c
      obtain ⟨ow', h4⟩ := h.putE hk hd2 h1e h1a h1b hrow (lk3_no h3)
      exact ih h4 (by simp only [upd_same]; rfl) hp
    · exact hp.elim
theorem Rep.pbK {t : Nat → V} {hd n e k : Nat} : ∀ {o : List (Nat × Nat × Nat)} {f : Nat → V} {ow : Own} {hh h' : Nat → Option Blk}, Rep X I ρ ow ⟨t, hh⟩ tm w → hh hd = some ⟨.own, .orow n e f o⟩ → (Go.Cx.pbK apf hd n e k o f hh).to h' → ∃ ow', Rep X I ρ ow' ⟨t, h'⟩ tm w := by
  intro o
  induction o with
  | nil => intro f ow hh h' h _ hp; cases hp; exact ⟨ow, h⟩
  | cons p o ih =>
    intro f ow hh h' h hk hp
    obtain ⟨j, d, m⟩ := p
    simp only [Go.Cx.pbK] at hp
    split at hp
    · cases hp; exact ⟨ow, h⟩
    · split at hp
      · rename_i c hd2
        obtain ⟨h1, h2, h3, hp⟩ := rif_to hp
        simp only [Bool.and_eq_true, beq_iff_eq, bne_iff_ne] at h1
        obtain ⟨⟨⟨⟨h1a, h1b⟩, h1c⟩, h1d⟩, h1e⟩ := h1
        have h2 : m = c.cnt := h2
        have h3 : j ∉ o.map (fun p => p.1) := h3
        have hrow : isRow e m c := by rw [h2, ← h1d]; exact isRow_self h1c
        obtain ⟨ow', h4⟩ := h.putE hk hd2 h1e h1a h1b hrow (lk3_no h3)
        exact ih h4 (by simp only [upd_same]; rfl) hp
      · exact hp.elim
theorem Rep.pbN {t : Nat → V} {hd k : Nat} {ow : Own} {hh h' : Nat → Option Blk} (h : Rep X I ρ ow ⟨t, hh⟩ tm w) (hp : (Go.Cx.pbN apf hd k hh).to h') : ∃ ow', Rep X I ρ ow' ⟨t, h'⟩ tm w := by
  unfold Go.Cx.pbN at hp
  split at hp
  · rename_i n e f o hk
    exact h.pbK hk hp
  · cases hp; exact ⟨ow, h⟩
theorem Rep.pbR {t : Nat → V} {hd : Nat} {ow : Own} {hh h' : Nat → Option Blk} (h : Rep X I ρ ow ⟨t, hh⟩ tm w) (hp : (Go.Cx.pbR apf hd hh).to h') : ∃ ow', Rep X I ρ ow' ⟨t, h'⟩ tm w := by
  unfold Go.Cx.pbR at hp
  split at hp
  · rename_i n e f o hk
    exact h.pbL hk hp
  · cases hp; exact ⟨ow, h⟩
theorem Rep.pbAll {t : Nat → V} : ∀ (k : Nat) {l : List Nat} {ow : Own} {hh h' : Nat → Option Blk}, Rep X I ρ ow ⟨t, hh⟩ tm w → (Go.Cx.pbAll apf k l hh).to h' → ∃ ow', Rep X I ρ ow' ⟨t, h'⟩ tm w := by
  intro k
  induction k with
  | zero => intro l ow hh h' h hp; cases hp; exact ⟨ow, h⟩
  | succ k ih =>
    intro l ow hh h' h hp
    cases l with
    | nil => cases hp; exact ⟨ow, h⟩
    | cons x l =>
      simp only [Go.Cx.pbAll] at hp
      split at hp
      · obtain ⟨h1, h2, h3⟩ := bind_to hp
        obtain ⟨ow1, h4⟩ := h.pbR h2
        exact ih h4 h3
      · exact ih h hp
      · exact ih h hp
theorem Rep.pbHs {t : Nat → V} {L : LSt} : ∀ {l : List (Nat × Blk)} {ow : Own} {hh h' : Nat → Option Blk}, Rep X I ρ ow ⟨t, hh⟩ tm w → (Go.Cx.pbHs apf L l hh).to h' → ∃ ow', Rep X I ρ ow' ⟨t, h'⟩ tm w := by
  intro l
  induction l with
  | nil => intro ow hh h' h hp; cases hp; exact ⟨ow, h⟩
  | cons p l ih =>
    intro ow hh h' h hp
    obtain ⟨i, b⟩ := p
    simp only [Go.Cx.pbHs] at hp
    split at hp
    · obtain ⟨h1, h2, h3⟩ := bind_to hp
      obtain ⟨ow1, h4⟩ := h.pbR h2
      exact ih h4 h3
    · obtain ⟨h1, h2, h3⟩ := bind_to hp
      obtain ⟨ow1, h4⟩ := h.pbN h2
      exact ih h4 h3
    · exact ih h hp
end
end Go.Cx
/- CxOp15 -/
namespace Go.Cx
open Go
section
variable {X : Fix} {I : Nat → Prop} {ρ : Rho} {ow : Own} {s : St} {tm : Array Value} {w : World}
/-- what a handle's elements own is another handle's elements' -/
def renO (ow : Own) (x d : Nat) (b : Nat) : Option (List Nat) := match ow b with
  | some (y :: r) => if y = x then some (d :: r) else some (y :: r)
  | o => o
theorem renO_none {ow : Own} {x d b : Nat} (h : ow b = none) : renO ow x d b = none := by simp [renO, h]
theorem renO_ne {ow : Own} {x d b y : Nat} {r : List Nat} (h : ow b = some (y :: r)) (hy : y ≠ x) : renO ow x d b = some (y :: r) := by simp [renO, h, hy]
theorem renO_eq {ow : Own} {x d b : Nat} {r : List Nat} (h : ow b = some (x :: r)) : renO ow x d b = some (d :: r) := by simp [renO, h]
theorem renO_some {ow : Own} {x d b : Nat} {q : List Nat} (h : renO ow x d b = some q) : (ow b = some q ∧ ∀ r, q ≠ x :: r) ∨ ∃ r, ow b = some (x :: r) ∧ q = d :: r := by
  simp only [renO] at h
  split at h
  · rename_i y r e
    split at h
    · rename_i hy; subst hy; cases h; exact .inr ⟨r, e, rfl⟩
    · rename_i hy; cases h; exact .inl ⟨e, fun r' k => by cases k; exact hy rfl⟩
  · rename_i hno
    refine .inl ⟨h, fun r k => ?_⟩
    subst k
    exact hno _ _ h
/-- the row gets another handle -/
theorem Rep.renE (h : Rep X I ρ ow s tm w) {hd d n e k off sz : Nat} {f : Nat → V} {o : List (Nat × Nat × Nat)} (hh : s.h hd = some ⟨.own, .orow n e f o⟩) (hl : ρ hd = some (.at k off sz)) (hn : s.h d = none) (hlt : d < 100000) :
    ∃ ρ' ow', Rho.le ρ ρ' ∧ ρ' d = some (.at k off sz) ∧ Rep X I ρ' ow' ⟨s.t, upd (upd s.h hd (some ⟨.dead, .any⟩)) d (some ⟨.own, .orow n e f o⟩)⟩ tm w := by
  obtain ⟨cur, h1, h2, h3, h4⟩ := own_blk h hh hl
  have hne : d ≠ hd := fun e => by rw [← e, hn] at hh; cases hh
  have hnd : ρ d = none := by
    cases hρ : ρ d with
    | none => rfl
    | some l => exact absurd hn (h.dom d l hρ hlt)
  let ρ' : Rho := fun x => if x = d then some (.at k off sz) else ρ x
  have hle : Rho.le ρ ρ' := fun x l hx => by
    have : x ≠ d := fun e => by rw [e, hnd] at hx; cases hx
    simp only [ρ', if_neg this, hx]
  refine ⟨ρ', renO ow hd d, hle, by simp [ρ'], ?_⟩
  exact
    { h with
      iow := fun b hb => renO_none (h.iow b hb)
      owf := fun b q hb => by
        rcases renO_some hb with ⟨hb2, hq⟩ | ⟨r, hb2, rfl⟩
        · obtain ⟨q1, q2, x, r, c0, q3, q4⟩ := h.owf b q hb2
          refine ⟨q1, q2, x, r, c0, q3, ?_⟩
          have hx1 : x ≠ d := fun e => by rw [e, hn] at q4; cases q4
          have hx2 : x ≠ hd := fun e => hq r (by rw [q3, e])
          simp only [upd_ne _ _ hx1, upd_ne _ _ hx2]; exact q4
        · obtain ⟨q1, q2, _⟩ := h.owf b _ hb2
          exact ⟨q1, q2, d, r, .orow n e f o, rfl, by simp only [upd_same]⟩
      dom := fun x l hx hx2 => by
        by_cases e : x = d
        · subst e; simp [upd]
        · simp only [ρ', if_neg e] at hx
          simp only [upd_ne _ _ e]
          by_cases e2 : x = hd
          · subst e2; simp [upd]
          · simp only [upd_ne _ _ e2]; exact h.dom x l hx hx2
      glob := fun n => by
        obtain ⟨sz, hg⟩ := h.glob n
        exact ⟨sz, hle _ _ hg⟩
      rle := fun x l hx => hle _ _ (h.rle x l hx)
      tmps := fun i => (h.tmps i).mono (fun b hb => ⟨hb, rfl⟩) hle
      heap := fun x blk hx => by
        by_cases e : x = d
        · subst e
          simp only [upd_same, Option.some.injEq] at hx
          subst hx
          refine ⟨.at k off sz, by simp [ρ'], .inr ⟨k, off, sz, cur, rfl, renO_eq h1, h2, h3, by simp, h4.2.1, fun i hi => ?_⟩⟩
          obtain ⟨a2, m2, cp2, k1, k2, k3, k4, k5⟩ := h4.2.2 i hi
          refine ⟨a2, m2, cp2, k1, k2, k3, fun b q hq => ?_, fun hq => ?_⟩
          · obtain ⟨e4, l, e5, e6⟩ := k4 b q hq
            exact ⟨e4, l, hle _ _ e5, e6⟩
          · obtain ⟨e4, e5, e6⟩ := k5 hq
            exact ⟨e4, e5, e6.imp (fun ⟨x1, x2⟩ => ⟨x1, x2.noow⟩) (fun ⟨b, off2, cur2, x1, x2, x3, x4, x5⟩ => ⟨b, off2, cur2, x1, renO_eq x2, x3, x4, x5.noow⟩)⟩
        · simp only [upd_ne _ _ e] at hx
          by_cases e2 : x = hd
          · subst e2
            simp only [upd_same, Option.some.injEq] at hx
            subst hx
            exact ⟨_, hle _ _ hl, trivial⟩
          · simp only [upd_ne _ _ e2] at hx
            obtain ⟨l', q1, q2⟩ := h.heap x blk hx
            exact ⟨l', hle _ _ q1, BRep.keep h (Only.refl w none) (fun k e => by cases e) (fun _ h => h) hle q2 (fun k' r hk' => ⟨by simp, renO_ne hk' e2⟩) (fun b' _ h => renO_none h)⟩ }
/-- the elements go over to a row that begins with the same cells -/
theorem Rep.xferE (h : Rep X I ρ ow s tm w) {hd d n N e k off sz kd offd szd : Nat} {c : V} {f : Nat → V} {o o2 : List (Nat × Nat × Nat)} (hh : s.h hd = some ⟨.own, .orow n e f o⟩) (hl : ρ hd = some (.at k off sz)) (hk : s.h d = some ⟨.own, c⟩) (hne : d ≠ hd)
    (hld : ρ d = some (.at kd offd szd)) (hpos : 0 < N) (hcells : ∀ j, j < n → w.cell? ⟨kd, offd + j, none⟩ = w.cell? ⟨k, off + j, none⟩) (ho : ∀ j, j < n → lk3 o2 j = lk3 o j)
    (hnew : ∀ j, n ≤ j → j < N → ∃ a m cp hu l, w.cell? ⟨kd, offd + j, none⟩ = some (.slice a m cp) ∧ lk3 o2 j = some (hu, m) ∧ m ≤ cp ∧ cp ≤ maxLen ∧ ρ hu = some l ∧ (cp = 0 ∨ ∃ b off' sz', l = .at b off' sz' ∧ a = some ⟨b, off', none⟩ ∧ cp * e ≤ sz')) :
    ∃ ow', Rep X I ρ ow' ⟨s.t, upd (upd s.h hd (some ⟨.dead, .any⟩)) d (some ⟨.own, .orow N e f o2⟩)⟩ tm w := by
  obtain ⟨cur, h1, h2, h3, h4⟩ := own_blk h hh hl
  obtain ⟨curd, g1, g2, g3, g4⟩ := own_blk h hk hld
  let ow' : Own := fun b => if ow b = some [hd] then none else renO ow hd d b
  have o1 : ∀ b x r, x ≠ hd → ow b = some (x :: r) → ow' b = some (x :: r) := fun b x r hx hb => by
    simp only [ow', hb, Option.some.injEq, List.cons.injEq]
    rw [if_neg (fun e => hx e.1)]
    exact renO_ne hb hx
  have o2' : ∀ b, ow b = none → ow' b = none := fun b hb => by
    simp only [ow', hb]
    rw [if_neg (by simp)]
    exact renO_none hb
  have o3 : ∀ b j, ow b = some [hd, j] → ow' b = some [d, j] := fun b j hb => by
    simp only [ow', hb]
    rw [if_neg (by simp)]
    exact renO_eq hb
  refine ⟨ow', ?_⟩
  exact
    { h with
      iow := fun b hb => o2' b (h.iow b hb)
      owf := fun b q hb => by
        simp only [ow'] at hb
        split at hb
        · cases hb
        · rcases renO_some hb with ⟨hb2, hq⟩ | ⟨r, hb2, rfl⟩
          · obtain ⟨q1, q2, x, r, c0, q3, q4⟩ := h.owf b q hb2
            have hx2 : x ≠ hd := fun e => hq r (by rw [q3, e])
            by_cases ee : x = d
            · subst ee; exact ⟨q1, q2, x, r, .orow N e f o2, q3, by simp only [upd_same]⟩
            · exact ⟨q1, q2, x, r, c0, q3, by simp only [upd_ne _ _ ee, upd_ne _ _ hx2]; exact q4⟩
          · obtain ⟨q1, q2, _⟩ := h.owf b _ hb2
            exact ⟨q1, q2, d, r, .orow N e f o2, rfl, by simp only [upd_same]⟩
      dom := fun x l hx hx2 => by
        by_cases e : x = d
        · subst e; simp [upd]
        · simp only [upd_ne _ _ e]
          by_cases e2 : x = hd
          · subst e2; simp [upd]
          · simp only [upd_ne _ _ e2]; exact h.dom x l hx hx2
      heap := fun x blk hx => by
        by_cases e : x = d
        · subst e
          simp only [upd_same, Option.some.injEq] at hx
          subst hx
          refine ⟨_, hld, .inr ⟨kd, offd, szd, curd, rfl, o1 kd x [] hne g1, g2, g3, by simp, hpos, fun i hi => ?_⟩⟩
          by_cases hin : i < n
          · obtain ⟨a2, m2, cp2, k1, k2, k3, k4, k5⟩ := h4.2.2 i hin
            refine ⟨a2, m2, cp2, ?_, k2, k3, fun b q hq => k4 b q (by rw [← ho i hin]; exact hq), fun hq => ?_⟩
            · have := hcells i hin
              rw [g2.cell, h2.cell] at this
              show curd[offd + i]? = _
              rw [this]; exact k1
            · obtain ⟨e4, e5, e6⟩ := k5 (by rw [← ho i hin]; exact hq)
              exact ⟨e4, e5, e6.imp (fun ⟨x1, x2⟩ => ⟨x1, x2.noow⟩) (fun ⟨b, off2, cur2, x1, x2, x3, x4, x5⟩ => ⟨b, off2, cur2, x1, o3 b _ x2, x3, x4, x5.noow⟩)⟩
          · obtain ⟨a2, m2, cp2, hu, l, k1, k2, k3, k4, k5, k6⟩ := hnew i (by omega) hi
            rw [g2.cell] at k1
            refine ⟨a2, m2, cp2, k1, k3, k4, fun b q hq => ?_, fun hq => (by rw [k2] at hq; cases hq)⟩
            rw [k2] at hq
            cases hq
            exact ⟨rfl, l, k5, k6⟩
        · simp only [upd_ne _ _ e] at hx
          by_cases e2 : x = hd
          · subst e2
            simp only [upd_same, Option.some.injEq] at hx
            subst hx
            exact ⟨_, hl, trivial⟩
          · simp only [upd_ne _ _ e2] at hx
            obtain ⟨l', q1, q2⟩ := h.heap x blk hx
            exact ⟨l', q1, BRep.keep h (Only.refl w none) (fun k e => by cases e) (fun _ h => h) (Rho.le_refl _) q2 (fun k' r hk' => ⟨by simp, o1 _ _ _ e2 hk'⟩) (fun b' _ h => o2' b' h)⟩ }
end
section
variable {P : Program} {pure : Nat → Bool} {X : Fix} {I : Nat → Prop} {ρ : Rho} {ow : Own} {s : St} {a : Act} {w : World} {o : Oper}
/-- a whole slice of owned rows, its cells told as they are -/
theorem sl_orow (h : Rep X I ρ ow s a.tmps w) {hd n e : Nat} {cap : Option Nat} {f : Nat → V} {o' : List (Nat × Nat × Nat)} {v : Value} (hv : VRep I w ρ (.sl hd [] 0 n 1 cap) v) (hh : s.h hd = some ⟨.own, .orow n e f o'⟩) :
    ∃ b off sz cp cur, v = .slice (some ⟨b, off, none⟩) n cp ∧ ρ hd = some (.at b off sz) ∧ n ≤ cp ∧ cp ≤ maxLen ∧ cp ≤ sz ∧ 0 < n ∧ ow b = some [hd] ∧ OwnBlk w b cur ∧ cur.size = off + sz ∧ CRep I w ow (.orow n e f o') ρ [hd] 0 (fun j => cur[off + j]?) ∧
      SlRep I w 1 n (.rows 1 n (fun j => .raw ((cur[off + j]?).getD undef))) v := by
  obtain ⟨ad, cp, l, rfl, hl, hncp, hcpm, _, hplace⟩ := vr_sl hv
  obtain ⟨b, off, sz, hl2⟩ := orow_at h hh
  rw [hl] at hl2
  cases hl2
  obtain ⟨cur, q1, q2, q3, q4⟩ := own_blk h hh hl
  have hpos := q4.2.1
  obtain ⟨b2, off2, sz2, e1, rfl, e2⟩ := hplace.resolve_left (by omega)
  cases e1
  simp only [poff, Nat.zero_add, Nat.mul_one, Nat.add_zero] at e2 ⊢
  refine ⟨b, off, sz, cp, cur, rfl, hl, hncp, hcpm, e2, hpos, q1, q2, q3, q4, ⟨_, cp, rfl, hncp, hcpm, .inr ⟨b, off, rfl⟩, fun j hj => ⟨rfl, ?_⟩⟩, rfl, rfl⟩
  obtain ⟨a2, m2, cp2, k1, _⟩ := q4.2.2 j hj
  have k1 : cur[off + j]? = some (.slice a2 m2 cp2) := k1
  show CRep I w (fun _ => none) (V.raw ((cur[off + j]?).getD undef)) noR [] 0 _
  rw [k1]
  refine ⟨?_, rfl⟩
  show w.cell? ⟨b, off + (j * 1 + 0), none⟩ = _
  rw [q2.cell]
  simpa using k1
theorem app_E (h : Rep X I ρ ow s a.tmps w) (hd0 : dstOk X o) {d : Nat} (hdst : o.dst = some d) (hn : s.h d = none) {t u el : TypeId} {x y : Operand} {z : ZT} (ho : o.op = .call { callee := .builtin .append, args := #[x, y], argTypes := #[t, u] })
    (ht : P.underlying t = some (.slice el)) (hu : P.underlying u = some (.slice el)) (hk : EkOk P el (.o 1 z)) (hpos : 0 < byt P el) {hd hy n e hu' mu : Nat} {cap : Option Nat} {f g : Nat → V} {o' : List (Nat × Nat × Nat)}
    (hvx : VRep I w ρ (.sl hd [] 0 n 1 none) (a.eval x)) (hh : s.h hd = some ⟨.own, .orow n e f o'⟩) (hvy : VRep I w ρ (.sl hy [] 0 1 1 cap) (a.eval y)) (hhy : s.h hy = some ⟨.own, .orow 1 e g [(0, hu', mu)]⟩)
    {o2 : List (Nat × Nat × Nat)} (ha : ∀ j, j < n → lk3 o2 j = lk3 o' j) (hb2 : lk3 o2 n = some (hu', mu)) (hb : (n + 1) * byt P el ≤ 140737488355328) :
    StepOk P X o a w s ⟨.sl d [] 0 (n + 1) 1 none, [(hd, ⟨.dead, .any⟩), (d, ⟨.own, .orow (n + 1) e f o2⟩)]⟩ := by
  have hne : d ≠ hd := fun e => by rw [← e, hn] at hh; cases hh
  obtain ⟨b, off, sz, cp, cur, hx, hl, hncp, hcpm, hcpsz, hn0, q1, q2, q3, q4, hslx⟩ := sl_orow h hvx hh
  obtain ⟨by', offy, szy, cpy, cury, hyv, hly, _, _, _, _, _, p2, p3, p4, hsly⟩ := sl_orow h hvy hhy
  obtain ⟨olds, f1, f2, f3, f4, f5⟩ := hslx.first (P := P)
  obtain ⟨news, hap, g1, g2, g4⟩ := Apd.slice (P := P) (el0 := el) hu hsly
  obtain ⟨ay, my, cy, y1, y2, y3, y4, _⟩ := p4.2.2 0 (Nat.lt_succ_self 0)
  obtain ⟨rfl, ly, y5, y6⟩ := y4 hu' mu (by simp [lk3])
  have y1 : cury[offy]? = some (.slice ay my cy) := y1
  obtain ⟨v, rfl⟩ : ∃ v, news = [v] := by
    match news, g1 with
    | [v], _ => exact ⟨v, rfl⟩
  have hv0 : v = .slice ay my cy := by
    have := (g4 0 (Nat.lt_succ_self 0)).2.1
    have this : some v = some ((cury[offy]?).getD undef) := this
    rw [y1] at this
    exact Option.some.inj this
  subst hv0
  have hnle := h.nle
  have hdN : d < X.N := hd0 d hdst
  obtain ⟨i', zv, h1, h2, h3, h4, h5, h6, h7⟩ := hk.i
  have hs1 : (EK.o 1 z).size = 1 := rfl
  rw [hs1] at h3 h5
  have hbi : byt P el = i'.bytes := by simp [byt, h1]
  have hfold : ∀ j, j < n → olds[j]? = cur[off + j]? := fun j hj => by
    rw [f5 b off cp hx j (by omega)]
    exact q2.cell
  rcases Nat.lt_or_ge cp (n + 1) with hlt | hge
  · have hap' : Apd P w el u (a.eval y) i'.size 1 [Value.slice ay my cy] := by rw [h3]; exact hap
    have hnm : n + 1 ≤ (n + 1) * byt P el := Nat.le_mul_of_pos_right _ hpos
    obtain ⟨cap', c1, c2, c3⟩ := run_append_new (P := P) (w := w) (ty := o.type) (ad := some ⟨b, off, none⟩) (n := n) (cp := cp) (olds := olds) ht h1 h2 hap' (by rw [h3, ← hx]; exact f3 w.drew rfl) hlt (by rw [← hbi]; exact hb) (by simp only [maxLen]; omega)
    generalize hcs : (olds ++ [Value.slice ay my cy]).toArray ++ Builtin.zeroCells zv.cells (cap' - (n + 1)) = cs at c3
    have hcsz : cs.size = cap' := by
      rw [← hcs]
      simp only [Array.size_append, List.size_toArray, List.length_append, size_zeroCells', f1, List.length_cons, List.length_nil, h5]
      omega
    have hcell : ∀ j, j < n → cs[j]? = cur[off + j]? := fun j hj => by
      rw [← hfold j hj, ← hcs, ← Array.getElem?_toList]
      simp only [Array.toList_append, List.append_assoc]
      rw [List.getElem?_append_left (by omega)]
    have hcelln : cs[n]? = some (.slice ay my cy) := by
      rw [← hcs, ← Array.getElem?_toList]
      simp only [Array.toList_append, List.append_assoc]
      rw [List.getElem?_append_right (by omega)]
      simp [f1]
    obtain ⟨ρ', ow', r1, r2, r3⟩ := h.new hn (by omega) (Only.drew w none) (cs := cs) (ty := el) (fr := (0, 0)) (c := .rows 1 (n + 1) (fun j => .raw ((cs[j]?).getD undef))) (.inl rfl) rfl (fun j hj => ⟨rfl, by
      by_cases hjn : j < n
      · obtain ⟨a2, m2, cp2, k1, _⟩ := q4.2.2 j hjn
        have k1 : cur[off + j]? = some (.slice a2 m2 cp2) := k1
        have e1 := hcell j hjn
        rw [k1] at e1
        show CRep I w ow (V.raw ((cs[j]?).getD undef)) noR [] 0 _
        rw [e1]
        exact ⟨by simpa using e1, rfl⟩
      · obtain rfl : j = n := by omega
        show CRep I w ow (V.raw ((cs[j]?).getD undef)) noR [] 0 _
        rw [hcelln]
        exact ⟨by simpa using hcelln, rfl⟩⟩)
    have hold : ∀ k, k < w.heap.size → (w.drew.alloc (.cells cs el (0, 0))).heap[k]? = w.heap[k]? := fun k hk => (heap_alloc_old w.drew _ k hk)
    have hbl : b < w.heap.size := by
      obtain ⟨ty, fr, e1, _⟩ := q2
      exact heap_lt e1
    have hnewc : ∀ j, (w.drew.alloc (.cells cs el (0, 0))).cell? ⟨w.drew.heap.size, 0 + j, none⟩ = cs[j]? := fun j => by
      have : OwnBlk (w.drew.alloc (.cells cs el (0, 0))) w.drew.heap.size cs := ⟨el, (0, 0), heap_alloc_new _ _, .inl rfl⟩
      rw [this.cell, Nat.zero_add]
    obtain ⟨ow2, r4⟩ := r3.xferE (hd := hd) (d := d) (N := n + 1) (o2 := o2) (by simp only [upd_ne _ _ (Ne.symm hne)]; exact hh) (r1 _ _ hl) (by simp only [upd_same]; rfl) hne r2 (Nat.succ_pos n) (fun j hj => by
        rw [hnewc, hcell j hj]
        have : OwnBlk (w.drew.alloc (.cells cs el (0, 0))) b cur := q2.same (hold b hbl)
        rw [this.cell]) ha (fun j hj1 hj2 => by
        obtain rfl : j = n := by omega
        exact ⟨ay, my, cy, hu', ly, by rw [hnewc]; exact hcelln, hb2, y2, y3, r1 _ _ y5, y6⟩)
    refine .inl ⟨.slice (some ⟨w.heap.size, 0, none⟩) (n + 1) cap', w.drew.alloc (.cells cs el (0, 0)), ?_, I, ρ', ow2, ?_⟩
    · simp [execOp, ho, Go.resolve, invoke, builtin, hx, c3]
    · have := r4.setT hdN (v := .sl d [] 0 (n + 1) 1 none) (x := .slice (some ⟨w.heap.size, 0, none⟩) (n + 1) cap') (sl_new r2 c1 c2 (by rw [hcsz]; omega) trivial)
      rw [hdst]
      have e1 : upd (upd (upd s.h d (some ⟨.own, .rows 1 (n + 1) (fun j => .raw ((cs[j]?).getD undef))⟩)) hd (some ⟨.dead, .any⟩)) d (some ⟨.own, .orow (n + 1) e f o2⟩) = upd (upd s.h hd (some ⟨.dead, .any⟩)) d (some ⟨.own, .orow (n + 1) e f o2⟩) := by
        funext k; simp only [upd]; repeat' split
        all_goals rfl
      rw [e1] at this
      exact this
  · have hap' : Apd P w el u (a.eval y) i'.size 1 [Value.slice ay my cy] := by rw [h3]; exact hap
    obtain ⟨ρ', ow', r1, r2, r3⟩ := h.renE hh hl hn (by omega)
    have hD : (upd (upd s.h hd (some ⟨.dead, .any⟩)) d (some ⟨.own, .orow n e f o'⟩)) d = some ⟨.own, .orow n e f o'⟩ := by simp only [upd_same]
    obtain ⟨curd, d1, d2, d3, d4⟩ := own_blk r3 hD r2
    obtain ⟨w', cur', s1, s2, s3, s4, s5, s6⟩ := run_storeN (P := P) [Value.slice ay my cy] 0 curd w d2 (off := off + n) (by simp only [List.length_cons, List.length_nil]; omega) g2
    have hrun := run_append_room' (P := P) (w := w) (ty := o.type) (ad := some ⟨b, off, none⟩) (n := n) (cp := cp) (w' := w') ht h1 hap' hge (fun a ha => by
      cases ha
      rw [Addr.add_lit, h3, Nat.mul_one]
      exact s1) (fun e => by cases e)
    have r5 := r3.write (hd := d) (c' := .orow (n + 1) e f o2) (cur := curd) (cur' := cur') hD r2 d1 s2 s3 s4 (by rw [s5]; exact d3) ⟨by simp, Nat.succ_pos n, fun j hj => by
      by_cases hjn : j < n
      · obtain ⟨a2, m2, cp2, k1, k2, k3, k4, k5⟩ := d4.2.2 j hjn
        refine ⟨a2, m2, cp2, ?_, k2, k3, fun b q hq => k4 b q (by rw [← ha j hjn]; exact hq), fun hq => k5 (by rw [← ha j hjn]; exact hq)⟩
        show cur'[off + j]? = _
        rw [s6, if_neg (by omega)]
        exact k1
      · obtain rfl : j = n := by omega
        refine ⟨ay, my, cy, ?_, y2, y3, fun b q hq => ?_, fun hq => by rw [hb2] at hq; cases hq⟩
        · show cur'[off + j]? = _
          rw [s6, if_pos (by simp only [List.length_cons, List.length_nil]; omega)]
          simp
        · rw [hb2] at hq
          cases hq
          exact ⟨rfl, ly, r1 _ _ y5, y6⟩⟩ rfl
    refine .inl ⟨.slice (some ⟨b, off, none⟩) (n + 1) cp, w', by simp [execOp, ho, Go.resolve, invoke, builtin, hx, hrun], I, ρ', ow', ?_⟩
    have := r5.setT hdN (v := .sl d [] 0 (n + 1) 1 none) (x := .slice (some ⟨b, off, none⟩) (n + 1) cp) (leaf_vr rfl rfl rfl ⟨_, cp, _, rfl, r2, hge, hcpm, trivial, .inr ⟨b, off, sz, rfl, by simp [poff], by simp only [poff]; omega⟩⟩)
    rw [hdst]
    have e1 : upd (upd (upd s.h hd (some ⟨.dead, .any⟩)) d (some ⟨.own, .orow n e f o'⟩)) d (some ⟨.own, .orow (n + 1) e f o2⟩) = upd (upd s.h hd (some ⟨.dead, .any⟩)) d (some ⟨.own, .orow (n + 1) e f o2⟩) := by
      funext k; simp only [upd]; repeat' split
      all_goals rfl
    rw [e1] at this
    exact this
theorem lk3_end {n x m : Nat} : ∀ {o : List (Nat × Nat × Nat)}, n ∉ o.map (fun p => p.1) → (∀ j, j < n → lk3 (o ++ [(n, x, m)]) j = lk3 o j) ∧ lk3 (o ++ [(n, x, m)]) n = some (x, m) := by
  intro o
  induction o with
  | nil => intro _; exact ⟨fun j hj => by simp only [List.nil_append, lk3, if_neg (Nat.ne_of_lt hj)], by simp [lk3]⟩
  | cons p o ih =>
    intro h
    obtain ⟨i, y⟩ := p
    simp only [List.map_cons, List.mem_cons, not_or] at h
    obtain ⟨g1, g2⟩ := ih h.2
    refine ⟨fun j hj => ?_, ?_⟩
    · simp only [List.cons_append, lk3, g1 j hj]
    · simp only [List.cons_append, lk3, if_neg h.1]
      exact g2
theorem step_appE (h : Rep X I ρ ow s a.tmps w) (hd0 : dstOk X o) {t u el : TypeId} {x y : Operand} {z : ZT} {ix iy : IX} (ho : o.op = .call { callee := .builtin .append, args := #[x, y], argTypes := #[t, u] })
    (ht : P.underlying t = some (.slice el)) (hu : P.underlying u = some (.slice el)) (hk : EkOk P el (.o 1 z)) (hpos : 0 < byt P el) (hx : opIX x = some ix) (hy : opIX y = some iy) {e : Eff} {E : List (Nat × Ctr)}
    (he : (stepR apf E s.t s.h o.dst (.appE (byt P el) ix iy)).to e) : StepOk P X o a w s e := by
  have hvx := ev_rep h hx
  have hvy := ev_rep h hy
  simp only [stepR] at he
  obtain ⟨d, hdst, hn, he⟩ := fresh_to he
  split at he
  · rename_i hd i n e1 hy' i2 m e2 cap k1 k2
    rw [k1] at hvx
    rw [k2] at hvy
    obtain ⟨hc, he⟩ := rif_to he
    simp only [Bool.and_eq_true, beq_iff_eq, bne_iff_ne] at hc
    obtain ⟨⟨rfl, rfl⟩, _⟩ := hc
    split at he
    · rename_i nx es f o' ny es' g j0 hu' mu hh hhy
      obtain ⟨_, he2⟩ := rif_to he
      obtain ⟨hee, g1, g2, g3, g4, g5, g6, g7, g8, he3⟩ := rif_to he2
      clear he he2
      obtain rfl : es = es' := by simpa using hee
      obtain rfl : i = 0 := g1
      obtain rfl : n = nx := g2
      obtain rfl : i2 = 0 := g3
      obtain rfl : m = 1 := g4
      obtain rfl : ny = 1 := g5
      obtain rfl : j0 = 0 := g6
      cases he3
      exact app_E h hd0 hdst hn ho ht hu hk hpos hvx hh hvy hhy (lk3_end g8).1 (lk3_end g8).2 g7
    · exact (rif_to he).2.elim
  · exact he.elim
end
end Go.Cx
/- CxCall -/
namespace Go.Cx
open Go
/-- content of a block whose owner has a new name -/
theorem CRep.reown {I : Nat → Prop} {w : World} {ow ow' : Own} (c : V) : ∀ (ρ ρ' : Rho) (q q' : List Nat) (pos : Nat) (g : Nat → Option Value), c.clo = true →
    (q ≠ [] → q' ≠ [] ∧ ∀ b r, r ≠ [] → ow b = some (q ++ r) → ow' b = some (q' ++ r)) → CRep I w ow c ρ q pos g → CRep I w ow' c ρ' q' pos g := by
  induction c with
  | cat n m a b iha ihb =>
    intro ρ ρ' q q' pos g hc ho h
    simp only [V.clo, Bool.and_eq_true] at hc
    exact ⟨h.1, h.2.1, iha _ _ _ _ _ _ hc.1 ho h.2.2.1, ihb _ _ _ _ _ _ hc.2 ho h.2.2.2⟩
  | one a ih =>
    intro ρ ρ' q q' pos g hc ho h
    exact ⟨h.1, ih _ _ _ _ _ _ (by simpa [V.clo] using hc) ho h.2⟩
  | ptr h p => intro ρ ρ' q q' pos g hc; simp [V.clo] at hc
  | sl h p i n e cap => intro ρ ρ' q q' pos g hc; simp [V.clo] at hc
  | any => intro ρ ρ' q q' pos g hc; simp [V.clo] at hc
  | tcons a b => intro ρ ρ' q q' pos g hc ho h; exact h.elim
  | tnil => intro ρ ρ' q q' pos g hc ho h; exact h.elim
  | osl n e c ih =>
    intro ρ ρ' q q' pos g hc ho h
    simp only [V.clo] at hc
    obtain ⟨h1, a, cp, h2, h3, h4, h5, h6⟩ := h
    obtain ⟨k1, k2⟩ := ho h1
    have key : ∀ b r, r ≠ [] → ow b = some (q ++ [pos] ++ r) → ow' b = some (q' ++ [pos] ++ r) := fun b r hr hb => by
      have := k2 b ([pos] ++ r) (by simp) (by simpa using hb)
      simpa using this
    refine ⟨k1, a, cp, h2, h3, h4, h5, h6.imp (fun ⟨e1, e2⟩ => ⟨e1, ?_⟩) (fun ⟨b, off, cur, e1, e2, e3, e4, e5⟩ => ⟨b, off, cur, e1, k2 b _ (by simp) e2, e3, e4, ?_⟩)⟩
    · exact CRep.mono (fun b hb => ⟨hb, rfl⟩) _ _ _ _ _ _ _ (Rho.le_refl _) (fun h => absurd rfl h) (fun _ _ => rfl) e2
    · exact ih _ _ _ _ _ _ hc (fun _ => ⟨by simp, key⟩) e5
  | optr c ih =>
    intro ρ ρ' q q' pos g hc ho h
    simp only [V.clo] at hc
    obtain ⟨h1, b, off, cur, h2, h3, h4, h6, h5⟩ := h
    obtain ⟨k1, k2⟩ := ho h1
    have key : ∀ b r, r ≠ [] → ow b = some (q ++ [pos] ++ r) → ow' b = some (q' ++ [pos] ++ r) := fun b r hr hb => by
      have := k2 b ([pos] ++ r) (by simp) (by simpa using hb)
      simpa using this
    exact ⟨k1, b, off, cur, h2, k2 b _ (by simp) h3, h4, h6, ih _ _ _ _ _ _ hc (fun _ => ⟨by simp, key⟩) h5⟩
  | dptr c p => intro ρ ρ' q q' pos g hc ho h; obtain ⟨b, off, h1, h2, h3⟩ := h; exact ⟨b, off, h1, h2, h3.noow⟩
  | dsl n e c => intro ρ ρ' q q' pos g hc ho h; obtain ⟨a, cp, h1, h2, h3, h4, h5, h6⟩ := h; exact ⟨a, cp, h1, h2, h3, h4, h5.noow, h6⟩
  | rows e n f => intro ρ ρ' q q' pos g hc ho h j hj; exact ⟨(h j hj).1, (h j hj).2.noow⟩
  | orow n e f o ih =>
    intro ρ ρ' q q' pos g hc ho h
    cases o with
    | cons => simp [V.clo] at hc
    | nil =>
      obtain ⟨h1, h0, h2⟩ := h
      obtain ⟨k1, k2⟩ := ho h1
      refine ⟨k1, h0, fun j hj => ?_⟩
      obtain ⟨a, m, cp, g1, g2, g3, _, g5⟩ := h2 j hj
      refine ⟨a, m, cp, g1, g2, g3, fun h k hl => (by cases hl), fun hn => ?_⟩
      obtain ⟨r1, r2, r3⟩ := g5 hn
      refine ⟨r1, r2, r3.imp (fun ⟨e1, e2⟩ => ⟨e1, e2.noow⟩) (fun ⟨b, off, cur, e1, e2, e3, e4, e5⟩ => ⟨b, off, cur, e1, k2 b _ (by simp) e2, e3, e4, e5.noow⟩)⟩
  | _ => intro ρ ρ' q q' pos g hc ho h; exact h
/-- a value whose handles have new names -/
theorem CRep.rename {I : Nat → Prop} {w : World} {n : Nat} {f : Nat → Nat} (v : V) : ∀ (ρ ρ' : Rho) (pos : Nat) (g : Nat → Option Value), v.hOk n = true → (∀ a l, a < n → ρ a = some l → ρ' (f a) = some l) →
    CRep I w (fun _ => none) v ρ [] pos g → CRep I w (fun _ => none) (renV f v) ρ' [] pos g ∧ (renV f v).size = v.size ∧ (renV f v).isAgg = v.isAgg := by
  induction v with
  | ptr h p =>
    intro ρ ρ' pos g hc hr hh
    obtain ⟨b, off, sz, h1, h2⟩ := hh
    exact ⟨⟨b, off, sz, hr _ _ (by simpa [V.hOk] using hc) h1, h2⟩, rfl, rfl⟩
  | sl h p i n e cap =>
    intro ρ ρ' pos g hc hr hh
    obtain ⟨a, c, l, h1, h2, h3⟩ := hh
    exact ⟨⟨a, c, l, h1, hr _ _ (by simpa [V.hOk] using hc) h2, h3⟩, rfl, rfl⟩
  | cat n m a b iha ihb =>
    intro ρ ρ' pos g hc hr hh
    simp only [V.hOk, Bool.and_eq_true] at hc
    obtain ⟨h1, h2, h3, h4⟩ := hh
    have ha := iha _ _ _ _ hc.1 hr h3
    have hb := ihb _ _ _ _ hc.2 hr h4
    exact ⟨⟨ha.2.1.trans h1, hb.2.1.trans h2, ha.1, hb.1⟩, rfl, rfl⟩
  | tcons a b => intro ρ ρ' pos g hc hr hh; exact hh.elim
  | _ => intro ρ ρ' pos g hc hr hh; exact ⟨CRep.closed _ _ _ _ _ _ hc hh, rfl, rfl⟩
theorem VRep0.rename {I : Nat → Prop} {w : World} {n : Nat} {f : Nat → Nat} {v : V} {x : Value} {ρ ρ' : Rho} (hc : v.hOk n = true) (hr : ∀ a l, a < n → ρ a = some l → ρ' (f a) = some l) (h : VRep0 I w ρ v x) : VRep0 I w ρ' (renV f v) x := by
  rcases h with rfl | ⟨h1, h2, h3⟩
  · simp [V.hOk, V.clo] at hc
  · obtain ⟨k1, k2, k3⟩ := CRep.rename v _ _ _ _ hc hr h3
    exact .inr ⟨by rw [k2, h1], by rw [k3, h2], k1⟩
theorem TRep.rename {I : Nat → Prop} {w : World} {n : Nat} {f : Nat → Nat} {ρ ρ' : Rho} (hr : ∀ a l, a < n → ρ a = some l → ρ' (f a) = some l) : ∀ {v : V} {l : List Value}, v.hOk n = true → TRep I w ρ v l → TRep I w ρ' (renV f v) l := by
  intro v
  induction v with
  | tnil => intro l _ h; exact h
  | tcons a b _ ihb =>
    intro l hc h
    simp only [V.hOk, Bool.and_eq_true] at hc
    obtain ⟨y, r, h1, h2, h3⟩ := h
    exact ⟨y, r, h1, h2.rename hc.1 hr, ihb hc.2 h3⟩
  | _ => intro l _ h; exact h.elim
theorem VRep.rename {I : Nat → Prop} {w : World} {n : Nat} {f : Nat → Nat} {v : V} {x : Value} {ρ ρ' : Rho} (hc : v.hOk n = true) (hr : ∀ a l, a < n → ρ a = some l → ρ' (f a) = some l) (h : VRep I w ρ v x) : VRep I w ρ' (renV f v) x := by
  cases v with
  | tnil => exact h
  | tcons a b => obtain ⟨l, h1, h2⟩ := h; exact ⟨l, h1, TRep.rename hr hc h2⟩
  | _ => exact VRep0.up (VRep0.rename hc hr h)
section
variable {X : Fix} {I : Nat → Prop} {ρ : Rho} {ow : Own} {s : St} {tm : Array Value} {w : World}
/-- the blocks that go with the objects handed over -/
def overF (ow : Own) (hs : List Nat) : Nat → Prop := fun b => ∃ x r, ow b = some (x :: r) ∧ x ∈ hs
open Classical in
noncomputable def backRho (ρ ρ' : Rho) (rn : Nat → Option Nat) : Rho := fun b => if h : ∃ a, rn a = some b then ρ' h.choose else ρ b
open Classical in
noncomputable def backOw (ow ow' : Own) (F' : Nat → Prop) (n : Nat) (rn : Nat → Option Nat) : Own := fun b =>
  if b < n ∧ ¬ F' b then ow b else match ow' b with | some (a :: r) => (rn a).map (· :: r) | _ => none
/-- The caller's state behind a call. -/
theorem Rep.back (h : Rep X I ρ ow s tm w) {hs : List Nat} {I' : Nat → Prop} {ρ' r0 : Rho} {ow' : Own} {hc' hh : Nat → Option Blk} {w' : World} {rn : Nat → Option Nat}
    (h' : Rep ⟨overF ow hs, I, w, 0, r0⟩ I' ρ' ow' ⟨fun _ => .any, hc'⟩ #[] w')
    (inj : ∀ a a' b, rn a = some b → rn a' = some b → a = a')
    (h1 : ∀ a b, rn a = some b → (∃ c, hc' a = some ⟨.own, c⟩ ∧ c.clo = true ∧ hh b = some ⟨.own, c⟩) ∧ ((b ∈ hs ∧ ρ b = ρ' a) ∨ (b < 100000 ∧ s.h b = none)))
    (h2 : ∀ b, (∀ a, rn a ≠ some b) → b ∉ hs ∧ hh b = s.h b) :
    ∃ ρ'' ow'', Rho.le ρ ρ'' ∧ (∀ a b, rn a = some b → ρ'' b = ρ' a) ∧ Rep X I' ρ'' ow'' ⟨s.t, hh⟩ tm w' := by
  classical
  have hnew : ∀ a b, rn a = some b → backRho ρ ρ' rn b = ρ' a := fun a b hab => by
    have hex : ∃ a, rn a = some b := ⟨a, hab⟩
    simp only [backRho, dif_pos hex]
    rw [inj _ _ _ hex.choose_spec hab]
  have hold : ∀ b, (∀ a, rn a ≠ some b) → backRho ρ ρ' rn b = ρ b := fun b hb => by
    have hex : ¬ ∃ a, rn a = some b := fun ⟨a, ha⟩ => hb a ha
    simp only [backRho, dif_neg hex]
  have hle : Rho.le ρ (backRho ρ ρ' rn) := fun b l hl => by
    by_cases hex : ∃ a, rn a = some b
    · obtain ⟨a, ha⟩ := hex
      rw [hnew a b ha]
      obtain ⟨_, ⟨_, e⟩ | ⟨hb, e⟩⟩ := h1 a b ha
      · rw [← e]; exact hl
      · exact absurd e (h.dom b l hl hb)
    · rw [hold b (fun a ha => hex ⟨a, ha⟩)]; exact hl
  have hF : ∀ b, overF ow hs b → b < w.heap.size ∧ (X.F b ∨ X.w0.heap.size ≤ b) := fun b ⟨x, r, hb, _⟩ => ⟨(h.owf b _ hb).1, (h.owf b _ hb).2.1⟩
  have hnF : ∀ b, ow b = none → ¬ overF ow hs b := fun b hb ⟨x, r, e, _⟩ => by rw [hb] at e; cases e
  have hnF2 : ∀ b x r, ow b = some (x :: r) → x ∉ hs → ¬ overF ow hs b := fun b x r hb hx ⟨x', r', e, hx'⟩ => by
    rw [hb] at e; cases e; exact hx hx'
  have owold : ∀ b, b < w.heap.size → ¬ overF ow hs b → backOw ow ow' (overF ow hs) w.heap.size rn b = ow b := fun b hb hn => by
    simp only [backOw, if_pos (And.intro hb hn)]
  have ownew : ∀ b, (overF ow hs b ∨ w.heap.size ≤ b) → backOw ow ow' (overF ow hs) w.heap.size rn b = match ow' b with | some (a :: r) => (rn a).map (· :: r) | _ => none := fun b hb => by
    have : ¬ (b < w.heap.size ∧ ¬ overF ow hs b) := fun ⟨e1, e2⟩ => by
      rcases hb with hb | hb
      · exact e2 hb
      · omega
    simp only [backOw, if_neg this]
  have hframe : ∀ b, b < w.heap.size → ¬ overF ow hs b → w'.heap[b]? = w.heap[b]? := fun b hb hn => h'.frame b hb hn
  have hII : ∀ b, I b → I' b ∧ w'.heap[b]? = w.heap[b]? := fun b hb => ⟨h'.iold b hb, hframe b (h.ilt b hb) (hnF b (h.iow b hb))⟩
  refine ⟨backRho ρ ρ' rn, backOw ow ow' (overF ow hs) w.heap.size rn, hle, hnew, ?_⟩
  exact
    { frame := fun b hb hFb => (hframe b (Nat.lt_of_lt_of_le hb h.size) (fun e => by
        rcases (hF b e).2 with e | e
        · exact hFb e
        · omega)).trans (h.frame b hb hFb)
      size := Nat.le_trans h.size h'.size
      os := h'.os.trans h.os
      tape := h'.tape.trans h.tape
      output := h'.output.trans h.output
      iold := fun b hb => h'.iold b (h.iold b hb)
      inew := fun b hb => by
        rcases h'.inew b hb with e | e | e
        · exact h.inew b e
        · exact .inr (hF b e).2
        · exact .inr (.inr (Nat.le_trans h.size e))
      ilt := h'.ilt
      iow := fun b hb => by
        by_cases hc : b < w.heap.size ∧ ¬ overF ow hs b
        · rw [owold b hc.1 hc.2]
          rcases h'.inew b hb with e | e | e
          · exact h.iow b e
          · exact absurd e hc.2
          · have e : w.heap.size ≤ b := e
            omega
        · have hc2 : overF ow hs b ∨ w.heap.size ≤ b := by
            by_cases e : overF ow hs b
            · exact .inl e
            · exact .inr (Nat.le_of_not_lt fun e2 => hc ⟨e2, e⟩)
          rw [ownew b hc2, h'.iow b hb]
      owf := fun b q hb => by
        by_cases hc : b < w.heap.size ∧ ¬ overF ow hs b
        · rw [owold b hc.1 hc.2] at hb
          obtain ⟨g1, g2, x, r, c, rfl, g3⟩ := h.owf b q hb
          refine ⟨Nat.lt_of_lt_of_le g1 h'.size, g2, x, r, c, rfl, ?_⟩
          by_cases hex : ∃ a, rn a = some x
          · obtain ⟨a, ha⟩ := hex
            obtain ⟨_, ⟨e, _⟩ | ⟨_, e⟩⟩ := h1 a x ha
            · exact absurd ⟨x, r, hb, e⟩ hc.2
            · rw [e] at g3; cases g3
          · exact (h2 x (fun a ha => hex ⟨a, ha⟩)).2.trans g3
        · have hc2 : overF ow hs b ∨ w.heap.size ≤ b := by
            by_cases e : overF ow hs b
            · exact .inl e
            · exact .inr (Nat.le_of_not_lt fun e2 => hc ⟨e2, e⟩)
          rw [ownew b hc2] at hb
          split at hb
          · rename_i a r hab
            obtain ⟨g1, g2, _⟩ := h'.owf b _ hab
            cases hra : rn a with
            | none => rw [hra] at hb; cases hb
            | some y =>
              rw [hra] at hb
              cases hb
              obtain ⟨⟨c, _, _, e⟩, _⟩ := h1 a y hra
              refine ⟨g1, ?_, y, r, c, rfl, e⟩
              rcases g2 with g2 | g2
              · exact (hF b g2).2
              · exact .inr (Nat.le_trans h.size g2)
          · cases hb
      dom := fun b l hl hb => by
        by_cases hex : ∃ a, rn a = some b
        · obtain ⟨a, ha⟩ := hex
          obtain ⟨⟨c, _, _, e⟩, _⟩ := h1 a b ha
          simp only [e]; simp
        · rw [hold b (fun a ha => hex ⟨a, ha⟩)] at hl
          simp only [(h2 b (fun a ha => hex ⟨a, ha⟩)).2]
          exact h.dom b l hl hb
      glob := fun n => by
        obtain ⟨sz, hg⟩ := h.glob n
        exact ⟨sz, hle _ _ hg⟩
      tsz := h.tsz
      nle := h.nle
      rle := fun b l hl => hle _ _ (h.rle b l hl)
      tmps := fun i => (h.tmps i).mono hII hle
      heap := fun b blk hb => by
        by_cases hex : ∃ a, rn a = some b
        · obtain ⟨a, ha⟩ := hex
          obtain ⟨⟨c, e1, e2, e3⟩, _⟩ := h1 a b ha
          simp only [e3, Option.some.injEq] at hb
          subst hb
          obtain ⟨l, g1, g2⟩ := h'.heap a _ e1
          refine ⟨l, by rw [hnew a b ha]; exact g1, ?_⟩
          rcases g2 with ⟨rfl, g3, g4⟩ | ⟨k, off, sz, cur, rfl, g3, g4, g5, g6⟩
          · exact .inl ⟨rfl, g3, CRep.reown _ _ _ _ _ _ _ e2 (fun h => absurd rfl h) g4⟩
          · have hk := (h'.owf k _ g3).2.1
            refine .inr ⟨k, off, sz, cur, rfl, by rw [ownew k hk, g3]; simp [ha], g4, g5, CRep.reown _ _ _ _ _ _ _ e2 (fun _ => ⟨by simp, fun b' r hr hb' => ?_⟩) g6⟩
            have hk' := (h'.owf b' _ hb').2.1
            rw [ownew b' hk', hb']
            simp [ha]
        · obtain ⟨hnb, e⟩ := h2 b (fun a ha => hex ⟨a, ha⟩)
          simp only [e] at hb
          obtain ⟨l, g1, g2⟩ := h.heap b blk hb
          refine ⟨l, hle _ _ g1, ?_⟩
          unfold BRep at *
          split at g2
          · rcases g2 with ⟨g3, g4, g5⟩ | ⟨k, off, sz, cur, g3, g4, g5, g6, g7⟩
            · exact .inl ⟨g3, g4, CRep.mono hII _ _ _ _ _ _ _ hle (fun h => absurd rfl h) (fun _ _ => rfl) g5⟩
            · have hkF := hnF2 k b [] g4 hnb
              refine .inr ⟨k, off, sz, cur, g3, by rw [owold k g5.lt hkF]; exact g4, g5.same (hframe k g5.lt hkF), g6, CRep.mono hII _ _ _ _ _ _ _ hle (fun _ b' r _ hb' => ?_) (fun _ _ => rfl) g7⟩
              have hbF := hnF2 b' b r hb' hnb
              have hbl := (h.owf b' _ hb').1
              exact ⟨by rw [owold b' hbl hbF]; exact hb', hframe b' hbl hbF⟩
          · rcases g2 with ⟨g3, g4, g5⟩ | ⟨k, off, sz, g3, g4, g5, g6, g7⟩
            · exact .inl ⟨g3, g4, CRep.mono hII _ _ _ _ _ _ _ hle (fun h => absurd rfl h) (fun _ _ => rfl) g5⟩
            · have hkF := hnF k g5
              refine .inr ⟨k, off, sz, g3, Nat.lt_of_lt_of_le g4 h'.size, by rw [owold k g4 hkF]; exact g5, g6, ?_⟩
              rw [cellsAt_same (hframe k g4 hkF)]
              exact CRep.mono hII _ _ _ _ _ _ _ hle (fun h => absurd rfl h) (fun _ _ => rfl) g7
          · rcases g2 with ⟨g3, g4, g5⟩ | ⟨k, off, sz, g3, g4, g5, g6⟩
            · exact .inl ⟨g3, g4, CRep.mono hII _ _ _ _ _ _ _ (Rho.le_refl _) (fun h => absurd rfl h) (fun _ _ => rfl) g5⟩
            · refine .inr ⟨k, off, sz, g3, (hII k g4).1, g5, ?_⟩
              rw [cellsAt_same (hII k g4).2]
              exact CRep.mono hII _ _ _ _ _ _ _ (Rho.le_refl _) (fun h => absurd rfl h) (fun _ _ => rfl) g6
          · trivial }
end
end Go.Cx
/- CxCall2 -/
namespace Go.Cx
open Go
def parV (i : Nat) : Arg → V
  | .v v => v
  | .b n e _ => .sl (parH i) [] 0 n e none
  | .o _ none => .ptr (parH i) []
  | .o _ (some (j, n, e, cap)) => .sl (parH i) [] j n e cap
/-- an object, as it is handed over -/
def vwV : Option (Nat × Nat × Nat × Option Nat) → Nat → V
  | none, hd => .ptr hd []
  | some (j, n, e, cap), hd => .sl hd [] j n e cap
def parB (pure : Bool) : Arg → Option Blk
  | .v _ => none
  | .b _ _ c => some ⟨.bor, c⟩
  | .o c _ => some ⟨if pure then .bor else .own, c⟩
def parHs (G : List (Nat × V)) (pure : Bool) (args : List Arg) : Nat → Option Blk := fun h =>
  if 200000 ≤ h then (look G (h - 200000)).map fun c => ⟨.imm, c⟩ else if 100000 ≤ h then (args[h - 100000]?).bind (parB pure) else none
def outO : Nat → List Arg → List V → List (Nat × Blk)
  | i, .o _ _ :: r, c :: cs => (parH i, ⟨.own, c⟩) :: outO (i + 1) r cs
  | _, .o _ _ :: _, [] => []
  | i, _ :: r, cs => outO (i + 1) r cs
  | _, [], _ => []
def outN : Nat → List V → List (Nat × Blk)
  | _, [] => []
  | j, c :: r => (j, ⟨.own, c⟩) :: outN (j + 1) r
def outHs (args : List Arg) (out : Out) : Nat → Option Blk := look (outO 0 args out.objs ++ outN 0 out.news)
/-- the package's variables that are known: laid once, never written -/
structure GOk (G : List (Nat × V)) (X : Fix) : Prop where
  i0 : ∀ b, X.I0 b → ¬ X.F b ∧ b < X.w0.heap.size
  g : ∀ n c, look G n = some c → X.I0 n ∧ (∃ sz, X.r0 (globH n) = some (.at n 0 sz) ∧ c.size ≤ sz) ∧ CRep X.I0 X.w0 (fun _ => none) c noR [] 0 (cellsAt X.w0 n 0)
section
variable {G : List (Nat × V)} {X : Fix} {I : Nat → Prop} {ρ : Rho} {ow : Own} {s : St} {tm : Array Value} {w : World}
theorem Rep.glo (h : Rep X I ρ ow s tm w) (hG : GOk G X) {n : Nat} {c : V} (hn : look G n = some c) :
    I n ∧ (∃ sz, ρ (globH n) = some (.at n 0 sz) ∧ c.size ≤ sz) ∧ CRep I w (fun _ => none) c noR [] 0 (cellsAt w n 0) := by
  obtain ⟨h1, ⟨sz, h2, h3⟩, h4⟩ := hG.g n c hn
  have hII : ∀ b, X.I0 b → I b ∧ w.heap[b]? = X.w0.heap[b]? := fun b hb => ⟨h.iold b hb, h.frame b (hG.i0 b hb).2 (hG.i0 b hb).1⟩
  refine ⟨h.iold n h1, ⟨sz, h.rle _ _ h2, h3⟩, ?_⟩
  rw [cellsAt_same (hII n h1).2]
  exact CRep.mono hII _ _ _ _ _ _ _ (Rho.le_refl _) (fun h => absurd rfl h) (fun _ _ => rfl) h4
end
section
variable (I : Nat → Prop) (w : World) (ρ : Rho) (ow : Own) (s : St) (pure : Bool) (HS : List Nat)
/-- one argument -/
def ArgOk (arg : Arg) (x : Value) (lo : Lo) (ho : Option Nat) : Prop := match arg with
  | .v v => VRep I w noR v x ∧ ho = none
  | .b n e c => ho = none ∧ isRow e n c ∧ ∃ ad cp, x = .slice ad n cp ∧ n ≤ cp ∧ cp ≤ maxLen ∧ CRep I w (fun _ => none) c noR [] 0 (behind w ad) ∧
      ((cp = 0 ∧ lo = .ph) ∨ ∃ b off, ad = some ⟨b, off, none⟩ ∧ lo = .at b off (cp * e) ∧ b < w.heap.size ∧ ∀ q, ow b = some q → ∃ hd, q = [hd] ∧ hd ∉ HS)
  | .o c vw => ∃ hd kk, s.h hd = some ⟨kk, c⟩ ∧ c.clo = true ∧ ρ hd = some lo ∧ VRep I w ρ (vwV vw hd) x ∧
      ((pure = false ∧ kk = .own ∧ ho = some hd) ∨ (pure = true ∧ c.noown = true ∧ (kk = .own ∨ kk = .bor) ∧ ho = none))
def ArgsOk : List Arg → List Value → List Lo → List (Option Nat) → Prop
  | a :: as, x :: xs, l :: ls, h :: hs => ArgOk I w ρ ow s pure HS a x l h ∧ ArgsOk as xs ls hs
  | [], [], [], [] => True
  | _, _, _, _ => False
end
section
variable {I : Nat → Prop} {w : World} {ρ : Rho} {ow : Own} {s : St} {pure : Bool} {HS : List Nat}
theorem ArgsOk.get : ∀ {as : List Arg} {xs : List Value} {ls : List Lo} {hs : List (Option Nat)}, ArgsOk I w ρ ow s pure HS as xs ls hs → as.length = xs.length ∧ as.length = ls.length ∧ as.length = hs.length ∧
    ∀ (i : Nat) (a : Arg), as[i]? = some a → ∃ x l h, xs[i]? = some x ∧ ls[i]? = some l ∧ hs[i]? = some h ∧ ArgOk I w ρ ow s pure HS a x l h
  | [], [], [], [], _ => ⟨rfl, rfl, rfl, fun i a h => by simp at h⟩
  | a :: as, x :: xs, l :: ls, h :: hs, ⟨h1, h2⟩ => by
    obtain ⟨g1, g2, g3, g4⟩ := ArgsOk.get h2
    refine ⟨by simp [g1], by simp [g2], by simp [g3], fun i b hb => ?_⟩
    cases i with
    | zero => cases hb; exact ⟨x, l, h, rfl, rfl, rfl, h1⟩
    | succ i => simpa using g4 i b (by simpa using hb)
  | [], _ :: _, _, _, h => h.elim
  | [], [], _ :: _, _, h => h.elim
  | [], [], [], _ :: _, h => h.elim
  | _ :: _, [], _, _, h => h.elim
  | _ :: _, _ :: _, [], _, h => h.elim
  | _ :: _, _ :: _, _ :: _, [], h => h.elim
end
section
variable {P : Program} {X : Fix} {I : Nat → Prop} {ρ : Rho} {ow : Own} {s : St} {a : Act} {w : World} {o : Oper} {pure : Bool} {HS : List Nat}
theorem closed_vr {v : V} {x : Value} (hc : v.clo = true) (hn : ∀ n e c, v ≠ .osl n e c) (hn2 : ∀ c, v ≠ .optr c) (h : VRep I w ρ v x) : VRep I w noR v x := by
  have go0 : ∀ {v : V} {x : Value}, v.clo = true → VRep0 I w ρ v x → VRep0 I w noR v x := by
    intro v x hc h
    rcases h with rfl | ⟨h1, h2, h3⟩
    · simp [V.clo] at hc
    · exact .inr ⟨h1, h2, CRep.closed _ _ _ _ _ _ hc h3⟩
  have goT : ∀ {v : V} {l : List Value}, v.clo = true → TRep I w ρ v l → TRep I w noR v l := by
    intro v
    induction v with
    | tnil => intro l _ h; exact h
    | tcons a b _ ihb =>
      intro l hc h
      simp only [V.clo, Bool.and_eq_true] at hc
      obtain ⟨y, r, h1, h2, h3⟩ := h
      exact ⟨y, r, h1, go0 hc.1 h2, ihb hc.2 h3⟩
    | _ => intro l _ h; exact h.elim
  cases v with
  | tnil => exact h
  | tcons a b => obtain ⟨l, h1, h2⟩ := h; exact ⟨l, h1, goT hc h2⟩
  | _ => exact go0 hc h
theorem resolve_ok (h : Rep X I ρ ow s a.tmps w) {k : AK} {v : V} {x : Value} {r : Arg × Option Nat} (hr : (resolve apf s.h pure k v).to r) (hv : VRep I w ρ v x) (hl : ∀ hd p i n e cap kk, v = .sl hd p i n e cap → k = .b kk → hd ∉ HS) :
    ∃ lo, ArgOk I w ρ ow s pure HS r.1 x lo r.2 := by
  unfold resolve at hr
  split at hr
  · rename_i k
    obtain ⟨⟨n, c⟩, hc, hr⟩ := bind_to hr
    cases hr
    have hsl := sliceC_rep h hc hv
    obtain ⟨⟨ad, cp, h1, h2, h3, h4, h5⟩, hrow⟩ := hsl
    by_cases hcp : cp = 0
    · exact ⟨.ph, rfl, hrow, ad, cp, h1, h2, h3, h5, .inl ⟨hcp, rfl⟩⟩
    · obtain ⟨b, off, rfl⟩ := h4.resolve_left hcp
      obtain ⟨g1, g2⟩ := sliceC_place h hc hv h1 hcp
      refine ⟨.at b off (cp * k.size), rfl, hrow, _, cp, h1, h2, h3, h5, .inr ⟨b, off, rfl, rfl, g1, fun q hq => ?_⟩⟩
      obtain ⟨hd, p, i, n, e, cap, e1, e2⟩ := g2 q hq
      exact ⟨hd, e2, hl _ _ _ _ _ _ _ e1 rfl⟩
  · split at hr
    · rename_i hd i n e cap
      split at hr
      · rename_i c hh
        obtain ⟨h1, hr⟩ := rif_to hr
        cases hr
        simp only [Bool.and_eq_true, Bool.not_eq_true'] at h1
        obtain ⟨l, g1, g2⟩ := h.heap _ _ hh
        exact ⟨l, hd, .own, hh, h1.1.1.1, g1, hv, .inl ⟨h1.1.1.2, rfl, rfl⟩⟩
      · exact hr.elim
    · exact hr.elim
  · split at hr
    · rename_i hd
      split at hr
      · rename_i c hh
        obtain ⟨h1, hr⟩ := rif_to hr
        cases hr
        simp only [Bool.and_eq_true, Bool.or_eq_true, Bool.not_eq_true'] at h1
        obtain ⟨l, g1, g2⟩ := h.heap _ _ hh
        refine ⟨l, hd, .own, hh, h1.1, g1, hv, ?_⟩
        cases pure with
        | true => exact .inr ⟨rfl, by simpa using h1.2, .inl rfl, rfl⟩
        | false => exact .inl ⟨rfl, rfl, rfl⟩
      · rename_i c hh
        obtain ⟨h1, hr⟩ := rif_to hr
        cases hr
        simp only [Bool.and_eq_true] at h1
        obtain ⟨l, g1, g2⟩ := h.heap _ _ hh
        exact ⟨l, hd, .bor, hh, h1.1.2, g1, hv, .inr ⟨h1.1.1, h1.2, .inr rfl, rfl⟩⟩
      · exact hr.elim
    · obtain ⟨h1, hr⟩ := rif_to hr
      cases hr
      simp only [Bool.and_eq_true] at h1
      refine ⟨.ph, closed_vr h1.1 (fun n e c e1 => ?_) (fun c e1 => ?_) hv, rfl⟩
      · rw [e1] at h1; simp at h1
      · rw [e1] at h1; simp at h1
theorem resolveL_ok (h : Rep X I ρ ow s a.tmps w) : ∀ {xs : List (V × AK)} {vals : List Value} {r : List Arg × List Nat}, (resolveL apf s.h pure xs).to r → F2 (fun x v => VRep I w ρ x.1 v) xs vals → (∀ i ∈ lent xs, i ∉ HS) →
    ∃ los hos, ArgsOk I w ρ ow s pure HS r.1 vals los hos ∧ hos.filterMap id = r.2 := by
  intro xs
  induction xs with
  | nil =>
    intro vals r hr hv _
    cases hv
    cases hr
    exact ⟨[], [], trivial, rfl⟩
  | cons x xs ih =>
    intro vals r hr hv hl
    cases hv with
    | cons hxv hv =>
      simp only [resolveL] at hr
      obtain ⟨r1, hr1, hr⟩ := bind_to hr
      obtain ⟨r2, hr2, hr⟩ := bind_to hr
      cases hr
      have hsub : ∀ i ∈ lent xs, i ∈ lent (x :: xs) := by
        intro i hi
        obtain ⟨v, k⟩ := x
        cases v <;> cases k <;> simp [lent, hi]
      obtain ⟨los, hos, g1, g2⟩ := ih hr2 hv (fun i hi => hl i (hsub i hi))
      obtain ⟨lo, g3⟩ := resolve_ok (HS := HS) h hr1 hxv (fun hd p i n e cap kk e1 e2 => hl hd (by
        obtain ⟨v, k⟩ := x
        simp only at e1 e2
        subst e1 e2
        simp [lent]))
      refine ⟨lo :: los, r1.2 :: hos, ⟨g3, g1⟩, ?_⟩
      cases hq : r1.2 <;> simp [g2]
end
theorem fm_inj : ∀ {l : List (Option Nat)} {i j x : Nat}, (l.filterMap id).Nodup → l[i]? = some (some x) → l[j]? = some (some x) → i = j := by
  intro l
  induction l with
  | nil => intro i j x _ h; simp at h
  | cons a l ih =>
    intro i j x hn hi hj
    have hmem : ∀ {k : Nat}, l[k]? = some (some x) → x ∈ l.filterMap id := fun {k} hk => by
      simp only [List.mem_filterMap, id]
      exact ⟨some x, List.mem_of_getElem? hk, rfl⟩
    cases a with
    | none =>
      cases i with
      | zero => simp at hi
      | succ i =>
        cases j with
        | zero => simp at hj
        | succ j => exact congrArg (· + 1) (ih (by simpa using hn) (by simpa using hi) (by simpa using hj))
    | some y =>
      simp only [List.filterMap_cons, id, List.nodup_cons] at hn
      cases i with
      | zero =>
        cases j with
        | zero => rfl
        | succ j =>
          simp at hi
          subst hi
          exact absurd (hmem (by simpa using hj)) hn.1
      | succ i =>
        cases j with
        | zero =>
          simp at hj
          subst hj
          exact absurd (hmem (by simpa using hi)) hn.1
        | succ j => exact congrArg (· + 1) (ih hn.2 (by simpa using hi) (by simpa using hj))
section
variable {G : List (Nat × V)} {X : Fix} {I : Nat → Prop} {ρ : Rho} {ow : Own} {s : St} {tm : Array Value} {w : World} {pure : Bool}
open Classical in
noncomputable def forthOw (ow : Own) (hos : List (Option Nat)) : Own := fun b => match ow b with
  | some (x :: r) => if h : ∃ i : Nat, hos[i]? = some (some x) then some (parH h.choose :: r) else none
  | _ => none
def forthRho (ρ : Rho) (los : List Lo) : Rho := fun h => if 200000 ≤ h then ρ h else if 100000 ≤ h then los[h - 100000]? else none
theorem forthRho_par {los : List Lo} {i : Nat} (h : i < 100000) : forthRho ρ los (parH i) = los[i]? := by
  have h1 : ¬ 200000 ≤ parH i := by simp only [parH]; omega
  have h2 : 100000 ≤ parH i := by simp only [parH]; omega
  have h3 : parH i - 100000 = i := by simp only [parH]; omega
  simp only [forthRho, if_neg h1, if_pos h2, h3]
theorem parHs_par {args : List Arg} {i : Nat} (h : i < 100000) : parHs G pure args (parH i) = (args[i]?).bind (parB pure) := by
  have h1 : ¬ 200000 ≤ parH i := by simp only [parH]; omega
  have h2 : 100000 ≤ parH i := by simp only [parH]; omega
  have h3 : parH i - 100000 = i := by simp only [parH]; omega
  simp only [parHs, if_neg h1, if_pos h2, h3]
theorem forthOw_at {ow : Own} {hos : List (Option Nat)} (hn : (hos.filterMap id).Nodup) {b x i : Nat} {r : List Nat} (hb : ow b = some (x :: r)) (hi : hos[i]? = some (some x)) : forthOw ow hos b = some (parH i :: r) := by
  have hex : ∃ i : Nat, hos[i]? = some (some x) := ⟨i, hi⟩
  simp only [forthOw, hb, dif_pos hex]
  rw [fm_inj hn hex.choose_spec hi]
theorem forthOw_none {ow : Own} {hos : List (Option Nat)} {b : Nat} (h : ∀ q, ow b = some q → ∃ x, q = [x] ∧ x ∉ hos.filterMap id) : forthOw ow hos b = none := by
  cases hb : ow b with
  | none => simp [forthOw, hb]
  | some q =>
    obtain ⟨x, rfl, hx⟩ := h q hb
    have hex : ¬ ∃ i : Nat, hos[i]? = some (some x) := fun ⟨i, hi⟩ => hx (by
      simp only [List.mem_filterMap, id]
      exact ⟨some x, List.mem_of_getElem? hi, rfl⟩)
    simp only [forthOw, hb, dif_neg hex]
theorem forthOw_some {ow : Own} {hos : List (Option Nat)} {b : Nat} {q : List Nat} (h : forthOw ow hos b = some q) : ∃ (x : Nat) (r : List Nat) (i : Nat), ow b = some (x :: r) ∧ hos[i]? = some (some x) ∧ q = parH i :: r := by
  simp only [forthOw] at h
  split at h
  · rename_i x r hb
    split at h
    · rename_i hex
      cases h
      exact ⟨x, r, hex.choose, hb, hex.choose_spec, rfl⟩
    · cases h
  · cases h
/-- The callee's first state. -/
theorem Rep.forth (h : Rep X I ρ ow s tm w) (hG : GOk G X) {args : List Arg} {vals : List Value} {los : List Lo} {hos : List (Option Nat)} (hlen : args.length ≤ 100000) (hn : (hos.filterMap id).Nodup)
    (hok : ArgsOk I w ρ ow s pure (hos.filterMap id) args vals los hos) :
    Rep ⟨overF ow (hos.filterMap id), I, w, 0, forthRho ρ los⟩ I (forthRho ρ los) (forthOw ow hos) ⟨fun _ => .any, parHs G pure args⟩ #[] w ∧
      ∀ (i : Nat) (a : Arg), args[i]? = some a → VRep I w (forthRho ρ los) (parV i a) (vals.toArray.getD i undef) := by
  obtain ⟨l1, l2, l3, hget⟩ := hok.get
  have hpar : ∀ (i : Nat), i < args.length → forthRho ρ los (parH i) = los[i]? := fun i hi => by
    exact forthRho_par (by omega)
  have hmem : ∀ {i x : Nat}, hos[i]? = some (some x) → x ∈ hos.filterMap id := fun {i x} hi => by
    simp only [List.mem_filterMap, id]
    exact ⟨some x, List.mem_of_getElem? hi, rfl⟩
  refine ⟨?_, fun i arg hi => ?_⟩
  · exact
      { frame := fun b _ _ => rfl
        size := Nat.le_refl _
        os := rfl
        tape := rfl
        output := rfl
        iold := fun _ h => h
        inew := fun _ h => .inl h
        ilt := h.ilt
        iow := fun b hb => forthOw_none (fun q hq => by rw [h.iow b hb] at hq; cases hq)
        owf := fun b q hb => by
          obtain ⟨x, r, i, h1, h2, rfl⟩ := forthOw_some hb
          refine ⟨(h.owf b _ h1).1, .inl ⟨x, r, h1, hmem h2⟩, parH i, r, ?_⟩
          have hil : i < args.length := by rw [l3]; exact (List.getElem?_eq_some_iff.1 h2).1
          obtain ⟨y, l, ho, g1, g2, g3, g4⟩ := hget i _ (List.getElem?_eq_getElem hil)
          rw [h2] at g3
          cases g3
          generalize hga : args[i] = arg at g4
          cases arg with
          | v v => cases g4.2
          | b n e c => cases g4.1
          | o c vw =>
            obtain ⟨hd, kk, _, _, _, _, g5⟩ := g4
            rcases g5 with ⟨g5, _, _⟩ | ⟨_, _, _, g5⟩
            · refine ⟨c, rfl, ?_⟩
              have : args[i]? = some (.o c vw) := by rw [List.getElem?_eq_getElem hil, hga]
              show parHs G pure args (parH i) = _
              rw [parHs_par (by omega), this]
              simp [parB, g5]
            · cases g5
        dom := fun k l hk hlt => by
          simp only [forthRho] at hk
          rw [if_neg (by omega), if_neg (by omega)] at hk
          cases hk
        glob := fun n => by
          obtain ⟨sz, hg⟩ := h.glob n
          refine ⟨sz, ?_⟩
          simp only [forthRho]
          rw [if_pos (by simp [globH])]
          exact hg
        tsz := rfl
        nle := by simp
        rle := Rho.le_refl _
        tmps := fun i => VRep.any _ _ _ _
        heap := fun k blk hk => by
          simp only [parHs] at hk
          split at hk
          · rename_i hk2
            simp only [Option.map_eq_some_iff] at hk
            obtain ⟨c, hc, rfl⟩ := hk
            obtain ⟨g1, ⟨sz, g2, g3⟩, g4⟩ := h.glo hG hc
            have e1 : globH (k - 200000) = k := by simp only [globH]; omega
            rw [e1] at g2
            refine ⟨.at (k - 200000) 0 sz, by simp only [forthRho]; rw [if_pos hk2]; exact g2, .inr ⟨k - 200000, 0, sz, rfl, g1, g3, g4.noow⟩⟩
          · split at hk
            · rename_i hk2 hk3
              simp only [Option.bind_eq_some_iff] at hk
              obtain ⟨arg, harg, hk⟩ := hk
              have hil : k - 100000 < args.length := (List.getElem?_eq_some_iff.1 harg).1
              obtain ⟨y, l, ho, g1, g2, g3, g4⟩ := hget _ _ harg
              have e1 : parH (k - 100000) = k := by simp only [parH]; omega
              have hρ := hpar _ hil
              rw [e1, g2] at hρ
              refine ⟨l, hρ, ?_⟩
              cases arg with
              | v v => cases hk
              | b n e c =>
                cases hk
                obtain ⟨_, hrow, ad, cp, g5, g6, g7, g8, g9⟩ := g4
                rcases g9 with ⟨rfl, rfl⟩ | ⟨b, off, rfl, rfl, g10, g11⟩
                · obtain rfl : n = 0 := by omega
                  have hz := isRow_zero hrow
                  exact .inl ⟨rfl, hz, CRep.mono (ow := forthOw ow hos) (fun b hb => ⟨hb, rfl⟩) _ _ _ _ _ _ _ (noR_le _) (fun h => absurd rfl h) (fun j hj => by have hj : j < c.size := hj; omega) g8.noow⟩
                · refine .inr ⟨b, off, cp * e, rfl, g10, forthOw_none g11, by rw [isRow_size hrow]; exact Nat.mul_le_mul_right _ g6, ?_⟩
                  exact CRep.mono (ow := forthOw ow hos) (fun b hb => ⟨hb, rfl⟩) _ _ _ _ _ _ _ (noR_le _) (fun h => absurd rfl h) (fun j hj => rfl) g8.noow
              | o c vw =>
                cases hk
                obtain ⟨hd, kk, g5, g6, g7, g8, g9⟩ := g4
                obtain ⟨l', g10, g11⟩ := h.heap _ _ g5
                rw [g7] at g10
                cases g10
                rcases g9 with ⟨rfl, rfl, rfl⟩ | ⟨rfl, g12, g13, rfl⟩
                · rcases g11 with ⟨rfl, q1, q2⟩ | ⟨b, off, sz, cur, rfl, q1, q2, q3, q4⟩
                  · exact .inl ⟨rfl, q1, CRep.reown _ _ _ _ _ _ _ g6 (fun h => absurd rfl h) q2⟩
                  · have hb := forthOw_at hn q1 g3
                    rw [e1] at hb
                    refine .inr ⟨b, off, sz, cur, rfl, hb, q2, q3, CRep.reown _ _ _ _ _ _ _ g6 (fun _ => ⟨by simp, fun b' r _ hb' => ?_⟩) q4⟩
                    have := forthOw_at hn hb' g3
                    rw [e1] at this
                    exact this
                · have hnil : ∀ b, forthOw ow hos b = none := fun b => by
                    cases hb : forthOw ow hos b with
                    | none => rfl
                    | some q =>
                      obtain ⟨x, r, i, h1, h2, _⟩ := forthOw_some hb
                      have hil' : i < args.length := by rw [l3]; exact (List.getElem?_eq_some_iff.1 h2).1
                      obtain ⟨y', l', ho', p1, p2, p3, p4⟩ := hget i _ (List.getElem?_eq_getElem hil')
                      rw [h2] at p3
                      cases p3
                      generalize args[i] = arg at p4
                      cases arg with
                      | v v => cases p4.2
                      | b n e c => cases p4.1
                      | o c vw =>
                        obtain ⟨hd, kk, _, _, _, _, p5⟩ := p4
                        rcases p5 with ⟨p5, _⟩ | ⟨_, _, _, p5⟩
                        · cases p5
                        · cases p5
                  rcases g13 with rfl | rfl
                  · rcases g11 with ⟨rfl, q1, q2⟩ | ⟨b, off, sz, cur, rfl, q1, q2, q3, q4⟩
                    · exact .inl ⟨rfl, q1, CRep.reown _ _ _ _ _ _ _ g6 (fun h => absurd rfl h) q2⟩
                    · have hs := own_size q3 q4
                      refine .inr ⟨b, off, sz, rfl, q2.lt, hnil b, hs, ?_⟩
                      rw [← q2.cells]
                      exact CRep.reown _ _ _ _ _ _ _ g6 (fun h => absurd rfl h) (CRep.noq _ _ _ [] _ 0 _ g12 q4)
                  · rcases g11 with ⟨rfl, q1, q2⟩ | ⟨b, off, sz, rfl, q1, q2, q3, q4⟩
                    · exact .inl ⟨rfl, q1, CRep.reown _ _ _ _ _ _ _ g6 (fun h => absurd rfl h) q2⟩
                    · exact .inr ⟨b, off, sz, rfl, q1, hnil b, q3, CRep.reown _ _ _ _ _ _ _ g6 (fun h => absurd rfl h) q4⟩
            · cases hk }
  · obtain ⟨x, l, ho, g1, g2, g3, g4⟩ := hget i arg hi
    have hil : i < args.length := (List.getElem?_eq_some_iff.1 hi).1
    have hx : vals.toArray.getD i undef = x := by simp [Array.getD_eq_getD_getElem?, g1]
    have hρ := hpar i hil
    rw [g2] at hρ
    rw [hx]
    cases arg with
    | v v => exact g4.1.mono (fun b hb => ⟨hb, rfl⟩) (noR_le _)
    | b n e c =>
      obtain ⟨_, hrow, ad, cp, rfl, g6, g7, g8, g9⟩ := g4
      refine leaf_vr rfl rfl rfl ⟨ad, cp, l, rfl, hρ, g6, g7, trivial, ?_⟩
      rcases g9 with ⟨g9, _⟩ | ⟨b, off, rfl, rfl, _⟩
      · exact .inl g9
      · exact .inr ⟨b, off, cp * e, rfl, by simp [poff], by simp [poff]⟩
    | o c vw =>
      obtain ⟨hd, kk, g5, g6, g7, g8, g9⟩ := g4
      cases vw with
      | none =>
        obtain ⟨b, off, sz, g10, rfl⟩ := vr_ptr g8
        rw [g7] at g10
        cases g10
        exact ptr_vr hρ
      | some q =>
        obtain ⟨j, n, e, cap⟩ := q
        obtain ⟨ad, c', l', k1, k2, k3, k4, k5, k6⟩ := vr_sl g8
        rw [g7] at k2
        cases k2
        subst k1
        exact leaf_vr rfl rfl rfl ⟨ad, c', l, rfl, hρ, k3, k4, k5, k6⟩
end
end Go.Cx
/- CxCall3 -/
namespace Go.Cx
open Go
/-- what a contract promises of a function -/
def Sound (P : Program) (G : List (Nat × V)) (f : FuncId) (pure : Bool) (ctr : Ctr) : Prop :=
  (∀ xs w, (callFunc f xs).run P w = .ok (.enter f xs) w) ∧
  ∀ (args : List Arg) (out : Out) (vals : List Value) (w : World) (F I : Nat → Prop) (ρ : Rho) (ow : Own), (ctr args).to out → args.length = vals.length → args.length ≤ 100000 → (∀ (i n e : Nat) (c : V), args[i]? = some (.b n e c) → isRow e n c) → (∀ b, I b → ¬ F b) →
    Rep ⟨F, I, w, 0, ρ⟩ I ρ ow ⟨fun _ => .any, parHs G pure args⟩ #[] w → (∀ (i : Nat) (a : Arg), args[i]? = some a → VRep I w ρ (parV i a) (vals.toArray.getD i undef)) →
    Calls P f vals.toArray w fun en w' => ∃ x I' ρ' ow', en = .returned x ∧ VRep I' w' ρ' out.v x ∧ Rep ⟨F, I, w, 0, ρ⟩ I' ρ' ow' ⟨fun _ => .any, outHs args out⟩ #[] w'
def EnvSound (P : Program) (G : List (Nat × V)) (pure : Nat → Bool) (E : List (Nat × Ctr)) : Prop := ∀ f c, f < 5000000 → look E f = some c → Sound P G f (pure f) c
theorem putHs_append (h : Nat → Option Blk) : ∀ (l m : List (Nat × Blk)), putHs h (l ++ m) = putHs (putHs h l) m := by
  intro l
  induction l generalizing h with
  | nil => intro m; rfl
  | cons p l ih => intro m; exact ih _ m
theorem putHs_not {b : Nat} : ∀ {l : List (Nat × Blk)} {h : Nat → Option Blk}, b ∉ l.map (·.1) → putHs h l b = h b := by
  intro l
  induction l with
  | nil => intro h _; rfl
  | cons p l ih =>
    intro h hb
    simp only [List.map_cons, List.mem_cons, not_or] at hb
    show putHs (upd h p.1 (some p.2)) l b = h b
    rw [ih hb.2, upd_ne _ _ hb.1]
theorem objsL_keys : ∀ {hs : List Nat} {cs : List V} {b : Nat}, b ∈ (objsL hs cs).map (·.1) → b ∈ hs := by
  intro hs
  induction hs with
  | nil => intro cs b h; simp [objsL] at h
  | cons x hs ih =>
    intro cs b h
    cases cs with
    | nil => simp [objsL] at h
    | cons c cs =>
      simp only [objsL, List.map_cons, List.mem_cons] at h
      rcases h with h | h
      · simp [h]
      · exact List.mem_cons_of_mem _ (ih h)
theorem putHs_objs : ∀ {hs : List Nat} {cs : List V} {h : Nat → Option Blk} {m x : Nat} {c : V}, hs.Nodup → hs[m]? = some x → cs[m]? = some c → putHs h (objsL hs cs) x = some ⟨.own, c⟩ := by
  intro hs
  induction hs with
  | nil => intro cs h m x c _ hx; simp at hx
  | cons y hs ih =>
    intro cs h m x c hn hx hc
    cases cs with
    | nil => simp at hc
    | cons c0 cs =>
      simp only [List.nodup_cons] at hn
      cases m with
      | zero =>
        simp at hx hc
        subst hx hc
        show putHs (upd h y _) (objsL hs cs) y = _
        rw [putHs_not (fun hh => hn.1 (objsL_keys hh)), upd_same]
      | succ m => exact ih hn.2 (by simpa using hx) (by simpa using hc)
theorem newH_inj {d i j : Nat} (_hd : d < 10000) (h : newH d i = newH d j) : i = j := by
  simp only [newH] at h
  split at h <;> split at h <;> omega
theorem newsL_keys {d : Nat} : ∀ {news : List V} {j0 b : Nat}, b ∈ (newsL d j0 news).map (·.1) → ∃ j, j < news.length ∧ b = newH d (j0 + j) := by
  intro news
  induction news with
  | nil => intro j0 b h; simp [newsL] at h
  | cons c r ih =>
    intro j0 b h
    simp only [newsL, List.map_cons, List.mem_cons] at h
    rcases h with h | h
    · exact ⟨0, by simp, h⟩
    · obtain ⟨j, h1, h2⟩ := ih h
      exact ⟨j + 1, by simp; omega, by rw [h2]; congr 1; omega⟩
theorem putHs_news {d : Nat} (hd : d < 10000) : ∀ {news : List V} {j0 j : Nat} {h : Nat → Option Blk} {c : V}, news[j]? = some c → putHs h (newsL d j0 news) (newH d (j0 + j)) = some ⟨.own, c⟩ := by
  intro news
  induction news with
  | nil => intro j0 j h c hc; simp at hc
  | cons c0 r ih =>
    intro j0 j h c hc
    cases j with
    | zero =>
      simp at hc
      subst hc
      show putHs (upd h (newH d j0) _) (newsL d (j0 + 1) r) (newH d j0) = _
      rw [putHs_not (fun hh => ?_), upd_same]
      obtain ⟨j, _, e⟩ := newsL_keys hh
      have := newH_inj hd e
      omega
    | succ j =>
      have := ih (j0 := j0 + 1) (h := upd h (newH d j0) (some ⟨.own, c0⟩)) (j := j) (c := c) (by simpa using hc)
      rw [show j0 + 1 + j = j0 + (j + 1) by omega] at this
      exact this
theorem allFresh_spec {h : Nat → Option Blk} : ∀ {l : List (Nat × Blk)}, allFresh h l = true → ∀ p ∈ l, h p.1 = none ∧ p.1 < 100000 ∧ p.2.c.clo = true := by
  intro l
  induction l with
  | nil => intro _ p hp; simp at hp
  | cons x l ih =>
    intro hf p hp
    simp only [allFresh, Bool.and_eq_true, decide_eq_true_eq, Option.isNone_iff_eq_none] at hf
    rcases List.mem_cons.1 hp with rfl | hp
    · exact ⟨hf.1.1.1, hf.1.1.2, hf.1.2⟩
    · exact ih hf.2 p hp
theorem newsL_mem {d : Nat} : ∀ {news : List V} {j0 j : Nat} {c : V}, news[j]? = some c → (newH d (j0 + j), (⟨.own, c⟩ : Blk)) ∈ newsL d j0 news := by
  intro news
  induction news with
  | nil => intro j0 j c hc; simp at hc
  | cons c0 r ih =>
    intro j0 j c hc
    cases j with
    | zero => simp at hc; subst hc; simp [newsL]
    | succ j =>
      have := ih (j0 := j0 + 1) (j := j) (c := c) (by simpa using hc)
      rw [show j0 + 1 + j = j0 + (j + 1) by omega] at this
      exact List.mem_cons_of_mem _ this
theorem look_append {α : Type} {l m : List (Nat × α)} {b : Nat} : look (l ++ m) b = match look l b with | some x => some x | none => look m b := by
  induction l with
  | nil => rfl
  | cons p l ih =>
    obtain ⟨k, v⟩ := p
    simp only [List.cons_append, look]
    split
    · rfl
    · exact ih
theorem outO_keys {b : Nat} : ∀ {args : List Arg} {i : Nat} {cs : List V}, b < 100000 → look (outO i args cs) b = none := by
  intro args
  induction args with
  | nil => intro i cs _; cases cs <;> rfl
  | cons x args ih =>
    intro i cs hb
    cases x with
    | v v => exact ih hb
    | b n e c => exact ih hb
    | o c vw =>
      cases cs with
      | nil => rfl
      | cons c0 cs =>
        simp only [outO, look]
        rw [if_neg (by simp only [parH]; omega)]
        exact ih hb
theorem outN_look : ∀ {news : List V} {j0 j : Nat} {c : V}, news[j]? = some c → look (outN j0 news) (j0 + j) = some ⟨.own, c⟩ := by
  intro news
  induction news with
  | nil => intro j0 j c hc; simp at hc
  | cons c0 r ih =>
    intro j0 j c hc
    cases j with
    | zero => simp at hc; subst hc; simp [outN, look]
    | succ j =>
      have := ih (j0 := j0 + 1) (j := j) (c := c) (by simpa using hc)
      rw [show j0 + 1 + j = j0 + (j + 1) by omega] at this
      simp only [outN, look]
      rw [if_neg (by omega)]
      exact this
/-- arguments and objects handed over -/
def Al : List Arg → List (Option Nat) → Prop
  | .o _ _ :: as, some _ :: hs => Al as hs
  | .v _ :: as, none :: hs => Al as hs
  | .b _ _ _ :: as, none :: hs => Al as hs
  | [], [] => True
  | _, _ => False
theorem ArgsOk.al {I : Nat → Prop} {w : World} {ρ : Rho} {ow : Own} {s : St} {HS : List Nat} : ∀ {as : List Arg} {xs : List Value} {ls : List Lo} {hs : List (Option Nat)}, ArgsOk I w ρ ow s false HS as xs ls hs → Al as hs
  | [], [], [], [], _ => trivial
  | a :: as, x :: xs, l :: ls, h :: hs, ⟨h1, h2⟩ => by
    have := ArgsOk.al h2
    cases a with
    | v v => obtain ⟨_, rfl⟩ := h1; exact this
    | b n e c => obtain ⟨rfl, _⟩ := h1; exact this
    | o c vw =>
      obtain ⟨hd, kk, _, _, _, _, g⟩ := h1
      rcases g with ⟨_, _, rfl⟩ | ⟨g, _⟩
      · exact this
      · cases g
  | [], _ :: _, _, _, h => h.elim
  | [], [], _ :: _, _, h => h.elim
  | [], [], [], _ :: _, h => h.elim
  | _ :: _, [], _, _, h => h.elim
  | _ :: _, _ :: _, [], _, h => h.elim
  | _ :: _, _ :: _, _ :: _, [], h => h.elim
theorem Al.look : ∀ {args : List Arg} {hos : List (Option Nat)} {cs : List V} {i0 k x : Nat}, Al args hos → cs.length = (hos.filterMap id).length → hos[k]? = some (some x) →
    ∃ (m : Nat) (c : V), (hos.filterMap id)[m]? = some x ∧ cs[m]? = some c ∧ Cx.look (outO i0 args cs) (parH (i0 + k)) = some ⟨.own, c⟩ := by
  intro args
  induction args with
  | nil =>
    intro hos cs i0 k x hal _ hk
    cases hos with
    | nil => simp at hk
    | cons _ _ => exact hal.elim
  | cons a args ih =>
    intro hos cs i0 k x hal hlen hk
    cases hos with
    | nil => cases a <;> exact hal.elim
    | cons h hos =>
      have skip : h = none → Al args hos → outO i0 (a :: args) cs = outO (i0 + 1) args cs → ∃ (m : Nat) (c : V), ((h :: hos).filterMap id)[m]? = some x ∧ cs[m]? = some c ∧ Cx.look (outO i0 (a :: args) cs) (parH (i0 + k)) = some ⟨.own, c⟩ := fun e1 e2 e3 => by
        subst e1
        cases k with
        | zero => simp at hk
        | succ k =>
          obtain ⟨m, c, g1, g2, g3⟩ := ih (i0 := i0 + 1) (cs := cs) (k := k) (x := x) e2 (by simpa using hlen) (by simpa using hk)
          refine ⟨m, c, by simpa using g1, g2, ?_⟩
          rw [e3, show i0 + (k + 1) = i0 + 1 + k by omega]
          exact g3
      cases a with
      | v v => cases h with | none => exact skip rfl hal rfl | some _ => exact hal.elim
      | b n e c => cases h with | none => exact skip rfl hal rfl | some _ => exact hal.elim
      | o c0 vw =>
        cases h with
        | none => exact hal.elim
        | some y =>
          cases cs with
          | nil => simp at hlen
          | cons c1 cs =>
            cases k with
            | zero =>
              simp at hk
              subst hk
              exact ⟨0, c1, by simp, rfl, by simp [outO, Cx.look]⟩
            | succ k =>
              obtain ⟨m, c, g1, g2, g3⟩ := ih (i0 := i0 + 1) (cs := cs) (k := k) (x := x) hal (by simpa using hlen) (by simpa using hk)
              refine ⟨m + 1, c, by simpa using g1, by simpa using g2, ?_⟩
              simp only [outO, Cx.look]
              rw [if_neg (by simp only [parH]; omega), show i0 + (k + 1) = i0 + 1 + k by omega]
              exact g3
end Go.Cx
/- CxCall4 -/
namespace Go.Cx
open Go
section
variable {P : Program} {G : List (Nat × V)} {pure : Nat → Bool} {X : Fix} {I : Nat → Prop} {ρ : Rho} {ow : Own} {s : St} {a : Act} {w : World} {o : Oper}
theorem F2.length {α β : Type} {R : α → β → Prop} {l : List α} {m : List β} (h : F2 R l m) : l.length = m.length := by
  induction h with
  | nil => rfl
  | cons _ _ ih => simp [ih]
theorem args_eval (h : Rep X I ρ ow s a.tmps w) {args : List Operand} {l : List (IX × AK)} (hl : F2 (fun x y => opIX x = some y.1) args l) :
    F2 (fun (x : V × AK) v => VRep I w ρ x.1 v) (l.map fun x => (ev s.t x.1, x.2)) (args.map a.eval) := by
  induction hl with
  | nil => exact .nil
  | cons hxy _ ih => exact .cons (ev_rep h hxy) ih
theorem nodupN_to {l : List Nat} (h : nodupN l = true) : l.Nodup := nodupN_spec h
theorem step_call (h : Rep X I ρ ow s a.tmps w) (hd : dstOk X o) (hG : GOk G X) {E : List (Nat × Ctr)} (hE : EnvSound P G pure E) {f : FuncId} {args : Array Operand} {ts : Array TypeId} {l : List (IX × AK)} (hf5 : f < 5000000)
    (ho : o.op = .call { callee := .value (.func f), args, argTypes := ts }) (hl : F2 (fun x y => opIX x = some y.1) args.toList l) (hlen : l.length ≤ 100000) {e : Eff}
    (he : (stepR apf E s.t s.h o.dst (.call f (pure f) l)).to e) : StepOk P X o a w s e := by
  simp only [stepR, callR] at he
  split at he
  · exact he.elim
  · rename_i c hlook
    obtain ⟨hsnd1, hsnd2⟩ := hE f c hf5 hlook
    obtain ⟨⟨as, hs⟩, hres, he⟩ := bind_to he
    obtain ⟨hnd, he⟩ := rif_to he
    obtain ⟨out, hout, he⟩ := bind_to he
    obtain ⟨hchk, he⟩ := rif_to he
    simp only [Bool.and_eq_true, beq_iff_eq, List.all_eq_true, Bool.not_eq_true', List.contains_eq_mem, decide_eq_false_iff_not] at hchk
    obtain ⟨⟨hlen1, hclo⟩, hlent⟩ := hchk
    have hnd := nodupN_to hnd
    have hvals := args_eval h hl
    obtain ⟨los, hos, hok, hhs⟩ := resolveL_ok (HS := hs) h hres hvals hlent
    simp only at hok hhs hnd hlen1
    subst hhs
    obtain ⟨k1, k2, k3, hget⟩ := hok.get
    have hal : as.length ≤ 100000 := by
      rw [k1, List.length_map]
      have := F2.length hl
      omega
    obtain ⟨hR, hV⟩ := h.forth hG hal hnd hok
    have hI : ∀ b, I b → ¬ overF ow (hos.filterMap id) b := fun b hb ⟨x, r, e1, _⟩ => by rw [h.iow b hb] at e1; cases e1
    have hrow : ∀ (i n e : Nat) (c : V), as[i]? = some (.b n e c) → isRow e n c := fun i n e c hi => by
      obtain ⟨x, l, ho, _, _, _, g⟩ := hget i _ hi
      exact g.2.1
    have hcalls := hsnd2 as out (args.toList.map a.eval) w _ I _ _ hout k1 hal hrow hI hR hV
    refine .inr (.inr ⟨f, (args.toList.map a.eval).toArray, w, ?_, Calls.mono hcalls ?_⟩)
    · have e1 : (args.toList.map a.eval).toArray = args.map a.eval := by
        apply Array.ext'; simp
      rw [e1]
      simp [execOp, ho, Go.resolve, invoke, Deferred.ofValue, Act.eval, hsnd1]
    · rintro en w' ⟨x, I', ρ', ow', rfl, hx, hR'⟩
      refine ⟨x, rfl, ?_⟩
      -- objects: where they stand
      have hobj : ∀ (k hd : Nat), hos[k]? = some (some hd) → pure f = false ∧ ∃ c, s.h hd = some ⟨.own, c⟩ ∧ ∃ lo, ρ hd = some lo ∧ ρ' (parH k) = some lo := by
        intro k hd' hk
        have hkl : k < as.length := by rw [k3]; exact (List.getElem?_eq_some_iff.1 hk).1
        obtain ⟨y, lo, ho', g1, g2, g3, g4⟩ := hget k _ (List.getElem?_eq_getElem hkl)
        rw [hk] at g3
        cases g3
        generalize as[k] = arg at g4
        cases arg with
        | v v => cases g4.2
        | b n e c => cases g4.1
        | o c vw =>
          obtain ⟨hd2, kk, g5, g6, g7, g8, g9⟩ := g4
          rcases g9 with ⟨g9, rfl, g10⟩ | ⟨_, _, _, g10⟩
          · cases g10
            refine ⟨g9, c, g5, lo, g7, hR'.rle _ _ ?_⟩
            show forthRho ρ los (parH k) = some lo
            rw [forthRho_par (by omega)]
            exact g2
          · cases g10
      have hal2 : ∀ (k hd : Nat), hos[k]? = some (some hd) → Al as hos := fun k hd' hk => by
        obtain ⟨e1, _⟩ := hobj k hd' hk
        rw [e1] at hok
        exact hok.al
      have hmem : ∀ {i x : Nat}, hos[i]? = some (some x) → x ∈ hos.filterMap id := fun {i x} hi => by
        simp only [List.mem_filterMap, id]
        exact ⟨some x, List.mem_of_getElem? hi, rfl⟩
      have hmem2 : ∀ {x : Nat}, x ∈ hos.filterMap id → ∃ i : Nat, hos[i]? = some (some x) := fun {x} hx => by
        simp only [List.mem_filterMap, id] at hx
        obtain ⟨y, hy, rfl⟩ := hx
        exact List.mem_iff_getElem?.1 hy
      -- what is left, under which name
      obtain ⟨newN, d0, hnew, hefs⟩ : ∃ (newN : List V) (d0 : Nat), (∀ (j : Nat) (c : V), newN[j]? = some c → out.news[j]? = some c ∧ s.h (newH d0 j) = none ∧ newH d0 j < 100000 ∧ c.clo = true) ∧ d0 < 10000 ∧
          e.hs = objsL (hos.filterMap id) out.objs ++ newsL d0 0 newN ∧ ((o.dst = none ∧ e.v = .any) ∨ (o.dst = some d0 ∧ newN = out.news ∧ e.v = renV (newH d0) out.v ∧ out.v.hOk out.news.length = true)) := by
        split at he
        · rename_i d hdst
          obtain ⟨hch, he⟩ := rif_to he
          cases he
          simp only [Bool.and_eq_true, decide_eq_true_eq] at hch
          refine ⟨out.news, d, fun j c hc => ?_, hch.2, rfl, .inr ⟨hdst, rfl, rfl, hch.1.2⟩⟩
          obtain ⟨g1, g2, g3⟩ := allFresh_spec hch.1.1 _ (newsL_mem (j0 := 0) hc)
          rw [Nat.zero_add] at g1 g2
          exact ⟨hc, g1, g2, g3⟩
        · rename_i hdst
          cases he
          exact ⟨[], 0, fun j c hc => by simp at hc, by omega, by simp [newsL], .inl ⟨hdst, rfl⟩⟩
      obtain ⟨hd0, hehs, hev⟩ := hefs
      let rn : Nat → Option Nat := fun b => if 100000 ≤ b then (hos[b - 100000]?).join else if b < newN.length then some (newH d0 b) else none
      have rn_obj : ∀ b y, 100000 ≤ b → (rn b = some y ↔ hos[b - 100000]? = some (some y)) := fun b y hb => by
        simp only [rn, if_pos hb, Option.join_eq_some_iff]
      have rn_new : ∀ b y, ¬ 100000 ≤ b → (rn b = some y ↔ b < newN.length ∧ y = newH d0 b) := fun b y hb => by
        simp only [rn, if_neg hb]
        split
        · rename_i hl
          simp only [Option.some.injEq, hl, true_and, eq_comm]
        · rename_i hl
          simp [hl]
      have hnewj : ∀ j, j < newN.length → ∃ c, newN[j]? = some c := fun j hj => ⟨_, List.getElem?_eq_getElem hj⟩
      have hparH : ∀ b, 100000 ≤ b → parH (b - 100000) = b := fun b hb => by simp only [parH]; omega
      obtain ⟨ρ2, ow2, b1, b2, b3⟩ := h.back (hs := hos.filterMap id) (rn := rn) (hh := putHs s.h e.hs) hR' (by
        intro b b' y hb hb'
        by_cases c1 : 100000 ≤ b <;> by_cases c2 : 100000 ≤ b'
        · have e1 := (rn_obj b y c1).1 hb
          have e2 := (rn_obj b' y c2).1 hb'
          have := fm_inj hnd e1 e2
          omega
        · have e1 := (rn_obj b y c1).1 hb
          obtain ⟨e2, e3⟩ := (rn_new b' y c2).1 hb'
          obtain ⟨_, c, e4, _⟩ := hobj _ _ e1
          obtain ⟨c', hc'⟩ := hnewj _ e2
          have := (hnew _ _ hc').2.1
          rw [← e3, e4] at this
          cases this
        · have e1 := (rn_obj b' y c2).1 hb'
          obtain ⟨e2, e3⟩ := (rn_new b y c1).1 hb
          obtain ⟨_, c, e4, _⟩ := hobj _ _ e1
          obtain ⟨c', hc'⟩ := hnewj _ e2
          have := (hnew _ _ hc').2.1
          rw [← e3, e4] at this
          cases this
        · obtain ⟨_, e3⟩ := (rn_new b y c1).1 hb
          obtain ⟨_, e4⟩ := (rn_new b' y c2).1 hb'
          exact newH_inj hd0 (e3.symm.trans e4)) (by
        intro b y hb
        by_cases c1 : 100000 ≤ b
        · have e1 := (rn_obj b y c1).1 hb
          obtain ⟨m, c, g1, g2, g3⟩ := (hal2 _ _ e1).look (i0 := 0) hlen1 e1
          rw [Nat.zero_add, hparH b c1] at g3
          obtain ⟨_, c', e4, lo, e5, e6⟩ := hobj _ _ e1
          rw [hparH b c1] at e6
          refine ⟨⟨c, ?_, hclo c (List.mem_of_getElem? g2), ?_⟩, .inl ⟨hmem e1, by rw [e5, e6]⟩⟩
          · show look (outO 0 as out.objs ++ outN 0 out.news) b = _
            rw [look_append, g3]
          · rw [hehs, putHs_append, putHs_not (fun hh => ?_)]
            · exact putHs_objs hnd g1 g2
            · obtain ⟨j, hj, e7⟩ := newsL_keys hh
              rw [Nat.zero_add] at e7
              obtain ⟨c2, hc2⟩ := hnewj _ hj
              have := (hnew _ _ hc2).2.1
              rw [← e7, e4] at this
              cases this
        · obtain ⟨e2, e3⟩ := (rn_new b y c1).1 hb
          obtain ⟨c, hc⟩ := hnewj _ e2
          obtain ⟨g1, g2, g3, g4⟩ := hnew _ _ hc
          refine ⟨⟨c, ?_, g4, ?_⟩, .inr ⟨by rw [e3]; exact g3, by rw [e3]; exact g2⟩⟩
          · show look (outO 0 as out.objs ++ outN 0 out.news) b = _
            rw [look_append, outO_keys (by omega)]
            have := outN_look (j0 := 0) g1
            rw [Nat.zero_add] at this
            exact this
          · rw [hehs, putHs_append, e3]
            have := putHs_news hd0 (j0 := 0) (h := putHs s.h (objsL (hos.filterMap id) out.objs)) hc
            rw [Nat.zero_add] at this
            exact this) (by
        intro b hb
        have n1 : b ∉ hos.filterMap id := fun hh => by
          obtain ⟨i, hi⟩ := hmem2 hh
          refine hb (parH i) ((rn_obj _ _ (by simp only [parH]; omega)).2 ?_)
          rw [show parH i - 100000 = i by simp only [parH]; omega]
          exact hi
        refine ⟨n1, ?_⟩
        rw [hehs, putHs_append, putHs_not (fun hh => ?_), putHs_not (fun hh => n1 (objsL_keys hh))]
        obtain ⟨j, hj, e7⟩ := newsL_keys hh
        rw [Nat.zero_add] at e7
        obtain ⟨c2, hc2⟩ := hnewj _ hj
        have hlt := (hnew _ _ hc2).2.2.1
        have hj2 : j < 100000 := by
          simp only [newH] at hlt
          split at hlt <;> omega
        exact hb j ((rn_new _ _ (by omega)).2 ⟨hj, e7⟩))
      refine ⟨I', ρ2, ow2, ?_⟩
      rcases hev with ⟨e1, e2⟩ | ⟨e1, e2, e3, e4⟩
      · have := b3.putD (o := o) (a := a) hd (v := e.v) (x := x) (by rw [e2]; exact VRep.any _ _ _ _)
        exact this
      · subst e2
        refine b3.putD (o := o) (a := a) hd (v := e.v) (x := x) ?_
        rw [e3]
        refine hx.rename e4 (fun j lo hj hlo => ?_)
        have hlt := (hnew j _ (List.getElem?_eq_getElem hj)).2.2.1
        have hj2 : j < 100000 := by
          simp only [newH] at hlt
          split at hlt <;> omega
        rw [b2 j _ ((rn_new _ _ (by omega)).2 ⟨hj, rfl⟩)]
        exact hlo
end
end Go.Cx
/- CxStep -/
namespace Go.Cx
open Go
section
variable {P : Program} {G : List (Nat × V)} {pure : Nat → Bool} {X : Fix} {I : Nat → Prop} {ρ : Rho} {ow : Own} {s : St} {a : Act} {w : World} {o : Oper}
def storeOk (o : Oper) : Bool := match o.op, o.dst with
  | .store .., some _ => false
  | _, _ => true
theorem isU8_eq {d : Option TypeDesc} (h : isU8 d = true) : d = some (.int .u8) := by
  unfold isU8 at h
  split at h
  · rfl
  · cases h
theorem isEkU8_eq {d : Option EK} (h : isEkU8 d = true) : d = some (.i .u8) := by
  unfold isEkU8 at h
  split at h
  · rfl
  · cases h
theorem arr_one {α : Type} {as : Array α} {x : α} (h : as.toList = [x]) : as = #[x] := by apply Array.ext'; simpa using h
theorem arr_two {α : Type} {as : Array α} {x y : α} (h : as.toList = [x, y]) : as = #[x, y] := by apply Array.ext'; simpa using h
theorem sameOp_eval {x y : Operand} (h : sameOp x y = true) : a.eval y = a.eval x := by
  cases x <;> cases y <;> simp [sameOp] at h
  · subst h; rfl
  · rename_i v v'
    cases v <;> cases v' <;> simp at h
    obtain ⟨rfl, rfl⟩ := h
    rfl
theorem F2.mapR {α β γ : Type} {R : α → γ → Prop} {S : α → β → Prop} {T : β → γ → Prop} (hf : ∀ x y z, S x y → T y z → R x z) : ∀ {l : List α} {m : List β} {n : List γ}, F2 S l m → F2 T m n → F2 R l n := by
  intro l
  induction l with
  | nil => intro m n h1 h2; cases h1; cases h2; exact .nil
  | cons x l ih =>
    intro m n h1 h2
    cases h1 with
    | cons a1 a2 => cases h2 with | cons b1 b2 => exact .cons (hf _ _ _ a1 b1) (ih a2 b2)
theorem F2.zipL {α β : Type} {R : α → β → Prop} : ∀ {as : List α} {ts : List TypeId} {l : List β}, as.length = ts.length → F2 (fun p y => R p.1 y) (as.zip ts) l → F2 R as l := by
  intro as
  induction as with
  | nil => intro ts l _ h; simp at h; cases h; exact .nil
  | cons x as ih =>
    intro ts l hl h
    cases ts with
    | nil => simp at hl
    | cons t ts =>
      simp only [List.zip_cons_cons] at h
      cases h with
      | cons h1 h2 => exact .cons h1 (ih (by simpa using hl) h2)
theorem akL_fst : ∀ {l : List (IX × TypeId)} {m : List (IX × AK)} {j : Nat}, akL P pure j l = some m → F2 (fun (x : IX × TypeId) (y : IX × AK) => x.1 = y.1) l m := by
  intro l
  induction l with
  | nil => intro m j h; simp only [akL, Option.some.injEq] at h; subst h; exact .nil
  | cons p l ih =>
    obtain ⟨x, t⟩ := p
    intro m j h
    simp only [akL, Option.bind_eq_some_iff, Option.some.injEq] at h
    obtain ⟨k, _, r, hr, rfl⟩ := h
    exact .cons rfl (ih hr)
theorem step_sound (h : Rep X I ρ ow s a.tmps w) (hd : dstOk X o) (hG : GOk G X) {E : List (Nat × Ctr)} (hE : EnvSound P G pure E) (hst : storeOk o = true) {i i' : IOp} (hc : compOp P pure o.op = some i)
    (hi : Tr i i') {e : Eff} (he : (stepR apf E s.t s.h o.dst i').to e) : StepOk P X o a w s e := by
  have same : ((∀ k b x y, i ≠ .app k b x y) ∧ (∀ k b x, i ≠ .mks k b x) ∧ (∀ n b x, i ≠ .ld n b x) ∧ (∀ n x y, i ≠ .st n x y) ∧ (∀ k n l, i ≠ .bsl k n l) ∧ ∀ z, i ≠ .alloc z) → i' = i := fun ⟨n1, n2, n3, n4, n5, n6⟩ => by
    cases hi with
    | same h => exact h
    | app0 k b x y h => exact absurd h (n1 _ _ _ _)
    | mksF k b x h => exact absurd h (n2 _ _ _)
    | ldE re x h => exact absurd h (n3 _ _ _)
    | stE n y h => exact absurd h (n4 _ _ _)
    | bslE z n ps h => exact absurd h (n5 _ _ _)
    | allocE n h => exact absurd h (n6 _)
    | appE z w x y h => exact absurd h (n1 _ _ _ _)
  cases hop : o.op
  case move x =>
    rw [hop] at hc
    simp only [compOp, Option.map_eq_some_iff] at hc
    obtain ⟨ix, hx, rfl⟩ := hc
    cases same (by simp)
    exact step_mv h hd (.inl hop) hx he
  case assign x =>
    rw [hop] at hc
    simp only [compOp, Option.map_eq_some_iff] at hc
    obtain ⟨ix, hx, rfl⟩ := hc
    cases same (by simp)
    exact step_mv h hd (.inr hop) hx he
  case pick c x y =>
    rw [hop] at hc
    simp only [compOp, bind, Option.bind_eq_some_iff, Option.some.injEq] at hc
    obtain ⟨ic, h1, ix, h2, iy, h3, rfl⟩ := hc
    cases same (by simp)
    exact step_pick h hd hop h1 h2 h3 he
  case alloc t =>
    rw [hop] at hc
    simp only [compOp, Option.map_eq_some_iff] at hc
    obtain ⟨z, hz, rfl⟩ := hc
    cases hi with
    | same h' => cases h'; exact step_alloc h hd hop (zeroK_ok hz) he
    | allocE n h1 h2 => cases h1; cases h2; exact step_allocE h hd hop (zeroK_ok hz) he
    | app0 _ _ _ _ h1 => cases h1
    | mksF _ _ _ h1 => cases h1
    | ldE _ _ h1 => cases h1
    | stE _ _ h1 => cases h1
    | bslE _ _ _ h1 => cases h1
    | appE _ _ _ _ h1 => cases h1
  case box t x =>
    rw [hop] at hc
    simp only [compOp, Option.map_eq_some_iff] at hc
    obtain ⟨ix, hx, rfl⟩ := hc
    cases same (by simp)
    exact step_box h hd hop hx he
  case build t ps =>
    rw [hop] at hc
    simp only [compOp] at hc
    split at hc
    · rename_i fs ht
      simp only [bind, Option.bind_eq_some_iff] at hc
      obtain ⟨z, hz, hc⟩ := hc
      split at hc
      · cases hc
      · rename_i hfs
        simp only [Option.bind_eq_some_iff, Option.some.injEq] at hc
        obtain ⟨l, hl, rfl⟩ := hc
        cases same (by simp)
        exact step_bldS h hd hop ht (zeroK_ok hz) (by simpa [← Option.isSome_iff_ne_none] using hfs) hl he
    · rename_i n el ht
      simp only [bind, Option.bind_eq_some_iff] at hc
      obtain ⟨k, hk, l, hl, hc⟩ := hc
      split at hc
      · rename_i hck
        cases hc
        simp only [Bool.and_eq_true] at hck
        cases same (by simp)
        exact step_bldA h hd hop ht hck.1 hck.2 hl he
      · cases hc
    · cases hc
  case buildSlice t n ps =>
    rw [hop] at hc
    simp only [compOp, bind, Option.bind_eq_some_iff] at hc
    obtain ⟨k, hk, l, hl, hc⟩ := hc
    simp only [ekSlice] at hk
    split at hk
    · rename_i el ht
      split at hc
      · rename_i hck
        cases hc
        simp only [Bool.and_eq_true, decide_eq_true_eq, Bool.or_eq_true, bne_iff_ne, ne_eq] at hck
        cases hi with
        | same h' =>
          cases h'
          exact step_bsl h hd hop ht (ekOf_ok hk) hck.1 hl (fun hn => by
            rcases hck.2 with h1 | h1
            · exact absurd hn h1
            · simpa using h1) he
        | bslE z n ps h1 h2 =>
          cases h1
          cases h2
          exact step_bslE h hd hop ht (ekOf_ok hk) hck.1 hl he
        | app0 _ _ _ _ h1 => cases h1
        | mksF _ _ _ h1 => cases h1
        | ldE _ _ h1 => cases h1
        | stE _ _ h1 => cases h1
        | allocE _ h1 => cases h1
        | appE _ _ _ _ h1 => cases h1
      · cases hc
    · cases hk
  case load t x =>
    rw [hop] at hc
    simp only [compOp] at hc
    split at hc
    · rename_i hck
      simp only [Bool.and_eq_true, bne_iff_ne, ne_eq] at hck
      obtain ⟨d, hu⟩ := Option.isSome_iff_exists.1 hck.2
      simp only [Option.map_eq_some_iff] at hc
      obtain ⟨ix, hx, rfl⟩ := hc
      cases hi with
      | same h' => cases h'; exact step_ld h hd hop hu hck.1 hx he
      | ldE re x' h1 h2 =>
        simp only [IOp.ld.injEq] at h1
        obtain ⟨_, hagg, rfl⟩ := h1
        subst h2
        exact step_ldE h hd hop hu hagg hx he
      | app0 _ _ _ _ h1 => cases h1
      | mksF _ _ _ h1 => cases h1
      | stE _ _ h1 => cases h1
      | bslE _ _ _ h1 => cases h1
      | allocE _ h1 => cases h1
      | appE _ _ _ _ h1 => cases h1
    · cases hc
  case store t x y =>
    rw [hop] at hc
    simp only [compOp] at hc
    split at hc
    · rename_i hck
      simp only [bne_iff_ne, ne_eq] at hck
      simp only [bind, Option.bind_eq_some_iff, Option.some.injEq] at hc
      obtain ⟨ix, hx, iy, hy, rfl⟩ := hc
      have hdst : o.dst = none := by
        simp only [storeOk, hop] at hst
        cases hq : o.dst with
        | none => rfl
        | some d => rw [hq] at hst; cases hst
      cases hi with
      | same h' => cases h'; exact step_st h hop hdst hck hx hy he
      | stE n y' h1 h2 =>
        simp only [IOp.st.injEq] at h1
        obtain ⟨h1, rfl, rfl⟩ := h1
        subst h2
        exact step_stE h hop hdst h1 hx hy he
      | app0 _ _ _ _ h1 => cases h1
      | mksF _ _ _ h1 => cases h1
      | ldE _ _ h1 => cases h1
      | bslE _ _ _ h1 => cases h1
      | allocE _ h1 => cases h1
      | appE _ _ _ _ h1 => cases h1
    · cases hc
  case nilCheck x =>
    rw [hop] at hc
    simp only [compOp, Option.map_eq_some_iff] at hc
    obtain ⟨ix, hx, rfl⟩ := hc
    cases same (by simp)
    exact step_nck h hd hop hx he
  case binOp op t x y yt =>
    rw [hop] at hc
    simp only [compOp] at hc
    split at hc
    · rename_i k ht
      split at hc
      · rename_i hcm
        simp only [bind, Option.bind_eq_some_iff, Option.some.injEq] at hc
        obtain ⟨ix, hx, iy, hy, rfl⟩ := hc
        cases same (by simp)
        exact step_cmp h hd hop hcm hx hy he
      · split at hc
        · rename_i har
          simp only [bind, Option.bind_eq_some_iff, Option.some.injEq] at hc
          obtain ⟨ix, hx, iy, hy, rfl⟩ := hc
          cases same (by simp)
          exact step_ar (k := k) h hd hop har hx hy he rfl
        · split at hc
          · rename_i hsh
            simp only [bind, Option.bind_eq_some_iff, Option.some.injEq] at hc
            obtain ⟨ix, hx, iy, hy, rfl⟩ := hc
            cases same (by simp)
            refine step_shf h hd hop ?_ hx hy he
            cases op <;> simp [isSh] at hsh <;> simp
          · cases hc
    · split at hc
      · rename_i k hk
        simp only [bind, Option.bind_eq_some_iff, Option.some.injEq] at hc
        obtain ⟨ix, hx, iy, hy, rfl⟩ := hc
        cases same (by simp)
        exact step_eq (ne := false) h hd hop hk hx hy he
      · rename_i k hk
        simp only [bind, Option.bind_eq_some_iff, Option.some.injEq] at hc
        obtain ⟨ix, hx, iy, hy, rfl⟩ := hc
        cases same (by simp)
        exact step_eq (ne := true) h hd hop hk hx hy he
      · simp only [bind, Option.bind_eq_some_iff, Option.some.injEq] at hc
        obtain ⟨ty, hty, ix, hx, iy, hy, rfl⟩ := hc
        cases same (by simp)
        exact step_eqZ (ne := false) h hd hop hty hx hy he
      · simp only [bind, Option.bind_eq_some_iff, Option.some.injEq] at hc
        obtain ⟨ty, hty, ix, hx, iy, hy, rfl⟩ := hc
        cases same (by simp)
        exact step_eqZ (ne := true) h hd hop hty hx hy he
      · cases hc
  case unOp op t x =>
    rw [hop] at hc
    simp only [compOp] at hc
    split at hc
    · rename_i k ht
      simp only [Option.map_eq_some_iff] at hc
      obtain ⟨ix, hx, rfl⟩ := hc
      cases same (by simp)
      exact step_neg h hd hop hx he
    · rename_i k ht
      simp only [Option.map_eq_some_iff] at hc
      obtain ⟨ix, hx, rfl⟩ := hc
      cases same (by simp)
      exact step_cpl h hd hop hx he
    · simp only [Option.map_eq_some_iff] at hc
      obtain ⟨ix, hx, rfl⟩ := hc
      cases same (by simp)
      exact step_not h hd hop hx he
    · cases hc
  case convert t u x =>
    rw [hop] at hc
    simp only [compOp] at hc
    split at hc
    · rename_i j k ht hu
      simp only [Option.map_eq_some_iff] at hc
      obtain ⟨ix, hx, rfl⟩ := hc
      cases same (by simp)
      exact step_cv h hd hop hu ht hx he
    · rename_i el ht hu
      split at hc
      · rename_i hel
        simp only [Option.map_eq_some_iff] at hc
        obtain ⟨ix, hx, rfl⟩ := hc
        cases same (by simp)
        exact step_b2s h hd hop ht hu (isU8_eq hel) hx he
      · cases hc
    · rename_i el ht hu
      split at hc
      · rename_i hel
        simp only [Option.map_eq_some_iff] at hc
        obtain ⟨ix, hx, rfl⟩ := hc
        cases same (by simp)
        exact step_s2b h hd hop ht hu (isU8_eq hel) hx he
      · cases hc
    · rename_i el0 el ht hu
      split at hc
      · rename_i hck
        simp only [Bool.and_eq_true, beq_iff_eq] at hck
        simp only [Option.map_eq_some_iff] at hc
        obtain ⟨ix, hx, rfl⟩ := hc
        cases same (by simp)
        obtain ⟨rfl, hel⟩ := hck
        exact step_mst h hd hop hu (isU8_eq hel) hx he
      · cases hc
    · cases hc
  case makeSlice t x y =>
    rw [hop] at hc
    simp only [compOp] at hc
    split at hc
    · rename_i el ht
      split at hc
      · rename_i hck
        simp only [Bool.and_eq_true, decide_eq_true_eq] at hck
        simp only [bind, Option.bind_eq_some_iff, Option.some.injEq] at hc
        obtain ⟨k, hk, ix, hx, rfl⟩ := hc
        cases hi with
        | same h' => cases h'; exact step_mks h hd hop (sameOp_eval hck.1) ht (ekOf_ok hk) hck.2 hx he
        | mksF _ _ _ h1 h2 => cases h1; cases h2; exact step_mksF h hd hop (sameOp_eval hck.1) ht (ekOf_ok hk) hck.2 hx he
        | app0 _ _ _ _ h1 => cases h1
        | ldE _ _ h1 => cases h1
        | stE _ _ h1 => cases h1
        | bslE _ _ _ h1 => cases h1
        | allocE _ h1 => cases h1
        | appE _ _ _ _ h1 => cases h1
      · cases hc
    · cases hc
  case slice t x lo hi' mx =>
    rw [hop] at hc
    simp only [compOp] at hc
    split at hc
    · rename_i n el ht
      split at hc
      · rename_i hck
        simp only [Bool.and_eq_true, bne_iff_ne, ne_eq, decide_eq_true_eq, Option.isNone_iff_eq_none] at hck
        obtain ⟨⟨rfl, hz⟩, hn⟩ := hck
        simp only [bind, Option.bind_eq_some_iff, Option.some.injEq] at hc
        obtain ⟨ix, hx, il, hl, ih, hh, rfl⟩ := hc
        cases same (by simp)
        exact step_slA h hd hop ht hz (by simp only [maxLen]; omega) hx hl hh he
      · cases hc
    · rename_i el ht
      split at hc
      · rename_i hz
        simp only [bne_iff_ne, ne_eq] at hz
        split at hc
        · simp only [bind, Option.bind_eq_some_iff, Option.some.injEq] at hc
          obtain ⟨ix, hx, ih, hh, rfl⟩ := hc
          cases same (by simp)
          exact step_slX h hd hop ht hz hx hh rfl he
        · simp only [bind, Option.bind_eq_some_iff, Option.some.injEq] at hc
          obtain ⟨ix, hx, il, hl, ih, hh, im, hm, rfl⟩ := hc
          cases same (by simp)
          exact step_slS h hd hop ht hz hx hl hh hm he
      · cases hc
    · rename_i ht
      split at hc
      · rename_i hmx
        simp only [Option.isNone_iff_eq_none] at hmx
        subst hmx
        simp only [bind, Option.bind_eq_some_iff, Option.some.injEq] at hc
        obtain ⟨ix, hx, il, hl, ih, hh, rfl⟩ := hc
        cases same (by simp)
        exact step_slT h hd hop ht hx hl hh he
      · cases hc
    · cases hc
  case sliceToArrayPointer t x =>
    rw [hop] at hc
    simp only [compOp] at hc
    split at hc
    · rename_i n el ht
      split at hc
      · simp only [Option.map_eq_some_iff] at hc
        obtain ⟨ix, hx, rfl⟩ := hc
        cases same (by simp)
        exact step_s2a h hd hop ht hx he
      · cases hc
    · cases hc
  case fieldAddr t x f =>
    rw [hop] at hc
    simp only [compOp] at hc
    split at hc
    · rename_i fs ht
      split at hc
      · rename_i fd hf
        split at hc
        · cases hc
        · rename_i hz
          simp only [Option.map_eq_some_iff] at hc
          obtain ⟨ix, hx, rfl⟩ := hc
          cases same (by simp)
          exact step_fa h hd hop ht hf hz hx he
      · cases hc
    · cases hc
  case field t x f =>
    rw [hop] at hc
    simp only [compOp] at hc
    split at hc
    · rename_i fs ht
      split at hc
      · rename_i fd hf
        split at hc
        · rename_i hck
          simp only [Bool.and_eq_true, bne_iff_ne, ne_eq] at hck
          obtain ⟨d, hu⟩ := Option.isSome_iff_exists.1 hck.2
          simp only [Option.map_eq_some_iff] at hc
          obtain ⟨ix, hx, rfl⟩ := hc
          cases same (by simp)
          exact step_fl h hd hop ht hf hck.1 hu hx he
        · cases hc
      · cases hc
    · cases hc
  case indexAddr t x j =>
    rw [hop] at hc
    simp only [compOp] at hc
    split at hc
    · rename_i n el ht
      split at hc
      · rename_i hz
        simp only [bne_iff_ne, ne_eq] at hz
        simp only [bind, Option.bind_eq_some_iff, Option.some.injEq] at hc
        obtain ⟨ix, hx, ii, hi2, rfl⟩ := hc
        cases same (by simp)
        exact step_iaA h hd hop ht hz hx hi2 he
      · cases hc
    · rename_i el ht
      split at hc
      · rename_i hz
        simp only [bne_iff_ne, ne_eq] at hz
        simp only [bind, Option.bind_eq_some_iff, Option.some.injEq] at hc
        obtain ⟨ix, hx, ii, hi2, rfl⟩ := hc
        cases same (by simp)
        exact step_iaS h hd hop ht hz hx hi2 he
      · cases hc
    · cases hc
  case index t x j =>
    rw [hop] at hc
    simp only [compOp] at hc
    split at hc
    · rename_i n el ht
      split at hc
      · rename_i hck
        simp only [Bool.and_eq_true, bne_iff_ne, ne_eq] at hck
        obtain ⟨d, hu⟩ := Option.isSome_iff_exists.1 hck.2
        simp only [bind, Option.bind_eq_some_iff, Option.some.injEq] at hc
        obtain ⟨ix, hx, ii, hi2, rfl⟩ := hc
        cases same (by simp)
        exact step_ixA h hd hop ht hck.1 hu hx hi2 he
      · cases hc
    · rename_i ht
      simp only [bind, Option.bind_eq_some_iff, Option.some.injEq] at hc
      obtain ⟨ix, hx, ii, hi2, rfl⟩ := hc
      cases same (by simp)
      exact step_ixT h hd hop ht hx hi2 he
    · cases hc
  case extract x j =>
    rw [hop] at hc
    simp only [compOp, Option.map_eq_some_iff] at hc
    obtain ⟨ix, hx, rfl⟩ := hc
    cases same (by simp)
    exact step_ext h hd hop hx he
  case call c =>
    obtain ⟨callee, args, ts⟩ := c
    rw [hop] at hc
    cases callee with
    | builtin b =>
      simp only [compOp, compCall] at hc
      split at hc
      · rename_i x t hxs hts
        cases arr_one hxs
        cases arr_one hts
        split at hc
        · rename_i hu
          simp only [Option.map_eq_some_iff] at hc
          obtain ⟨ix, hx, rfl⟩ := hc
          cases same (by simp)
          exact step_lenT h hd hop hu hx he
        · rename_i el hu
          simp only [Option.map_eq_some_iff] at hc
          obtain ⟨ix, hx, rfl⟩ := hc
          cases same (by simp)
          exact step_lenS h hd hop hu hx he
        · rename_i n el hu
          split at hc
          · rename_i hn
            cases hc
            cases same (by simp)
            exact step_lenA h hd hop hu (by simp only [maxLen]; omega) he
          · cases hc
        · cases hc
      · rename_i x y t u hxs hts
        cases arr_two hxs
        cases arr_two hts
        split at hc
        · rename_i el el' ht hu
          split at hc
          · rename_i hck
            simp only [Bool.and_eq_true, beq_iff_eq, decide_eq_true_eq] at hck
            obtain ⟨rfl, hb⟩ := hck
            simp only [bind, Option.bind_eq_some_iff, Option.some.injEq] at hc
            obtain ⟨k, hk, ix, hx, iy, hy, rfl⟩ := hc
            cases hi with
            | same h' => cases h'; exact step_app h hd hop ht hu (ekOf_ok hk) hb hx hy he
            | app0 _ _ _ _ h1 h2 => cases h1; cases h2; exact step_app0 h hd hop ht hu (ekOf_ok hk) hb hx hy he
            | appE _ _ _ _ h1 h2 => cases h1; cases h2; exact step_appE h hd hop ht hu (ekOf_ok hk) hb hx hy he
            | mksF _ _ _ h1 => cases h1
            | ldE _ _ h1 => cases h1
            | stE _ _ h1 => cases h1
            | bslE _ _ _ h1 => cases h1
            | allocE _ h1 => cases h1
          · cases hc
        · rename_i el ht hu
          split at hc
          · rename_i hck
            simp only [Bool.and_eq_true, beq_iff_eq] at hck
            simp only [bind, Option.bind_eq_some_iff, Option.some.injEq] at hc
            obtain ⟨ix, hx, iy, hy, rfl⟩ := hc
            cases same (by simp)
            exact step_appT h hd hop ht hu (ekOf_ok (isEkU8_eq hck.1)) hck.2 hx hy he
          · cases hc
        · rename_i el ik ht hu
          split at hc
          · rename_i hb
            simp only [bind, Option.bind_eq_some_iff, Option.some.injEq] at hc
            obtain ⟨k, hk, ix, hx, iy, hy, rfl⟩ := hc
            cases same (by simp)
            exact step_appz h hd hop ht hu (ekOf_ok hk) hb hx hy he
          · cases hc
        · cases hc
      · rename_i x y t u hxs hts
        cases arr_two hxs
        cases arr_two hts
        split at hc
        · rename_i el el' ht hu
          split at hc
          · simp only [bind, Option.bind_eq_some_iff, Option.some.injEq] at hc
            obtain ⟨k, hk, ix, hx, iy, hy, rfl⟩ := hc
            cases same (by simp)
            exact step_cpy h hd hop ht (ekOf_ok hk) hx hy he
          · cases hc
        · cases hc
      · rename_i x y t u hxs hts
        cases arr_two hxs
        split at hc
        · simp only [bind, Option.bind_eq_some_iff, Option.some.injEq] at hc
          obtain ⟨ix, hx, iy, hy, rfl⟩ := hc
          cases same (by simp)
          exact step_min h hd hop hx hy he
        · cases hc
      · rename_i x y t u hxs hts
        cases arr_two hxs
        split at hc
        · simp only [bind, Option.bind_eq_some_iff, Option.some.injEq] at hc
          obtain ⟨ix, hx, iy, hy, rfl⟩ := hc
          cases same (by simp)
          exact step_max h hd hop hx hy he
        · cases hc
      · cases hc
    | invoke x nm => simp [compOp] at hc
    | value v =>
      cases v with
      | func f =>
        simp only [compOp, bind, Option.bind_eq_some_iff] at hc
        obtain ⟨l1, hl1, l2, hl2, hc⟩ := hc
        split at hc
        · rename_i hck
          simp only [Bool.and_eq_true, beq_iff_eq, decide_eq_true_eq] at hck
          cases hc
          cases same (by simp)
          have g1 := optL_map hl1
          have g3 : F2 (fun (p : Operand × TypeId) (y : IX × AK) => opIX p.1 = some y.1) (args.toList.zip ts.toList) l2 := F2.mapR (fun p y z h1 h2 => by
            simp only [Option.map_eq_some_iff] at h1
            obtain ⟨ix, h3, rfl⟩ := h1
            rw [h3]; exact congrArg some h2) g1 (akL_fst hl2)
          have g4 := F2.zipL (R := fun (x : Operand) (y : IX × AK) => opIX x = some y.1) (by simpa using hck.1.1) g3
          exact step_call h hd hG hE hck.2 hop g4 (by omega) he
        · cases hc
      | _ => simp [compOp] at hc
  all_goals (rw [hop] at hc; simp [compOp] at hc)
end
end Go.Cx
