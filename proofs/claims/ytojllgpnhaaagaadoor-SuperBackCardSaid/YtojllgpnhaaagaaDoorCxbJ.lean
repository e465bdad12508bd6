/-
  Numbers laid into bytes; slots: in plain Lean.
-/
import Derived.Test.YtojllgpnhaaagaaDoorCxbI
namespace Go.Cx.Rb
open Go Go.Cx

/-- a number in k bytes -/
def beL (k : Nat) (v : Int) : List Int := (List.range k).map fun i => v / 256 ^ (k - 1 - i) % 256
def beP (k : Nat) (v : Int) (i : Nat) : List Int := (beL k v).take i ++ List.replicate (k - i) 0
theorem beL_len (k : Nat) (v : Int) : (beL k v).length = k := by simp [beL]
theorem beP_len {k : Nat} (v : Int) {i : Nat} (h : i ≤ k) : (beP k v i).length = k := by simp [beP, beL_len]; omega
theorem beP_zero (k : Nat) (v : Int) : beP k v 0 = zerosI k := by simp [beP, zerosI]
theorem beP_all (k : Nat) (v : Int) : beP k v k = beL k v := by simp [beP, List.take_of_length_le, beL_len]
theorem beL_at {k : Nat} {v : Int} {i : Nat} (h : i < k) : (beL k v)[i]? = some (v / 256 ^ (k - 1 - i) % 256) := by simp [beL, h]
theorem beP_set {k : Nat} {v x : Int} {i : Nat} (h : i < k) (hx : x = v / 256 ^ (k - 1 - i) % 256) : setI (beP k v i) i x = beP k v (i + 1) := by
  subst hx
  have e : (beL k v).take (i + 1) = (beL k v).take i ++ [v / 256 ^ (k - 1 - i) % 256] := by
    rw [List.take_add_one, beL_at h]; rfl
  have e2 : List.replicate (k - i) (0 : Int) = 0 :: List.replicate (k - (i + 1)) 0 := by
    rw [← List.replicate_succ]; congr 1; omega
  have e3 : ((beL k v).take i).length = i := by simp [beL_len]; omega
  unfold setI beP
  rw [e, e2, List.set_append_right _ _ (by omega), e3, Nat.sub_self, List.set_cons_zero, List.append_assoc]
  rfl
theorem beL_rng (k : Nat) (v : Int) : ∀ y ∈ beL k v, inR .u8 y := by
  intro y hy
  simp only [beL, List.mem_map, List.mem_range] at hy
  obtain ⟨i, _, rfl⟩ := hy
  show (0 : Int) ≤ _ ∧ _ ≤ (255 : Int)
  omega

structure SlotP where
  u : Bool
  k : Int
  r : Int
  s : List Int
  w : List Int
  c : List Int
  deriving DecidableEq
def slot0 : SlotP := ⟨false, 0, 0, zerosI 16, zerosI 32, zerosI 24⟩
def slotA (ap : AP) (p : SlotP) : V := .cat 1 74 (.bool (ap _ _ SlotP.u p)) (.cat 1 73 (.int .i64 (ap _ _ SlotP.k p)) (.cat 1 72 (.int .i64 (ap _ _ SlotP.r p))
  (.cat 16 56 (.ints .u8 16 (ap _ _ SlotP.s p)) (.cat 32 24 (.ints .u8 32 (ap _ _ SlotP.w p)) (.ints .u8 24 (ap _ _ SlotP.c p))))))
def inSlot (p : SlotP) : Prop := 1 ≤ p.k ∧ p.k ≤ 255 ∧ 1 ≤ p.r ∧ p.r ≤ 64
instance (p : SlotP) : Decidable (inSlot p) := by unfold inSlot; infer_instance
def rightS (p : SlotP) : Bool := if p.u then decide (inSlot p) else decide (p = slot0)
def headS (p : SlotP) : List Int := [1, wcv .u8 p.k, 0, 0] ++ beL 4 p.r ++ p.s ++ p.w
def inRnd (p : SlotP) : Prop := 1 ≤ p.r ∧ p.r ≤ 64
def checkL : List Int := [99, 104, 101, 99, 107]
def wrapL : List Int := [119, 114, 97, 112]
def chkS (key : List Int) (p : SlotP) : List Int := (macS (macS key checkL) (headS p)).take 24
def crS (key b : List Int) : List Int := xorP b (macS key wrapL) 32
end Go.Cx.Rb

/- Numbers laid into bytes. -/
namespace Go.Cx.Rb
open Go Go.Cx Go.Proofs

def fitsB (v : Int) (k : Int) : Prop := 0 ≤ v ∧ v < 256 ^ k.toNat
def cNum (ap : AP) : Ctr
  | [.v (.int .u64 v), .v (.lit .i64 k)] => rif (k == 4 || k == 8) 310 <| .chk (ap _ _ (ap _ _ fitsB v) k) <| .ok
    ⟨.tcons (.sl 0 [] 0 k.toNat 1 (some k.toNat)) (.tcons (.lit .i64 0) .tnil), [], [.ints .u8 k.toNat (ap _ _ (ap _ _ beL k.toNat) v)]⟩
  | _ => .fail 310
def aNum (ap : AP) (k : Nat) (kI : Int) (v : Int) : List (Nat × Ann) := [
  (0, .inv Nat (fun i => ⟨[(0, .int .u64 v), (1, .lit .i64 kI), (6, .sl 26 [] 0 k 1 (some k)), (28, .int .i64 (ap _ _ lenI k)), (29, .int .i64 (ap _ _ lenI i))],
      [(26, ⟨.own, .ints .u8 k (ap _ _ (ap _ _ (ap _ _ beP k) v) i)⟩)], []⟩)
    (fun i => i ≤ k) (fun i => k - i))]
theorem be_byte {k i : Nat} {v z : Int} (hz : z = (k : Int) - 1) (hi : i < k) (hk : k ≤ 8) (_hv : 0 ≤ v) :
    wcv .u8 (bshr .u64 v (wmul .i64 8 (wsub .i64 z i))) = v / 256 ^ (k - 1 - i) % 256 := by
  obtain ⟨j, hj⟩ : ∃ j : Nat, j = k - 1 - i := ⟨_, rfl⟩
  have e1 : wsub .i64 z i = (j : Int) := by
    rw [wsub_i64 (by omega)]; omega
  have e2 : wmul .i64 8 (j : Int) = ((8 * j : Nat) : Int) := by
    show IntKind.i64.wrap (8 * (j : Int)) = _
    rw [IntWalk.i64_in _ ⟨by omega, by omega⟩]; omega
  rw [e1, e2, ← hj]
  show IntKind.u8.wrap (v.fdiv (2 ^ (min (8 * j : Int).toNat 64))) = _
  have e3 : min ((8 * j : Nat) : Int).toNat 64 = 8 * j := by omega
  have e4 : (2 : Int) ^ (8 * j) = 256 ^ j := by rw [Int.pow_mul]; rfl
  have e5 : min (8 * (j : Int)).toNat 64 = 8 * j := by omega
  rw [e5, e4, u8_emod, Int.fdiv_eq_ediv_of_nonneg _ (Int.pow_nonneg (by omega))]

theorem wm8 {k i : Nat} {z : Int} (hz : z = (k : Int) - 1) (h : i < k) (hk : k ≤ 8) : 0 ≤ wmul .i64 8 (wsub .i64 z i) := by
  subst hz
  rw [wsub_i64 (by omega)]
  show 0 ≤ IntKind.i64.wrap (8 * _)
  rw [IntWalk.i64_in _ ⟨by omega, by omega⟩]
  omega

set_option maxRecDepth 20000 in
theorem vc107 (args : List Arg) (out : Out) (h : (cNum apf args).to out) (hok : okAs args) :
    args.length = ic107.nargs ∧ ic107.nargs ≤ ic107.ntmps ∧ ∃ A, run apf [] A ic107.body (fnQ apf args out ic107.res) (st0 G1 true args) := by
  unfold cNum at h
  split at h
  · rename_i v k
    obtain ⟨hk, h1, h⟩ := rif_to h
    cases h
    simp only [Bool.or_eq_true, beq_iff_eq] at hk
    have h1 : 0 ≤ v ∧ v < 256 ^ k.toNat := h1
    refine ⟨rfl, by decide, aNum apf k.toNat k v, ?_⟩
    show run apf _ _ _ _ (st0 [(1, .ints .u32 64 kk)] _ _)
    generalize hK : kk = K
    rcases hk with rfl | rfl
    · have h2 : v < 4294967296 := h1.2
      generalize hap : apf = ap
      cbv
      refine ⟨fun h9 => ?_, fun h9 => ?_⟩
      · exfalso
        subst hap
        have h9 : v.fdiv 4294967296 ≠ 0 := ne_t.1 h9
        rw [Int.fdiv_eq_ediv_of_nonneg _ (by omega)] at h9
        omega
      cbv
      and_intros
      any_goals (refine ⟨0, Nat.zero_le _, ?_⟩; cbv; and_intros)
      rotate_right 1
      · intro (i : Nat) hi _ _
        have hi : i ≤ 4 := hi
        cbv
        refine ⟨fun h7 => ?_, fun h7 => ?_⟩
        · have b0 : i < 4 := by
            have : (i : Int) < 4 := by subst hap; exact lt_t.1 h7
            omega
          have c1 : i + 1 ≤ 4 := b0
          have c2 : 4 - (i + 1) < 4 - i := by omega
          cbv
          and_intros
          any_goals (refine ⟨i + 1, c1, c2, ?_⟩; cbv; and_intros)
          all_goals subst hap
          all_goals have inc : wadd .i64 (i : Int) 1 = ((i + 1 : Nat) : Int) := inc_i64 (by omega)
          all_goals have e2 := wm8 (k := 4) (i := i) (z := 3) rfl b0 (by omega)
          all_goals have e3 := be_byte (k := 4) (i := i) (v := v) (z := 3) rfl b0 (by omega) h1.1
          all_goals have e4 := beP_set (k := 4) (v := v) b0 e3
          all_goals first
            | exact True.intro
            | exact inc.symm
            | exact e2
            | (simp only [apf, eqL', arF, natI, addN, lenI, Int.toNat_natCast, Nat.zero_add]
               exact e4.symm)
            | rfl
            | (show _ < _
               simp only [apf, natI, addN, lenI, Int.toNat_natCast, Nat.zero_add]
               omega)
            | (show 0 ≤ (i : Int)
               omega)
        · have b0 : i = 4 := by
            have : (4 : Int) ≤ (i : Int) := by subst hap; exact lt_f.1 h7
            omega
          subst b0
          cbv
          subst hap
          and_intros
          all_goals first
            | exact True.intro
            | rfl
            | exact (beP_all 4 v).symm
      all_goals subst hap
      all_goals first
        | exact True.intro
        | rfl
        | (show 1 * 4 ≤ 140737488355328; decide)
        | (show 0 ≤ (4 : Int); decide)
        | exact beP_zero 4 v
    · generalize hap : apf = ap
      cbv
      and_intros
      any_goals (refine ⟨0, Nat.zero_le _, ?_⟩; cbv; and_intros)
      rotate_right 1
      · intro (i : Nat) hi _ _
        have hi : i ≤ 8 := hi
        cbv
        refine ⟨fun h7 => ?_, fun h7 => ?_⟩
        · have b0 : i < 8 := by
            have : (i : Int) < 8 := by subst hap; exact lt_t.1 h7
            omega
          have c1 : i + 1 ≤ 8 := b0
          have c2 : 8 - (i + 1) < 8 - i := by omega
          cbv
          and_intros
          any_goals (refine ⟨i + 1, c1, c2, ?_⟩; cbv; and_intros)
          all_goals subst hap
          all_goals have inc : wadd .i64 (i : Int) 1 = ((i + 1 : Nat) : Int) := inc_i64 (by omega)
          all_goals have e2 := wm8 (k := 8) (i := i) (z := 7) rfl b0 (by omega)
          all_goals have e3 := be_byte (k := 8) (i := i) (v := v) (z := 7) rfl b0 (by omega) h1.1
          all_goals have e4 := beP_set (k := 8) (v := v) b0 e3
          all_goals first
            | exact True.intro
            | exact inc.symm
            | exact e2
            | (simp only [apf, eqL', arF, natI, addN, lenI, Int.toNat_natCast, Nat.zero_add]
               exact e4.symm)
            | rfl
            | (show _ < _
               simp only [apf, natI, addN, lenI, Int.toNat_natCast, Nat.zero_add]
               omega)
            | (show 0 ≤ (i : Int)
               omega)
        · have b0 : i = 8 := by
            have : (8 : Int) ≤ (i : Int) := by subst hap; exact lt_f.1 h7
            omega
          subst b0
          cbv
          subst hap
          and_intros
          all_goals first
            | exact True.intro
            | rfl
            | exact (beP_all 8 v).symm
      all_goals subst hap
      all_goals first
        | exact True.intro
        | rfl
        | (show 1 * 8 ≤ 140737488355328; decide)
        | (show 0 ≤ (8 : Int); decide)
        | exact beP_zero 8 v
  · exact h.elim
theorem s107 : Sound Tryd.prog G1 107 (pu 107) (cNum apf) := fn_sound rfl Tryd.call107 ok107 co107 env_nil vc107
end Go.Cx.Rb

/- Slots: which are right; a slot's first bytes, its check, a key crossed. -/
namespace Go.Cx.Rb
open Go Go.Cx Go.Proofs

def cRightS (ap : AP) : Ctr
  | [.v (.cat 1 74 (.bool u) (.cat 1 73 (.int .i64 k) (.cat 1 72 (.int .i64 r) (.cat 16 56 (.ints .u8 m1 s) (.cat 32 24 (.ints .u8 m2 w) (.ints .u8 m3 c))))))] =>
    rif (m1 == 16 && m2 == 32 && m3 == 24) 320 <| .ok ⟨.bool (ap _ _ rightS ⟨u, k, r, s, w, c⟩), [], []⟩
  | _ => .fail 320
theorem slot_lits (u : Bool) (k r : Int) (s w c : List Int) : litsV (.cat 1 74 (.bool u) (.cat 1 73 (.int .i64 k) (.cat 1 72 (.int .i64 r) (.cat 16 56 (.ints .u8 16 s) (.cat 32 24 (.ints .u8 32 w) (.ints .u8 24 c)))))) =
    [.b u, .i .i64 k, .i .i64 r] ++ (s.map (.i .u8) ++ (w.map (.i .u8) ++ c.map (.i .u8))) := rfl
theorem lvi_inj {a b : List Int} (h : a.map (LV.i .u8) = b.map (LV.i .u8)) : a = b := by
  induction a generalizing b with
  | nil => cases b with | nil => rfl | cons _ _ => cases h
  | cons x a ih =>
    cases b with
    | nil => cases h
    | cons y b =>
      simp only [List.map_cons, List.cons.injEq, LV.i.injEq, true_and] at h
      rw [h.1, ih h.2]
theorem slot_inj {u u' : Bool} {k k' r r' : Int} {s s' w w' c c' : List Int} (h1 : s.length = s'.length) (h2 : w.length = w'.length)
    (h : [LV.b u, .i .i64 k, .i .i64 r] ++ (s.map (LV.i .u8) ++ (w.map (LV.i .u8) ++ c.map (LV.i .u8))) = [LV.b u', .i .i64 k', .i .i64 r'] ++ (s'.map (LV.i .u8) ++ (w'.map (LV.i .u8) ++ c'.map (LV.i .u8)))) :
    (⟨u, k, r, s, w, c⟩ : SlotP) = ⟨u', k', r', s', w', c'⟩ := by
  simp only [List.cons_append, List.nil_append, List.cons.injEq, LV.b.injEq, LV.i.injEq, true_and] at h
  obtain ⟨rfl, rfl, rfl, h⟩ := h
  obtain ⟨e1, h⟩ := List.append_inj h (by simpa using h1)
  obtain ⟨e2, h⟩ := List.append_inj h (by simpa using h2)
  rw [lvi_inj e1, lvi_inj e2, lvi_inj h]
theorem kinds_map (l : List Int) : (l.map (LV.i .u8)).map kindL = List.replicate l.length (.i .u8) := by
  induction l with
  | nil => rfl
  | cons x l ih => simp only [List.map_cons, List.length_cons, List.replicate_succ, ih]; rfl
theorem slot_kinds {u : Bool} {k r : Int} {s w c : List Int} (h1 : s.length = 16) (h2 : w.length = 32) (h3 : c.length = 24) :
    ([LV.b u, .i .i64 k, .i .i64 r] ++ (s.map (LV.i .u8) ++ (w.map (LV.i .u8) ++ c.map (LV.i .u8)))).map kindL = [.b, .i .i64, .i .i64] ++ (List.replicate 16 (.i .u8) ++ (List.replicate 32 (.i .u8) ++ List.replicate 24 (.i .u8))) := by
  simp only [List.map_append, kinds_map, h1, h2, h3]
  rfl

def slotKs : List CK := [.b, .i .i64, .i .i64] ++ (List.replicate 16 (.i .u8) ++ (List.replicate 32 (.i .u8) ++ List.replicate 24 (.i .u8)))
theorem slot_ok {u : Bool} {k r : Int} {s w c : List Int} (h1 : s.length = 16) (h2 : w.length = 32) (h3 : c.length = 24) : kindsP slotKs (.cat 1 74 (.bool u) (.cat 1 73 (.int .i64 k) (.cat 1 72 (.int .i64 r) (.cat 16 56 (.ints .u8 16 s) (.cat 32 24 (.ints .u8 32 w) (.ints .u8 24 c)))))) :=
  ⟨⟨trivial, trivial, trivial, trivial, trivial, trivial⟩, slot_kinds h1 h2 h3⟩
theorem slot_eqZ {u u' : Bool} {k k' r r' : Int} {s s' w w' c c' : List Int} (h1 : s.length = s'.length) (h2 : w.length = w'.length) :
    eqZ (.cat 1 74 (.bool u) (.cat 1 73 (.int .i64 k) (.cat 1 72 (.int .i64 r) (.cat 16 56 (.ints .u8 16 s) (.cat 32 24 (.ints .u8 32 w) (.ints .u8 24 c))))))
      (.cat 1 74 (.bool u') (.cat 1 73 (.int .i64 k') (.cat 1 72 (.int .i64 r') (.cat 16 56 (.ints .u8 16 s') (.cat 32 24 (.ints .u8 32 w') (.ints .u8 24 c')))))) = decide ((⟨u, k, r, s, w, c⟩ : SlotP) = ⟨u', k', r', s', w', c'⟩) := by
  unfold eqZ
  rw [slot_lits, slot_lits]
  refine decide_eq_decide.2 ⟨slot_inj h1 h2, fun h => ?_⟩
  cases h; rfl

theorem right_t {p : SlotP} (h : p.u = true) : rightS p = true ↔ inSlot p := by simp only [rightS, h, if_true, decide_eq_true_eq]
theorem right_f {p : SlotP} (h : p.u = true) (hn : ¬ inSlot p) : rightS p = false := by
  cases e : rightS p with
  | false => rfl
  | true => exact absurd ((right_t h).1 e) hn

set_option maxRecDepth 20000 in
theorem vc89 (args : List Arg) (out : Out) (h : (cRightS apf args).to out) (hok : okAs args) :
    args.length = ic89.nargs ∧ ic89.nargs ≤ ic89.ntmps ∧ ∃ A, run apf [] A ic89.body (fnQ apf args out ic89.res) (st0 G1 true args) := by
  unfold cRightS at h
  split at h
  · rename_i u k r m1 s m2 w m3 c
    obtain ⟨hm, h⟩ := rif_to h
    cases h
    simp only [Bool.and_eq_true, beq_iff_eq] at hm
    obtain ⟨⟨rfl, rfl⟩, rfl⟩ := hm
    obtain ⟨⟨_, _, _, hs, hw, hc⟩, _⟩ := hok
    refine ⟨rfl, by decide, [], ?_⟩
    show run apf _ _ _ _ (st0 [(1, .ints .u32 64 kk)] _ _)
    generalize hK : kk = K
    generalize hap : apf = ap
    cbv
    repeat' first
      | exact True.intro
      | (intro _; cbv)
      | (refine And.intro ?_ ?_)
    all_goals subst hap
    · exact slot_ok hs.1 hw.1 hc.1
    · exact slot_ok (u := false) (k := 0) (r := 0) (by decide) (by decide) (by decide)
    · have hu : u = false := notB_t.1 (by assumption)
      have e := slot_eqZ (u := u) (u' := false) (k := k) (k' := 0) (r := r) (r' := 0) (s := s) (s' := zerosI 16) (w := w) (w' := zerosI 32) (c := c) (c' := zerosI 24) (by rw [hs.1]; rfl) (by rw [hw.1]; rfl)
      refine Eq.trans ?_ e.symm
      subst hu
      rfl
    all_goals have hu : u = true := notB_f.1 (by assumption)
    all_goals subst hu
    all_goals simp only [apf, cmF, ge_t, ge_f, le_t, le_f, eqB'] at *
    · rw [Bool.eq_iff_iff, right_t rfl, le_t]
      show (1 ≤ k ∧ k ≤ 255 ∧ 1 ≤ r ∧ r ≤ 64) ↔ _
      omega
    all_goals refine right_f rfl ?_
    all_goals show ¬ (1 ≤ k ∧ k ≤ 255 ∧ 1 ≤ r ∧ r ≤ 64)
    all_goals omega
  · exact h.elim
theorem s89 : Sound Tryd.prog G1 89 (pu 89) (fun args => cRightS apf (args.map litA)) := (fn_sound rfl Tryd.call89 ok89 co89 env_nil vc89).lits
end Go.Cx.Rb
