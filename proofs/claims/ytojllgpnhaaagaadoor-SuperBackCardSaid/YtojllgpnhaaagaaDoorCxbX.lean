/-
  A superblock's bytes in plain Lean: what the program's reader finds in them.
-/
import Derived.Test.YtojllgpnhaaagaaDoorCxbW
namespace Go.Cx.Rb
open Go Go.Cx

def sB (b : List Int) (j : Nat) : List Int := (b.drop (128 + 80 * j)).take 80
def capI (m v : Int) : Int := wcv .i64 (minI v m)
def supF (m : Int) (b : List Int) : SupP :=
  ⟨nthI b 9, nthI b 10, nthI b 11, numL ((b.drop 16).take 8), capI m (numL ((b.drop 24).take 8)), capI m (numL ((b.drop 32).take 8)), (b.drop 56).take 32, (b.drop 88).take 16, fun j => if j < 4 then decP (sB b j) else slot0⟩
def zonesB (b : List Int) : Bool := allZ ((b.drop 12).take 4) && allZ ((b.drop 40).take 16) && allZ ((b.drop 104).take 24) && allZ ((b.drop 448).take 32)
def slotsB (b : List Int) : Bool := (List.range 4).all fun j => decide (decE (sB b j) = 0)
def okF (b : List Int) : Bool := decide (b.length = 512) && decide (b.take 8 = supL) && decide (nthI b 8 = 1) && zonesB b && slotsB b && rgtB (supF 1099511627776 b)
def sup0 : SupP := ⟨0, 0, 0, 0, 0, 0, zerosI 32, zerosI 16, fun _ => slot0⟩
def dec9P (b : List Int) : SupP := if okF b then supF 1099511627776 b else sup0
def dec9E (b : List Int) : Int := if okF b then 0 else 12

/-! ### The reader's way -/
abbrev RdS := List Int × Bool
def sp (x : RdS) : RdS := (x.1, true)
def e0 (b : List Int) : RdS := (subL b 0 480, false)
def e1 (b : List Int) : RdS := rd (e0 b) 8
def e2 (b : List Int) : RdS := rd (e1 b) 1
def e3 (b : List Int) : RdS := rd (e2 b) 1
def e4 (b : List Int) : RdS := rd (e3 b) 1
def e5 (b : List Int) : RdS := rd (e4 b) 1
def e6 (b : List Int) : RdS := rz (e5 b) 4
def e7 (b : List Int) : RdS := rd (e6 b) 8
def e8 (b : List Int) : RdS := rd (e7 b) 8
def e9 (b : List Int) : RdS := rd (e8 b) 8
def eA (b : List Int) : RdS := rz (e9 b) 16
def eB (b : List Int) : RdS := rd (eA b) 32
def eC (b : List Int) : RdS := rd (eB b) 16
def eD (b : List Int) : RdS := rz (eC b) 24
def eX (b : List Int) : Nat → RdS
  | 0 => eD b
  | i + 1 => if decE (tk (eX b i) 80) = 0 then rd (eX b i) 80 else sp (rd (eX b i) 80)
def eE (b : List Int) : RdS := rz (eX b 4) 32
def slI (b : List Int) (i j : Nat) : SlotP := if j < i then decP (tk (eX b j) 80) else slot0
def supX (b : List Int) : SupP :=
  ⟨wcv .i64 (numL (tk (e2 b) 1)), wcv .i64 (numL (tk (e3 b) 1)), wcv .i64 (numL (tk (e4 b) 1)), numL (tk (e6 b) 8), smlI (numL (tk (e7 b) 8)), smlI (numL (tk (e8 b) 8)), cpyL (zerosI 32) (tk (eA b) 32) 32, cpyL (zerosI 16) (tk (eB b) 16) 16, slI b 4⟩
def dec9No (b : List Int) : Prop := b.length ≠ 512 ∨ endE (eE b).1 (eE b).2 ≠ 0 ∨ tk (e0 b) 8 ≠ supL ∨ numL (tk (e1 b) 1) ≠ 1 ∨ rgtE (supX b) ≠ 0

/-- a reader stands at a, or is spoilt -/
structure Sta (b : List Int) (x : RdS) (a : Nat) (s : Bool) : Prop where
  go : s = false → x.1 = (b.take 480).drop a
  fl : x.2 = s
theorem Sta.rd {b : List Int} {x : RdS} {a : Nat} {s : Bool} (h : Sta b x a s) (hb : b.length = 512) {k : Nat} (hk : a + k ≤ 480) : Sta b (rd x k) (a + k) s := by
  obtain ⟨l, f⟩ := x
  have hf : f = s := h.fl
  subst hf
  cases f with
  | true => exact ⟨(fun e => by cases e), by rw [rd_sp]⟩
  | false =>
    have hl : l = (b.take 480).drop a := h.go rfl
    have e : Rb.rd (l, false) (k : Int) = (l.drop k, false) := by
      rw [rd_go (by omega) (by rw [hl]; simp; omega)]
      simp
    exact ⟨fun _ => by rw [e, hl, List.drop_drop], by rw [e]⟩
theorem Sta.rz {b : List Int} {x : RdS} {a : Nat} {s : Bool} (h : Sta b x a s) (hb : b.length = 512) {k : Nat} (hk : a + k ≤ 480) : Sta b (rz x k) (a + k) (s || !allZ ((b.drop a).take k)) := by
  obtain ⟨l, f⟩ := x
  have hf : f = s := h.fl
  subst hf
  cases f with
  | true => exact ⟨(fun e => by cases e), by simp [Rb.rz, zrS, okR]⟩
  | false =>
    have hl : l = (b.take 480).drop a := h.go rfl
    have et : ((b.take 480).drop a).take k = (b.drop a).take k := by
      rw [List.drop_take, List.take_take, Nat.min_eq_left (by omega)]
    have e : Rb.rz (l, false) (k : Int) = (l.drop k, !allZ ((b.drop a).take k)) := by
      rw [rz_go (by omega) (by rw [hl]; simp; omega), hl]
      simp [et]
    exact ⟨fun _ => by rw [e, hl, List.drop_drop], by rw [e, Bool.false_or]⟩
theorem Sta.tk {b : List Int} {x : RdS} {a : Nat} (h : Sta b x a false) (hb : b.length = 512) {k : Nat} (hk : a + k ≤ 480) : tk x k = (b.drop a).take k := by
  obtain ⟨l, f⟩ := x
  have hf : f = false := h.fl
  subst hf
  have hl : l = (b.take 480).drop a := h.go rfl
  rw [tk_go (by omega) (by rw [hl]; simp; omega), hl, List.drop_take, List.take_take, Int.toNat_natCast, Nat.min_eq_left (by omega)]
theorem Sta.sp {b : List Int} {x : RdS} {a : Nat} {s : Bool} (_h : Sta b x a s) : Sta b (sp x) a true := ⟨(fun e => by cases e), rfl⟩
theorem sta0 {b : List Int} : Sta b (e0 b) 0 false := ⟨fun _ => by rw [e0, subL_zero]; rfl, rfl⟩
theorem Sta.bad {b : List Int} {x : RdS} {a : Nat} {s : Bool} (h : Sta b x a s) (e : s = true) : Sta b x a true := e ▸ h
theorem Sta.good {b : List Int} {x : RdS} {a : Nat} {s : Bool} (h : Sta b x a s) (e : s = false) : Sta b x a false := e ▸ h
section
variable {b : List Int} (hb : b.length = 512)
include hb
theorem st1 : Sta b (e1 b) 8 false := sta0.rd hb (k := 8) (by omega)
theorem st2 : Sta b (e2 b) 9 false := (st1 hb).rd hb (k := 1) (by omega)
theorem st3 : Sta b (e3 b) 10 false := (st2 hb).rd hb (k := 1) (by omega)
theorem st4 : Sta b (e4 b) 11 false := (st3 hb).rd hb (k := 1) (by omega)
theorem st5 : Sta b (e5 b) 12 false := (st4 hb).rd hb (k := 1) (by omega)
theorem st6 : Sta b (e6 b) 16 (!allZ ((b.drop 12).take 4)) := by
  have h := (st5 hb).rz hb (k := 4) (by omega)
  rw [Bool.false_or] at h
  exact h
theorem st9 : Sta b (e9 b) 40 (!allZ ((b.drop 12).take 4)) := (((st6 hb).rd hb (k := 8) (by omega)).rd hb (k := 8) (by omega)).rd hb (k := 8) (by omega)
theorem stA : Sta b (eA b) 56 (!allZ ((b.drop 12).take 4) || !allZ ((b.drop 40).take 16)) := (st9 hb).rz hb (k := 16) (by omega)
theorem stC : Sta b (eC b) 104 (!allZ ((b.drop 12).take 4) || !allZ ((b.drop 40).take 16)) := ((stA hb).rd hb (k := 32) (by omega)).rd hb (k := 16) (by omega)
theorem stD : Sta b (eD b) 128 (!allZ ((b.drop 12).take 4) || !allZ ((b.drop 40).take 16) || !allZ ((b.drop 104).take 24)) := (stC hb).rz hb (k := 24) (by omega)
/-- the flag behind i slots -/
def flX (b : List Int) (i : Nat) : Bool := !((allZ ((b.drop 12).take 4) && allZ ((b.drop 40).take 16) && allZ ((b.drop 104).take 24)) && (List.range i).all fun j => decide (decE (sB b j) = 0))
theorem stX : ∀ i : Nat, i ≤ 4 → Sta b (eX b i) (128 + 80 * i) (flX b i)
  | 0, _ => by
    have h := stD hb
    have e : flX b 0 = (!allZ ((b.drop 12).take 4) || !allZ ((b.drop 40).take 16) || !allZ ((b.drop 104).take 24)) := by simp [flX]
    rw [e]
    exact h
  | i + 1, hi => by
    have h := stX i (by omega)
    have h2 : Sta b (rd (eX b i) 80) (128 + 80 * i + 80) (flX b i) := h.rd hb (k := 80) (by omega)
    have e : 128 + 80 * (i + 1) = 128 + 80 * i + 80 := by omega
    have e3 : flX b (i + 1) = (flX b i || !decide (decE (sB b i) = 0)) := by
      simp only [flX, List.range_succ, List.all_append, List.all_cons, List.all_nil, Bool.and_true, ← Bool.and_assoc, Bool.not_and]
    rw [e, e3]
    show Sta b (if decE (tk (eX b i) 80) = 0 then rd (eX b i) 80 else Rb.sp (rd (eX b i) 80)) _ _
    cases ef : flX b i with
    | true =>
      rw [ef] at h2
      split
      · exact h2
      · exact h2.sp
    | false =>
      rw [ef] at h2 h
      have et : tk (eX b i) 80 = sB b i := h.tk hb (k := 80) (by omega)
      rw [et]
      by_cases hd : decE (sB b i) = 0
      · rw [if_pos hd, decide_eq_true hd]
        exact h2
      · rw [if_neg hd, decide_eq_false hd]
        exact h2.sp
theorem stE : Sta b (eE b) 480 (!(zonesB b && slotsB b)) := by
  have h := (stX hb 4 (by omega)).rz hb (k := 32) (by omega)
  have e : (flX b 4 || !allZ ((b.drop (128 + 80 * 4)).take 32)) = !(zonesB b && slotsB b) := by
    simp only [flX, zonesB, slotsB]
    cases allZ ((b.drop 12).take 4) <;> cases allZ ((b.drop 40).take 16) <;> cases allZ ((b.drop 104).take 24) <;> cases allZ ((b.drop (128 + 80 * 4)).take 32) <;> simp
  rw [e] at h
  exact h
theorem end9 : (endE (eE b).1 (eE b).2 ≠ 0) ↔ (zonesB b && slotsB b) = false := by
  have h := stE hb
  cases ef : (zonesB b && slotsB b) with
  | false =>
    rw [ef] at h
    have := h.fl
    simp [endE, this]
  | true =>
    rw [ef] at h
    have h1 := h.fl
    have h2 := h.go rfl
    have h3 : (eE b).1.length = 0 := by rw [h2]; simp
    simp [endE, h1, h3]
theorem word9 : tk (e0 b) 8 = b.take 8 := sta0.tk hb (k := 8) (by omega)
theorem ver9 : numL (tk (e1 b) 1) = nthI b 8 := by
  have : tk (e1 b) 1 = (b.drop 8).take 1 := (st1 hb).tk hb (k := 1) (by omega)
  rw [this, num_one (by omega)]
theorem supX_eq (hr : ∀ y ∈ b, inR .u8 y) (hz : (zonesB b && slotsB b) = true) : supX b = supF 1099511627776 b := by
  have hz' := hz
  simp only [zonesB, slotsB, Bool.and_eq_true] at hz'
  obtain ⟨⟨⟨⟨z1, z2⟩, z3⟩, z4⟩, zs⟩ := hz'
  have f2 : wcv .i64 (numL (tk (e2 b) 1)) = nthI b 9 := by
    have : tk (e2 b) 1 = (b.drop 9).take 1 := (st2 hb).tk hb (k := 1) (by omega)
    rw [this, wcv_num (rng_sub hr) (by simp; omega), num_one (by omega)]
  have f3 : wcv .i64 (numL (tk (e3 b) 1)) = nthI b 10 := by
    have : tk (e3 b) 1 = (b.drop 10).take 1 := (st3 hb).tk hb (k := 1) (by omega)
    rw [this, wcv_num (rng_sub hr) (by simp; omega), num_one (by omega)]
  have f4 : wcv .i64 (numL (tk (e4 b) 1)) = nthI b 11 := by
    have : tk (e4 b) 1 = (b.drop 11).take 1 := (st4 hb).tk hb (k := 1) (by omega)
    rw [this, wcv_num (rng_sub hr) (by simp; omega), num_one (by omega)]
  have g6 : Sta b (e6 b) 16 false := (st6 hb).good (by simp [z1])
  have g7 : Sta b (e7 b) 24 false := g6.rd hb (k := 8) (by omega)
  have g8 : Sta b (e8 b) 32 false := g7.rd hb (k := 8) (by omega)
  have gA : Sta b (eA b) 56 false := (stA hb).good (by simp [z1, z2])
  have gB : Sta b (eB b) 88 false := gA.rd hb (k := 32) (by omega)
  have f6 : tk (e6 b) 8 = (b.drop 16).take 8 := g6.tk hb (k := 8) (by omega)
  have f7 : tk (e7 b) 8 = (b.drop 24).take 8 := g7.tk hb (k := 8) (by omega)
  have f8 : tk (e8 b) 8 = (b.drop 32).take 8 := g8.tk hb (k := 8) (by omega)
  have fA : cpyL (zerosI 32) (tk (eA b) 32) 32 = (b.drop 56).take 32 := by
    have : tk (eA b) 32 = (b.drop 56).take 32 := gA.tk hb (k := 32) (by omega)
    rw [this, cpyL_all (by decide) (by simp [hb])]
  have fB : cpyL (zerosI 16) (tk (eB b) 16) 16 = (b.drop 88).take 16 := by
    have : tk (eB b) 16 = (b.drop 88).take 16 := gB.tk hb (k := 16) (by omega)
    rw [this, cpyL_all (by decide) (by simp [hb])]
  have fX : slI b 4 = fun j => if j < 4 then decP (sB b j) else slot0 := by
    funext j
    by_cases hj : j < 4
    · have hf : flX b j = false := by
        have : ((List.range j).all fun j => decide (decE (sB b j) = 0)) = true := by
          rw [List.all_eq_true] at zs ⊢
          intro y hy
          exact zs y (List.mem_range.2 (by have := List.mem_range.1 hy; omega))
        simp [flX, z1, z2, z3, this]
      have hs := (stX hb j (by omega)).good hf
      have : tk (eX b j) 80 = sB b j := hs.tk hb (k := 80) (by omega)
      simp only [slI, if_pos hj, this]
    · simp only [slI, if_neg hj]
  unfold supX supF
  rw [f2, f3, f4, f6, f7, f8, fA, fB, fX]
  rfl
end
theorem dec9_bad {b : List Int} (hr : ∀ y ∈ b, inR .u8 y) (h : dec9No b) : okF b = false := by
  cases e : okF b with
  | false => rfl
  | true =>
    exfalso
    simp only [okF, Bool.and_eq_true, decide_eq_true_eq] at e
    obtain ⟨⟨⟨⟨⟨hb, hw⟩, hv⟩, hz⟩, hs⟩, hg⟩ := e
    have hzs : (zonesB b && slotsB b) = true := by rw [hz, hs]; rfl
    rcases h with h | h | h | h | h
    · exact h hb
    · rw [end9 hb, hzs] at h; cases h
    · exact h ((word9 hb).trans hw)
    · exact h ((ver9 hb).trans hv)
    · rw [supX_eq hb hr hzs, rgtE, hg] at h
      exact h rfl
theorem dec9_good {b : List Int} (hr : ∀ y ∈ b, inR .u8 y) (h : ¬ dec9No b) : okF b = true ∧ supX b = supF 1099511627776 b := by
  simp only [dec9No, not_or, Decidable.not_not] at h
  obtain ⟨hb, h1, hw, hv, hg⟩ := h
  have hzs : (zonesB b && slotsB b) = true := by
    cases e : (zonesB b && slotsB b) with
    | true => rfl
    | false => exact absurd h1 ((end9 hb).2 e)
  have hx := supX_eq hb hr hzs
  refine ⟨?_, hx⟩
  rw [hx] at hg
  have hg2 : rgtB (supF 1099511627776 b) = true := by
    cases e : rgtB (supF 1099511627776 b) with
    | true => rfl
    | false => rw [rgtE, e] at hg; cases hg
  rw [word9 hb] at hw
  rw [ver9 hb] at hv
  simp only [Bool.and_eq_true] at hzs
  simp only [okF, hb, hw, hv, hzs.1, hzs.2, hg2, decide_true, Bool.and_self]
end Go.Cx.Rb

/- A superblock's bytes in plain Lean: there and back, and the document's reader. -/
namespace Go.Cx.Rb
open Go Go.Cx

/-! ### Numbers that are capped -/
def supN (b : List Int) : SupP :=
  ⟨nthI b 9, nthI b 10, nthI b 11, numL ((b.drop 16).take 8), numL ((b.drop 24).take 8), numL ((b.drop 32).take 8), (b.drop 56).take 32, (b.drop 88).take 16, fun j => if j < 4 then decP (sB b j) else slot0⟩
theorem numL8_rng {b : List Int} (hr : ∀ y ∈ b, inR .u8 y) (i : Nat) : 0 ≤ numL ((b.drop i).take 8) ∧ numL ((b.drop i).take 8) < 18446744073709551616 := by
  obtain ⟨h1, h2⟩ := numL_rng ((b.drop i).take 8) (rng_sub hr)
  have h3 : ((b.drop i).take 8).length ≤ 8 := by simp; omega
  have h4 := Nat.pow_le_pow_right (n := 256) (by omega) h3
  have h5 : ((256 ^ ((b.drop i).take 8).length : Nat) : Int) ≤ ((256 ^ 8 : Nat) : Int) := Int.ofNat_le.2 h4
  rw [Int.natCast_pow] at h5
  have h6 : (256 : Int) ^ ((b.drop i).take 8).length ≤ 18446744073709551616 := h5
  omega
theorem capI_eq {m v : Int} (hm : 1000 ≤ m ∧ m ≤ 1099511627776) (hv : 0 ≤ v) : capI m v = if m < v then m else v := by
  unfold capI minI
  split <;> (rw [wcv_i64 (by omega)])
theorem homI_256 {b : Int} (h0 : 0 ≤ b) (h : b ≤ 256) : homI b ≤ 256 := by
  show maxI 0 (wsub .i64 b 36) ≤ 256
  rw [wsub_i64 (by omega)]
  unfold maxI
  split <;> omega
theorem cap_get {m : Int} (hm : 1000 ≤ m ∧ m ≤ 1099511627776) {b : List Int} (hr : ∀ y ∈ b, inR .u8 y) (h : rgtB (supF m b) = true) : supF m b = supN b := by
  simp only [rgtB, Bool.and_eq_true, decide_eq_true_eq] at h
  obtain ⟨_, _, _, _, _, _, h72, h256, _, hc, _, _⟩ := h.1
  have v1 := (numL8_rng hr 24).1
  have v2 := (numL8_rng hr 32).1
  have h72 : 72 ≤ capI m (numL ((b.drop 24).take 8)) := h72
  have h256 : capI m (numL ((b.drop 24).take 8)) ≤ 256 := h256
  have hc : capI m (numL ((b.drop 32).take 8)) ≤ homI (capI m (numL ((b.drop 24).take 8))) := hc
  have hh := homI_256 (by omega) h256
  have e1 : capI m (numL ((b.drop 24).take 8)) = numL ((b.drop 24).take 8) := by
    rw [capI_eq hm v1] at h256 ⊢
    split at h256
    · omega
    · rename_i h; rw [if_neg h]
  have e2 : capI m (numL ((b.drop 32).take 8)) = numL ((b.drop 32).take 8) := by
    have hc2 : capI m (numL ((b.drop 32).take 8)) ≤ 256 := by omega
    rw [capI_eq hm v2] at hc2 ⊢
    split at hc2
    · omega
    · rename_i h; rw [if_neg h]
  unfold supF supN
  rw [e1, e2]
theorem cap_put {m : Int} (hm : 1000 ≤ m ∧ m ≤ 1099511627776) {b : List Int} (hr : ∀ y ∈ b, inR .u8 y) (h : rgtB (supN b) = true) : supF m b = supN b := by
  simp only [rgtB, Bool.and_eq_true, decide_eq_true_eq] at h
  obtain ⟨_, _, _, _, _, _, h72, h256, _, hc, _, _⟩ := h.1
  have v1 := (numL8_rng hr 24).1
  have v2 := (numL8_rng hr 32).1
  have h72 : 72 ≤ numL ((b.drop 24).take 8) := h72
  have h256 : numL ((b.drop 24).take 8) ≤ 256 := h256
  have hc : numL ((b.drop 32).take 8) ≤ homI (numL ((b.drop 24).take 8)) := hc
  have hh := homI_256 (by omega) h256
  have e1 : capI m (numL ((b.drop 24).take 8)) = numL ((b.drop 24).take 8) := by rw [capI_eq hm v1, if_neg (by omega)]
  have e2 : capI m (numL ((b.drop 32).take 8)) = numL ((b.drop 32).take 8) := by rw [capI_eq hm v2, if_neg (by omega)]
  unfold supF supN
  rw [e1, e2]
theorem cap_rgt {m : Int} (hm : 1000 ≤ m ∧ m ≤ 1099511627776) {b : List Int} (hr : ∀ y ∈ b, inR .u8 y) : rgtB (supF m b) = rgtB (supN b) := by
  cases h : rgtB (supF m b) with
  | true => rw [← cap_get hm hr h, h]
  | false =>
    cases h2 : rgtB (supN b) with
    | false => rfl
    | true => rw [cap_put hm hr h2, h2] at h; cases h

/-! ### The first 480 bytes of what is read -/
theorem enc_of_dec {s : List Int} (hl : s.length = 80) (hr : ∀ y ∈ s, inR .u8 y) (h : decE s = 0) : encB (decP s) = s := by
  obtain ⟨h1, h2⟩ := dec_spec hr
  rw [h1] at h
  cases ho : okB s with
  | true => rw [h2, ho, if_pos rfl, enc_dec hr ho]
  | false =>
    rw [ho, Bool.or_false, hl] at h
    cases hz : allZ s with
    | false => rw [hz] at h; cases h
    | true => rw [h2, ho, if_neg (by decide), allZ_zeros hl hz]; rfl
theorem cut_one {l : List Int} {i : Nat} (h : i < l.length) : l.drop i = nthI l i :: l.drop (i + 1) := by
  rw [List.drop_eq_getElem_cons h]
  simp [nthI, List.getD_eq_getElem?_getD, h]
theorem app_iff {a b c d : List Int} (h : a.length = c.length) : a ++ b = c ++ d ↔ a = c ∧ b = d :=
  ⟨fun e => List.append_inj e h, fun ⟨e1, e2⟩ => by rw [e1, e2]⟩
theorem zer_iff {l : List Int} {n : Nat} (h : l.length = n) : zerosI n = l ↔ allZ l = true := by
  rw [allZ_iff]
  refine ⟨fun e => ?_, fun e => (List.eq_replicate_iff.2 ⟨h, e⟩).symm⟩
  rw [← e]
  exact fun x hx => List.eq_of_mem_replicate hx
theorem wcv_u64_num {b : List Int} (hr : ∀ y ∈ b, inR .u8 y) (i : Nat) : wcv .u64 (numL ((b.drop i).take 8)) = numL ((b.drop i).take 8) := by
  have := numL8_rng hr i
  exact wcv_u64 (by omega)
/-- in pieces -/
theorem hdP_pieces (p : SupP) : hdP p = supL ++ ([1] ++ ([wcv .u8 p.ph, wcv .u8 p.k, wcv .u8 p.o] ++ (zerosI 4 ++ (beL 8 p.q ++ (beL 8 (wcv .u64 p.b) ++ (beL 8 (wcv .u64 p.c) ++ (zerosI 16 ++ (p.root ++ (p.salt ++ (zerosI 24 ++ (encB (p.x 0) ++ (encB (p.x 1) ++ (encB (p.x 2) ++ (encB (p.x 3) ++ zerosI 32)))))))))))))) := by
  have e : beL 8 0 ++ beL 8 0 = zerosI 16 := by decide
  have e2 : (List.range 4).flatMap (fun j => encB (p.x j)) = encB (p.x 0) ++ (encB (p.x 1) ++ (encB (p.x 2) ++ encB (p.x 3))) := by
    simp [List.range_succ]
  have e3 : ((numsP p).take 5).flatMap (beL 8) = beL 8 p.q ++ (beL 8 (wcv .u64 p.b) ++ (beL 8 (wcv .u64 p.c) ++ zerosI 16)) := by
    rw [← e]; simp [numsP]
  unfold hdP hdB hdA
  rw [e2, e3]
  simp [List.append_assoc, zerosI, List.replicate_succ]
theorem b_pieces {b : List Int} (hb : b.length = 512) : b.take 480 = b.take 8 ++ ([nthI b 8] ++ ([nthI b 9, nthI b 10, nthI b 11] ++ ((b.drop 12).take 4 ++ ((b.drop 16).take 8 ++ ((b.drop 24).take 8 ++ ((b.drop 32).take 8 ++ ((b.drop 40).take 16 ++ ((b.drop 56).take 32 ++ ((b.drop 88).take 16 ++ ((b.drop 104).take 24 ++ (sB b 0 ++ (sB b 1 ++ (sB b 2 ++ (sB b 3 ++ (b.drop 448).take 32)))))))))))))) := by
  have c0 : b = b.take 8 ++ b.drop 8 := (List.take_append_drop 8 b).symm
  have c8 : b.drop 8 = [nthI b 8] ++ b.drop 9 := cut_one (by omega)
  have c9 : b.drop 9 = [nthI b 9, nthI b 10, nthI b 11] ++ b.drop 12 := by
    rw [cut_one (i := 9) (by omega), cut_one (i := 10) (by omega), cut_one (i := 11) (by omega)]
    rfl
  have c12 := cut_at (l := b) 12 4
  have c16 := cut_at (l := b) 16 8
  have c24 := cut_at (l := b) 24 8
  have c32 := cut_at (l := b) 32 8
  have c40 := cut_at (l := b) 40 16
  have c56 := cut_at (l := b) 56 32
  have c88 := cut_at (l := b) 88 16
  have c104 := cut_at (l := b) 104 24
  have d0 : b.drop 128 = sB b 0 ++ b.drop 208 := cut_at (l := b) 128 80
  have d1 : b.drop 208 = sB b 1 ++ b.drop 288 := cut_at (l := b) 208 80
  have d2 : b.drop 288 = sB b 2 ++ b.drop 368 := cut_at (l := b) 288 80
  have d3 : b.drop 368 = sB b 3 ++ b.drop 448 := cut_at (l := b) 368 80
  have c448 := cut_at (l := b) 448 32
  have e : b = (b.take 8 ++ ([nthI b 8] ++ ([nthI b 9, nthI b 10, nthI b 11] ++ ((b.drop 12).take 4 ++ ((b.drop 16).take 8 ++ ((b.drop 24).take 8 ++ ((b.drop 32).take 8 ++ ((b.drop 40).take 16 ++ ((b.drop 56).take 32 ++ ((b.drop 88).take 16 ++ ((b.drop 104).take 24 ++ (sB b 0 ++ (sB b 1 ++ (sB b 2 ++ (sB b 3 ++ (b.drop 448).take 32))))))))))))))) ++ b.drop 480 := by
    simp only [List.append_assoc]
    rw [← c448, ← d3, ← d2, ← d1, ← d0, ← c104, ← c88, ← c56, ← c40, ← c32, ← c24, ← c16, ← c12, ← c9, ← c8, ← c0]
  have hL : (b.take 8 ++ ([nthI b 8] ++ ([nthI b 9, nthI b 10, nthI b 11] ++ ((b.drop 12).take 4 ++ ((b.drop 16).take 8 ++ ((b.drop 24).take 8 ++ ((b.drop 32).take 8 ++ ((b.drop 40).take 16 ++ ((b.drop 56).take 32 ++ ((b.drop 88).take 16 ++ ((b.drop 104).take 24 ++ (sB b 0 ++ (sB b 1 ++ (sB b 2 ++ (sB b 3 ++ (b.drop 448).take 32))))))))))))))).length = 480 := by
    simp [sB, hb]
  have := congrArg (List.take 480) e
  rw [List.take_left' hL] at this
  exact this
theorem sB_len {b : List Int} (hb : b.length = 512) {j : Nat} (hj : j < 4) : (sB b j).length = 80 := by
  simp only [sB, List.length_take, List.length_drop]
  omega
theorem slots_at {b : List Int} (h : slotsB b = true) {j : Nat} (hj : j < 4) : decE (sB b j) = 0 := by
  simp only [slotsB, List.all_eq_true] at h
  exact of_decide_eq_true (h j (List.mem_range.2 hj))
/-- the first bytes of what is read are what was read just if the fixed bytes are what they should be -/
theorem hd_iff {b : List Int} (hb : b.length = 512) (hr : ∀ y ∈ b, inR .u8 y) (hs : slotsB b = true) :
    hdP (supN b) = b.take 480 ↔ (b.take 8 = supL ∧ nthI b 8 = 1 ∧ zonesB b = true) := by
  have hx : ∀ j, j < 4 → encB ((supN b).x j) = sB b j := fun j hj => by
    show encB (if j < 4 then decP (sB b j) else slot0) = _
    rw [if_pos hj]
    exact enc_of_dec (sB_len hb hj) (rng_sub hr) (slots_at hs hj)
  have n8 : ∀ i, i + 8 ≤ 512 → beL 8 (numL ((b.drop i).take 8)) = (b.drop i).take 8 := fun i hi => be_num8 (by simp; omega) (rng_sub hr)
  have ew : ∀ i, wcv .u8 (nthI b i) = nthI b i := fun i => wcv_u8 (byte_rng hr i)
  rw [hdP_pieces, b_pieces hb, hx 0 (by omega), hx 1 (by omega), hx 2 (by omega), hx 3 (by omega)]
  simp only [supN, ew, wcv_u64_num hr, n8 16 (by omega), n8 24 (by omega), n8 32 (by omega)]
  rw [app_iff (by simp [supL, hb]), app_iff (by simp), app_iff (by simp), app_iff (by simp [zerosI, hb]), app_iff rfl, app_iff rfl, app_iff rfl, app_iff (by simp [zerosI, hb]), app_iff rfl, app_iff rfl, app_iff (by simp [zerosI, hb]), app_iff rfl, app_iff rfl, app_iff rfl, app_iff rfl]
  rw [zer_iff (by simp [hb]), zer_iff (by simp [hb]), zer_iff (by simp [hb]), zer_iff (by simp [hb])]
  simp only [zonesB, Bool.and_eq_true, List.cons.injEq, and_true, true_and]
  refine ⟨fun ⟨h1, h2, h3, h4, h5, h6⟩ => ⟨h1.symm, h2.symm, ⟨⟨h3, h4⟩, h5⟩, h6⟩, fun ⟨h1, h2, ⟨⟨h3, h4⟩, h5⟩, h6⟩ => ⟨h1.symm, h2.symm, h3, h4, h5, h6⟩⟩
/-- the document's reader's word -/
def okR9 (b : List Int) : Bool := slotsB b && rgtB (supF 1000 b) && decide (hdP (supF 1000 b) = b.take 480)
theorem okR9_eq {b : List Int} (hb : b.length = 512) (hr : ∀ y ∈ b, inR .u8 y) : okF b = okR9 b := by
  have h1 := cap_rgt (m := 1099511627776) (by omega) hr
  have h2 := cap_rgt (m := 1000) (by omega) hr
  cases hs : slotsB b with
  | false => simp [okF, okR9, hs]
  | true =>
    cases hg : rgtB (supN b) with
    | false => simp [okF, okR9, h1, h2, hg]
    | true =>
      have hi := hd_iff hb hr hs
      have e := cap_put (m := 1000) (by omega) hr hg
      rw [okF, okR9, h1, h2, hg, hs, e, Bool.true_and, Bool.true_and, Bool.and_true, Bool.and_true, Bool.eq_iff_iff, decide_eq_true_iff, hi]
      simp only [hb, decide_true, Bool.true_and, Bool.and_eq_true, decide_eq_true_eq, and_assoc]
theorem cap_two {b : List Int} (hr : ∀ y ∈ b, inR .u8 y) (hg : rgtB (supF 1000 b) = true) : supF 1099511627776 b = supF 1000 b := by
  have e1 := cap_get (m := 1000) (by omega) hr hg
  have hg2 : rgtB (supN b) = true := by rw [← e1, hg]
  rw [e1]
  exact cap_put (m := 1099511627776) (by omega) hr hg2
theorem dec9_ref {b : List Int} (hb : b.length = 512) (hr : ∀ y ∈ b, inR .u8 y) : dec9P b = (if okR9 b then supF 1000 b else sup0) ∧ dec9E b = (if okR9 b then 0 else 12) := by
  have h0 := okR9_eq hb hr
  by_cases h : okR9 b = true
  · have hF : okF b = true := h0.trans h
    have hg : rgtB (supF 1000 b) = true := by
      simp only [okR9, Bool.and_eq_true] at h
      exact h.1.2
    rw [dec9P, dec9E, if_pos hF, if_pos hF, if_pos h, if_pos h]
    exact ⟨cap_two hr hg, Eq.refl _⟩
  · have hF : ¬ okF b = true := fun e => h (h0.symm.trans e)
    rw [dec9P, dec9E, if_neg hF, if_neg hF, if_neg h, if_neg h]
    exact ⟨Eq.refl _, Eq.refl _⟩
theorem dec9_len {b : List Int} (hb : b.length ≠ 512) : dec9P b = sup0 ∧ dec9E b = 12 := by
  have : okF b = false := by simp [okF, hb]
  rw [dec9P, dec9E, this]
  exact ⟨rfl, rfl⟩
end Go.Cx.Rb

/- A right superblock's bytes lead back to it: in plain Lean. -/
namespace Go.Cx.Rb
open Go Go.Cx

def okLen (q : SlotP) : Prop := (q.s.length = 16 ∧ ∀ y ∈ q.s, inR .u8 y) ∧ (q.w.length = 32 ∧ ∀ y ∈ q.w, inR .u8 y) ∧ (q.c.length = 24 ∧ ∀ y ∈ q.c, inR .u8 y)
theorem enc_rng {q : SlotP} (h : okLen q) : ∀ y ∈ encB q, inR .u8 y := by
  intro y hy
  unfold encB at hy
  split at hy
  · split at hy
    · simp only [headS, List.mem_append, List.mem_cons, List.not_mem_nil, or_false] at hy
      rcases hy with ((((hy | hy | hy | hy) | hy) | hy) | hy) | hy
      · rcases hy with rfl
        exact ⟨by decide, by decide⟩
      · rcases hy with rfl
        exact inR_wrap .u8 _
      · rcases hy with rfl
        exact ⟨by decide, by decide⟩
      · rcases hy with rfl
        exact ⟨by decide, by decide⟩
      all_goals first
        | exact beL_rng _ _ y hy
        | exact h.1.2 y hy
        | exact h.2.1.2 y hy
        | exact h.2.2.2 y hy
    · rw [List.eq_of_mem_replicate hy]
      exact ⟨by decide, by decide⟩
  · cases hy
theorem dec_enc2 {q : SlotP} (hr : rightS q = true) (h : okLen q) : decE (encB q) = 0 ∧ decP (encB q) = q := by
  have hb := enc_rng h
  obtain ⟨e1, e2⟩ := dec_spec hb
  cases hu : q.u with
  | true =>
    obtain ⟨h1, h2⟩ := dec_enc hr hu h.1.1 h.2.1.1 h.2.2.1
    rw [e1, e2, h1, h2, Bool.or_true]
    exact ⟨rfl, rfl⟩
  | false =>
    have hq : q = slot0 := by
      simp only [rightS, hu, Bool.false_eq_true, if_false, decide_eq_true_eq] at hr
      exact hr
    subst hq
    have e : encB slot0 = zerosI 80 := rfl
    rw [e1, e2, e]
    exact ⟨by decide, by decide⟩
def cut4 (p : SupP) : SupP := { p with x := fun j => if j < 4 then p.x j else slot0 }
theorem rgt_slR {p : SupP} (h : rgtB p = true) : slR p.x := by
  intro j hj
  simp only [rgtB, sltB, Bool.and_eq_true, List.all_eq_true] at h
  have := h.2.1 j (List.mem_range.2 hj)
  simp only [okSl, Bool.and_eq_true, decide_eq_true_eq] at this
  cases e : rightS (p.x j) with
  | true => rfl
  | false =>
    have h2 := this.1
    rw [encE, e] at h2
    cases h2
theorem sltB_congr {x y : Nat → SlotP} (h : ∀ j, j < 4 → x j = y j) (k o : Int) : sltB x k o = sltB y k o := by
  simp only [sltB, ownU, List.range_succ, List.range_zero, List.nil_append, List.cons_append, List.all_cons, List.all_nil, List.any_cons, List.any_nil, h 0 (by omega), h 1 (by omega), h 2 (by omega), h 3 (by omega)]
theorem rgt_cut {p : SupP} : rgtB (cut4 p) = rgtB p := by
  have e : sltB (cut4 p).x p.k p.o = sltB p.x p.k p.o := sltB_congr (fun j hj => by simp [cut4, hj]) _ _
  unfold rgtB
  show (decide (rgtP (cut4 p)) && sltB (cut4 p).x p.k p.o) = _
  rw [e]
  rfl
theorem dec_of_enc {p : SupP} (hg : rgtB p = true) (h1 : p.root.length = 32 ∧ ∀ y ∈ p.root, inR .u8 y) (h2 : p.salt.length = 16 ∧ ∀ y ∈ p.salt, inR .u8 y) (hx : ∀ j, j < 4 → okLen (p.x j))
    {t : List Int} (ht : t.length = 32) (htr : ∀ y ∈ t, inR .u8 y) : okF (hdP p ++ t) = true ∧ dec9P (hdP p ++ t) = cut4 p ∧ dec9E (hdP p ++ t) = 0 := by
  have hsl := rgt_slR hg
  have h80 : ∀ j, j < 4 → (encB (p.x j)).length = 80 := fun j hj => encB_len (hsl j hj) (hx j hj).1.1 (hx j hj).2.1.1 (hx j hj).2.2.1
  have hl := hdP_len h1.1 h2.1 h80
  have hr : ∀ y ∈ hdP p ++ t, inR .u8 y := by
    intro y hy
    rcases List.mem_append.1 hy with hy | hy
    · rw [hdP_pieces] at hy
      simp only [List.mem_append] at hy
      have hz : ∀ n, y ∈ zerosI n → inR .u8 y := fun n h => by
        rw [List.eq_of_mem_replicate h]
        exact ⟨by decide, by decide⟩
      rcases hy with hy | hy | hy | hy | hy | hy | hy | hy | hy | hy | hy | hy | hy | hy | hy | hy
      · simp only [supL, List.mem_cons, List.not_mem_nil, or_false] at hy
        rcases hy with rfl | rfl | rfl | rfl | rfl | rfl | rfl | rfl <;> exact ⟨by decide, by decide⟩
      · rcases List.mem_singleton.1 hy with rfl
        exact ⟨by decide, by decide⟩
      · simp only [List.mem_cons, List.not_mem_nil, or_false] at hy
        rcases hy with rfl | rfl | rfl <;> exact inR_wrap .u8 _
      all_goals first
        | exact hz _ hy
        | exact beL_rng _ _ y hy
        | exact h1.2 y hy
        | exact h2.2 y hy
        | exact enc_rng (hx _ (by decide)) y hy
    · exact htr y hy
  have hb : (hdP p ++ t).length = 512 := by rw [List.length_append, hl, ht]
  have htk : (hdP p ++ t).take 480 = hdP p := List.take_left' hl
  generalize hB : hdP p ++ t = b at hb htk hr ⊢
  have e := b_pieces hb
  rw [htk, hdP_pieces] at e
  obtain ⟨a0, e⟩ := List.append_inj e (by simp [supL, hb])
  obtain ⟨a1, e⟩ := List.append_inj e rfl
  obtain ⟨a2, e⟩ := List.append_inj e rfl
  obtain ⟨a3, e⟩ := List.append_inj e (by simp [zerosI, hb])
  obtain ⟨a4, e⟩ := List.append_inj e (by simp [beL_len, hb])
  obtain ⟨a5, e⟩ := List.append_inj e (by simp [beL_len, hb])
  obtain ⟨a6, e⟩ := List.append_inj e (by simp [beL_len, hb])
  obtain ⟨a7, e⟩ := List.append_inj e (by simp [zerosI, hb])
  obtain ⟨a8, e⟩ := List.append_inj e (by simp [h1.1, hb])
  obtain ⟨a9, e⟩ := List.append_inj e (by simp [h2.1, hb])
  obtain ⟨b0, e⟩ := List.append_inj e (by simp [zerosI, hb])
  obtain ⟨s0, e⟩ := List.append_inj e (by rw [h80 0 (by omega), sB_len hb (by omega)])
  obtain ⟨s1, e⟩ := List.append_inj e (by rw [h80 1 (by omega), sB_len hb (by omega)])
  obtain ⟨s2, e⟩ := List.append_inj e (by rw [h80 2 (by omega), sB_len hb (by omega)])
  obtain ⟨s3, b1⟩ := List.append_inj e (by rw [h80 3 (by omega), sB_len hb (by omega)])
  have hs : ∀ j, j < 4 → sB b j = encB (p.x j) := fun j hj => by
    match j, hj with
    | 0, _ => exact s0.symm
    | 1, _ => exact s1.symm
    | 2, _ => exact s2.symm
    | 3, _ => exact s3.symm
  have hd : ∀ j, j < 4 → decE (sB b j) = 0 ∧ decP (sB b j) = p.x j := fun j hj => by
    rw [hs j hj]
    exact dec_enc2 (hsl j hj) (hx j hj)
  have hg' := hg
  simp only [rgtB, Bool.and_eq_true, decide_eq_true_eq] at hg'
  obtain ⟨g1, g2, g3, g4, g5, g6, g7, g8, g9, gA, gB, gC⟩ := hg'.1
  have hh := homI_256 (by omega) g8
  simp only [List.cons.injEq, and_true] at a1 a2
  have wo : 0 ≤ p.o ∧ p.o ≤ 255 := by
    by_cases hp : p.ph = 1
    · have := gB hp; omega
    · have := gC hp; omega
  rw [wcv_u8 (by omega), wcv_u8 (by omega), wcv_u8 (by omega)] at a2
  rw [wcv_u64 (by omega)] at a5 a6
  have hN : supN b = cut4 p := by
    unfold supN cut4
    rw [← a2.1, ← a2.2.1, ← a2.2.2, ← a4, ← a5, ← a6, ← a8, ← a9, num_be8 (by omega), num_be8 (by omega), num_be8 (by omega)]
    congr 1
    funext j
    by_cases hj : j < 4
    · rw [if_pos hj, if_pos hj, (hd j hj).2]
    · rw [if_neg hj, if_neg hj]
  have hgN : rgtB (supN b) = true := by rw [hN, rgt_cut, hg]
  have hF := cap_put (m := 1099511627776) (by omega) hr hgN
  have hz : zonesB b = true := by
    simp only [zonesB, Bool.and_eq_true]
    exact ⟨⟨⟨(zer_iff (by simp [hb])).1 a3, (zer_iff (by simp [hb])).1 a7⟩, (zer_iff (by simp [hb])).1 b0⟩, (zer_iff (by simp [hb])).1 b1⟩
  have hsB : slotsB b = true := by
    simp only [slotsB, List.all_eq_true, decide_eq_true_eq]
    exact fun j hj => (hd j (List.mem_range.1 hj)).1
  have ho : okF b = true := by
    rw [okF, hF, hgN, hz, hsB, ← a0, ← a1]
    simp [hb]
  refine ⟨ho, ?_, ?_⟩
  · rw [dec9P, ho, if_pos rfl, hF, hN]
  · rw [dec9E, ho, if_pos rfl]
end Go.Cx.Rb

/- What the document's reader finds in a superblock's bytes: in plain Lean. -/
namespace Go.Cx.Rb
open Go Go.Cx

abbrev QS := Int × Bool
def L9 (b : List Int) : List Int := subL b 0 480
def qn (l : List Int) (x : QS) (k : Int) : QS := (atQ l x.1 x.2 k, flQ l x.1 x.2 k)
def qt (l : List Int) (x : QS) (k : Int) : List Int := tkQ l x.1 x.2 k
def q1 (b : List Int) : QS := qn (L9 b) (0, false) 9
def q2 (b : List Int) : QS := qn (L9 b) (q1 b) 1
def q3 (b : List Int) : QS := qn (L9 b) (q2 b) 1
def q4 (b : List Int) : QS := qn (L9 b) (q3 b) 1
def q5 (b : List Int) : QS := qn (L9 b) (q4 b) 4
def q6 (b : List Int) : QS := qn (L9 b) (q5 b) 8
def q7 (b : List Int) : QS := qn (L9 b) (q6 b) 8
def q8 (b : List Int) : QS := qn (L9 b) (q7 b) 8
def q9 (b : List Int) : QS := qn (L9 b) (q8 b) 16
def qA (b : List Int) : QS := qn (L9 b) (q9 b) 32
def qB (b : List Int) : QS := qn (L9 b) (qA b) 16
def qC (b : List Int) : QS := qn (L9 b) (qB b) 24
def qX (b : List Int) : Nat → QS
  | 0 => qC b
  | i + 1 => qn (L9 b) (qX b i) 80
def xR (b : List Int) : List Int := qt (L9 b) (q9 b) 32
def xT (b : List Int) : List Int := qt (L9 b) (qA b) 16
def sQ (b : List Int) (i : Nat) : List Int := qt (L9 b) (qX b i) 80
def slJ (b : List Int) (i j : Nat) : SlotP := if j < i then decP (sQ b j) else slot0
def supQ (b : List Int) : SupP :=
  ⟨wcv .i64 (numL (qt (L9 b) (q1 b) 1)), wcv .i64 (numL (qt (L9 b) (q2 b) 1)), wcv .i64 (numL (qt (L9 b) (q3 b) 1)), numL (qt (L9 b) (q5 b) 8), wcv .i64 (minI (numL (qt (L9 b) (q6 b) 8)) 1000), wcv .i64 (minI (numL (qt (L9 b) (q7 b) 8)) 1000), mixC 32 (xR b) 32, mixC 16 (xT b) 32, slJ b 4⟩
theorem L9_len {b : List Int} (hb : b.length = 512) : (L9 b).length = 480 := by rw [L9, subL_zero]; simp [hb]
theorem qn_at {b : List Int} (hb : b.length = 512) {x : QS} {a k : Nat} (h : x = ((a : Int), false)) (hk : a + k ≤ 480) : qn (L9 b) x (k : Int) = (((a + k : Nat) : Int), false) := by
  subst h
  have hl := L9_len hb
  have e1 : atQ (L9 b) (a : Int) false (k : Int) = (a : Int) + (k : Int) := atQ_go (by omega) (by omega) (by omega)
  have e2 : flQ (L9 b) (a : Int) false (k : Int) = false := flQ_go (by omega) (by omega) (by omega)
  show (atQ (L9 b) (a : Int) false (k : Int), flQ (L9 b) (a : Int) false (k : Int)) = _
  rw [e1, e2, Int.natCast_add]
theorem qt_at {b : List Int} (hb : b.length = 512) {x : QS} {a k : Nat} (h : x = ((a : Int), false)) (hk : a + k ≤ 480) : qt (L9 b) x (k : Int) = (b.drop a).take k := by
  subst h
  have hl := L9_len hb
  have e : tkQ (L9 b) (a : Int) false (k : Int) = ((L9 b).drop (a : Int).toNat).take (k : Int).toNat := tkQ_go (by omega) (by omega) (by omega)
  show tkQ (L9 b) (a : Int) false (k : Int) = _
  rw [e, L9, subL_zero, Int.toNat_natCast, Int.toNat_natCast, List.drop_take, List.take_take, Nat.min_eq_left (by omega)]
section
variable {b : List Int} (hb : b.length = 512)
include hb
theorem p1 : q1 b = (((9 : Nat) : Int), false) := qn_at hb (a := 0) (k := 9) rfl (by omega)
theorem p2 : q2 b = (((10 : Nat) : Int), false) := qn_at hb (k := 1) (p1 hb) (by omega)
theorem p3 : q3 b = (((11 : Nat) : Int), false) := qn_at hb (k := 1) (p2 hb) (by omega)
theorem p4 : q4 b = (((12 : Nat) : Int), false) := qn_at hb (k := 1) (p3 hb) (by omega)
theorem p5 : q5 b = (((16 : Nat) : Int), false) := qn_at hb (k := 4) (p4 hb) (by omega)
theorem p6 : q6 b = (((24 : Nat) : Int), false) := qn_at hb (k := 8) (p5 hb) (by omega)
theorem p7 : q7 b = (((32 : Nat) : Int), false) := qn_at hb (k := 8) (p6 hb) (by omega)
theorem p8 : q8 b = (((40 : Nat) : Int), false) := qn_at hb (k := 8) (p7 hb) (by omega)
theorem p9 : q9 b = (((56 : Nat) : Int), false) := qn_at hb (k := 16) (p8 hb) (by omega)
theorem pA : qA b = (((88 : Nat) : Int), false) := qn_at hb (k := 32) (p9 hb) (by omega)
theorem pB : qB b = (((104 : Nat) : Int), false) := qn_at hb (k := 16) (pA hb) (by omega)
theorem pC : qC b = (((128 : Nat) : Int), false) := qn_at hb (k := 24) (pB hb) (by omega)
theorem pX : ∀ i : Nat, i ≤ 4 → qX b i = (((128 + 80 * i : Nat) : Int), false)
  | 0, _ => pC hb
  | i + 1, h => by
    have e := qn_at hb (k := 80) (pX i (by omega)) (by omega)
    exact e
theorem sQ_eq {i : Nat} (h : i < 4) : sQ b i = sB b i := qt_at hb (k := 80) (pX hb i (by omega)) (by omega)
theorem xR_eq : xR b = (b.drop 56).take 32 := qt_at hb (k := 32) (p9 hb) (by omega)
theorem xT_eq : xT b = (b.drop 88).take 16 := qt_at hb (k := 16) (pA hb) (by omega)
theorem xR_len : (xR b).length = 32 := by rw [xR_eq hb]; simp [hb]
theorem xT_len : (xT b).length = 16 := by rw [xT_eq hb]; simp [hb]
theorem supQ_eq (hr : ∀ y ∈ b, inR .u8 y) : supQ b = supF 1000 b := by
  have f1 : qt (L9 b) (q1 b) 1 = (b.drop 9).take 1 := qt_at hb (k := 1) (p1 hb) (by omega)
  have f2 : qt (L9 b) (q2 b) 1 = (b.drop 10).take 1 := qt_at hb (k := 1) (p2 hb) (by omega)
  have f3 : qt (L9 b) (q3 b) 1 = (b.drop 11).take 1 := qt_at hb (k := 1) (p3 hb) (by omega)
  have f5 : qt (L9 b) (q5 b) 8 = (b.drop 16).take 8 := qt_at hb (k := 8) (p5 hb) (by omega)
  have f6 : qt (L9 b) (q6 b) 8 = (b.drop 24).take 8 := qt_at hb (k := 8) (p6 hb) (by omega)
  have f7 : qt (L9 b) (q7 b) 8 = (b.drop 32).take 8 := qt_at hb (k := 8) (p7 hb) (by omega)
  have g : ∀ i, i + 1 ≤ 512 → wcv .i64 (numL ((b.drop i).take 1)) = nthI b i := fun i hi => by
    rw [wcv_num (rng_sub hr) (by simp; omega), num_one (by omega)]
  have gx : slJ b 4 = fun j => if j < 4 then decP (sB b j) else slot0 := by
    funext j
    unfold slJ
    by_cases hj : j < 4
    · rw [if_pos hj, if_pos hj, sQ_eq hb hj]
    · rw [if_neg hj, if_neg hj]
  unfold supQ supF
  rw [f1, f2, f3, f5, f6, f7, g 9 (by omega), g 10 (by omega), g 11 (by omega), mixC_all (by omega) (xR_len hb), mixC_all (by omega) (xT_len hb), xR_eq hb, xT_eq hb, gx]
  exact Eq.refl _
end
/-- refused for a slot -/
theorem ref9_slot {b : List Int} (hr : ∀ y ∈ b, inR .u8 y) (hb : b.length = 512) {i : Nat} (hi : i < 4) (h : decE (sQ b i) ≠ 0) : dec9P b = sup0 ∧ dec9E b = 12 := by
  have hs : slotsB b = false := by
    refine List.all_eq_false.2 ⟨i, List.mem_range.2 hi, ?_⟩
    rw [sQ_eq hb hi] at h
    simp [h]
  have ho : okR9 b = false := by simp [okR9, hs]
  obtain ⟨e1, e2⟩ := dec9_ref hb hr
  have hn : ¬ okR9 b = true := by rw [ho]; decide
  rw [if_neg hn] at e1 e2
  exact ⟨e1, e2⟩
def slOk (b : List Int) (i : Nat) : Prop := i ≤ 4 ∧ ∀ j, j < i → decE (sQ b j) = 0
theorem slOk_zero {b : List Int} : slOk b 0 := ⟨Nat.zero_le _, fun _j hj => absurd hj (Nat.not_lt_zero _)⟩
theorem slOk_next {b : List Int} {i : Nat} (h : slOk b i) (hi : i < 4) (ho : decE (sQ b i) = 0) : slOk b (i + 1) :=
  ⟨hi, fun j hj => by
    rcases Nat.lt_succ_iff_lt_or_eq.1 hj with h1 | rfl
    · exact h.2 j h1
    · exact ho⟩
theorem slOk_all {b : List Int} (hb : b.length = 512) (h : slOk b 4) : slotsB b = true := by
  refine List.all_eq_true.2 fun j hj => ?_
  have hj := List.mem_range.1 hj
  rw [← sQ_eq hb hj]
  exact decide_eq_true (h.2 j hj)
theorem ref9_no {b : List Int} (hr : ∀ y ∈ b, inR .u8 y) (hb : b.length = 512) (h : rgtB (supQ b) = false ∨ hdP (supQ b) ≠ b.take 480) : dec9P b = sup0 ∧ dec9E b = 12 := by
  have ho : okR9 b = false := by
    rw [supQ_eq hb hr] at h
    rcases h with h | h
    · simp [okR9, h]
    · simp [okR9, h]
  obtain ⟨e1, e2⟩ := dec9_ref hb hr
  have hn : ¬ okR9 b = true := by rw [ho]; decide
  rw [if_neg hn] at e1 e2
  exact ⟨e1, e2⟩
theorem ref9_yes {b : List Int} (hr : ∀ y ∈ b, inR .u8 y) (hb : b.length = 512) (hs : slOk b 4) (h1 : rgtB (supQ b) = true) (h2 : hdP (supQ b) = b.take 480) : dec9P b = supQ b ∧ dec9E b = 0 := by
  have hs := slOk_all hb hs
  rw [supQ_eq hb hr] at h1 h2 ⊢
  have ho : okR9 b = true := by
    unfold okR9
    rw [hs, h1, decide_eq_true h2]
    decide
  obtain ⟨e1, e2⟩ := dec9_ref hb hr
  rw [if_pos ho] at e1 e2
  exact ⟨e1, e2⟩
end Go.Cx.Rb
