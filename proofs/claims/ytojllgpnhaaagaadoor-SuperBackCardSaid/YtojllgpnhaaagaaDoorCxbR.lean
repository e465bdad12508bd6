/-
  The laws' variables, as the rows list them.
-/
import Derived.Test.YtojllgpnhaaagaaDoorCards
import Derived.Test.YtojllgpnhaaagaaDoorTie
import Derived.Test.YtojllgpnhaaagaaDoorCxF
import Derived.Test.YtojllgpnhaaagaaDoorCxbQ
import Derived.Test.YtojllgpnhaaagaaDoorCxG
namespace Go.Proofs.YtojllgpnhaaagaaDoor.Law
open Go Go.ChangeShapes Go.WideShapes Go.ChangeAt Go.RowKit Go.Cx Go.Cx.Rb

theorem own : ownKnob Tryd.prog.godebug = none := by kernel_rfl
theorem gK : Tryd.prog.globalNamed "cloister/cloisterref01.k" = some 0 := by kernel_rfl
theorem gKeys : Tryd.prog.globalNamed "cloister/sha.keys" = some 1 := by kernel_rfl
theorem gKT : (Tryd.prog.globals[0]?).map (·.type) = some 188 := by kernel_rfl
theorem gKeysT : (Tryd.prog.globals[1]?).map (·.type) = some 188 := by kernel_rfl
theorem cells188 : Tryd.prog.cellsOf 188 = 64 := by kernel_rfl
theorem cells184 : Tryd.prog.cellsOf 184 = 1 := by kernel_rfl
theorem cells5 : Tryd.prog.cellsOf 5 = 1 := by kernel_rfl
theorem bytes5 : Tryd.prog.bytesOf 5 = 1 := by kernel_rfl
theorem kkIn : ∀ y ∈ kk, inR .u32 y := by
  have h : ∀ y ∈ kk, 0 ≤ y ∧ y ≤ 4294967295 := by decide
  exact fun y hy => inR_u32.2 (h y hy)

theorem laid_tail {P : Program} {W : World} {x : String × DataW Unit} {rest : List (String × DataW Unit)} (h : laidMet P (x :: rest) W) : laidMet P rest W := by
  obtain ⟨ps, ⟨g', t', cs, fuel, p, q, _, _, _, _, hq, rfl⟩, hn, hc⟩ := h
  exact ⟨q, hq, (List.nodup_append.1 hn).2.1, fun b off hb => hc b off (List.mem_append.2 (.inr hb))⟩

theorem tab_glo {W : World} {name : String} {g : Nat} (hg : Tryd.prog.globalNamed name = some g) (h : Lib.TabIs Tryd.prog W name .u32 kk) : GloIs W g (.ints .u32 64 kk) := by
  have hcell := fun i hi => h.cell hg i hi
  have h0 := hcell 63 (by decide)
  simp only [World.cell?] at h0
  split at h0
  · rename_i c ty fr hh
    have hsz : 63 < c.size := by
      rcases Nat.lt_or_ge 63 c.size with h | h
      · exact h
      · simp only [Option.isSome_none, Bool.false_eq_true, if_false] at h0
        rw [Array.getElem?_eq_none h] at h0
        cases h0
    refine ⟨heap_lt hh, ?_, by decide, kkIn, fun j hj => ?_⟩
    · simp only [bsize, hh, V.size]; omega
    · show W.cell? ⟨g, 0 + j, none⟩ = _
      rw [Nat.zero_add]
      exact hcell j hj
  · cases h0

/-- both tables, as the row's list gives them -/
theorem both {W : World} (h : laidMetH Tryd.prog Rows.slotsWrapRow.laid W) : ∀ n c, Go.Cx.look G2 n = some c → GloIs W n c := by
  have h : laidMet Tryd.prog Rows.slotsWrapRow.laid W := h
  have t0 : Lib.TabIs Tryd.prog W "cloister/cloisterref01.k" .u32 kk := Lib.tabIs_of_head gK gKT Tryd.underlying188 Tryd.underlying184 cells184 cells188 h
  have t1 : Lib.TabIs Tryd.prog W "cloister/sha.keys" .u32 kk := Lib.tabIs_of_head (rest := []) gKeys gKeysT Tryd.underlying188 Tryd.underlying184 cells184 cells188 (laid_tail h)
  intro n c hn
  simp only [Go.Cx.look] at hn
  split at hn
  · rename_i e; subst e; cases hn; exact tab_glo gK t0
  · split at hn
    · rename_i e; subst e; cases hn; exact tab_glo gKeys t1
    · cases hn

/-- a world for the witness: the tables hold what their initialisers lay -/
noncomputable def layKK : Obj → Obj
  | .cells _ t frozen => .cells (kk.map (Value.int .u32)).toArray t frozen
  | o => o
noncomputable def laidWorld (os : Os) : World :=
  { World.holding Tryd.prog os ⟨#[], #[], []⟩ with heap := ((World.holding Tryd.prog os ⟨#[], #[], []⟩).heap.modify 0 layKK).modify 1 layKK }
theorem laid_met (os : Os) (args : Array Value) : laidMet Tryd.prog Rows.slotsWrapRow.laid ((laidWorld os).forCall (fun _ _ => 0) ⟨#[], args, []⟩).memory :=
  laidMet_of_run' 8 (by kernel_rfl) (by kernel_rfl)
end Go.Proofs.YtojllgpnhaaagaaDoor.Law

/- A slot, as a statement reads it. -/
namespace Go.Proofs.YtojllgpnhaaagaaDoor.Law
open Go Go.ChangeShapes Go.WideShapes Go.ChangeAt Go.RowKit Go.Cx Go.Cx.Rb Go.ChangeMaps

theorem cells3 : Tryd.prog.cellsOf 3 = 1 := by kernel_rfl
theorem cells4 : Tryd.prog.cellsOf 4 = 1 := by kernel_rfl
theorem cells23' : Tryd.prog.cellsOf 23 = 32 := by kernel_rfl
theorem cells53' : Tryd.prog.cellsOf 53 = 16 := by kernel_rfl
theorem cells54' : Tryd.prog.cellsOf 54 = 24 := by kernel_rfl
theorem cells56 : Tryd.prog.cellsOf 56 = 75 := by kernel_rfl
def slotC (u : Bool) (k r : Int) (s w c : List Int) : V := .cat 1 74 (.bool u) (.cat 1 73 (.int .i64 k) (.cat 1 72 (.int .i64 r) (.cat 16 56 (.ints .u8 16 s) (.cat 32 24 (.ints .u8 32 w) (.ints .u8 24 c)))))

theorem piece_slot {H : Type} {enc : TypeId × Value → H} {W : World} {fuel : Nat} {cs : List Value} {x : DataW H × List MemPlace} (h : DataW.trod enc Tryd.prog W 0 (fun _ => true) true fuel 56 cs = some x) :
    ∃ u k r s w c, Piece W cs (slotC u k r s w c) := by
  obtain ⟨xs, n, _, _, hl, hlen, hf⟩ := DataW.trod_struct Tryd.underlying56 h
  rw [cells56] at hl
  match xs, hlen with
  | [y0, y1, y2, y3, y4, y5], _ =>
    have h0 : DataW.trod enc Tryd.prog W 0 (fun _ => true) true n 4 ((cs.drop 0).take (Tryd.prog.cellsOf 4)) = some y0 := hf 0 _ rfl
    rw [cells4] at h0
    have h1 : DataW.trod enc Tryd.prog W 0 (fun _ => true) true n 3 ((cs.drop 1).take (Tryd.prog.cellsOf 3)) = some y1 := hf 1 _ rfl
    rw [cells3] at h1
    have h2 : DataW.trod enc Tryd.prog W 0 (fun _ => true) true n 3 ((cs.drop 2).take (Tryd.prog.cellsOf 3)) = some y2 := hf 2 _ rfl
    rw [cells3] at h2
    have h3 : DataW.trod enc Tryd.prog W 0 (fun _ => true) true n 53 ((cs.drop 3).take (Tryd.prog.cellsOf 53)) = some y3 := hf 3 _ rfl
    rw [cells53'] at h3
    have h4 : DataW.trod enc Tryd.prog W 0 (fun _ => true) true n 23 ((cs.drop 19).take (Tryd.prog.cellsOf 23)) = some y4 := hf 4 _ rfl
    rw [cells23'] at h4
    have h5 : DataW.trod enc Tryd.prog W 0 (fun _ => true) true n 54 ((cs.drop 51).take (Tryd.prog.cellsOf 54)) = some y5 := hf 5 _ rfl
    rw [cells54'] at h5
    obtain ⟨u, p0⟩ := piece_bool Tryd.underlying4 h0
    obtain ⟨k, p1⟩ := piece_int Tryd.underlying3 h1
    obtain ⟨r, p2⟩ := piece_int Tryd.underlying3 h2
    obtain ⟨s, p3⟩ := piece_ints Tryd.underlying53 Tryd.underlying5 cells5 cells53' h3
    obtain ⟨w, p4⟩ := piece_ints Tryd.underlying23 Tryd.underlying5 cells5 cells23' h4
    obtain ⟨c, p5⟩ := piece_ints Tryd.underlying54 Tryd.underlying5 cells5 cells54' h5
    have e5 : (cs.drop 51).take 24 = cs.drop 51 := List.take_of_length_le (by simp; omega)
    rw [e5] at p5
    have q4 := Piece.cat (n := 32) (cs := cs.drop 19) p4 (by simp; omega) (by rw [List.drop_drop]; exact p5)
    have q3 := Piece.cat (n := 16) (cs := cs.drop 3) p3 (by simp; omega) (by rw [List.drop_drop]; exact q4)
    have q2 := Piece.cat (n := 1) (cs := cs.drop 2) p2 (by simp; omega) (by rw [List.drop_drop]; exact q3)
    have q1 := Piece.cat (n := 1) (cs := cs.drop 1) p1 (by simp; omega) (by rw [List.drop_drop]; exact q2)
    have q0 := Piece.cat (n := 1) (cs := cs) p0 (by omega) q1
    simp only [List.length_drop, hl] at q0
    exact ⟨u, k, r, s, w, c, q0⟩

set_option maxRecDepth 100000 in
theorem law_slot {H : Type} {enc : TypeId × Value → H} {W : World} {base : Nat} {v : Value} {d : DataW H} {p : List MemPlace} (hval : Value.okWide Tryd.prog W .any base 56 v) (h : DataW.Trod enc Tryd.prog W 0 (fun _ => true) true 56 v d p) :
    ∃ u k r s w c lo, LArg W (.v (slotC u k r s w c)) v lo none := by
  have hp : ∀ fuel cs x, DataW.trod enc Tryd.prog W 0 (fun _ => true) true fuel 56 cs = some x → ∃ c, (∃ u k r s w c', c = slotC u k r s w c') ∧ c.isAgg = true ∧ Piece W cs c := fun fuel cs x hx => by
    obtain ⟨u, k, r, s, w, c, hp⟩ := piece_slot hx
    exact ⟨slotC u k r s w c, ⟨u, k, r, s, w, c, rfl⟩, rfl, hp⟩
  have hg : ∀ v, Value.okWide Tryd.prog W .any base 56 v → ∃ cs, v = .agg cs := @struct_agg Tryd.prog W 56 _ Tryd.underlying56 base
  obtain ⟨c, lo, ⟨u, k, r, s, w, c', e⟩, hl⟩ := @law_piece H enc Tryd.prog W 56 base v d p hg hval h (fun c => ∃ u k r s w c', c = slotC u k r s w c') hp
  subst e
  exact ⟨u, k, r, s, w, c', lo, hl⟩
theorem hout8 (p s : List Int) (r : Int) (m : List Int) (k : Int) : (cLaw8 apf [.v (.str p), .v (.ints .u8 16 s), .v (.int .i64 r), .v (.ints .u8 32 m), .v (.int .i64 k)]).to ⟨.tt, [], []⟩ := by
  simp only [cLaw8]
  rfl
theorem hout11 (p o s : List Int) (r : Int) (m : List Int) (k : Int) : (cLaw11 apf [.v (.str p), .v (.str o), .v (.ints .u8 16 s), .v (.int .i64 r), .v (.ints .u8 32 m), .v (.int .i64 k)]).to ⟨.tt, [], []⟩ := by
  simp only [cLaw11]
  rfl
theorem hout9 (p : List Int) (u : Bool) (k r : Int) (s w c : List Int) : ((fun args => cLaw9 apf (args.map litA)) [.v (.str p), .v (slotC u k r s w c)]).to ⟨.tt, [], []⟩ := by
  simp only [List.map, slotC, litA, nV, cLaw9]
  rfl
end Go.Proofs.YtojllgpnhaaagaaDoor.Law

/- What the program's first word says, told sign by sign (the kernel needs it so: read out of the text itself it costs too much). -/
namespace Go.Proofs.YtojllgpnhaaagaaDoor.Law
open Go Go.ChangeShapes Go.WideShapes Go.ChangeAt Go.RowKit

set_option maxRecDepth 100000
theorem init_l : Tryd.prog.initOrder.toList = ([104, 97, 114, 110, 101, 115, 115, 32, 48, 98, 51, 57, 55, 55, 49, 54, 98, 101, 51, 100, 54, 99, 98, 56, 49, 49, 56, 98, 55, 50, 101, 97, 102, 51, 100, 97, 98, 50, 52, 99, 52, 102, 53, 53, 48, 52, 56, 57, 99, 54, 56, 98, 57, 102, 100, 49, 49, 100, 97, 98, 57, 53, 50, 48, 57, 100, 48, 51, 52, 97, 49, 97, 32, 99, 117, 116, 32, 97, 116, 32, 99, 108, 111, 105, 115, 116, 101, 114, 47, 99, 108, 111, 105, 115, 116, 101, 114, 108, 97, 119, 49, 48, 46, 77, 101, 114, 107, 108, 101, 85, 110, 108, 105, 107, 101, 32, 99, 108, 111, 105, 115, 116, 101, 114, 47, 99, 108, 111, 105, 115, 116, 101, 114, 108, 97, 119, 49, 48, 46, 77, 101, 114, 107, 108, 101, 79, 114, 100, 101, 114, 32, 99, 108, 111, 105, 115, 116, 101, 114, 47, 99, 108, 111, 105, 115, 116, 101, 114, 108, 97, 119, 49, 48, 46, 77, 101, 114, 107, 108, 101, 80, 108, 97, 121, 115, 32, 99, 108, 111, 105, 115, 116, 101, 114, 47, 99, 108, 111, 105, 115, 116, 101, 114, 108, 97, 119, 49, 48, 46, 77, 101, 114, 107, 108, 101, 78, 105, 108, 32, 99, 108, 111, 105, 115, 116, 101, 114, 47, 99, 108, 111, 105, 115, 116, 101, 114, 108, 97, 119, 49, 48, 46, 77, 101, 114, 107, 108, 101, 70, 111, 108, 100, 115, 32, 99, 108, 111, 105, 115, 116, 101, 114, 47, 99, 108, 111, 105, 115, 116, 101, 114, 108, 97, 119, 48, 56, 46, 83, 108, 111, 116, 115, 87, 114, 97, 112, 32, 99, 108, 111, 105, 115, 116, 101, 114, 47, 99, 108, 111, 105, 115, 116, 101, 114, 108, 97, 119, 48, 56, 46, 83, 108, 111, 116, 115, 85, 110, 119, 114, 97, 112, 32, 99, 108, 111, 105, 115, 116, 101, 114, 47, 99, 108, 111, 105, 115, 116, 101, 114, 108, 97, 119, 48, 56, 46, 83, 108, 111, 116, 115, 68, 101, 99, 111, 100, 101, 32, 99, 108, 111, 105, 115, 116, 101, 114, 47, 99, 108, 111, 105, 115, 116, 101, 114, 108, 97, 119, 48, 56, 46, 83, 108, 111, 116, 115, 66, 97, 99, 107, 32, 99, 108, 111, 105, 115, 116, 101, 114, 47, 99, 108, 111, 105, 115, 116, 101, 114, 108, 97, 119, 49, 49, 46, 74, 111, 117, 114, 110, 97, 108, 80, 97, 99, 107, 115, 32, 99, 108, 111, 105, 115, 116, 101, 114, 47, 99, 108, 111, 105, 115, 116, 101, 114, 108, 97, 119, 49, 49, 46, 74, 111, 117, 114, 110, 97, 108, 85, 110, 112, 97, 99, 107, 115, 32, 99, 108, 111, 105, 115, 116, 101, 114, 47, 99, 108, 111, 105, 115, 116, 101, 114, 108, 97, 119, 49, 49, 46, 74, 111, 117, 114, 110, 97, 108, 66, 97, 99, 107, 32, 99, 108, 111, 105, 115, 116, 101, 114, 47, 99, 108, 111, 105, 115, 116, 101, 114, 108, 97, 119, 48, 57, 46, 83, 117, 112, 101, 114, 69, 110, 99, 111, 100, 101, 115, 32, 99, 108, 111, 105, 115, 116, 101, 114, 47, 99, 108, 111, 105, 115, 116, 101, 114, 108, 97, 119, 48, 57, 46, 83, 117, 112, 101, 114, 68, 101, 99, 111, 100, 101, 115, 32, 99, 108, 111, 105, 115, 116, 101, 114, 47, 99, 108, 111, 105, 115, 116, 101, 114, 108, 97, 119, 48, 57, 46, 83, 117, 112, 101, 114, 66, 97, 99, 107, 32, 99, 108, 111, 105, 115, 116, 101, 114, 47, 99, 108, 111, 105, 115, 116, 101, 114, 108, 97, 119, 48, 55, 46, 83, 101, 97, 108, 67, 108, 111, 115, 101, 115, 32, 99, 108, 111, 105, 115, 116, 101, 114, 47, 99, 108, 111, 105, 115, 116, 101, 114, 108, 97, 119, 48, 55, 46, 83, 101, 97, 108, 79, 112, 101, 110, 115, 32, 99, 108, 111, 105, 115, 116, 101, 114, 47, 99, 108, 111, 105, 115, 116, 101, 114, 108, 97, 119, 48, 55, 46, 83, 101, 97, 108, 66, 97, 99, 107].map Char.ofNat) := by
  rw [show Tryd.prog.initOrder = String.ofList ([104, 97, 114, 110, 101, 115, 115, 32, 48, 98, 51, 57, 55, 55, 49, 54, 98, 101, 51, 100, 54, 99, 98, 56, 49, 49, 56, 98, 55, 50, 101, 97, 102, 51, 100, 97, 98, 50, 52, 99, 52, 102, 53, 53, 48, 52, 56, 57, 99, 54, 56, 98, 57, 102, 100, 49, 49, 100, 97, 98, 57, 53, 50, 48, 57, 100, 48, 51, 52, 97, 49, 97, 32, 99, 117, 116, 32, 97, 116, 32, 99, 108, 111, 105, 115, 116, 101, 114, 47, 99, 108, 111, 105, 115, 116, 101, 114, 108, 97, 119, 49, 48, 46, 77, 101, 114, 107, 108, 101, 85, 110, 108, 105, 107, 101, 32, 99, 108, 111, 105, 115, 116, 101, 114, 47, 99, 108, 111, 105, 115, 116, 101, 114, 108, 97, 119, 49, 48, 46, 77, 101, 114, 107, 108, 101, 79, 114, 100, 101, 114, 32, 99, 108, 111, 105, 115, 116, 101, 114, 47, 99, 108, 111, 105, 115, 116, 101, 114, 108, 97, 119, 49, 48, 46, 77, 101, 114, 107, 108, 101, 80, 108, 97, 121, 115, 32, 99, 108, 111, 105, 115, 116, 101, 114, 47, 99, 108, 111, 105, 115, 116, 101, 114, 108, 97, 119, 49, 48, 46, 77, 101, 114, 107, 108, 101, 78, 105, 108, 32, 99, 108, 111, 105, 115, 116, 101, 114, 47, 99, 108, 111, 105, 115, 116, 101, 114, 108, 97, 119, 49, 48, 46, 77, 101, 114, 107, 108, 101, 70, 111, 108, 100, 115, 32, 99, 108, 111, 105, 115, 116, 101, 114, 47, 99, 108, 111, 105, 115, 116, 101, 114, 108, 97, 119, 48, 56, 46, 83, 108, 111, 116, 115, 87, 114, 97, 112, 32, 99, 108, 111, 105, 115, 116, 101, 114, 47, 99, 108, 111, 105, 115, 116, 101, 114, 108, 97, 119, 48, 56, 46, 83, 108, 111, 116, 115, 85, 110, 119, 114, 97, 112, 32, 99, 108, 111, 105, 115, 116, 101, 114, 47, 99, 108, 111, 105, 115, 116, 101, 114, 108, 97, 119, 48, 56, 46, 83, 108, 111, 116, 115, 68, 101, 99, 111, 100, 101, 32, 99, 108, 111, 105, 115, 116, 101, 114, 47, 99, 108, 111, 105, 115, 116, 101, 114, 108, 97, 119, 48, 56, 46, 83, 108, 111, 116, 115, 66, 97, 99, 107, 32, 99, 108, 111, 105, 115, 116, 101, 114, 47, 99, 108, 111, 105, 115, 116, 101, 114, 108, 97, 119, 49, 49, 46, 74, 111, 117, 114, 110, 97, 108, 80, 97, 99, 107, 115, 32, 99, 108, 111, 105, 115, 116, 101, 114, 47, 99, 108, 111, 105, 115, 116, 101, 114, 108, 97, 119, 49, 49, 46, 74, 111, 117, 114, 110, 97, 108, 85, 110, 112, 97, 99, 107, 115, 32, 99, 108, 111, 105, 115, 116, 101, 114, 47, 99, 108, 111, 105, 115, 116, 101, 114, 108, 97, 119, 49, 49, 46, 74, 111, 117, 114, 110, 97, 108, 66, 97, 99, 107, 32, 99, 108, 111, 105, 115, 116, 101, 114, 47, 99, 108, 111, 105, 115, 116, 101, 114, 108, 97, 119, 48, 57, 46, 83, 117, 112, 101, 114, 69, 110, 99, 111, 100, 101, 115, 32, 99, 108, 111, 105, 115, 116, 101, 114, 47, 99, 108, 111, 105, 115, 116, 101, 114, 108, 97, 119, 48, 57, 46, 83, 117, 112, 101, 114, 68, 101, 99, 111, 100, 101, 115, 32, 99, 108, 111, 105, 115, 116, 101, 114, 47, 99, 108, 111, 105, 115, 116, 101, 114, 108, 97, 119, 48, 57, 46, 83, 117, 112, 101, 114, 66, 97, 99, 107, 32, 99, 108, 111, 105, 115, 116, 101, 114, 47, 99, 108, 111, 105, 115, 116, 101, 114, 108, 97, 119, 48, 55, 46, 83, 101, 97, 108, 67, 108, 111, 115, 101, 115, 32, 99, 108, 111, 105, 115, 116, 101, 114, 47, 99, 108, 111, 105, 115, 116, 101, 114, 108, 97, 119, 48, 55, 46, 83, 101, 97, 108, 79, 112, 101, 110, 115, 32, 99, 108, 111, 105, 115, 116, 101, 114, 47, 99, 108, 111, 105, 115, 116, 101, 114, 108, 97, 119, 48, 55, 46, 83, 101, 97, 108, 66, 97, 99, 107].map Char.ofNat) by kernel_rfl, String.toList_ofList]
theorem init_w : wordsSigns Tryd.prog.initOrder.toList = [([104, 97, 114, 110, 101, 115, 115].map Char.ofNat), ([48, 98, 51, 57, 55, 55, 49, 54, 98, 101, 51, 100, 54, 99, 98, 56, 49, 49, 56, 98, 55, 50, 101, 97, 102, 51, 100, 97, 98, 50, 52, 99, 52, 102, 53, 53, 48, 52, 56, 57, 99, 54, 56, 98, 57, 102, 100, 49, 49, 100, 97, 98, 57, 53, 50, 48, 57, 100, 48, 51, 52, 97, 49, 97].map Char.ofNat), ([99, 117, 116].map Char.ofNat), ([97, 116].map Char.ofNat), ([99, 108, 111, 105, 115, 116, 101, 114, 47, 99, 108, 111, 105, 115, 116, 101, 114, 108, 97, 119, 49, 48, 46, 77, 101, 114, 107, 108, 101, 85, 110, 108, 105, 107, 101].map Char.ofNat), ([99, 108, 111, 105, 115, 116, 101, 114, 47, 99, 108, 111, 105, 115, 116, 101, 114, 108, 97, 119, 49, 48, 46, 77, 101, 114, 107, 108, 101, 79, 114, 100, 101, 114].map Char.ofNat), ([99, 108, 111, 105, 115, 116, 101, 114, 47, 99, 108, 111, 105, 115, 116, 101, 114, 108, 97, 119, 49, 48, 46, 77, 101, 114, 107, 108, 101, 80, 108, 97, 121, 115].map Char.ofNat), ([99, 108, 111, 105, 115, 116, 101, 114, 47, 99, 108, 111, 105, 115, 116, 101, 114, 108, 97, 119, 49, 48, 46, 77, 101, 114, 107, 108, 101, 78, 105, 108].map Char.ofNat), ([99, 108, 111, 105, 115, 116, 101, 114, 47, 99, 108, 111, 105, 115, 116, 101, 114, 108, 97, 119, 49, 48, 46, 77, 101, 114, 107, 108, 101, 70, 111, 108, 100, 115].map Char.ofNat), ([99, 108, 111, 105, 115, 116, 101, 114, 47, 99, 108, 111, 105, 115, 116, 101, 114, 108, 97, 119, 48, 56, 46, 83, 108, 111, 116, 115, 87, 114, 97, 112].map Char.ofNat), ([99, 108, 111, 105, 115, 116, 101, 114, 47, 99, 108, 111, 105, 115, 116, 101, 114, 108, 97, 119, 48, 56, 46, 83, 108, 111, 116, 115, 85, 110, 119, 114, 97, 112].map Char.ofNat), ([99, 108, 111, 105, 115, 116, 101, 114, 47, 99, 108, 111, 105, 115, 116, 101, 114, 108, 97, 119, 48, 56, 46, 83, 108, 111, 116, 115, 68, 101, 99, 111, 100, 101].map Char.ofNat), ([99, 108, 111, 105, 115, 116, 101, 114, 47, 99, 108, 111, 105, 115, 116, 101, 114, 108, 97, 119, 48, 56, 46, 83, 108, 111, 116, 115, 66, 97, 99, 107].map Char.ofNat), ([99, 108, 111, 105, 115, 116, 101, 114, 47, 99, 108, 111, 105, 115, 116, 101, 114, 108, 97, 119, 49, 49, 46, 74, 111, 117, 114, 110, 97, 108, 80, 97, 99, 107, 115].map Char.ofNat), ([99, 108, 111, 105, 115, 116, 101, 114, 47, 99, 108, 111, 105, 115, 116, 101, 114, 108, 97, 119, 49, 49, 46, 74, 111, 117, 114, 110, 97, 108, 85, 110, 112, 97, 99, 107, 115].map Char.ofNat), ([99, 108, 111, 105, 115, 116, 101, 114, 47, 99, 108, 111, 105, 115, 116, 101, 114, 108, 97, 119, 49, 49, 46, 74, 111, 117, 114, 110, 97, 108, 66, 97, 99, 107].map Char.ofNat), ([99, 108, 111, 105, 115, 116, 101, 114, 47, 99, 108, 111, 105, 115, 116, 101, 114, 108, 97, 119, 48, 57, 46, 83, 117, 112, 101, 114, 69, 110, 99, 111, 100, 101, 115].map Char.ofNat), ([99, 108, 111, 105, 115, 116, 101, 114, 47, 99, 108, 111, 105, 115, 116, 101, 114, 108, 97, 119, 48, 57, 46, 83, 117, 112, 101, 114, 68, 101, 99, 111, 100, 101, 115].map Char.ofNat), ([99, 108, 111, 105, 115, 116, 101, 114, 47, 99, 108, 111, 105, 115, 116, 101, 114, 108, 97, 119, 48, 57, 46, 83, 117, 112, 101, 114, 66, 97, 99, 107].map Char.ofNat), ([99, 108, 111, 105, 115, 116, 101, 114, 47, 99, 108, 111, 105, 115, 116, 101, 114, 108, 97, 119, 48, 55, 46, 83, 101, 97, 108, 67, 108, 111, 115, 101, 115].map Char.ofNat), ([99, 108, 111, 105, 115, 116, 101, 114, 47, 99, 108, 111, 105, 115, 116, 101, 114, 108, 97, 119, 48, 55, 46, 83, 101, 97, 108, 79, 112, 101, 110, 115].map Char.ofNat), ([99, 108, 111, 105, 115, 116, 101, 114, 47, 99, 108, 111, 105, 115, 116, 101, 114, 108, 97, 119, 48, 55, 46, 83, 101, 97, 108, 66, 97, 99, 107].map Char.ofNat)] := by
  rw [init_l]
  kernel_rfl
theorem behind_w : behindMainWord (wordsSigns Tryd.prog.initOrder.toList) = [([99, 117, 116].map Char.ofNat), ([97, 116].map Char.ofNat), ([99, 108, 111, 105, 115, 116, 101, 114, 47, 99, 108, 111, 105, 115, 116, 101, 114, 108, 97, 119, 49, 48, 46, 77, 101, 114, 107, 108, 101, 85, 110, 108, 105, 107, 101].map Char.ofNat), ([99, 108, 111, 105, 115, 116, 101, 114, 47, 99, 108, 111, 105, 115, 116, 101, 114, 108, 97, 119, 49, 48, 46, 77, 101, 114, 107, 108, 101, 79, 114, 100, 101, 114].map Char.ofNat), ([99, 108, 111, 105, 115, 116, 101, 114, 47, 99, 108, 111, 105, 115, 116, 101, 114, 108, 97, 119, 49, 48, 46, 77, 101, 114, 107, 108, 101, 80, 108, 97, 121, 115].map Char.ofNat), ([99, 108, 111, 105, 115, 116, 101, 114, 47, 99, 108, 111, 105, 115, 116, 101, 114, 108, 97, 119, 49, 48, 46, 77, 101, 114, 107, 108, 101, 78, 105, 108].map Char.ofNat), ([99, 108, 111, 105, 115, 116, 101, 114, 47, 99, 108, 111, 105, 115, 116, 101, 114, 108, 97, 119, 49, 48, 46, 77, 101, 114, 107, 108, 101, 70, 111, 108, 100, 115].map Char.ofNat), ([99, 108, 111, 105, 115, 116, 101, 114, 47, 99, 108, 111, 105, 115, 116, 101, 114, 108, 97, 119, 48, 56, 46, 83, 108, 111, 116, 115, 87, 114, 97, 112].map Char.ofNat), ([99, 108, 111, 105, 115, 116, 101, 114, 47, 99, 108, 111, 105, 115, 116, 101, 114, 108, 97, 119, 48, 56, 46, 83, 108, 111, 116, 115, 85, 110, 119, 114, 97, 112].map Char.ofNat), ([99, 108, 111, 105, 115, 116, 101, 114, 47, 99, 108, 111, 105, 115, 116, 101, 114, 108, 97, 119, 48, 56, 46, 83, 108, 111, 116, 115, 68, 101, 99, 111, 100, 101].map Char.ofNat), ([99, 108, 111, 105, 115, 116, 101, 114, 47, 99, 108, 111, 105, 115, 116, 101, 114, 108, 97, 119, 48, 56, 46, 83, 108, 111, 116, 115, 66, 97, 99, 107].map Char.ofNat), ([99, 108, 111, 105, 115, 116, 101, 114, 47, 99, 108, 111, 105, 115, 116, 101, 114, 108, 97, 119, 49, 49, 46, 74, 111, 117, 114, 110, 97, 108, 80, 97, 99, 107, 115].map Char.ofNat), ([99, 108, 111, 105, 115, 116, 101, 114, 47, 99, 108, 111, 105, 115, 116, 101, 114, 108, 97, 119, 49, 49, 46, 74, 111, 117, 114, 110, 97, 108, 85, 110, 112, 97, 99, 107, 115].map Char.ofNat), ([99, 108, 111, 105, 115, 116, 101, 114, 47, 99, 108, 111, 105, 115, 116, 101, 114, 108, 97, 119, 49, 49, 46, 74, 111, 117, 114, 110, 97, 108, 66, 97, 99, 107].map Char.ofNat), ([99, 108, 111, 105, 115, 116, 101, 114, 47, 99, 108, 111, 105, 115, 116, 101, 114, 108, 97, 119, 48, 57, 46, 83, 117, 112, 101, 114, 69, 110, 99, 111, 100, 101, 115].map Char.ofNat), ([99, 108, 111, 105, 115, 116, 101, 114, 47, 99, 108, 111, 105, 115, 116, 101, 114, 108, 97, 119, 48, 57, 46, 83, 117, 112, 101, 114, 68, 101, 99, 111, 100, 101, 115].map Char.ofNat), ([99, 108, 111, 105, 115, 116, 101, 114, 47, 99, 108, 111, 105, 115, 116, 101, 114, 108, 97, 119, 48, 57, 46, 83, 117, 112, 101, 114, 66, 97, 99, 107].map Char.ofNat), ([99, 108, 111, 105, 115, 116, 101, 114, 47, 99, 108, 111, 105, 115, 116, 101, 114, 108, 97, 119, 48, 55, 46, 83, 101, 97, 108, 67, 108, 111, 115, 101, 115].map Char.ofNat), ([99, 108, 111, 105, 115, 116, 101, 114, 47, 99, 108, 111, 105, 115, 116, 101, 114, 108, 97, 119, 48, 55, 46, 83, 101, 97, 108, 79, 112, 101, 110, 115].map Char.ofNat), ([99, 108, 111, 105, 115, 116, 101, 114, 47, 99, 108, 111, 105, 115, 116, 101, 114, 108, 97, 119, 48, 55, 46, 83, 101, 97, 108, 66, 97, 99, 107].map Char.ofNat)] := by
  rw [init_w]
  kernel_rfl
theorem strip_cut {rest : List (List Char)} : stripLifts liftWords (([99, 117, 116].map Char.ofNat) :: rest) = ([], ([99, 117, 116].map Char.ofNat) :: rest) := by
  have go : ∀ os : List String, (∀ o ∈ os, (([99, 117, 116].map Char.ofNat) == o.toList) = false) → stripLifts os (([99, 117, 116].map Char.ofNat) :: rest) = ([], ([99, 117, 116].map Char.ofNat) :: rest) := by
    intro os
    induction os with
    | nil => intro _; rfl
    | cons o os ih =>
      intro h
      simp only [stripLifts, h o (by simp), Bool.false_eq_true, if_false]
      exact ih fun o ho => h o (by simp [ho])
  exact go liftWords (by decide +kernel)
theorem cut_l : "cut".toList = ([99, 117, 116].map Char.ofNat) := by decide +kernel
theorem heads {P : Program} {rest : List (List Char)} (h : behindMainWord (wordsSigns P.initOrder.toList) = ([99, 117, 116].map Char.ofNat) :: rest) : P.headLifts = [] := by
  unfold Program.headLifts
  rw [h, strip_cut]
  simp only [List.head?_cons]
  exact ite_self _
theorem make_cut {P : Program} {rest : List (List Char)} (h : behindMainWord (wordsSigns P.initOrder.toList) = ([99, 117, 116].map Char.ofNat) :: rest) : P.make = some .cut := by
  unfold Program.make
  rw [h]
  simp only [cut_l, show (([99, 117, 116].map Char.ofNat) == "gc".toList) = false by decide +kernel, show (([99, 117, 116].map Char.ofNat) == "spec".toList) = false by decide +kernel, Bool.or_false, Bool.false_eq_true, if_false, BEq.rfl, Bool.true_or, if_true]
theorem lifts_cut {P : Program} {rest : List (List Char)} (h : behindMainWord (wordsSigns P.initOrder.toList) = ([99, 117, 116].map Char.ofNat) :: rest) : P.liftsFinal = false := by
  unfold Program.liftsFinal
  rw [h, heads h]
  simp only [List.head?_cons, show (some ([99, 117, 116].map Char.ofNat) == some "carried".toList) = false by decide +kernel, Bool.false_and, Bool.false_or]
  rfl
theorem enter_cut {P : Program} {rest : List (List Char)} (h : behindMainWord (wordsSigns P.initOrder.toList) = ([99, 117, 116].map Char.ofNat) :: rest) (hl : P.laysLater = false) (hb : P.bearsReflect = false) (hd : P.doorFits [] = true) : P.mayEnter = true := by
  unfold Program.mayEnter
  rw [h]
  simp only [strip_cut, hl, hb, hd, List.head?_cons, cut_l, BEq.rfl, Bool.not_false, Bool.or_true, Bool.and_true, Bool.true_and]
  have e : (([] : List String).contains "reflectrows" || !([] : List String).contains "leanrows") = true := rfl
  rw [e, Bool.or_true]
theorem lays_later : Tryd.prog.laysLater = false := by kernel_rfl
theorem bears : Tryd.prog.bearsReflect = false := by kernel_rfl
theorem door : Tryd.prog.doorFits [] = true := by kernel_rfl
theorem may_enter : Tryd.prog.mayEnter = true := enter_cut behind_w lays_later bears door
theorem lifts_final : Tryd.prog.liftsFinal = false := lifts_cut behind_w
theorem make_is : Tryd.prog.make = some .cut := make_cut behind_w
theorem main_of {P : Program} {s : List Char} {rest : List (List Char)} (h : wordsSigns P.initOrder.toList = ([104, 97, 114, 110, 101, 115, 115].map Char.ofNat) :: s :: rest) (hs : isSumSigns s = true) : P.mainIs = some (true, s) := by
  unfold Program.mainIs
  rw [h]
  have e : "harness".toList = ([104, 97, 114, 110, 101, 115, 115].map Char.ofNat) := by decide +kernel
  simp only [hs, e, Bool.not_true, Bool.false_eq_true, if_false, BEq.rfl, if_true]
theorem sum_l : "0b397716be3d6cb8118b72eaf3dab24c4f550489c68b9fd11dab95209d034a1a".toList = ([48, 98, 51, 57, 55, 55, 49, 54, 98, 101, 51, 100, 54, 99, 98, 56, 49, 49, 56, 98, 55, 50, 101, 97, 102, 51, 100, 97, 98, 50, 52, 99, 52, 102, 53, 53, 48, 52, 56, 57, 99, 54, 56, 98, 57, 102, 100, 49, 49, 100, 97, 98, 57, 53, 50, 48, 57, 100, 48, 51, 52, 97, 49, 97].map Char.ofNat) := by
  rw [show "0b397716be3d6cb8118b72eaf3dab24c4f550489c68b9fd11dab95209d034a1a" = String.ofList ([48, 98, 51, 57, 55, 55, 49, 54, 98, 101, 51, 100, 54, 99, 98, 56, 49, 49, 56, 98, 55, 50, 101, 97, 102, 51, 100, 97, 98, 50, 52, 99, 52, 102, 53, 53, 48, 52, 56, 57, 99, 54, 56, 98, 57, 102, 100, 49, 49, 100, 97, 98, 57, 53, 50, 48, 57, 100, 48, 51, 52, 97, 49, 97].map Char.ofNat) by kernel_rfl, String.toList_ofList]
theorem main_is : Tryd.prog.mainIs = some (true, "0b397716be3d6cb8118b72eaf3dab24c4f550489c68b9fd11dab95209d034a1a".toList) := by
  rw [sum_l]
  exact main_of init_w (by decide +kernel)
end Go.Proofs.YtojllgpnhaaagaaDoor.Law
