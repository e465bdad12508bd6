/-
  A superblock, as a statement reads it.
-/
import Derived.Test.YtojllgpnhaaagaaDoorCxbR
import Derived.Test.YtojllgpnhaaagaaDoorCxbZb
namespace Go.Proofs.YtojllgpnhaaagaaDoor.Law
open Go Go.ChangeShapes Go.WideShapes Go.ChangeAt Go.RowKit Go.Cx Go.Cx.Rb Go.ChangeMaps

theorem cells73 : Tryd.prog.cellsOf 73 = 1 := by kernel_rfl
theorem cells95 : Tryd.prog.cellsOf 95 = 1 := by kernel_rfl
theorem cells96 : Tryd.prog.cellsOf 96 = 300 := by kernel_rfl
theorem cells98 : Tryd.prog.cellsOf 98 = 354 := by kernel_rfl
def superC (ph k o q b c : Int) (root salt : List Int) (f : Nat → V) : V :=
  .cat 1 353 (.int .i64 ph) (.cat 1 352 (.int .i64 k) (.cat 1 351 (.int .i64 o) (.cat 1 350 (.int .u64 q) (.cat 1 349 (.int .i64 b) (.cat 1 348 (.int .i64 c) (.cat 32 316 (.ints .u8 32 root) (.cat 16 300 (.ints .u8 16 salt) (.rows 75 4 f))))))))
def IsSlot (v : V) : Prop := ∃ u k r s w c, v = slotC u k r s w c

set_option maxRecDepth 100000 in
theorem piece_super {H : Type} {enc : TypeId × Value → H} {W : World} {fuel : Nat} {cs : List Value} {x : DataW H × List MemPlace} (h : DataW.trod enc Tryd.prog W 0 (fun _ => true) true fuel 98 cs = some x) :
    ∃ ph k o q b c root salt f, (∀ j, IsSlot (f j)) ∧ Piece W cs (superC ph k o q b c root salt f) := by
  obtain ⟨xs, n, _, _, hl, hlen, hf⟩ := DataW.trod_struct Tryd.underlying98 h
  rw [cells98] at hl
  match xs, hlen with
  | [y0, y1, y2, y3, y4, y5, y6, y7, y8], _ =>
    have h0 : DataW.trod enc Tryd.prog W 0 (fun _ => true) true n 95 ((cs.drop 0).take (Tryd.prog.cellsOf 95)) = some y0 := hf 0 _ rfl
    rw [cells95] at h0
    have h1 : DataW.trod enc Tryd.prog W 0 (fun _ => true) true n 3 ((cs.drop 1).take (Tryd.prog.cellsOf 3)) = some y1 := hf 1 _ rfl
    rw [cells3] at h1
    have h2 : DataW.trod enc Tryd.prog W 0 (fun _ => true) true n 3 ((cs.drop 2).take (Tryd.prog.cellsOf 3)) = some y2 := hf 2 _ rfl
    rw [cells3] at h2
    have h3 : DataW.trod enc Tryd.prog W 0 (fun _ => true) true n 73 ((cs.drop 3).take (Tryd.prog.cellsOf 73)) = some y3 := hf 3 _ rfl
    rw [cells73] at h3
    have h4 : DataW.trod enc Tryd.prog W 0 (fun _ => true) true n 3 ((cs.drop 4).take (Tryd.prog.cellsOf 3)) = some y4 := hf 4 _ rfl
    rw [cells3] at h4
    have h5 : DataW.trod enc Tryd.prog W 0 (fun _ => true) true n 3 ((cs.drop 5).take (Tryd.prog.cellsOf 3)) = some y5 := hf 5 _ rfl
    rw [cells3] at h5
    have h6 : DataW.trod enc Tryd.prog W 0 (fun _ => true) true n 23 ((cs.drop 6).take (Tryd.prog.cellsOf 23)) = some y6 := hf 6 _ rfl
    rw [cells23'] at h6
    have h7 : DataW.trod enc Tryd.prog W 0 (fun _ => true) true n 53 ((cs.drop 38).take (Tryd.prog.cellsOf 53)) = some y7 := hf 7 _ rfl
    rw [cells53'] at h7
    have h8 : DataW.trod enc Tryd.prog W 0 (fun _ => true) true n 96 ((cs.drop 54).take (Tryd.prog.cellsOf 96)) = some y8 := hf 8 _ rfl
    rw [cells96] at h8
    obtain ⟨ph, p0⟩ := piece_int Tryd.underlying95 h0
    obtain ⟨k, p1⟩ := piece_int Tryd.underlying3 h1
    obtain ⟨o, p2⟩ := piece_int Tryd.underlying3 h2
    obtain ⟨q, p3⟩ := piece_int Tryd.underlying73 h3
    obtain ⟨b, p4⟩ := piece_int Tryd.underlying3 h4
    obtain ⟨c, p5⟩ := piece_int Tryd.underlying3 h5
    obtain ⟨root, p6⟩ := piece_ints Tryd.underlying23 Tryd.underlying5 cells5 cells23' h6
    obtain ⟨salt, p7⟩ := piece_ints Tryd.underlying53 Tryd.underlying5 cells5 cells53' h7
    obtain ⟨f, hq, p8⟩ := piece_rows (s := 75) (Q := IsSlot) (d := slotC false 0 0 (zerosI 16) (zerosI 32) (zerosI 24)) Tryd.underlying96 cells56 cells96 ⟨⟨_, _, _, _, _, _, rfl⟩, rfl, by simp [slotC, Go.Cx.Flat]⟩ h8 (fun fuel cs x hx => by
      obtain ⟨u, k, r, s, w, c, hp⟩ := piece_slot hx
      exact ⟨_, ⟨u, k, r, s, w, c, rfl⟩, rfl, hp⟩)
    have e8 : (cs.drop 54).take 300 = cs.drop 54 := List.take_of_length_le (by simp; omega)
    rw [e8] at p8
    have q7 := Piece.cat (n := 16) (cs := cs.drop 38) p7 (by simp; omega) (by rw [List.drop_drop]; exact p8)
    have q6 := Piece.cat (n := 32) (cs := cs.drop 6) p6 (by simp; omega) (by rw [List.drop_drop]; exact q7)
    have q5 := Piece.cat (n := 1) (cs := cs.drop 5) p5 (by simp; omega) (by rw [List.drop_drop]; exact q6)
    have q4 := Piece.cat (n := 1) (cs := cs.drop 4) p4 (by simp; omega) (by rw [List.drop_drop]; exact q5)
    have q3 := Piece.cat (n := 1) (cs := cs.drop 3) p3 (by simp; omega) (by rw [List.drop_drop]; exact q4)
    have q2 := Piece.cat (n := 1) (cs := cs.drop 2) p2 (by simp; omega) (by rw [List.drop_drop]; exact q3)
    have q1 := Piece.cat (n := 1) (cs := cs.drop 1) p1 (by simp; omega) (by rw [List.drop_drop]; exact q2)
    have q0 := Piece.cat (n := 1) (cs := cs) p0 (by omega) q1
    simp only [List.length_drop, hl] at q0
    exact ⟨ph, k, o, q, b, c, root, salt, f, hq, q0⟩
def IsSuper (v : V) : Prop := ∃ ph k o q b c root salt f, (∀ j, IsSlot (f j)) ∧ v = superC ph k o q b c root salt f
set_option maxRecDepth 100000 in
theorem law_super {H : Type} {enc : TypeId × Value → H} {W : World} {base : Nat} {v : Value} {d : DataW H} {p : List MemPlace} (hval : Value.okWide Tryd.prog W .any base 98 v) (h : DataW.Trod enc Tryd.prog W 0 (fun _ => true) true 98 v d p) :
    ∃ ph k o q b c root salt f lo, (∀ j, IsSlot (f j)) ∧ LArg W (.v (superC ph k o q b c root salt f)) v lo none := by
  have hp : ∀ fuel cs x, DataW.trod enc Tryd.prog W 0 (fun _ => true) true fuel 98 cs = some x → ∃ c, IsSuper c ∧ c.isAgg = true ∧ Piece W cs c := fun fuel cs x hx => by
    obtain ⟨ph, k, o, q, b, c, root, salt, f, hq, hp⟩ := piece_super hx
    exact ⟨_, ⟨ph, k, o, q, b, c, root, salt, f, hq, rfl⟩, rfl, hp⟩
  have hg : ∀ v, Value.okWide Tryd.prog W .any base 98 v → ∃ cs, v = .agg cs := @struct_agg Tryd.prog W 98 _ Tryd.underlying98 base
  obtain ⟨c, lo, ⟨ph, k, o, q, b, c', root, salt, f, hq, e⟩, hl⟩ := @law_piece H enc Tryd.prog W 98 base v d p hg hval h IsSuper hp
  subst e
  exact ⟨ph, k, o, q, b, c', root, salt, f, lo, hq, hl⟩
end Go.Proofs.YtojllgpnhaaagaaDoor.Law

/- The superblocks' laws: what is handed in is a superblock. -/
namespace Go.Proofs.YtojllgpnhaaagaaDoor.Law
open Go Go.Cx Go.Cx.Rb

theorem isSl_of {f : Nat → V} (hq : ∀ j, IsSlot (f j)) : isSl f := by
  refine ⟨unslots f, funext fun j => ?_⟩
  obtain ⟨u, k, r, s, w, c, e⟩ := hq j
  show f j = slotA apf (unslot (f j))
  rw [e]
  rfl
theorem hout15 {ph k o q b c : Int} {root salt : List Int} {f : Nat → V} (hq : ∀ j, IsSlot (f j)) {m : List Int} {bl : Int} : (cLaw15 apf [.v (superC ph k o q b c root salt f), .v (.ints .u8 32 m), .v (.int .i64 bl)]).to ⟨.tt, [], []⟩ := ⟨isSl_of hq, rfl⟩
theorem hout16 (n : Nat) (l m : List Int) (h : n ≤ 140737488351232) : (cLaw16 apf [.v (.dsl n 1 (.ints .u8 n l)), .v (.ints .u8 32 m)]).to ⟨.tt, [], []⟩ := ⟨rfl, h, rfl⟩
theorem hout17 {ph k o q b c : Int} {root salt : List Int} {f : Nat → V} (hq : ∀ j, IsSlot (f j)) {m m2 : List Int} {a t : Int} : (cLaw17 apf [.v (superC ph k o q b c root salt f), .v (.ints .u8 32 m), .v (.ints .u8 32 m2), .v (.int .i64 a), .v (.int .u8 t)]).to ⟨.tt, [], []⟩ := ⟨isSl_of hq, rfl⟩
end Go.Proofs.YtojllgpnhaaagaaDoor.Law
