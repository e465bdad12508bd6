/-
  What the laws of this claim stand on, part E: proved parts, no statement of its own.
-/
import Derived.Test.YtojllgpnhaaagaaDoorMerPD
import Derived.WalkKit
import Derived.ProofKit
import Derived.OpenShut
import Derived.Deep.DeepHandedRow
import Derived.Lib.LaidTab
import Derived.Test.YtojllgpnhaaagaaDoorChecked
import Derived.KernelRfl
/- CxLaw -/
namespace Go.Cx
open Go Go.ChangeShapes Go.WideShapes Go.ChangeAt Go.RowKit
def bsize (W : World) (b : Nat) : Nat := match W.heap[b]? with
  | some (.cells cs _ _) => cs.size
  | _ => 0
def lawRho (W : World) : Rho := fun h => if 200000 ≤ h then some (.at (h - 200000) 0 (bsize W (h - 200000))) else none
theorem lawRho_glob (W : World) (n : Nat) : lawRho W (globH n) = some (.at n 0 (bsize W n)) := by simp [lawRho, globH]
def lawX (W : World) : Fix := ⟨fun _ => False, fun b => b < W.heap.size, W, 0, lawRho W⟩
theorem law_rep (W : World) : Rep (lawX W) (fun b => b < W.heap.size) (lawRho W) (fun _ => none) ⟨fun _ => .any, fun _ => none⟩ #[] W :=
  { frame := fun _ _ _ => rfl
    size := Nat.le_refl _
    os := rfl
    tape := rfl
    output := rfl
    iold := fun _ h => h
    inew := fun _ h => .inl h
    ilt := fun _ h => h
    iow := fun _ _ => rfl
    owf := fun _ _ h => by cases h
    dom := fun k l hk hlt => by
      simp only [lawRho] at hk
      rw [if_neg (by omega)] at hk
      cases hk
    glob := fun n => ⟨_, lawRho_glob W n⟩
    tsz := rfl
    nle := by simp [lawX]
    rle := Rho.le_refl _
    tmps := fun _ => VRep.any _ _ _ _
    heap := fun _ _ h => by cases h }
/-- a package variable that is known -/
def GloIs (W : World) (n : Nat) (c : V) : Prop := n < W.heap.size ∧ c.size ≤ bsize W n ∧ CRep (fun b => b < W.heap.size) W (fun _ => none) c noR [] 0 (cellsAt W n 0)
theorem law_gok {W : World} {G : List (Nat × V)} (hG : ∀ n c, look G n = some c → GloIs W n c) : GOk G (lawX W) :=
  { i0 := fun b hb => ⟨fun h => h, hb⟩
    g := fun n c hn => by
      obtain ⟨h1, h2, h3⟩ := hG n c hn
      exact ⟨h1, ⟨bsize W n, lawRho_glob W n, h2⟩, h3⟩ }
/-- what a call leaves of what was there -/
structure Left0 (W W' : World) : Prop where
  heap : ∀ b, b < W.heap.size → W'.heap[b]? = W.heap[b]?
  size : W.heap.size ≤ W'.heap.size
  os : W'.os = W.os
  output : W'.output = W.output
theorem law_calls {P : Program} {G : List (Nat × V)} {f : FuncId} {ctr : Ctr} {W : World} (hS : Sound P G f true ctr) (hG : ∀ n c, look G n = some c → GloIs W n c) {args : List Arg} {vals : List Value} {los : List Lo}
    (hok : ArgsOk (fun b => b < W.heap.size) W (lawRho W) (fun _ => none) ⟨fun _ => .any, fun _ => none⟩ true [] args vals los (vals.map fun _ => none)) (hlen : vals.length ≤ 100000) {out : Out} (hout : (ctr args).to out) :
    Calls P f vals.toArray W fun en W' => ∃ x I' ρ', en = .returned x ∧ VRep I' W' ρ' out.v x ∧ Left0 W W' := by
  have hnil : ∀ l : List Value, (l.map fun _ => (none : Option Nat)).filterMap id = [] := by
    intro l
    induction l with
    | nil => rfl
    | cons x l ih => simp
  obtain ⟨k1, k2, k3, hget⟩ := hok.get
  obtain ⟨hR, hV⟩ := (law_rep W).forth (law_gok hG) (args := args) (vals := vals) (los := los) (hos := vals.map fun _ => none) (pure := true) (by omega) (by rw [hnil]; exact List.nodup_nil) (by rw [hnil]; exact hok)
  have hF : ∀ b, ¬ overF (fun _ => none) ((vals.map fun _ => (none : Option Nat)).filterMap id) b := fun b ⟨x, r, e, _⟩ => by cases e
  refine Calls.mono (hS.2 args out vals W _ _ _ _ hout k1 (by omega) (fun i n e c hi => ?_) (fun b _ => hF b) hR hV) ?_
  · obtain ⟨x, l, ho, _, _, _, g⟩ := hget i _ hi
    exact g.2.1
  · rintro en W' ⟨x, I', ρ', ow', rfl, hx, hr⟩
    exact ⟨x, I', ρ', rfl, hx, fun b hb => hr.frame b hb (hF b), hr.size, hr.os, hr.output⟩
theorem Left0.kept {W W' : World} (h : Left0 W W') (may : MemPlace → Prop) : W.keptBut W' may := by
  refine ⟨h.os, h.output, fun i hi => ?_⟩
  rw [h.heap i hi]
  cases hh : W.heap[i]? with
  | none => rfl
  | some o => cases o <;> simp
theorem Left0.cell {W W' : World} (h : Left0 W W') {a : Addr} {v : Value} (hc : W.cell? a = some v) : W'.cell? a = some v := by
  have hb : a.block < W.heap.size := by
    simp only [World.cell?] at hc
    split at hc
    · rename_i hh; exact heap_lt hh
    · cases hc
  rw [World.cell?_of_block (h.heap _ hb)]
  exact hc
theorem mapM_some {α β : Type} {f g : α → Option β} : ∀ {l : List α} {ys : List β}, l.mapM f = some ys → (∀ a ∈ l, ∀ y, f a = some y → g a = some y) → l.mapM g = some ys
  | [], ys, h, _ => by simpa using h
  | a :: l, ys, h, hg => by
    simp only [List.mapM_cons, Option.bind_eq_bind, Option.bind_eq_some_iff, Option.pure_def, Option.some.injEq] at h ⊢
    obtain ⟨y, h1, r, h2, rfl⟩ := h
    exact ⟨y, hg a (by simp) y h1, r, mapM_some h2 (fun b hb => hg b (by simp [hb])), rfl⟩
theorem Left0.cells {W W' : World} (h : Left0 W W') {base : Nat} {a : Addr} {n : Nat} {cs : List Value} (hc : W.cells? base a n = some cs) : W'.cells? base a n = some cs := by
  simp only [World.cells?] at hc ⊢
  split at hc
  · rename_i hb
    rw [if_pos hb]
    exact mapM_some hc (fun i _ y hy => h.cell hy)
  · cases hc
/-- types of plain data -/
def plainT (P : Program) : Nat → TypeId → Bool
  | 0, _ => false
  | d + 1, t => match P.underlying t with
    | some .bool | some (.int _) | some .string => true
    | some (.slice e) => P.cellsOf e != 0 && plainT P d e
    | some (.array _ e) => plainT P d e
    | some (.struct fs) => fs.toList.all fun f => plainT P d f.type
    | _ => false
theorem mapM_of {α β : Type} {f : α → Option β} : ∀ {l : List α} {ys : List β}, ys.length = l.length → (∀ (i : Nat) (a : α), l[i]? = some a → f a = ys[i]?) → l.mapM f = some ys
  | [], [], _, _ => rfl
  | [], _ :: _, h, _ => by simp at h
  | _ :: _, [], h, _ => by simp at h
  | a :: l, y :: ys, h, hf => by
    have h0 := hf 0 a rfl
    have ih := mapM_of (l := l) (ys := ys) (by simpa using h) (fun i b hb => by simpa using hf (i + 1) b (by simpa using hb))
    simp only [List.getElem?_cons_zero] at h0
    simp [h0, ih]
theorem range_at {n i j : Nat} (h : (List.range n)[i]? = some j) : i = j ∧ i < n := by
  have h1 := (List.getElem?_eq_some_iff.1 h).1
  simp at h1
  rw [List.getElem?_range h1] at h
  cases h
  exact ⟨rfl, h1⟩
section
variable {H : Type} {enc : TypeId × Value → H} {P : Program} {W W' : World}
/-- Plain data read as before. -/
theorem Left0.trod (hW : Left0 W W') : ∀ (d fuel : Nat) (t : TypeId) (cs : List Value) (x : DataW H × List MemPlace), plainT P d t = true → DataW.trod enc P W 0 (fun _ => true) true fuel t cs = some x →
    DataW.trod enc P W' 0 (fun b => decide (b < W.heap.size)) true fuel t cs = some x := by
  intro d
  induction d with
  | zero => intro fuel t cs x h; cases h
  | succ d ih =>
    intro fuel t cs x hp h
    cases fuel with
    | zero => cases h
    | succ fuel =>
      simp only [plainT] at hp
      have leaf : ∀ {d : TypeDesc}, P.underlying t = some d → (d = .bool ∨ (∃ k, d = .int k) ∨ d = .string) → DataW.trod enc P W' 0 (fun b => decide (b < W.heap.size)) true (fuel + 1) t cs = DataW.trod enc P W 0 (fun _ => true) true (fuel + 1) t cs := fun ht hd => by
        unfold DataW.trod
        rw [ht]
        rcases hd with rfl | ⟨k, rfl⟩ | rfl <;> (rcases cs with _ | ⟨c, _ | ⟨c2, cs⟩⟩ <;> first | rfl | (cases c <;> rfl))
      split at hp
      · rename_i ht; rw [leaf ht (.inl rfl)]; exact h
      · rename_i k ht; rw [leaf ht (.inr (.inl ⟨k, rfl⟩))]; exact h
      · rename_i ht; rw [leaf ht (.inr (.inr rfl))]; exact h
      · rename_i e ht
        simp only [Bool.and_eq_true, bne_iff_ne] at hp
        obtain ⟨hz, hp⟩ := hp
        rcases DataW.trod_slice ht h with ⟨rfl, rfl⟩ | ⟨a, len, cap, elems, rest, n, e1, rfl, rfl, hb, hl, hm, hlen, hel, hsp, _⟩
        · unfold DataW.trod; rw [ht]; rfl
        · cases e1
          obtain ⟨hr1, hr2⟩ := hsp rfl
          have step : ∀ (o : Addr) (y : DataW H × List MemPlace), (W.cells? 0 o (P.cellsOf e)).bind (DataW.trod enc P W 0 (fun _ => true) true fuel e) = some y →
              (W'.cells? 0 o (P.cellsOf e)).bind (DataW.trod enc P W' 0 (fun b => decide (b < W.heap.size)) true fuel e) = some y := fun o y hy => by
            obtain ⟨c, hc, hy⟩ := Option.bind_eq_some_iff.1 hy
            rw [hW.cells hc]
            exact ih fuel e c y hp hy
          have blk : ∀ (o : Addr) (y : DataW H × List MemPlace), (W.cells? 0 o (P.cellsOf e)).bind (DataW.trod enc P W 0 (fun _ => true) true fuel e) = some y → o.block < W.heap.size := fun o y hy => by
            obtain ⟨c, hc, hy⟩ := Option.bind_eq_some_iff.1 hy
            have := (World.cells?_some hc).2.2 0 (by omega)
            simp only [World.cell?] at this
            split at this
            · rename_i hh; exact heap_lt hh
            · have hcs : 0 < c.length := by have := (World.cells?_some hc).2.1; omega
              rw [List.getElem?_eq_getElem hcs] at this
              cases this
          have hE : (List.range len).mapM (fun i => (W'.cells? 0 (a.add (i * P.cellsOf e)) (P.cellsOf e)).bind (DataW.trod enc P W' 0 (fun b => decide (b < W.heap.size)) true fuel e)) = some elems := by
            refine mapM_of (by simp [hlen]) fun i j hj => ?_
            replace hj := range_at hj
            obtain ⟨rfl, hj⟩ := hj
            rw [List.getElem?_eq_getElem (by omega)]
            exact step _ _ ((hel i hj).trans (List.getElem?_eq_getElem (by omega)))
          have hR : (if decide (a.block < W.heap.size) = true then (List.range (cap - len)).mapM (fun j => (W'.cells? 0 (a.add ((len + j) * P.cellsOf e)) (P.cellsOf e)).bind (DataW.trod enc P W' 0 (fun b => decide (b < W.heap.size)) true fuel e)) else some []) = some rest := by
            have hmap : (List.range (cap - len)).mapM (fun j => (W'.cells? 0 (a.add ((len + j) * P.cellsOf e)) (P.cellsOf e)).bind (DataW.trod enc P W' 0 (fun b => decide (b < W.heap.size)) true fuel e)) = some rest := by
              refine mapM_of (by simp [hr1]) fun i j hj => ?_
              replace hj := range_at hj
              obtain ⟨rfl, hj⟩ := hj
              rw [List.getElem?_eq_getElem (by omega)]
              exact step _ _ ((hr2 i hj).trans (List.getElem?_eq_getElem (by omega)))
            split
            · exact hmap
            · rename_i hnb
              cases rest with
              | nil => rfl
              | cons y rest =>
                exfalso
                have hpos : 0 < cap - len := by simp at hr1; omega
                have := blk _ y (hr2 0 hpos)
                refine hnb ?_
                simp only [Addr.add] at this
                split at this <;> simpa using this
          unfold DataW.trod
          rw [ht]
          simp only
          rw [if_pos ⟨hb, hl, hm⟩, hE]
          simp only [Option.bind_some]
          rw [hR]
          rfl
      · rename_i n e ht
        obtain ⟨xs, m, e1, rfl, hl, hlen, hel⟩ := DataW.trod_array ht h
        cases e1
        have hE : (List.range n).mapM (fun i => DataW.trod enc P W' 0 (fun b => decide (b < W.heap.size)) true fuel e ((cs.drop (i * P.cellsOf e)).take (P.cellsOf e))) = some xs := by
          refine mapM_of (by simp [hlen]) fun i j hj => ?_
          replace hj := range_at hj
          obtain ⟨rfl, hj⟩ := hj
          rw [List.getElem?_eq_getElem (by omega)]
          exact ih fuel e _ _ hp ((hel i hj).trans (List.getElem?_eq_getElem (by omega)))
        unfold DataW.trod
        rw [ht]
        rcases cs with _ | ⟨c, _ | ⟨c2, cs⟩⟩ <;> (simp only; rw [if_pos hl, hE]; rfl)
      · rename_i fs ht
        obtain ⟨xs, m, e1, rfl, hl, hlen, hel⟩ := DataW.trod_struct ht h
        cases e1
        have hE : fs.toList.mapM (fun f => DataW.trod enc P W' 0 (fun b => decide (b < W.heap.size)) true fuel f.type ((cs.drop f.offset).take (P.cellsOf f.type))) = some xs := by
          refine mapM_of (by simp [hlen]) fun i f hj => ?_
          have hj' : fs[i]? = some f := by simpa using hj
          have hi : i < xs.length := by have := (List.getElem?_eq_some_iff.1 hj).1; simp at this; omega
          rw [List.getElem?_eq_getElem hi]
          refine ih fuel f.type _ _ ?_ ((hel i f hj').trans (List.getElem?_eq_getElem hi))
          simp only [List.all_eq_true] at hp
          exact hp f (List.mem_of_getElem? hj)
        unfold DataW.trod
        rw [ht]
        rcases cs with _ | ⟨c, _ | ⟨c2, cs⟩⟩ <;> (simp only; rw [if_pos hl, hE]; rfl)
      · cases hp
theorem Left0.trodAll (hW : Left0 W W') : ∀ {ts : List TypeId} {vs : List Value} {ds : List (DataW H)} {ps : List MemPlace}, (∀ t ∈ ts, ∃ d, plainT P d t = true) → DataW.TrodAll enc P W 0 (fun _ => true) true ts vs ds ps →
    DataW.TrodAll enc P W' 0 (fun b => decide (b < W.heap.size)) true ts vs ds ps
  | [], [], [], _, _, h => h
  | t :: ts, v :: vs, d :: ds, ps, hp, ⟨p, q, ⟨fuel, h1⟩, h2, h3⟩ => by
    obtain ⟨dd, hd⟩ := hp t (by simp)
    exact ⟨p, q, ⟨fuel, hW.trod dd fuel t _ _ hd h1⟩, hW.trodAll (fun t ht => hp t (by simp [ht])) h2, h3⟩
  | [], _ :: _, _, _, _, h => h.elim
  | [], [], _ :: _, _, _, h => h.elim
  | _ :: _, [], _, _, _, h => h.elim
  | _ :: _, _ :: _, [], _, _, h => h.elim
/-- A law that returned true and left all as it was. -/
theorem law_post {f : Func} {s : ChangeSpec} {W W' : World} {args : Array Value} {ds : List (DataW H)} {p : List MemPlace} {t : TypeId} (hW : DataW.Whole enc P f.params.toList s.vars false W args.toList ds [] p) (hvars : s.vars = [])
    (hA : DataW.TrodAll enc P W 0 (fun _ => true) true f.params.toList args.toList ds p) (hres : f.resultTypes = #[t]) (ht : P.underlying t = some .bool) (hfn : s.fn H ds = { results := [.lit (.bool true)], args := ds })
    (hp : ∀ t ∈ f.params.toList, ∃ d, plainT P d t = true) (hL : Left0 W W') : s.post enc P f false true false false W args (.bool true) W' := by
  refine ⟨ds, [], p, [], p, [], hW, ?_, ?_, ?_, hL.kept _, fun h => by cases h⟩
  · rw [hres, List.append_nil, hfn]
    refine ⟨[], [], ⟨1, ?_⟩, rfl, rfl⟩
    unfold DataW.trod
    rw [ht]
    rfl
  · rw [List.append_nil, hfn]
    exact hL.trodAll hp hA
  · rw [hvars, List.append_nil, hfn]
    rfl
abbrev LArg (W : World) : Arg → Value → Lo → Option Nat → Prop := ArgOk (fun b => b < W.heap.size) W (lawRho W) (fun _ => none) ⟨fun _ => .any, fun _ => none⟩ true []
theorem lit_wf {k : IntKind} {n : Int} (h : (Lit.int k n).wf = true) : inR k n := by
  simp only [Lit.wf, Bool.and_eq_true, decide_eq_true_eq] at h
  exact h
theorem slice_has {t e : TypeId} (ht : P.underlying t = some (.slice e)) {base : Nat} {a : Addr} {n c : Nat} (hval : Value.okWide P W .any base t (.slice (some a) n c)) : a.spot = none ∧ a.block < W.heap.size := by
  have h : W.has P .any base a e c := by
    simp only [Value.okWide, ht, Cell.okWide, Cell.ok] at hval
    exact hval.2.2
  refine ⟨h.2.1, ?_⟩
  obtain ⟨row, cells, h3, _⟩ := h.2.2
  simp only [World.shape?] at h3
  split at h3
  · rename_i hh; exact heap_lt hh
  · cases h3
theorem slice_is {t e : TypeId} (ht : P.underlying t = some (.slice e)) {base : Nat} {v : Value} (hval : Value.okWide P W .any base t v) : ∃ ad n c, v = .slice ad n c := by
  simp only [Value.okWide, ht, Cell.okWide, Cell.ok] at hval
  cases v <;> simp_all
end
end Go.Cx
/- CxbPu -/
namespace Go.Cx.Rb
open Go Go.Cx Go.Proofs
/-- the functions that write to no object of the caller's; the slices that are handed over as they are, or to be written -/
def pu (f : Nat) : Bool := f != 24 && f != 96 && f != 97 && f != 98 && f != 127 && f != 143 && f != 100 && f != 101 && f != 102 && f != 103 && f != 137 && f != 138 && f != 155 && f != 156 && f != 148 && f != 2004300 && f != 2006100 && f != 2007100 && f != 2007200 && f != 2011700 && f != 2005001 && f != 2005200 && f != 1015600
end Go.Cx.Rb
/- CxbCodeM -/
namespace Go.Cx.Rb
open Go Go.Cx Go.Proofs
/-- the tree's methods,and the slots of rows that own what their elements are -/
def puM (f : Nat) : Bool := pu f && f != 23 && f != 26 && f != 27 && f != 28 && f != 77 && f != 235000018 && f != 235000053 && f != 235000054 && f != 236000026 && f != 245000018 && f != 255000021 && f != 255000041 && f != 255000051 && f != 275000010 && f != 285000019 && f != 295000032
def ic3 : IFn := ⟨3,92,[.t 6],
  (.seq (.reg [2,0,26,1,9,8,47,10,7,5,57,12,14,6] [⟨some 5,none,.box (.t 2)⟩,⟨some 6,none,.mv (.c .ff)⟩])
  (.seq (.seq (.reg [2,0,26,1,9,8,47,10,7,5,57,12,14,6] [⟨some 15,none,.call 21 true []⟩,⟨some 16,none,.not (.t 15)⟩,⟨some 17,none,.mv (.t 16)⟩,⟨some 18,some (17,false),.mv (.t 0)⟩,⟨some 19,some (17,false),.lenS (.t 18)⟩,⟨some 20,some (17,false),.cmp .lss (.t 19) (.c (.lit .i64 1))⟩,⟨some 21,none,.pick (.t 17) (.c .tt) (.t 20)⟩,⟨some 22,none,.mv (.t 21)⟩,⟨some 23,some (22,false),.mv (.t 0)⟩,⟨some 24,some (22,false),.lenS (.t 23)⟩,⟨some 25,some (22,false),.cmp .gtr (.t 24) (.c (.lit .i64 256))⟩,⟨some 26,none,.pick (.t 22) (.c .tt) (.t 25)⟩])
  (.cond (.t 26)
    (.seq (.reg [2,0,26,1,9,8,47,10,7,5,57,12,14,6] [⟨some 27,none,.call 21 true []⟩,⟨some 6,none,.mv (.t 27)⟩])
    .ret)
    .skip))
  (.seq (.reg [2,0,26,1,9,8,47,10,7,5,57,12,14,6] [⟨some 28,none,.mv (.t 1)⟩,⟨some 29,none,.cv .u64 (.t 28)⟩,⟨some 30,none,.mv (.t 0)⟩,⟨some 31,none,.lenS (.t 30)⟩,⟨some 32,none,.cv .u64 (.t 31)⟩,⟨some 33,none,.ar .rem .u64 (.t 29) (.t 32)⟩,⟨some 34,none,.cv .i64 (.t 33)⟩,⟨some 7,none,.mv (.t 34)⟩])
  (.seq (.reg [2,0,26,1,9,8,47,10,7,5,57,12,14,6] [⟨some 36,none,.bsl (.o 32 (.ints .u8 32)) 0 []⟩,⟨some 37,none,.mv (.t 0)⟩,⟨some 38,none,.app0 (.o 32 (.ints .u8 32)) 32 (.t 36) (.t 37)⟩,⟨some 39,none,.call 22 true [((.t 38),.b (.o 32 (.ints .u8 32)))]⟩,⟨some 35,none,.mv (.t 39)⟩,⟨some 40,none,.ext 0 (.t 35)⟩,⟨some 41,none,.ext 1 (.t 35)⟩,⟨some 8,none,.mv (.t 40)⟩,⟨some 9,none,.mv (.t 41)⟩])
  (.seq (.seq (.reg [2,0,26,1,9,8,47,10,7,5,57,12,14,6] [⟨some 42,none,.mv (.t 9)⟩,⟨some 43,none,.cmp .neq (.t 42) (.c (.lit .i64 0))⟩,⟨some 44,none,.mv (.t 43)⟩,⟨some 45,some (44,false),.mv (.t 8)⟩,⟨some 46,some (44,false),.eq .p false (.t 45) (.c .nilp)⟩,⟨some 47,none,.pick (.t 44) (.c .tt) (.t 46)⟩])
  (.cond (.t 47)
    (.seq (.reg [2,0,26,1,9,8,47,10,7,5,57,12,14,6] [⟨some 6,none,.mv (.c .ff)⟩])
    .ret)
    .skip))
  (.seq (.reg [2,0,26,1,9,8,47,10,7,5,57,12,14,6] [⟨some 49,none,.mv (.t 8)⟩,⟨some 50,none,.call 23 false [((.t 49),.v)]⟩,⟨some 48,none,.mv (.t 50)⟩,⟨some 51,none,.ext 0 (.t 48)⟩,⟨some 52,none,.ext 1 (.t 48)⟩,⟨some 10,none,.alloc (.ints .u8 32)⟩,⟨none,none,.st 32 (.t 10) (.t 51)⟩,⟨some 11,none,.mv (.t 52)⟩])
  (.seq (.seq (.reg [2,0,26,1,9,8,47,10,7,5,57,12,14,6] [⟨some 53,none,.mv (.t 8)⟩,⟨some 54,none,.mv (.t 7)⟩,⟨some 55,none,.ld 32 true (.t 5)⟩,⟨some 56,none,.call 24 false [((.t 53),.v),((.t 54),.v),((.t 55),.v)]⟩,⟨some 57,none,.cmp .neq (.t 56) (.c (.lit .i64 0))⟩])
  (.cond (.t 57)
    (.seq (.reg [2,0,26,1,9,8,47,10,7,5,57,12,14,6] [⟨some 6,none,.mv (.c .ff)⟩])
    .ret)
    .skip))
  (.seq (.reg [2,0,26,1,9,8,47,10,7,5,57,12,14,6] [⟨some 59,none,.mv (.t 8)⟩,⟨some 60,none,.call 23 false [((.t 59),.v)]⟩,⟨some 58,none,.mv (.t 60)⟩,⟨some 61,none,.ext 0 (.t 58)⟩,⟨some 62,none,.ext 1 (.t 58)⟩,⟨some 12,none,.alloc (.ints .u8 32)⟩,⟨none,none,.st 32 (.t 12) (.t 61)⟩,⟨some 13,none,.mv (.t 62)⟩])
  (.seq (.reg [2,0,26,1,9,8,47,10,7,5,57,12,14,6] [⟨some 63,none,.bsl (.o 32 (.ints .u8 32)) 0 []⟩,⟨some 64,none,.mv (.t 0)⟩,⟨some 65,none,.app0 (.o 32 (.ints .u8 32)) 32 (.t 63) (.t 64)⟩,⟨some 14,none,.mv (.t 65)⟩])
  (.seq (.reg [2,0,26,1,9,8,47,10,7,5,57,12,14,6] [⟨some 66,none,.mv (.t 14)⟩,⟨some 67,none,.mv (.t 7)⟩,⟨some 68,none,.ld 32 true (.t 5)⟩,⟨some 69,none,.iaS 32 (.t 66) (.t 67)⟩,⟨none,none,.st 32 (.t 69) (.t 68)⟩])
  (.seq (.dreg [2,0,26,1,9,8,47,10,7,5,57,12,14,6] [⟨⟨some 70,none,.ld 32 true (.t 10)⟩,[74,10074,20074,30074,40074,50074,60074,70074,80074,90074,76,10076,20076,30076,40076,50076,60076,70076,80076,90076],[],none⟩,⟨⟨some 71,none,.ld 32 true (.t 12)⟩,[74,10074,20074,30074,40074,50074,60074,70074,80074,90074,76,10076,20076,30076,40076,50076,60076,70076,80076,90076],[],none⟩,⟨⟨some 72,none,.eq (.a .u8 32) false (.t 70) (.t 71)⟩,[74,10074,20074,30074,40074,50074,60074,70074,80074,90074,76,10076,20076,30076,40076,50076,60076,70076,80076,90076],[],none⟩,⟨⟨some 73,none,.mv (.t 0)⟩,[],[],none⟩,⟨⟨some 74,none,.call 25 true [((.t 73),.b (.o 32 (.ints .u8 32)))]⟩,[],[],none⟩,⟨⟨some 75,none,.mv (.t 14)⟩,[74,10074,20074,30074,40074,50074,60074,70074,80074,90074],[],none⟩,⟨⟨some 76,none,.call 25 true [((.t 75),.b (.o 32 (.ints .u8 32)))]⟩,[],[],none⟩,⟨⟨some 77,none,.eq (.a .u8 32) false (.t 74) (.t 76)⟩,[],[],none⟩,⟨⟨some 78,none,.eq .b false (.t 72) (.t 77)⟩,[],[],none⟩,⟨⟨some 79,none,.mv (.t 78)⟩,[],[],none⟩,⟨⟨some 80,some (79,true),.ld 32 true (.t 5)⟩,[],[],none⟩,⟨⟨some 81,some (79,true),.mv (.t 0)⟩,[],[],none⟩,⟨⟨some 82,some (79,true),.mv (.t 7)⟩,[],[],none⟩,⟨⟨some 83,some (79,true),.iaS 32 (.t 81) (.t 82)⟩,[],[],none⟩,⟨⟨some 84,some (79,true),.ld 32 true (.t 83)⟩,[],[],none⟩,⟨⟨some 85,some (79,true),.eq (.a .u8 32) true (.t 80) (.t 84)⟩,[],[],none⟩,⟨⟨some 86,some (79,true),.mv (.t 85)⟩,[],[],none⟩,⟨⟨some 87,some (86,false),.ld 32 true (.t 10)⟩,[],[],none⟩,⟨⟨some 88,some (86,false),.ld 32 true (.t 12)⟩,[],[],none⟩,⟨⟨some 89,some (86,false),.eq (.a .u8 32) false (.t 87) (.t 88)⟩,[],[],none⟩,⟨⟨some 90,some (79,true),.pick (.t 86) (.c .tt) (.t 89)⟩,[],[],none⟩,⟨⟨some 91,none,.pick (.t 79) (.t 90) (.c .ff)⟩,[],[],none⟩,⟨⟨some 6,none,.mv (.t 91)⟩,[],[],none⟩])
  .ret)))))))))))⟩
def ic4 : IFn := ⟨1,134,[.t 2],
  (.seq (.reg [0,25,4,6,8,3,5,7,69,72,71,73,9,10,97,11,12,13,2] [⟨some 2,none,.mv (.c .ff)⟩])
  (.seq (.seq (.reg [0,25,4,6,8,3,5,7,69,72,71,73,9,10,97,11,12,13,2] [⟨some 14,none,.call 21 true []⟩,⟨some 15,none,.not (.t 14)⟩,⟨some 16,none,.mv (.t 15)⟩,⟨some 17,some (16,false),.mv (.t 0)⟩,⟨some 18,some (16,false),.lenS (.t 17)⟩,⟨some 19,some (16,false),.cmp .lss (.t 18) (.c (.lit .i64 1))⟩,⟨some 20,none,.pick (.t 16) (.c .tt) (.t 19)⟩,⟨some 21,none,.mv (.t 20)⟩,⟨some 22,some (21,false),.mv (.t 0)⟩,⟨some 23,some (21,false),.lenS (.t 22)⟩,⟨some 24,some (21,false),.cmp .gtr (.t 23) (.c (.lit .i64 256))⟩,⟨some 25,none,.pick (.t 21) (.c .tt) (.t 24)⟩])
  (.cond (.t 25)
    (.seq (.reg [0,25,4,6,8,3,5,7,69,72,71,73,9,10,97,11,12,13,2] [⟨some 26,none,.call 21 true []⟩,⟨some 2,none,.mv (.t 26)⟩])
    .ret)
    .skip))
  (.seq (.reg [0,25,4,6,8,3,5,7,69,72,71,73,9,10,97,11,12,13,2] [⟨some 28,none,.mv (.t 0)⟩,⟨some 29,none,.lenS (.t 28)⟩,⟨some 30,none,.mks (.o 32 (.ints .u8 32)) 32 (.t 29)⟩,⟨some 31,none,.call 22 true [((.t 30),.b (.o 32 (.ints .u8 32)))]⟩,⟨some 27,none,.mv (.t 31)⟩,⟨some 32,none,.ext 0 (.t 27)⟩,⟨some 33,none,.ext 1 (.t 27)⟩,⟨some 3,none,.mv (.t 32)⟩,⟨some 4,none,.mv (.t 33)⟩])
  (.seq (.reg [0,25,4,6,8,3,5,7,69,72,71,73,9,10,97,11,12,13,2] [⟨some 35,none,.mv (.t 0)⟩,⟨some 36,none,.lenS (.t 35)⟩,⟨some 37,none,.mks (.o 32 (.ints .u8 32)) 32 (.t 36)⟩,⟨some 38,none,.call 22 true [((.t 37),.b (.o 32 (.ints .u8 32)))]⟩,⟨some 34,none,.mv (.t 38)⟩,⟨some 39,none,.ext 0 (.t 34)⟩,⟨some 40,none,.ext 1 (.t 34)⟩,⟨some 5,none,.mv (.t 39)⟩,⟨some 6,none,.mv (.t 40)⟩])
  (.seq (.reg [0,25,4,6,8,3,5,7,69,72,71,73,9,10,97,11,12,13,2] [⟨some 42,none,.bsl (.o 32 (.ints .u8 32)) 0 []⟩,⟨some 43,none,.mv (.t 0)⟩,⟨some 44,none,.app0 (.o 32 (.ints .u8 32)) 32 (.t 42) (.t 43)⟩,⟨some 45,none,.call 22 true [((.t 44),.b (.o 32 (.ints .u8 32)))]⟩,⟨some 41,none,.mv (.t 45)⟩,⟨some 46,none,.ext 0 (.t 41)⟩,⟨some 47,none,.ext 1 (.t 41)⟩,⟨some 7,none,.mv (.t 46)⟩,⟨some 8,none,.mv (.t 47)⟩])
  (.seq (.seq (.reg [0,25,4,6,8,3,5,7,69,72,71,73,9,10,97,11,12,13,2] [⟨some 48,none,.mv (.t 4)⟩,⟨some 49,none,.cmp .neq (.t 48) (.c (.lit .i64 0))⟩,⟨some 50,none,.mv (.t 49)⟩,⟨some 51,some (50,false),.mv (.t 6)⟩,⟨some 52,some (50,false),.cmp .neq (.t 51) (.c (.lit .i64 0))⟩,⟨some 53,none,.pick (.t 50) (.c .tt) (.t 52)⟩,⟨some 54,none,.mv (.t 53)⟩,⟨some 55,some (54,false),.mv (.t 8)⟩,⟨some 56,some (54,false),.cmp .neq (.t 55) (.c (.lit .i64 0))⟩,⟨some 57,none,.pick (.t 54) (.c .tt) (.t 56)⟩,⟨some 58,none,.mv (.t 57)⟩,⟨some 59,some (58,false),.mv (.t 3)⟩,⟨some 60,some (58,false),.eq .p false (.t 59) (.c .nilp)⟩,⟨some 61,none,.pick (.t 58) (.c .tt) (.t 60)⟩,⟨some 62,none,.mv (.t 61)⟩,⟨some 63,some (62,false),.mv (.t 5)⟩,⟨some 64,some (62,false),.eq .p false (.t 63) (.c .nilp)⟩,⟨some 65,none,.pick (.t 62) (.c .tt) (.t 64)⟩,⟨some 66,none,.mv (.t 65)⟩,⟨some 67,some (66,false),.mv (.t 7)⟩,⟨some 68,some (66,false),.eq .p false (.t 67) (.c .nilp)⟩,⟨some 69,none,.pick (.t 66) (.c .tt) (.t 68)⟩])
  (.cond (.t 69)
    (.seq (.reg [0,25,4,6,8,3,5,7,69,72,71,73,9,10,97,11,12,13,2] [⟨some 2,none,.mv (.c .ff)⟩])
    .ret)
    .skip))
  (.seq (.seq (.reg [0,25,4,6,8,3,5,7,69,72,71,73,9,10,97,11,12,13,2] [⟨some 70,none,.mv (.t 0)⟩,⟨some 71,none,.lenS (.t 70)⟩,⟨some 72,none,.mv (.c (.lit .i64 0))⟩])
  (.block 0 (.loop 0 (.seq (.reg [0,25,4,6,8,3,5,7,69,72,71,73,9,10,97,11,12,13,2] [⟨some 73,none,.cmp .lss (.t 72) (.t 71)⟩])
   (.seq (.cond (.t 73)
     .skip
     (.exit 0))
   (.seq (.block 1 (.seq (.reg [0,25,4,6,8,3,5,7,69,72,71,73,9,10,97,11,12,13,2] [⟨some 74,none,.mv (.t 72)⟩,⟨some 9,none,.mv (.t 74)⟩])
   (.seq (.reg [0,25,4,6,8,3,5,7,69,72,71,73,9,10,97,11,12,13,2] [⟨some 75,none,.mv (.t 0)⟩,⟨some 76,none,.lenS (.t 75)⟩,⟨some 77,none,.ar .sub .i64 (.t 76) (.c (.lit .i64 1))⟩,⟨some 78,none,.mv (.t 9)⟩,⟨some 79,none,.ar .sub .i64 (.t 77) (.t 78)⟩,⟨some 10,none,.mv (.t 79)⟩])
   (.seq (.reg [0,25,4,6,8,3,5,7,69,72,71,73,9,10,97,11,12,13,2] [⟨some 80,none,.mv (.t 3)⟩,⟨some 81,none,.mv (.t 9)⟩,⟨some 82,none,.mv (.t 0)⟩,⟨some 83,none,.mv (.t 9)⟩,⟨some 84,none,.iaS 32 (.t 82) (.t 83)⟩,⟨some 85,none,.ld 32 true (.t 84)⟩,⟨some 86,none,.call 24 false [((.t 80),.v),((.t 81),.v),((.t 85),.v)]⟩,⟨some 87,none,.cmp .neq (.t 86) (.c (.lit .i64 0))⟩,⟨some 88,none,.mv (.t 87)⟩,⟨some 89,some (88,false),.mv (.t 5)⟩,⟨some 90,some (88,false),.mv (.t 10)⟩,⟨some 91,some (88,false),.mv (.t 0)⟩,⟨some 92,some (88,false),.mv (.t 10)⟩,⟨some 93,some (88,false),.iaS 32 (.t 91) (.t 92)⟩,⟨some 94,some (88,false),.ld 32 true (.t 93)⟩,⟨some 95,some (88,false),.call 24 false [((.t 89),.v),((.t 90),.v),((.t 94),.v)]⟩,⟨some 96,some (88,false),.cmp .neq (.t 95) (.c (.lit .i64 0))⟩,⟨some 97,none,.pick (.t 88) (.c .tt) (.t 96)⟩])
   (.cond (.t 97)
     (.seq (.reg [0,25,4,6,8,3,5,7,69,72,71,73,9,10,97,11,12,13,2] [⟨some 2,none,.mv (.c .ff)⟩])
     .ret)
     .skip)))))
   (.reg [0,25,4,6,8,3,5,7,69,72,71,73,9,10,97,11,12,13,2] [⟨some 98,none,.ar .add .i64 (.t 72) (.c (.lit .i64 1))⟩,⟨some 72,none,.mv (.t 98)⟩])))))))
  (.seq (.reg [0,25,4,6,8,3,5,7,69,72,71,73,9,10,97,11,12,13,2] [⟨some 100,none,.mv (.t 3)⟩,⟨some 101,none,.call 23 false [((.t 100),.v)]⟩,⟨some 99,none,.mv (.t 101)⟩,⟨some 102,none,.ext 0 (.t 99)⟩,⟨some 103,none,.ext 1 (.t 99)⟩,⟨some 11,none,.alloc (.ints .u8 32)⟩,⟨none,none,.st 32 (.t 11) (.t 102)⟩,⟨some 4,none,.mv (.t 103)⟩])
  (.seq (.reg [0,25,4,6,8,3,5,7,69,72,71,73,9,10,97,11,12,13,2] [⟨some 105,none,.mv (.t 5)⟩,⟨some 106,none,.call 23 false [((.t 105),.v)]⟩,⟨some 104,none,.mv (.t 106)⟩,⟨some 107,none,.ext 0 (.t 104)⟩,⟨some 108,none,.ext 1 (.t 104)⟩,⟨some 12,none,.alloc (.ints .u8 32)⟩,⟨none,none,.st 32 (.t 12) (.t 107)⟩,⟨some 6,none,.mv (.t 108)⟩])
  (.seq (.reg [0,25,4,6,8,3,5,7,69,72,71,73,9,10,97,11,12,13,2] [⟨some 110,none,.mv (.t 7)⟩,⟨some 111,none,.call 23 false [((.t 110),.v)]⟩,⟨some 109,none,.mv (.t 111)⟩,⟨some 112,none,.ext 0 (.t 109)⟩,⟨some 113,none,.ext 1 (.t 109)⟩,⟨some 13,none,.alloc (.ints .u8 32)⟩,⟨none,none,.st 32 (.t 13) (.t 112)⟩,⟨some 8,none,.mv (.t 113)⟩])
  (.seq (.reg [0,25,4,6,8,3,5,7,69,72,71,73,9,10,97,11,12,13,2] [⟨some 114,none,.mv (.t 4)⟩,⟨some 115,none,.cmp .eql (.t 114) (.c (.lit .i64 0))⟩,⟨some 116,none,.mv (.t 115)⟩,⟨some 117,some (116,true),.mv (.t 6)⟩,⟨some 118,some (116,true),.cmp .eql (.t 117) (.c (.lit .i64 0))⟩,⟨some 119,none,.pick (.t 116) (.t 118) (.c .ff)⟩,⟨some 120,none,.mv (.t 119)⟩,⟨some 121,some (120,true),.mv (.t 8)⟩,⟨some 122,some (120,true),.cmp .eql (.t 121) (.c (.lit .i64 0))⟩,⟨some 123,none,.pick (.t 120) (.t 122) (.c .ff)⟩,⟨some 124,none,.mv (.t 123)⟩,⟨some 125,some (124,true),.ld 32 true (.t 11)⟩,⟨some 126,some (124,true),.ld 32 true (.t 13)⟩,⟨some 127,some (124,true),.eq (.a .u8 32) false (.t 125) (.t 126)⟩,⟨some 128,none,.pick (.t 124) (.t 127) (.c .ff)⟩,⟨some 129,none,.mv (.t 128)⟩,⟨some 130,some (129,true),.ld 32 true (.t 12)⟩,⟨some 131,some (129,true),.ld 32 true (.t 13)⟩,⟨some 132,some (129,true),.eq (.a .u8 32) false (.t 130) (.t 131)⟩,⟨some 133,none,.pick (.t 129) (.t 132) (.c .ff)⟩,⟨some 2,none,.mv (.t 133)⟩])
  .ret)))))))))))⟩
def ic5 : IFn := ⟨2,197,[.t 4],
  (.seq (.reg [0,5,29,37,6,7,56,59,58,60,8,10,1,77,11,12,9,92,96,13,15,14,132,16,17,18,152,180,183,182,184,19,4] [⟨some 4,none,.mv (.c .ff)⟩])
  (.seq (.reg [0,5,29,37,6,7,56,59,58,60,8,10,1,77,11,12,9,92,96,13,15,14,132,16,17,18,152,180,183,182,184,19,4] [⟨some 20,none,.bsl (.o 32 (.ints .u8 32)) 0 []⟩,⟨some 21,none,.mv (.t 0)⟩,⟨some 22,none,.app0 (.o 32 (.ints .u8 32)) 32 (.t 20) (.t 21)⟩,⟨some 5,none,.mv (.t 22)⟩])
  (.seq (.reg [0,5,29,37,6,7,56,59,58,60,8,10,1,77,11,12,9,92,96,13,15,14,132,16,17,18,152,180,183,182,184,19,4] [⟨some 24,none,.mv (.t 5)⟩,⟨some 25,none,.call 22 true [((.t 24),.b (.o 32 (.ints .u8 32)))]⟩,⟨some 23,none,.mv (.t 25)⟩,⟨some 26,none,.ext 0 (.t 23)⟩,⟨some 27,none,.ext 1 (.t 23)⟩,⟨some 6,none,.mv (.t 26)⟩,⟨some 7,none,.mv (.t 27)⟩])
  (.seq (.seq (.reg [0,5,29,37,6,7,56,59,58,60,8,10,1,77,11,12,9,92,96,13,15,14,132,16,17,18,152,180,183,182,184,19,4] [⟨some 28,none,.call 21 true []⟩,⟨some 29,none,.not (.t 28)⟩])
  (.cond (.t 29)
    (.seq (.reg [0,5,29,37,6,7,56,59,58,60,8,10,1,77,11,12,9,92,96,13,15,14,132,16,17,18,152,180,183,182,184,19,4] [⟨some 4,none,.mv (.c .ff)⟩])
    .ret)
    .skip))
  (.seq (.seq (.reg [0,5,29,37,6,7,56,59,58,60,8,10,1,77,11,12,9,92,96,13,15,14,132,16,17,18,152,180,183,182,184,19,4] [⟨some 30,none,.mv (.t 0)⟩,⟨some 31,none,.lenS (.t 30)⟩,⟨some 32,none,.cmp .lss (.t 31) (.c (.lit .i64 1))⟩,⟨some 33,none,.mv (.t 32)⟩,⟨some 34,some (33,false),.mv (.t 0)⟩,⟨some 35,some (33,false),.lenS (.t 34)⟩,⟨some 36,some (33,false),.cmp .gtr (.t 35) (.c (.lit .i64 256))⟩,⟨some 37,none,.pick (.t 33) (.c .tt) (.t 36)⟩])
  (.cond (.t 37)
    (.seq (.reg [0,5,29,37,6,7,56,59,58,60,8,10,1,77,11,12,9,92,96,13,15,14,132,16,17,18,152,180,183,182,184,19,4] [⟨some 38,none,.mv (.t 6)⟩,⟨some 39,none,.eq .p false (.t 38) (.c .nilp)⟩,⟨some 40,none,.mv (.t 39)⟩,⟨some 41,some (40,true),.mv (.t 7)⟩,⟨some 42,some (40,true),.cmp .eql (.t 41) (.c (.lit .i64 2))⟩,⟨some 43,none,.pick (.t 40) (.t 42) (.c .ff)⟩,⟨some 4,none,.mv (.t 43)⟩])
    .ret)
    .skip))
  (.seq (.seq (.reg [0,5,29,37,6,7,56,59,58,60,8,10,1,77,11,12,9,92,96,13,15,14,132,16,17,18,152,180,183,182,184,19,4] [⟨some 44,none,.mv (.t 6)⟩,⟨some 45,none,.eq .p false (.t 44) (.c .nilp)⟩,⟨some 46,none,.mv (.t 45)⟩,⟨some 47,some (46,false),.mv (.t 7)⟩,⟨some 48,some (46,false),.cmp .neq (.t 47) (.c (.lit .i64 0))⟩,⟨some 49,none,.pick (.t 46) (.c .tt) (.t 48)⟩,⟨some 50,none,.mv (.t 49)⟩,⟨some 51,some (50,false),.mv (.t 6)⟩,⟨some 52,some (50,false),.call 26 false [((.t 51),.v)]⟩,⟨some 53,some (50,false),.mv (.t 0)⟩,⟨some 54,some (50,false),.lenS (.t 53)⟩,⟨some 55,some (50,false),.cmp .neq (.t 52) (.t 54)⟩,⟨some 56,none,.pick (.t 50) (.c .tt) (.t 55)⟩])
  (.cond (.t 56)
    (.seq (.reg [0,5,29,37,6,7,56,59,58,60,8,10,1,77,11,12,9,92,96,13,15,14,132,16,17,18,152,180,183,182,184,19,4] [⟨some 4,none,.mv (.c .ff)⟩])
    .ret)
    .skip))
  (.seq (.seq (.reg [0,5,29,37,6,7,56,59,58,60,8,10,1,77,11,12,9,92,96,13,15,14,132,16,17,18,152,180,183,182,184,19,4] [⟨some 57,none,.mv (.t 5)⟩,⟨some 58,none,.lenS (.t 57)⟩,⟨some 59,none,.mv (.c (.lit .i64 0))⟩])
  (.block 0 (.loop 0 (.seq (.reg [0,5,29,37,6,7,56,59,58,60,8,10,1,77,11,12,9,92,96,13,15,14,132,16,17,18,152,180,183,182,184,19,4] [⟨some 60,none,.cmp .lss (.t 59) (.t 58)⟩])
   (.seq (.cond (.t 60)
     .skip
     (.exit 0))
   (.seq (.block 1 (.seq (.reg [0,5,29,37,6,7,56,59,58,60,8,10,1,77,11,12,9,92,96,13,15,14,132,16,17,18,152,180,183,182,184,19,4] [⟨some 61,none,.mv (.t 59)⟩,⟨some 8,none,.mv (.t 61)⟩])
   (.reg [0,5,29,37,6,7,56,59,58,60,8,10,1,77,11,12,9,92,96,13,15,14,132,16,17,18,152,180,183,182,184,19,4] [⟨some 62,none,.mv (.t 5)⟩,⟨some 63,none,.mv (.t 8)⟩,⟨some 64,none,.bldA (.i .u8) 32 [(0,(.c (.lit .u8 238)))]⟩,⟨some 65,none,.iaS 32 (.t 62) (.t 63)⟩,⟨none,none,.st 32 (.t 65) (.t 64)⟩])))
   (.reg [0,5,29,37,6,7,56,59,58,60,8,10,1,77,11,12,9,92,96,13,15,14,132,16,17,18,152,180,183,182,184,19,4] [⟨some 66,none,.ar .add .i64 (.t 59) (.c (.lit .i64 1))⟩,⟨some 59,none,.mv (.t 66)⟩])))))))
  (.seq (.reg [0,5,29,37,6,7,56,59,58,60,8,10,1,77,11,12,9,92,96,13,15,14,132,16,17,18,152,180,183,182,184,19,4] [⟨some 67,none,.bsl (.o 32 (.ints .u8 32)) 0 []⟩,⟨some 68,none,.mv (.t 0)⟩,⟨some 69,none,.app0 (.o 32 (.ints .u8 32)) 32 (.t 67) (.t 68)⟩,⟨some 9,none,.mv (.t 69)⟩])
  (.seq (.seq (.reg [0,5,29,37,6,7,56,59,58,60,8,10,1,77,11,12,9,92,96,13,15,14,132,16,17,18,152,180,183,182,184,19,4] [⟨some 10,none,.mv (.c (.lit .i64 0))⟩])
  (.block 2 (.loop 1 (.seq (.seq (.reg [0,5,29,37,6,7,56,59,58,60,8,10,1,77,11,12,9,92,96,13,15,14,132,16,17,18,152,180,183,182,184,19,4] [⟨some 70,none,.mv (.t 10)⟩,⟨some 71,none,.mv (.t 1)⟩,⟨some 72,none,.lenS (.t 71)⟩,⟨some 73,none,.cmp .leq (.t 70) (.t 72)⟩,⟨some 74,none,.mv (.t 73)⟩,⟨some 75,some (74,true),.mv (.t 10)⟩,⟨some 76,some (74,true),.cmp .leq (.t 75) (.c (.lit .i64 30))⟩,⟨some 77,none,.pick (.t 74) (.t 76) (.c .ff)⟩])
   (.cond (.t 77)
     .skip
     (.exit 2)))
   (.seq (.block 3 (.seq (.reg [0,5,29,37,6,7,56,59,58,60,8,10,1,77,11,12,9,92,96,13,15,14,132,16,17,18,152,180,183,182,184,19,4] [⟨some 81,none,.mv (.t 6)⟩,⟨some 82,none,.call 23 false [((.t 81),.v)]⟩,⟨some 80,none,.mv (.t 82)⟩,⟨some 83,none,.ext 0 (.t 80)⟩,⟨some 84,none,.ext 1 (.t 80)⟩,⟨some 11,none,.alloc (.ints .u8 32)⟩,⟨none,none,.st 32 (.t 11) (.t 83)⟩,⟨some 12,none,.mv (.t 84)⟩])
   (.seq (.seq (.dreg [0,5,29,37,6,7,56,59,58,60,8,10,1,77,11,12,9,92,96,13,15,14,132,16,17,18,152,180,183,182,184,19,4] [⟨⟨some 85,none,.mv (.t 12)⟩,[],[],none⟩,⟨⟨some 86,none,.cmp .neq (.t 85) (.c (.lit .i64 0))⟩,[],[],none⟩,⟨⟨some 87,none,.mv (.t 86)⟩,[],[],none⟩,⟨⟨some 88,some (87,false),.ld 32 true (.t 11)⟩,[90,10090,20090,30090,40090,50090,60090,70090,80090,90090],[],none⟩,⟨⟨some 89,some (87,false),.mv (.t 9)⟩,[],[],none⟩,⟨⟨some 90,some (87,false),.call 25 true [((.t 89),.b (.o 32 (.ints .u8 32)))]⟩,[],[],none⟩,⟨⟨some 91,some (87,false),.eq (.a .u8 32) true (.t 88) (.t 90)⟩,[],[],none⟩,⟨⟨some 92,none,.pick (.t 87) (.c .tt) (.t 91)⟩,[],[],none⟩])
   (.cond (.t 92)
     (.seq (.reg [0,5,29,37,6,7,56,59,58,60,8,10,1,77,11,12,9,92,96,13,15,14,132,16,17,18,152,180,183,182,184,19,4] [⟨some 4,none,.mv (.c .ff)⟩])
     .ret)
     .skip))
   (.seq (.seq (.reg [0,5,29,37,6,7,56,59,58,60,8,10,1,77,11,12,9,92,96,13,15,14,132,16,17,18,152,180,183,182,184,19,4] [⟨some 93,none,.mv (.t 10)⟩,⟨some 94,none,.mv (.t 1)⟩,⟨some 95,none,.lenS (.t 94)⟩,⟨some 96,none,.cmp .eql (.t 93) (.t 95)⟩])
   (.cond (.t 96)
     (.exit 2)
     .skip))
   (.seq (.reg [0,5,29,37,6,7,56,59,58,60,8,10,1,77,11,12,9,92,96,13,15,14,132,16,17,18,152,180,183,182,184,19,4] [⟨some 97,none,.mv (.t 1)⟩,⟨some 98,none,.mv (.t 10)⟩,⟨some 99,none,.iaS 33 (.t 97) (.t 98)⟩,⟨some 100,none,.ld 33 true (.t 99)⟩,⟨some 13,none,.alloc (.cat 1 32 (.v (.lit .i64 0)) (.ints .u8 32))⟩,⟨none,none,.st 33 (.t 13) (.t 100)⟩])
   (.seq (.reg [0,5,29,37,6,7,56,59,58,60,8,10,1,77,11,12,9,92,96,13,15,14,132,16,17,18,152,180,183,182,184,19,4] [⟨some 101,none,.fa 0 1 (.t 13)⟩,⟨some 102,none,.ld 1 false (.t 101)⟩,⟨some 103,none,.cmp .geq (.t 102) (.c (.lit .i64 0))⟩,⟨some 104,none,.mv (.t 103)⟩,⟨some 105,some (104,true),.fa 0 1 (.t 13)⟩,⟨some 106,some (104,true),.ld 1 false (.t 105)⟩,⟨some 107,some (104,true),.mv (.t 9)⟩,⟨some 108,some (104,true),.lenS (.t 107)⟩,⟨some 109,some (104,true),.cmp .lss (.t 106) (.t 108)⟩,⟨some 110,none,.pick (.t 104) (.t 109) (.c .ff)⟩,⟨some 14,none,.mv (.t 110)⟩])
   (.seq (.reg [0,5,29,37,6,7,56,59,58,60,8,10,1,77,11,12,9,92,96,13,15,14,132,16,17,18,152,180,183,182,184,19,4] [⟨some 112,none,.mv (.t 6)⟩,⟨some 113,none,.fa 0 1 (.t 13)⟩,⟨some 114,none,.ld 1 false (.t 113)⟩,⟨some 115,none,.call 27 false [((.t 112),.v),((.t 114),.v)]⟩,⟨some 111,none,.mv (.t 115)⟩,⟨some 116,none,.ext 0 (.t 111)⟩,⟨some 117,none,.ext 1 (.t 111)⟩,⟨some 15,none,.alloc (.ints .u8 32)⟩,⟨none,none,.st 32 (.t 15) (.t 116)⟩,⟨some 12,none,.mv (.t 117)⟩])
   (.seq (.reg [0,5,29,37,6,7,56,59,58,60,8,10,1,77,11,12,9,92,96,13,15,14,132,16,17,18,152,180,183,182,184,19,4] [⟨some 119,none,.mv (.t 6)⟩,⟨some 120,none,.fa 0 1 (.t 13)⟩,⟨some 121,none,.ld 1 false (.t 120)⟩,⟨some 122,none,.call 28 false [((.t 119),.v),((.t 121),.v)]⟩,⟨some 118,none,.mv (.t 122)⟩,⟨some 123,none,.ext 0 (.t 118)⟩,⟨some 124,none,.ext 1 (.t 118)⟩,⟨some 16,none,.mv (.t 123)⟩,⟨some 17,none,.mv (.t 124)⟩])
   (.seq (.reg [0,5,29,37,6,7,56,59,58,60,8,10,1,77,11,12,9,92,96,13,15,14,132,16,17,18,152,180,183,182,184,19,4] [⟨some 125,none,.mv (.t 6)⟩,⟨some 126,none,.fa 0 1 (.t 13)⟩,⟨some 127,none,.ld 1 false (.t 126)⟩,⟨some 128,none,.fa 1 32 (.t 13)⟩,⟨some 129,none,.ld 32 true (.t 128)⟩,⟨some 130,none,.call 24 false [((.t 125),.v),((.t 127),.v),((.t 129),.v)]⟩,⟨some 18,none,.mv (.t 130)⟩])
   (.seq (.seq (.reg [0,5,29,37,6,7,56,59,58,60,8,10,1,77,11,12,9,92,96,13,15,14,132,16,17,18,152,180,183,182,184,19,4] [⟨some 131,none,.mv (.t 14)⟩,⟨some 132,none,.not (.t 131)⟩])
   (.cond (.t 132)
     (.seq (.seq (.reg [0,5,29,37,6,7,56,59,58,60,8,10,1,77,11,12,9,92,96,13,15,14,132,16,17,18,152,180,183,182,184,19,4] [⟨some 133,none,.ld 32 true (.t 15)⟩,⟨some 134,none,.bldA (.i .u8) 32 []⟩,⟨some 135,none,.eq (.a .u8 32) true (.t 133) (.t 134)⟩,⟨some 136,none,.mv (.t 135)⟩,⟨some 137,some (136,false),.mv (.t 16)⟩,⟨some 138,some (136,false),.lenS (.t 137)⟩,⟨some 139,some (136,false),.cmp .neq (.t 138) (.c (.lit .i64 0))⟩,⟨some 140,none,.pick (.t 136) (.c .tt) (.t 139)⟩,⟨some 141,none,.mv (.t 140)⟩,⟨some 142,some (141,false),.mv (.t 12)⟩,⟨some 143,some (141,false),.cmp .neq (.t 142) (.c (.lit .i64 2))⟩,⟨some 144,none,.pick (.t 141) (.c .tt) (.t 143)⟩,⟨some 145,none,.mv (.t 144)⟩,⟨some 146,some (145,false),.mv (.t 17)⟩,⟨some 147,some (145,false),.cmp .neq (.t 146) (.c (.lit .i64 2))⟩,⟨some 148,none,.pick (.t 145) (.c .tt) (.t 147)⟩,⟨some 149,none,.mv (.t 148)⟩,⟨some 150,some (149,false),.mv (.t 18)⟩,⟨some 151,some (149,false),.cmp .neq (.t 150) (.c (.lit .i64 2))⟩,⟨some 152,none,.pick (.t 149) (.c .tt) (.t 151)⟩])
     (.cond (.t 152)
       (.seq (.reg [0,5,29,37,6,7,56,59,58,60,8,10,1,77,11,12,9,92,96,13,15,14,132,16,17,18,152,180,183,182,184,19,4] [⟨some 4,none,.mv (.c .ff)⟩])
       .ret)
       .skip))
     (.exit 3))
     .skip))
   (.seq (.seq (.dreg [0,5,29,37,6,7,56,59,58,60,8,10,1,77,11,12,9,92,96,13,15,14,132,16,17,18,152,180,183,182,184,19,4] [⟨⟨some 153,none,.mv (.t 12)⟩,[],[],none⟩,⟨⟨some 154,none,.cmp .neq (.t 153) (.c (.lit .i64 0))⟩,[],[],none⟩,⟨⟨some 155,none,.mv (.t 154)⟩,[],[],none⟩,⟨⟨some 156,some (155,false),.mv (.t 17)⟩,[],[],none⟩,⟨⟨some 157,some (155,false),.cmp .neq (.t 156) (.c (.lit .i64 0))⟩,[],[],none⟩,⟨⟨some 158,none,.pick (.t 155) (.c .tt) (.t 157)⟩,[],[],none⟩,⟨⟨some 159,none,.mv (.t 158)⟩,[],[],none⟩,⟨⟨some 160,some (159,false),.mv (.t 18)⟩,[],[],none⟩,⟨⟨some 161,some (159,false),.cmp .neq (.t 160) (.c (.lit .i64 0))⟩,[],[],none⟩,⟨⟨some 162,none,.pick (.t 159) (.c .tt) (.t 161)⟩,[],[],none⟩,⟨⟨some 163,none,.mv (.t 162)⟩,[],[],none⟩,⟨⟨some 164,some (163,false),.ld 32 true (.t 15)⟩,[],[],none⟩,⟨⟨some 165,some (163,false),.mv (.t 9)⟩,[],[],none⟩,⟨⟨some 166,some (163,false),.fa 0 1 (.t 13)⟩,[],[],none⟩,⟨⟨some 167,some (163,false),.ld 1 false (.t 166)⟩,[],[],none⟩,⟨⟨some 168,some (163,false),.iaS 32 (.t 165) (.t 167)⟩,[],[],none⟩,⟨⟨some 169,some (163,false),.ld 32 true (.t 168)⟩,[],[],none⟩,⟨⟨some 170,some (163,false),.eq (.a .u8 32) true (.t 164) (.t 169)⟩,[],[],none⟩,⟨⟨some 171,none,.pick (.t 163) (.c .tt) (.t 170)⟩,[],[],none⟩,⟨⟨some 172,none,.mv (.t 171)⟩,[],[],none⟩,⟨⟨some 173,some (172,false),.mv (.t 16)⟩,[177,10177,20177,30177,40177,50177,60177,70177,80177,90177],[],none⟩,⟨⟨some 174,some (172,false),.mv (.t 9)⟩,[],[],none⟩,⟨⟨some 175,some (172,false),.fa 0 1 (.t 13)⟩,[],[],none⟩,⟨⟨some 176,some (172,false),.ld 1 false (.t 175)⟩,[],[],none⟩,⟨⟨some 177,some (172,false),.call 30 true [((.t 174),.b (.o 32 (.ints .u8 32))),((.t 176),.v)]⟩,[],[],none⟩,⟨⟨some 178,some (172,false),.call 29 true [((.t 173),.b (.o 32 (.ints .u8 32))),((.t 177),.b (.o 32 (.ints .u8 32)))]⟩,[],[],none⟩,⟨⟨some 179,some (172,false),.not (.t 178)⟩,[],[],none⟩,⟨⟨some 180,none,.pick (.t 172) (.c .tt) (.t 179)⟩,[],[],none⟩])
   (.cond (.t 180)
     (.seq (.reg [0,5,29,37,6,7,56,59,58,60,8,10,1,77,11,12,9,92,96,13,15,14,132,16,17,18,152,180,183,182,184,19,4] [⟨some 4,none,.mv (.c .ff)⟩])
     .ret)
     .skip))
   (.seq (.seq (.reg [0,5,29,37,6,7,56,59,58,60,8,10,1,77,11,12,9,92,96,13,15,14,132,16,17,18,152,180,183,182,184,19,4] [⟨some 181,none,.mv (.t 16)⟩,⟨some 182,none,.lenS (.t 181)⟩,⟨some 183,none,.mv (.c (.lit .i64 0))⟩])
   (.block 4 (.loop 2 (.seq (.reg [0,5,29,37,6,7,56,59,58,60,8,10,1,77,11,12,9,92,96,13,15,14,132,16,17,18,152,180,183,182,184,19,4] [⟨some 184,none,.cmp .lss (.t 183) (.t 182)⟩])
    (.seq (.cond (.t 184)
      .skip
      (.exit 4))
    (.seq (.block 5 (.seq (.reg [0,5,29,37,6,7,56,59,58,60,8,10,1,77,11,12,9,92,96,13,15,14,132,16,17,18,152,180,183,182,184,19,4] [⟨some 185,none,.mv (.t 183)⟩,⟨some 19,none,.mv (.t 185)⟩])
    (.reg [0,5,29,37,6,7,56,59,58,60,8,10,1,77,11,12,9,92,96,13,15,14,132,16,17,18,152,180,183,182,184,19,4] [⟨some 186,none,.mv (.t 16)⟩,⟨some 187,none,.mv (.t 19)⟩,⟨some 188,none,.bldA (.i .u8) 32 [(0,(.c (.lit .u8 221)))]⟩,⟨some 189,none,.iaS 32 (.t 186) (.t 187)⟩,⟨none,none,.st 32 (.t 189) (.t 188)⟩])))
    (.reg [0,5,29,37,6,7,56,59,58,60,8,10,1,77,11,12,9,92,96,13,15,14,132,16,17,18,152,180,183,182,184,19,4] [⟨some 190,none,.ar .add .i64 (.t 183) (.c (.lit .i64 1))⟩,⟨some 183,none,.mv (.t 190)⟩])))))))
   (.reg [0,5,29,37,6,7,56,59,58,60,8,10,1,77,11,12,9,92,96,13,15,14,132,16,17,18,152,180,183,182,184,19,4] [⟨some 191,none,.mv (.t 9)⟩,⟨some 192,none,.fa 0 1 (.t 13)⟩,⟨some 193,none,.ld 1 false (.t 192)⟩,⟨some 194,none,.fa 1 32 (.t 13)⟩,⟨some 195,none,.ld 32 true (.t 194)⟩,⟨some 196,none,.iaS 32 (.t 191) (.t 193)⟩,⟨none,none,.st 32 (.t 196) (.t 195)⟩])))))))))))))
   (.reg [0,5,29,37,6,7,56,59,58,60,8,10,1,77,11,12,9,92,96,13,15,14,132,16,17,18,152,180,183,182,184,19,4] [⟨some 78,none,.mv (.t 10)⟩,⟨some 79,none,.ar .add .i64 (.t 78) (.c (.lit .i64 1))⟩,⟨some 10,none,.mv (.t 79)⟩]))))))
  (.seq (.reg [0,5,29,37,6,7,56,59,58,60,8,10,1,77,11,12,9,92,96,13,15,14,132,16,17,18,152,180,183,182,184,19,4] [⟨some 4,none,.mv (.c .tt)⟩])
  .ret))))))))))⟩
def ic6 : IFn := ⟨2,61,[.t 4],
  (.seq (.reg [5,0,7,9,11,1,4] [⟨some 4,none,.mv (.c .ff)⟩])
  (.seq (.reg [5,0,7,9,11,1,4] [⟨some 5,none,.mv (.c .nilp)⟩])
  (.seq (.reg [5,0,7,9,11,1,4] [⟨some 13,none,.mv (.t 5)⟩,⟨some 14,none,.call 23 false [((.t 13),.v)]⟩,⟨some 12,none,.mv (.t 14)⟩,⟨some 15,none,.ext 0 (.t 12)⟩,⟨some 16,none,.ext 1 (.t 12)⟩,⟨some 6,none,.alloc (.ints .u8 32)⟩,⟨none,none,.st 32 (.t 6) (.t 15)⟩,⟨some 7,none,.mv (.t 16)⟩])
  (.seq (.reg [5,0,7,9,11,1,4] [⟨some 18,none,.mv (.t 5)⟩,⟨some 19,none,.mv (.t 0)⟩,⟨some 20,none,.call 27 false [((.t 18),.v),((.t 19),.v)]⟩,⟨some 17,none,.mv (.t 20)⟩,⟨some 21,none,.ext 0 (.t 17)⟩,⟨some 22,none,.ext 1 (.t 17)⟩,⟨some 8,none,.alloc (.ints .u8 32)⟩,⟨none,none,.st 32 (.t 8) (.t 21)⟩,⟨some 9,none,.mv (.t 22)⟩])
  (.seq (.reg [5,0,7,9,11,1,4] [⟨some 24,none,.mv (.t 5)⟩,⟨some 25,none,.mv (.t 0)⟩,⟨some 26,none,.call 28 false [((.t 24),.v),((.t 25),.v)]⟩,⟨some 23,none,.mv (.t 26)⟩,⟨some 27,none,.ext 0 (.t 23)⟩,⟨some 28,none,.ext 1 (.t 23)⟩,⟨some 10,none,.mv (.t 27)⟩,⟨some 11,none,.mv (.t 28)⟩])
  (.seq (.reg [5,0,7,9,11,1,4] [⟨some 29,none,.call 21 true []⟩,⟨some 30,none,.mv (.t 29)⟩,⟨some 31,some (30,true),.mv (.t 7)⟩,⟨some 32,some (30,true),.cmp .eql (.t 31) (.c (.lit .i64 1))⟩,⟨some 33,none,.pick (.t 30) (.t 32) (.c .ff)⟩,⟨some 34,none,.mv (.t 33)⟩,⟨some 35,some (34,true),.mv (.t 9)⟩,⟨some 36,some (34,true),.cmp .eql (.t 35) (.c (.lit .i64 1))⟩,⟨some 37,none,.pick (.t 34) (.t 36) (.c .ff)⟩,⟨some 38,none,.mv (.t 37)⟩,⟨some 39,some (38,true),.mv (.t 11)⟩,⟨some 40,some (38,true),.cmp .eql (.t 39) (.c (.lit .i64 1))⟩,⟨some 41,none,.pick (.t 38) (.t 40) (.c .ff)⟩,⟨some 42,none,.mv (.t 41)⟩,⟨some 43,some (42,true),.mv (.t 5)⟩,⟨some 44,some (42,true),.mv (.t 0)⟩,⟨some 45,some (42,true),.bldA (.i .u8) 32 []⟩,⟨some 46,some (42,true),.call 24 false [((.t 43),.v),((.t 44),.v),((.t 45),.v)]⟩,⟨some 47,some (42,true),.cmp .eql (.t 46) (.c (.lit .i64 1))⟩,⟨some 48,none,.pick (.t 42) (.t 47) (.c .ff)⟩,⟨some 49,none,.mv (.t 48)⟩,⟨some 50,some (49,true),.mv (.t 5)⟩,⟨some 51,some (49,true),.call 26 false [((.t 50),.v)]⟩,⟨some 52,some (49,true),.cmp .eql (.t 51) (.c (.lit .i64 0))⟩,⟨some 53,none,.pick (.t 49) (.t 52) (.c .ff)⟩,⟨some 54,none,.mv (.t 53)⟩,⟨some 55,some (54,true),.mv (.t 1)⟩,⟨some 56,some (54,true),.call 31 true [((.t 55),.b (.i .u8))]⟩,⟨some 57,some (54,true),.mv (.t 1)⟩,⟨some 58,some (54,true),.call 32 true [((.t 57),.b (.i .u8))]⟩,⟨some 59,some (54,true),.eq (.a .u8 32) false (.t 56) (.t 58)⟩,⟨some 60,none,.pick (.t 54) (.t 59) (.c .ff)⟩,⟨some 4,none,.mv (.t 60)⟩])
  .ret))))))⟩
def ic21 : IFn := ⟨0,53,[.t 0],
  (.seq (.reg [1,2,3,4,26,5,0] [⟨some 0,none,.mv (.c .ff)⟩])
  (.seq (.reg [1,2,3,4,26,5,0] [⟨some 6,none,.bldA (.i .u8) 32 [(0,(.c (.lit .u8 1)))]⟩,⟨some 7,none,.bldA (.i .u8) 32 [(0,(.c (.lit .u8 2)))]⟩,⟨some 1,none,.alloc (.ints .u8 32)⟩,⟨some 2,none,.alloc (.ints .u8 32)⟩,⟨none,none,.st 32 (.t 1) (.t 6)⟩,⟨none,none,.st 32 (.t 2) (.t 7)⟩])
  (.seq (.reg [1,2,3,4,26,5,0] [⟨some 9,none,.ld 32 true (.t 1)⟩,⟨some 10,none,.ld 32 true (.t 2)⟩,⟨some 11,none,.ld 32 true (.t 1)⟩,⟨some 12,none,.bsl (.o 32 (.ints .u8 32)) 3 [(0,(.t 9)),(1,(.t 10)),(2,(.t 11))]⟩,⟨some 13,none,.call 22 true [((.t 12),.b (.o 32 (.ints .u8 32)))]⟩,⟨some 8,none,.mv (.t 13)⟩,⟨some 14,none,.ext 0 (.t 8)⟩,⟨some 15,none,.ext 1 (.t 8)⟩,⟨some 3,none,.mv (.t 14)⟩,⟨some 4,none,.mv (.t 15)⟩])
  (.seq (.seq (.reg [1,2,3,4,26,5,0] [⟨some 16,none,.mv (.t 3)⟩,⟨some 17,none,.eq .p false (.t 16) (.c .nilp)⟩,⟨some 18,none,.mv (.t 17)⟩,⟨some 19,some (18,false),.mv (.t 4)⟩,⟨some 20,some (18,false),.cmp .neq (.t 19) (.c (.lit .i64 0))⟩,⟨some 21,none,.pick (.t 18) (.c .tt) (.t 20)⟩,⟨some 22,none,.mv (.t 21)⟩,⟨some 23,some (22,false),.mv (.t 3)⟩,⟨some 24,some (22,false),.call 26 false [((.t 23),.v)]⟩,⟨some 25,some (22,false),.cmp .neq (.t 24) (.c (.lit .i64 3))⟩,⟨some 26,none,.pick (.t 22) (.c .tt) (.t 25)⟩])
  (.cond (.t 26)
    (.seq (.reg [1,2,3,4,26,5,0] [⟨some 0,none,.mv (.c .ff)⟩])
    .ret)
    .skip))
  (.seq (.reg [1,2,3,4,26,5,0] [⟨some 28,none,.mv (.t 3)⟩,⟨some 29,none,.call 23 false [((.t 28),.v)]⟩,⟨some 27,none,.mv (.t 29)⟩,⟨some 30,none,.ext 0 (.t 27)⟩,⟨some 31,none,.ext 1 (.t 27)⟩,⟨some 5,none,.alloc (.ints .u8 32)⟩,⟨none,none,.st 32 (.t 5) (.t 30)⟩,⟨some 4,none,.mv (.t 31)⟩])
  (.seq (.dreg [1,2,3,4,26,5,0] [⟨⟨some 32,none,.mv (.t 4)⟩,[],[],none⟩,⟨⟨some 33,none,.cmp .eql (.t 32) (.c (.lit .i64 0))⟩,[],[],none⟩,⟨⟨some 34,none,.mv (.t 33)⟩,[],[],none⟩,⟨⟨some 35,some (34,true),.ld 32 true (.t 5)⟩,[39,40,10040,20040,30040,40040,50040,60040,70040,80040,90040],[],none⟩,⟨⟨some 36,some (34,true),.ld 32 true (.t 1)⟩,[],[],none⟩,⟨⟨some 37,some (34,true),.ld 32 true (.t 2)⟩,[],[],none⟩,⟨⟨some 38,some (34,true),.ld 32 true (.t 1)⟩,[],[],none⟩,⟨⟨some 39,some (34,true),.bsl (.o 32 (.ints .u8 32)) 3 [(0,(.t 36)),(1,(.t 37)),(2,(.t 38))]⟩,[],[],none⟩,⟨⟨some 40,some (34,true),.call 25 true [((.t 39),.b (.o 32 (.ints .u8 32)))]⟩,[],[],none⟩,⟨⟨some 41,some (34,true),.eq (.a .u8 32) false (.t 35) (.t 40)⟩,[],[],none⟩,⟨⟨some 42,none,.pick (.t 34) (.t 41) (.c .ff)⟩,[],[],none⟩,⟨⟨some 43,none,.mv (.t 42)⟩,[],[],none⟩,⟨⟨some 44,some (43,true),.ld 32 true (.t 5)⟩,[],[],none⟩,⟨⟨some 45,some (43,true),.ld 32 true (.t 1)⟩,[],[],none⟩,⟨⟨some 46,some (43,true),.eq (.a .u8 32) true (.t 44) (.t 45)⟩,[],[],none⟩,⟨⟨some 47,none,.pick (.t 43) (.t 46) (.c .ff)⟩,[],[],none⟩,⟨⟨some 48,none,.mv (.t 47)⟩,[],[],none⟩,⟨⟨some 49,some (48,true),.call 31 true [((.c .nsl),.b (.i .u8))]⟩,[],[],none⟩,⟨⟨some 50,some (48,true),.call 32 true [((.c .nsl),.b (.i .u8))]⟩,[],[],none⟩,⟨⟨some 51,some (48,true),.eq (.a .u8 32) false (.t 49) (.t 50)⟩,[],[],none⟩,⟨⟨some 52,none,.pick (.t 48) (.t 51) (.c .ff)⟩,[],[],none⟩,⟨⟨some 0,none,.mv (.t 52)⟩,[],[],none⟩])
  .ret))))))⟩
def ic22 : IFn := ⟨1,59,[.t 2,.t 3],
  (.seq (.reg [0,15,4,5,29,6,37,36,38,7,2,3] [⟨some 2,none,.mv (.c .nilp)⟩,⟨some 3,none,.mv (.c (.lit .i64 0))⟩])
  (.seq (.seq (.reg [0,15,4,5,29,6,37,36,38,7,2,3] [⟨some 8,none,.mv (.t 0)⟩,⟨some 9,none,.lenS (.t 8)⟩,⟨some 10,none,.cmp .lss (.t 9) (.c (.lit .i64 1))⟩,⟨some 11,none,.mv (.t 10)⟩,⟨some 12,some (11,false),.mv (.t 0)⟩,⟨some 13,some (11,false),.lenS (.t 12)⟩,⟨some 14,some (11,false),.cmp .gtr (.t 13) (.c (.lit .i64 256))⟩,⟨some 15,none,.pick (.t 11) (.c .tt) (.t 14)⟩])
  (.cond (.t 15)
    (.seq (.reg [0,15,4,5,29,6,37,36,38,7,2,3] [⟨some 2,none,.mv (.c .nilp)⟩,⟨some 3,none,.mv (.c (.lit .i64 2))⟩])
    .ret)
    .skip))
  (.seq (.reg [0,15,4,5,29,6,37,36,38,7,2,3] [⟨some 16,none,.mv (.t 0)⟩,⟨some 17,none,.call 75 true [((.t 16),.b (.o 32 (.ints .u8 32)))]⟩,⟨some 18,none,.bslE 1 [(0,(.t 17))]⟩,⟨some 19,none,.bldS (.v .nsl) [(0,1,(.t 18))]⟩,⟨some 20,none,.box (.t 19)⟩,⟨some 4,none,.mv (.t 20)⟩])
  (.seq (.seq (.reg [0,15,4,5,29,6,37,36,38,7,2,3] [⟨some 21,none,.mv (.t 4)⟩,⟨some 22,none,.nck (.t 21)⟩,⟨some 23,none,.fa 0 1 (.t 22)⟩,⟨some 24,none,.ld 1 false (.t 23)⟩,⟨some 25,none,.iaS 1 (.t 24) (.c (.lit .i64 0))⟩,⟨some 26,none,.ldE true (.t 25)⟩,⟨some 5,none,.mv (.t 26)⟩])
  (.block 0 (.loop 0 (.seq (.seq (.reg [0,15,4,5,29,6,37,36,38,7,2,3] [⟨some 27,none,.mv (.t 5)⟩,⟨some 28,none,.lenS (.t 27)⟩,⟨some 29,none,.cmp .gtr (.t 28) (.c (.lit .i64 1))⟩])
   (.cond (.t 29)
     .skip
     (.exit 0)))
   (.block 1 (.seq (.reg [0,15,4,5,29,6,37,36,38,7,2,3] [⟨some 30,none,.mv (.t 5)⟩,⟨some 31,none,.lenS (.t 30)⟩,⟨some 32,none,.ar .add .i64 (.t 31) (.c (.lit .i64 1))⟩,⟨some 33,none,.ar .quo .i64 (.t 32) (.c (.lit .i64 2))⟩,⟨some 34,none,.mks (.o 32 (.ints .u8 32)) 32 (.t 33)⟩,⟨some 6,none,.mv (.t 34)⟩])
   (.seq (.seq (.reg [0,15,4,5,29,6,37,36,38,7,2,3] [⟨some 35,none,.mv (.t 6)⟩,⟨some 36,none,.lenS (.t 35)⟩,⟨some 37,none,.mv (.c (.lit .i64 0))⟩])
   (.block 2 (.loop 1 (.seq (.reg [0,15,4,5,29,6,37,36,38,7,2,3] [⟨some 38,none,.cmp .lss (.t 37) (.t 36)⟩])
    (.seq (.cond (.t 38)
      .skip
      (.exit 2))
    (.seq (.block 3 (.seq (.reg [0,15,4,5,29,6,37,36,38,7,2,3] [⟨some 39,none,.mv (.t 37)⟩,⟨some 7,none,.mv (.t 39)⟩])
    (.reg [0,15,4,5,29,6,37,36,38,7,2,3] [⟨some 40,none,.mv (.t 6)⟩,⟨some 41,none,.mv (.t 7)⟩,⟨some 42,none,.mv (.t 5)⟩,⟨some 43,none,.mv (.t 7)⟩,⟨some 44,none,.call 76 true [((.t 42),.b (.o 32 (.ints .u8 32))),((.t 43),.v)]⟩,⟨some 45,none,.iaS 32 (.t 40) (.t 41)⟩,⟨none,none,.st 32 (.t 45) (.t 44)⟩])))
    (.reg [0,15,4,5,29,6,37,36,38,7,2,3] [⟨some 46,none,.ar .add .i64 (.t 37) (.c (.lit .i64 1))⟩,⟨some 37,none,.mv (.t 46)⟩])))))))
   (.seq (.reg [0,15,4,5,29,6,37,36,38,7,2,3] [⟨some 47,none,.mv (.t 4)⟩,⟨some 48,none,.mv (.t 4)⟩,⟨some 49,none,.nck (.t 48)⟩,⟨some 50,none,.fa 0 1 (.t 49)⟩,⟨some 51,none,.ld 1 false (.t 50)⟩,⟨some 52,none,.mv (.t 6)⟩,⟨some 53,none,.bslE 1 [(0,(.t 52))]⟩,⟨some 54,none,.appE 24 (.t 51) (.t 53)⟩,⟨some 55,none,.nck (.t 47)⟩,⟨some 56,none,.fa 0 1 (.t 55)⟩,⟨none,none,.st 1 (.t 56) (.t 54)⟩])
   (.reg [0,15,4,5,29,6,37,36,38,7,2,3] [⟨some 57,none,.mv (.t 6)⟩,⟨some 5,none,.mv (.t 57)⟩])))))))))
  (.seq (.reg [0,15,4,5,29,6,37,36,38,7,2,3] [⟨some 58,none,.mv (.t 4)⟩,⟨some 2,none,.mv (.t 58)⟩,⟨some 3,none,.mv (.c (.lit .i64 0))⟩])
  .ret)))))⟩
def ic23 : IFn := ⟨1,21,[.cell 2 32 true,.t 3],
  (.seq (.reg [0,5,2,3] [⟨some 2,none,.alloc (.ints .u8 32)⟩,⟨some 3,none,.mv (.c (.lit .i64 0))⟩])
  (.seq (.seq (.reg [0,5,2,3] [⟨some 4,none,.mv (.t 0)⟩,⟨some 5,none,.eq .p false (.t 4) (.c .nilp)⟩])
  (.cond (.t 5)
    (.seq (.reg [0,5,2,3] [⟨some 6,none,.bldA (.i .u8) 32 []⟩,⟨none,none,.st 32 (.t 2) (.t 6)⟩,⟨some 3,none,.mv (.c (.lit .i64 1))⟩])
    .ret)
    .skip))
  (.seq (.dreg [0,5,2,3] [⟨⟨some 7,none,.mv (.t 0)⟩,[],[],none⟩,⟨⟨some 8,none,.nck (.t 7)⟩,[],[],none⟩,⟨⟨some 9,none,.fa 0 1 (.t 8)⟩,[],[],none⟩,⟨⟨some 10,none,.ld 1 false (.t 9)⟩,[],[],none⟩,⟨⟨some 11,none,.mv (.t 0)⟩,[],[],none⟩,⟨⟨some 12,none,.nck (.t 11)⟩,[],[],none⟩,⟨⟨some 13,none,.fa 0 1 (.t 12)⟩,[],[],none⟩,⟨⟨some 14,none,.ld 1 false (.t 13)⟩,[],[],none⟩,⟨⟨some 15,none,.lenS (.t 14)⟩,[],[],none⟩,⟨⟨some 16,none,.ar .sub .i64 (.t 15) (.c (.lit .i64 1))⟩,[],[],none⟩,⟨⟨some 17,none,.iaS 1 (.t 10) (.t 16)⟩,[],[],none⟩,⟨⟨some 18,none,.ldE false (.t 17)⟩,[],[],none⟩,⟨⟨some 19,none,.iaS 32 (.t 18) (.c (.lit .i64 0))⟩,[],[],none⟩,⟨⟨some 20,none,.ld 32 true (.t 19)⟩,[],[],none⟩,⟨⟨none,none,.st 32 (.t 2) (.t 20)⟩,[],[],none⟩,⟨⟨some 3,none,.mv (.c (.lit .i64 0))⟩,[],[],none⟩])
  .ret)))⟩
def ic24 : IFn := ⟨3,58,[.t 6],
  (.seq (.reg [2,0,1,7,14,5,35,37,36,38,8,9,6] [⟨some 5,none,.box (.t 2)⟩,⟨some 6,none,.mv (.c (.lit .i64 0))⟩])
  (.seq (.seq (.reg [2,0,1,7,14,5,35,37,36,38,8,9,6] [⟨some 10,none,.mv (.t 0)⟩,⟨some 11,none,.mv (.t 1)⟩,⟨some 12,none,.call 77 false [((.t 10),.v),((.t 11),.v)]⟩,⟨some 7,none,.mv (.t 12)⟩])
  (.seq (.reg [2,0,1,7,14,5,35,37,36,38,8,9,6] [⟨some 13,none,.mv (.t 7)⟩,⟨some 14,none,.cmp .neq (.t 13) (.c (.lit .i64 0))⟩])
  (.cond (.t 14)
    (.seq (.reg [2,0,1,7,14,5,35,37,36,38,8,9,6] [⟨some 15,none,.mv (.t 7)⟩,⟨some 6,none,.mv (.t 15)⟩])
    .ret)
    .skip)))
  (.seq (.dreg [2,0,1,7,14,5,35,37,36,38,8,9,6] [⟨⟨some 16,none,.mv (.t 0)⟩,[],[],none⟩,⟨⟨some 17,none,.nck (.t 16)⟩,[],[],none⟩,⟨⟨some 18,none,.fa 0 1 (.t 17)⟩,[],[],none⟩,⟨⟨some 19,none,.ld 1 false (.t 18)⟩,[],[],none⟩,⟨⟨some 20,none,.iaS 1 (.t 19) (.c (.lit .i64 0))⟩,[],[],none⟩,⟨⟨some 21,none,.ldE false (.t 20)⟩,[],[],some ([40021],[1000000])⟩,⟨⟨some 22,none,.mv (.t 1)⟩,[40021],[],none⟩,⟨⟨some 23,none,.ld 32 true (.t 5)⟩,[40021,40021],[1000000],none⟩,⟨⟨some 24,none,.iaS 32 (.t 21) (.t 22)⟩,[],[],none⟩,⟨⟨none,none,.st 32 (.t 24) (.t 23)⟩,[],[],none⟩])
  (.seq (.seq (.dreg [2,0,1,7,14,5,35,37,36,38,8,9,6] [⟨⟨some 25,none,.mv (.t 0)⟩,[],[],none⟩,⟨⟨some 26,none,.nck (.t 25)⟩,[],[],none⟩,⟨⟨some 27,none,.fa 0 1 (.t 26)⟩,[],[],none⟩,⟨⟨some 28,none,.ld 1 false (.t 27)⟩,[],[],none⟩,⟨⟨some 29,none,.mv (.t 0)⟩,[],[],none⟩,⟨⟨some 30,none,.nck (.t 29)⟩,[],[],none⟩,⟨⟨some 31,none,.fa 0 1 (.t 30)⟩,[],[],none⟩,⟨⟨some 32,none,.ld 1 false (.t 31)⟩,[],[],none⟩,⟨⟨some 33,none,.lenS (.t 32)⟩,[],[],none⟩,⟨⟨some 34,none,.ar .sub .i64 (.t 33) (.c (.lit .i64 1))⟩,[],[],none⟩,⟨⟨some 35,none,.slS 1 (.t 28) none (some (.t 34)) none⟩,[],[],none⟩,⟨⟨some 36,none,.lenS (.t 35)⟩,[],[],none⟩,⟨⟨some 37,none,.mv (.c (.lit .i64 0))⟩,[],[],none⟩])
  (.block 0 (.loop 0 (.seq (.reg [2,0,1,7,14,5,35,37,36,38,8,9,6] [⟨some 38,none,.cmp .lss (.t 37) (.t 36)⟩])
   (.seq (.cond (.t 38)
     .skip
     (.exit 0))
   (.seq (.block 1 (.seq (.reg [2,0,1,7,14,5,35,37,36,38,8,9,6] [⟨some 39,none,.mv (.t 37)⟩,⟨some 40,none,.iaS 1 (.t 35) (.t 37)⟩,⟨some 41,none,.ldE false (.t 40)⟩,⟨some 8,none,.mv (.t 39)⟩,⟨some 9,none,.mv (.t 41)⟩])
   (.seq (.reg [2,0,1,7,14,5,35,37,36,38,8,9,6] [⟨some 42,none,.mv (.t 1)⟩,⟨some 43,none,.ar .quo .i64 (.t 42) (.c (.lit .i64 2))⟩,⟨some 1,none,.mv (.t 43)⟩])
   (.dreg [2,0,1,7,14,5,35,37,36,38,8,9,6] [⟨⟨some 44,none,.mv (.t 0)⟩,[55,10055,20055,30055,40055,50055,60055,70055,80055,90055],[],none⟩,⟨⟨some 45,none,.nck (.t 44)⟩,[55,10055,20055,30055,40055,50055,60055,70055,80055,90055],[],none⟩,⟨⟨some 46,none,.fa 0 1 (.t 45)⟩,[55,10055,20055,30055,40055,50055,60055,70055,80055,90055],[],none⟩,⟨⟨some 47,none,.ld 1 false (.t 46)⟩,[55,10055,20055,30055,40055,50055,60055,70055,80055,90055],[],none⟩,⟨⟨some 48,none,.mv (.t 8)⟩,[55,10055,20055,30055,40055,50055,60055,70055,80055,90055],[],none⟩,⟨⟨some 49,none,.ar .add .i64 (.t 48) (.c (.lit .i64 1))⟩,[55,10055,20055,30055,40055,50055,60055,70055,80055,90055],[],none⟩,⟨⟨some 50,none,.iaS 1 (.t 47) (.t 49)⟩,[55,10055,20055,30055,40055,50055,60055,70055,80055,90055],[],none⟩,⟨⟨some 51,none,.ldE false (.t 50)⟩,[55,10055,20055,30055,40055,50055,60055,70055,80055,90055],[],some ([40051],[1000000])⟩,⟨⟨some 52,none,.mv (.t 1)⟩,[40051,55,10055,20055,30055,40055,50055,60055,70055,80055,90055],[],none⟩,⟨⟨some 53,none,.mv (.t 9)⟩,[40051],[],none⟩,⟨⟨some 54,none,.mv (.t 1)⟩,[40051],[],none⟩,⟨⟨some 55,none,.call 76 true [((.t 53),.b (.o 32 (.ints .u8 32))),((.t 54),.v)]⟩,[40051,40051],[1000000],none⟩,⟨⟨some 56,none,.iaS 32 (.t 51) (.t 52)⟩,[],[],none⟩,⟨⟨none,none,.st 32 (.t 56) (.t 55)⟩,[],[],none⟩]))))
   (.reg [2,0,1,7,14,5,35,37,36,38,8,9,6] [⟨some 57,none,.ar .add .i64 (.t 37) (.c (.lit .i64 1))⟩,⟨some 37,none,.mv (.t 57)⟩])))))))
  (.seq (.reg [2,0,1,7,14,5,35,37,36,38,8,9,6] [⟨some 6,none,.mv (.c (.lit .i64 0))⟩])
  .ret)))))⟩
def ic25 : IFn := ⟨1,11,[.cell 2 32 true],
  (.seq (.reg [0,5,2] [⟨some 2,none,.alloc (.ints .u8 32)⟩])
  (.seq (.block 0 (.loop 0 (.seq (.seq (.reg [0,5,2] [⟨some 3,none,.mv (.t 0)⟩,⟨some 4,none,.lenS (.t 3)⟩,⟨some 5,none,.cmp .gtr (.t 4) (.c (.lit .i64 1))⟩])
   (.cond (.t 5)
     .skip
     (.exit 0)))
   (.block 1 (.reg [0,5,2] [⟨some 6,none,.mv (.t 0)⟩,⟨some 7,none,.call 78 true [((.t 6),.b (.o 32 (.ints .u8 32)))]⟩,⟨some 0,none,.mv (.t 7)⟩])))))
  (.seq (.reg [0,5,2] [⟨some 8,none,.mv (.t 0)⟩,⟨some 9,none,.iaS 32 (.t 8) (.c (.lit .i64 0))⟩,⟨some 10,none,.ld 32 true (.t 9)⟩,⟨none,none,.st 32 (.t 2) (.t 10)⟩])
  .ret)))⟩
def ic26 : IFn := ⟨1,12,[.t 2],
  (.seq (.reg [0,4,2] [⟨some 2,none,.mv (.c (.lit .i64 0))⟩])
  (.seq (.seq (.reg [0,4,2] [⟨some 3,none,.mv (.t 0)⟩,⟨some 4,none,.eq .p false (.t 3) (.c .nilp)⟩])
  (.cond (.t 4)
    (.seq (.reg [0,4,2] [⟨some 2,none,.mv (.c (.lit .i64 0))⟩])
    .ret)
    .skip))
  (.seq (.reg [0,4,2] [⟨some 5,none,.mv (.t 0)⟩,⟨some 6,none,.nck (.t 5)⟩,⟨some 7,none,.fa 0 1 (.t 6)⟩,⟨some 8,none,.ld 1 false (.t 7)⟩,⟨some 9,none,.iaS 1 (.t 8) (.c (.lit .i64 0))⟩,⟨some 10,none,.ldE false (.t 9)⟩,⟨some 11,none,.lenS (.t 10)⟩,⟨some 2,none,.mv (.t 11)⟩])
  .ret)))⟩
def ic27 : IFn := ⟨2,23,[.cell 4 32 true,.t 5],
  (.seq (.reg [0,1,6,11,4,5] [⟨some 4,none,.alloc (.ints .u8 32)⟩,⟨some 5,none,.mv (.c (.lit .i64 0))⟩])
  (.seq (.seq (.reg [0,1,6,11,4,5] [⟨some 7,none,.mv (.t 0)⟩,⟨some 8,none,.mv (.t 1)⟩,⟨some 9,none,.call 77 false [((.t 7),.v),((.t 8),.v)]⟩,⟨some 6,none,.mv (.t 9)⟩])
  (.seq (.reg [0,1,6,11,4,5] [⟨some 10,none,.mv (.t 6)⟩,⟨some 11,none,.cmp .neq (.t 10) (.c (.lit .i64 0))⟩])
  (.cond (.t 11)
    (.seq (.reg [0,1,6,11,4,5] [⟨some 12,none,.bldA (.i .u8) 32 []⟩,⟨some 13,none,.mv (.t 6)⟩,⟨none,none,.st 32 (.t 4) (.t 12)⟩,⟨some 5,none,.mv (.t 13)⟩])
    .ret)
    .skip)))
  (.seq (.reg [0,1,6,11,4,5] [⟨some 14,none,.mv (.t 0)⟩,⟨some 15,none,.nck (.t 14)⟩,⟨some 16,none,.fa 0 1 (.t 15)⟩,⟨some 17,none,.ld 1 false (.t 16)⟩,⟨some 18,none,.iaS 1 (.t 17) (.c (.lit .i64 0))⟩,⟨some 19,none,.ldE false (.t 18)⟩,⟨some 20,none,.mv (.t 1)⟩,⟨some 21,none,.iaS 32 (.t 19) (.t 20)⟩,⟨some 22,none,.ld 32 true (.t 21)⟩,⟨none,none,.st 32 (.t 4) (.t 22)⟩,⟨some 5,none,.mv (.c (.lit .i64 0))⟩])
  .ret)))⟩
def ic28 : IFn := ⟨2,50,[.t 4,.t 5],
  (.seq (.reg [0,1,6,15,27,29,28,30,10,9,38,7,4,5] [⟨some 4,none,.mv (.c .nsl)⟩,⟨some 5,none,.mv (.c (.lit .i64 0))⟩])
  (.seq (.seq (.reg [0,1,6,15,27,29,28,30,10,9,38,7,4,5] [⟨some 11,none,.mv (.t 0)⟩,⟨some 12,none,.mv (.t 1)⟩,⟨some 13,none,.call 77 false [((.t 11),.v),((.t 12),.v)]⟩,⟨some 6,none,.mv (.t 13)⟩])
  (.seq (.reg [0,1,6,15,27,29,28,30,10,9,38,7,4,5] [⟨some 14,none,.mv (.t 6)⟩,⟨some 15,none,.cmp .neq (.t 14) (.c (.lit .i64 0))⟩])
  (.cond (.t 15)
    (.seq (.reg [0,1,6,15,27,29,28,30,10,9,38,7,4,5] [⟨some 16,none,.mv (.t 6)⟩,⟨some 4,none,.mv (.c .nsl)⟩,⟨some 5,none,.mv (.t 16)⟩])
    .ret)
    .skip)))
  (.seq (.reg [0,1,6,15,27,29,28,30,10,9,38,7,4,5] [⟨some 7,none,.mv (.c .nsl)⟩])
  (.seq (.seq (.dreg [0,1,6,15,27,29,28,30,10,9,38,7,4,5] [⟨⟨some 17,none,.mv (.t 0)⟩,[],[],none⟩,⟨⟨some 18,none,.nck (.t 17)⟩,[],[],none⟩,⟨⟨some 19,none,.fa 0 1 (.t 18)⟩,[],[],none⟩,⟨⟨some 20,none,.ld 1 false (.t 19)⟩,[],[],none⟩,⟨⟨some 21,none,.mv (.t 0)⟩,[],[],none⟩,⟨⟨some 22,none,.nck (.t 21)⟩,[],[],none⟩,⟨⟨some 23,none,.fa 0 1 (.t 22)⟩,[],[],none⟩,⟨⟨some 24,none,.ld 1 false (.t 23)⟩,[],[],none⟩,⟨⟨some 25,none,.lenS (.t 24)⟩,[],[],none⟩,⟨⟨some 26,none,.ar .sub .i64 (.t 25) (.c (.lit .i64 1))⟩,[],[],none⟩,⟨⟨some 27,none,.slS 1 (.t 20) none (some (.t 26)) none⟩,[],[],none⟩,⟨⟨some 28,none,.lenS (.t 27)⟩,[],[],none⟩,⟨⟨some 29,none,.mv (.c (.lit .i64 0))⟩,[],[],none⟩])
  (.block 0 (.loop 0 (.seq (.reg [0,1,6,15,27,29,28,30,10,9,38,7,4,5] [⟨some 30,none,.cmp .lss (.t 29) (.t 28)⟩])
   (.seq (.cond (.t 30)
     .skip
     (.exit 0))
   (.seq (.block 1 (.seq (.reg [0,1,6,15,27,29,28,30,10,9,38,7,4,5] [⟨some 31,none,.iaS 1 (.t 27) (.t 29)⟩,⟨some 32,none,.ldE false (.t 31)⟩,⟨some 9,none,.mv (.t 32)⟩])
   (.seq (.seq (.reg [0,1,6,15,27,29,28,30,10,9,38,7,4,5] [⟨some 33,none,.mv (.t 1)⟩,⟨some 34,none,.ar .xor .i64 (.t 33) (.c (.lit .i64 1))⟩,⟨some 10,none,.mv (.t 34)⟩])
   (.seq (.reg [0,1,6,15,27,29,28,30,10,9,38,7,4,5] [⟨some 35,none,.mv (.t 10)⟩,⟨some 36,none,.mv (.t 9)⟩,⟨some 37,none,.lenS (.t 36)⟩,⟨some 38,none,.cmp .lss (.t 35) (.t 37)⟩])
   (.cond (.t 38)
     (.reg [0,1,6,15,27,29,28,30,10,9,38,7,4,5] [⟨some 39,none,.mv (.t 7)⟩,⟨some 40,none,.mv (.t 9)⟩,⟨some 41,none,.mv (.t 10)⟩,⟨some 42,none,.iaS 32 (.t 40) (.t 41)⟩,⟨some 43,none,.ld 32 true (.t 42)⟩,⟨some 44,none,.bsl (.o 32 (.ints .u8 32)) 1 [(0,(.t 43))]⟩,⟨some 45,none,.app (.o 32 (.ints .u8 32)) 32 (.t 39) (.t 44)⟩,⟨some 7,none,.mv (.t 45)⟩])
     .skip)))
   (.reg [0,1,6,15,27,29,28,30,10,9,38,7,4,5] [⟨some 46,none,.mv (.t 1)⟩,⟨some 47,none,.ar .quo .i64 (.t 46) (.c (.lit .i64 2))⟩,⟨some 1,none,.mv (.t 47)⟩]))))
   (.reg [0,1,6,15,27,29,28,30,10,9,38,7,4,5] [⟨some 48,none,.ar .add .i64 (.t 29) (.c (.lit .i64 1))⟩,⟨some 29,none,.mv (.t 48)⟩])))))))
  (.seq (.reg [0,1,6,15,27,29,28,30,10,9,38,7,4,5] [⟨some 49,none,.mv (.t 7)⟩,⟨some 4,none,.mv (.t 49)⟩,⟨some 5,none,.mv (.c (.lit .i64 0))⟩])
  .ret)))))⟩
def ic29 : IFn := ⟨2,26,[.t 4],
  (.seq (.reg [0,1,10,13,12,14,5,24,4] [⟨some 4,none,.mv (.c .ff)⟩])
  (.seq (.seq (.reg [0,1,10,13,12,14,5,24,4] [⟨some 6,none,.mv (.t 0)⟩,⟨some 7,none,.lenS (.t 6)⟩,⟨some 8,none,.mv (.t 1)⟩,⟨some 9,none,.lenS (.t 8)⟩,⟨some 10,none,.cmp .neq (.t 7) (.t 9)⟩])
  (.cond (.t 10)
    (.seq (.reg [0,1,10,13,12,14,5,24,4] [⟨some 4,none,.mv (.c .ff)⟩])
    .ret)
    .skip))
  (.seq (.seq (.reg [0,1,10,13,12,14,5,24,4] [⟨some 11,none,.mv (.t 0)⟩,⟨some 12,none,.lenS (.t 11)⟩,⟨some 13,none,.mv (.c (.lit .i64 0))⟩])
  (.block 0 (.loop 0 (.seq (.reg [0,1,10,13,12,14,5,24,4] [⟨some 14,none,.cmp .lss (.t 13) (.t 12)⟩])
   (.seq (.cond (.t 14)
     .skip
     (.exit 0))
   (.seq (.block 1 (.seq (.reg [0,1,10,13,12,14,5,24,4] [⟨some 15,none,.mv (.t 13)⟩,⟨some 5,none,.mv (.t 15)⟩])
   (.seq (.dreg [0,1,10,13,12,14,5,24,4] [⟨⟨some 16,none,.mv (.t 0)⟩,[],[],none⟩,⟨⟨some 17,none,.mv (.t 5)⟩,[],[],none⟩,⟨⟨some 18,none,.iaS 32 (.t 16) (.t 17)⟩,[],[],none⟩,⟨⟨some 19,none,.ld 32 true (.t 18)⟩,[],[],none⟩,⟨⟨some 20,none,.mv (.t 1)⟩,[],[],none⟩,⟨⟨some 21,none,.mv (.t 5)⟩,[],[],none⟩,⟨⟨some 22,none,.iaS 32 (.t 20) (.t 21)⟩,[],[],none⟩,⟨⟨some 23,none,.ld 32 true (.t 22)⟩,[],[],none⟩,⟨⟨some 24,none,.eq (.a .u8 32) true (.t 19) (.t 23)⟩,[],[],none⟩])
   (.cond (.t 24)
     (.seq (.reg [0,1,10,13,12,14,5,24,4] [⟨some 4,none,.mv (.c .ff)⟩])
     .ret)
     .skip))))
   (.reg [0,1,10,13,12,14,5,24,4] [⟨some 25,none,.ar .add .i64 (.t 13) (.c (.lit .i64 1))⟩,⟨some 13,none,.mv (.t 25)⟩])))))))
  (.seq (.reg [0,1,10,13,12,14,5,24,4] [⟨some 4,none,.mv (.c .tt)⟩])
  .ret))))⟩
def ic30 : IFn := ⟨2,38,[.t 4],
  (.seq (.reg [0,8,1,11,5,24,4] [⟨some 4,none,.mv (.c .nsl)⟩])
  (.seq (.reg [0,8,1,11,5,24,4] [⟨some 5,none,.mv (.c .nsl)⟩])
  (.seq (.block 0 (.loop 0 (.seq (.seq (.reg [0,8,1,11,5,24,4] [⟨some 6,none,.mv (.t 0)⟩,⟨some 7,none,.lenS (.t 6)⟩,⟨some 8,none,.cmp .gtr (.t 7) (.c (.lit .i64 1))⟩])
   (.cond (.t 8)
     .skip
     (.exit 0)))
   (.block 1 (.seq (.seq (.reg [0,8,1,11,5,24,4] [⟨some 9,none,.mv (.t 1)⟩,⟨some 10,none,.ar .rem .i64 (.t 9) (.c (.lit .i64 2))⟩,⟨some 11,none,.cmp .eql (.t 10) (.c (.lit .i64 1))⟩])
   (.cond (.t 11)
     (.reg [0,8,1,11,5,24,4] [⟨some 12,none,.mv (.t 5)⟩,⟨some 13,none,.mv (.t 0)⟩,⟨some 14,none,.mv (.t 1)⟩,⟨some 15,none,.ar .sub .i64 (.t 14) (.c (.lit .i64 1))⟩,⟨some 16,none,.iaS 32 (.t 13) (.t 15)⟩,⟨some 17,none,.ld 32 true (.t 16)⟩,⟨some 18,none,.bsl (.o 32 (.ints .u8 32)) 1 [(0,(.t 17))]⟩,⟨some 19,none,.app (.o 32 (.ints .u8 32)) 32 (.t 12) (.t 18)⟩,⟨some 5,none,.mv (.t 19)⟩])
     (.seq (.reg [0,8,1,11,5,24,4] [⟨some 20,none,.mv (.t 1)⟩,⟨some 21,none,.ar .add .i64 (.t 20) (.c (.lit .i64 1))⟩,⟨some 22,none,.mv (.t 0)⟩,⟨some 23,none,.lenS (.t 22)⟩,⟨some 24,none,.cmp .lss (.t 21) (.t 23)⟩])
     (.cond (.t 24)
       (.reg [0,8,1,11,5,24,4] [⟨some 25,none,.mv (.t 5)⟩,⟨some 26,none,.mv (.t 0)⟩,⟨some 27,none,.mv (.t 1)⟩,⟨some 28,none,.ar .add .i64 (.t 27) (.c (.lit .i64 1))⟩,⟨some 29,none,.iaS 32 (.t 26) (.t 28)⟩,⟨some 30,none,.ld 32 true (.t 29)⟩,⟨some 31,none,.bsl (.o 32 (.ints .u8 32)) 1 [(0,(.t 30))]⟩,⟨some 32,none,.app (.o 32 (.ints .u8 32)) 32 (.t 25) (.t 31)⟩,⟨some 5,none,.mv (.t 32)⟩])
       .skip))))
   (.seq (.reg [0,8,1,11,5,24,4] [⟨some 33,none,.mv (.t 0)⟩,⟨some 34,none,.call 78 true [((.t 33),.b (.o 32 (.ints .u8 32)))]⟩,⟨some 0,none,.mv (.t 34)⟩])
   (.reg [0,8,1,11,5,24,4] [⟨some 35,none,.mv (.t 1)⟩,⟨some 36,none,.ar .quo .i64 (.t 35) (.c (.lit .i64 2))⟩,⟨some 1,none,.mv (.t 36)⟩])))))))
  (.seq (.reg [0,8,1,11,5,24,4] [⟨some 37,none,.mv (.t 5)⟩,⟨some 4,none,.mv (.t 37)⟩])
  .ret))))⟩
def ic31 : IFn := ⟨1,7,[.cell 2 32 true],
  (.seq (.reg [0,2] [⟨some 2,none,.alloc (.ints .u8 32)⟩])
  (.seq (.reg [0,2] [⟨some 3,none,.bsl (.i .u8) 1 [(0,(.c (.lit .u8 0)))]⟩,⟨some 4,none,.mv (.t 0)⟩,⟨some 5,none,.app (.i .u8) 1 (.t 3) (.t 4)⟩,⟨some 6,none,.call 79 true [((.t 5),.b (.i .u8))]⟩,⟨none,none,.st 32 (.t 2) (.t 6)⟩])
  .ret))⟩
def ic32 : IFn := ⟨1,7,[.cell 2 32 true],
  (.seq (.reg [0,2] [⟨some 2,none,.alloc (.ints .u8 32)⟩])
  (.seq (.reg [0,2] [⟨some 3,none,.bsl (.i .u8) 1 [(0,(.c (.lit .u8 0)))]⟩,⟨some 4,none,.mv (.t 0)⟩,⟨some 5,none,.app (.i .u8) 1 (.t 3) (.t 4)⟩,⟨some 6,none,.call 80 true [((.t 5),.b (.i .u8))]⟩,⟨none,none,.st 32 (.t 2) (.t 6)⟩])
  .ret))⟩
def ic75 : IFn := ⟨1,8,[.t 2],
  (.seq (.reg [0,4,2] [⟨some 2,none,.mv (.c .nsl)⟩])
  (.seq (.seq (.reg [0,4,2] [⟨some 3,none,.mv (.t 0)⟩,⟨some 4,none,.eq .l false (.t 3) (.c .nsl)⟩])
  (.cond (.t 4)
    (.seq (.reg [0,4,2] [⟨some 2,none,.mv (.c .nsl)⟩])
    .ret)
    .skip))
  (.seq (.reg [0,4,2] [⟨some 5,none,.bsl (.o 32 (.ints .u8 32)) 0 []⟩,⟨some 6,none,.mv (.t 0)⟩,⟨some 7,none,.app0 (.o 32 (.ints .u8 32)) 32 (.t 5) (.t 6)⟩,⟨some 2,none,.mv (.t 7)⟩])
  .ret)))⟩
def ic76 : IFn := ⟨2,28,[.cell 4 32 true],
  (.seq (.reg [1,0,10,4] [⟨some 4,none,.alloc (.ints .u8 32)⟩])
  (.seq (.seq (.reg [1,0,10,4] [⟨some 5,none,.mv (.t 1)⟩,⟨some 6,none,.ar .mul .i64 (.c (.lit .i64 2)) (.t 5)⟩,⟨some 7,none,.ar .add .i64 (.t 6) (.c (.lit .i64 1))⟩,⟨some 8,none,.mv (.t 0)⟩,⟨some 9,none,.lenS (.t 8)⟩,⟨some 10,none,.cmp .eql (.t 7) (.t 9)⟩])
  (.cond (.t 10)
    (.seq (.reg [1,0,10,4] [⟨some 11,none,.mv (.t 0)⟩,⟨some 12,none,.mv (.t 1)⟩,⟨some 13,none,.ar .mul .i64 (.c (.lit .i64 2)) (.t 12)⟩,⟨some 14,none,.iaS 32 (.t 11) (.t 13)⟩,⟨some 15,none,.ld 32 true (.t 14)⟩,⟨none,none,.st 32 (.t 4) (.t 15)⟩])
    .ret)
    .skip))
  (.seq (.dreg [1,0,10,4] [⟨⟨some 16,none,.mv (.t 0)⟩,[],[],none⟩,⟨⟨some 17,none,.mv (.t 1)⟩,[],[],none⟩,⟨⟨some 18,none,.ar .mul .i64 (.c (.lit .i64 2)) (.t 17)⟩,[],[],none⟩,⟨⟨some 19,none,.iaS 32 (.t 16) (.t 18)⟩,[],[],none⟩,⟨⟨some 20,none,.ld 32 true (.t 19)⟩,[],[],none⟩,⟨⟨some 21,none,.mv (.t 0)⟩,[],[],none⟩,⟨⟨some 22,none,.mv (.t 1)⟩,[],[],none⟩,⟨⟨some 23,none,.ar .mul .i64 (.c (.lit .i64 2)) (.t 22)⟩,[],[],none⟩,⟨⟨some 24,none,.ar .add .i64 (.t 23) (.c (.lit .i64 1))⟩,[],[],none⟩,⟨⟨some 25,none,.iaS 32 (.t 21) (.t 24)⟩,[],[],none⟩,⟨⟨some 26,none,.ld 32 true (.t 25)⟩,[],[],none⟩,⟨⟨some 27,none,.call 81 true [((.t 20),.v),((.t 26),.v)]⟩,[],[],none⟩,⟨⟨none,none,.st 32 (.t 4) (.t 27)⟩,[],[],none⟩])
  .ret)))⟩
def ic77 : IFn := ⟨2,17,[.t 4],
  (.seq (.reg [0,5,1,8,4] [⟨some 4,none,.mv (.c (.lit .i64 0))⟩])
  (.seq (.block 0 (.seq (.reg [0,5,1,8,4] [⟨some 6,none,.mv (.t 0)⟩,⟨some 7,none,.eq .p false (.t 6) (.c .nilp)⟩,⟨some 5,none,.mv (.t 7)⟩])
  (.cond (.t 5)
    (.seq (.reg [0,5,1,8,4] [⟨some 4,none,.mv (.c (.lit .i64 1))⟩])
    .ret)
    (.seq (.reg [0,5,1,8,4] [⟨some 9,none,.mv (.t 1)⟩,⟨some 10,none,.cmp .lss (.t 9) (.c (.lit .i64 0))⟩,⟨some 11,none,.mv (.t 10)⟩,⟨some 12,some (11,false),.mv (.t 1)⟩,⟨some 13,some (11,false),.mv (.t 0)⟩,⟨some 14,some (11,false),.call 26 false [((.t 13),.v)]⟩,⟨some 15,some (11,false),.cmp .geq (.t 12) (.t 14)⟩,⟨some 16,none,.pick (.t 11) (.c .tt) (.t 15)⟩,⟨some 8,none,.mv (.t 16)⟩])
    (.cond (.t 8)
      (.seq (.reg [0,5,1,8,4] [⟨some 4,none,.mv (.c (.lit .i64 2))⟩])
      .ret)
      .skip)))))
  (.seq (.reg [0,5,1,8,4] [⟨some 4,none,.mv (.c (.lit .i64 0))⟩])
  .ret)))⟩
def ic78 : IFn := ⟨1,37,[.t 2],
  (.seq (.reg [4,0,8,15,3,2] [⟨some 2,none,.mv (.c .nsl)⟩])
  (.seq (.reg [4,0,8,15,3,2] [⟨some 3,none,.mv (.c .nsl)⟩])
  (.seq (.seq (.reg [4,0,8,15,3,2] [⟨some 4,none,.mv (.c (.lit .i64 0))⟩])
  (.block 0 (.loop 0 (.seq (.seq (.reg [4,0,8,15,3,2] [⟨some 5,none,.mv (.t 4)⟩,⟨some 6,none,.mv (.t 0)⟩,⟨some 7,none,.lenS (.t 6)⟩,⟨some 8,none,.cmp .lss (.t 5) (.t 7)⟩])
   (.cond (.t 8)
     .skip
     (.exit 0)))
   (.seq (.block 1 (.seq (.reg [4,0,8,15,3,2] [⟨some 11,none,.mv (.t 4)⟩,⟨some 12,none,.ar .add .i64 (.t 11) (.c (.lit .i64 1))⟩,⟨some 13,none,.mv (.t 0)⟩,⟨some 14,none,.lenS (.t 13)⟩,⟨some 15,none,.cmp .lss (.t 12) (.t 14)⟩])
   (.cond (.t 15)
     (.dreg [4,0,8,15,3,2] [⟨⟨some 16,none,.mv (.t 3)⟩,[26,10026,20026,30026,40026,50026,60026,70026,80026,90026,27],[],none⟩,⟨⟨some 17,none,.mv (.t 0)⟩,[],[],none⟩,⟨⟨some 18,none,.mv (.t 4)⟩,[],[],none⟩,⟨⟨some 19,none,.iaS 32 (.t 17) (.t 18)⟩,[],[],none⟩,⟨⟨some 20,none,.ld 32 true (.t 19)⟩,[],[],none⟩,⟨⟨some 21,none,.mv (.t 0)⟩,[],[],none⟩,⟨⟨some 22,none,.mv (.t 4)⟩,[],[],none⟩,⟨⟨some 23,none,.ar .add .i64 (.t 22) (.c (.lit .i64 1))⟩,[],[],none⟩,⟨⟨some 24,none,.iaS 32 (.t 21) (.t 23)⟩,[],[],none⟩,⟨⟨some 25,none,.ld 32 true (.t 24)⟩,[],[],none⟩,⟨⟨some 26,none,.call 82 true [((.t 20),.v),((.t 25),.v)]⟩,[],[],none⟩,⟨⟨some 27,none,.bsl (.o 32 (.ints .u8 32)) 1 [(0,(.t 26))]⟩,[],[],none⟩,⟨⟨some 28,none,.app (.o 32 (.ints .u8 32)) 32 (.t 16) (.t 27)⟩,[],[],none⟩,⟨⟨some 3,none,.mv (.t 28)⟩,[],[],none⟩])
     (.reg [4,0,8,15,3,2] [⟨some 29,none,.mv (.t 3)⟩,⟨some 30,none,.mv (.t 0)⟩,⟨some 31,none,.mv (.t 4)⟩,⟨some 32,none,.iaS 32 (.t 30) (.t 31)⟩,⟨some 33,none,.ld 32 true (.t 32)⟩,⟨some 34,none,.bsl (.o 32 (.ints .u8 32)) 1 [(0,(.t 33))]⟩,⟨some 35,none,.app (.o 32 (.ints .u8 32)) 32 (.t 29) (.t 34)⟩,⟨some 3,none,.mv (.t 35)⟩]))))
   (.reg [4,0,8,15,3,2] [⟨some 9,none,.mv (.t 4)⟩,⟨some 10,none,.ar .add .i64 (.t 9) (.c (.lit .i64 2))⟩,⟨some 4,none,.mv (.t 10)⟩]))))))
  (.seq (.reg [4,0,8,15,3,2] [⟨some 36,none,.mv (.t 3)⟩,⟨some 2,none,.mv (.t 36)⟩])
  .ret))))⟩
def ic81 : IFn := ⟨2,11,[.cell 4 32 true],
  (.seq (.reg [0,1,2,3,4] [⟨some 2,none,.box (.t 0)⟩,⟨some 3,none,.box (.t 1)⟩,⟨some 4,none,.alloc (.ints .u8 32)⟩])
  (.seq (.dreg [0,1,2,3,4] [⟨⟨some 5,none,.bsl (.i .u8) 1 [(0,(.c (.lit .u8 1)))]⟩,[],[],none⟩,⟨⟨some 6,none,.slA 32 1 (.t 2) none none⟩,[5],[],none⟩,⟨⟨some 7,none,.app (.i .u8) 1 (.t 5) (.t 6)⟩,[],[],some ([7,5],[])⟩,⟨⟨some 8,none,.slA 32 1 (.t 3) none none⟩,[5,7,7,5],[],none⟩,⟨⟨some 9,none,.app (.i .u8) 1 (.t 7) (.t 8)⟩,[],[],none⟩,⟨⟨some 10,none,.call 79 true [((.t 9),.b (.i .u8))]⟩,[],[],none⟩,⟨⟨none,none,.st 32 (.t 4) (.t 10)⟩,[],[],none⟩])
  .ret))⟩
def ic82 : IFn := ⟨2,13,[.cell 4 32 true],
  (.seq (.reg [0,1,2,5,3,4] [⟨some 2,none,.box (.t 0)⟩,⟨some 3,none,.box (.t 1)⟩,⟨some 4,none,.alloc (.ints .u8 32)⟩])
  (.seq (.reg [0,1,2,5,3,4] [⟨some 6,none,.bsl (.i .u8) 1 [(0,(.c (.lit .u8 1)))]⟩,⟨some 7,none,.slA 32 1 (.t 2) none none⟩,⟨some 8,none,.app (.i .u8) 1 (.t 6) (.t 7)⟩,⟨some 5,none,.mv (.t 8)⟩])
  (.seq (.reg [0,1,2,5,3,4] [⟨some 9,none,.mv (.t 5)⟩,⟨some 10,none,.slA 32 1 (.t 3) none none⟩,⟨some 11,none,.app (.i .u8) 1 (.t 9) (.t 10)⟩,⟨some 12,none,.call 80 true [((.t 11),.b (.i .u8))]⟩,⟨none,none,.st 32 (.t 4) (.t 12)⟩])
  .ret)))⟩
theorem ok3 : fnOk Tryd.prog 3 = true := by kernel_rfl
theorem co3 : comp Tryd.prog puM 3 = some ic3 := by kernel_rfl
theorem ok4 : fnOk Tryd.prog 4 = true := by kernel_rfl
theorem co4 : comp Tryd.prog puM 4 = some ic4 := by kernel_rfl
theorem ok5 : fnOk Tryd.prog 5 = true := by kernel_rfl
theorem co5 : comp Tryd.prog puM 5 = some ic5 := by kernel_rfl
theorem ok6 : fnOk Tryd.prog 6 = true := by kernel_rfl
theorem co6 : comp Tryd.prog puM 6 = some ic6 := by kernel_rfl
theorem ok21 : fnOk Tryd.prog 21 = true := by kernel_rfl
theorem co21 : comp Tryd.prog puM 21 = some ic21 := by kernel_rfl
theorem ok22 : fnOk Tryd.prog 22 = true := by kernel_rfl
theorem co22 : comp Tryd.prog puM 22 = some ic22 := by kernel_rfl
theorem ok23 : fnOk Tryd.prog 23 = true := by kernel_rfl
theorem co23 : comp Tryd.prog puM 23 = some ic23 := by kernel_rfl
theorem ok24 : fnOk Tryd.prog 24 = true := by kernel_rfl
theorem co24 : comp Tryd.prog puM 24 = some ic24 := by kernel_rfl
theorem ok25 : fnOk Tryd.prog 25 = true := by kernel_rfl
theorem co25 : comp Tryd.prog puM 25 = some ic25 := by kernel_rfl
theorem ok26 : fnOk Tryd.prog 26 = true := by kernel_rfl
theorem co26 : comp Tryd.prog puM 26 = some ic26 := by kernel_rfl
theorem ok27 : fnOk Tryd.prog 27 = true := by kernel_rfl
theorem co27 : comp Tryd.prog puM 27 = some ic27 := by kernel_rfl
theorem ok28 : fnOk Tryd.prog 28 = true := by kernel_rfl
theorem co28 : comp Tryd.prog puM 28 = some ic28 := by kernel_rfl
theorem ok29 : fnOk Tryd.prog 29 = true := by kernel_rfl
theorem co29 : comp Tryd.prog puM 29 = some ic29 := by kernel_rfl
theorem ok30 : fnOk Tryd.prog 30 = true := by kernel_rfl
theorem co30 : comp Tryd.prog puM 30 = some ic30 := by kernel_rfl
theorem ok31 : fnOk Tryd.prog 31 = true := by kernel_rfl
theorem co31 : comp Tryd.prog puM 31 = some ic31 := by kernel_rfl
theorem ok32 : fnOk Tryd.prog 32 = true := by kernel_rfl
theorem co32 : comp Tryd.prog puM 32 = some ic32 := by kernel_rfl
theorem ok75 : fnOk Tryd.prog 75 = true := by kernel_rfl
theorem co75 : comp Tryd.prog puM 75 = some ic75 := by kernel_rfl
theorem ok76 : fnOk Tryd.prog 76 = true := by kernel_rfl
theorem co76 : comp Tryd.prog puM 76 = some ic76 := by kernel_rfl
theorem ok77 : fnOk Tryd.prog 77 = true := by kernel_rfl
theorem co77 : comp Tryd.prog puM 77 = some ic77 := by kernel_rfl
theorem ok78 : fnOk Tryd.prog 78 = true := by kernel_rfl
theorem co78 : comp Tryd.prog puM 78 = some ic78 := by kernel_rfl
theorem ok81 : fnOk Tryd.prog 81 = true := by kernel_rfl
theorem co81 : comp Tryd.prog puM 81 = some ic81 := by kernel_rfl
theorem ok82 : fnOk Tryd.prog 82 = true := by kernel_rfl
theorem co82 : comp Tryd.prog puM 82 = some ic82 := by kernel_rfl
end Go.Cx.Rb
/- CxFrz -/
namespace Go.Cx
open Go
/-- one part of a result, its new rows told for good -/
def FrzV (news : List V) : V → V → Prop
  | .sl h p i n e _, v => p = [] ∧ i = 0 ∧ ∃ c, news[h]? = some c ∧ isRow e n c ∧ v = .dsl n e c
  | .tcons a b, v => ∃ a' b', v = .tcons a' b' ∧ FrzV news a a' ∧ FrzV news b b'
  | .nsl, v => v = .nsl ∨ ∃ k, v = .dsl 0 1 (.ints k 0 [])
  | v, v' => v.clo = true ∧ v' = v
def Frz (out out' : Out) : Prop := out.news.length ≤ 1000 ∧ out'.objs = out.objs ∧ out'.news = [] ∧ (∀ c ∈ out.news, c.clo = true ∧ c.noown = true) ∧ (∀ c ∈ out.objs, c.clo = true) ∧ FrzV out.news out.v out'.v
theorem outO_mem {b : Nat} {blk : Blk} : ∀ {args : List Arg} {objs : List V} {i : Nat}, (b, blk) ∈ outO i args objs → 100000 ≤ b ∧ blk.k = .own ∧ blk.c ∈ objs := by
  intro args
  induction args with
  | nil => intro objs i h; simp [outO] at h
  | cons a args ih =>
    intro objs i h
    cases a with
    | v _ => exact ih h
    | b _ _ _ => exact ih h
    | o _ _ =>
      cases objs with
      | nil => simp [outO] at h
      | cons c cs =>
        simp only [outO, List.mem_cons, Prod.mk.injEq] at h
        rcases h with ⟨rfl, rfl⟩ | h
        · exact ⟨by simp only [parH]; omega, rfl, by simp⟩
        · obtain ⟨h1, h2, h3⟩ := ih h
          exact ⟨h1, h2, List.mem_cons_of_mem _ h3⟩
theorem outN_at {b : Nat} {blk : Blk} : ∀ {news : List V} {i : Nat}, look (outN i news) b = some blk → i ≤ b ∧ ∃ c, news[b - i]? = some c ∧ blk = ⟨.own, c⟩ := by
  intro news
  induction news with
  | nil => intro i h; simp [outN, look] at h
  | cons c news ih =>
    intro i h
    simp only [outN, look] at h
    split at h
    · rename_i e
      subst e
      simp only [Option.some.injEq] at h
      exact ⟨Nat.le_refl _, c, by simp, h.symm⟩
    · obtain ⟨h1, c', h2, h3⟩ := ih h
      refine ⟨by omega, c', ?_, h3⟩
      rw [show b - i = (b - (i + 1)) + 1 by omega]
      simpa using h2
theorem outN_of {news : List V} {j : Nat} {c : V} (h : news[j]? = some c) : ∀ {i : Nat}, look (outN i news) (i + j) = some ⟨.own, c⟩ := by
  induction news generalizing j with
  | nil => simp at h
  | cons c0 news ih =>
    intro i
    simp only [outN, look]
    cases j with
    | zero =>
      simp at h
      subst h
      simp
    | succ j =>
      rw [if_neg (by omega)]
      have := ih (by simpa using h) (i := i + 1)
      rw [← this]; congr 1; omega
theorem look_app {α : Type} : ∀ {l m : List (Nat × α)} {k : Nat}, look (l ++ m) k = match look l k with | some a => some a | none => look m k := by
  intro l
  induction l with
  | nil => intro m k; rfl
  | cons p l ih =>
    intro m k
    obtain ⟨i, a⟩ := p
    simp only [List.cons_append, look]
    split
    · rfl
    · exact ih
theorem Sound.freezeOk {P : Program} {G : List (Nat × V)} {f : FuncId} {pure : Bool} {c c' : Ctr} (h : Sound P G f pure c) (hc : ∀ args out', okAs args → (c' args).to out' → ∃ out, (c args).to out ∧ Frz out out') : Sound P G f pure c' := by
  refine ⟨h.1, fun args out' vals w F I ρ ow h1 h2 h3 h4 h5 hR hV => ?_⟩
  have hokas : okAs args := okAs_of (i0 := 0) (all := args) (fun i a h => by rwa [Nat.zero_add]) h3 hR (fun i a hi => ⟨_, hV i a hi⟩) h4
  obtain ⟨out, g1, g0, g2, g3, g4, g5, g6⟩ := hc args out' hokas h1
  refine Calls.mono (h.2 args out vals w F I ρ ow g1 h2 h3 h4 h5 hR hV) ?_
  rintro en w' ⟨x, I', ρ', ow', rfl, hx, hR'⟩
  have hr0 : ∀ k l, ρ k = some l → 100000 ≤ k := fun k l hk => by
    rcases Nat.lt_or_ge k 100000 with h | h
    · exfalso
      apply hR.dom k l hk h
      show parHs G pure args k = none
      simp only [parHs]
      rw [if_neg (by omega), if_neg (by omega)]
    · exact h
  have hO : ∀ k blk, look (outO 0 args out.objs) k = some blk → 100000 ≤ k ∧ blk.k = .own ∧ blk.c ∈ out.objs := fun k blk hk => outO_mem (look_mem hk)
  have hlow : ∀ k, k < 100000 → outHs args out k = look (outN 0 out.news) k := fun k hk => by
    simp only [outHs, look_app]
    cases hq : look (outO 0 args out.objs) k with
    | none => rfl
    | some blk => have := (hO k blk hq).1; omega
  have hhigh : ∀ k, 100000 ≤ k → outHs args out k = look (outO 0 args out.objs) k := fun k hk => by
    simp only [outHs, look_app]
    cases hq : look (outO 0 args out.objs) k with
    | none =>
      cases hq2 : look (outN 0 out.news) k with
      | none => rfl
      | some blk =>
        obtain ⟨_, c, e, _⟩ := outN_at hq2
        have := (List.getElem?_eq_some_iff.1 e).1
        omega
    | some blk => rfl
  have hhs' : outHs args out' = look (outO 0 args out.objs) := by
    funext k
    simp only [outHs, g2, g3, outN, List.append_nil]
  let own' : Own := fun b => match ow' b with
    | some (k :: r) => if 100000 ≤ k then some (k :: r) else none
    | _ => none
  let I2 : Nat → Prop := fun b => I' b ∨ ∃ k, k < 100000 ∧ ow' b = some [k]
  let ρ2 : Rho := fun k => if k < 100000 then none else ρ' k
  have hII : ∀ b, I' b → I2 b ∧ w'.heap[b]? = w'.heap[b]? := fun b hb => ⟨.inl hb, rfl⟩
  have keepO : ∀ b k r, ow' b = some (k :: r) → 100000 ≤ k → own' b = some (k :: r) := fun b k r h1 h2 => by
    simp only [own', h1, h2, if_true]
  have hcell : ∀ k c, out.news[k]? = some c → ∀ {e n : Nat} {cap : Option Nat} {v : Value}, isRow e n c → CRep I' w' (fun _ => none) (.sl k [] 0 n e cap) ρ' [] 0 (fun _ => some v) →
      CRep I2 w' (fun _ => none) (.dsl n e c) ρ2 [] 0 (fun _ => some v) := by
    intro k c hk e n cap v hrow hv
    have hkl : k < 100000 := by have := (List.getElem?_eq_some_iff.1 hk).1; omega
    obtain ⟨k1, k2⟩ := g4 c (List.mem_of_getElem? hk)
    have hN : look (outN 0 out.news) k = some ⟨.own, c⟩ := by have := outN_of hk (i := 0); rwa [Nat.zero_add] at this
    have hkk : outHs args out k = some ⟨.own, c⟩ := by rw [hlow k hkl, hN]
    obtain ⟨a, cp, l, j1, j2, j3, j4, _, j5⟩ := hv
    obtain ⟨l', m1, m2⟩ := hR'.heap k _ hkk
    rw [j2] at m1
    cases m1
    have turn : ∀ {q : List Nat} {g : Nat → Option Value}, CRep I' w' ow' c ρ' q 0 g → (∀ j, j < c.size → behind w' a j = g j) → CRep I2 w' (fun _ => none) c noR [] 0 (behind w' a) := fun {q g} m hg => by
      have m4 := CRep.noq _ _ _ [] _ 0 _ k2 m
      exact CRep.noow (ow := ow') (CRep.closed _ _ noR _ _ _ k1 (CRep.mono (g' := behind w' a) hII _ _ _ _ _ _ (Rho.le_refl _) (fun h => absurd rfl h) hg m4))
    refine ⟨a, cp, j1, j3, j4, hrow, ?_, ?_⟩
    · rcases j5 with rfl | ⟨b, off, sz, rfl, rfl, j6⟩
      · obtain rfl : n = 0 := by omega
        have hz : c.size = 0 := isRow_zero hrow
        rcases m2 with ⟨_, _, m3⟩ | ⟨_, _, _, _, _, _, _, _, m3⟩
        · exact turn m3 (fun j hj => by omega)
        · exact turn m3 (fun j hj => by omega)
      · rcases m2 with ⟨m3, _⟩ | ⟨b', off', sz', cur, m3, m4, m5, m6, m7⟩
        · cases m3
        · cases m3
          refine turn m7 (fun j hj => ?_)
          obtain ⟨ty, fr, m9, _⟩ := m5
          simp only [behind, poff, Nat.zero_mul, Nat.add_zero, World.cell?, m9]
          rfl
    · rcases j5 with rfl | ⟨b, off, sz, rfl, rfl, j6⟩
      · exact .inl rfl
      · rcases m2 with ⟨m3, _⟩ | ⟨b', off', sz', cur, m3, m4, m5, m6, m7⟩
        · cases m3
        · cases m3
          exact .inr ⟨b, _, rfl, .inr ⟨k, hkl, m4⟩⟩
  have one : ∀ {v v' : V} {y : Value}, FrzV out.news v v' → v.isTup = false → VRep0 I' w' ρ' v y → VRep0 I2 w' ρ2 v' y := by
    intro v v' y hf ht hy
    have plain : v.clo = true ∧ v' = v → VRep0 I2 w' ρ2 v' y := by
      rintro ⟨k1, rfl⟩
      rcases hy with rfl | ⟨e1, e2, e3⟩
      · exact .inl rfl
      · exact .inr ⟨e1, e2, CRep.closed _ _ _ _ _ _ k1 (CRep.mono hII _ _ _ _ _ _ _ (Rho.le_refl _) (fun h => absurd rfl h) (fun _ _ => rfl) e3)⟩
    cases v <;> first | exact plain hf | (cases ht; done) | skip
    case nsl =>
      rcases hf with rfl | ⟨k, rfl⟩
      · exact plain ⟨rfl, rfl⟩
      · obtain ⟨e1, e2, e3⟩ := hy.leaf (by simp) rfl
        exact VRep0.ofLeaf rfl rfl e1 ⟨none, 0, e3, Nat.le_refl _, by simp, ⟨rfl, rfl⟩, ⟨rfl, by simp, fun j hj => by omega⟩, .inl rfl⟩
    rename_i k p i n e cap
    obtain ⟨rfl, rfl, c, hk, hrow, rfl⟩ := hf
    obtain ⟨e1, e2, e3⟩ := hy.leaf (by simp) rfl
    have e4 : CRep I' w' (fun _ => none) (.sl k [] 0 n e cap) ρ' [] 0 (fun _ => some y) := CRep.mono (fun b hb => ⟨hb, rfl⟩) _ _ _ _ _ _ _ (Rho.le_refl _) (fun h => absurd rfl h) (fun j hj => by simp only [V.size] at hj; obtain rfl : j = 0 := (by omega); rfl) e3
    exact VRep0.ofLeaf rfl rfl e1 (hcell k c hk hrow e4)
  have tup : ∀ {v v' : V} {l : List Value}, FrzV out.news v v' → TRep I' w' ρ' v l → TRep I2 w' ρ2 v' l := by
    intro v
    induction v with
    | tnil => rintro v' l ⟨_, rfl⟩ hl; exact hl
    | tcons a b _ ihb =>
      rintro v' l ⟨a', b', rfl, f1, f2⟩ ⟨y, r, rfl, hy, hr⟩
      refine ⟨y, r, rfl, ?_, ihb f2 hr⟩
      by_cases ht : a.isTup = false
      · exact one f1 ht hy
      · exfalso
        rcases hy with rfl | ⟨_, _, hy⟩
        · exact ht rfl
        · cases a <;> first | exact ht rfl | exact hy.elim
    | _ => intro v' l _ hl; exact hl.elim
  have hval : VRep I2 w' ρ2 out'.v x := by
    generalize out.v = v, out'.v = v' at hx g6
    cases v with
    | tnil => obtain ⟨_, rfl⟩ := g6; exact hx
    | tcons a b =>
      obtain ⟨l, rfl, hl⟩ := hx
      have := tup g6 hl
      obtain ⟨a', b', rfl, _⟩ := g6
      exact ⟨l, rfl, this⟩
    | _ => exact (one g6 rfl hx).up
  refine ⟨x, I2, ρ2, own', rfl, hval, ?_⟩
  exact
    { frame := hR'.frame
      size := hR'.size
      os := hR'.os
      tape := hR'.tape
      output := hR'.output
      iold := fun b hb => .inl (hR'.iold b hb)
      inew := fun b hb => by
        rcases hb with hb | ⟨k, hk, hb⟩
        · exact hR'.inew b hb
        · exact .inr (hR'.owf b _ hb).2.1
      ilt := fun b hb => by
        rcases hb with hb | ⟨k, hk, hb⟩
        · exact hR'.ilt b hb
        · exact (hR'.owf b _ hb).1
      iow := fun b hb => by
        rcases hb with hb | ⟨k, hk, hb⟩
        · simp only [own', hR'.iow b hb]
        · simp only [own', hb]
          rw [if_neg (by omega)]
      owf := fun b q hb => by
        simp only [own'] at hb
        split at hb
        · rename_i k r hk
          split at hb
          · rename_i hge
            cases hb
            obtain ⟨m1, m2, hh, r', c0, m3, m4⟩ := hR'.owf b _ hk
            injection m3 with e1 e2
            subst e1
            refine ⟨m1, m2, k, r, c0, rfl, ?_⟩
            show outHs args out' k = _
            rw [hhs', ← hhigh k hge]
            exact m4
          · cases hb
        · cases hb
      dom := fun k l hk hlt => by
        simp only [ρ2, if_pos hlt] at hk
        cases hk
      glob := fun n => by
        obtain ⟨sz, hg⟩ := hR'.glob n
        refine ⟨sz, ?_⟩
        simp only [ρ2]
        rw [if_neg (by simp only [globH]; omega)]
        exact hg
      tsz := hR'.tsz
      nle := hR'.nle
      rle := fun k l hk => by
        have := hr0 k l hk
        simp only [ρ2]
        rw [if_neg (by omega)]
        exact hR'.rle k l hk
      tmps := fun i => VRep.any _ _ _ _
      heap := fun k blk hk => by
        have hk : outHs args out' k = some blk := hk
        rw [hhs'] at hk
        obtain ⟨hge, hown, hmem⟩ := hO k blk hk
        obtain ⟨l, m1, m2⟩ := hR'.heap k blk (by show outHs args out k = _; rw [hhigh k hge, hk])
        refine ⟨l, by simp only [ρ2]; rw [if_neg (by omega)]; exact m1, ?_⟩
        obtain ⟨bk, bc⟩ := blk
        simp only at hown hmem
        subst hown
        have hclo := g5 _ hmem
        rcases m2 with ⟨rfl, m3, m4⟩ | ⟨b, off, sz, cur, rfl, m3, m4, m5, m6⟩
        · exact .inl ⟨rfl, m3, CRep.reown (ow := ow') _ _ _ _ _ _ _ hclo (fun h => absurd rfl h) (CRep.mono hII _ _ _ _ _ _ _ (Rho.le_refl _) (fun h => absurd rfl h) (fun _ _ => rfl) m4)⟩
        · refine .inr ⟨b, off, sz, cur, rfl, keepO _ _ _ m3 hge, m4, m5, CRep.reown (ow := ow') _ _ _ _ [k] _ _ hclo (fun _ => ⟨by simp, fun b r hr hb => keepO _ _ _ hb hge⟩) (CRep.mono hII _ _ _ _ _ _ _ (Rho.le_refl _) (fun _ b r _ hb => ⟨hb, rfl⟩) (fun _ _ => rfl) m6)⟩ }
theorem Sound.freeze {P : Program} {G : List (Nat × V)} {f : FuncId} {pure : Bool} {c c' : Ctr} (h : Sound P G f pure c) (hc : ∀ args out', (c' args).to out' → ∃ out, (c args).to out ∧ Frz out out') : Sound P G f pure c' :=
  h.freezeOk fun args out' _ => hc args out'
/-- a contract that says less -/
theorem Sound.sub {P : Program} {G : List (Nat × V)} {f : FuncId} {pure : Bool} {c c' : Ctr} (h : Sound P G f pure c) (hc : ∀ args out, (c' args).to out → (c args).to out) : Sound P G f pure c' :=
  ⟨h.1, fun args out vals w F I ρ ow h1 => h.2 args out vals w F I ρ ow (hc args out h1)⟩
end Go.Cx
/- CxL2 -/
namespace Go.Cx
open Go
theorem cast_fix (n : Nat) : (NatCast.natCast n : Int) = (n : Int) := rfl
theorem lt_t {x y : Int} : (ltI x y = true) ↔ x < y := by simp [ltI]
theorem lt_f {x y : Int} : (ltI x y = false) ↔ y ≤ x := by simp [ltI]
theorem le_t {x y : Int} : (leI x y = true) ↔ x ≤ y := by simp [leI]
theorem le_f {x y : Int} : (leI x y = false) ↔ y < x := by simp [leI]
theorem gt_t {x y : Int} : (gtI x y = true) ↔ y < x := by simp [gtI]
theorem gt_f {x y : Int} : (gtI x y = false) ↔ x ≤ y := by simp [gtI]
theorem ge_t {x y : Int} : (geI x y = true) ↔ y ≤ x := by simp [geI]
theorem ge_f {x y : Int} : (geI x y = false) ↔ x < y := by simp [geI]
theorem eq_t {x y : Int} : (eqI x y = true) ↔ x = y := by simp [eqI]
theorem eq_f {x y : Int} : (eqI x y = false) ↔ x ≠ y := by simp [eqI]
theorem ne_t {x y : Int} : (neI x y = true) ↔ x ≠ y := by simp [neI]
theorem ne_f {x y : Int} : (neI x y = false) ↔ x = y := by simp [neI]
theorem eqL_t {x y : List Int} : (eqL x y = true) ↔ x = y := by simp [eqL]
theorem eqL_f {x y : List Int} : (eqL x y = false) ↔ x ≠ y := by simp [eqL]
theorem eqB_t {x y : Bool} : (eqB x y = true) ↔ x = y := by simp [eqB]
theorem eqB_f {x y : Bool} : (eqB x y = false) ↔ x ≠ y := by simp [eqB]
theorem notB_t {x : Bool} : (notB x = true) ↔ x = false := by simp [notB]
theorem notB_f {x : Bool} : (notB x = false) ↔ x = true := by simp [notB]
end Go.Cx
/- CxbSpec -/
namespace Go.Cx.Rb
open Go Go.Cx
def kk : List Int := [1116352408, 1899447441, 3049323471, 3921009573, 961987163, 1508970993, 2453635748, 2870763221, 3624381080, 310598401, 607225278, 1426881987, 1925078388, 2162078206, 2614888103, 3248222580, 3835390401, 4022224774, 264347078, 604807628, 770255983, 1249150122, 1555081692, 1996064986, 2554220882, 2821834349, 2952996808, 3210313671, 3336571891, 3584528711, 113926993, 338241895, 666307205, 773529912, 1294757372, 1396182291, 1695183700, 1986661051, 2177026350, 2456956037, 2730485921, 2820302411, 3259730800, 3345764771, 3516065817, 3600352804, 4094571909, 275423344, 430227734, 506948616, 659060556, 883997877, 958139571, 1322822218, 1537002063, 1747873779, 1955562222, 2024104815, 2227730452, 2361852424, 2428436474, 2756734187, 3204031479, 3329325298]
def iv : List Int := [1779033703, 3144134277, 1013904242, 2773480762, 1359893119, 2600822924, 528734635, 1541459225]
/-- a word turned right -/
def rr (x n : Int) : Int := bor .u32 (bshr .u32 x n) (bshl .u32 x (wsub .u64 32 n))
/-- the word that stands at a place -/
def wordS (b : List Int) (i : Nat) : Int :=
  bor .u32 (bor .u32 (bor .u32 (bshl .u32 (wcv .u32 (nthI b i)) 24) (bshl .u32 (wcv .u32 (nthI b (i + 1))) 16)) (bshl .u32 (wcv .u32 (nthI b (i + 2))) 8)) (wcv .u32 (nthI b (i + 3)))
def s0 (x : Int) : Int := bxor .u32 (bxor .u32 (rr x 7) (rr x 18)) (bshr .u32 x 3)
def s1 (x : Int) : Int := bxor .u32 (bxor .u32 (rr x 17) (rr x 19)) (bshr .u32 x 10)
def mix (w : List Int) (k : Nat) : Int := wadd .u32 (wadd .u32 (wadd .u32 (nthI w (k - 16)) (s0 (nthI w (k - 15)))) (nthI w (k - 7))) (s1 (nthI w (k - 2)))
/-- the first words of a piece -/
def schedL (b : List Int) : Nat → List Int
  | 0 => []
  | k + 1 => schedL b k ++ [if k < 16 then wordS b (4 * k) else mix (schedL b k) k]
def t1 (v : List Int) (k w : Int) : Int :=
  wadd .u32 (wadd .u32 (wadd .u32 (wadd .u32 (nthI v 7) (bxor .u32 (bxor .u32 (rr (nthI v 4) 6) (rr (nthI v 4) 11)) (rr (nthI v 4) 25)))
    (bxor .u32 (band .u32 (nthI v 4) (nthI v 5)) (band .u32 (bcpl .u32 (nthI v 4)) (nthI v 6)))) k) w
def t2 (v : List Int) : Int :=
  wadd .u32 (bxor .u32 (bxor .u32 (rr (nthI v 0) 2) (rr (nthI v 0) 13)) (rr (nthI v 0) 22))
    (bxor .u32 (bxor .u32 (band .u32 (nthI v 0) (nthI v 1)) (band .u32 (nthI v 0) (nthI v 2))) (band .u32 (nthI v 1) (nthI v 2)))
def rnd (v : List Int) (k w : Int) : List Int :=
  [wadd .u32 (t1 v k w) (t2 v), nthI v 0, nthI v 1, nthI v 2, wadd .u32 (nthI v 3) (t1 v k w), nthI v 4, nthI v 5, nthI v 6]
def rndL (h w : List Int) : Nat → List Int
  | 0 => h
  | i + 1 => rnd (rndL h w i) (nthI kk i) (nthI w i)
def addL (h v : List Int) : List Int := (List.range 8).map fun i => wadd .u32 (nthI h i) (nthI v i)
/-- a piece of 64 bytes gone through -/
def piece (h b : List Int) : List Int := addL h (rndL h (schedL b 64) 64)
/-- k pieces -/
def blk (h b : List Int) : Nat → List Int
  | 0 => h
  | k + 1 => piece (blk h b k) (b.drop (64 * k))
def outB (h : List Int) (i : Nat) : Int := wcv .u8 (bshr .u32 (nthI h (i / 4)) (24 - 8 * (i % 4 : Nat)))
/-- the digest's bytes -/
def outL (h : List Int) : List Int := (List.range 32).map (outB h)
def lenB (n : Nat) (i : Nat) : Int := wcv .u8 (bshr .u64 (wmul .u64 n 8) (56 - 8 * (i : Int)))
/-- what stands behind n bytes -/
def padL (n : Nat) : List Int := 128 :: List.replicate ((119 - n % 64) % 64) 0 ++ (List.range 8).map (lenB n)
def digest (b : List Int) : List Int := outL (blk iv (b ++ padL b.length) ((b ++ padL b.length).length / 64))
end Go.Cx.Rb
/- CxbM1 -/
namespace Go.Cx.Rb
open Go Go.Cx Go.Proofs
def lenL (l : List (List Int)) : Nat := l.length
def getL (l : List (List Int)) (t : Nat) : List Int := l.getD t []
/-- the levels of a tree, told -/
def levV (ap : AP) (L : Nat → List (List Int)) (j : Nat) : V := .rows 32 (ap _ _ lenL (ap _ _ L j)) fun t => .ints .u8 32 (ap _ _ (ap _ _ getL (ap _ _ L j)) t)
def isLv (f : Nat → V) : Prop := ∃ L, f = levV apf L
open Classical in
noncomputable def unLv (f : Nat → V) : Nat → List (List Int) := if h : isLv f then Classical.choose h else fun _ => []
theorem unLv_s {f : Nat → V} (h : isLv f) : f = levV apf (unLv f) := by
  unfold unLv
  rw [dif_pos h]
  exact Classical.choose_spec h
def treeA (ap : AP) (n : Nat) (L : Nat → List (List Int)) : V := .osl n 1 (.orow n 32 (levV ap L) [])
noncomputable def cSizeT (ap : AP) : Ctr
  | [.v .nilp] => .ok ⟨.int .i64 0, [], []⟩
  | [.o (.osl n 1 (.orow m 32 f [])) none] => .chk (ap _ _ (ap _ _ eqN n) m) <| .chk (ap _ _ isLv f) <| .chk (ap _ _ (ap _ _ ltN 0) m) <| .ok ⟨.int .i64 (ap _ _ lenI (ap _ _ lenL (ap _ _ (ap _ _ unLv f) 0))), [treeA ap m (ap _ _ unLv f)], []⟩
  | _ => .fail 600
theorem rowsO_upd {n j : Nat} {o : List Nat} {f : Nat → V} {v : V} (h : f j = v) : eqRowsO n o f (updR f j v) := by
  intro i _ _
  by_cases e : i = j
  · subst e; rw [h]; simp [updR]
  · simp [updR, e]
set_option maxRecDepth 20000 in
set_option maxHeartbeats 1000000 in
theorem vc26 (args : List Arg) (out : Out) (h : (cSizeT apf args).to out) (hok : okAs args) :
    args.length = ic26.nargs ∧ ic26.nargs ≤ ic26.ntmps ∧ ∃ A, run apf [] A ic26.body (fnQ apf args out ic26.res) (st0 [] (puM 26) args) := by
  unfold cSizeT at h
  split at h
  · cases h
    refine ⟨rfl, by decide, [], ?_⟩
    generalize hap : apf = ap
    cbv
    repeat' first
      | exact True.intro
      | with_reducible refine And.intro ?_ ?_
      | fail
    all_goals subst hap
    all_goals exact rfl
  · rename_i n m f
    obtain ⟨h1, h2, h3, h⟩ := h
    cases h
    obtain rfl : n = m := h1
    have h2 : isLv f := h2
    generalize hL : apf _ _ unLv f = L
    have hf : f = levV apf L := by rw [← hL]; exact unLv_s h2
    subst hf
    refine ⟨rfl, by decide, [], ?_⟩
    clear hok
    generalize hap : apf = ap
    cbv
    repeat' first
      | exact True.intro
      | with_reducible refine And.intro ?_ ?_
      | fail
    all_goals subst hap
    all_goals first
      | exact h3
      | exact rfl
      | (show _ ∉ _; exact List.not_mem_nil)
      | (simp only [apf, leN, addN, V.cnt, Nat.zero_add, Nat.le_refl]; done)
      | (simp only [apf, ltN, addN] at *; simpa using h3)
      | exact rowsO_upd rfl
      | trace_state
  · exact h.elim
theorem s26 : Sound Tryd.prog [] 26 (puM 26) (cSizeT apf) := fn_sound rfl Tryd.call26 ok26 co26 env_nil vc26
end Go.Cx.Rb
/- CxbM2 -/
namespace Go.Cx.Rb
open Go Go.Cx Go.Proofs
def hasT (l : List (List Int)) (i : Int) : Int := if i < 0 ∨ (l.length : Int) ≤ i then 2 else 0
noncomputable def cHasT (ap : AP) : Ctr
  | [.v .nilp, .v (.int .i64 _)] => .ok ⟨.int .i64 1, [], []⟩
  | [.o (.osl n 1 (.orow m 32 f [])) none, .v (.int .i64 i)] => .chk (ap _ _ (ap _ _ eqN n) m) <| .chk (ap _ _ isLv f) <| .chk (ap _ _ (ap _ _ ltN 0) m) <|
      .ok ⟨.int .i64 (ap _ _ (ap _ _ hasT (ap _ _ (ap _ _ unLv f) 0)) i), [treeA ap m (ap _ _ unLv f)], []⟩
  | _ => .fail 601
set_option maxRecDepth 20000 in
set_option maxHeartbeats 1000000 in
theorem vc77 (args : List Arg) (out : Out) (h : (cHasT apf args).to out) (hok : okAs args) :
    args.length = ic77.nargs ∧ ic77.nargs ≤ ic77.ntmps ∧ ∃ A, run apf [(26, cSizeT apf)] A ic77.body (fnQ apf args out ic77.res) (st0 [] (puM 77) args) := by
  unfold cHasT at h
  split at h
  · cases h
    refine ⟨rfl, by decide, [], ?_⟩
    clear hok
    generalize hap : apf = ap
    cbv
    repeat' first
      | exact True.intro
      | with_reducible refine And.intro ?_ ?_
      | fail
    all_goals subst hap
    all_goals exact rfl
  · rename_i n m f i
    obtain ⟨h1, h2, h3, h⟩ := h
    cases h
    obtain rfl : n = m := h1
    have h2 : isLv f := h2
    generalize hL : apf _ _ unLv f = L
    have hf : f = levV apf L := by rw [← hL]; exact unLv_s h2
    have hLL : unLv (levV apf L) = L := by rw [← hf]; exact hL
    clear hL
    subst hf
    refine ⟨rfl, by decide, [], ?_⟩
    clear hok
    generalize hap : apf = ap
    cbv
    repeat' first
      | exact True.intro
      | (intro (hh : _ = true); first | with_reducible exact absurd hh (bk_t (by assumption)) | cbv)
      | (intro (hh : _ = false); first | with_reducible exact absurd hh (bk_f (by assumption)) | cbv)
      | with_reducible refine And.intro ?_ ?_
      | fail
    all_goals subst hap
    all_goals try simp only [apf, hLL, cmF, eqI', ltN, eqN, addN, leN] at *
    all_goals first
      | exact h2
      | exact h3
      | exact rfl
      | (show _ ∉ _; exact List.not_mem_nil)
      | (show 0 + n ≤ n; omega)
      | exact fun _ _ _ => rfl
      | (have h8 : ltI i 0 = true := by assumption
         exact if_pos (.inl (of_decide_eq_true h8)))
      | (have h8 : geI i (lenI (lenL (L 0))) = true := by assumption
         exact if_pos (.inr (of_decide_eq_true h8)))
      | (have h8 : ltI i 0 = false := by assumption
         have h9 : geI i (lenI (lenL (L 0))) = false := by assumption
         exact if_neg (fun k => k.elim (of_decide_eq_false h8) (of_decide_eq_false h9)))
      | trace_state
  · exact h.elim
theorem s77 : Sound Tryd.prog [] 77 (puM 77) (cHasT apf) := fn_sound rfl Tryd.call77 ok77 co77 (env_cons s26 env_nil) vc77
end Go.Cx.Rb
/- CxbM3 -/
namespace Go.Cx.Rb
open Go Go.Cx Go.Proofs
def topT (L : Nat → List (List Int)) (n : Nat) : List Int := getL (L (n - 1)) 0
def posT (L : Nat → List (List Int)) (n : Nat) : Prop := 0 < n ∧ n ≤ 1000 ∧ ∀ j, j < n → 0 < (L j).length
noncomputable def cRootT (ap : AP) : Ctr
  | [.v .nilp] => .ok ⟨.tcons (.ints .u8 32 (ap _ _ zerosI 32)) (.tcons (.int .i64 1) .tnil), [], []⟩
  | [.o (.osl n 1 (.orow m 32 f [])) none] => .chk (ap _ _ (ap _ _ eqN n) m) <| .chk (ap _ _ isLv f) <| .chk (ap _ _ (ap _ _ posT (ap _ _ unLv f)) m) <|
      .ok ⟨.tcons (.ints .u8 32 (ap _ _ (ap _ _ topT (ap _ _ unLv f)) m)) (.tcons (.int .i64 0) .tnil), [treeA ap m (ap _ _ unLv f)], []⟩
  | _ => .fail 602
set_option maxRecDepth 20000 in
set_option maxHeartbeats 1000000 in
theorem vc23 (args : List Arg) (out : Out) (h : (cRootT apf args).to out) (hok : okAs args) :
    args.length = ic23.nargs ∧ ic23.nargs ≤ ic23.ntmps ∧ ∃ A, run apf [] A ic23.body (fnQ apf args out ic23.res) (st0 [] (puM 23) args) := by
  unfold cRootT at h
  split at h
  · cases h
    refine ⟨rfl, by decide, [], ?_⟩
    clear hok
    generalize hap : apf = ap
    cbv
    repeat' first
      | exact True.intro
      | with_reducible refine And.intro ?_ ?_
      | fail
    all_goals subst hap
    all_goals first
      | exact rfl
      | trace_state
  · rename_i n m f
    obtain ⟨h1, h2, h3, h⟩ := h
    cases h
    obtain rfl : n = m := h1
    have h2 : isLv f := h2
    have h3 : posT (unLv f) n := h3
    generalize hL : apf _ _ unLv f = L
    have hL2 : unLv f = L := hL
    have hf : f = levV apf L := by rw [← hL]; exact unLv_s h2
    rw [hL2] at h3
    clear hL hL2
    subst hf
    refine ⟨rfl, by decide, [], ?_⟩
    clear hok
    generalize hap : apf = ap
    cbv
    repeat' first
      | exact True.intro
      | with_reducible refine And.intro ?_ ?_
      | fail
    all_goals subst hap
    all_goals try simp only [apf, eqI', eqL', ltN, eqN, addN, leN, Nat.zero_add] at *
    all_goals first
      | exact rowsO_upd rfl
      | (obtain ⟨p1, p2, p3⟩ : posT L n := by assumption
         have e : arF .sub .i64 (lenI n) 1 = ((n - 1 : Nat) : Int) := by
           show wsub .i64 (n : Int) 1 = _
           rw [wsub_i64 (by omega)]
           omega
         rw [e]
         first
           | exact Int.natCast_nonneg _
           | (rw [natI, Int.toNat_natCast]; omega)
           | (rw [natI, Int.toNat_natCast]; exact p3 (n - 1) (by omega))
           | (rw [natI, Int.toNat_natCast]; rfl))
      | exact h2
      | exact h3.1
      | exact rfl
      | exact Nat.le_refl _
      | (show _ ∉ _; exact List.not_mem_nil)
      | exact fun _ _ _ => rfl
      | trace_state
  · exact h.elim
theorem s23 : Sound Tryd.prog [] 23 (puM 23) (cRootT apf) := fn_sound rfl Tryd.call23 ok23 co23 env_nil vc23
end Go.Cx.Rb
/- CxbM4 -/
namespace Go.Cx.Rb
open Go Go.Cx Go.Proofs
def leafT (l : List (List Int)) (i : Int) : List Int := if i < 0 ∨ (l.length : Int) ≤ i then zerosI 32 else getL l i.toNat
noncomputable def cLeafT (ap : AP) : Ctr
  | [.v .nilp, .v (.int .i64 _)] => .ok ⟨.tcons (.ints .u8 32 (ap _ _ zerosI 32)) (.tcons (.int .i64 1) .tnil), [], []⟩
  | [.o (.osl n 1 (.orow m 32 f [])) none, .v (.int .i64 i)] => .chk (ap _ _ (ap _ _ eqN n) m) <| .chk (ap _ _ isLv f) <| .chk (ap _ _ (ap _ _ ltN 0) m) <|
      .ok ⟨.tcons (.ints .u8 32 (ap _ _ (ap _ _ leafT (ap _ _ (ap _ _ unLv f) 0)) i)) (.tcons (.int .i64 (ap _ _ (ap _ _ hasT (ap _ _ (ap _ _ unLv f) 0)) i)) .tnil), [treeA ap m (ap _ _ unLv f)], []⟩
  | _ => .fail 603
theorem hasT_in {l : List (List Int)} {i : Int} (h : neI (hasT l i) 0 = false) : 0 ≤ i ∧ i < l.length ∧ hasT l i = 0 ∧ leafT l i = getL l i.toNat := by
  have h : hasT l i = 0 := ne_f.1 h
  by_cases k : i < 0 ∨ (l.length : Int) ≤ i
  · rw [hasT, if_pos k] at h; cases h
  · exact ⟨by omega, by omega, h, if_neg k⟩
theorem hasT_out {l : List (List Int)} {i : Int} (h : neI (hasT l i) 0 = true) : leafT l i = zerosI 32 := by
  by_cases k : i < 0 ∨ (l.length : Int) ≤ i
  · exact if_pos k
  · rw [hasT, if_neg k] at h
    exact absurd h (by decide)
set_option maxRecDepth 20000 in
set_option maxHeartbeats 1000000 in
theorem vc27 (args : List Arg) (out : Out) (h : (cLeafT apf args).to out) (hok : okAs args) :
    args.length = ic27.nargs ∧ ic27.nargs ≤ ic27.ntmps ∧ ∃ A, run apf [(77, cHasT apf)] A ic27.body (fnQ apf args out ic27.res) (st0 [] (puM 27) args) := by
  unfold cLeafT at h
  split at h
  · cases h
    refine ⟨rfl, by decide, [], ?_⟩
    clear hok
    generalize hap : apf = ap
    cbv
    repeat' first
      | exact True.intro
      | (intro (hh : _ = true); first | with_reducible exact absurd hh (bk_t (by assumption)) | cbv)
      | (intro (hh : _ = false); first | with_reducible exact absurd hh (bk_f (by assumption)) | cbv)
      | with_reducible refine And.intro ?_ ?_
      | fail
    all_goals subst hap
    all_goals first
      | exact rfl
      | (exfalso
         have h8 : neI 1 0 = false := by assumption
         exact absurd h8 (by decide))
      | trace_state
  · rename_i n m f i
    obtain ⟨h1, h2, h3, h⟩ := h
    cases h
    obtain rfl : n = m := h1
    have h2 : isLv f := h2
    generalize hL : apf _ _ unLv f = L
    have hf : f = levV apf L := by rw [← hL]; exact unLv_s h2
    have hLL : unLv (levV apf L) = L := by rw [← hf]; exact hL
    clear hL
    subst hf
    refine ⟨rfl, by decide, [], ?_⟩
    clear hok
    generalize hap : apf = ap
    cbv
    repeat' first
      | exact True.intro
      | (intro (hh : _ = true); first | with_reducible exact absurd hh (bk_t (by assumption)) | cbv)
      | (intro (hh : _ = false); first | with_reducible exact absurd hh (bk_f (by assumption)) | cbv)
      | with_reducible refine And.intro ?_ ?_
      | fail
    all_goals subst hap
    all_goals try simp only [apf, hLL, cmF, eqI', eqL', ltN, eqN, addN, leN, Nat.zero_add] at *
    all_goals first
      | exact h2
      | exact h3
      | exact rfl
      | exact Nat.le_refl _
      | (show _ ∉ _; exact List.not_mem_nil)
      | exact fun _ _ _ => rfl
      | exact rowsO_upd rfl
      | (have h8 := hasT_in (l := L 0) (i := i) (by assumption)
         first
           | exact h8.1
           | (show i.toNat < (L 0).length; omega)
           | exact h8.2.2.1
           | exact h8.2.2.2
           | exact h8.2.2.2.symm)
      | exact hasT_out (by assumption)
      | trace_state
  · exact h.elim
theorem s27 : Sound Tryd.prog [] 27 (puM 27) (cLeafT apf) := fn_sound rfl Tryd.call27 ok27 co27 (env_cons s77 env_nil) vc27
end Go.Cx.Rb
/- CxbCodeA -/
namespace Go.Cx.Rb
open Go Go.Cx Go.Proofs
def ic79 : IFn := ⟨1,16,[.cell 2 32 true],
  (.seq (.reg [3,0,4,2] [⟨some 2,none,.alloc (.ints .u8 32)⟩])
  (.seq (.reg [3,0,4,2] [⟨some 6,none,.call 136 true []⟩,⟨some 3,none,.mv (.t 6)⟩])
  (.seq (.reg [3,0,4,2] [⟨some 7,none,.mv (.t 3)⟩,⟨some 8,none,.mv (.t 0)⟩,⟨some 9,none,.call 137 false [((.t 7),.v),((.t 8),.b (.i .u8))]⟩])
  (.seq (.reg [3,0,4,2] [⟨some 11,none,.mv (.t 3)⟩,⟨some 12,none,.call 138 false [((.t 11),.v)]⟩,⟨some 10,none,.mv (.t 12)⟩,⟨some 13,none,.ext 0 (.t 10)⟩,⟨some 14,none,.ext 1 (.t 10)⟩,⟨some 4,none,.alloc (.ints .u8 32)⟩,⟨none,none,.st 32 (.t 4) (.t 13)⟩,⟨some 5,none,.mv (.t 14)⟩])
  (.seq (.reg [3,0,4,2] [⟨some 15,none,.ld 32 true (.t 4)⟩,⟨none,none,.st 32 (.t 2) (.t 15)⟩])
  .ret)))))⟩
def ic80 : IFn := ⟨1,225,[.cell 2 32 true],
  (.seq (.reg [3,0,6,4,27,7,31,5,8,38,9,61,10,11,12,13,108,16,177,14,15,17,196,19,208,18,2] [⟨some 2,none,.alloc (.ints .u8 32)⟩])
  (.seq (.reg [3,0,6,4,27,7,31,5,8,38,9,61,10,11,12,13,108,16,177,14,15,17,196,19,208,18,2] [⟨some 20,none,.bldA (.i .u32) 8 [(0,(.c (.lit .u32 1779033703))),(1,(.c (.lit .u32 3144134277))),(2,(.c (.lit .u32 1013904242))),(3,(.c (.lit .u32 2773480762))),(4,(.c (.lit .u32 1359893119))),(5,(.c (.lit .u32 2600822924))),(6,(.c (.lit .u32 528734635))),(7,(.c (.lit .u32 1541459225)))]⟩,⟨some 3,none,.alloc (.ints .u32 8)⟩,⟨none,none,.st 8 (.t 3) (.t 20)⟩])
  (.seq (.reg [3,0,6,4,27,7,31,5,8,38,9,61,10,11,12,13,108,16,177,14,15,17,196,19,208,18,2] [⟨some 21,none,.mv (.t 0)⟩,⟨some 22,none,.call 139 true [((.t 21),.b (.i .u8))]⟩,⟨some 4,none,.mv (.t 22)⟩])
  (.seq (.reg [3,0,6,4,27,7,31,5,8,38,9,61,10,11,12,13,108,16,177,14,15,17,196,19,208,18,2] [⟨some 23,none,.mks (.i .u32) 4 (.c (.lit .i64 64))⟩,⟨some 5,none,.mv (.t 23)⟩])
  (.seq (.seq (.reg [3,0,6,4,27,7,31,5,8,38,9,61,10,11,12,13,108,16,177,14,15,17,196,19,208,18,2] [⟨some 6,none,.mv (.c (.lit .i64 0))⟩])
  (.block 0 (.loop 0 (.seq (.seq (.reg [3,0,6,4,27,7,31,5,8,38,9,61,10,11,12,13,108,16,177,14,15,17,196,19,208,18,2] [⟨some 24,none,.mv (.t 6)⟩,⟨some 25,none,.mv (.t 4)⟩,⟨some 26,none,.lenS (.t 25)⟩,⟨some 27,none,.cmp .lss (.t 24) (.t 26)⟩])
   (.cond (.t 27)
     .skip
     (.exit 0)))
   (.seq (.block 1 (.seq (.seq (.reg [3,0,6,4,27,7,31,5,8,38,9,61,10,11,12,13,108,16,177,14,15,17,196,19,208,18,2] [⟨some 7,none,.mv (.c (.lit .i64 0))⟩])
   (.block 2 (.loop 1 (.seq (.seq (.reg [3,0,6,4,27,7,31,5,8,38,9,61,10,11,12,13,108,16,177,14,15,17,196,19,208,18,2] [⟨some 30,none,.mv (.t 7)⟩,⟨some 31,none,.cmp .lss (.t 30) (.c (.lit .i64 16))⟩])
    (.cond (.t 31)
      .skip
      (.exit 2)))
    (.seq (.block 3 (.seq (.reg [3,0,6,4,27,7,31,5,8,38,9,61,10,11,12,13,108,16,177,14,15,17,196,19,208,18,2] [⟨some 34,none,.mv (.t 5)⟩,⟨some 35,none,.mv (.t 7)⟩,⟨some 36,none,.iaS 1 (.t 34) (.t 35)⟩,⟨none,none,.st 1 (.t 36) (.c (.lit .u32 0))⟩])
    (.seq (.reg [3,0,6,4,27,7,31,5,8,38,9,61,10,11,12,13,108,16,177,14,15,17,196,19,208,18,2] [⟨some 8,none,.mv (.c (.lit .i64 0))⟩])
    (.block 4 (.loop 2 (.seq (.seq (.reg [3,0,6,4,27,7,31,5,8,38,9,61,10,11,12,13,108,16,177,14,15,17,196,19,208,18,2] [⟨some 37,none,.mv (.t 8)⟩,⟨some 38,none,.cmp .lss (.t 37) (.c (.lit .i64 4))⟩])
     (.cond (.t 38)
       .skip
       (.exit 4)))
     (.seq (.block 5 (.dreg [3,0,6,4,27,7,31,5,8,38,9,61,10,11,12,13,108,16,177,14,15,17,196,19,208,18,2] [⟨⟨some 41,none,.mv (.t 5)⟩,[],[],none⟩,⟨⟨some 42,none,.mv (.t 7)⟩,[],[],none⟩,⟨⟨some 43,none,.mv (.t 5)⟩,[],[],none⟩,⟨⟨some 44,none,.mv (.t 7)⟩,[],[],none⟩,⟨⟨some 45,none,.iaS 1 (.t 43) (.t 44)⟩,[],[],none⟩,⟨⟨some 46,none,.ld 1 false (.t 45)⟩,[],[],none⟩,⟨⟨some 47,none,.shf .shl .u32 (.t 46) (.c (.lit .u64 8))⟩,[],[],none⟩,⟨⟨some 48,none,.mv (.t 4)⟩,[],[],none⟩,⟨⟨some 49,none,.mv (.t 6)⟩,[],[],none⟩,⟨⟨some 50,none,.mv (.t 7)⟩,[],[],none⟩,⟨⟨some 51,none,.ar .mul .i64 (.c (.lit .i64 4)) (.t 50)⟩,[],[],none⟩,⟨⟨some 52,none,.ar .add .i64 (.t 49) (.t 51)⟩,[],[],none⟩,⟨⟨some 53,none,.mv (.t 8)⟩,[],[],none⟩,⟨⟨some 54,none,.ar .add .i64 (.t 52) (.t 53)⟩,[],[],none⟩,⟨⟨some 55,none,.iaS 1 (.t 48) (.t 54)⟩,[],[],none⟩,⟨⟨some 56,none,.ld 1 false (.t 55)⟩,[],[],none⟩,⟨⟨some 57,none,.cv .u32 (.t 56)⟩,[],[],none⟩,⟨⟨some 58,none,.ar .or .u32 (.t 47) (.t 57)⟩,[],[],none⟩,⟨⟨some 59,none,.iaS 1 (.t 41) (.t 42)⟩,[],[],none⟩,⟨⟨none,none,.st 1 (.t 59) (.t 58)⟩,[],[],none⟩]))
     (.reg [3,0,6,4,27,7,31,5,8,38,9,61,10,11,12,13,108,16,177,14,15,17,196,19,208,18,2] [⟨some 39,none,.mv (.t 8)⟩,⟨some 40,none,.ar .add .i64 (.t 39) (.c (.lit .i64 1))⟩,⟨some 8,none,.mv (.t 40)⟩]))))))))
    (.reg [3,0,6,4,27,7,31,5,8,38,9,61,10,11,12,13,108,16,177,14,15,17,196,19,208,18,2] [⟨some 32,none,.mv (.t 7)⟩,⟨some 33,none,.ar .add .i64 (.t 32) (.c (.lit .i64 1))⟩,⟨some 7,none,.mv (.t 33)⟩]))))))
   (.seq (.seq (.reg [3,0,6,4,27,7,31,5,8,38,9,61,10,11,12,13,108,16,177,14,15,17,196,19,208,18,2] [⟨some 9,none,.mv (.c (.lit .i64 16))⟩])
   (.block 6 (.loop 3 (.seq (.seq (.reg [3,0,6,4,27,7,31,5,8,38,9,61,10,11,12,13,108,16,177,14,15,17,196,19,208,18,2] [⟨some 60,none,.mv (.t 9)⟩,⟨some 61,none,.cmp .lss (.t 60) (.c (.lit .i64 64))⟩])
    (.cond (.t 61)
      .skip
      (.exit 6)))
    (.seq (.block 7 (.seq (.reg [3,0,6,4,27,7,31,5,8,38,9,61,10,11,12,13,108,16,177,14,15,17,196,19,208,18,2] [⟨some 64,none,.mv (.t 5)⟩,⟨some 65,none,.mv (.t 9)⟩,⟨some 66,none,.ar .sub .i64 (.t 65) (.c (.lit .i64 15))⟩,⟨some 67,none,.iaS 1 (.t 64) (.t 66)⟩,⟨some 68,none,.ld 1 false (.t 67)⟩,⟨some 10,none,.mv (.t 68)⟩])
    (.seq (.reg [3,0,6,4,27,7,31,5,8,38,9,61,10,11,12,13,108,16,177,14,15,17,196,19,208,18,2] [⟨some 69,none,.mv (.t 5)⟩,⟨some 70,none,.mv (.t 9)⟩,⟨some 71,none,.ar .sub .i64 (.t 70) (.c (.lit .i64 2))⟩,⟨some 72,none,.iaS 1 (.t 69) (.t 71)⟩,⟨some 73,none,.ld 1 false (.t 72)⟩,⟨some 11,none,.mv (.t 73)⟩])
    (.dreg [3,0,6,4,27,7,31,5,8,38,9,61,10,11,12,13,108,16,177,14,15,17,196,19,208,18,2] [⟨⟨some 74,none,.mv (.t 5)⟩,[82,10082,20082,30082,40082,50082,60082,70082,80082,90082,84,10084,20084,30084,40084,50084,60084,70084,80084,90084,97,10097,20097,30097,40097,50097,60097,70097,80097,90097,99,10099,20099,30099,40099,50099,60099,70099,80099,90099],[],none⟩,⟨⟨some 75,none,.mv (.t 9)⟩,[82,10082,20082,30082,40082,50082,60082,70082,80082,90082,84,10084,20084,30084,40084,50084,60084,70084,80084,90084,97,10097,20097,30097,40097,50097,60097,70097,80097,90097,99,10099,20099,30099,40099,50099,60099,70099,80099,90099],[],none⟩,⟨⟨some 76,none,.mv (.t 5)⟩,[82,10082,20082,30082,40082,50082,60082,70082,80082,90082,84,10084,20084,30084,40084,50084,60084,70084,80084,90084,97,10097,20097,30097,40097,50097,60097,70097,80097,90097,99,10099,20099,30099,40099,50099,60099,70099,80099,90099],[],none⟩,⟨⟨some 77,none,.mv (.t 9)⟩,[82,10082,20082,30082,40082,50082,60082,70082,80082,90082,84,10084,20084,30084,40084,50084,60084,70084,80084,90084,97,10097,20097,30097,40097,50097,60097,70097,80097,90097,99,10099,20099,30099,40099,50099,60099,70099,80099,90099],[],none⟩,⟨⟨some 78,none,.ar .sub .i64 (.t 77) (.c (.lit .i64 16))⟩,[82,10082,20082,30082,40082,50082,60082,70082,80082,90082,84,10084,20084,30084,40084,50084,60084,70084,80084,90084,97,10097,20097,30097,40097,50097,60097,70097,80097,90097,99,10099,20099,30099,40099,50099,60099,70099,80099,90099],[],none⟩,⟨⟨some 79,none,.iaS 1 (.t 76) (.t 78)⟩,[82,10082,20082,30082,40082,50082,60082,70082,80082,90082,84,10084,20084,30084,40084,50084,60084,70084,80084,90084,97,10097,20097,30097,40097,50097,60097,70097,80097,90097,99,10099,20099,30099,40099,50099,60099,70099,80099,90099],[],none⟩,⟨⟨some 80,none,.ld 1 false (.t 79)⟩,[82,10082,20082,30082,40082,50082,60082,70082,80082,90082,84,10084,20084,30084,40084,50084,60084,70084,80084,90084,97,10097,20097,30097,40097,50097,60097,70097,80097,90097,99,10099,20099,30099,40099,50099,60099,70099,80099,90099],[],none⟩,⟨⟨some 81,none,.mv (.t 10)⟩,[],[],none⟩,⟨⟨some 82,none,.call 140 true [((.t 81),.v),((.c (.lit .u64 7)),.v)]⟩,[],[],none⟩,⟨⟨some 83,none,.mv (.t 10)⟩,[82,10082,20082,30082,40082,50082,60082,70082,80082,90082],[],none⟩,⟨⟨some 84,none,.call 140 true [((.t 83),.v),((.c (.lit .u64 18)),.v)]⟩,[],[],none⟩,⟨⟨some 85,none,.ar .xor .u32 (.t 82) (.t 84)⟩,[97,10097,20097,30097,40097,50097,60097,70097,80097,90097,99,10099,20099,30099,40099,50099,60099,70099,80099,90099],[],none⟩,⟨⟨some 86,none,.mv (.t 10)⟩,[82,10082,20082,30082,40082,50082,60082,70082,80082,90082,84,10084,20084,30084,40084,50084,60084,70084,80084,90084,97,10097,20097,30097,40097,50097,60097,70097,80097,90097,99,10099,20099,30099,40099,50099,60099,70099,80099,90099],[],none⟩,⟨⟨some 87,none,.shf .shr .u32 (.t 86) (.c (.lit .u64 3))⟩,[82,10082,20082,30082,40082,50082,60082,70082,80082,90082,84,10084,20084,30084,40084,50084,60084,70084,80084,90084,97,10097,20097,30097,40097,50097,60097,70097,80097,90097,99,10099,20099,30099,40099,50099,60099,70099,80099,90099],[],none⟩,⟨⟨some 88,none,.ar .xor .u32 (.t 85) (.t 87)⟩,[97,10097,20097,30097,40097,50097,60097,70097,80097,90097,99,10099,20099,30099,40099,50099,60099,70099,80099,90099],[],none⟩,⟨⟨some 89,none,.ar .add .u32 (.t 80) (.t 88)⟩,[97,10097,20097,30097,40097,50097,60097,70097,80097,90097,99,10099,20099,30099,40099,50099,60099,70099,80099,90099],[],none⟩,⟨⟨some 90,none,.mv (.t 5)⟩,[82,10082,20082,30082,40082,50082,60082,70082,80082,90082,84,10084,20084,30084,40084,50084,60084,70084,80084,90084,97,10097,20097,30097,40097,50097,60097,70097,80097,90097,99,10099,20099,30099,40099,50099,60099,70099,80099,90099],[],none⟩,⟨⟨some 91,none,.mv (.t 9)⟩,[82,10082,20082,30082,40082,50082,60082,70082,80082,90082,84,10084,20084,30084,40084,50084,60084,70084,80084,90084,97,10097,20097,30097,40097,50097,60097,70097,80097,90097,99,10099,20099,30099,40099,50099,60099,70099,80099,90099],[],none⟩,⟨⟨some 92,none,.ar .sub .i64 (.t 91) (.c (.lit .i64 7))⟩,[82,10082,20082,30082,40082,50082,60082,70082,80082,90082,84,10084,20084,30084,40084,50084,60084,70084,80084,90084,97,10097,20097,30097,40097,50097,60097,70097,80097,90097,99,10099,20099,30099,40099,50099,60099,70099,80099,90099],[],none⟩,⟨⟨some 93,none,.iaS 1 (.t 90) (.t 92)⟩,[82,10082,20082,30082,40082,50082,60082,70082,80082,90082,84,10084,20084,30084,40084,50084,60084,70084,80084,90084,97,10097,20097,30097,40097,50097,60097,70097,80097,90097,99,10099,20099,30099,40099,50099,60099,70099,80099,90099],[],none⟩,⟨⟨some 94,none,.ld 1 false (.t 93)⟩,[82,10082,20082,30082,40082,50082,60082,70082,80082,90082,84,10084,20084,30084,40084,50084,60084,70084,80084,90084,97,10097,20097,30097,40097,50097,60097,70097,80097,90097,99,10099,20099,30099,40099,50099,60099,70099,80099,90099],[],none⟩,⟨⟨some 95,none,.ar .add .u32 (.t 89) (.t 94)⟩,[97,10097,20097,30097,40097,50097,60097,70097,80097,90097,99,10099,20099,30099,40099,50099,60099,70099,80099,90099],[],none⟩,⟨⟨some 96,none,.mv (.t 11)⟩,[82,10082,20082,30082,40082,50082,60082,70082,80082,90082,84,10084,20084,30084,40084,50084,60084,70084,80084,90084],[],none⟩,⟨⟨some 97,none,.call 140 true [((.t 96),.v),((.c (.lit .u64 17)),.v)]⟩,[],[],none⟩,⟨⟨some 98,none,.mv (.t 11)⟩,[82,10082,20082,30082,40082,50082,60082,70082,80082,90082,84,10084,20084,30084,40084,50084,60084,70084,80084,90084,97,10097,20097,30097,40097,50097,60097,70097,80097,90097],[],none⟩,⟨⟨some 99,none,.call 140 true [((.t 98),.v),((.c (.lit .u64 19)),.v)]⟩,[],[],none⟩,⟨⟨some 100,none,.ar .xor .u32 (.t 97) (.t 99)⟩,[],[],none⟩,⟨⟨some 101,none,.mv (.t 11)⟩,[82,10082,20082,30082,40082,50082,60082,70082,80082,90082,84,10084,20084,30084,40084,50084,60084,70084,80084,90084,97,10097,20097,30097,40097,50097,60097,70097,80097,90097,99,10099,20099,30099,40099,50099,60099,70099,80099,90099],[],none⟩,⟨⟨some 102,none,.shf .shr .u32 (.t 101) (.c (.lit .u64 10))⟩,[82,10082,20082,30082,40082,50082,60082,70082,80082,90082,84,10084,20084,30084,40084,50084,60084,70084,80084,90084,97,10097,20097,30097,40097,50097,60097,70097,80097,90097,99,10099,20099,30099,40099,50099,60099,70099,80099,90099],[],none⟩,⟨⟨some 103,none,.ar .xor .u32 (.t 100) (.t 102)⟩,[],[],none⟩,⟨⟨some 104,none,.ar .add .u32 (.t 95) (.t 103)⟩,[],[],none⟩,⟨⟨some 105,none,.iaS 1 (.t 74) (.t 75)⟩,[],[],none⟩,⟨⟨none,none,.st 1 (.t 105) (.t 104)⟩,[],[],none⟩]))))
    (.reg [3,0,6,4,27,7,31,5,8,38,9,61,10,11,12,13,108,16,177,14,15,17,196,19,208,18,2] [⟨some 62,none,.mv (.t 9)⟩,⟨some 63,none,.ar .add .i64 (.t 62) (.c (.lit .i64 1))⟩,⟨some 9,none,.mv (.t 63)⟩]))))))
   (.seq (.reg [3,0,6,4,27,7,31,5,8,38,9,61,10,11,12,13,108,16,177,14,15,17,196,19,208,18,2] [⟨some 106,none,.ld 8 true (.t 3)⟩,⟨some 12,none,.alloc (.ints .u32 8)⟩,⟨none,none,.st 8 (.t 12) (.t 106)⟩])
   (.seq (.seq (.reg [3,0,6,4,27,7,31,5,8,38,9,61,10,11,12,13,108,16,177,14,15,17,196,19,208,18,2] [⟨some 13,none,.mv (.c (.lit .i64 0))⟩])
   (.block 8 (.loop 4 (.seq (.seq (.reg [3,0,6,4,27,7,31,5,8,38,9,61,10,11,12,13,108,16,177,14,15,17,196,19,208,18,2] [⟨some 107,none,.mv (.t 13)⟩,⟨some 108,none,.cmp .lss (.t 107) (.c (.lit .i64 64))⟩])
    (.cond (.t 108)
      .skip
      (.exit 8)))
    (.seq (.block 9 (.seq (.dreg [3,0,6,4,27,7,31,5,8,38,9,61,10,11,12,13,108,16,177,14,15,17,196,19,208,18,2] [⟨⟨some 111,none,.iaA 8 1 (.t 12) (.c (.lit .i64 7))⟩,[115,10115,20115,30115,40115,50115,60115,70115,80115,90115,118,10118,20118,30118,40118,50118,60118,70118,80118,90118,122,10122,20122,30122,40122,50122,60122,70122,80122,90122],[],none⟩,⟨⟨some 112,none,.ld 1 false (.t 111)⟩,[115,10115,20115,30115,40115,50115,60115,70115,80115,90115,118,10118,20118,30118,40118,50118,60118,70118,80118,90118,122,10122,20122,30122,40122,50122,60122,70122,80122,90122],[],none⟩,⟨⟨some 113,none,.iaA 8 1 (.t 12) (.c (.lit .i64 4))⟩,[],[],none⟩,⟨⟨some 114,none,.ld 1 false (.t 113)⟩,[],[],none⟩,⟨⟨some 115,none,.call 140 true [((.t 114),.v),((.c (.lit .u64 6)),.v)]⟩,[],[],none⟩,⟨⟨some 116,none,.iaA 8 1 (.t 12) (.c (.lit .i64 4))⟩,[115,10115,20115,30115,40115,50115,60115,70115,80115,90115],[],none⟩,⟨⟨some 117,none,.ld 1 false (.t 116)⟩,[115,10115,20115,30115,40115,50115,60115,70115,80115,90115],[],none⟩,⟨⟨some 118,none,.call 140 true [((.t 117),.v),((.c (.lit .u64 11)),.v)]⟩,[],[],none⟩,⟨⟨some 119,none,.ar .xor .u32 (.t 115) (.t 118)⟩,[122,10122,20122,30122,40122,50122,60122,70122,80122,90122],[],none⟩,⟨⟨some 120,none,.iaA 8 1 (.t 12) (.c (.lit .i64 4))⟩,[115,10115,20115,30115,40115,50115,60115,70115,80115,90115,118,10118,20118,30118,40118,50118,60118,70118,80118,90118],[],none⟩,⟨⟨some 121,none,.ld 1 false (.t 120)⟩,[115,10115,20115,30115,40115,50115,60115,70115,80115,90115,118,10118,20118,30118,40118,50118,60118,70118,80118,90118],[],none⟩,⟨⟨some 122,none,.call 140 true [((.t 121),.v),((.c (.lit .u64 25)),.v)]⟩,[],[],none⟩,⟨⟨some 123,none,.ar .xor .u32 (.t 119) (.t 122)⟩,[],[],none⟩,⟨⟨some 124,none,.ar .add .u32 (.t 112) (.t 123)⟩,[],[],none⟩,⟨⟨some 125,none,.iaA 8 1 (.t 12) (.c (.lit .i64 4))⟩,[115,10115,20115,30115,40115,50115,60115,70115,80115,90115,118,10118,20118,30118,40118,50118,60118,70118,80118,90118,122,10122,20122,30122,40122,50122,60122,70122,80122,90122],[],none⟩,⟨⟨some 126,none,.ld 1 false (.t 125)⟩,[115,10115,20115,30115,40115,50115,60115,70115,80115,90115,118,10118,20118,30118,40118,50118,60118,70118,80118,90118,122,10122,20122,30122,40122,50122,60122,70122,80122,90122],[],none⟩,⟨⟨some 127,none,.iaA 8 1 (.t 12) (.c (.lit .i64 5))⟩,[115,10115,20115,30115,40115,50115,60115,70115,80115,90115,118,10118,20118,30118,40118,50118,60118,70118,80118,90118,122,10122,20122,30122,40122,50122,60122,70122,80122,90122],[],none⟩,⟨⟨some 128,none,.ld 1 false (.t 127)⟩,[115,10115,20115,30115,40115,50115,60115,70115,80115,90115,118,10118,20118,30118,40118,50118,60118,70118,80118,90118,122,10122,20122,30122,40122,50122,60122,70122,80122,90122],[],none⟩,⟨⟨some 129,none,.ar .and .u32 (.t 126) (.t 128)⟩,[115,10115,20115,30115,40115,50115,60115,70115,80115,90115,118,10118,20118,30118,40118,50118,60118,70118,80118,90118,122,10122,20122,30122,40122,50122,60122,70122,80122,90122],[],none⟩,⟨⟨some 130,none,.iaA 8 1 (.t 12) (.c (.lit .i64 4))⟩,[115,10115,20115,30115,40115,50115,60115,70115,80115,90115,118,10118,20118,30118,40118,50118,60118,70118,80118,90118,122,10122,20122,30122,40122,50122,60122,70122,80122,90122],[],none⟩,⟨⟨some 131,none,.ld 1 false (.t 130)⟩,[115,10115,20115,30115,40115,50115,60115,70115,80115,90115,118,10118,20118,30118,40118,50118,60118,70118,80118,90118,122,10122,20122,30122,40122,50122,60122,70122,80122,90122],[],none⟩,⟨⟨some 132,none,.ar .xor .u32 (.t 131) (.c (.lit .u32 4294967295))⟩,[115,10115,20115,30115,40115,50115,60115,70115,80115,90115,118,10118,20118,30118,40118,50118,60118,70118,80118,90118,122,10122,20122,30122,40122,50122,60122,70122,80122,90122],[],none⟩,⟨⟨some 133,none,.iaA 8 1 (.t 12) (.c (.lit .i64 6))⟩,[115,10115,20115,30115,40115,50115,60115,70115,80115,90115,118,10118,20118,30118,40118,50118,60118,70118,80118,90118,122,10122,20122,30122,40122,50122,60122,70122,80122,90122],[],none⟩,⟨⟨some 134,none,.ld 1 false (.t 133)⟩,[115,10115,20115,30115,40115,50115,60115,70115,80115,90115,118,10118,20118,30118,40118,50118,60118,70118,80118,90118,122,10122,20122,30122,40122,50122,60122,70122,80122,90122],[],none⟩,⟨⟨some 135,none,.ar .and .u32 (.t 132) (.t 134)⟩,[115,10115,20115,30115,40115,50115,60115,70115,80115,90115,118,10118,20118,30118,40118,50118,60118,70118,80118,90118,122,10122,20122,30122,40122,50122,60122,70122,80122,90122],[],none⟩,⟨⟨some 136,none,.ar .xor .u32 (.t 129) (.t 135)⟩,[115,10115,20115,30115,40115,50115,60115,70115,80115,90115,118,10118,20118,30118,40118,50118,60118,70118,80118,90118,122,10122,20122,30122,40122,50122,60122,70122,80122,90122],[],none⟩,⟨⟨some 137,none,.ar .add .u32 (.t 124) (.t 136)⟩,[],[],none⟩,⟨⟨some 138,none,.mv (.t 13)⟩,[115,10115,20115,30115,40115,50115,60115,70115,80115,90115,118,10118,20118,30118,40118,50118,60118,70118,80118,90118,122,10122,20122,30122,40122,50122,60122,70122,80122,90122],[],none⟩,⟨⟨some 139,none,.iaA 64 1 (.g 0) (.t 138)⟩,[115,10115,20115,30115,40115,50115,60115,70115,80115,90115,118,10118,20118,30118,40118,50118,60118,70118,80118,90118,122,10122,20122,30122,40122,50122,60122,70122,80122,90122],[],none⟩,⟨⟨some 140,none,.ld 1 false (.t 139)⟩,[115,10115,20115,30115,40115,50115,60115,70115,80115,90115,118,10118,20118,30118,40118,50118,60118,70118,80118,90118,122,10122,20122,30122,40122,50122,60122,70122,80122,90122],[],none⟩,⟨⟨some 141,none,.ar .add .u32 (.t 137) (.t 140)⟩,[],[],none⟩,⟨⟨some 142,none,.mv (.t 5)⟩,[115,10115,20115,30115,40115,50115,60115,70115,80115,90115,118,10118,20118,30118,40118,50118,60118,70118,80118,90118,122,10122,20122,30122,40122,50122,60122,70122,80122,90122],[],none⟩,⟨⟨some 143,none,.mv (.t 13)⟩,[115,10115,20115,30115,40115,50115,60115,70115,80115,90115,118,10118,20118,30118,40118,50118,60118,70118,80118,90118,122,10122,20122,30122,40122,50122,60122,70122,80122,90122],[],none⟩,⟨⟨some 144,none,.iaS 1 (.t 142) (.t 143)⟩,[115,10115,20115,30115,40115,50115,60115,70115,80115,90115,118,10118,20118,30118,40118,50118,60118,70118,80118,90118,122,10122,20122,30122,40122,50122,60122,70122,80122,90122],[],none⟩,⟨⟨some 145,none,.ld 1 false (.t 144)⟩,[115,10115,20115,30115,40115,50115,60115,70115,80115,90115,118,10118,20118,30118,40118,50118,60118,70118,80118,90118,122,10122,20122,30122,40122,50122,60122,70122,80122,90122],[],none⟩,⟨⟨some 146,none,.ar .add .u32 (.t 141) (.t 145)⟩,[],[],none⟩,⟨⟨some 14,none,.mv (.t 146)⟩,[],[],none⟩])
    (.seq (.dreg [3,0,6,4,27,7,31,5,8,38,9,61,10,11,12,13,108,16,177,14,15,17,196,19,208,18,2] [⟨⟨some 147,none,.iaA 8 1 (.t 12) (.c (.lit .i64 0))⟩,[],[],none⟩,⟨⟨some 148,none,.ld 1 false (.t 147)⟩,[],[],none⟩,⟨⟨some 149,none,.call 140 true [((.t 148),.v),((.c (.lit .u64 2)),.v)]⟩,[],[],none⟩,⟨⟨some 150,none,.iaA 8 1 (.t 12) (.c (.lit .i64 0))⟩,[149,10149,20149,30149,40149,50149,60149,70149,80149,90149],[],none⟩,⟨⟨some 151,none,.ld 1 false (.t 150)⟩,[149,10149,20149,30149,40149,50149,60149,70149,80149,90149],[],none⟩,⟨⟨some 152,none,.call 140 true [((.t 151),.v),((.c (.lit .u64 13)),.v)]⟩,[],[],none⟩,⟨⟨some 153,none,.ar .xor .u32 (.t 149) (.t 152)⟩,[156,10156,20156,30156,40156,50156,60156,70156,80156,90156],[],none⟩,⟨⟨some 154,none,.iaA 8 1 (.t 12) (.c (.lit .i64 0))⟩,[149,10149,20149,30149,40149,50149,60149,70149,80149,90149,152,10152,20152,30152,40152,50152,60152,70152,80152,90152],[],none⟩,⟨⟨some 155,none,.ld 1 false (.t 154)⟩,[149,10149,20149,30149,40149,50149,60149,70149,80149,90149,152,10152,20152,30152,40152,50152,60152,70152,80152,90152],[],none⟩,⟨⟨some 156,none,.call 140 true [((.t 155),.v),((.c (.lit .u64 22)),.v)]⟩,[],[],none⟩,⟨⟨some 157,none,.ar .xor .u32 (.t 153) (.t 156)⟩,[],[],none⟩,⟨⟨some 158,none,.iaA 8 1 (.t 12) (.c (.lit .i64 0))⟩,[149,10149,20149,30149,40149,50149,60149,70149,80149,90149,152,10152,20152,30152,40152,50152,60152,70152,80152,90152,156,10156,20156,30156,40156,50156,60156,70156,80156,90156],[],none⟩,⟨⟨some 159,none,.ld 1 false (.t 158)⟩,[149,10149,20149,30149,40149,50149,60149,70149,80149,90149,152,10152,20152,30152,40152,50152,60152,70152,80152,90152,156,10156,20156,30156,40156,50156,60156,70156,80156,90156],[],none⟩,⟨⟨some 160,none,.iaA 8 1 (.t 12) (.c (.lit .i64 1))⟩,[149,10149,20149,30149,40149,50149,60149,70149,80149,90149,152,10152,20152,30152,40152,50152,60152,70152,80152,90152,156,10156,20156,30156,40156,50156,60156,70156,80156,90156],[],none⟩,⟨⟨some 161,none,.ld 1 false (.t 160)⟩,[149,10149,20149,30149,40149,50149,60149,70149,80149,90149,152,10152,20152,30152,40152,50152,60152,70152,80152,90152,156,10156,20156,30156,40156,50156,60156,70156,80156,90156],[],none⟩,⟨⟨some 162,none,.ar .and .u32 (.t 159) (.t 161)⟩,[149,10149,20149,30149,40149,50149,60149,70149,80149,90149,152,10152,20152,30152,40152,50152,60152,70152,80152,90152,156,10156,20156,30156,40156,50156,60156,70156,80156,90156],[],none⟩,⟨⟨some 163,none,.iaA 8 1 (.t 12) (.c (.lit .i64 0))⟩,[149,10149,20149,30149,40149,50149,60149,70149,80149,90149,152,10152,20152,30152,40152,50152,60152,70152,80152,90152,156,10156,20156,30156,40156,50156,60156,70156,80156,90156],[],none⟩,⟨⟨some 164,none,.ld 1 false (.t 163)⟩,[149,10149,20149,30149,40149,50149,60149,70149,80149,90149,152,10152,20152,30152,40152,50152,60152,70152,80152,90152,156,10156,20156,30156,40156,50156,60156,70156,80156,90156],[],none⟩,⟨⟨some 165,none,.iaA 8 1 (.t 12) (.c (.lit .i64 2))⟩,[149,10149,20149,30149,40149,50149,60149,70149,80149,90149,152,10152,20152,30152,40152,50152,60152,70152,80152,90152,156,10156,20156,30156,40156,50156,60156,70156,80156,90156],[],none⟩,⟨⟨some 166,none,.ld 1 false (.t 165)⟩,[149,10149,20149,30149,40149,50149,60149,70149,80149,90149,152,10152,20152,30152,40152,50152,60152,70152,80152,90152,156,10156,20156,30156,40156,50156,60156,70156,80156,90156],[],none⟩,⟨⟨some 167,none,.ar .and .u32 (.t 164) (.t 166)⟩,[149,10149,20149,30149,40149,50149,60149,70149,80149,90149,152,10152,20152,30152,40152,50152,60152,70152,80152,90152,156,10156,20156,30156,40156,50156,60156,70156,80156,90156],[],none⟩,⟨⟨some 168,none,.ar .xor .u32 (.t 162) (.t 167)⟩,[149,10149,20149,30149,40149,50149,60149,70149,80149,90149,152,10152,20152,30152,40152,50152,60152,70152,80152,90152,156,10156,20156,30156,40156,50156,60156,70156,80156,90156],[],none⟩,⟨⟨some 169,none,.iaA 8 1 (.t 12) (.c (.lit .i64 1))⟩,[149,10149,20149,30149,40149,50149,60149,70149,80149,90149,152,10152,20152,30152,40152,50152,60152,70152,80152,90152,156,10156,20156,30156,40156,50156,60156,70156,80156,90156],[],none⟩,⟨⟨some 170,none,.ld 1 false (.t 169)⟩,[149,10149,20149,30149,40149,50149,60149,70149,80149,90149,152,10152,20152,30152,40152,50152,60152,70152,80152,90152,156,10156,20156,30156,40156,50156,60156,70156,80156,90156],[],none⟩,⟨⟨some 171,none,.iaA 8 1 (.t 12) (.c (.lit .i64 2))⟩,[149,10149,20149,30149,40149,50149,60149,70149,80149,90149,152,10152,20152,30152,40152,50152,60152,70152,80152,90152,156,10156,20156,30156,40156,50156,60156,70156,80156,90156],[],none⟩,⟨⟨some 172,none,.ld 1 false (.t 171)⟩,[149,10149,20149,30149,40149,50149,60149,70149,80149,90149,152,10152,20152,30152,40152,50152,60152,70152,80152,90152,156,10156,20156,30156,40156,50156,60156,70156,80156,90156],[],none⟩,⟨⟨some 173,none,.ar .and .u32 (.t 170) (.t 172)⟩,[149,10149,20149,30149,40149,50149,60149,70149,80149,90149,152,10152,20152,30152,40152,50152,60152,70152,80152,90152,156,10156,20156,30156,40156,50156,60156,70156,80156,90156],[],none⟩,⟨⟨some 174,none,.ar .xor .u32 (.t 168) (.t 173)⟩,[149,10149,20149,30149,40149,50149,60149,70149,80149,90149,152,10152,20152,30152,40152,50152,60152,70152,80152,90152,156,10156,20156,30156,40156,50156,60156,70156,80156,90156],[],none⟩,⟨⟨some 175,none,.ar .add .u32 (.t 157) (.t 174)⟩,[],[],none⟩,⟨⟨some 15,none,.mv (.t 175)⟩,[],[],none⟩])
    (.seq (.seq (.reg [3,0,6,4,27,7,31,5,8,38,9,61,10,11,12,13,108,16,177,14,15,17,196,19,208,18,2] [⟨some 16,none,.mv (.c (.lit .i64 7))⟩])
    (.block 10 (.loop 5 (.seq (.seq (.reg [3,0,6,4,27,7,31,5,8,38,9,61,10,11,12,13,108,16,177,14,15,17,196,19,208,18,2] [⟨some 176,none,.mv (.t 16)⟩,⟨some 177,none,.cmp .gtr (.t 176) (.c (.lit .i64 0))⟩])
     (.cond (.t 177)
       .skip
       (.exit 10)))
     (.seq (.block 11 (.reg [3,0,6,4,27,7,31,5,8,38,9,61,10,11,12,13,108,16,177,14,15,17,196,19,208,18,2] [⟨some 180,none,.mv (.t 16)⟩,⟨some 181,none,.mv (.t 16)⟩,⟨some 182,none,.ar .sub .i64 (.t 181) (.c (.lit .i64 1))⟩,⟨some 183,none,.iaA 8 1 (.t 12) (.t 182)⟩,⟨some 184,none,.ld 1 false (.t 183)⟩,⟨some 185,none,.iaA 8 1 (.t 12) (.t 180)⟩,⟨none,none,.st 1 (.t 185) (.t 184)⟩]))
     (.reg [3,0,6,4,27,7,31,5,8,38,9,61,10,11,12,13,108,16,177,14,15,17,196,19,208,18,2] [⟨some 178,none,.mv (.t 16)⟩,⟨some 179,none,.ar .sub .i64 (.t 178) (.c (.lit .i64 1))⟩,⟨some 16,none,.mv (.t 179)⟩]))))))
    (.seq (.reg [3,0,6,4,27,7,31,5,8,38,9,61,10,11,12,13,108,16,177,14,15,17,196,19,208,18,2] [⟨some 186,none,.iaA 8 1 (.t 12) (.c (.lit .i64 4))⟩,⟨some 187,none,.ld 1 false (.t 186)⟩,⟨some 188,none,.mv (.t 14)⟩,⟨some 189,none,.ar .add .u32 (.t 187) (.t 188)⟩,⟨some 190,none,.iaA 8 1 (.t 12) (.c (.lit .i64 4))⟩,⟨none,none,.st 1 (.t 190) (.t 189)⟩])
    (.reg [3,0,6,4,27,7,31,5,8,38,9,61,10,11,12,13,108,16,177,14,15,17,196,19,208,18,2] [⟨some 191,none,.mv (.t 14)⟩,⟨some 192,none,.mv (.t 15)⟩,⟨some 193,none,.ar .add .u32 (.t 191) (.t 192)⟩,⟨some 194,none,.iaA 8 1 (.t 12) (.c (.lit .i64 0))⟩,⟨none,none,.st 1 (.t 194) (.t 193)⟩]))))))
    (.reg [3,0,6,4,27,7,31,5,8,38,9,61,10,11,12,13,108,16,177,14,15,17,196,19,208,18,2] [⟨some 109,none,.mv (.t 13)⟩,⟨some 110,none,.ar .add .i64 (.t 109) (.c (.lit .i64 1))⟩,⟨some 13,none,.mv (.t 110)⟩]))))))
   (.seq (.reg [3,0,6,4,27,7,31,5,8,38,9,61,10,11,12,13,108,16,177,14,15,17,196,19,208,18,2] [⟨some 17,none,.mv (.c (.lit .i64 0))⟩])
   (.block 12 (.loop 6 (.seq (.seq (.reg [3,0,6,4,27,7,31,5,8,38,9,61,10,11,12,13,108,16,177,14,15,17,196,19,208,18,2] [⟨some 195,none,.mv (.t 17)⟩,⟨some 196,none,.cmp .lss (.t 195) (.c (.lit .i64 8))⟩])
    (.cond (.t 196)
      .skip
      (.exit 12)))
    (.seq (.block 13 (.dreg [3,0,6,4,27,7,31,5,8,38,9,61,10,11,12,13,108,16,177,14,15,17,196,19,208,18,2] [⟨⟨some 199,none,.mv (.t 17)⟩,[],[],none⟩,⟨⟨some 200,none,.iaA 8 1 (.t 3) (.t 199)⟩,[],[],none⟩,⟨⟨some 201,none,.ld 1 false (.t 200)⟩,[],[],none⟩,⟨⟨some 202,none,.mv (.t 17)⟩,[],[],none⟩,⟨⟨some 203,none,.iaA 8 1 (.t 12) (.t 202)⟩,[],[],none⟩,⟨⟨some 204,none,.ld 1 false (.t 203)⟩,[],[],none⟩,⟨⟨some 205,none,.ar .add .u32 (.t 201) (.t 204)⟩,[],[],none⟩,⟨⟨some 206,none,.iaA 8 1 (.t 3) (.t 199)⟩,[],[],none⟩,⟨⟨none,none,.st 1 (.t 206) (.t 205)⟩,[],[],none⟩]))
    (.reg [3,0,6,4,27,7,31,5,8,38,9,61,10,11,12,13,108,16,177,14,15,17,196,19,208,18,2] [⟨some 197,none,.mv (.t 17)⟩,⟨some 198,none,.ar .add .i64 (.t 197) (.c (.lit .i64 1))⟩,⟨some 17,none,.mv (.t 198)⟩])))))))))))
   (.reg [3,0,6,4,27,7,31,5,8,38,9,61,10,11,12,13,108,16,177,14,15,17,196,19,208,18,2] [⟨some 28,none,.mv (.t 6)⟩,⟨some 29,none,.ar .add .i64 (.t 28) (.c (.lit .i64 64))⟩,⟨some 6,none,.mv (.t 29)⟩]))))))
  (.seq (.reg [3,0,6,4,27,7,31,5,8,38,9,61,10,11,12,13,108,16,177,14,15,17,196,19,208,18,2] [⟨some 18,none,.alloc (.ints .u8 32)⟩])
  (.seq (.seq (.reg [3,0,6,4,27,7,31,5,8,38,9,61,10,11,12,13,108,16,177,14,15,17,196,19,208,18,2] [⟨some 19,none,.mv (.c (.lit .i64 0))⟩])
  (.block 14 (.loop 7 (.seq (.seq (.reg [3,0,6,4,27,7,31,5,8,38,9,61,10,11,12,13,108,16,177,14,15,17,196,19,208,18,2] [⟨some 207,none,.mv (.t 19)⟩,⟨some 208,none,.cmp .lss (.t 207) (.c (.lit .i64 32))⟩])
   (.cond (.t 208)
     .skip
     (.exit 14)))
   (.seq (.block 15 (.reg [3,0,6,4,27,7,31,5,8,38,9,61,10,11,12,13,108,16,177,14,15,17,196,19,208,18,2] [⟨some 211,none,.mv (.t 19)⟩,⟨some 212,none,.mv (.t 19)⟩,⟨some 213,none,.ar .quo .i64 (.t 212) (.c (.lit .i64 4))⟩,⟨some 214,none,.iaA 8 1 (.t 3) (.t 213)⟩,⟨some 215,none,.ld 1 false (.t 214)⟩,⟨some 216,none,.mv (.t 19)⟩,⟨some 217,none,.ar .rem .i64 (.t 216) (.c (.lit .i64 4))⟩,⟨some 218,none,.ar .mul .i64 (.t 217) (.c (.lit .i64 8))⟩,⟨some 219,none,.ar .sub .i64 (.c (.lit .i64 24)) (.t 218)⟩,⟨some 220,none,.cv .u64 (.t 219)⟩,⟨some 221,none,.shf .shr .u32 (.t 215) (.t 220)⟩,⟨some 222,none,.cv .u8 (.t 221)⟩,⟨some 223,none,.iaA 32 1 (.t 18) (.t 211)⟩,⟨none,none,.st 1 (.t 223) (.t 222)⟩]))
   (.reg [3,0,6,4,27,7,31,5,8,38,9,61,10,11,12,13,108,16,177,14,15,17,196,19,208,18,2] [⟨some 209,none,.mv (.t 19)⟩,⟨some 210,none,.ar .add .i64 (.t 209) (.c (.lit .i64 1))⟩,⟨some 19,none,.mv (.t 210)⟩]))))))
  (.seq (.reg [3,0,6,4,27,7,31,5,8,38,9,61,10,11,12,13,108,16,177,14,15,17,196,19,208,18,2] [⟨some 224,none,.ld 32 true (.t 18)⟩,⟨none,none,.st 32 (.t 2) (.t 224)⟩])
  .ret))))))))⟩
def ic136 : IFn := ⟨0,4,[.t 0],
  (.seq (.reg [0] [⟨some 0,none,.mv (.c .nilp)⟩])
  (.seq (.reg [0] [⟨some 1,none,.call 151 true []⟩,⟨some 2,none,.bldS (.cat 8 2 (.ints .u32 8) (.cat 1 1 (.v .nsl) (.v (.lit .u64 0)))) [(0,8,(.t 1))]⟩,⟨some 3,none,.box (.t 2)⟩,⟨some 0,none,.mv (.t 3)⟩])
  .ret))⟩
def ic137 : IFn := ⟨2,96,[.t 4],
  (.seq (.reg [0,7,1,23,5,52,75,4] [⟨some 4,none,.mv (.c (.lit .i64 0))⟩])
  (.seq (.seq (.reg [0,7,1,23,5,52,75,4] [⟨some 6,none,.mv (.t 0)⟩,⟨some 7,none,.eq .p false (.t 6) (.c .nilp)⟩])
  (.cond (.t 7)
    (.seq (.reg [0,7,1,23,5,52,75,4] [⟨some 4,none,.mv (.c (.lit .i64 1))⟩])
    .ret)
    .skip))
  (.seq (.reg [0,7,1,23,5,52,75,4] [⟨some 8,none,.mv (.t 0)⟩,⟨some 9,none,.nck (.t 8)⟩,⟨some 10,none,.fa 9 1 (.t 9)⟩,⟨some 11,none,.ld 1 false (.t 10)⟩,⟨some 12,none,.mv (.t 1)⟩,⟨some 13,none,.lenS (.t 12)⟩,⟨some 14,none,.cv .u64 (.t 13)⟩,⟨some 15,none,.ar .add .u64 (.t 11) (.t 14)⟩,⟨some 16,none,.nck (.t 8)⟩,⟨some 17,none,.fa 9 1 (.t 16)⟩,⟨none,none,.st 1 (.t 17) (.t 15)⟩])
  (.seq (.seq (.reg [0,7,1,23,5,52,75,4] [⟨some 18,none,.mv (.t 0)⟩,⟨some 19,none,.nck (.t 18)⟩,⟨some 20,none,.fa 8 1 (.t 19)⟩,⟨some 21,none,.ld 1 false (.t 20)⟩,⟨some 22,none,.lenS (.t 21)⟩,⟨some 23,none,.cmp .gtr (.t 22) (.c (.lit .i64 0))⟩])
  (.cond (.t 23)
    (.seq (.reg [0,7,1,23,5,52,75,4] [⟨some 24,none,.mv (.t 0)⟩,⟨some 25,none,.nck (.t 24)⟩,⟨some 26,none,.fa 8 1 (.t 25)⟩,⟨some 27,none,.ld 1 false (.t 26)⟩,⟨some 28,none,.lenS (.t 27)⟩,⟨some 29,none,.ar .sub .i64 (.c (.lit .i64 64)) (.t 28)⟩,⟨some 30,none,.mv (.t 1)⟩,⟨some 31,none,.lenS (.t 30)⟩,⟨some 32,none,.min2 (.t 29) (.t 31)⟩,⟨some 5,none,.mv (.t 32)⟩])
    (.seq (.dreg [0,7,1,23,5,52,75,4] [⟨⟨some 33,none,.mv (.t 0)⟩,[41],[],none⟩,⟨⟨some 34,none,.mv (.t 0)⟩,[],[],none⟩,⟨⟨some 35,none,.nck (.t 34)⟩,[],[],none⟩,⟨⟨some 36,none,.fa 8 1 (.t 35)⟩,[],[],none⟩,⟨⟨some 37,none,.ld 1 false (.t 36)⟩,[],[],none⟩,⟨⟨some 38,none,.mv (.t 1)⟩,[],[],none⟩,⟨⟨some 39,none,.mv (.t 5)⟩,[],[],none⟩,⟨⟨some 40,none,.slS 1 (.t 38) none (some (.t 39)) none⟩,[],[],none⟩,⟨⟨some 41,none,.app (.i .u8) 1 (.t 37) (.t 40)⟩,[],[],none⟩,⟨⟨some 42,none,.nck (.t 33)⟩,[],[],none⟩,⟨⟨some 43,none,.fa 8 1 (.t 42)⟩,[],[],none⟩,⟨⟨none,none,.st 1 (.t 43) (.t 41)⟩,[],[],none⟩])
    (.seq (.reg [0,7,1,23,5,52,75,4] [⟨some 44,none,.mv (.t 1)⟩,⟨some 45,none,.mv (.t 5)⟩,⟨some 46,none,.slS 1 (.t 44) (some (.t 45)) none none⟩,⟨some 1,none,.mv (.t 46)⟩])
    (.seq (.seq (.reg [0,7,1,23,5,52,75,4] [⟨some 47,none,.mv (.t 0)⟩,⟨some 48,none,.nck (.t 47)⟩,⟨some 49,none,.fa 8 1 (.t 48)⟩,⟨some 50,none,.ld 1 false (.t 49)⟩,⟨some 51,none,.lenS (.t 50)⟩,⟨some 52,none,.cmp .lss (.t 51) (.c (.lit .i64 64))⟩])
    (.cond (.t 52)
      (.seq (.reg [0,7,1,23,5,52,75,4] [⟨some 4,none,.mv (.c (.lit .i64 0))⟩])
      .ret)
      .skip))
    (.seq (.dreg [0,7,1,23,5,52,75,4] [⟨⟨some 53,none,.mv (.t 0)⟩,[62,10062,20062,30062,40062,50062,60062,70062,80062,90062],[],none⟩,⟨⟨some 54,none,.mv (.t 0)⟩,[],[],none⟩,⟨⟨some 55,none,.nck (.t 54)⟩,[],[],none⟩,⟨⟨some 56,none,.fa 0 8 (.t 55)⟩,[],[],none⟩,⟨⟨some 57,none,.ld 8 true (.t 56)⟩,[],[],none⟩,⟨⟨some 58,none,.mv (.t 0)⟩,[],[],none⟩,⟨⟨some 59,none,.nck (.t 58)⟩,[],[],none⟩,⟨⟨some 60,none,.fa 8 1 (.t 59)⟩,[],[],none⟩,⟨⟨some 61,none,.ld 1 false (.t 60)⟩,[],[],none⟩,⟨⟨some 62,none,.call 152 true [((.t 57),.v),((.t 61),.b (.i .u8))]⟩,[],[],none⟩,⟨⟨some 63,none,.nck (.t 53)⟩,[],[],none⟩,⟨⟨some 64,none,.fa 0 8 (.t 63)⟩,[],[],none⟩,⟨⟨none,none,.st 8 (.t 64) (.t 62)⟩,[],[],none⟩])
    (.reg [0,7,1,23,5,52,75,4] [⟨some 65,none,.mv (.t 0)⟩,⟨some 66,none,.mv (.t 0)⟩,⟨some 67,none,.nck (.t 66)⟩,⟨some 68,none,.fa 8 1 (.t 67)⟩,⟨some 69,none,.ld 1 false (.t 68)⟩,⟨some 70,none,.slS 1 (.t 69) none (some (.c (.lit .i64 0))) none⟩,⟨some 71,none,.nck (.t 65)⟩,⟨some 72,none,.fa 8 1 (.t 71)⟩,⟨none,none,.st 1 (.t 72) (.t 70)⟩]))))))
    .skip))
  (.seq (.block 0 (.loop 0 (.seq (.seq (.reg [0,7,1,23,5,52,75,4] [⟨some 73,none,.mv (.t 1)⟩,⟨some 74,none,.lenS (.t 73)⟩,⟨some 75,none,.cmp .geq (.t 74) (.c (.lit .i64 64))⟩])
   (.cond (.t 75)
     .skip
     (.exit 0)))
   (.seq (.block 1 (.reg [0,7,1,23,5,52,75,4] [⟨some 78,none,.mv (.t 0)⟩,⟨some 79,none,.mv (.t 0)⟩,⟨some 80,none,.nck (.t 79)⟩,⟨some 81,none,.fa 0 8 (.t 80)⟩,⟨some 82,none,.ld 8 true (.t 81)⟩,⟨some 83,none,.mv (.t 1)⟩,⟨some 84,none,.call 152 true [((.t 82),.v),((.t 83),.b (.i .u8))]⟩,⟨some 85,none,.nck (.t 78)⟩,⟨some 86,none,.fa 0 8 (.t 85)⟩,⟨none,none,.st 8 (.t 86) (.t 84)⟩]))
   (.reg [0,7,1,23,5,52,75,4] [⟨some 76,none,.mv (.t 1)⟩,⟨some 77,none,.slS 1 (.t 76) (some (.c (.lit .i64 64))) none none⟩,⟨some 1,none,.mv (.t 77)⟩])))))
  (.seq (.reg [0,7,1,23,5,52,75,4] [⟨some 87,none,.mv (.t 0)⟩,⟨some 88,none,.mv (.t 0)⟩,⟨some 89,none,.nck (.t 88)⟩,⟨some 90,none,.fa 8 1 (.t 89)⟩,⟨some 91,none,.ld 1 false (.t 90)⟩,⟨some 92,none,.mv (.t 1)⟩,⟨some 93,none,.app (.i .u8) 1 (.t 91) (.t 92)⟩,⟨some 94,none,.nck (.t 87)⟩,⟨some 95,none,.fa 8 1 (.t 94)⟩,⟨none,none,.st 1 (.t 95) (.t 93)⟩])
  (.seq (.reg [0,7,1,23,5,52,75,4] [⟨some 4,none,.mv (.c (.lit .i64 0))⟩])
  .ret)))))))⟩
def ic138 : IFn := ⟨1,74,[.cell 2 32 true,.t 3],
  (.seq (.reg [0,10,2,4,24,28,29,5,6,51,57,58,8,7,3] [⟨some 2,none,.alloc (.ints .u8 32)⟩,⟨some 3,none,.mv (.c (.lit .i64 0))⟩])
  (.seq (.seq (.reg [0,10,2,4,24,28,29,5,6,51,57,58,8,7,3] [⟨some 9,none,.mv (.t 0)⟩,⟨some 10,none,.eq .p false (.t 9) (.c .nilp)⟩])
  (.cond (.t 10)
    (.seq (.reg [0,10,2,4,24,28,29,5,6,51,57,58,8,7,3] [⟨some 11,none,.bldA (.i .u8) 32 []⟩,⟨none,none,.st 32 (.t 2) (.t 11)⟩,⟨some 3,none,.mv (.c (.lit .i64 1))⟩])
    .ret)
    .skip))
  (.seq (.reg [0,10,2,4,24,28,29,5,6,51,57,58,8,7,3] [⟨some 12,none,.bsl (.i .u8) 0 []⟩,⟨some 13,none,.mv (.t 0)⟩,⟨some 14,none,.nck (.t 13)⟩,⟨some 15,none,.fa 8 1 (.t 14)⟩,⟨some 16,none,.ld 1 false (.t 15)⟩,⟨some 17,none,.app0 (.i .u8) 1 (.t 12) (.t 16)⟩,⟨some 4,none,.mv (.t 17)⟩])
  (.seq (.reg [0,10,2,4,24,28,29,5,6,51,57,58,8,7,3] [⟨some 18,none,.mv (.t 4)⟩,⟨some 19,none,.bsl (.i .u8) 1 [(0,(.c (.lit .u8 128)))]⟩,⟨some 20,none,.app (.i .u8) 1 (.t 18) (.t 19)⟩,⟨some 4,none,.mv (.t 20)⟩])
  (.seq (.block 0 (.loop 0 (.seq (.seq (.reg [0,10,2,4,24,28,29,5,6,51,57,58,8,7,3] [⟨some 21,none,.mv (.t 4)⟩,⟨some 22,none,.lenS (.t 21)⟩,⟨some 23,none,.ar .rem .i64 (.t 22) (.c (.lit .i64 64))⟩,⟨some 24,none,.cmp .neq (.t 23) (.c (.lit .i64 56))⟩])
   (.cond (.t 24)
     .skip
     (.exit 0)))
   (.block 1 (.reg [0,10,2,4,24,28,29,5,6,51,57,58,8,7,3] [⟨some 25,none,.mv (.t 4)⟩,⟨some 26,none,.bsl (.i .u8) 1 [(0,(.c (.lit .u8 0)))]⟩,⟨some 27,none,.app (.i .u8) 1 (.t 25) (.t 26)⟩,⟨some 4,none,.mv (.t 27)⟩])))))
  (.seq (.seq (.reg [0,10,2,4,24,28,29,5,6,51,57,58,8,7,3] [⟨some 28,none,.mv (.c (.lit .i64 0))⟩])
  (.block 2 (.loop 1 (.seq (.reg [0,10,2,4,24,28,29,5,6,51,57,58,8,7,3] [⟨some 29,none,.cmp .lss (.t 28) (.c (.lit .i64 8))⟩])
   (.seq (.cond (.t 29)
     .skip
     (.exit 2))
   (.seq (.block 3 (.seq (.reg [0,10,2,4,24,28,29,5,6,51,57,58,8,7,3] [⟨some 30,none,.mv (.t 28)⟩,⟨some 5,none,.mv (.t 30)⟩])
   (.reg [0,10,2,4,24,28,29,5,6,51,57,58,8,7,3] [⟨some 31,none,.mv (.t 4)⟩,⟨some 32,none,.mv (.t 0)⟩,⟨some 33,none,.nck (.t 32)⟩,⟨some 34,none,.fa 9 1 (.t 33)⟩,⟨some 35,none,.ld 1 false (.t 34)⟩,⟨some 36,none,.ar .mul .u64 (.t 35) (.c (.lit .u64 8))⟩,⟨some 37,none,.mv (.t 5)⟩,⟨some 38,none,.ar .mul .i64 (.c (.lit .i64 8)) (.t 37)⟩,⟨some 39,none,.ar .sub .i64 (.c (.lit .i64 56)) (.t 38)⟩,⟨some 40,none,.shf .shr .u64 (.t 36) (.t 39)⟩,⟨some 41,none,.cv .u8 (.t 40)⟩,⟨some 42,none,.bsl (.i .u8) 1 [(0,(.t 41))]⟩,⟨some 43,none,.app (.i .u8) 1 (.t 31) (.t 42)⟩,⟨some 4,none,.mv (.t 43)⟩])))
   (.reg [0,10,2,4,24,28,29,5,6,51,57,58,8,7,3] [⟨some 44,none,.ar .add .i64 (.t 28) (.c (.lit .i64 1))⟩,⟨some 28,none,.mv (.t 44)⟩])))))))
  (.seq (.reg [0,10,2,4,24,28,29,5,6,51,57,58,8,7,3] [⟨some 45,none,.mv (.t 0)⟩,⟨some 46,none,.nck (.t 45)⟩,⟨some 47,none,.fa 0 8 (.t 46)⟩,⟨some 48,none,.ld 8 true (.t 47)⟩,⟨some 6,none,.alloc (.ints .u32 8)⟩,⟨none,none,.st 8 (.t 6) (.t 48)⟩])
  (.seq (.block 4 (.loop 2 (.seq (.seq (.reg [0,10,2,4,24,28,29,5,6,51,57,58,8,7,3] [⟨some 49,none,.mv (.t 4)⟩,⟨some 50,none,.lenS (.t 49)⟩,⟨some 51,none,.cmp .gtr (.t 50) (.c (.lit .i64 0))⟩])
   (.cond (.t 51)
     .skip
     (.exit 4)))
   (.seq (.block 5 (.reg [0,10,2,4,24,28,29,5,6,51,57,58,8,7,3] [⟨some 54,none,.ld 8 true (.t 6)⟩,⟨some 55,none,.mv (.t 4)⟩,⟨some 56,none,.call 152 true [((.t 54),.v),((.t 55),.b (.i .u8))]⟩,⟨none,none,.st 8 (.t 6) (.t 56)⟩]))
   (.reg [0,10,2,4,24,28,29,5,6,51,57,58,8,7,3] [⟨some 52,none,.mv (.t 4)⟩,⟨some 53,none,.slS 1 (.t 52) (some (.c (.lit .i64 64))) none none⟩,⟨some 4,none,.mv (.t 53)⟩])))))
  (.seq (.reg [0,10,2,4,24,28,29,5,6,51,57,58,8,7,3] [⟨some 7,none,.alloc (.ints .u8 32)⟩])
  (.seq (.seq (.reg [0,10,2,4,24,28,29,5,6,51,57,58,8,7,3] [⟨some 57,none,.mv (.c (.lit .i64 0))⟩])
  (.block 6 (.loop 3 (.seq (.reg [0,10,2,4,24,28,29,5,6,51,57,58,8,7,3] [⟨some 58,none,.cmp .lss (.t 57) (.c (.lit .i64 32))⟩])
   (.seq (.cond (.t 58)
     .skip
     (.exit 6))
   (.seq (.block 7 (.seq (.reg [0,10,2,4,24,28,29,5,6,51,57,58,8,7,3] [⟨some 59,none,.mv (.t 57)⟩,⟨some 8,none,.mv (.t 59)⟩])
   (.reg [0,10,2,4,24,28,29,5,6,51,57,58,8,7,3] [⟨some 60,none,.mv (.t 8)⟩,⟨some 61,none,.mv (.t 8)⟩,⟨some 62,none,.ar .quo .i64 (.t 61) (.c (.lit .i64 4))⟩,⟨some 63,none,.iaA 8 1 (.t 6) (.t 62)⟩,⟨some 64,none,.ld 1 false (.t 63)⟩,⟨some 65,none,.mv (.t 8)⟩,⟨some 66,none,.ar .rem .i64 (.t 65) (.c (.lit .i64 4))⟩,⟨some 67,none,.ar .mul .i64 (.c (.lit .i64 8)) (.t 66)⟩,⟨some 68,none,.ar .sub .i64 (.c (.lit .i64 24)) (.t 67)⟩,⟨some 69,none,.shf .shr .u32 (.t 64) (.t 68)⟩,⟨some 70,none,.cv .u8 (.t 69)⟩,⟨some 71,none,.iaA 32 1 (.t 7) (.t 60)⟩,⟨none,none,.st 1 (.t 71) (.t 70)⟩])))
   (.reg [0,10,2,4,24,28,29,5,6,51,57,58,8,7,3] [⟨some 72,none,.ar .add .i64 (.t 57) (.c (.lit .i64 1))⟩,⟨some 57,none,.mv (.t 72)⟩])))))))
  (.seq (.reg [0,10,2,4,24,28,29,5,6,51,57,58,8,7,3] [⟨some 73,none,.ld 32 true (.t 7)⟩,⟨none,none,.st 32 (.t 2) (.t 73)⟩,⟨some 3,none,.mv (.c (.lit .i64 0))⟩])
  .ret)))))))))))⟩
def ic139 : IFn := ⟨1,36,[.t 2],
  (.seq (.reg [0,3,15,5,24,4,2] [⟨some 2,none,.mv (.c .nsl)⟩])
  (.seq (.reg [0,3,15,5,24,4,2] [⟨some 6,none,.bsl (.i .u8) 0 []⟩,⟨some 7,none,.mv (.t 0)⟩,⟨some 8,none,.app0 (.i .u8) 1 (.t 6) (.t 7)⟩,⟨some 3,none,.mv (.t 8)⟩])
  (.seq (.reg [0,3,15,5,24,4,2] [⟨some 9,none,.mv (.t 3)⟩,⟨some 10,none,.bsl (.i .u8) 1 [(0,(.c (.lit .u8 128)))]⟩,⟨some 11,none,.app (.i .u8) 1 (.t 9) (.t 10)⟩,⟨some 3,none,.mv (.t 11)⟩])
  (.seq (.block 0 (.loop 0 (.seq (.seq (.reg [0,3,15,5,24,4,2] [⟨some 12,none,.mv (.t 3)⟩,⟨some 13,none,.lenS (.t 12)⟩,⟨some 14,none,.ar .rem .i64 (.t 13) (.c (.lit .i64 64))⟩,⟨some 15,none,.cmp .neq (.t 14) (.c (.lit .i64 56))⟩])
   (.cond (.t 15)
     .skip
     (.exit 0)))
   (.block 1 (.reg [0,3,15,5,24,4,2] [⟨some 16,none,.mv (.t 3)⟩,⟨some 17,none,.bsl (.i .u8) 1 [(0,(.c (.lit .u8 0)))]⟩,⟨some 18,none,.app (.i .u8) 1 (.t 16) (.t 17)⟩,⟨some 3,none,.mv (.t 18)⟩])))))
  (.seq (.reg [0,3,15,5,24,4,2] [⟨some 19,none,.mv (.t 0)⟩,⟨some 20,none,.lenS (.t 19)⟩,⟨some 21,none,.cv .u64 (.t 20)⟩,⟨some 22,none,.ar .mul .u64 (.t 21) (.c (.lit .u64 8))⟩,⟨some 4,none,.mv (.t 22)⟩])
  (.seq (.seq (.reg [0,3,15,5,24,4,2] [⟨some 5,none,.mv (.c (.lit .i64 0))⟩])
  (.block 2 (.loop 1 (.seq (.seq (.reg [0,3,15,5,24,4,2] [⟨some 23,none,.mv (.t 5)⟩,⟨some 24,none,.cmp .lss (.t 23) (.c (.lit .i64 8))⟩])
   (.cond (.t 24)
     .skip
     (.exit 2)))
   (.seq (.block 3 (.seq (.reg [0,3,15,5,24,4,2] [⟨some 27,none,.mv (.t 3)⟩,⟨some 28,none,.mv (.t 4)⟩,⟨some 29,none,.shf .shr .u64 (.t 28) (.c (.lit .u64 56))⟩,⟨some 30,none,.cv .u8 (.t 29)⟩,⟨some 31,none,.bsl (.i .u8) 1 [(0,(.t 30))]⟩,⟨some 32,none,.app (.i .u8) 1 (.t 27) (.t 31)⟩,⟨some 3,none,.mv (.t 32)⟩])
   (.reg [0,3,15,5,24,4,2] [⟨some 33,none,.mv (.t 4)⟩,⟨some 34,none,.shf .shl .u64 (.t 33) (.c (.lit .u64 8))⟩,⟨some 4,none,.mv (.t 34)⟩])))
   (.reg [0,3,15,5,24,4,2] [⟨some 25,none,.mv (.t 5)⟩,⟨some 26,none,.ar .add .i64 (.t 25) (.c (.lit .i64 1))⟩,⟨some 5,none,.mv (.t 26)⟩]))))))
  (.seq (.reg [0,3,15,5,24,4,2] [⟨some 35,none,.mv (.t 3)⟩,⟨some 2,none,.mv (.t 35)⟩])
  .ret)))))))⟩
def ic140 : IFn := ⟨2,13,[.t 4],
  (.seq (.reg [0,1,4] [⟨some 4,none,.mv (.c (.lit .u32 0))⟩])
  (.seq (.reg [0,1,4] [⟨some 5,none,.mv (.t 0)⟩,⟨some 6,none,.mv (.t 1)⟩,⟨some 7,none,.shf .shr .u32 (.t 5) (.t 6)⟩,⟨some 8,none,.mv (.t 0)⟩,⟨some 9,none,.mv (.t 1)⟩,⟨some 10,none,.ar .sub .u64 (.c (.lit .u64 32)) (.t 9)⟩,⟨some 11,none,.shf .shl .u32 (.t 8) (.t 10)⟩,⟨some 12,none,.ar .or .u32 (.t 7) (.t 11)⟩,⟨some 4,none,.mv (.t 12)⟩])
  .ret))⟩
def ic151 : IFn := ⟨0,2,[.cell 0 8 true],
  (.seq (.reg [0] [⟨some 0,none,.alloc (.ints .u32 8)⟩])
  (.seq (.reg [0] [⟨some 1,none,.bldA (.i .u32) 8 [(0,(.c (.lit .u32 1779033703))),(1,(.c (.lit .u32 3144134277))),(2,(.c (.lit .u32 1013904242))),(3,(.c (.lit .u32 2773480762))),(4,(.c (.lit .u32 1359893119))),(5,(.c (.lit .u32 2600822924))),(6,(.c (.lit .u32 528734635))),(7,(.c (.lit .u32 1541459225)))]⟩,⟨none,none,.st 8 (.t 0) (.t 1)⟩])
  .ret))⟩
def ic152 : IFn := ⟨2,111,[.cell 4 8 true],
  (.seq (.reg [0,1,5,2,6,16,17,9,7,8,10,11,98,99,12,4] [⟨some 2,none,.box (.t 0)⟩,⟨some 4,none,.alloc (.ints .u32 8)⟩])
  (.seq (.reg [0,1,5,2,6,16,17,9,7,8,10,11,98,99,12,4] [⟨some 13,none,.mv (.t 1)⟩,⟨some 14,none,.call 160 true [((.t 13),.b (.i .u8))]⟩,⟨some 5,none,.alloc (.ints .u32 64)⟩,⟨none,none,.st 64 (.t 5) (.t 14)⟩])
  (.seq (.reg [0,1,5,2,6,16,17,9,7,8,10,11,98,99,12,4] [⟨some 15,none,.ld 8 true (.t 2)⟩,⟨some 6,none,.alloc (.ints .u32 8)⟩,⟨none,none,.st 8 (.t 6) (.t 15)⟩])
  (.seq (.seq (.reg [0,1,5,2,6,16,17,9,7,8,10,11,98,99,12,4] [⟨some 16,none,.mv (.c (.lit .i64 0))⟩])
  (.block 0 (.loop 0 (.seq (.reg [0,1,5,2,6,16,17,9,7,8,10,11,98,99,12,4] [⟨some 17,none,.cmp .lss (.t 16) (.c (.lit .i64 64))⟩])
   (.seq (.cond (.t 17)
     .skip
     (.exit 0))
   (.seq (.block 1 (.seq (.reg [0,1,5,2,6,16,17,9,7,8,10,11,98,99,12,4] [⟨some 18,none,.mv (.t 16)⟩,⟨some 7,none,.mv (.t 18)⟩])
   (.seq (.dreg [0,1,5,2,6,16,17,9,7,8,10,11,98,99,12,4] [⟨⟨some 19,none,.iaA 8 1 (.t 6) (.c (.lit .i64 0))⟩,[],[],none⟩,⟨⟨some 20,none,.ld 1 false (.t 19)⟩,[],[],none⟩,⟨⟨some 21,none,.iaA 8 1 (.t 6) (.c (.lit .i64 4))⟩,[],[],none⟩,⟨⟨some 22,none,.ld 1 false (.t 21)⟩,[],[],none⟩,⟨⟨some 8,none,.mv (.t 20)⟩,[],[],none⟩,⟨⟨some 9,none,.mv (.t 22)⟩,[],[],none⟩])
   (.seq (.dreg [0,1,5,2,6,16,17,9,7,8,10,11,98,99,12,4] [⟨⟨some 23,none,.iaA 8 1 (.t 6) (.c (.lit .i64 7))⟩,[26,10026,20026,30026,40026,50026,60026,70026,80026,90026,28,10028,20028,30028,40028,50028,60028,70028,80028,90028,31,10031,20031,30031,40031,50031,60031,70031,80031,90031],[],none⟩,⟨⟨some 24,none,.ld 1 false (.t 23)⟩,[26,10026,20026,30026,40026,50026,60026,70026,80026,90026,28,10028,20028,30028,40028,50028,60028,70028,80028,90028,31,10031,20031,30031,40031,50031,60031,70031,80031,90031],[],none⟩,⟨⟨some 25,none,.mv (.t 9)⟩,[],[],none⟩,⟨⟨some 26,none,.call 161 true [((.t 25),.v),((.c (.lit .i64 (-6))),.v)]⟩,[],[],none⟩,⟨⟨some 27,none,.mv (.t 9)⟩,[26,10026,20026,30026,40026,50026,60026,70026,80026,90026],[],none⟩,⟨⟨some 28,none,.call 161 true [((.t 27),.v),((.c (.lit .i64 (-11))),.v)]⟩,[],[],none⟩,⟨⟨some 29,none,.ar .xor .u32 (.t 26) (.t 28)⟩,[31,10031,20031,30031,40031,50031,60031,70031,80031,90031],[],none⟩,⟨⟨some 30,none,.mv (.t 9)⟩,[26,10026,20026,30026,40026,50026,60026,70026,80026,90026,28,10028,20028,30028,40028,50028,60028,70028,80028,90028],[],none⟩,⟨⟨some 31,none,.call 161 true [((.t 30),.v),((.c (.lit .i64 (-25))),.v)]⟩,[],[],none⟩,⟨⟨some 32,none,.ar .xor .u32 (.t 29) (.t 31)⟩,[],[],none⟩,⟨⟨some 33,none,.ar .add .u32 (.t 24) (.t 32)⟩,[],[],none⟩,⟨⟨some 34,none,.mv (.t 9)⟩,[26,10026,20026,30026,40026,50026,60026,70026,80026,90026,28,10028,20028,30028,40028,50028,60028,70028,80028,90028,31,10031,20031,30031,40031,50031,60031,70031,80031,90031],[],none⟩,⟨⟨some 35,none,.iaA 8 1 (.t 6) (.c (.lit .i64 5))⟩,[26,10026,20026,30026,40026,50026,60026,70026,80026,90026,28,10028,20028,30028,40028,50028,60028,70028,80028,90028,31,10031,20031,30031,40031,50031,60031,70031,80031,90031],[],none⟩,⟨⟨some 36,none,.ld 1 false (.t 35)⟩,[26,10026,20026,30026,40026,50026,60026,70026,80026,90026,28,10028,20028,30028,40028,50028,60028,70028,80028,90028,31,10031,20031,30031,40031,50031,60031,70031,80031,90031],[],none⟩,⟨⟨some 37,none,.ar .and .u32 (.t 34) (.t 36)⟩,[26,10026,20026,30026,40026,50026,60026,70026,80026,90026,28,10028,20028,30028,40028,50028,60028,70028,80028,90028,31,10031,20031,30031,40031,50031,60031,70031,80031,90031],[],none⟩,⟨⟨some 38,none,.mv (.t 9)⟩,[26,10026,20026,30026,40026,50026,60026,70026,80026,90026,28,10028,20028,30028,40028,50028,60028,70028,80028,90028,31,10031,20031,30031,40031,50031,60031,70031,80031,90031],[],none⟩,⟨⟨some 39,none,.cpl .u32 (.t 38)⟩,[26,10026,20026,30026,40026,50026,60026,70026,80026,90026,28,10028,20028,30028,40028,50028,60028,70028,80028,90028,31,10031,20031,30031,40031,50031,60031,70031,80031,90031],[],none⟩,⟨⟨some 40,none,.iaA 8 1 (.t 6) (.c (.lit .i64 6))⟩,[26,10026,20026,30026,40026,50026,60026,70026,80026,90026,28,10028,20028,30028,40028,50028,60028,70028,80028,90028,31,10031,20031,30031,40031,50031,60031,70031,80031,90031],[],none⟩,⟨⟨some 41,none,.ld 1 false (.t 40)⟩,[26,10026,20026,30026,40026,50026,60026,70026,80026,90026,28,10028,20028,30028,40028,50028,60028,70028,80028,90028,31,10031,20031,30031,40031,50031,60031,70031,80031,90031],[],none⟩,⟨⟨some 42,none,.ar .and .u32 (.t 39) (.t 41)⟩,[26,10026,20026,30026,40026,50026,60026,70026,80026,90026,28,10028,20028,30028,40028,50028,60028,70028,80028,90028,31,10031,20031,30031,40031,50031,60031,70031,80031,90031],[],none⟩,⟨⟨some 43,none,.ar .xor .u32 (.t 37) (.t 42)⟩,[26,10026,20026,30026,40026,50026,60026,70026,80026,90026,28,10028,20028,30028,40028,50028,60028,70028,80028,90028,31,10031,20031,30031,40031,50031,60031,70031,80031,90031],[],none⟩,⟨⟨some 44,none,.ar .add .u32 (.t 33) (.t 43)⟩,[],[],none⟩,⟨⟨some 45,none,.mv (.t 7)⟩,[26,10026,20026,30026,40026,50026,60026,70026,80026,90026,28,10028,20028,30028,40028,50028,60028,70028,80028,90028,31,10031,20031,30031,40031,50031,60031,70031,80031,90031],[],none⟩,⟨⟨some 46,none,.iaA 64 1 (.g 1) (.t 45)⟩,[26,10026,20026,30026,40026,50026,60026,70026,80026,90026,28,10028,20028,30028,40028,50028,60028,70028,80028,90028,31,10031,20031,30031,40031,50031,60031,70031,80031,90031],[],none⟩,⟨⟨some 47,none,.ld 1 false (.t 46)⟩,[26,10026,20026,30026,40026,50026,60026,70026,80026,90026,28,10028,20028,30028,40028,50028,60028,70028,80028,90028,31,10031,20031,30031,40031,50031,60031,70031,80031,90031],[],none⟩,⟨⟨some 48,none,.ar .add .u32 (.t 44) (.t 47)⟩,[],[],none⟩,⟨⟨some 49,none,.mv (.t 7)⟩,[26,10026,20026,30026,40026,50026,60026,70026,80026,90026,28,10028,20028,30028,40028,50028,60028,70028,80028,90028,31,10031,20031,30031,40031,50031,60031,70031,80031,90031],[],none⟩,⟨⟨some 50,none,.iaA 64 1 (.t 5) (.t 49)⟩,[26,10026,20026,30026,40026,50026,60026,70026,80026,90026,28,10028,20028,30028,40028,50028,60028,70028,80028,90028,31,10031,20031,30031,40031,50031,60031,70031,80031,90031],[],none⟩,⟨⟨some 51,none,.ld 1 false (.t 50)⟩,[26,10026,20026,30026,40026,50026,60026,70026,80026,90026,28,10028,20028,30028,40028,50028,60028,70028,80028,90028,31,10031,20031,30031,40031,50031,60031,70031,80031,90031],[],none⟩,⟨⟨some 52,none,.ar .add .u32 (.t 48) (.t 51)⟩,[],[],none⟩,⟨⟨some 10,none,.mv (.t 52)⟩,[],[],none⟩])
   (.seq (.dreg [0,1,5,2,6,16,17,9,7,8,10,11,98,99,12,4] [⟨⟨some 53,none,.mv (.t 8)⟩,[],[],none⟩,⟨⟨some 54,none,.call 161 true [((.t 53),.v),((.c (.lit .i64 (-2))),.v)]⟩,[],[],none⟩,⟨⟨some 55,none,.mv (.t 8)⟩,[54,10054,20054,30054,40054,50054,60054,70054,80054,90054],[],none⟩,⟨⟨some 56,none,.call 161 true [((.t 55),.v),((.c (.lit .i64 (-13))),.v)]⟩,[],[],none⟩,⟨⟨some 57,none,.ar .xor .u32 (.t 54) (.t 56)⟩,[59,10059,20059,30059,40059,50059,60059,70059,80059,90059],[],none⟩,⟨⟨some 58,none,.mv (.t 8)⟩,[54,10054,20054,30054,40054,50054,60054,70054,80054,90054,56,10056,20056,30056,40056,50056,60056,70056,80056,90056],[],none⟩,⟨⟨some 59,none,.call 161 true [((.t 58),.v),((.c (.lit .i64 (-22))),.v)]⟩,[],[],none⟩,⟨⟨some 60,none,.ar .xor .u32 (.t 57) (.t 59)⟩,[],[],none⟩,⟨⟨some 61,none,.mv (.t 8)⟩,[54,10054,20054,30054,40054,50054,60054,70054,80054,90054,56,10056,20056,30056,40056,50056,60056,70056,80056,90056,59,10059,20059,30059,40059,50059,60059,70059,80059,90059],[],none⟩,⟨⟨some 62,none,.iaA 8 1 (.t 6) (.c (.lit .i64 1))⟩,[54,10054,20054,30054,40054,50054,60054,70054,80054,90054,56,10056,20056,30056,40056,50056,60056,70056,80056,90056,59,10059,20059,30059,40059,50059,60059,70059,80059,90059],[],none⟩,⟨⟨some 63,none,.ld 1 false (.t 62)⟩,[54,10054,20054,30054,40054,50054,60054,70054,80054,90054,56,10056,20056,30056,40056,50056,60056,70056,80056,90056,59,10059,20059,30059,40059,50059,60059,70059,80059,90059],[],none⟩,⟨⟨some 64,none,.ar .and .u32 (.t 61) (.t 63)⟩,[54,10054,20054,30054,40054,50054,60054,70054,80054,90054,56,10056,20056,30056,40056,50056,60056,70056,80056,90056,59,10059,20059,30059,40059,50059,60059,70059,80059,90059],[],none⟩,⟨⟨some 65,none,.mv (.t 8)⟩,[54,10054,20054,30054,40054,50054,60054,70054,80054,90054,56,10056,20056,30056,40056,50056,60056,70056,80056,90056,59,10059,20059,30059,40059,50059,60059,70059,80059,90059],[],none⟩,⟨⟨some 66,none,.iaA 8 1 (.t 6) (.c (.lit .i64 2))⟩,[54,10054,20054,30054,40054,50054,60054,70054,80054,90054,56,10056,20056,30056,40056,50056,60056,70056,80056,90056,59,10059,20059,30059,40059,50059,60059,70059,80059,90059],[],none⟩,⟨⟨some 67,none,.ld 1 false (.t 66)⟩,[54,10054,20054,30054,40054,50054,60054,70054,80054,90054,56,10056,20056,30056,40056,50056,60056,70056,80056,90056,59,10059,20059,30059,40059,50059,60059,70059,80059,90059],[],none⟩,⟨⟨some 68,none,.ar .and .u32 (.t 65) (.t 67)⟩,[54,10054,20054,30054,40054,50054,60054,70054,80054,90054,56,10056,20056,30056,40056,50056,60056,70056,80056,90056,59,10059,20059,30059,40059,50059,60059,70059,80059,90059],[],none⟩,⟨⟨some 69,none,.ar .xor .u32 (.t 64) (.t 68)⟩,[54,10054,20054,30054,40054,50054,60054,70054,80054,90054,56,10056,20056,30056,40056,50056,60056,70056,80056,90056,59,10059,20059,30059,40059,50059,60059,70059,80059,90059],[],none⟩,⟨⟨some 70,none,.iaA 8 1 (.t 6) (.c (.lit .i64 1))⟩,[54,10054,20054,30054,40054,50054,60054,70054,80054,90054,56,10056,20056,30056,40056,50056,60056,70056,80056,90056,59,10059,20059,30059,40059,50059,60059,70059,80059,90059],[],none⟩,⟨⟨some 71,none,.ld 1 false (.t 70)⟩,[54,10054,20054,30054,40054,50054,60054,70054,80054,90054,56,10056,20056,30056,40056,50056,60056,70056,80056,90056,59,10059,20059,30059,40059,50059,60059,70059,80059,90059],[],none⟩,⟨⟨some 72,none,.iaA 8 1 (.t 6) (.c (.lit .i64 2))⟩,[54,10054,20054,30054,40054,50054,60054,70054,80054,90054,56,10056,20056,30056,40056,50056,60056,70056,80056,90056,59,10059,20059,30059,40059,50059,60059,70059,80059,90059],[],none⟩,⟨⟨some 73,none,.ld 1 false (.t 72)⟩,[54,10054,20054,30054,40054,50054,60054,70054,80054,90054,56,10056,20056,30056,40056,50056,60056,70056,80056,90056,59,10059,20059,30059,40059,50059,60059,70059,80059,90059],[],none⟩,⟨⟨some 74,none,.ar .and .u32 (.t 71) (.t 73)⟩,[54,10054,20054,30054,40054,50054,60054,70054,80054,90054,56,10056,20056,30056,40056,50056,60056,70056,80056,90056,59,10059,20059,30059,40059,50059,60059,70059,80059,90059],[],none⟩,⟨⟨some 75,none,.ar .xor .u32 (.t 69) (.t 74)⟩,[54,10054,20054,30054,40054,50054,60054,70054,80054,90054,56,10056,20056,30056,40056,50056,60056,70056,80056,90056,59,10059,20059,30059,40059,50059,60059,70059,80059,90059],[],none⟩,⟨⟨some 76,none,.ar .add .u32 (.t 60) (.t 75)⟩,[],[],none⟩,⟨⟨some 11,none,.mv (.t 76)⟩,[],[],none⟩])
   (.reg [0,1,5,2,6,16,17,9,7,8,10,11,98,99,12,4] [⟨some 77,none,.mv (.t 10)⟩,⟨some 78,none,.mv (.t 11)⟩,⟨some 79,none,.ar .add .u32 (.t 77) (.t 78)⟩,⟨some 80,none,.iaA 8 1 (.t 6) (.c (.lit .i64 0))⟩,⟨some 81,none,.ld 1 false (.t 80)⟩,⟨some 82,none,.iaA 8 1 (.t 6) (.c (.lit .i64 1))⟩,⟨some 83,none,.ld 1 false (.t 82)⟩,⟨some 84,none,.iaA 8 1 (.t 6) (.c (.lit .i64 2))⟩,⟨some 85,none,.ld 1 false (.t 84)⟩,⟨some 86,none,.iaA 8 1 (.t 6) (.c (.lit .i64 3))⟩,⟨some 87,none,.ld 1 false (.t 86)⟩,⟨some 88,none,.mv (.t 10)⟩,⟨some 89,none,.ar .add .u32 (.t 87) (.t 88)⟩,⟨some 90,none,.iaA 8 1 (.t 6) (.c (.lit .i64 4))⟩,⟨some 91,none,.ld 1 false (.t 90)⟩,⟨some 92,none,.iaA 8 1 (.t 6) (.c (.lit .i64 5))⟩,⟨some 93,none,.ld 1 false (.t 92)⟩,⟨some 94,none,.iaA 8 1 (.t 6) (.c (.lit .i64 6))⟩,⟨some 95,none,.ld 1 false (.t 94)⟩,⟨some 96,none,.bldA (.i .u32) 8 [(0,(.t 79)),(1,(.t 81)),(2,(.t 83)),(3,(.t 85)),(4,(.t 89)),(5,(.t 91)),(6,(.t 93)),(7,(.t 95))]⟩,⟨none,none,.st 8 (.t 6) (.t 96)⟩]))))))
   (.reg [0,1,5,2,6,16,17,9,7,8,10,11,98,99,12,4] [⟨some 97,none,.ar .add .i64 (.t 16) (.c (.lit .i64 1))⟩,⟨some 16,none,.mv (.t 97)⟩])))))))
  (.seq (.seq (.reg [0,1,5,2,6,16,17,9,7,8,10,11,98,99,12,4] [⟨some 98,none,.mv (.c (.lit .i64 0))⟩])
  (.block 2 (.loop 1 (.seq (.reg [0,1,5,2,6,16,17,9,7,8,10,11,98,99,12,4] [⟨some 99,none,.cmp .lss (.t 98) (.c (.lit .i64 8))⟩])
   (.seq (.cond (.t 99)
     .skip
     (.exit 2))
   (.seq (.block 3 (.seq (.reg [0,1,5,2,6,16,17,9,7,8,10,11,98,99,12,4] [⟨some 100,none,.mv (.t 98)⟩,⟨some 12,none,.mv (.t 100)⟩])
   (.dreg [0,1,5,2,6,16,17,9,7,8,10,11,98,99,12,4] [⟨⟨some 101,none,.mv (.t 12)⟩,[],[],none⟩,⟨⟨some 102,none,.iaA 8 1 (.t 2) (.t 101)⟩,[],[],none⟩,⟨⟨some 103,none,.ld 1 false (.t 102)⟩,[],[],none⟩,⟨⟨some 104,none,.mv (.t 12)⟩,[],[],none⟩,⟨⟨some 105,none,.iaA 8 1 (.t 6) (.t 104)⟩,[],[],none⟩,⟨⟨some 106,none,.ld 1 false (.t 105)⟩,[],[],none⟩,⟨⟨some 107,none,.ar .add .u32 (.t 103) (.t 106)⟩,[],[],none⟩,⟨⟨some 108,none,.iaA 8 1 (.t 2) (.t 101)⟩,[],[],none⟩,⟨⟨none,none,.st 1 (.t 108) (.t 107)⟩,[],[],none⟩])))
   (.reg [0,1,5,2,6,16,17,9,7,8,10,11,98,99,12,4] [⟨some 109,none,.ar .add .i64 (.t 98) (.c (.lit .i64 1))⟩,⟨some 98,none,.mv (.t 109)⟩])))))))
  (.seq (.reg [0,1,5,2,6,16,17,9,7,8,10,11,98,99,12,4] [⟨some 110,none,.ld 8 true (.t 2)⟩,⟨none,none,.st 8 (.t 4) (.t 110)⟩])
  .ret))))))⟩
def ic160 : IFn := ⟨1,64,[.cell 2 64 true],
  (.seq (.reg [10,11,4,0,3,5,21,6,7,8,9,2] [⟨some 2,none,.alloc (.ints .u32 64)⟩])
  (.seq (.reg [10,11,4,0,3,5,21,6,7,8,9,2] [⟨some 3,none,.alloc (.ints .u32 64)⟩])
  (.seq (.seq (.reg [10,11,4,0,3,5,21,6,7,8,9,2] [⟨some 10,none,.mv (.c (.lit .i64 0))⟩])
  (.block 0 (.loop 0 (.seq (.reg [10,11,4,0,3,5,21,6,7,8,9,2] [⟨some 11,none,.cmp .lss (.t 10) (.c (.lit .i64 16))⟩])
   (.seq (.cond (.t 11)
     .skip
     (.exit 0))
   (.seq (.block 1 (.seq (.reg [10,11,4,0,3,5,21,6,7,8,9,2] [⟨some 12,none,.mv (.t 10)⟩,⟨some 4,none,.mv (.t 12)⟩])
   (.reg [10,11,4,0,3,5,21,6,7,8,9,2] [⟨some 13,none,.mv (.t 4)⟩,⟨some 14,none,.mv (.t 0)⟩,⟨some 15,none,.mv (.t 4)⟩,⟨some 16,none,.ar .mul .i64 (.c (.lit .i64 4)) (.t 15)⟩,⟨some 17,none,.call 163 true [((.t 14),.b (.i .u8)),((.t 16),.v)]⟩,⟨some 18,none,.iaA 64 1 (.t 3) (.t 13)⟩,⟨none,none,.st 1 (.t 18) (.t 17)⟩])))
   (.reg [10,11,4,0,3,5,21,6,7,8,9,2] [⟨some 19,none,.ar .add .i64 (.t 10) (.c (.lit .i64 1))⟩,⟨some 10,none,.mv (.t 19)⟩])))))))
  (.seq (.seq (.reg [10,11,4,0,3,5,21,6,7,8,9,2] [⟨some 5,none,.mv (.c (.lit .i64 16))⟩])
  (.block 2 (.loop 1 (.seq (.seq (.reg [10,11,4,0,3,5,21,6,7,8,9,2] [⟨some 20,none,.mv (.t 5)⟩,⟨some 21,none,.cmp .lss (.t 20) (.c (.lit .i64 64))⟩])
   (.cond (.t 21)
     .skip
     (.exit 2)))
   (.seq (.block 3 (.seq (.dreg [10,11,4,0,3,5,21,6,7,8,9,2] [⟨⟨some 24,none,.mv (.t 5)⟩,[],[],none⟩,⟨⟨some 25,none,.ar .sub .i64 (.t 24) (.c (.lit .i64 15))⟩,[],[],none⟩,⟨⟨some 26,none,.iaA 64 1 (.t 3) (.t 25)⟩,[],[],none⟩,⟨⟨some 27,none,.ld 1 false (.t 26)⟩,[],[],none⟩,⟨⟨some 28,none,.mv (.t 5)⟩,[],[],none⟩,⟨⟨some 29,none,.ar .sub .i64 (.t 28) (.c (.lit .i64 2))⟩,[],[],none⟩,⟨⟨some 30,none,.iaA 64 1 (.t 3) (.t 29)⟩,[],[],none⟩,⟨⟨some 31,none,.ld 1 false (.t 30)⟩,[],[],none⟩,⟨⟨some 6,none,.mv (.t 27)⟩,[],[],none⟩,⟨⟨some 7,none,.mv (.t 31)⟩,[],[],none⟩])
   (.seq (.reg [10,11,4,0,3,5,21,6,7,8,9,2] [⟨some 32,none,.mv (.t 6)⟩,⟨some 33,none,.call 161 true [((.t 32),.v),((.c (.lit .i64 (-7))),.v)]⟩,⟨some 34,none,.mv (.t 6)⟩,⟨some 35,none,.call 161 true [((.t 34),.v),((.c (.lit .i64 (-18))),.v)]⟩,⟨some 36,none,.ar .xor .u32 (.t 33) (.t 35)⟩,⟨some 37,none,.mv (.t 6)⟩,⟨some 38,none,.shf .shr .u32 (.t 37) (.c (.lit .u64 3))⟩,⟨some 39,none,.ar .xor .u32 (.t 36) (.t 38)⟩,⟨some 8,none,.mv (.t 39)⟩])
   (.seq (.reg [10,11,4,0,3,5,21,6,7,8,9,2] [⟨some 40,none,.mv (.t 7)⟩,⟨some 41,none,.call 161 true [((.t 40),.v),((.c (.lit .i64 (-17))),.v)]⟩,⟨some 42,none,.mv (.t 7)⟩,⟨some 43,none,.call 161 true [((.t 42),.v),((.c (.lit .i64 (-19))),.v)]⟩,⟨some 44,none,.ar .xor .u32 (.t 41) (.t 43)⟩,⟨some 45,none,.mv (.t 7)⟩,⟨some 46,none,.shf .shr .u32 (.t 45) (.c (.lit .u64 10))⟩,⟨some 47,none,.ar .xor .u32 (.t 44) (.t 46)⟩,⟨some 9,none,.mv (.t 47)⟩])
   (.dreg [10,11,4,0,3,5,21,6,7,8,9,2] [⟨⟨some 48,none,.mv (.t 5)⟩,[],[],none⟩,⟨⟨some 49,none,.mv (.t 5)⟩,[],[],none⟩,⟨⟨some 50,none,.ar .sub .i64 (.t 49) (.c (.lit .i64 16))⟩,[],[],none⟩,⟨⟨some 51,none,.iaA 64 1 (.t 3) (.t 50)⟩,[],[],none⟩,⟨⟨some 52,none,.ld 1 false (.t 51)⟩,[],[],none⟩,⟨⟨some 53,none,.mv (.t 8)⟩,[],[],none⟩,⟨⟨some 54,none,.ar .add .u32 (.t 52) (.t 53)⟩,[],[],none⟩,⟨⟨some 55,none,.mv (.t 5)⟩,[],[],none⟩,⟨⟨some 56,none,.ar .sub .i64 (.t 55) (.c (.lit .i64 7))⟩,[],[],none⟩,⟨⟨some 57,none,.iaA 64 1 (.t 3) (.t 56)⟩,[],[],none⟩,⟨⟨some 58,none,.ld 1 false (.t 57)⟩,[],[],none⟩,⟨⟨some 59,none,.ar .add .u32 (.t 54) (.t 58)⟩,[],[],none⟩,⟨⟨some 60,none,.mv (.t 9)⟩,[],[],none⟩,⟨⟨some 61,none,.ar .add .u32 (.t 59) (.t 60)⟩,[],[],none⟩,⟨⟨some 62,none,.iaA 64 1 (.t 3) (.t 48)⟩,[],[],none⟩,⟨⟨none,none,.st 1 (.t 62) (.t 61)⟩,[],[],none⟩])))))
   (.reg [10,11,4,0,3,5,21,6,7,8,9,2] [⟨some 22,none,.mv (.t 5)⟩,⟨some 23,none,.ar .add .i64 (.t 22) (.c (.lit .i64 1))⟩,⟨some 5,none,.mv (.t 23)⟩]))))))
  (.seq (.reg [10,11,4,0,3,5,21,6,7,8,9,2] [⟨some 63,none,.ld 64 true (.t 3)⟩,⟨none,none,.st 64 (.t 2) (.t 63)⟩])
  .ret)))))⟩
def ic161 : IFn := ⟨2,17,[.t 4],
  (.seq (.reg [1,0,5,4] [⟨some 4,none,.mv (.c (.lit .u32 0))⟩])
  (.seq (.reg [1,0,5,4] [⟨some 6,none,.mv (.t 1)⟩,⟨some 7,none,.cv .u64 (.t 6)⟩,⟨some 8,none,.ar .and .u64 (.t 7) (.c (.lit .u64 31))⟩,⟨some 5,none,.mv (.t 8)⟩])
  (.seq (.reg [1,0,5,4] [⟨some 9,none,.mv (.t 0)⟩,⟨some 10,none,.mv (.t 5)⟩,⟨some 11,none,.shf .shl .u32 (.t 9) (.t 10)⟩,⟨some 12,none,.mv (.t 0)⟩,⟨some 13,none,.mv (.t 5)⟩,⟨some 14,none,.ar .sub .u64 (.c (.lit .u64 32)) (.t 13)⟩,⟨some 15,none,.shf .shr .u32 (.t 12) (.t 14)⟩,⟨some 16,none,.ar .or .u32 (.t 11) (.t 15)⟩,⟨some 4,none,.mv (.t 16)⟩])
  .ret)))⟩
def ic163 : IFn := ⟨2,34,[.t 4],
  (.seq (.reg [0,1,4] [⟨some 4,none,.mv (.c (.lit .u32 0))⟩])
  (.seq (.dreg [0,1,4] [⟨⟨some 5,none,.mv (.t 0)⟩,[],[],none⟩,⟨⟨some 6,none,.mv (.t 1)⟩,[],[],none⟩,⟨⟨some 7,none,.iaS 1 (.t 5) (.t 6)⟩,[],[],none⟩,⟨⟨some 8,none,.ld 1 false (.t 7)⟩,[],[],none⟩,⟨⟨some 9,none,.cv .u32 (.t 8)⟩,[],[],none⟩,⟨⟨some 10,none,.shf .shl .u32 (.t 9) (.c (.lit .u64 24))⟩,[],[],none⟩,⟨⟨some 11,none,.mv (.t 0)⟩,[],[],none⟩,⟨⟨some 12,none,.mv (.t 1)⟩,[],[],none⟩,⟨⟨some 13,none,.ar .add .i64 (.t 12) (.c (.lit .i64 1))⟩,[],[],none⟩,⟨⟨some 14,none,.iaS 1 (.t 11) (.t 13)⟩,[],[],none⟩,⟨⟨some 15,none,.ld 1 false (.t 14)⟩,[],[],none⟩,⟨⟨some 16,none,.cv .u32 (.t 15)⟩,[],[],none⟩,⟨⟨some 17,none,.shf .shl .u32 (.t 16) (.c (.lit .u64 16))⟩,[],[],none⟩,⟨⟨some 18,none,.ar .or .u32 (.t 10) (.t 17)⟩,[],[],none⟩,⟨⟨some 19,none,.mv (.t 0)⟩,[],[],none⟩,⟨⟨some 20,none,.mv (.t 1)⟩,[],[],none⟩,⟨⟨some 21,none,.ar .add .i64 (.t 20) (.c (.lit .i64 2))⟩,[],[],none⟩,⟨⟨some 22,none,.iaS 1 (.t 19) (.t 21)⟩,[],[],none⟩,⟨⟨some 23,none,.ld 1 false (.t 22)⟩,[],[],none⟩,⟨⟨some 24,none,.cv .u32 (.t 23)⟩,[],[],none⟩,⟨⟨some 25,none,.shf .shl .u32 (.t 24) (.c (.lit .u64 8))⟩,[],[],none⟩,⟨⟨some 26,none,.ar .or .u32 (.t 18) (.t 25)⟩,[],[],none⟩,⟨⟨some 27,none,.mv (.t 0)⟩,[],[],none⟩,⟨⟨some 28,none,.mv (.t 1)⟩,[],[],none⟩,⟨⟨some 29,none,.ar .add .i64 (.t 28) (.c (.lit .i64 3))⟩,[],[],none⟩,⟨⟨some 30,none,.iaS 1 (.t 27) (.t 29)⟩,[],[],none⟩,⟨⟨some 31,none,.ld 1 false (.t 30)⟩,[],[],none⟩,⟨⟨some 32,none,.cv .u32 (.t 31)⟩,[],[],none⟩,⟨⟨some 33,none,.ar .or .u32 (.t 26) (.t 32)⟩,[],[],none⟩,⟨⟨some 4,none,.mv (.t 33)⟩,[],[],none⟩])
  .ret))⟩
theorem ok79 : fnOk Tryd.prog 79 = true := by kernel_rfl
theorem co79 : comp Tryd.prog pu 79 = some ic79 := by kernel_rfl
theorem ok80 : fnOk Tryd.prog 80 = true := by kernel_rfl
theorem co80 : comp Tryd.prog pu 80 = some ic80 := by kernel_rfl
theorem ok136 : fnOk Tryd.prog 136 = true := by kernel_rfl
theorem co136 : comp Tryd.prog pu 136 = some ic136 := by kernel_rfl
theorem ok137 : fnOk Tryd.prog 137 = true := by kernel_rfl
theorem co137 : comp Tryd.prog pu 137 = some ic137 := by kernel_rfl
theorem ok138 : fnOk Tryd.prog 138 = true := by kernel_rfl
theorem co138 : comp Tryd.prog pu 138 = some ic138 := by kernel_rfl
theorem ok139 : fnOk Tryd.prog 139 = true := by kernel_rfl
theorem co139 : comp Tryd.prog pu 139 = some ic139 := by kernel_rfl
theorem ok140 : fnOk Tryd.prog 140 = true := by kernel_rfl
theorem co140 : comp Tryd.prog pu 140 = some ic140 := by kernel_rfl
theorem ok151 : fnOk Tryd.prog 151 = true := by kernel_rfl
theorem co151 : comp Tryd.prog pu 151 = some ic151 := by kernel_rfl
theorem ok152 : fnOk Tryd.prog 152 = true := by kernel_rfl
theorem co152 : comp Tryd.prog pu 152 = some ic152 := by kernel_rfl
theorem ok160 : fnOk Tryd.prog 160 = true := by kernel_rfl
theorem co160 : comp Tryd.prog pu 160 = some ic160 := by kernel_rfl
theorem ok161 : fnOk Tryd.prog 161 = true := by kernel_rfl
theorem co161 : comp Tryd.prog pu 161 = some ic161 := by kernel_rfl
theorem ok163 : fnOk Tryd.prog 163 = true := by kernel_rfl
theorem co163 : comp Tryd.prog pu 163 = some ic163 := by kernel_rfl
end Go.Cx.Rb
