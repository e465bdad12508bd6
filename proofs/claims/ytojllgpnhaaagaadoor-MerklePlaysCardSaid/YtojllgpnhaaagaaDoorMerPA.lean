/-
  What the laws of this claim stand on, part A: proved parts, no statement of its own.
-/
import Derived.Tactics
import Derived.LoopN
import Derived.Laws.AppendOwn
import Derived.Below
import Derived.DeepKeys
import Derived.ChangeKeysEq
/- CxV -/
namespace Go.Cx
open Go
/-- Application under a variable: what stands behind it is not looked into by 'cbv'. -/
abbrev AP := (α β : Type) → (α → β) → α → β
def apf (α β : Type) (f : α → β) (x : α) : β := f x
def inR (k : IntKind) (n : Int) : Prop := k.min ≤ n ∧ n ≤ k.max
def wadd (k : IntKind) (x y : Int) : Int := k.wrap (x + y)
def wsub (k : IntKind) (x y : Int) : Int := k.wrap (x - y)
def wmul (k : IntKind) (x y : Int) : Int := k.wrap (x * y)
def wquo (k : IntKind) (x y : Int) : Int := k.wrap (x.tdiv y)
def wrem (_ : IntKind) (x y : Int) : Int := x.tmod y
def band (k : IntKind) (x y : Int) : Int := k.wrap ((BitVec.ofInt k.bits x &&& BitVec.ofInt k.bits y).toNat : Int)
def bor (k : IntKind) (x y : Int) : Int := k.wrap ((BitVec.ofInt k.bits x ||| BitVec.ofInt k.bits y).toNat : Int)
def bxor (k : IntKind) (x y : Int) : Int := k.wrap ((BitVec.ofInt k.bits x ^^^ BitVec.ofInt k.bits y).toNat : Int)
def bandn (k : IntKind) (x y : Int) : Int := k.wrap ((BitVec.ofInt k.bits x &&& ~~~ BitVec.ofInt k.bits y).toNat : Int)
def bshl (k : IntKind) (x y : Int) : Int := k.wrap (x * 2 ^ (min y.toNat k.bits))
def bshr (k : IntKind) (x y : Int) : Int := x.fdiv (2 ^ (min y.toNat k.bits))
def wneg (k : IntKind) (x : Int) : Int := k.wrap (0 - x)
def bcpl (k : IntKind) (x : Int) : Int := bxor k (if k.signed then -1 else k.max) x
def wcv (k : IntKind) (x : Int) : Int := k.wrap x
def zero0 (_ _ : Int) : Int := 0
def arF : BinOp → IntKind → Int → Int → Int
  | .add => wadd | .sub => wsub | .mul => wmul | .quo => wquo | .rem => wrem | .and => band | .or => bor | .xor => bxor | .andNot => bandn
  | .shl => bshl | .shr => bshr | _ => fun _ => zero0
def eqI (x y : Int) : Bool := decide (x = y)
def neI (x y : Int) : Bool := !decide (x = y)
def ltI (x y : Int) : Bool := decide (x < y)
def leI (x y : Int) : Bool := decide (x ≤ y)
def gtI (x y : Int) : Bool := decide (y < x)
def geI (x y : Int) : Bool := decide (y ≤ x)
def cmF : BinOp → Int → Int → Bool
  | .eql => eqI | .neq => neI | .lss => ltI | .leq => leI | .gtr => gtI | .geq => geI | _ => fun _ _ => false
def isCmp : BinOp → Bool
  | .eql | .neq | .lss | .leq | .gtr | .geq => true | _ => false
def isAr : BinOp → Bool
  | .add | .sub | .mul | .quo | .rem | .and | .or | .xor | .andNot => true | _ => false
def isDiv : BinOp → Bool
  | .quo | .rem => true | _ => false
def eqL (x y : List Int) : Bool := decide (x = y)
def eqB (x y : Bool) : Bool := x == y
def notB (x : Bool) : Bool := !x
def minI (x y : Int) : Int := if y < x then y else x
def maxI (x y : Int) : Int := if x < y then y else x
def nthI (l : List Int) (i : Nat) : Int := l.getD i 0
def setI (l : List Int) (i : Nat) (x : Int) : List Int := l.set i x
def subL (l : List Int) (i n : Nat) : List Int := (l.drop i).take n
def catL (a b : List Int) : List Int := a ++ b
def zerosI (n : Nat) : List Int := List.replicate n 0
def lenI (n : Nat) : Int := n
def natI (n : Int) : Nat := n.toNat
def addN (a b : Nat) : Nat := a + b
def subN (a b : Nat) : Nat := a - b
def mksN (w n : Nat) : Prop := w * n ≤ 140737488355328
def appN (w m : Nat) : Prop := m * w ≤ 140737488355328
/-- a list laid over another from place i on -/
def layL (l : List Int) (i : Nat) (x : List Int) : List Int := l.take i ++ x ++ l.drop (i + x.length)
def takeL (l : List Int) (n : Nat) : List Int := l.take n
def notIn (o : List Nat) (j : Nat) : Prop := j ∉ o
def ltN (i n : Nat) : Prop := i < n
def leN (i n : Nat) : Prop := i ≤ n
def eqN (i n : Nat) : Prop := i = n
def llen (l : List Int) : Nat := l.length
def minN (a b : Nat) : Nat := min a b
inductive Pt where
  | f (o s : Nat)
  | x (i e : Nat)
  | r (i e n : Nat)
inductive V where
  | any | tt | ff | bool (b : Bool) | lit (k : IntKind) (n : Int) | int (k : IntKind) (n : Int) | str (l : List Int) | nilp | nsl | zsl
  | ptr (h : Nat) (p : List Pt)
  | dptr (c : V) (p : List Pt)
  | sl (h : Nat) (p : List Pt) (i n e : Nat) (cap : Option Nat)
  | dsl (n e : Nat) (c : V)
  | ints (k : IntKind) (n : Nat) (l : List Int)
  | cat (n m : Nat) (a b : V)
  | rows (e n : Nat) (f : Nat → V)
  | one (a : V)
  | tnil | tcons (a b : V)
  | osl (n e : Nat) (c : V)
  | optr (c : V)
  | orow (n e : Nat) (f : Nat → V) (o : List (Nat × Nat × Nat))
  | raw (x : Value)
inductive Bk where | own | bor | imm | dead
  deriving DecidableEq
structure Blk where
  k : Bk
  c : V
structure St where
  t : Nat → V
  h : Nat → Option Blk
def upd {α : Type} (f : Nat → α) (i : Nat) (v : α) : Nat → α := fun j => if j = i then v else f j
structure Eff where
  v : V
  hs : List (Nat × Blk)
/-- Results of the executor: 'chk' a side condition, 'br' two ways, 'nam' a value that gets a name of its own. -/
inductive R (α : Type) : Type 1 where
  | fail (why : Nat)
  | ok (a : α)
  | chk (p : Prop) (r : R α)
  | br (b : Bool) (x y : R α)
  | nam {β : Type} (x : β) (k : β → R α)
def R.bind {α β : Type} : R α → (α → R β) → R β
  | .fail y, _ => .fail y
  | .ok a, f => f a
  | .chk p r, f => .chk p (r.bind f)
  | .br b x y, f => .br b (x.bind f) (y.bind f)
  | .nam x k, f => .nam x fun y => (k y).bind f
def R.all {α : Type} : R α → (α → Prop) → Prop
  | .fail _, _ => False
  | .ok a, K => K a
  | .chk p r, K => p ∧ r.all K
  | .br b x y, K => (b = true → x.all K) ∧ (b = false → y.all K)
  | .nam x k, K => ∀ y, x = y → (k y).all K
/-- it comes to a -/
def R.to {α : Type} : R α → α → Prop
  | .fail _, _ => False
  | .ok a, b => a = b
  | .chk p r, b => p ∧ r.to b
  | .br c x y, b => (c = true ∧ x.to b) ∨ (c = false ∧ y.to b)
  | .nam x k, b => (k x).to b
def rif {α : Type} (b : Bool) (why : Nat) (r : R α) : R α := if b then r else .fail why
def V.size : V → Nat
  | .ints _ n _ => n
  | .cat n m _ _ => n + m
  | .rows e n _ => n * e
  | .one a => a.size
  | .orow n _ _ _ => n
  | _ => 1
def V.isAgg : V → Bool
  | .ints .. | .cat .. | .rows .. | .one _ | .orow .. => true
  | _ => false
/-- without handles -/
def V.clo : V → Bool
  | .ptr .. | .sl .. => false
  | .cat _ _ a b => a.clo && b.clo
  | .tcons a b => a.clo && b.clo
  | .one a => a.clo
  | .any => false
  | .osl _ _ c => c.clo
  | .optr c => c.clo
  | .orow _ _ _ o => o.isEmpty
  | _ => true
/-- without anything owned within -/
def V.noown : V → Bool
  | .cat _ _ a b => a.noown && b.noown
  | .tcons a b => a.noown && b.noown
  | .one a => a.noown
  | .osl .. | .optr _ | .orow .. => false
  | _ => true
/-- a tuple -/
def V.isTup : V → Bool
  | .tnil | .tcons .. => true
  | _ => false
/-- a value that one may store: nothing unknown in it -/
def V.full : V → Bool
  | .any => false
  | .cat _ _ a b => a.full && b.full
  | .one a => a.full
  | .tnil | .tcons .. | .osl .. | .optr _ | .orow .. => false
  | .rows .. => true
  | _ => true
/-- the field of s cells at o -/
def V.fld : V → Nat → Nat → Option V
  | .cat n m a b, o, s => if o = 0 ∧ s = n + m then some (.cat n m a b) else if o < n then a.fld o s else b.fld (o - n) s
  | c, o, s => if o = 0 ∧ c.size = s then some c else none
def V.setFld : V → Nat → Nat → V → Option V
  | .cat n m a b, o, s, v =>
    if o = 0 ∧ s = n + m then some v
    else if o < n then (match a.setFld o s v with | some a' => some (.cat n m a' b) | none => none)
    else (match b.setFld (o - n) s v with | some b' => some (.cat n m a b') | none => none)
  | c, o, s, v => if o = 0 ∧ c.size = s then some v else none
/-- n elements from element i on -/
def V.subs (ap : AP) : V → Nat → Nat → R V
  | .ints k _ l, i, n => .ok (.ints k n (ap _ _ (ap _ _ (ap _ _ subL l) i) n))
  | .rows e _ f, i, n => .ok (.rows e n (fun j => f (ap _ _ (ap _ _ addN i) j)))
  | _, _, _ => .fail 10
/-- the entry of a place -/
def lk3 : List (Nat × Nat × Nat) → Nat → Option (Nat × Nat)
  | [], _ => none
  | (i, p) :: l, j => if j = i then some p else lk3 l j
/-- .. or the whole of a row that owns what its elements are -/
def V.subsO (ap : AP) (c : V) (i n : Nat) : R V := match c with
  | .orow m e f o => .chk (ap _ _ (ap _ _ eqN i) 0) (.chk (ap _ _ (ap _ _ eqN n) m) (.ok (.orow m e f o)))
  | c => c.subs ap i n
/-- how many cells an element of a row has -/
def V.rowE : V → Nat
  | .ints .. => 1
  | .rows e _ _ => e
  | .orow .. => 1
  | _ => 0
/-- how many elements a row has -/
def V.cnt : V → Nat
  | .ints _ n _ => n
  | .rows _ n _ => n
  | .orow n _ _ _ => n
  | _ => 0
/-- a cell's literal -/
inductive LV where
  | b (b : Bool) | i (k : IntKind) (n : Int) | s (l : List Int)
  deriving DecidableEq
/-- content as a list of literals -/
def litsV : V → List LV
  | .tt => [.b true]
  | .ff => [.b false]
  | .bool b => [.b b]
  | .lit k n => [.i k n]
  | .int k n => [.i k n]
  | .str l => [.s l]
  | .ints k _ l => l.map (.i k)
  | .cat _ _ a b => litsV a ++ litsV b
  | .rows _ n f => (List.range n).flatMap fun j => litsV (f j)
  | .one a => litsV a
  | _ => []
/-- content of plain cells alone -/
def litOkP : V → Prop
  | .tt => True
  | .ff => True
  | .bool _ => True
  | .lit _ _ => True
  | .int _ _ => True
  | .str _ => True
  | .ints .. => True
  | .cat _ _ a b => litOkP a ∧ litOkP b
  | .rows _ n f => ∀ j, j < n → litOkP (f j)
  | .one a => litOkP a
  | _ => False
def eqZ (a b : V) : Bool := decide (litsV a = litsV b)
/-- the part at a path; the props are what must hold (places within bounds) -/
def V.at (ap : AP) : V → List Pt → R V
  | c, [] => .ok c
  | c, .f o s :: p => match c.fld o s with | some c' => c'.at ap p | none => .fail 1
  | c, .x i e :: p => match c with
    | .ints k n l => match p with
      | [] => rif (e == 1) 2 (.chk (ap _ _ (ap _ _ ltN i) n) (.ok (.int k (ap _ _ (ap _ _ nthI l) i))))
      | _ => .fail 2
    | .rows e' n f => rif (e == e') 3 (.chk (ap _ _ (ap _ _ ltN i) n) ((f i).at ap p))
    | _ => .fail 4
  | c, .r i e n :: p => match p with
    | [] => rif (c.rowE == e) 4 (.chk (ap _ _ (ap _ _ leN (ap _ _ (ap _ _ addN i) n)) c.cnt) (c.subs ap i n))
    | _ => .fail 4
def updR (f : Nat → V) (i : Nat) (v : V) : Nat → V := fun j => if j = i then v else f j
/-- a value as content, and content as a value -/
def V.unwrap : V → V
  | .one a => a
  | v => v
def V.put (ap : AP) : V → List Pt → V → R V
  | c, [], v => rif (c.size == v.size) 5 (.ok v)
  | c, .f o s :: p, v => match c.fld o s with
    | some c' => (c'.put ap p v).bind fun c2 => match c.setFld o s c2 with | some r => .ok r | none => .fail 6
    | none => .fail 6
  | c, .x i e :: p, v => match c with
    | .ints k n l => match p, v with
      | [], .int k' y => rif (e == 1 && k == k') 7 (.chk (ap _ _ (ap _ _ ltN i) n) (.ok (.ints k n (ap _ _ (ap _ _ (ap _ _ setI l) i) y))))
      | [], .lit k' y => rif (e == 1 && k == k') 7 (.chk (ap _ _ (ap _ _ ltN i) n) (.ok (.ints k n (ap _ _ (ap _ _ (ap _ _ setI l) i) y))))
      | _, _ => .fail 7
    | .rows e' n f => rif (e == e' && v.clo && v.noown) 8 (.chk (ap _ _ (ap _ _ ltN i) n)
        (((f i).put ap p v).bind fun w => .ok (.rows e n (ap _ _ (ap _ _ (ap _ _ updR f) i) w))))
    | _ => .fail 9
  | _, .r .. :: _, _ => .fail 9
inductive IX where
  | t (n : Nat)
  | c (v : V)
  | g (n : Nat)
/-- zero values, told by first-order trees -/
inductive ZT where
  | v (v : V) | ints (k : IntKind) (n : Nat) | cat (n m : Nat) (a b : ZT) | rows (e n : Nat) (z : ZT)
def ZT.val : ZT → Go.Cx.V
  | ZT.v x => x
  | .ints k n => .ints k n (List.replicate n 0)
  | .cat n m a b => .cat n m a.val b.val
  | .rows e n z => .rows e n (fun _ => z.val)
/-- kinds of elements -/
inductive EK where
  | i (k : IntKind)
  | o (e : Nat) (z : ZT)
/-- how an argument is handed over: as it is, lent, or lent to be written -/
inductive AK where
  | v | b (k : EK) | w (k : EK)
/-- kinds of cells -/
inductive CK where
  | b | s | i (k : IntKind)
  deriving DecidableEq
/-- what is compared -/
inductive ETy where
  | b | s | p | l | a (k : IntKind) (n : Nat) | z (ks : List CK)
inductive IOp where
  | mv (x : IX) | nck (x : IX) | pick (c a b : IX)
  | alloc (z : ZT) | box (x : IX)
  | bldS (z : ZT) (ps : List (Nat × Nat × IX))
  | bldA (k : EK) (n : Nat) (ps : List (Nat × IX))
  | bsl (k : EK) (n : Nat) (ps : List (Nat × IX))
  | ld (s : Nat) (agg : Bool) (x : IX)
  | st (s : Nat) (x y : IX)
  | ar (o : BinOp) (k : IntKind) (x y : IX) | cmp (o : BinOp) (x y : IX) | shf (o : BinOp) (k : IntKind) (x y : IX)
  | eq (t : ETy) (ne : Bool) (x y : IX)
  | neg (k : IntKind) (x : IX) | cpl (k : IntKind) (x : IX) | not (x : IX)
  | cv (k : IntKind) (x : IX) | b2s (x : IX) | s2b (x : IX) | mst (x : IX)
  | mks (k : EK) (bytes : Nat) (x : IX)
  | mksF (k : EK) (bytes : Nat) (x : IX)
  | slA (n e : Nat) (x : IX) (lo hi : Option IX)
  | slS (e : Nat) (x : IX) (lo hi mx : Option IX)
  | slT (x : IX) (lo hi : Option IX)
  | fa (o s : Nat) (x : IX) | fl (o s : Nat) (agg : Bool) (x : IX)
  | iaA (n e : Nat) (x i : IX) | iaS (e : Nat) (x i : IX) | ixA (n e : Nat) (agg : Bool) (x i : IX) | ixT (x i : IX)
  | lenA (n : Nat) | lenS (x : IX) | lenT (x : IX)
  | s2a (n e : Nat) (x : IX)
  | slX (e : Nat) (x hi mx : IX)
  | appz (k : EK) (bytes : Nat) (x : IX) (y : IX)
  | app (k : EK) (bytes : Nat) (x y : IX) | app0 (k : EK) (bytes : Nat) (x y : IX) | appT (x y : IX)
  | cpy (k : EK) (x y : IX)
  | min2 (x y : IX) | max2 (x y : IX)
  | ldE (re : Bool) (x : IX) | stE (x y : IX) | bslE (n : Nat) (ps : List (Nat × IX)) | allocE (n : Nat) | appE (w : Nat) (x y : IX)
  | ext (i : Nat) (x : IX)
  | call (f : Nat) (pure : Bool) (xs : List (IX × AK))
  | bad (n : Nat)
structure IOper where
  d : Option Nat
  g : Option (Nat × Bool)
  o : IOp
/-- an operation of an open region: the handles that it must not see (by name, and those that stand in slots), and those that it may write, where somebody asks -/
structure DOp where
  o : IOper
  m : List Nat
  mt : List Nat
  w : Option (List Nat × List Nat)
inductive ICode where
  | skip | ret
  | seq (a b : ICode)
  | cond (c : IX) (a b : ICode)
  | block (i : Nat) (c : ICode)
  | loop (n : Nat) (c : ICode)
  | exit (i : Nat)
  | reg (keep : List Nat) (l : List IOper)
  | dreg (keep : List Nat) (l : List DOp)
  | bad (n : Nat)
inductive IRes where
  | t (n : Nat) | cell (n s : Nat) (agg : Bool)
structure IFn where
  nargs : Nat
  ntmps : Nat
  res : List IRes
  body : ICode
end Go.Cx
/- CxX -/
namespace Go.Cx
open Go
/-- an argument: a value; bytes lent; an object handed over (or a slice of a row that is handed over: from where, how many, their size, the room) -/
inductive Arg where
  | v (v : V)
  | b (n e : Nat) (c : V)
  | o (c : V) (w : Option (Nat × Nat × Nat × Option Nat) := none)
structure Out where
  v : V
  objs : List V
  news : List V
abbrev Ctr := List Arg → R Out
universe u
def look {α : Type u} : List (Nat × α) → Nat → Option α
  | [], _ => none
  | (k, a) :: l, i => if i = k then some a else look l i
def globH (n : Nat) : Nat := 200000 + n
def parH (n : Nat) : Nat := 100000 + n
def ev (t : Nat → V) : IX → V
  | .t n => t n
  | .c v => v
  | .g n => .ptr (globH n) []
def boolV (b : Bool) : V := match b with | true => .tt | false => .ff
/-- a number that is not negative -/
def V.nat (ap : AP) : V → R Nat
  | .lit _ n => rif (decide (0 ≤ n)) 20 (.ok n.toNat)
  | .int _ n => .chk (ap _ _ (fun n => 0 ≤ n) n) (.ok (ap _ _ natI n))
  | _ => .fail 20
def arR (ap : AP) (o : BinOp) : V → V → R V
  | .lit k x, .lit k' y => rif (k == k' && !(isDiv o && y == 0)) 21 (.ok (.lit k (arF o k x y)))
  | .int k x, .lit k' y => rif (k == k' && !(isDiv o && y == 0)) 21 (.ok (.int k (ap _ _ (ap _ _ (arF o k) x) y)))
  | .lit k x, .int k' y => rif (k == k') 21 (if isDiv o then .chk (ap _ _ (fun y => y ≠ (0 : Int)) y) (.ok (.int k (ap _ _ (ap _ _ (arF o k) x) y))) else .ok (.int k (ap _ _ (ap _ _ (arF o k) x) y)))
  | .int k x, .int k' y => rif (k == k') 21 (if isDiv o then .chk (ap _ _ (fun y => y ≠ (0 : Int)) y) (.ok (.int k (ap _ _ (ap _ _ (arF o k) x) y))) else .ok (.int k (ap _ _ (ap _ _ (arF o k) x) y)))
  | _, _ => .fail 21
def cmR (ap : AP) (o : BinOp) : V → V → R V
  | .lit k x, .lit k' y => rif (k == k') 22 (.ok (boolV (cmF o x y)))
  | .int k x, .lit k' y => rif (k == k') 22 (.ok (.bool (ap _ _ (ap _ _ (cmF o) x) y)))
  | .lit k x, .int k' y => rif (k == k') 22 (.ok (.bool (ap _ _ (ap _ _ (cmF o) x) y)))
  | .int k x, .int k' y => rif (k == k') 22 (.ok (.bool (ap _ _ (ap _ _ (cmF o) x) y)))
  | _, _ => .fail 22
def shR (ap : AP) (o : BinOp) : V → V → R V
  | .lit k x, .lit _ y => rif (decide (0 ≤ y)) 23 (.ok (.lit k (arF o k x y)))
  | .int k x, .lit _ y => rif (decide (0 ≤ y)) 23 (.ok (.int k (ap _ _ (ap _ _ (arF o k) x) y)))
  | .lit k x, .int _ y => .chk (ap _ _ (fun n => (0 : Int) ≤ n) y) (.ok (.int k (ap _ _ (ap _ _ (arF o k) x) y)))
  | .int k x, .int _ y => .chk (ap _ _ (fun n => (0 : Int) ≤ n) y) (.ok (.int k (ap _ _ (ap _ _ (arF o k) x) y)))
  | _, _ => .fail 23
def notV (ap : AP) : V → V
  | .tt => .ff | .ff => .tt | .bool b => .bool (ap _ _ notB b) | _ => .any
def kindL : LV → CK
  | .b _ => .b
  | .i k _ => .i k
  | .s _ => .s
/-- cells of these kinds -/
def kindsP (ks : List CK) (v : V) : Prop := litOkP v ∧ (litsV v).map kindL = ks
def eqR (ap : AP) : ETy → V → V → R V
  | .b, .tt, .tt => .ok .tt | .b, .tt, .ff => .ok .ff | .b, .ff, .tt => .ok .ff | .b, .ff, .ff => .ok .tt
  | .b, .bool b, .tt => .ok (.bool b) | .b, .tt, .bool b => .ok (.bool b)
  | .b, .bool b, .ff => .ok (.bool (ap _ _ notB b)) | .b, .ff, .bool b => .ok (.bool (ap _ _ notB b))
  | .b, .bool b, .bool c => .ok (.bool (ap _ _ (ap _ _ eqB b) c))
  | .s, .str l, .str m => .ok (.bool (ap _ _ (ap _ _ eqL l) m))
  | .a k0 n0, .ints k n l, .ints k' n' m => rif (k == k' && n == n' && k == k0 && n == n0) 24 (.ok (.bool (ap _ _ (ap _ _ eqL l) m)))
  | .p, .nilp, .nilp => .ok .tt | .p, .ptr _ _, .nilp => .ok .ff | .p, .nilp, .ptr _ _ => .ok .ff
  | .l, .nsl, .nsl => .ok .tt
  | .z ks, v, w => rif (v.isAgg && w.isAgg) 24 <| .chk (ap _ _ (ap _ _ kindsP ks) v) (.chk (ap _ _ (ap _ _ kindsP ks) w) (.ok (.bool (ap _ _ (ap _ _ eqZ v) w))))
  | .l, .dsl n _ _, .nsl => .chk (ap _ _ (ap _ _ ltN 0) n) (.ok .ff)
  | .l, .sl _ _ _ n _ _, .nsl => .chk (ap _ _ (ap _ _ ltN 0) n) (.ok .ff)
  | _, _, _ => .fail 24
def minR (ap : AP) : V → V → R V
  | .lit k x, .lit k' y => rif (k == k') 25 (.ok (.lit k (minI x y)))
  | .int k x, .lit k' y => rif (k == k') 25 (.ok (.int k (ap _ _ (ap _ _ minI x) y)))
  | .lit k x, .int k' y => rif (k == k') 25 (.ok (.int k (ap _ _ (ap _ _ minI x) y)))
  | .int k x, .int k' y => rif (k == k') 25 (.ok (.int k (ap _ _ (ap _ _ minI x) y)))
  | _, _ => .fail 25
def maxR (ap : AP) : V → V → R V
  | .lit k x, .lit k' y => rif (k == k') 26 (.ok (.lit k (maxI x y)))
  | .int k x, .lit k' y => rif (k == k') 26 (.ok (.int k (ap _ _ (ap _ _ maxI x) y)))
  | .lit k x, .int k' y => rif (k == k') 26 (.ok (.int k (ap _ _ (ap _ _ maxI x) y)))
  | .int k x, .int k' y => rif (k == k') 26 (.ok (.int k (ap _ _ (ap _ _ maxI x) y)))
  | _, _ => .fail 26
def EK.size : EK → Nat
  | .i _ => 1
  | .o e _ => e
/-- the content of a slice value, and how long it is -/
def sliceC (ap : AP) (h : Nat → Option Blk) (k : EK) : V → R (Nat × V)
  | .sl hd p i n e _ => match h hd with
    | some ⟨.dead, _⟩ => .fail 30
    | some ⟨_, c⟩ => (c.at ap p).bind fun c' => rif (c'.rowE == e && e == k.size) 30 <| .chk (ap _ _ (ap _ _ leN (ap _ _ (ap _ _ addN i) n)) c'.cnt) <| (c'.subs ap i n).bind fun c2 => .ok (n, c2)
    | none => .fail 30
  | .dsl n e c => rif (e == k.size) 30 (.ok (n, c))
  | .nsl => .ok (0, match k with | .i k => .ints k 0 [] | .o e z => .rows e 0 (fun _ => z.val))
  | .zsl => .ok (0, match k with | .i k => .ints k 0 [] | .o e z => .rows e 0 (fun _ => z.val))
  | _ => .fail 30
def zerosC (ap : AP) (k : EK) (m : Nat) : V := match k with | .i k => .ints k m (ap _ _ zerosI m) | .o e z => .rows e m (fun _ => z.val)
/-- two rows, one behind the other -/
def catR (f : Nat → V) (n : Nat) (g : Nat → V) : Nat → V := fun j => if j < n then f j else g (j - n)
def catC (ap : AP) : V → V → R V
  | .ints k n l, .ints k' m l' => rif (k == k') 31 (.ok (.ints k (ap _ _ (ap _ _ addN n) m) (ap _ _ (ap _ _ catL l) l')))
  | .rows e n f, .rows e' m g => rif (e == e') 31 (.ok (.rows e (ap _ _ (ap _ _ addN n) m) (ap _ _ (ap _ _ (ap _ _ catR f) n) g)))
  | _, _ => .fail 31
def lkV (z : V) : List (Nat × V) → Nat → V
  | [], _ => z
  | (i, v) :: r, j => if j = i then v else lkV z r j
def V.asI : IntKind → V → R Int
  | k, .lit k' n => rif (k == k') 32 (.ok n)
  | k, .int k' n => rif (k == k') 32 (.ok n)
  | _, _ => .fail 32
/-- a row of n elements out of parts -/
def rowI (k : IntKind) (ps : List (Nat × V)) : List Nat → R (List Int)
  | [] => .ok []
  | i :: r => match look ps i with
    | some v => (v.asI k).bind fun x => (rowI k ps r).bind fun l => .ok (x :: l)
    | none => (rowI k ps r).bind fun l => .ok (0 :: l)
def nodupN : List Nat → Bool
  | [] => true
  | a :: r => !r.contains a && nodupN r
def partsOk (e n : Nat) : List (Nat × V) → Bool
  | [] => true
  | p :: r => p.2.clo && p.2.full && p.2.unwrap.size == e && decide (p.1 < n) && partsOk e n r
def rowC (k : EK) (n : Nat) (ps : List (Nat × V)) : R V :=
  rif (partsOk k.size n ps && nodupN (ps.map fun p => p.1)) 33 <|
  match k with
  | .i k => (rowI k ps (List.range n)).bind fun l => .ok (.ints k n l)
  | .o e z => .ok (.rows e n (lkV z.val (ps.map fun p => (p.1, p.2.unwrap))))
def wrapV (agg : Bool) (v : V) : R V :=
  match agg with
  | true => .ok (if v.isAgg then v else .one v)
  | false => rif (!v.isAgg && (match v with | .osl .. | .optr _ | .tnil | .tcons .. => false | _ => true)) 34 (.ok v)
def putParts (ap : AP) : V → List (Nat × Nat × V) → R V
  | z, [] => .ok z
  | z, (o, s, v) :: r => rif v.full 35 ((z.put ap [.f o s] v.unwrap).bind fun z' => putParts ap z' r)
def fresh (h : Nat → Option Blk) (d : Option Nat) (k : Nat → R Eff) : R Eff :=
  match d with
  | some d => match h d with | none => k d | some _ => .fail 40
  | none => .fail 40
def noEff (v : V) : Eff := ⟨v, []⟩
def resolve (ap : AP) (h : Nat → Option Blk) (pure : Bool) (k : AK) (v : V) : R (Arg × Option Nat) :=
  match k with
  | .b k => (sliceC ap h k v).bind fun (n, c) => .ok (.b n k.size c, none)
  | .w k => match v with
    | .sl hd [] i n e cap => match h hd with
      | some ⟨.own, c⟩ => rif (c.clo && !pure && e == k.size && c.rowE == e) 43 (.ok (.o c (some (i, n, e, cap)), some hd))
      | _ => .fail 43
    | _ => .fail 43
  | .v => match v with
    | .ptr hd [] => match h hd with
      | some ⟨.own, c⟩ => rif (c.clo && (!pure || c.noown)) 41 (.ok (.o c, if pure then none else some hd))
      | some ⟨.bor, c⟩ => rif (pure && c.clo && c.noown) 41 (.ok (.o c, none))
      | _ => .fail 41
    | v => rif (v.clo && (match v with | .osl .. | .optr _ => false | _ => true)) 42 (.ok (.v v, none))
def resolveL (ap : AP) (h : Nat → Option Blk) (pure : Bool) : List (V × AK) → R (List Arg × List Nat)
  | [] => .ok ([], [])
  | (v, k) :: r => (resolve ap h pure k v).bind fun a => (resolveL ap h pure r).bind fun b => .ok (a.1 :: b.1, match a.2 with | some x => x :: b.2 | none => b.2)
/-- a zero value, its rows not looked into -/
def _root_.Go.Cx.ZT.valA (ap : AP) : ZT → V
  | ZT.v x => x
  | .ints k n => .ints k n (ap _ _ zerosI n)
  | .cat n m a b => .cat n m (a.valA ap) (b.valA ap)
  | .rows e n z => .rows e n (fun _ => z.valA ap)
theorem valA_apf (z : ZT) : z.valA apf = z.val := by
  induction z with
  | v x => rfl
  | ints k n => rfl
  | cat n m a b iha ihb => simp only [ZT.valA, ZT.val, iha, ihb]
  | rows e n z ih => simp only [ZT.valA, ZT.val, ih]
/-- handles of what is new behind a call -/
def newH (d j : Nat) : Nat := if j = 0 then d else 10000 * j + d
def renV (f : Nat → Nat) : V → V
  | .ptr h p => .ptr (f h) p
  | .sl h p i n e cap => .sl (f h) p i n e cap
  | .cat n m a b => .cat n m (renV f a) (renV f b)
  | .tcons a b => .tcons (renV f a) (renV f b)
  | v => v
def newsL (d : Nat) : Nat → List V → List (Nat × Blk)
  | _, [] => []
  | j, c :: r => (newH d j, ⟨.own, c⟩) :: newsL d (j + 1) r
def allFresh (h : Nat → Option Blk) : List (Nat × Blk) → Bool
  | [] => true
  | (i, b) :: r => (h i).isNone && decide (i < 100000) && b.c.clo && allFresh h r
/-- no handles but the first n -/
def V.hOk (n : Nat) : V → Bool
  | .ptr h _ => decide (h < n)
  | .sl h _ _ _ _ _ => decide (h < n)
  | .cat _ _ a b => a.hOk n && b.hOk n
  | .tcons a b => a.hOk n && b.hOk n
  | v => v.clo
/-- the handles of slices that are lent -/
def lent : List (V × AK) → List Nat
  | [] => []
  | (.sl hd _ _ _ _ _, .b _) :: r => hd :: lent r
  | _ :: r => lent r
def objsL : List Nat → List V → List (Nat × Blk)
  | h :: hs, c :: cs => (h, ⟨.own, c⟩) :: objsL hs cs
  | _, _ => []
def callR (ap : AP) (E : List (Nat × Ctr)) (f : Nat) (pure : Bool) (h : Nat → Option Blk) (d : Option Nat) (xs : List (V × AK)) : R Eff :=
  match look E f with
  | none => .fail 50
  | some c => (resolveL ap h pure xs).bind fun a => rif (nodupN a.2) 51 <| (c a.1).bind fun out =>
    rif (out.objs.length == a.2.length && out.objs.all V.clo && (lent xs).all fun i => !a.2.contains i) 52 <|
    match d with
    | some d => rif (allFresh h (newsL d 0 out.news) && out.v.hOk out.news.length && decide (d < 10000)) 53 (.ok ⟨renV (newH d) out.v, objsL a.2 out.objs ++ newsL d 0 out.news⟩)
    | none => .ok ⟨.any, objsL a.2 out.objs⟩
def capSub (ap : AP) : Option Nat → Nat → Option Nat
  | some c, a => some (ap _ _ (ap _ _ subN c) a)
  | none, _ => none
/-- an element's row, told by the value of its slice -/
def outsOf (ap : AP) (e : Nat) : List (Nat × V) → R (List (Nat × Nat × Nat))
  | [] => .ok []
  | (j, .sl hk [] i m e' _) :: r => rif (e == e') 206 (.chk (ap _ _ (ap _ _ eqN i) 0) ((outsOf ap e r).bind fun l => .ok ((j, hk, m) :: l)))
  | _ => .fail 206
/-- the size of the cells of the first slice -/
def sizeOf1 : List (Nat × V) → Nat
  | (_, .sl _ _ _ _ e _) :: _ => e
  | _ => 0
/-- the entry for an element whose row is put in: the row that went, if it is the last one taken, or a new one -/
def putIn (ap : AP) (h : Nat → Option Blk) (j hy m : Nat) : List (Nat × Nat × Nat) → R (List (Nat × Nat × Nat))
  | [] => .ok [(j, hy, m)]
  | (j0, h0, m0) :: o => match h h0 with
    | some ⟨.dead, _⟩ => .chk (ap _ _ (ap _ _ eqN j) j0) (.chk (ap _ _ (ap _ _ notIn (o.map fun p => p.1)) j) (.ok ((j, hy, m) :: o)))
    | some _ => .chk (ap _ _ (ap _ _ notIn (j0 :: o.map fun p => p.1)) j) (.ok ((j, hy, m) :: (j0, h0, m0) :: o))
    | none => .fail 210
def stepR (ap : AP) (E : List (Nat × Ctr)) (t : Nat → V) (h : Nat → Option Blk) (d : Option Nat) : IOp → R Eff
  | .mv x => .ok (noEff (ev t x))
  | .nck x => match ev t x with
    | .ptr h p => .ok (noEff (.ptr h p))
    | .dptr c p => .ok (noEff (.dptr c p))
    | _ => .fail 60
  | .pick c a b => match ev t c with
    | .tt => .ok (noEff (ev t a))
    | .ff => .ok (noEff (ev t b))
    | .bool x => .br x (.ok (noEff (ev t a))) (.ok (noEff (ev t b)))
    | _ => .fail 61
  | .alloc z => fresh h d fun d => .ok ⟨.ptr d [], [(d, ⟨.own, z.valA ap⟩)]⟩
  | .box x => fresh h d fun d => rif (ev t x).full 62 (.ok ⟨.ptr d [], [(d, ⟨.own, (ev t x).unwrap⟩)]⟩)
  | .bldS z ps => (putParts ap (z.valA ap) (ps.map fun p => (p.1, p.2.1, ev t p.2.2))).bind fun v => (wrapV true v).bind fun v => .ok (noEff v)
  | .bldA k n ps => (rowC k n (ps.map fun p => (p.1, ev t p.2))).bind fun v => .ok (noEff v)
  | .bsl k n ps => match n with
    | 0 => .ok (noEff .zsl)
    | n => fresh h d fun d => (rowC k n (ps.map fun p => (p.1, ev t p.2))).bind fun c => .ok ⟨.sl d [] 0 n k.size none, [(d, ⟨.own, c⟩)]⟩
  | .ld s agg x => match ev t x with
    | .ptr hd p => match h hd with
      | some ⟨.dead, _⟩ => .fail 63
      | some ⟨_, c⟩ => (c.at ap p).bind fun v => rif (v.size == s && v.noown) 64 ((wrapV agg v).bind fun v => .ok (noEff v))
      | none => .fail 63
    | .dptr c p => (c.at ap p).bind fun v => rif (v.size == s && v.noown) 64 ((wrapV agg v).bind fun v => .ok (noEff v))
    | _ => .fail 63
  | .st s x y => match ev t x with
    | .ptr hd p => match h hd with
      | some ⟨.own, c⟩ => rif ((ev t y).full && (ev t y).unwrap.size == s) 65 ((c.put ap p (ev t y).unwrap).bind fun c' => .ok ⟨.any, [(hd, ⟨.own, c'⟩)]⟩)
      | _ => .fail 66
    | _ => .fail 66
  | .ar o _ x y => (arR ap o (ev t x) (ev t y)).bind fun v => .ok (noEff v)
  | .cmp o x y => (cmR ap o (ev t x) (ev t y)).bind fun v => .ok (noEff v)
  | .shf o _ x y => (shR ap o (ev t x) (ev t y)).bind fun v => .ok (noEff v)
  | .eq ty ne x y => (eqR ap ty (ev t x) (ev t y)).bind fun v => .ok (noEff (if ne then notV ap v else v))
  | .neg k x => match ev t x with
    | .lit k' n => rif (k == k') 67 (.ok (noEff (.lit k (wneg k n))))
    | .int k' n => rif (k == k') 67 (.ok (noEff (.int k (ap _ _ (wneg k) n))))
    | _ => .fail 67
  | .cpl k x => match ev t x with
    | .lit k' n => rif (k == k') 68 (.ok (noEff (.lit k (bcpl k n))))
    | .int k' n => rif (k == k') 68 (.ok (noEff (.int k (ap _ _ (bcpl k) n))))
    | _ => .fail 68
  | .not x => match ev t x with
    | .tt => .ok (noEff .ff)
    | .ff => .ok (noEff .tt)
    | .bool b => .ok (noEff (.bool (ap _ _ notB b)))
    | _ => .fail 69
  | .cv k x => match ev t x with
    | .lit _ n => .ok (noEff (.lit k (wcv k n)))
    | .int _ n => .ok (noEff (.int k (ap _ _ (wcv k) n)))
    | _ => .fail 70
  | .b2s x => (sliceC ap h (.i .u8) (ev t x)).bind fun (_, c) => match c with
    | .ints .u8 _ l => .ok (noEff (.str l))
    | _ => .fail 71
  | .mst x => match ev t x with
    | .sl hd p i n e cap => match h hd with
      | some ⟨.own, c⟩ => .chk (ap _ _ (ap _ _ ltN 0) n) (.ok ⟨.sl hd p i n e cap, [(hd, ⟨.own, c⟩)]⟩)
      | _ => .fail 88
    | _ => .fail 88
  | .s2b x => match ev t x with
    | .str l => fresh h d fun d => .ok ⟨.sl d [] 0 (ap _ _ llen l) 1 none, [(d, ⟨.own, .ints .u8 (ap _ _ llen l) l⟩)]⟩
    | _ => .fail 72
  | .mks k w x => fresh h d fun d => ((ev t x).nat ap).bind fun n => .chk (ap _ _ (ap _ _ mksN w) n)
      (.ok ⟨.sl d [] 0 n k.size (some n), [(d, ⟨.own, match k with | .i k => .ints k n (ap _ _ zerosI n) | .o e z => .rows e n (fun _ => z.val)⟩)]⟩)
  | .mksF k w x => ((ev t x).nat ap).bind fun n => .chk (ap _ _ (ap _ _ mksN w) n)
      (.ok (noEff (.dsl n k.size (match k with | .i k => .ints k n (ap _ _ zerosI n) | .o e z => .rows e n (fun _ => z.val)))))
  | .slA n e x lo hi => match ev t x with
    | .ptr hd p => match h hd with
     | some ⟨.dead, _⟩ => .fail 73
     | none => .fail 73
     | some ⟨_, c⟩ => (c.at ap p).bind fun c' => rif (c'.size == n * e) 73 <| match lo, hi with
      | none, none => .ok (noEff (.sl hd p 0 n e (some n)))
      | none, some hi => ((ev t hi).nat ap).bind fun b => .chk (ap _ _ (ap _ _ leN b) n) (.ok (noEff (.sl hd p 0 b e (some n))))
      | some lo, none => ((ev t lo).nat ap).bind fun a => .chk (ap _ _ (ap _ _ leN a) n) (.ok (noEff (.sl hd p a (ap _ _ (ap _ _ subN n) a) e (some (ap _ _ (ap _ _ subN n) a)))))
      | some lo, some hi => ((ev t lo).nat ap).bind fun a => ((ev t hi).nat ap).bind fun b => .chk (ap _ _ (ap _ _ leN b) n) (.chk (ap _ _ (ap _ _ leN a) b)
          (.ok (noEff (.sl hd p a (ap _ _ (ap _ _ subN b) a) e (some (ap _ _ (ap _ _ subN n) a))))))
    | _ => .fail 73
  | .slS e x lo hi mx => match mx with
    | some m => match ev t m, lo, hi with
      | .lit _ 0, none, some hi => match ev t hi with
        | .lit _ 0 => match ev t x with
          | .sl .. | .dsl .. | .zsl => .ok (noEff .zsl)
          | .nsl => .ok (noEff .nsl)
          | _ => .fail 74
        | _ => .fail 74
      | _, _, _ => .fail 74
    | none => match ev t x with
      | .sl hd p i n e' cap => rif (e == e') 75 <| match lo, hi with
        | none, none => .ok (noEff (.sl hd p i n e cap))
        | none, some hi => ((ev t hi).nat ap).bind fun b => .chk (ap _ _ (ap _ _ leN b) n) (.ok (noEff (.sl hd p i b e cap)))
        | some lo, none => ((ev t lo).nat ap).bind fun a => .chk (ap _ _ (ap _ _ leN a) n) (.ok (noEff (.sl hd p (ap _ _ (ap _ _ addN i) a) (ap _ _ (ap _ _ subN n) a) e (capSub ap cap a))))
        | some lo, some hi => ((ev t lo).nat ap).bind fun a => ((ev t hi).nat ap).bind fun b => .chk (ap _ _ (ap _ _ leN b) n) (.chk (ap _ _ (ap _ _ leN a) b)
            (.ok (noEff (.sl hd p (ap _ _ (ap _ _ addN i) a) (ap _ _ (ap _ _ subN b) a) e (capSub ap cap a)))))
      | .dsl n e' c => rif (e == e') 75 <| match lo, hi with
        | none, none => .ok (noEff (.dsl n e c))
        | none, some hi => ((ev t hi).nat ap).bind fun b => .chk (ap _ _ (ap _ _ leN b) n) ((c.subs ap 0 b).bind fun c' => .ok (noEff (.dsl b e c')))
        | some lo, none => ((ev t lo).nat ap).bind fun a => .chk (ap _ _ (ap _ _ leN a) n) ((c.subs ap a (ap _ _ (ap _ _ subN n) a)).bind fun c' => .ok (noEff (.dsl (ap _ _ (ap _ _ subN n) a) e c')))
        | some lo, some hi => ((ev t lo).nat ap).bind fun a => ((ev t hi).nat ap).bind fun b => .chk (ap _ _ (ap _ _ leN b) n) (.chk (ap _ _ (ap _ _ leN a) b)
            ((c.subs ap a (ap _ _ (ap _ _ subN b) a)).bind fun c' => .ok (noEff (.dsl (ap _ _ (ap _ _ subN b) a) e c'))))
      | _ => .fail 75
  | .slT x lo hi => match ev t x with
    | .str l => match lo, hi with
      | none, none => .ok (noEff (.str l))
      | none, some hi => ((ev t hi).nat ap).bind fun b => .chk (ap _ _ (ap _ _ leN b) (ap _ _ llen l)) (.ok (noEff (.str (ap _ _ (ap _ _ (ap _ _ subL l) 0) b))))
      | some lo, none => ((ev t lo).nat ap).bind fun a => .chk (ap _ _ (ap _ _ leN a) (ap _ _ llen l)) (.ok (noEff (.str (ap _ _ (ap _ _ (ap _ _ subL l) a) (ap _ _ (ap _ _ subN (ap _ _ llen l)) a)))))
      | some lo, some hi => ((ev t lo).nat ap).bind fun a => ((ev t hi).nat ap).bind fun b => .chk (ap _ _ (ap _ _ leN b) (ap _ _ llen l)) (.chk (ap _ _ (ap _ _ leN a) b)
          (.ok (noEff (.str (ap _ _ (ap _ _ (ap _ _ subL l) a) (ap _ _ (ap _ _ subN b) a))))))
    | _ => .fail 76
  | .fa o s x => match ev t x with
    | .ptr hd p => .ok (noEff (.ptr hd (p ++ [.f o s])))
    | .dptr c p => .ok (noEff (.dptr c (p ++ [.f o s])))
    | _ => .fail 77
  | .fl o s agg x => match (ev t x).unwrap.fld o s with
    | some v => rif (ev t x).isAgg 78 ((wrapV agg v).bind fun v => .ok (noEff v))
    | none => .fail 78
  | .iaA n e x i => ((ev t i).nat ap).bind fun j => .chk (ap _ _ (ap _ _ ltN j) n) <| match ev t x with
    | .ptr hd p => .ok (noEff (.ptr hd (p ++ [.x j e])))
    | .dptr c p => .ok (noEff (.dptr c (p ++ [.x j e])))
    | _ => .fail 79
  | .iaS e x i => ((ev t i).nat ap).bind fun j => match ev t x with
    | .sl hd p i0 n e' _ => rif (e == e') 80 (.chk (ap _ _ (ap _ _ ltN j) n) (.ok (noEff (.ptr hd (p ++ [.x (ap _ _ (ap _ _ addN i0) j) e])))))
    | .dsl n e' c => rif (e == e') 80 (.chk (ap _ _ (ap _ _ ltN j) n) (.ok (noEff (.dptr c [.x j e]))))
    | _ => .fail 80
  | .ixA n e agg x i => ((ev t i).nat ap).bind fun j => .chk (ap _ _ (ap _ _ ltN j) n) <| rif (ev t x).isAgg 81 <| ((ev t x).unwrap.at ap [.x j e]).bind fun v => rif (v.size == e) 81 <| (wrapV agg v).bind fun v => .ok (noEff v)
  | .ixT x i => match ev t x with
    | .str l => ((ev t i).nat ap).bind fun j => .chk (ap _ _ (ap _ _ ltN j) (ap _ _ llen l)) (.ok (noEff (.int .u8 (ap _ _ (ap _ _ nthI l) j))))
    | _ => .fail 82
  | .lenA n => .ok (noEff (.lit .i64 n))
  | .lenS x => match ev t x with
    | .sl _ _ _ n _ _ => .ok (noEff (.int .i64 (ap _ _ lenI n)))
    | .dsl n _ _ => .ok (noEff (.int .i64 (ap _ _ lenI n)))
    | .nsl => .ok (noEff (.lit .i64 0))
    | .zsl => .ok (noEff (.lit .i64 0))
    | _ => .fail 83
  | .lenT x => match ev t x with
    | .str l => .ok (noEff (.int .i64 (ap _ _ lenI (ap _ _ llen l))))
    | _ => .fail 83
  | .slX e x hi mx => ((ev t hi).nat ap).bind fun b => ((ev t mx).nat ap).bind fun m => .chk (ap _ _ (ap _ _ eqN m) b) <| match ev t x with
    | .sl hd p i n e' _ => rif (e == e') 93 (.chk (ap _ _ (ap _ _ leN b) n) (.ok (noEff (.sl hd p i b e (some b)))))
    | .dsl n e' c => rif (e == e') 93 (.chk (ap _ _ (ap _ _ leN b) n) ((c.subs ap 0 b).bind fun c' => .ok (noEff (.dsl b e c'))))
    | _ => .fail 93
  | .s2a n e x => match ev t x with
    | .sl hd p i m e' _ => rif (e == e' && decide (0 < n)) 92 (.chk (ap _ _ (ap _ _ leN n) m) (.ok (noEff (.ptr hd (p ++ [.r i e n])))))
    | .dsl m e' c => rif (e == e' && decide (0 < n)) 92 (.chk (ap _ _ (ap _ _ leN n) m) (.ok (noEff (.dptr c [.r 0 e n]))))
    | _ => .fail 92
  | .appz k w x y => fresh h d fun d => ((ev t y).nat ap).bind fun m => match ev t x with
    | .nsl | .zsl => .chk (ap _ _ (ap _ _ appN w) m) (.ok ⟨.sl d [] 0 m k.size none, [(d, ⟨.own, zerosC ap k m⟩)]⟩)
    | .sl hd p i n e cap => (sliceC ap h k (.sl hd p i n e cap)).bind fun (_, cx) => (catC ap cx (zerosC ap k m)).bind fun c =>
      .chk (ap _ _ (ap _ _ appN w) (ap _ _ (ap _ _ addN n) m)) <|
      match cap with
      | some cp => .chk (ap _ _ (ap _ _ ltN cp) (ap _ _ (ap _ _ addN n) m)) (.ok ⟨.sl d [] 0 (ap _ _ (ap _ _ addN n) m) k.size none, [(d, ⟨.own, c⟩)]⟩)
      | none => match p, h hd with
        | [], some ⟨.own, _⟩ => .ok ⟨.sl d [] 0 (ap _ _ (ap _ _ addN n) m) k.size none, [(hd, ⟨.dead, .any⟩), (d, ⟨.own, c⟩)]⟩
        | _, _ => .fail 84
    | _ => .fail 84
  | .app0 k w x y => fresh h d fun d => (sliceC ap h k (ev t y)).bind fun (m, cy) => match ev t x with
    | .nsl | .zsl => .chk (ap _ _ (ap _ _ appN w) m) (.ok ⟨.sl d [] 0 m k.size none, [(d, ⟨.own, cy⟩)]⟩)
    | _ => .fail 84
  | .app k w x y => fresh h d fun d => (sliceC ap h k (ev t y)).bind fun (m, cy) => match ev t x with
    | .nsl | .zsl => .chk (ap _ _ (ap _ _ appN w) m) (.ok ⟨.sl d [] 0 m k.size none, [(d, ⟨.own, cy⟩)]⟩)
    | .sl hd p i n e cap => (sliceC ap h k (.sl hd p i n e cap)).bind fun (_, cx) => (catC ap cx cy).bind fun c =>
      .chk (ap _ _ (ap _ _ appN w) (ap _ _ (ap _ _ addN n) m)) <|
      match cap with
      | some cp => .chk (ap _ _ (ap _ _ ltN cp) (ap _ _ (ap _ _ addN n) m)) (.ok ⟨.sl d [] 0 (ap _ _ (ap _ _ addN n) m) k.size none, [(d, ⟨.own, c⟩)]⟩)
      | none => match p, h hd with
        | [], some ⟨.own, _⟩ => .ok ⟨.sl d [] 0 (ap _ _ (ap _ _ addN n) m) k.size none, [(hd, ⟨.dead, .any⟩), (d, ⟨.own, c⟩)]⟩
        | _, _ => .fail 84
    | _ => .fail 84
  | .appT x y => match ev t y with
    | .str l => fresh h d fun d => match ev t x with
      | .nsl | .zsl => .chk (ap _ _ (ap _ _ appN 1) (ap _ _ llen l)) (.ok ⟨.sl d [] 0 (ap _ _ llen l) 1 none, [(d, ⟨.own, .ints .u8 (ap _ _ llen l) l⟩)]⟩)
      | .sl hd p i n e cap => (sliceC ap h (.i .u8) (.sl hd p i n e cap)).bind fun (_, cx) => (catC ap cx (.ints .u8 (ap _ _ llen l) l)).bind fun c =>
        .chk (ap _ _ (ap _ _ appN 1) (ap _ _ (ap _ _ addN n) (ap _ _ llen l))) <|
        match cap with
        | some cp => .chk (ap _ _ (ap _ _ ltN cp) (ap _ _ (ap _ _ addN n) (ap _ _ llen l))) (.ok ⟨.sl d [] 0 (ap _ _ (ap _ _ addN n) (ap _ _ llen l)) 1 none, [(d, ⟨.own, c⟩)]⟩)
        | none => match p, h hd with
          | [], some ⟨.own, _⟩ => .ok ⟨.sl d [] 0 (ap _ _ (ap _ _ addN n) (ap _ _ llen l)) 1 none, [(hd, ⟨.dead, .any⟩), (d, ⟨.own, c⟩)]⟩
          | _, _ => .fail 85
      | _ => .fail 85
    | _ => .fail 85
  | .cpy k x y => (sliceC ap h k (ev t y)).bind fun (m, cy) => match ev t x, cy with
    | .sl hd p i n e _, .ints k2 _ l2 => match h hd with
      | some ⟨.own, c⟩ => (c.at ap p).bind fun c' => match c' with
        | .ints k1 n1 l1 => rif (k1 == k2 && e == 1) 86 (.chk (ap _ _ (ap _ _ leN (ap _ _ (ap _ _ addN i) n)) n1)
          ((c.put ap p (.ints k1 n1 (ap _ _ (ap _ _ (ap _ _ layL l1) i) (ap _ _ (ap _ _ takeL l2) (ap _ _ (ap _ _ minN m) n))))).bind fun c2 =>
            .ok ⟨.int .i64 (ap _ _ lenI (ap _ _ (ap _ _ minN m) n)), [(hd, ⟨.own, c2⟩)]⟩))
        | _ => .fail 86
      | _ => .fail 86
    | _, _ => .fail 86
  | .min2 x y => (minR ap (ev t x) (ev t y)).bind fun v => .ok (noEff v)
  | .max2 x y => (maxR ap (ev t x) (ev t y)).bind fun v => .ok (noEff v)
  | .ext i x => match ev t x, i with
    | .tcons a _, 0 => .ok (noEff a)
    | .tcons _ (.tcons b _), 1 => .ok (noEff b)
    | .tcons _ (.tcons _ (.tcons c _)), 2 => .ok (noEff c)
    | _, _ => .fail 87
  | .ldE re x => match ev t x with
    | .ptr hd [.x j i1] => rif (i1 == 1) 200 <| match h hd with
      | some ⟨.own, .orow n e f o⟩ => .chk (ap _ _ (ap _ _ ltN j) n) <| match re with
        | true => match o with
          | (j0, h0, m0) :: _ => .chk (ap _ _ (ap _ _ eqN j) j0) (.ok (noEff (.sl h0 [] 0 m0 e none)))
          | [] => .fail 201
        | false => match d with
          | some d => match h (40000 + d) with
            | none => rif (decide (40000 + d < 90000)) 202 <| .chk (ap _ _ (ap _ _ notIn (o.map fun p => p.1)) j)
                (.ok ⟨.sl (40000 + d) [] 0 (f j).cnt e none, [(hd, ⟨.own, .orow n e f ((j, 40000 + d, (f j).cnt) :: o)⟩), (40000 + d, ⟨.own, f j⟩)]⟩)
            | some _ => .fail 202
          | none => .fail 202
      | _ => .fail 203
    | _ => .fail 203
  | .stE x y => match ev t x, ev t y with
    | .ptr hd [.x j i1], .sl hy [] i m e' _ => rif (i1 == 1) 204 <| match h hd with
      | some ⟨.own, .orow n e f o⟩ => rif (e == e' && hy != hd) 205 <| .chk (ap _ _ (ap _ _ eqN i) 0) <| .chk (ap _ _ (ap _ _ ltN j) n) <| (putIn ap h j hy m o).bind fun o' => .ok ⟨.any, [(hd, ⟨.own, .orow n e f o'⟩)]⟩
      | _ => .fail 205
    | _, _ => .fail 205
  | .bslE n ps => fresh h d fun d => rif (decide (0 < n) && ps.map (fun p => p.1) == List.range n) 207 <|
      (outsOf ap (sizeOf1 (ps.map fun p => (p.1, ev t p.2))) (ps.map fun p => (p.1, ev t p.2))).bind fun o => .ok ⟨.sl d [] 0 n 1 none, [(d, ⟨.own, .orow n (sizeOf1 (ps.map fun p => (p.1, ev t p.2))) (fun _ => .tnil) o⟩)]⟩
  | .allocE n => fresh h d fun d => rif (decide (0 < n)) 208 (.ok ⟨.ptr d [], [(d, ⟨.own, .orow n 1 (fun _ => .rows 1 0 (fun _ => .tt)) []⟩)]⟩)
  | .appE w x y => fresh h d fun d => match ev t x, ev t y with
    | .sl hx [] i n e1 none, .sl hy [] i2 m e2 _ => rif (e1 == 1 && e2 == 1 && hx != hy) 209 <| match h hx, h hy with
      | some ⟨.own, .orow nx e f o⟩, some ⟨.own, .orow ny e' _ [(j0, hu, mu)]⟩ => rif (e == e') 209 <| .chk (ap _ _ (ap _ _ eqN i) 0) <| .chk (ap _ _ (ap _ _ eqN n) nx) <| .chk (ap _ _ (ap _ _ eqN i2) 0) <| .chk (ap _ _ (ap _ _ eqN m) 1) <|
          .chk (ap _ _ (ap _ _ eqN ny) 1) <| .chk (ap _ _ (ap _ _ eqN j0) 0) <| .chk (ap _ _ (ap _ _ appN w) (ap _ _ (ap _ _ addN n) 1)) <| .chk (ap _ _ (ap _ _ notIn (o.map fun p => p.1)) n) <|
          .ok ⟨.sl d [] 0 (ap _ _ (ap _ _ addN n) 1) 1 none, [(hx, ⟨.dead, .any⟩), (d, ⟨.own, .orow (ap _ _ (ap _ _ addN n) 1) e f (o ++ [(n, hu, mu)])⟩)]⟩
      | _, _ => .fail 209
    | _, _ => .fail 209
  | .call f pure xs => callR ap E f pure h d (xs.map fun x => (ev t x.1, x.2))
  | .bad n => .fail (1000 + n)
def putT (t : Nat → V) : Option Nat → V → Nat → V
  | some d, v => upd t d v
  | none, _ => t
def putHs (h : Nat → Option Blk) : List (Nat × Blk) → Nat → Option Blk
  | [] => h
  | (i, b) :: r => putHs (upd h i (some b)) r
def Eff.on (e : Eff) (d : Option Nat) (s : St) : St := ⟨putT s.t d e.v, putHs s.h e.hs⟩
def V.isRowB : V → Bool
  | .ints .. | .rows .. => true
  | _ => false
/-- .. or one that owns its elements -/
def V.isRowX : V → Bool
  | .ints .. | .rows .. | .orow .. => true
  | _ => false
def pbL (ap : AP) (hd n e : Nat) : List (Nat × Nat × Nat) → (Nat → V) → (Nat → Option Blk) → R (Nat → Option Blk)
  | [], _, h => .ok h
  | (j, d, m) :: o, f, h => match h d with
    | some ⟨.own, c⟩ => rif (c.clo && c.noown && c.isRowB && c.rowE == e && d != hd) 170 <| .chk (ap _ _ (ap _ _ eqN m) c.cnt) <| .chk (ap _ _ (ap _ _ notIn (o.map fun p => p.1)) j) <|
        pbL ap hd n e o (ap _ _ (ap _ _ (ap _ _ updR f) j) c) (upd (upd h d (some ⟨.dead, .any⟩)) hd (some ⟨.own, .orow n e (ap _ _ (ap _ _ (ap _ _ updR f) j) c) o⟩))
    | _ => .fail 171
/-- the same, but the last ones stay out -/
def pbK (ap : AP) (hd n e k : Nat) : List (Nat × Nat × Nat) → (Nat → V) → (Nat → Option Blk) → R (Nat → Option Blk)
  | [], _, h => .ok h
  | (j, d, m) :: o, f, h => match decide (o.length < k) with
    | true => .ok h
    | false => match h d with
      | some ⟨.own, c⟩ => rif (c.clo && c.noown && c.isRowB && c.rowE == e && d != hd) 170 <| .chk (ap _ _ (ap _ _ eqN m) c.cnt) <| .chk (ap _ _ (ap _ _ notIn (o.map fun p => p.1)) j) <|
          pbK ap hd n e k o (ap _ _ (ap _ _ (ap _ _ updR f) j) c) (upd (upd h d (some ⟨.dead, .any⟩)) hd (some ⟨.own, .orow n e (ap _ _ (ap _ _ (ap _ _ updR f) j) c) o⟩))
      | _ => .fail 171
def pbN (ap : AP) (hd k : Nat) (h : Nat → Option Blk) : R (Nat → Option Blk) := match h hd with
  | some ⟨.own, .orow n e f o⟩ => pbK ap hd n e k o f h
  | _ => .ok h
/-- whatever elements of the row at this handle have handles of their own are put back -/
def pbR (ap : AP) (hd : Nat) (h : Nat → Option Blk) : R (Nat → Option Blk) := match h hd with
  | some ⟨.own, .orow n e f o⟩ => pbL ap hd n e o f h
  | _ => .ok h
def leafHs : V → List Nat
  | .sl k [] _ _ _ _ => [k]
  | .ptr k [] => [k]
  | .cat _ _ a b => leafHs a ++ leafHs b
  | .one a => leafHs a
  | .tcons a b => leafHs a ++ leafHs b
  | _ => []
/-- .. of all that hangs on these -/
def pbAll (ap : AP) : Nat → List Nat → (Nat → Option Blk) → R (Nat → Option Blk)
  | 0, _, h => .ok h
  | _, [], h => .ok h
  | f + 1, k :: ks, h => match h k with
    | some ⟨.own, .orow _ _ _ _⟩ => (pbR ap k h).bind fun h' => pbAll ap f ks h'
    | some ⟨.own, c⟩ => pbAll ap f (leafHs c ++ ks) h
    | _ => pbAll ap f ks h
/-- the first leaf of content that is a whole slice told by a handle: the handle, how many, their size, its place -/
def leaf1 : V → Option (Nat × Nat × Nat × Nat)
  | .sl k [] 0 n e _ => some (k, n, e, 0)
  | .cat n _ a b => match leaf1 a with
    | some r => some r
    | none => match leaf1 b with
      | some (k, m, e, p) => some (k, m, e, n + p)
      | none => none
  | _ => none
/-- the first leaf owned -/
def shut1 (c2 : V) : V → V
  | .sl _ _ _ n e _ => .osl n e c2
  | .cat n m a b => match leaf1 a with
    | some _ => .cat n m (shut1 c2 a) b
    | none => .cat n m a (shut1 c2 b)
  | v => v
def closeR (ap : AP) (p : Nat) : Nat → (Nat → Option Blk) → R (Nat → Option Blk)
  | 0, h => .ok h
  | f + 1, h => match h p with
    | some ⟨.own, c⟩ => match leaf1 c with
      | some (k, n, e, _) => match h k with
        | some ⟨.own, c2⟩ => rif (c2.clo && c2.isRowX && c2.rowE == e && k != p && decide (k < 100000)) 160 <| .chk (ap _ _ (ap _ _ eqN n) c2.cnt) <| (if c2.noown then id else R.chk (ap _ _ (ap _ _ ltN 0) n)) <|
            closeR ap p f (upd (upd h p (some ⟨.own, shut1 c2 c⟩)) k (some ⟨.dead, .any⟩))
        | _ => .fail 161
      | none => .ok h
    | _ => .ok h
/-- the first owned leaf of content, replaced by a handle: the rest, the leaf's content, its place -/
def opn1 (hk : Nat) : V → Option (V × V × Nat)
  | .osl n e c => some (.sl hk [] 0 n e none, c, 0)
  | .optr c => some (.ptr hk [], c, 0)
  | .cat n m a b => match opn1 hk a with
    | some r => some (.cat n m r.1 b, r.2.1, r.2.2)
    | none => match opn1 hk b with
      | some r => some (.cat n m a r.1, r.2.1, n + r.2.2)
      | none => none
  | _ => none
def opn : Nat → Nat → List Nat → (Nat → Option Blk) → Nat → Option Blk
  | 0, _, _, h => h
  | _, _, [], h => h
  | f + 1, hk, k :: ks, h => match h k with
    | some ⟨.own, c⟩ => match h hk with
      | some _ => h
      | none => match opn1 hk c with
        | some r => opn f (hk + 1) (k :: ks ++ [hk]) (upd (upd h k (some ⟨.own, r.1⟩)) hk (some ⟨.own, r.2.1⟩))
        | none => opn f hk ks h
    | _ => opn f hk ks h
/-- the objects that are handed over and whose parts have handles of their own -/
def opened (t : Nat → V) (h : Nat → Option Blk) : List (IX × AK) → List Nat
  | [] => []
  | (x, .v) :: r => match ev t x with
    | .ptr p [] => match h p with
      | some ⟨.own, c⟩ => match leaf1 c with
        | some _ => p :: opened t h r
        | none => opened t h r
      | _ => opened t h r
    | _ => opened t h r
  | _ :: r => opened t h r
def closeL (ap : AP) : List Nat → (Nat → Option Blk) → R (Nat → Option Blk)
  | [], h => .ok h
  | p :: ps, h => (closeR ap p 40 h).bind fun h1 => closeL ap ps h1
def opnBase : Option Nat → Nat
  | some d => 2000 + 16 * d
  | none => 1900
/-- one operation in a fixed order: what is handed over is closed ahead of a call, and opened behind it -/
def stepS (ap : AP) (E : List (Nat × Ctr)) (d : Option Nat) (o : IOp) (s : St) : R St := match o with
  | .call f false xs => match opened s.t s.h xs with
    | [] => (stepR ap E s.t s.h d (.call f false xs)).bind fun e => .ok (e.on d s)
    | p :: ps => rif (decide (opnBase d ≤ 90000)) 162 <| (pbAll ap 40 (p :: ps) s.h).bind fun h0 => (closeL ap (p :: ps) h0).bind fun h1 => (stepR ap E s.t h1 d (.call f false xs)).bind fun e =>
        .ok ⟨(e.on d ⟨s.t, h1⟩).t, opn 40 (opnBase d) (p :: ps) (e.on d ⟨s.t, h1⟩).h⟩
  | o => (stepR ap E s.t s.h d o).bind fun e => .ok (e.on d s)
/-- one operation, its guard asked first -/
def opR (ap : AP) (E : List (Nat × Ctr)) (o : IOper) (s : St) : R St :=
  match o.g with
  | none => stepS ap E o.d o.o s
  | some (g, want) => match s.t g with
    | .tt => if want then stepS ap E o.d o.o s else .ok ⟨putT s.t o.d .tnil, s.h⟩
    | .ff => if want then .ok ⟨putT s.t o.d .tnil, s.h⟩ else stepS ap E o.d o.o s
    | .bool b => .br b
        (if want then stepS ap E o.d o.o ⟨upd s.t g .tt, s.h⟩ else .ok ⟨putT (upd s.t g .tt) o.d .tnil, s.h⟩)
        (if want then .ok ⟨putT (upd s.t g .ff) o.d .tnil, s.h⟩ else stepS ap E o.d o.o ⟨upd s.t g .ff, s.h⟩)
    | .tnil => .ok ⟨putT s.t o.d .tnil, s.h⟩
    | _ => .fail 90
def keepT (t : Nat → V) : List Nat → Nat → V
  | [] => fun _ => .any
  | k :: r => upd (keepT t r) k (t k)
inductive Ex where | nrm | ret | exit (i : Nat)
def runOps (ap : AP) (E : List (Nat × Ctr)) : List IOper → St → (St → Prop) → Prop
  | [], s, K => K s
  | o :: r, s, K => (opR ap E o s).all fun s' => runOps ap E r s' K
/-- one operation of a region whose order is open: it sees the handles that were there, less those that need not be there yet -/
def maskH (m : List Nat) (h : Nat → Option Blk) : Nat → Option Blk := fun j => if m.contains j then none else h j
/-- an operation that writes to these alone, where that is asked -/
def stepW (ap : AP) (E : List (Nat × Ctr)) (w : Option (List Nat)) (t : Nat → V) (h : Nat → Option Blk) (d : Option Nat) (o : IOp) : R Eff :=
  match w with
  | none => stepR ap E t h d o
  | some l => (stepR ap E t h d o).bind fun e => rif (e.hs.all fun p => l.contains p.1) 150 (.ok e)
structure Msk where
  m : List Nat
  w : Option (List Nat)
def dopR (ap : AP) (E : List (Nat × Ctr)) (o : IOper) (m : Msk) (s : St) : R St :=
  match o.g with
  | none => (stepW ap E m.w s.t (maskH m.m s.h) o.d o.o).bind fun e => .ok (e.on o.d s)
  | some (g, want) => match s.t g with
    | .tt => if want then (stepW ap E m.w s.t (maskH m.m s.h) o.d o.o).bind fun e => .ok (e.on o.d s) else .ok ⟨putT s.t o.d .tnil, s.h⟩
    | .ff => if want then .ok ⟨putT s.t o.d .tnil, s.h⟩ else (stepW ap E m.w s.t (maskH m.m s.h) o.d o.o).bind fun e => .ok (e.on o.d s)
    | .bool b => .br b
        (if want then (stepW ap E m.w s.t (maskH m.m s.h) o.d o.o).bind fun e => .ok (e.on o.d s) else .ok ⟨putT s.t o.d .tnil, s.h⟩)
        (if want then .ok ⟨putT s.t o.d .tnil, s.h⟩ else (stepW ap E m.w s.t (maskH m.m s.h) o.d o.o).bind fun e => .ok (e.on o.d s))
    | .tnil => .ok ⟨putT s.t o.d .tnil, s.h⟩
    | _ => .fail 90
def runDops (ap : AP) (E : List (Nat × Ctr)) : List (IOper × Msk) → St → (St → Prop) → Prop
  | [], s, K => K s
  | o :: r, s, K => (dopR ap E o.1 o.2 s).all fun s' => runDops ap E r s' K
/-- the handles in a slot -/
def hOf : V → List Nat
  | .ptr h _ => [h]
  | .sl h _ _ _ _ _ => [h]
  | _ => []
/-- the handles in content (not those of elements that are taken out of a row) -/
def hIn : V → List Nat
  | .ptr h _ => [h]
  | .sl h _ _ _ _ _ => [h]
  | .cat _ _ a b => hIn a ++ hIn b
  | .one a => hIn a
  | _ => []
/-- what can be reached from a handle -/
def hReach (h : Nat → Option Blk) : Nat → Nat → List Nat
  | 0, b => [b]
  | k + 1, b => b :: match h b with
    | some blk => (hIn blk.c).flatMap (hReach h k)
    | none => []
/-- the handles of a slot; a slot's number plus a million: all that can be reached from there -/
def hX (s : St) (n : Nat) : List Nat := if n < 1000000 then hOf (s.t n) else (hOf (s.t (n - 1000000))).flatMap (hReach s.h 3)
def hOfs (s : St) : List Nat → List Nat
  | [] => []
  | n :: r => hX s n ++ hOfs s r
def DOp.msk (s : St) (x : DOp) : IOper × Msk := (x.o, ⟨x.m ++ hOfs s x.mt, match x.w with | none => none | some (l, r) => some (l ++ hOfs s r)⟩)
/-- the handles that an operation may make -/
def mayMake (o : IOper) : List Nat := match o.d with
  | none => []
  | some d => match o.o with
    | .box _ | .alloc _ | .bsl .. | .s2b _ | .mks .. | .app .. | .appz .. | .app0 .. | .appT .. | .bslE .. | .allocE _ | .appE .. => [d]
    | .ldE .. => [40000 + d]
    | .call .. => (List.range 10).map (newH d)
    | _ => []
def mskOk : List (IOper × Msk) → Bool
  | [] => true
  | x :: r => (mayMake x.1).all (fun j => !x.2.m.contains j) && mskOk r
def ptR (ap : AP) : List Pt → List Pt → R Unit
  | [], [] => .ok ()
  | .f o s :: p, .f o' s' :: q => rif (o == o' && s == s') 100 (ptR ap p q)
  | .x i e :: p, .x j e' :: q => rif (e == e') 100 (.chk (ap _ _ (ap _ _ eqN i) j) (ptR ap p q))
  | _, _ => .fail 100
def lkN (r : List (Nat × Nat)) (i : Nat) : Nat := match look r i with | some j => j | none => i
/-- numbers and bits that are written are numbers and bits -/
def nV : V → V
  | .lit k n => .int k n
  | .tt => .bool true
  | .ff => .bool false
  | .cat n m a b => .cat n m (nV a) (nV b)
  | .one a => .one (nV a)
  | .rows e n f => .rows e n fun j => nV (f j)
  | v => v
def eqRows (n : Nat) (f g : Nat → V) : Prop := ∀ j, j < n → nV (f j) = nV (g j)
def eqB' (a b : Bool) : Prop := a = b
def eqI' (a b : Int) : Prop := a = b
def eqL' (a b : List Int) : Prop := a = b
/-- the elements of owned rows that have handles of their own -/
def mtO (ap : AP) (r : List (Nat × Nat)) : List (Nat × Nat × Nat) → List (Nat × Nat × Nat) → R Unit
  | [], [] => .ok ()
  | (i, h, m) :: l, (i', h', m') :: l' => rif (lkN r h == h') 113 (.chk (ap _ _ (ap _ _ eqN i) i') (.chk (ap _ _ (ap _ _ eqN m) m') (mtO ap r l l')))
  | _, _ => .fail 113
def eqRowsO (n : Nat) (o : List Nat) (f g : Nat → V) : Prop := ∀ j, j < n → j ∉ o → nV (f j) = nV (g j)
/-- a row of no elements -/
def nilR (ap : AP) (n e : Nat) : V → R (List Nat)
  | .ints _ m l => rif (e == 1) 108 (.chk (ap _ _ (ap _ _ eqN n) 0) (.chk (ap _ _ (ap _ _ eqN m) 0) (.chk (ap _ _ (ap _ _ eqL' l) []) (.ok []))))
  | .rows e' m _ => rif (e == e') 108 (.chk (ap _ _ (ap _ _ eqN n) 0) (.chk (ap _ _ (ap _ _ eqN m) 0) (.ok [])))
  | _ => .fail 108
/-- the content pattern against content: what must be equal -/
def mtC (ap : AP) (r : List (Nat × Nat)) (h : Nat → Option Blk) : V → V → R (List Nat)
  | .any, c => rif (c.size == 1 && !c.isTup) 101 (.ok [])
  | .tt, .tt => .ok []
  | .ff, .ff => .ok []
  | .tt, .bool b => .chk (ap _ _ (ap _ _ eqB' b) true) (.ok [])
  | .ff, .bool b => .chk (ap _ _ (ap _ _ eqB' b) false) (.ok [])
  | .bool b, .tt => .chk (ap _ _ (ap _ _ eqB' b) true) (.ok [])
  | .bool b, .ff => .chk (ap _ _ (ap _ _ eqB' b) false) (.ok [])
  | .bool b, .bool c => .chk (ap _ _ (ap _ _ eqB' b) c) (.ok [])
  | .lit k n, .lit k' m => rif (k == k') 101 (.chk (ap _ _ (ap _ _ eqI' n) m) (.ok []))
  | .lit k n, .int k' m => rif (k == k') 101 (.chk (ap _ _ (ap _ _ eqI' n) m) (.ok []))
  | .int k n, .lit k' m => rif (k == k') 101 (.chk (ap _ _ (ap _ _ eqI' n) m) (.ok []))
  | .int k n, .int k' m => rif (k == k') 101 (.chk (ap _ _ (ap _ _ eqI' n) m) (.ok []))
  | .str l, .str m => .chk (ap _ _ (ap _ _ eqL' l) m) (.ok [])
  | .nilp, .nilp => .ok []
  | .nsl, .nsl => .ok []
  | .zsl, .zsl => .ok []
  | .zsl, .nsl => .ok []
  | .ptr a p, .ptr b q => rif (lkN r a == b) 102 ((ptR ap p q).bind fun _ => .ok [])
  | .sl a p i n e cap, .sl b q j m e' cap' => rif (lkN r a == b && e == e') 103 ((ptR ap p q).bind fun _ => .chk (ap _ _ (ap _ _ eqN i) j) (.chk (ap _ _ (ap _ _ eqN n) m)
      (match cap, cap' with
        | none, _ => .ok []
        | some c, some c' => .chk (ap _ _ (ap _ _ eqN c) c') (.ok [])
        | _, _ => .fail 103)))
  | .dsl n e c, .dsl m e' c' => rif (e == e' && c.isRowB) 104 (.chk (ap _ _ (ap _ _ eqN n) m) (mtC ap r h c c'))
  | .dsl n e c, .nsl => nilR ap n e c
  | .dsl n e c, .zsl => nilR ap n e c
  | .ints k n l, .ints k' m l' => rif (k == k') 105 (.chk (ap _ _ (ap _ _ eqN n) m) (.chk (ap _ _ (ap _ _ eqL' l) l') (.ok [])))
  | .cat n m a b, .cat n' m' a' b' => rif (n == n' && m == m') 106 ((mtC ap r h a a').bind fun x => (mtC ap r h b b').bind fun y => .ok (x ++ y))
  | .rows e n f, .rows e' m g => rif (e == e') 107 (.chk (ap _ _ (ap _ _ eqN n) m) (.chk (ap _ _ (ap _ _ (ap _ _ eqRows n) f) g) (.ok [])))
  | .one a, .one b => mtC ap r h a b
  | .tnil, .tnil => .ok []
  | .tcons a b, .tcons a' b' => (mtC ap r h a a').bind fun x => (mtC ap r h b b').bind fun y => .ok (x ++ y)
  | .osl n e c, .osl m e' c' => rif (e == e' && c.isRowX) 108 (.chk (ap _ _ (ap _ _ eqN n) m) (mtC ap r h c c'))
  | .osl n e c, .nsl => nilR ap n e c
  | .osl n e c, .zsl => nilR ap n e c
  | .osl n e c, .sl b q j m e' _ => match q, h b with
    | [], some ⟨.own, c'⟩ => rif (e == e' && c.isRowX && c'.rowE == e) 109 (.chk (ap _ _ (ap _ _ eqN n) m) ((c'.subsO ap j m).bind fun c2 => .chk (ap _ _ (ap _ _ leN (ap _ _ (ap _ _ addN j) m)) c'.cnt) ((mtC ap r h c c2).bind fun x => .ok (b :: x))))
    | _, _ => .fail 109
  | .orow n e f o, .orow n' e' f' o' => rif (e == e') 112 (.chk (ap _ _ (ap _ _ eqN n) n') ((mtO ap r o o').bind fun _ => .chk (ap _ _ (ap _ _ (ap _ _ (ap _ _ eqRowsO n) (o.map fun p => p.1)) f) f') (.ok [])))
  | .optr c, .optr c' => mtC ap r h c c'
  | .optr c, .ptr b [] => match h b with
    | some ⟨.own, c'⟩ => (mtC ap r h c c').bind fun x => .ok (b :: x)
    | _ => .fail 110
  | _, _ => .fail 111
structure LSt where
  ts : List (Nat × V)
  hs : List (Nat × Blk)
  ren : List (Nat × Nat) := []
def lkT : List (Nat × V) → Nat → V
  | [], _ => .any
  | (k, v) :: l, i => if i = k then v else lkT l i
def LSt.st (L : LSt) : St := ⟨lkT L.ts, look L.hs⟩
/-- every handle in it is one of these -/
def V.hAll (f : Nat → Bool) : V → Bool
  | .ptr h _ => f h
  | .sl h _ _ _ _ _ => f h
  | .cat _ _ a b => a.hAll f && b.hAll f
  | .tcons a b => a.hAll f && b.hAll f
  | .one a => a.hAll f
  | .orow _ _ _ o => o.all fun p => f p.2.1
  | _ => true
def LSt.has (L : LSt) (h : Nat) : Bool := decide (100000 ≤ h) || L.hs.any fun p => p.1 == h
def subT (ap : AP) (L : LSt) (s : St) : List (Nat × V) → R Unit
  | [] => .ok ()
  | (i, v) :: l => (mtC ap L.ren s.h v (s.t i)).bind fun x => rif (x.isEmpty && v.noown && v.hAll L.has) 120 (subT ap L s l)
def kindOk : Bk → Bk → Bool
  | .own, .own => true
  | .bor, .bor => true
  | .imm, .imm => true
  | _, _ => false
def Bk.isOwn : Bk → Bool
  | .own => true
  | _ => false
def Bk.isImm : Bk → Bool
  | .imm => true
  | _ => false
def subH (ap : AP) (L : LSt) (s : St) : List (Nat × Blk) → R Unit
  | [] => .ok ()
  | (i, b) :: l => match s.h (lkN L.ren i) with
    | some b' => rif (kindOk b.k b'.k && (b.k.isOwn || b.c.noown) && (if b.k.isImm then b.c.clo else b.c.hAll L.has)) 121 ((mtC ap L.ren s.h b.c b'.c).bind fun x => rif x.isEmpty 122 (subH ap L s l))
    | none => .fail 123
def subR (ap : AP) (s : St) (L : LSt) : R Unit :=
  rif (nodupN (L.hs.map fun p => p.1) && nodupN (L.hs.map fun p => lkN L.ren p.1) && L.ren.all fun p => decide (p.1 < 100000) && decide (p.2 < 100000)) 124 ((subT ap L s L.ts).bind fun _ => subH ap L s L.hs)
/-- what a loop's head tells as put back is put back -/
def pbHs (ap : AP) (L : LSt) : List (Nat × Blk) → (Nat → Option Blk) → R (Nat → Option Blk)
  | [], h => .ok h
  | (i, b) :: l, h => match b.c with
    | .orow _ _ _ [] => (pbR ap (lkN L.ren i) h).bind fun h' => pbHs ap L l h'
    | .orow _ _ _ (_ :: o) => (pbN ap (lkN L.ren i) (o.length + 1) h).bind fun h' => pbHs ap L l h'
    | _ => pbHs ap L l h
def headR (ap : AP) (s : St) (L : LSt) : R Unit := (pbHs ap L L.hs s.h).bind fun h' => subR ap ⟨s.t, h'⟩ L
inductive Ann where
  | inv (S : Type) (fam : S → LSt) (p : S → Prop) (mu : S → Nat)
  | nest (S : Type) (fam : S → LSt) (p : S → Prop) (mu : S → Nat) (sub : S → List (Nat × Ann))
  | unroll (n : Nat)
/-- ranges and lengths that hold of whatever is represented -/
def V.okv : V → Prop
  | .lit k n => inR k n
  | .int k n => inR k n
  | .str l => l.length ≤ 9223372036854775807 ∧ ∀ y ∈ l, inR .u8 y
  | .ints k n l => l.length = n ∧ ∀ y ∈ l, inR k y
  | .cat _ _ a b => a.okv ∧ b.okv
  | .rows _ n f => ∀ j, j < n → (f j).okv
  | .one a => a.okv
  | .tcons a b => a.okv ∧ b.okv
  | .osl _ _ c => c.okv
  | .optr c => c.okv
  | .orow n _ f o => ∀ j, j < n → lk3 o j = none → (f j).okv
  | .dsl _ _ c => c.okv
  | .sl _ _ _ n _ _ => n ≤ 9223372036854775807
  | _ => True
def okTs : List (Nat × V) → Prop
  | [] => True
  | (_, v) :: l => v.okv ∧ okTs l
def okHs : List (Nat × Blk) → Prop
  | [] => True
  | (_, b) :: l => b.c.okv ∧ okHs l
def unroll (f : St → (Ex → St → Prop) → Prop) (Q : Ex → St → Prop) : Nat → St → Prop
  | 0, _ => False
  | n + 1, s => f s fun e s' => match e with
    | .nrm => unroll f Q n s'
    | .ret => Q .ret s'
    | .exit i => Q (.exit i) s'
def run (ap : AP) (E : List (Nat × Ctr)) : List (Nat × Ann) → ICode → (Ex → St → Prop) → St → Prop
  | _, .skip, Q, s => Q .nrm s
  | _, .ret, Q, s => Q .ret s
  | A, .seq a b, Q, s => run ap E A a (fun e s' => match e with
    | .nrm => run ap E A b Q s'
    | .ret => Q .ret s'
    | .exit i => Q (.exit i) s') s
  | A, .cond c a b, Q, s => match ev s.t c with
    | .tt => run ap E A a Q s
    | .ff => run ap E A b Q s
    | .bool x => (x = true → run ap E A a Q s) ∧ (x = false → run ap E A b Q s)
    | _ => False
  | A, .block i c, Q, s => run ap E A c (fun e s' => match e with
    | .nrm => Q .nrm s'
    | .ret => Q .ret s'
    | .exit j => if j = i then Q .nrm s' else Q (.exit j) s') s
  | _, .exit i, Q, s => Q (.exit i) s
  | A, .loop n c, Q, s => match look A n with
    | some (.inv S fam p mu) => (∃ x : S, p x ∧ (headR ap s (fam x)).all fun _ => True) ∧
        ∀ x : S, p x → okTs (fam x).ts → okHs (fam x).hs → run ap E A c (fun e s' => match e with
          | .nrm => ∃ y : S, p y ∧ mu y < mu x ∧ (headR ap s' (fam y)).all fun _ => True
          | .ret => Q .ret s'
          | .exit i => Q (.exit i) s') (fam x).st
    | some (.nest S fam p mu sub) => (∃ x : S, p x ∧ (headR ap s (fam x)).all fun _ => True) ∧
        ∀ x : S, p x → okTs (fam x).ts → okHs (fam x).hs → run ap E (sub x) c (fun e s' => match e with
          | .nrm => ∃ y : S, p y ∧ mu y < mu x ∧ (headR ap s' (fam y)).all fun _ => True
          | .ret => Q .ret s'
          | .exit i => Q (.exit i) s') (fam x).st
    | some (.unroll k) => unroll (fun s Q => run ap E A c Q s) Q k s
    | none => False
  | _, .reg keep l, Q, s => runOps ap E l s fun s' => Q .nrm ⟨keepT s'.t keep, s'.h⟩
  | _, .dreg keep l, Q, s => mskOk (l.map (DOp.msk s)) = true ∧ runDops ap E (l.map (DOp.msk s)) s fun s' => Q .nrm ⟨keepT s'.t keep, s'.h⟩
  | _, .bad _, _, _ => False
def inT : Nat → List Arg → List (Nat × V)
  | _, [] => []
  | i, .v v :: r => (i, v) :: inT (i + 1) r
  | i, .b n e _ :: r => (i, .sl (parH i) [] 0 n e none) :: inT (i + 1) r
  | i, .o _ none :: r => (i, .ptr (parH i) []) :: inT (i + 1) r
  | i, .o _ (some (j, n, e, cap)) :: r => (i, .sl (parH i) [] j n e cap) :: inT (i + 1) r
end Go.Cx
/- CxRep -/
namespace Go.Cx
open Go
inductive Lo where
  | ph
  | at (b off sz : Nat)
def poff : List Pt → Nat
  | [] => 0
  | .f o _ :: p => o + poff p
  | .x i e :: p => i * e + poff p
  | .r i e _ :: p => i * e + poff p
def toBA (l : List Int) : ByteArray := ⟨(l.map fun n => UInt8.ofNat n.toNat).toArray⟩
def capOk : Option Nat → Nat → Prop
  | none, _ => True
  | some k, c => c = k
abbrev Rho := Nat → Option Lo
abbrev Own := Nat → Option (List Nat)
def noR : Rho := fun _ => none
def Rho.le (a b : Rho) : Prop := ∀ h l, a h = some l → b h = some l
/-- a row of cells that nobody else writes, none of them frozen -/
def OwnBlk (w : World) (b : Nat) (cur : Array Value) : Prop :=
  ∃ ty fr, w.heap[b]? = some (.cells cur ty fr) ∧ (fr.1 = fr.2 ∨ cur.size ≤ fr.1)
def cellsAt (w : World) (b off : Nat) : Nat → Option Value := fun j => w.cell? ⟨b, off + j, none⟩
def behind (w : World) (a : Option Addr) : Nat → Option Value := fun j => match a with
  | some ad => w.cell? ⟨ad.block, ad.off + j, none⟩
  | none => none
def isRow (e n : Nat) : V → Prop
  | .ints _ m _ => m = n ∧ e = 1
  | .rows e' m _ => m = n ∧ e' = e
  | .orow m _ _ _ => m = n ∧ e = 1
  | _ => False
section
variable (I : Nat → Prop) (w : World) (ow : Own)
def CRep : V → Rho → List Nat → Nat → (Nat → Option Value) → Prop
  | .any, _, _, _, g => ∃ y, g 0 = some y ∧ y.oneCell' = true
  | .tt, _, _, _, g => g 0 = some (.bool true)
  | .ff, _, _, _, g => g 0 = some (.bool false)
  | .bool b, _, _, _, g => g 0 = some (.bool b)
  | .lit k n, _, _, _, g => g 0 = some (.int k n) ∧ inR k n
  | .int k n, _, _, _, g => g 0 = some (.int k n) ∧ inR k n
  | .str l, _, _, _, g => g 0 = some (.string (toBA l)) ∧ l.length ≤ maxLen ∧ ∀ y ∈ l, inR .u8 y
  | .nilp, _, _, _, g => g 0 = some (.pointer none)
  | .nsl, _, _, _, g => g 0 = some (.slice none 0 0)
  | .zsl, _, _, _, g => ∃ a, g 0 = some (.slice a 0 0)
  | .ptr h p, ρ, _, _, g => ∃ b off sz, ρ h = some (.at b off sz) ∧ g 0 = some (.pointer (some ⟨b, off + poff p, none⟩))
  | .dptr c p, _, _, _, g => ∃ b off, I b ∧ g 0 = some (.pointer (some ⟨b, off + poff p, none⟩)) ∧ CRep c noR [] 0 (cellsAt w b off)
  | .sl h p i n e cap, ρ, _, _, g => ∃ a c l, g 0 = some (.slice a n c) ∧ ρ h = some l ∧ n ≤ c ∧ c ≤ maxLen ∧ capOk cap c ∧
      (c = 0 ∨ ∃ b off sz, l = .at b off sz ∧ a = some ⟨b, off + (poff p + i * e), none⟩ ∧ poff p + i * e + c * e ≤ sz)
  | .dsl n e c, _, _, _, g => ∃ a cp, g 0 = some (.slice a n cp) ∧ n ≤ cp ∧ cp ≤ maxLen ∧ isRow e n c ∧ CRep c noR [] 0 (behind w a) ∧ (cp = 0 ∨ ∃ b off, a = some ⟨b, off, none⟩ ∧ I b)
  | .ints k n l, _, _, _, g => l.length = n ∧ (∀ y ∈ l, inR k y) ∧ ∀ j, j < n → g j = some (.int k (nthI l j))
  | .cat n m a b, ρ, q, pos, g => a.size = n ∧ b.size = m ∧ CRep a ρ q pos g ∧ CRep b ρ q (pos + n) (fun j => g (n + j))
  | .rows e n f, _, _, _, g => ∀ j, j < n → (f j).size = e ∧ CRep (f j) noR [] 0 (fun r => g (j * e + r))
  | .one a, ρ, q, pos, g => a.isAgg = false ∧ CRep a ρ q pos g
  | .tnil, _, _, _, _ => False
  | .tcons _ _, _, _, _, _ => False
  | .osl n e c, _, q, pos, g => q ≠ [] ∧ ∃ a cp, g 0 = some (.slice a n cp) ∧ n ≤ cp ∧ cp ≤ maxLen ∧ isRow e n c ∧
      ((cp = 0 ∧ CRep c noR [] 0 (fun _ => none)) ∨ ∃ b off cur, a = some ⟨b, off, none⟩ ∧ ow b = some (q ++ [pos]) ∧ OwnBlk w b cur ∧ off + cp * e ≤ cur.size ∧ CRep c noR (q ++ [pos]) 0 (fun j => cur[off + j]?))
  | .optr c, _, q, pos, g => q ≠ [] ∧ ∃ b off cur, g 0 = some (.pointer (some ⟨b, off, none⟩)) ∧ ow b = some (q ++ [pos]) ∧ OwnBlk w b cur ∧ off ≤ cur.size ∧ CRep c noR (q ++ [pos]) 0 (fun j => cur[off + j]?)
  | .raw x, _, _, _, g => g 0 = some x ∧ x.oneCell' = true
  | .orow n e f o, ρ, q, pos, g => q ≠ [] ∧ 0 < n ∧ ∀ j, j < n → ∃ a m cp, g j = some (.slice a m cp) ∧ m ≤ cp ∧ cp ≤ maxLen ∧
      (∀ h k, lk3 o j = some (h, k) → m = k ∧ ∃ l, ρ h = some l ∧ (cp = 0 ∨ ∃ b off sz, l = .at b off sz ∧ a = some ⟨b, off, none⟩ ∧ cp * e ≤ sz)) ∧
      (lk3 o j = none → isRow e m (f j) ∧ (f j).noown = true ∧ ((cp = 0 ∧ CRep (f j) noR [] 0 (fun _ => none)) ∨
        ∃ b off cur, a = some ⟨b, off, none⟩ ∧ ow b = some (q ++ [pos + j]) ∧ OwnBlk w b cur ∧ off + cp * e ≤ cur.size ∧ CRep (f j) noR [] 0 (fun i => cur[off + i]?)))
end
theorem poff_append (p q : List Pt) : poff (p ++ q) = poff p + poff q := by
  induction p with
  | nil => simp [poff]
  | cons x p ih => cases x <;> simp [poff, ih, Nat.add_assoc]
theorem behind_same {w w' : World} {a : Option Addr} (h : ∀ ad, a = some ad → w'.heap[ad.block]? = w.heap[ad.block]?) : behind w' a = behind w a := by
  funext j
  cases a with
  | none => rfl
  | some ad => exact World.cell?_of_block (w := w) (a := ⟨ad.block, ad.off + j, none⟩) (h ad rfl)
theorem cellsAt_same {w w' : World} {b off : Nat} (h : w'.heap[b]? = w.heap[b]?) : cellsAt w' b off = cellsAt w b off := by
  funext j
  exact World.cell?_of_block (w := w) (a := ⟨b, off + j, none⟩) h
theorem OwnBlk.same {w w' : World} {b : Nat} {cur : Array Value} (h : OwnBlk w b cur) (hb : w'.heap[b]? = w.heap[b]?) : OwnBlk w' b cur := by
  obtain ⟨ty, fr, h1, h2⟩ := h
  exact ⟨ty, fr, hb.trans h1, h2⟩
theorem isRow_zero {e : Nat} {c : V} (h : isRow e 0 c) : c.size = 0 := by
  cases c <;> simp_all [isRow, V.size]
theorem CRep.mono {I I' : Nat → Prop} {w w' : World} {ow ow' : Own} (hI : ∀ b, I b → I' b ∧ w'.heap[b]? = w.heap[b]?) (c : V) :
    ∀ (ρ ρ' : Rho) (q : List Nat) (pos : Nat) (g g' : Nat → Option Value), Rho.le ρ ρ' →
      (q ≠ [] → ∀ b r, r ≠ [] → ow b = some (q ++ r) → ow' b = some (q ++ r) ∧ w'.heap[b]? = w.heap[b]?) →
      (∀ j, j < c.size → g' j = g j) → CRep I w ow c ρ q pos g → CRep I' w' ow' c ρ' q pos g' := by
  induction c with
  | any => intro ρ ρ' q pos g g' _ _ hg h; simpa [CRep, hg 0 (by simp [V.size])] using h
  | tt => intro ρ ρ' q pos g g' _ _ hg h; simpa [CRep, hg 0 (by simp [V.size])] using h
  | ff => intro ρ ρ' q pos g g' _ _ hg h; simpa [CRep, hg 0 (by simp [V.size])] using h
  | bool _ => intro ρ ρ' q pos g g' _ _ hg h; simpa [CRep, hg 0 (by simp [V.size])] using h
  | lit k n => intro ρ ρ' q pos g g' _ _ hg h; simpa [CRep, hg 0 (by simp [V.size])] using h
  | int k n => intro ρ ρ' q pos g g' _ _ hg h; simpa [CRep, hg 0 (by simp [V.size])] using h
  | str l => intro ρ ρ' q pos g g' _ _ hg h; simpa [CRep, hg 0 (by simp [V.size])] using h
  | nilp => intro ρ ρ' q pos g g' _ _ hg h; simpa [CRep, hg 0 (by simp [V.size])] using h
  | nsl => intro ρ ρ' q pos g g' _ _ hg h; simpa [CRep, hg 0 (by simp [V.size])] using h
  | zsl => intro ρ ρ' q pos g g' _ _ hg h; simpa [CRep, hg 0 (by simp [V.size])] using h
  | ptr h p =>
    intro ρ ρ' q pos g g' hρ _ hg hh
    obtain ⟨b, off, sz, h1, h2⟩ := hh
    exact ⟨b, off, sz, hρ _ _ h1, by rw [hg 0 (by simp [V.size])]; exact h2⟩
  | dptr c p ih =>
    intro ρ ρ' q pos g g' hρ _ hg hh
    obtain ⟨b, off, h1, h2, h3⟩ := hh
    refine ⟨b, off, (hI b h1).1, by rw [hg 0 (by simp [V.size])]; exact h2, ?_⟩
    rw [cellsAt_same (hI b h1).2]
    exact ih _ _ _ _ _ _ (fun _ _ h => h) (fun h => absurd rfl h) (fun _ _ => rfl) h3
  | sl h p i n e cap =>
    intro ρ ρ' q pos g g' hρ _ hg hh
    obtain ⟨a, c, l, h1, h2, h3⟩ := hh
    exact ⟨a, c, l, by rw [hg 0 (by simp [V.size])]; exact h1, hρ _ _ h2, h3⟩
  | dsl n e c ih =>
    intro ρ ρ' q pos g g' hρ _ hg hh
    obtain ⟨a, cp, h1, h2, h3, hrow, h4, h5⟩ := hh
    refine ⟨a, cp, by rw [hg 0 (by simp [V.size])]; exact h1, h2, h3, hrow, ?_, h5.imp id fun ⟨b, off, ha, hb⟩ => ⟨b, off, ha, (hI b hb).1⟩⟩
    rcases h5 with rfl | ⟨b, off, rfl, hb⟩
    · exact ih _ _ _ _ _ _ (fun _ _ h => h) (fun h => absurd rfl h) (fun j hj => by obtain rfl : n = 0 := (by omega); rw [isRow_zero hrow] at hj; omega) h4
    · rw [behind_same (w := w) (fun ad had => by cases had; exact (hI b hb).2)]
      exact ih _ _ _ _ _ _ (fun _ _ h => h) (fun h => absurd rfl h) (fun _ _ => rfl) h4
  | ints k n l =>
    intro ρ ρ' q pos g g' _ _ hg hh
    exact ⟨hh.1, hh.2.1, fun j hj => by rw [hg j (by simpa [V.size] using hj)]; exact hh.2.2 j hj⟩
  | cat n m a b iha ihb =>
    intro ρ ρ' q pos g g' hρ ho hg hh
    obtain ⟨h1, h2, h3, h4⟩ := hh
    refine ⟨h1, h2, iha _ _ _ _ _ _ hρ ho (fun j hj => hg j (by simp [V.size]; omega)) h3, ihb _ _ _ _ _ _ hρ ho (fun j hj => hg (n + j) (by simp [V.size]; omega)) h4⟩
  | rows e n f ih =>
    intro ρ ρ' q pos g g' hρ _ hg hh j hj
    obtain ⟨h1, h2⟩ := hh j hj
    refine ⟨h1, ih j _ _ _ _ _ _ (fun _ _ h => h) (fun h => absurd rfl h) (fun r hr => hg _ ?_) h2⟩
    rw [h1] at hr
    simp only [V.size]
    calc j * e + r < j * e + e := by omega
      _ = (j + 1) * e := by rw [Nat.add_mul]; omega
      _ ≤ n * e := Nat.mul_le_mul_right _ hj
  | one a ih =>
    intro ρ ρ' q pos g g' hρ ho hg hh
    exact ⟨hh.1, ih _ _ _ _ _ _ hρ ho (fun j hj => hg j (by simpa [V.size] using hj)) hh.2⟩
  | tnil => intro _ _ _ _ _ _ _ _ _ hh; exact hh.elim
  | tcons a b => intro _ _ _ _ _ _ _ _ _ hh; exact hh.elim
  | osl n e c ih =>
    intro ρ ρ' q pos g g' _ ho hg hh
    obtain ⟨hq, a, cp, h1, h2, h3, hrow, h4⟩ := hh
    refine ⟨hq, a, cp, by rw [hg 0 (by simp [V.size])]; exact h1, h2, h3, hrow, ?_⟩
    rcases h4 with ⟨h5, h6⟩ | ⟨b, off, cur, ha, hb, hc, hsz, h6⟩
    · exact .inl ⟨h5, ih _ _ _ _ _ _ (fun _ _ h => h) (fun h => absurd rfl h) (fun _ _ => rfl) h6⟩
    · have hb' := ho hq b [pos] (by simp) hb
      refine .inr ⟨b, off, cur, ha, hb'.1, hc.same hb'.2, hsz, ih _ _ _ _ _ _ (fun _ _ h => h) (fun _ b' r hr hb'' => ?_) (fun _ _ => rfl) h6⟩
      have := ho hq b' (pos :: r) (by simp) (by simpa using hb'')
      simpa using this
  | optr c ih =>
    intro ρ ρ' q pos g g' _ ho hg hh
    obtain ⟨hq, b, off, cur, h1, hb, hc, h5, h6⟩ := hh
    have hb' := ho hq b [pos] (by simp) hb
    refine ⟨hq, b, off, cur, by rw [hg 0 (by simp [V.size])]; exact h1, hb'.1, hc.same hb'.2, h5, ih _ _ _ _ _ _ (fun _ _ h => h) (fun _ b' r hr hb'' => ?_) (fun _ _ => rfl) h6⟩
    have := ho hq b' (pos :: r) (by simp) (by simpa using hb'')
    simpa using this
  | raw x => intro ρ ρ' q pos g g' _ _ hg h; exact ⟨(hg 0 (by simp [V.size])).trans h.1, h.2⟩
  | orow n e f o ih =>
    intro ρ ρ' q pos g g' hρ ho hg hh
    obtain ⟨hq, h0, hh⟩ := hh
    refine ⟨hq, h0, fun j hj => ?_⟩
    obtain ⟨a, m, cp, h1, h2, h3, h4, h5⟩ := hh j hj
    refine ⟨a, m, cp, by rw [hg j (by simpa [V.size] using hj)]; exact h1, h2, h3, fun h k hl => ?_, fun hn => ?_⟩
    · obtain ⟨e1, l, e2, e3⟩ := h4 h k hl
      exact ⟨e1, l, hρ _ _ e2, e3⟩
    · obtain ⟨r1, r2, r3⟩ := h5 hn
      refine ⟨r1, r2, ?_⟩
      rcases r3 with ⟨e1, e2⟩ | ⟨b, off, cur, e1, e2, e3, e4, e5⟩
      · exact .inl ⟨e1, ih j _ _ _ _ _ _ (fun _ _ h => h) (fun h => absurd rfl h) (fun _ _ => rfl) e2⟩
      · have hb' := ho hq b [pos + j] (by simp) e2
        exact .inr ⟨b, off, cur, e1, hb'.1, e3.same hb'.2, e4, ih j _ _ _ _ _ _ (fun _ _ h => h) (fun h => absurd rfl h) (fun _ _ => rfl) e5⟩
/-- content without an owner's path fits under every path -/
theorem CRep.anyq {I : Nat → Prop} {w : World} {ow : Own} (c : V) : ∀ (ρ : Rho) (q : List Nat) (pos pos' : Nat) (g : Nat → Option Value),
    CRep I w ow c ρ [] pos g → CRep I w ow c ρ q pos' g := by
  induction c with
  | cat n m a b iha ihb => intro ρ q pos pos' g h; exact ⟨h.1, h.2.1, iha _ _ _ _ _ h.2.2.1, ihb _ _ _ _ _ h.2.2.2⟩
  | one a ih => intro ρ q pos pos' g h; exact ⟨h.1, ih _ _ _ _ _ h.2⟩
  | osl n e c _ => intro ρ q pos pos' g h; exact absurd rfl h.1
  | optr c _ => intro ρ q pos pos' g h; exact absurd rfl h.1
  | orow n e f o _ => intro ρ q pos pos' g h; exact absurd rfl h.1
  | _ => intro ρ q pos pos' g h; exact h
theorem noR_le (ρ : Rho) : Rho.le noR ρ := fun _ _ h => by cases h
theorem Rho.le_refl (ρ : Rho) : Rho.le ρ ρ := fun _ _ h => h
/-- from within a row: outward -/
theorem CRep.out {I : Nat → Prop} {w : World} {ow : Own} {c : V} {ρ : Rho} {q : List Nat} {pos pos' : Nat} {g : Nat → Option Value} (h : CRep I w ow c noR [] pos g) : CRep I w ow c ρ q pos' g :=
  (CRep.mono (fun _ hb => ⟨hb, rfl⟩) c _ _ _ _ _ _ (noR_le ρ) (fun h => absurd rfl h) (fun _ _ => rfl) h).anyq c _ _ _ _ _
/-- content without handles -/
theorem CRep.closed {I : Nat → Prop} {w : World} {ow : Own} (c : V) : ∀ (ρ ρ' : Rho) (q : List Nat) (pos : Nat) (g : Nat → Option Value), c.clo = true →
    CRep I w ow c ρ q pos g → CRep I w ow c ρ' q pos g := by
  induction c with
  | cat n m a b iha ihb => intro ρ ρ' q pos g hc h; simp only [V.clo, Bool.and_eq_true] at hc; exact ⟨h.1, h.2.1, iha _ _ _ _ _ hc.1 h.2.2.1, ihb _ _ _ _ _ hc.2 h.2.2.2⟩
  | one a ih => intro ρ ρ' q pos g hc h; exact ⟨h.1, ih _ _ _ _ _ (by simpa [V.clo] using hc) h.2⟩
  | ptr h p => intro ρ ρ' q pos g hc; simp [V.clo] at hc
  | sl h p i n e cap => intro ρ ρ' q pos g hc; simp [V.clo] at hc
  | orow n e f o _ =>
    intro ρ ρ' q pos g hc h
    cases o with
    | nil =>
      refine ⟨h.1, h.2.1, fun j hj => ?_⟩
      obtain ⟨a, m, cp, h1, h2, h3, _, h5⟩ := h.2.2 j hj
      exact ⟨a, m, cp, h1, h2, h3, fun h k hl => (by cases hl), h5⟩
    | cons => simp [V.clo] at hc
  | _ => intro ρ ρ' q pos g hc h; exact h
theorem CRep.noq {I : Nat → Prop} {w : World} {ow : Own} (c : V) : ∀ (ρ : Rho) (q q' : List Nat) (pos pos' : Nat) (g : Nat → Option Value), c.noown = true →
    CRep I w ow c ρ q pos g → CRep I w ow c ρ q' pos' g := by
  induction c with
  | cat n m a b iha ihb => intro ρ q q' pos pos' g hc h; simp only [V.noown, Bool.and_eq_true] at hc; exact ⟨h.1, h.2.1, iha _ _ _ _ _ _ hc.1 h.2.2.1, ihb _ _ _ _ _ _ hc.2 h.2.2.2⟩
  | one a ih => intro ρ q q' pos pos' g hc h; exact ⟨h.1, ih _ _ _ _ _ _ (by simpa [V.noown] using hc) h.2⟩
  | osl n e c => intro ρ q q' pos pos' g hc; simp [V.noown] at hc
  | optr c => intro ρ q q' pos pos' g hc; simp [V.noown] at hc
  | orow n e f o => intro ρ q q' pos pos' g hc; simp [V.noown] at hc
  | _ => intro ρ q q' pos pos' g hc h; exact h
theorem CRep.okv {I : Nat → Prop} {w : World} {ow : Own} (c : V) : ∀ (ρ : Rho) (q : List Nat) (pos : Nat) (g : Nat → Option Value), CRep I w ow c ρ q pos g → c.okv := by
  induction c with
  | lit k n => intro ρ q pos g h; exact h.2
  | int k n => intro ρ q pos g h; exact h.2
  | str l => intro ρ q pos g h; refine ⟨?_, h.2.2⟩; have := h.2.1; simp only [maxLen] at this; omega
  | ints k n l => intro ρ q pos g h; exact ⟨h.1, h.2.1⟩
  | cat n m a b iha ihb => intro ρ q pos g h; exact ⟨iha _ _ _ _ h.2.2.1, ihb _ _ _ _ h.2.2.2⟩
  | rows e n f ih => intro ρ q pos g h j hj; exact ih j _ _ _ _ (h j hj).2
  | one a ih => intro ρ q pos g h; exact ih _ _ _ _ h.2
  | tcons a b => intro ρ q pos g h; exact h.elim
  | osl n e c ih =>
    intro ρ q pos g h
    obtain ⟨_, a, cp, _, _, _, _, h4⟩ := h
    rcases h4 with ⟨_, h⟩ | ⟨_, _, _, _, _, _, _, h⟩
    · exact ih _ _ _ _ h
    · exact ih _ _ _ _ h
  | optr c ih =>
    intro ρ q pos g h
    obtain ⟨_, _, _, _, _, _, _, _, h⟩ := h
    exact ih _ _ _ _ h
  | orow n e f o ih =>
    intro ρ q pos g h j hj hl
    obtain ⟨a, m, cp, _, _, _, _, h5⟩ := h.2.2 j hj
    obtain ⟨_, _, h | ⟨_, _, _, _, _, _, _, h⟩⟩ := h5 hl
    · exact ih j _ _ _ _ h.2
    · exact ih j _ _ _ _ h
  | dsl n e c ih =>
    intro ρ q pos g h
    obtain ⟨_, _, _, _, _, _, h, _⟩ := h
    exact ih _ _ _ _ h
  | sl hd p i n e cap =>
    intro ρ q pos g h
    obtain ⟨a, c, l, _, _, h1, h2, _⟩ := h
    simp only [V.okv]
    simp only [maxLen] at h2
    omega
  | _ => intro ρ q pos g h; trivial
/-- every cell of content is one value of one cell -/
theorem CRep.cells {I : Nat → Prop} {w : World} {ow : Own} (c : V) : ∀ (ρ : Rho) (q : List Nat) (pos : Nat) (g : Nat → Option Value), CRep I w ow c ρ q pos g →
    ∀ j, j < c.size → ∃ y, g j = some y ∧ y.oneCell' = true := by
  induction c with
  | any => intro ρ q pos g h j hj; simp only [V.size] at hj; obtain rfl : j = 0 := (by omega); exact h
  | tt => intro ρ q pos g h j hj; simp only [V.size] at hj; obtain rfl : j = 0 := (by omega); exact ⟨_, h, rfl⟩
  | ff => intro ρ q pos g h j hj; simp only [V.size] at hj; obtain rfl : j = 0 := (by omega); exact ⟨_, h, rfl⟩
  | bool b => intro ρ q pos g h j hj; simp only [V.size] at hj; obtain rfl : j = 0 := (by omega); exact ⟨_, h, rfl⟩
  | lit k n => intro ρ q pos g h j hj; simp only [V.size] at hj; obtain rfl : j = 0 := (by omega); exact ⟨_, h.1, rfl⟩
  | int k n => intro ρ q pos g h j hj; simp only [V.size] at hj; obtain rfl : j = 0 := (by omega); exact ⟨_, h.1, rfl⟩
  | str l => intro ρ q pos g h j hj; simp only [V.size] at hj; obtain rfl : j = 0 := (by omega); exact ⟨_, h.1, rfl⟩
  | nilp => intro ρ q pos g h j hj; simp only [V.size] at hj; obtain rfl : j = 0 := (by omega); exact ⟨_, h, rfl⟩
  | nsl => intro ρ q pos g h j hj; simp only [V.size] at hj; obtain rfl : j = 0 := (by omega); exact ⟨_, h, rfl⟩
  | zsl => intro ρ q pos g h j hj; simp only [V.size] at hj; obtain rfl : j = 0 := (by omega); obtain ⟨a, h⟩ := h; exact ⟨_, h, rfl⟩
  | ptr hd p => intro ρ q pos g h j hj; simp only [V.size] at hj; obtain rfl : j = 0 := (by omega); obtain ⟨b, off, sz, _, h⟩ := h; exact ⟨_, h, rfl⟩
  | dptr c p => intro ρ q pos g h j hj; simp only [V.size] at hj; obtain rfl : j = 0 := (by omega); obtain ⟨b, off, _, h, _⟩ := h; exact ⟨_, h, rfl⟩
  | sl hd p i n e cap => intro ρ q pos g h j hj; simp only [V.size] at hj; obtain rfl : j = 0 := (by omega); obtain ⟨a, c, l, h, _⟩ := h; exact ⟨_, h, rfl⟩
  | dsl n e c => intro ρ q pos g h j hj; simp only [V.size] at hj; obtain rfl : j = 0 := (by omega); obtain ⟨a, c, h, _⟩ := h; exact ⟨_, h, rfl⟩
  | ints k n l => intro ρ q pos g h j hj; exact ⟨_, h.2.2 j (by simpa [V.size] using hj), rfl⟩
  | cat n m a b iha ihb =>
    intro ρ q pos g h j hj
    obtain ⟨h1, h2, h3, h4⟩ := h
    simp only [V.size] at hj
    by_cases hn : j < n
    · exact iha _ _ _ _ h3 j (by omega)
    · have := ihb _ _ _ _ h4 (j - n) (by omega)
      rwa [show n + (j - n) = j by omega] at this
  | rows e n f ih =>
    intro ρ q pos g h j hj
    simp only [V.size] at hj
    have he : 0 < e := by
      rcases Nat.eq_zero_or_pos e with rfl | he
      · simp at hj
      · exact he
    have hd : j / e < n := by rwa [Nat.div_lt_iff_lt_mul he]
    obtain ⟨h1, h2⟩ := h (j / e) hd
    have := ih (j / e) _ _ _ _ h2 (j % e) (by rw [h1]; exact Nat.mod_lt _ he)
    rwa [show j / e * e + j % e = j by rw [Nat.mul_comm]; exact Nat.div_add_mod j e] at this
  | one a ih => intro ρ q pos g h j hj; exact ih _ _ _ _ h.2 j (by simpa [V.size] using hj)
  | tnil => intro ρ q pos g h; exact h.elim
  | tcons a b => intro ρ q pos g h; exact h.elim
  | osl n e c => intro ρ q pos g h j hj; simp only [V.size] at hj; obtain rfl : j = 0 := (by omega); obtain ⟨_, a, cp, h, _⟩ := h; exact ⟨_, h, rfl⟩
  | optr c => intro ρ q pos g h j hj; simp only [V.size] at hj; obtain rfl : j = 0 := (by omega); obtain ⟨_, a, off, cp, h, _⟩ := h; exact ⟨_, h, rfl⟩
  | raw x => intro ρ q pos g h j hj; simp only [V.size] at hj; obtain rfl : j = 0 := (by omega); exact ⟨x, h.1, h.2⟩
  | orow n e f o => intro ρ q pos g h j hj; obtain ⟨_, _, _, h, _⟩ := h.2.2 j (by simpa [V.size] using hj); exact ⟨_, h, rfl⟩
end Go.Cx
/- CxRep2 -/
namespace Go.Cx
open Go
theorem rif_to {α : Type} {b : Bool} {n : Nat} {r : R α} {a : α} (h : (rif b n r).to a) : b = true ∧ r.to a := by
  unfold rif at h
  split at h
  · exact ⟨by assumption, h⟩
  · exact h.elim
theorem bind_to {α β : Type} {r : R α} {f : α → R β} {b : β} (h : (r.bind f).to b) : ∃ a, r.to a ∧ (f a).to b := by
  induction r with
  | fail y => exact h.elim
  | ok a => exact ⟨a, rfl, h⟩
  | chk p r ih => obtain ⟨a, h1, h2⟩ := ih h.2; exact ⟨a, ⟨h.1, h1⟩, h2⟩
  | br c x y ihx ihy =>
    rcases h with ⟨hc, h⟩ | ⟨hc, h⟩
    · obtain ⟨a, h1, h2⟩ := ihx h; exact ⟨a, .inl ⟨hc, h1⟩, h2⟩
    · obtain ⟨a, h1, h2⟩ := ihy h; exact ⟨a, .inr ⟨hc, h1⟩, h2⟩
  | nam x k ih => obtain ⟨a, h1, h2⟩ := ih x h; exact ⟨a, h1, h2⟩
theorem to_bind {α β : Type} {r : R α} {f : α → R β} {a : α} {b : β} (h1 : r.to a) (h2 : (f a).to b) : (r.bind f).to b := by
  induction r with
  | fail y => exact h1.elim
  | ok c => cases h1; exact h2
  | chk p r ih => exact ⟨h1.1, ih h1.2⟩
  | br c x y ihx ihy =>
    rcases h1 with ⟨hc, h⟩ | ⟨hc, h⟩
    · exact .inl ⟨hc, ihx h⟩
    · exact .inr ⟨hc, ihy h⟩
  | nam x k ih => exact ih x h1
theorem all_to {α : Type} {r : R α} {K : α → Prop} (h : r.all K) : ∃ a, r.to a ∧ K a := by
  induction r with
  | fail y => exact h.elim
  | ok a => exact ⟨a, rfl, h⟩
  | chk p r ih => obtain ⟨a, h1, h2⟩ := ih h.2; exact ⟨a, ⟨h.1, h1⟩, h2⟩
  | br c x y ihx ihy =>
    cases c with
    | true => obtain ⟨a, h1, h2⟩ := ihx (h.1 rfl); exact ⟨a, .inl ⟨rfl, h1⟩, h2⟩
    | false => obtain ⟨a, h1, h2⟩ := ihy (h.2 rfl); exact ⟨a, .inr ⟨rfl, h1⟩, h2⟩
  | nam x k ih => obtain ⟨a, h1, h2⟩ := ih x (h x rfl); exact ⟨a, h1, h2⟩
section
variable {I : Nat → Prop} {w : World} {ow : Own}
theorem fld_rep : ∀ (c : V) {o s : Nat} {c' : V} {ρ : Rho} {q : List Nat} {pos : Nat} {g : Nat → Option Value}, c.fld o s = some c' → CRep I w ow c ρ q pos g →
    CRep I w ow c' ρ q (pos + o) (fun j => g (o + j)) ∧ c'.size = s ∧ o + s ≤ c.size := by
  intro c
  have leaf : ∀ (c : V) {o s : Nat} {c' : V} {ρ : Rho} {q : List Nat} {pos : Nat} {g : Nat → Option Value},
      (if o = 0 ∧ c.size = s then some c else none) = some c' → CRep I w ow c ρ q pos g →
      CRep I w ow c' ρ q (pos + o) (fun j => g (o + j)) ∧ c'.size = s ∧ o + s ≤ c.size := by
    intro c o s c' ρ q pos g h hr
    split at h
    · rename_i hh
      obtain ⟨rfl, rfl⟩ := hh
      cases h
      exact ⟨by simpa using hr, rfl, by omega⟩
    · cases h
  induction c with
  | cat n m a b iha ihb =>
    intro o s c' ρ q pos g h hr
    simp only [V.fld] at h
    split at h
    · rename_i hh
      obtain ⟨rfl, rfl⟩ := hh
      cases h
      exact ⟨by simpa using hr, by simp [V.size], by simp [V.size]⟩
    · split at h
      · obtain ⟨h1, h2, h3⟩ := iha h hr.2.2.1
        exact ⟨h1, h2, by have := hr.1; simp only [V.size]; omega⟩
      · rename_i hno
        obtain ⟨h1, h2, h3⟩ := ihb h hr.2.2.2
        refine ⟨?_, h2, by have := hr.2.1; simp only [V.size]; omega⟩
        have e : pos + n + (o - n) = pos + o := by omega
        rw [e] at h1
        have eg : (fun j => g (n + (o - n + j))) = fun j => g (o + j) := by funext j; congr 1; omega
        rw [eg] at h1
        exact h1
  | _ => intro o s c' ρ q pos g h hr; exact leaf _ h hr
theorem isRow_size {e n : Nat} {c : V} (h : isRow e n c) : c.size = n * e := by
  cases c <;> simp_all [isRow, V.size]
theorem subs_rep {ρ : Rho} {c c' : V} {i m e n : Nat} {ow : Own} {q : List Nat} {pos : Nat} {g : Nat → Option Value} (h : (c.subs apf i m).to c') (hrow : isRow e n c) (him : i + m ≤ n) (hc : CRep I w ow c ρ q pos g) :
    isRow e m c' ∧ CRep I w ow c' noR [] 0 (fun j => g (i * e + j)) := by
  cases c <;> simp only [V.subs] at h <;> first | exact h.elim | skip
  · rename_i k n' l
    cases h
    obtain ⟨rfl, rfl⟩ := hrow
    obtain ⟨h1, h2, h3⟩ := hc
    refine ⟨⟨rfl, rfl⟩, ?_, ?_, ?_⟩
    · simp [apf, subL]; omega
    · intro y hy
      exact h2 y (List.mem_of_mem_drop (List.mem_of_mem_take hy))
    · intro j hj
      simp only [Nat.mul_one, apf]
      rw [h3 (i + j) (by omega)]
      congr 2
      simp [nthI, subL, List.getD_eq_getElem?_getD, hj]
  · rename_i e' n' f
    cases h
    obtain ⟨rfl, rfl⟩ := hrow
    refine ⟨⟨rfl, rfl⟩, fun j hj => ?_⟩
    obtain ⟨h1, h2⟩ := hc (i + j) (by omega)
    refine ⟨h1, CRep.mono (fun b hb => ⟨hb, rfl⟩) _ _ _ _ _ _ _ (Rho.le_refl _) (fun h => absurd rfl h) (fun r _ => ?_) h2⟩
    show g (i * e' + (j * e' + r)) = g ((i + j) * e' + r)
    congr 1
    rw [Nat.add_mul]; omega
theorem isRow_cnt {c c' : V} {i m : Nat} (h : (c.subs apf i m).to c') : isRow c.rowE c.cnt c := by
  cases c <;> simp_all [V.subs, R.to, isRow, V.rowE, V.cnt]
theorem at_rep : ∀ (p : List Pt) (c : V) {c' : V} {ρ : Rho} {q : List Nat} {pos : Nat} {g : Nat → Option Value}, (c.at apf p).to c' → CRep I w ow c ρ q pos g →
    CRep I w ow c' ρ q (pos + poff p) (fun j => g (poff p + j)) ∧ poff p + c'.size ≤ c.size := by
  intro p
  induction p with
  | nil =>
    intro c c' ρ q pos g h hr
    have h : c = c' := by simpa [V.at, R.to] using h
    subst h
    simpa [poff] using hr
  | cons x p ih =>
    intro c c' ρ q pos g h hr
    cases x with
    | f o s =>
      simp only [V.at] at h
      split at h
      · rename_i c1 h1
        obtain ⟨h2, h3, h4⟩ := fld_rep c h1 hr
        obtain ⟨h5, h6⟩ := ih c1 h h2
        refine ⟨?_, by simp only [poff]; omega⟩
        simpa [poff, Nat.add_assoc] using h5
      · exact h.elim
    | x i e =>
      simp only [V.at] at h
      split at h
      · rename_i k n l
        split at h
        · obtain ⟨h1, h2, h3⟩ := rif_to h
          cases h3
          have he : e = 1 := by simpa using h1
          subst he
          have hi : i < n := h2
          refine ⟨⟨by simpa [poff, apf] using hr.2.2 i hi, ?_⟩, by simp only [poff, V.size]; omega⟩
          refine hr.2.1 _ ?_
          simp only [apf, nthI]
          have : i < l.length := by rw [hr.1]; exact hi
          rw [List.getD_eq_getElem?_getD, List.getElem?_eq_getElem this]
          exact List.getElem_mem this
        · exact h.elim
      · rename_i e' n f
        obtain ⟨h1, h2, h3⟩ := rif_to h
        have he : e = e' := by simpa using h1
        subst he
        have hi : i < n := h2
        obtain ⟨h4, h5⟩ := hr i hi
        obtain ⟨h6, h7⟩ := ih (f i) h3 h5
        have hlt : i * e + e ≤ n * e := by
          have := Nat.mul_le_mul_right e (show i + 1 ≤ n from hi)
          rw [Nat.add_mul] at this
          omega
        refine ⟨?_, by simp only [poff, V.size]; omega⟩
        have := CRep.out (ρ := ρ) (q := q) (pos' := pos + poff (.x i e :: p)) h6
        simpa [poff, Nat.add_assoc] using this
      · exact h.elim
    | r i e n =>
      cases p with
      | cons _ _ => exact h.elim
      | nil =>
        simp only [V.at] at h
        obtain ⟨h1, h2, h3⟩ := rif_to h
        have h1 : c.rowE = e := by simpa using h1
        have h2 : i + n ≤ c.cnt := h2
        have hrow := isRow_cnt h3
        obtain ⟨h4, h5⟩ := subs_rep h3 hrow h2 hr
        rw [h1] at hrow h4 h5
        have hs := isRow_size hrow
        have hs' := isRow_size h4
        refine ⟨?_, ?_⟩
        · have := CRep.out (ρ := ρ) (q := q) (pos' := pos + poff [.r i e n]) h5
          simpa [poff] using this
        · simp only [poff, Nat.add_zero]
          rw [hs, hs', ← Nat.add_mul]
          exact Nat.mul_le_mul_right _ h2
theorem setFld_size : ∀ (c : V) {o s : Nat} {v c2 : V}, c.setFld o s v = some c2 → v.size = s → c2.size = c.size := by
  intro c
  have leaf : ∀ (c : V) {o s : Nat} {v c2 : V}, (if o = 0 ∧ c.size = s then some v else none) = some c2 → v.size = s → c2.size = c.size := by
    intro c o s v c2 h hv
    split at h
    · rename_i hh; cases h; omega
    · cases h
  induction c with
  | cat n m a b iha ihb =>
    intro o s v c2 h hv
    simp only [V.setFld] at h
    split at h
    · rename_i hh; cases h; simp only [V.size]; omega
    · split at h
      · split at h
        · cases h; rfl
        · cases h
      · split at h
        · cases h; rfl
        · cases h
  | _ => intro o s v c2 h hv; exact leaf _ h hv
/-- cells from o on, laid over -/
def lay (g : Nat → Option Value) (o n : Nat) (x : Nat → Option Value) : Nat → Option Value := fun j => if o ≤ j ∧ j < o + n then x (j - o) else g j
theorem setFld_rep : ∀ (c : V) {o s : Nat} {v c2 c1 : V} {ρ : Rho} {q : List Nat} {pos : Nat} {g x : Nat → Option Value}, c.fld o s = some c1 → c.setFld o s v = some c2 → v.size = s → CRep I w ow c ρ q pos g →
    CRep I w ow v ρ q (pos + o) x → CRep I w ow c2 ρ q pos (lay g o s x) := by
  intro c
  have leaf : ∀ (c : V) {o s : Nat} {v c2 : V} {ρ : Rho} {q : List Nat} {pos : Nat} {g x : Nat → Option Value}, (if o = 0 ∧ c.size = s then some v else none) = some c2 → v.size = s →
      CRep I w ow v ρ q (pos + o) x → CRep I w ow c2 ρ q pos (lay g o s x) := by
    intro c o s v c2 ρ q pos g x h hv hx
    split at h
    · rename_i hh
      obtain ⟨rfl, rfl⟩ := hh
      cases h
      refine CRep.mono (fun b hb => ⟨hb, rfl⟩) _ _ _ _ _ _ _ (Rho.le_refl _) (fun _ _ _ _ h => ⟨h, rfl⟩) (fun j hj => ?_) (by simpa using hx)
      simp only [lay, Nat.zero_le, true_and, Nat.zero_add, Nat.sub_zero]
      rw [if_pos (by omega)]
    · cases h
  induction c with
  | cat n m a b iha ihb =>
    intro o s v c2 c1 ρ q pos g x hf h hv hr hx
    simp only [V.setFld] at h
    simp only [V.fld] at hf
    split at h
    · rename_i hh
      obtain ⟨rfl, rfl⟩ := hh
      cases h
      refine CRep.mono (fun b hb => ⟨hb, rfl⟩) _ _ _ _ _ _ _ (Rho.le_refl _) (fun _ _ _ _ h => ⟨h, rfl⟩) (fun j hj => ?_) (by simpa using hx)
      simp only [lay, Nat.zero_le, true_and, Nat.zero_add, Nat.sub_zero]
      rw [if_pos (by omega)]
    · rename_i hne
      rw [if_neg hne] at hf
      split at h
      · rename_i hlt
        rw [if_pos hlt] at hf
        split at h
        · rename_i a' ha
          cases h
          obtain ⟨h1, h2, h3, h4⟩ := hr
          have hfit : o + s ≤ a.size := (fld_rep a hf h3).2.2
          refine ⟨by rw [setFld_size a ha hv]; exact h1, h2, iha hf ha hv h3 hx, ?_⟩
          refine CRep.mono (fun b hb => ⟨hb, rfl⟩) _ _ _ _ _ _ _ (Rho.le_refl _) (fun _ _ _ _ h => ⟨h, rfl⟩) (fun j hj => ?_) h4
          simp only [lay]
          rw [if_neg (by omega)]
        · cases h
      · rename_i hlt
        rw [if_neg hlt] at hf
        split at h
        · rename_i b' hb
          cases h
          obtain ⟨h1, h2, h3, h4⟩ := hr
          refine ⟨h1, by rw [setFld_size b hb hv]; exact h2, ?_, ?_⟩
          · refine CRep.mono (fun b hb => ⟨hb, rfl⟩) _ _ _ _ _ _ _ (Rho.le_refl _) (fun _ _ _ _ h => ⟨h, rfl⟩) (fun j hj => ?_) h3
            simp only [lay]
            rw [if_neg (by omega)]
          · have e : pos + n + (o - n) = pos + o := by omega
            have := ihb (x := x) hf hb hv h4 (by rw [e]; exact hx)
            refine CRep.mono (fun b hb => ⟨hb, rfl⟩) _ _ _ _ _ _ _ (Rho.le_refl _) (fun _ _ _ _ h => ⟨h, rfl⟩) (fun j hj => ?_) this
            simp only [lay]
            by_cases hj' : o ≤ n + j ∧ n + j < o + s
            · rw [if_pos hj', if_pos (by omega)]; congr 1; omega
            · rw [if_neg hj', if_neg (by omega)]
        · cases h
  | _ => intro o s v c2 c1 ρ q pos g x _ h hv hr hx; exact leaf _ h hv hx
theorem put_rep : ∀ (p : List Pt) (c : V) {v c2 : V} {ρ : Rho} {q : List Nat} {pos : Nat} {g x : Nat → Option Value}, (c.put apf p v).to c2 → CRep I w ow c ρ q pos g →
    CRep I w ow v ρ q (pos + poff p) x → (∀ k n, v = .int k n ∨ v = .lit k n → x 0 = some (.int k n) ∧ inR k n) →
    CRep I w ow c2 ρ q pos (lay g (poff p) v.size x) ∧ c2.size = c.size ∧ poff p + v.size ≤ c.size := by
  intro p
  induction p with
  | nil =>
    intro c v c2 ρ q pos g x h hr hx _
    obtain ⟨h1, h2⟩ := rif_to h
    cases h2
    have hs : c.size = v.size := by simpa using h1
    refine ⟨?_, hs.symm, by simp [poff, hs]⟩
    refine CRep.mono (fun b hb => ⟨hb, rfl⟩) _ _ _ _ _ _ _ (Rho.le_refl _) (fun _ _ _ _ h => ⟨h, rfl⟩) (fun j hj => ?_) (by simpa [poff] using hx)
    simp only [lay, poff, Nat.zero_le, true_and, Nat.zero_add, Nat.sub_zero]
    rw [if_pos hj]
  | cons y p ih =>
    intro c v c2 ρ q pos g x h hr hx hi
    cases y with
    | f o s =>
      simp only [V.put] at h
      split at h
      · rename_i c1 h1
        obtain ⟨c3, h2, h3⟩ := bind_to h
        obtain ⟨h4, h5, h6⟩ := fld_rep c h1 hr
        obtain ⟨h7, h8, h9⟩ := ih c1 (x := x) h2 h4 (by simpa [poff, Nat.add_assoc] using hx) hi
        split at h3
        · rename_i r hs
          cases h3
          have h10 := setFld_rep c h1 hs (by omega) hr h7
          refine ⟨?_, setFld_size c hs (by omega), by simp only [poff]; omega⟩
          refine CRep.mono (fun b hb => ⟨hb, rfl⟩) _ _ _ _ _ _ _ (Rho.le_refl _) (fun _ _ _ _ h => ⟨h, rfl⟩) (fun j hj => ?_) h10
          show lay g (o + poff p) v.size x j = lay g o s (lay (fun j => g (o + j)) (poff p) v.size x) j
          simp only [lay]
          by_cases hj' : o ≤ j ∧ j < o + s
          · rw [if_pos hj']
            by_cases hk : poff p ≤ j - o ∧ j - o < poff p + v.size
            · have hk2 : o + poff p ≤ j ∧ j < o + poff p + v.size := by omega
              rw [if_pos hk, if_pos hk2]; congr 1; omega
            · have hk2 : ¬ (o + poff p ≤ j ∧ j < o + poff p + v.size) := by omega
              rw [if_neg hk, if_neg hk2]; congr 1; omega
          · have hk2 : ¬ (o + poff p ≤ j ∧ j < o + poff p + v.size) := by omega
            rw [if_neg hj', if_neg hk2]
        · exact h3.elim
      · exact h.elim
    | x i e =>
      simp only [V.put] at h
      split at h
      · rename_i k n l
        have key : ∀ (k' : IntKind) (y : Int), p = [] → (v = .int k' y ∨ v = .lit k' y) → (rif (e == 1 && k == k') 7 (.chk (ltN i n) (.ok (V.ints k n (setI l i y))))).to c2 →
            CRep I w ow c2 ρ q pos (lay g (poff (.x i e :: p)) v.size x) ∧ c2.size = (V.ints k n l).size ∧ poff (.x i e :: p) + v.size ≤ (V.ints k n l).size := by
          intro k' y hp hv hh
          obtain ⟨h1, h2, h3⟩ := rif_to hh
          cases h3
          simp only [Bool.and_eq_true, beq_iff_eq] at h1
          obtain ⟨rfl, rfl⟩ := h1
          subst hp
          have hin : i < n := h2
          obtain ⟨hx0, hxr⟩ := hi _ _ hv
          have hvs : v.size = 1 := by rcases hv with rfl | rfl <;> rfl
          obtain ⟨hl, hall, hcell⟩ := hr
          refine ⟨⟨by simp [setI, hl], ?_, ?_⟩, rfl, by simp only [poff, V.size]; omega⟩
          · intro z hz
            rcases List.mem_or_eq_of_mem_set hz with hz | rfl
            · exact hall z hz
            · exact hxr
          · intro j hj
            simp only [lay, poff, hvs, nthI, setI]
            by_cases hji : j = i
            · subst hji
              rw [if_pos (by omega)]
              simp only [Nat.mul_one, Nat.add_zero, Nat.sub_self, hx0]
              rw [List.getD_eq_getElem?_getD, List.getElem?_set_self (by omega)]
              rfl
            · rw [if_neg (by omega), hcell j hj]
              simp only [nthI, List.getD_eq_getElem?_getD]
              rw [List.getElem?_set_ne (by omega)]
        split at h
        · exact key _ _ rfl (.inl rfl) h
        · exact key _ _ rfl (.inr rfl) h
        · exact h.elim
      · rename_i e' n f
        obtain ⟨h1, h2, h3⟩ := rif_to h
        obtain ⟨u, h4, h5⟩ := bind_to h3
        cases h5
        simp only [Bool.and_eq_true, beq_iff_eq] at h1
        obtain ⟨⟨rfl, hclo⟩, hno⟩ := h1
        have hin : i < n := h2
        obtain ⟨h6, h7⟩ := hr i hin
        have hx' : CRep I w ow v noR [] (0 + poff p) x := by
          exact CRep.noq v _ _ _ _ _ _ hno (CRep.closed v _ noR _ _ _ hclo hx)
        obtain ⟨h8, h9, h10⟩ := ih (f i) h4 h7 hx' hi
        have hlt : i * e + e ≤ n * e := by
          have := Nat.mul_le_mul_right e (show i + 1 ≤ n from hin)
          rw [Nat.add_mul] at this
          omega
        refine ⟨?_, rfl, by simp only [poff, V.size]; omega⟩
        intro j hj
        simp only [apf, updR]
        by_cases hji : j = i
        · subst hji
          rw [if_pos rfl]
          refine ⟨by omega, ?_⟩
          refine CRep.mono (fun b hb => ⟨hb, rfl⟩) _ _ _ _ _ _ _ (Rho.le_refl _) (fun _ _ _ _ h => ⟨h, rfl⟩) (fun r hr => ?_) h8
          show lay g (j * e + poff p) v.size x (j * e + r) = lay (fun r => g (j * e + r)) (poff p) v.size x r
          simp only [lay]
          by_cases hk : poff p ≤ r ∧ r < poff p + v.size
          · have hk2 : j * e + poff p ≤ j * e + r ∧ j * e + r < j * e + poff p + v.size := by omega
            rw [if_pos hk, if_pos hk2]; congr 1; omega
          · have hk2 : ¬ (j * e + poff p ≤ j * e + r ∧ j * e + r < j * e + poff p + v.size) := by omega
            rw [if_neg hk, if_neg hk2]
        · rw [if_neg hji]
          obtain ⟨h11, h12⟩ := hr j hj
          refine ⟨h11, ?_⟩
          refine CRep.mono (fun b hb => ⟨hb, rfl⟩) _ _ _ _ _ _ _ (Rho.le_refl _) (fun _ _ _ _ h => ⟨h, rfl⟩) (fun r hr => ?_) h12
          show lay g (i * e + poff p) v.size x (j * e + r) = _
          simp only [lay]
          rw [if_neg]
          rw [h11] at hr
          rcases Nat.lt_or_gt_of_ne hji with hlt' | hgt
          · have := Nat.mul_le_mul_right e (show j + 1 ≤ i from hlt')
            rw [Nat.add_mul] at this
            omega
          · have := Nat.mul_le_mul_right e (show i + 1 ≤ j from hgt)
            rw [Nat.add_mul] at this
            omega
      · exact h.elim
    | r i e n => exact (by simp [V.put, R.to] at h)
end
end Go.Cx
/- CxSt -/
namespace Go.Cx
open Go
def isAggV : Value → Bool
  | .agg _ => true
  | _ => false
section
variable (I : Nat → Prop) (w : World) (ρ : Rho)
/-- one value (no tuple) -/
def VRep0 (v : V) (x : Value) : Prop := v = .any ∨ (x.cells.size = v.size ∧ isAggV x = v.isAgg ∧ CRep I w (fun _ => none) v ρ [] 0 (x.cells[·]?))
def TRep : V → List Value → Prop
  | .tnil, l => l = []
  | .tcons a b, l => ∃ y r, l = y :: r ∧ VRep0 I w ρ a y ∧ TRep b r
  | _, _ => False
def VRep (v : V) (x : Value) : Prop := match v with
  | .tnil => x = .tuple #[]
  | .tcons a b => ∃ l, x = .tuple l.toArray ∧ TRep I w ρ (.tcons a b) l
  | v => VRep0 I w ρ v x
end
/-- a value's content hangs on no owner -/
theorem CRep.noow {I : Nat → Prop} {w : World} {ow ow' : Own} {c : V} {ρ : Rho} {pos : Nat} {g : Nat → Option Value} (h : CRep I w ow c ρ [] pos g) : CRep I w ow' c ρ [] pos g :=
  CRep.mono (fun _ hb => ⟨hb, rfl⟩) c _ _ _ _ _ _ (Rho.le_refl _) (fun h => absurd rfl h) (fun _ _ => rfl) h
theorem VRep0.mono {I I' : Nat → Prop} {w w' : World} {ρ ρ' : Rho} (hI : ∀ b, I b → I' b ∧ w'.heap[b]? = w.heap[b]?) (hρ : Rho.le ρ ρ') {v : V} {x : Value} (h : VRep0 I w ρ v x) : VRep0 I' w' ρ' v x :=
  h.imp id fun ⟨h1, h2, h3⟩ => ⟨h1, h2, CRep.mono hI v _ _ _ _ _ _ hρ (fun h => absurd rfl h) (fun _ _ => rfl) h3⟩
theorem TRep.mono {I I' : Nat → Prop} {w w' : World} {ρ ρ' : Rho} (hI : ∀ b, I b → I' b ∧ w'.heap[b]? = w.heap[b]?) (hρ : Rho.le ρ ρ') : ∀ {v : V} {l : List Value}, TRep I w ρ v l → TRep I' w' ρ' v l := by
  intro v
  induction v with
  | tnil => intro l h; exact h
  | tcons a b _ ihb => intro l h; obtain ⟨y, r, h1, h2, h3⟩ := h; exact ⟨y, r, h1, h2.mono hI hρ, ihb h3⟩
  | _ => intro l h; exact h.elim
theorem VRep.mono {I I' : Nat → Prop} {w w' : World} {ρ ρ' : Rho} (hI : ∀ b, I b → I' b ∧ w'.heap[b]? = w.heap[b]?) (hρ : Rho.le ρ ρ') {v : V} {x : Value} (h : VRep I w ρ v x) : VRep I' w' ρ' v x := by
  cases v with
  | tnil => exact h
  | tcons a b => obtain ⟨l, h1, h2⟩ := h; exact ⟨l, h1, h2.mono hI hρ⟩
  | _ => exact VRep0.mono hI hρ h
theorem VRep.any (I : Nat → Prop) (w : World) (ρ : Rho) (x : Value) : VRep I w ρ .any x := .inl rfl
theorem VRep0.up {I : Nat → Prop} {w : World} {ρ : Rho} {v : V} {x : Value} (h : VRep0 I w ρ v x) : VRep I w ρ v x := by
  cases v with
  | tnil => rcases h with h | ⟨_, _, h⟩; cases h; exact h.elim
  | tcons a b => rcases h with h | ⟨_, _, h⟩; cases h; exact h.elim
  | _ => exact h
/-- a leaf, told by one cell -/
theorem VRep0.ofLeaf {I : Nat → Prop} {w : World} {ρ : Rho} {v : V} {x : Value} (hs : v.size = 1) (ha : v.isAgg = false) (hx : isAggV x = false) (h : CRep I w (fun _ => none) v ρ [] 0 (fun _ => some x)) : VRep0 I w ρ v x := by
  have hc : x.cells = #[x] := by cases x <;> first | rfl | simp [isAggV] at hx
  refine .inr ⟨by rw [hc, hs]; rfl, by rw [ha, hx], ?_⟩
  rw [hc]
  exact CRep.mono (fun _ hb => ⟨hb, rfl⟩) v _ _ _ _ _ _ (Rho.le_refl _) (fun h => absurd rfl h) (fun j hj => by obtain rfl : j = 0 := (by omega); rfl) h
theorem VRep0.leaf {I : Nat → Prop} {w : World} {ρ : Rho} {v : V} {x : Value} (h : VRep0 I w ρ v x) (hne : v ≠ .any) (ha : v.isAgg = false) : isAggV x = false ∧ x.cells = #[x] ∧ CRep I w (fun _ => none) v ρ [] 0 (fun j => #[x][j]?) := by
  rcases h with h | ⟨h1, h2, h3⟩
  · exact absurd h hne
  · rw [ha] at h2
    have hc : x.cells = #[x] := by cases x <;> first | rfl | simp [isAggV] at h2
    rw [hc] at h3
    exact ⟨h2, hc, h3⟩
structure Fix where
  F : Nat → Prop
  I0 : Nat → Prop
  w0 : World
  N : Nat
  r0 : Rho
section
variable (I : Nat → Prop) (w : World) (ρ : Rho) (ow : Own)
def BRep (h : Nat) (l : Lo) (b : Blk) : Prop := match b.k with
  | .own => (l = .ph ∧ b.c.size = 0 ∧ CRep I w ow b.c ρ [] 0 (fun _ => none)) ∨
      ∃ k off sz cur, l = .at k off sz ∧ ow k = some [h] ∧ OwnBlk w k cur ∧ cur.size = off + sz ∧ CRep I w ow b.c ρ [h] 0 (fun j => cur[off + j]?)
  | .bor => (l = .ph ∧ b.c.size = 0 ∧ CRep I w ow b.c ρ [] 0 (fun _ => none)) ∨
      ∃ k off sz, l = .at k off sz ∧ k < w.heap.size ∧ ow k = none ∧ b.c.size ≤ sz ∧ CRep I w ow b.c ρ [] 0 (cellsAt w k off)
  | .imm => (l = .ph ∧ b.c.size = 0 ∧ CRep I w ow b.c noR [] 0 (fun _ => none)) ∨
      ∃ k off sz, l = .at k off sz ∧ I k ∧ b.c.size ≤ sz ∧ CRep I w ow b.c noR [] 0 (cellsAt w k off)
  | .dead => True
end
structure Rep (X : Fix) (I : Nat → Prop) (ρ : Rho) (ow : Own) (s : St) (tm : Array Value) (w : World) : Prop where
  frame : ∀ b, b < X.w0.heap.size → ¬ X.F b → w.heap[b]? = X.w0.heap[b]?
  size : X.w0.heap.size ≤ w.heap.size
  os : w.os = X.w0.os
  tape : w.tape = X.w0.tape
  output : w.output = X.w0.output
  iold : ∀ b, X.I0 b → I b
  inew : ∀ b, I b → X.I0 b ∨ X.F b ∨ X.w0.heap.size ≤ b
  ilt : ∀ b, I b → b < w.heap.size
  iow : ∀ b, I b → ow b = none
  owf : ∀ b q, ow b = some q → b < w.heap.size ∧ (X.F b ∨ X.w0.heap.size ≤ b) ∧ ∃ h r c, q = h :: r ∧ s.h h = some ⟨.own, c⟩
  dom : ∀ h l, ρ h = some l → h < 100000 → s.h h ≠ none
  glob : ∀ n, ∃ sz, ρ (globH n) = some (.at n 0 sz)
  tsz : tm.size = X.N
  nle : X.N ≤ 100000
  rle : Rho.le X.r0 ρ
  tmps : ∀ i, VRep I w ρ (s.t i) (tm.getD i undef)
  heap : ∀ h blk, s.h h = some blk → ∃ l, ρ h = some l ∧ BRep I w ρ ow h l blk
def RepE (X : Fix) (s : St) (tm : Array Value) (w : World) : Prop := ∃ I ρ ow, Rep X I ρ ow s tm w
theorem upd_same {α : Type} (f : Nat → α) (i : Nat) (v : α) : upd f i v i = v := by simp [upd]
theorem upd_ne {α : Type} (f : Nat → α) {i j : Nat} (v : α) (h : j ≠ i) : upd f i v j = f j := by simp [upd, h]
theorem getD_set {tm : Array Value} {d i : Nat} {x : Value} (hd : d < tm.size) : (tm.setIfInBounds d x).getD i undef = if i = d then x else tm.getD i undef := by
  by_cases h : i = d
  · subst h
    simp [Array.getD_eq_getD_getElem?, hd]
  · rw [if_neg h]
    simp [Array.getD_eq_getD_getElem?, Array.getElem?_setIfInBounds_ne (Ne.symm h)]
section
variable {X : Fix} {I : Nat → Prop} {ρ : Rho} {ow : Own} {s : St} {tm : Array Value} {w : World}
/-- a slot is written -/
theorem Rep.setT (h : Rep X I ρ ow s tm w) {d : Nat} (hd : d < X.N) {v : V} {x : Value} (hv : VRep I w ρ v x) : Rep X I ρ ow ⟨upd s.t d v, s.h⟩ (tm.setIfInBounds d x) w :=
  { h with
    tsz := by simp [h.tsz]
    tmps := fun i => by
      rw [getD_set (by rw [h.tsz]; exact hd)]
      by_cases e : i = d
      · subst e; simp only [upd_same, if_true]; exact hv
      · simp only [upd_ne _ _ e, if_neg e]; exact h.tmps i }
/-- a slot is known better, or worse -/
theorem Rep.know (h : Rep X I ρ ow s tm w) {g : Nat} {v : V} (hv : VRep I w ρ v (tm.getD g undef)) : Rep X I ρ ow ⟨upd s.t g v, s.h⟩ tm w :=
  { h with
    tmps := fun i => by
      by_cases e : i = g
      · subst e; simp only [upd_same]; exact hv
      · simp only [upd_ne _ _ e]; exact h.tmps i }
theorem Rep.keep (h : Rep X I ρ ow s tm w) (l : List Nat) : Rep X I ρ ow ⟨keepT s.t l, s.h⟩ tm w :=
  { h with
    tmps := fun i => by
      induction l with
      | nil => exact .inl rfl
      | cons k r ih =>
        simp only [keepT]
        by_cases e : i = k
        · subst e; simp only [upd_same]; exact h.tmps i
        · simp only [upd_ne _ _ e]; exact ih }
/-- only one block has turned, if any -/
structure Only (w w' : World) (b : Option Nat) : Prop where
  os : w'.os = w.os
  tape : w'.tape = w.tape
  output : w'.output = w.output
  size : w.heap.size ≤ w'.heap.size
  block : ∀ k, k < w.heap.size → some k ≠ b → w'.heap[k]? = w.heap[k]?
theorem Only.refl (w : World) (b : Option Nat) : Only w w b := ⟨rfl, rfl, rfl, Nat.le_refl _, fun _ _ _ => rfl⟩
theorem Only.drew (w : World) (b : Option Nat) : Only w w.drew b := ⟨rfl, rfl, rfl, Nat.le_refl _, fun _ _ _ => rfl⟩
theorem Only.trans {w w1 w2 : World} {b : Option Nat} (h : Only w w1 b) (k : Only w1 w2 b) : Only w w2 b :=
  ⟨k.os.trans h.os, k.tape.trans h.tape, k.output.trans h.output, Nat.le_trans h.size k.size, fun i hi hb => (k.block i (Nat.lt_of_lt_of_le hi h.size) hb).trans (h.block i hi hb)⟩
theorem Only.alloc (w : World) (o : Obj) (b : Option Nat) : Only w (w.alloc o) b := ⟨rfl, rfl, rfl, by simp, fun k hk _ => heap_alloc_old w o k hk⟩
theorem heap_lt {w : World} {b : Nat} {o : Obj} (h : w.heap[b]? = some o) : b < w.heap.size := (Array.getElem?_eq_some_iff.1 h).1
theorem OwnBlk.lt {b : Nat} {cur : Array Value} (h : OwnBlk w b cur) : b < w.heap.size := by
  obtain ⟨_, _, h, _⟩ := h
  exact heap_lt h
/-- The frame of a state that goes on: all that does not hang on the written block stays. -/
theorem BRep.keep (hr : Rep X I ρ ow s tm w) {w' : World} {ow' : Own} {ρ' : Rho} {b : Option Nat} (ho : Only w w' b) (hb : ∀ k, b = some k → ∃ q, ow k = some q) {I' : Nat → Prop} (hI : ∀ k, I k → I' k)
    (hρ : Rho.le ρ ρ') {hd : Nat} {l : Lo} {blk : Blk} (hB : BRep I w ρ ow hd l blk)
    (hown : ∀ k r, ow k = some (hd :: r) → some k ≠ b ∧ ow' k = some (hd :: r)) (hnone : ∀ k, k < w.heap.size → ow k = none → ow' k = none) : BRep I' w' ρ' ow' hd l blk := by
  have hI' : ∀ k, I k → I' k ∧ w'.heap[k]? = w.heap[k]? := fun k hk => ⟨hI k hk, ho.block k (hr.ilt k hk) (fun e => by
    obtain ⟨q, hq⟩ := hb k e.symm
    rw [hr.iow k hk] at hq; cases hq)⟩
  have same : ∀ k, k < w.heap.size → ow k = none → w'.heap[k]? = w.heap[k]? := fun k hk hn => ho.block k hk (fun e => by
    obtain ⟨q, hq⟩ := hb k e.symm
    rw [hn] at hq; cases hq)
  unfold BRep at *
  split at hB
  · rcases hB with ⟨h1, h2, h3⟩ | ⟨k, off, sz, cur, h1, h2, h3, h4, h5⟩
    · exact .inl ⟨h1, h2, CRep.mono hI' _ _ _ _ _ _ _ hρ (fun h => absurd rfl h) (fun _ _ => rfl) h3⟩
    · have hk := hown k [] h2
      refine .inr ⟨k, off, sz, cur, h1, hk.2, h3.same (ho.block k h3.lt hk.1), h4, CRep.mono hI' _ _ _ _ _ _ _ hρ (fun _ b' r _ hb' => ?_) (fun _ _ => rfl) h5⟩
      have := hown b' r hb'
      exact ⟨this.2, ho.block b' (hr.owf _ _ hb').1 this.1⟩
  · rcases hB with ⟨h1, h2, h3⟩ | ⟨k, off, sz, h1, h2, h3, hz, h4⟩
    · exact .inl ⟨h1, h2, CRep.mono hI' _ _ _ _ _ _ _ hρ (fun h => absurd rfl h) (fun _ _ => rfl) h3⟩
    · refine .inr ⟨k, off, sz, h1, Nat.lt_of_lt_of_le h2 ho.size, hnone k h2 h3, hz, ?_⟩
      rw [cellsAt_same (same k h2 h3)]
      exact CRep.mono hI' _ _ _ _ _ _ _ hρ (fun h => absurd rfl h) (fun _ _ => rfl) h4
  · rcases hB with ⟨h1, h2, h3⟩ | ⟨k, off, sz, h1, h2, hz, h4⟩
    · exact .inl ⟨h1, h2, CRep.mono hI' _ _ _ _ _ _ _ (Rho.le_refl _) (fun h => absurd rfl h) (fun _ _ => rfl) h3⟩
    · refine .inr ⟨k, off, sz, h1, hI k h2, hz, ?_⟩
      rw [cellsAt_same (hI' k h2).2]
      exact CRep.mono hI' _ _ _ _ _ _ _ (Rho.le_refl _) (fun h => absurd rfl h) (fun _ _ => rfl) h4
  · trivial
/-- the world has been drawn from, or has grown by blocks of nobody's: nothing of ours has turned -/
theorem Rep.grow (h : Rep X I ρ ow s tm w) {w' : World} (ho : Only w w' none) : Rep X I ρ ow s tm w' :=
  { frame := fun b hb hF => (ho.block b (Nat.lt_of_lt_of_le hb h.size) (by simp)).trans (h.frame b hb hF)
    size := Nat.le_trans h.size ho.size
    os := ho.os.trans h.os
    tape := ho.tape.trans h.tape
    output := ho.output.trans h.output
    iold := h.iold
    inew := h.inew
    ilt := fun b hb => Nat.lt_of_lt_of_le (h.ilt b hb) ho.size
    iow := h.iow
    owf := fun b q hb => ⟨Nat.lt_of_lt_of_le (h.owf b q hb).1 ho.size, (h.owf b q hb).2⟩
    dom := h.dom
    glob := h.glob
    tsz := h.tsz
    nle := h.nle
    rle := h.rle
    tmps := fun i => (h.tmps i).mono (fun b hb => ⟨hb, ho.block b (h.ilt b hb) (by simp)⟩) (Rho.le_refl _)
    heap := fun hd blk hh => by
      obtain ⟨l, h1, h2⟩ := h.heap hd blk hh
      exact ⟨l, h1, BRep.keep h ho (fun k e => by cases e) (fun _ h => h) (Rho.le_refl _) h2 (fun k r hk => ⟨by simp, hk⟩) (fun _ _ h => h)⟩ }
/-- A block of our own is made, under a new handle. -/
theorem Rep.new (h : Rep X I ρ ow s tm w) {d : Nat} (hd : s.h d = none) (hlt : d < 100000) {w1 : World} (ho : Only w w1 none) {cs : Array Value} {ty : TypeId} {fr : Nat × Nat} (hfr : fr.1 = fr.2 ∨ cs.size ≤ fr.1) {c : V} (hno : c.noown = true)
    (hc : CRep I w ow c ρ [] 0 (fun j => cs[j]?)) :
    ∃ ρ' ow', Rho.le ρ ρ' ∧ ρ' d = some (.at w1.heap.size 0 cs.size) ∧ Rep X I ρ' ow' ⟨s.t, upd s.h d (some ⟨.own, c⟩)⟩ tm (w1.alloc (.cells cs ty fr)) := by
  have hr := h.grow ho
  have hnd : ρ d = none := by
    cases hρ : ρ d with
    | none => rfl
    | some l => exact absurd hd (h.dom d l hρ hlt)
  let ρ' : Rho := fun k => if k = d then some (.at w1.heap.size 0 cs.size) else ρ k
  let ow' : Own := fun b => if b = w1.heap.size then some [d] else ow b
  have hle : Rho.le ρ ρ' := fun k l hk => by
    have : k ≠ d := fun e => by rw [e, hnd] at hk; cases hk
    simp only [ρ', if_neg this, hk]
  have hoa : Only w1 (w1.alloc (.cells cs ty fr)) none := Only.alloc _ _ _
  have hown : ∀ k q, ow k = some q → ow' k = some q := fun k q hk => by
    have := (hr.owf k q hk).1
    simp only [ow', if_neg (show k ≠ w1.heap.size by omega), hk]
  have hnone : ∀ k, k < w1.heap.size → ow k = none → ow' k = none := fun k hk hn => by
    simp only [ow', if_neg (show k ≠ w1.heap.size by omega), hn]
  have hII : ∀ b, I b → I b ∧ (w1.alloc (.cells cs ty fr)).heap[b]? = w1.heap[b]? := fun b hb => ⟨hb, heap_alloc_old _ _ _ (hr.ilt b hb)⟩
  refine ⟨ρ', ow', hle, by simp [ρ'], ?_⟩
  exact
    { frame := fun b hb hF => (heap_alloc_old _ _ _ (Nat.lt_of_lt_of_le hb hr.size)).trans (hr.frame b hb hF)
      size := Nat.le_trans hr.size hoa.size
      os := hr.os
      tape := hr.tape
      output := hr.output
      iold := hr.iold
      inew := hr.inew
      ilt := fun b hb => Nat.lt_of_lt_of_le (hr.ilt b hb) hoa.size
      iow := fun b hb => hnone b (hr.ilt b hb) (hr.iow b hb)
      owf := fun b q hb => by
        simp only [ow'] at hb
        split at hb
        · rename_i e
          cases hb
          subst e
          exact ⟨by simp, .inr hr.size, d, [], c, rfl, by simp [upd]⟩
        · obtain ⟨h1, h2, hh, r, c', h3, h4⟩ := hr.owf b q hb
          refine ⟨Nat.lt_of_lt_of_le h1 hoa.size, h2, hh, r, c', h3, ?_⟩
          have : hh ≠ d := fun e => by rw [e, hd] at h4; cases h4
          simp only [upd_ne _ _ this, h4]
      dom := fun k l hk hk2 => by
        by_cases e : k = d
        · subst e; simp [upd]
        · simp only [ρ', if_neg e] at hk
          simp only [upd_ne _ _ e]
          exact hr.dom k l hk hk2
      glob := fun n => by
        obtain ⟨sz, hg⟩ := hr.glob n
        exact ⟨sz, hle _ _ hg⟩
      tsz := hr.tsz
      nle := hr.nle
      rle := fun k l hk => hle _ _ (hr.rle k l hk)
      tmps := fun i => (hr.tmps i).mono hII hle
      heap := fun hd' blk hh => by
        by_cases e : hd' = d
        · subst e
          simp only [upd_same, Option.some.injEq] at hh
          subst hh
          refine ⟨.at w1.heap.size 0 cs.size, by simp [ρ'], .inr ⟨w1.heap.size, 0, cs.size, cs, rfl, by simp [ow'], ⟨ty, fr, heap_alloc_new _ _, hfr⟩, by simp, ?_⟩⟩
          have h0 : CRep I (w1.alloc (.cells cs ty fr)) ow' c ρ' [] 0 (fun j => cs[j]?) :=
            CRep.mono (fun b hb => ⟨hb, (hII b hb).2.trans (ho.block b (h.ilt b hb) (by simp))⟩) _ _ _ _ _ _ _ hle (fun h => absurd rfl h) (fun _ _ => rfl) hc
          simpa using CRep.noq c _ _ [hd'] _ 0 _ hno h0
        · simp only [upd_ne _ _ e] at hh
          obtain ⟨l, h1, h2⟩ := hr.heap hd' blk hh
          exact ⟨l, hle _ _ h1, BRep.keep hr hoa (fun k e => by cases e) (fun _ h => h) hle h2 (fun k r hk => ⟨by simp, hown _ _ hk⟩) hnone⟩ }
/-- A block of our own is written. -/
theorem Rep.write (h : Rep X I ρ ow s tm w) {hd k off sz : Nat} {c c' : V} {cur cur' : Array Value} (hh : s.h hd = some ⟨.own, c⟩) (hl : ρ hd = some (.at k off sz)) (hk : ow k = some [hd]) {w' : World} (ho : Only w w' (some k))
    (hz : w'.heap.size = w.heap.size) (hb : OwnBlk w' k cur') (hsz : cur'.size = off + sz) (hc : CRep I w ow c' ρ [hd] 0 (fun j => cur'[off + j]?)) (_ : cur.size = cur.size) :
    Rep X I ρ ow ⟨s.t, upd s.h hd (some ⟨.own, c'⟩)⟩ tm w' := by
  have hII : ∀ b, I b → I b ∧ w'.heap[b]? = w.heap[b]? := fun b hb => ⟨hb, ho.block b (h.ilt b hb) (fun e => by cases e; rw [h.iow _ hb] at hk; cases hk)⟩
  have hkf := h.owf k _ hk
  exact
    { frame := fun b hb hF => by
        by_cases e : b = k
        · subst e
          rcases hkf.2.1 with h1 | h1
          · exact absurd h1 hF
          · omega
        · exact (ho.block b (Nat.lt_of_lt_of_le hb h.size) (by simpa using e)).trans (h.frame b hb hF)
      size := by rw [hz]; exact h.size
      os := ho.os.trans h.os
      tape := ho.tape.trans h.tape
      output := ho.output.trans h.output
      iold := h.iold
      inew := h.inew
      ilt := fun b hb => by rw [hz]; exact h.ilt b hb
      iow := h.iow
      owf := fun b q hb => by
        obtain ⟨h1, h2, hh', r, c0, h3, h4⟩ := h.owf b q hb
        refine ⟨by omega, h2, hh', r, ?_⟩
        by_cases e : hh' = hd
        · subst e; exact ⟨c', h3, by simp [upd]⟩
        · exact ⟨c0, h3, by simp only [upd_ne _ _ e, h4]⟩
      dom := fun i l hi hi2 => by
        by_cases e : i = hd
        · subst e; simp [upd]
        · simp only [upd_ne _ _ e]; exact h.dom i l hi hi2
      glob := h.glob
      tsz := h.tsz
      nle := h.nle
      rle := h.rle
      tmps := fun i => (h.tmps i).mono hII (Rho.le_refl _)
      heap := fun hd' blk hh' => by
        by_cases e : hd' = hd
        · subst e
          simp only [upd_same, Option.some.injEq] at hh'
          subst hh'
          refine ⟨_, hl, .inr ⟨k, off, sz, cur', rfl, hk, hb, hsz, ?_⟩⟩
          refine CRep.mono hII _ _ _ _ _ _ _ (Rho.le_refl _) (fun _ b' r hr hb' => ⟨hb', ho.block b' (h.owf _ _ hb').1 (fun e => ?_)⟩) (fun _ _ => rfl) hc
          cases e
          rw [hk] at hb'
          simp at hb'
          exact hr hb'
        · simp only [upd_ne _ _ e] at hh'
          obtain ⟨l, h1, h2⟩ := h.heap hd' blk hh'
          refine ⟨l, h1, BRep.keep h ho (fun k' e => by cases e; exact ⟨_, hk⟩) (fun _ h => h) (Rho.le_refl _) h2 (fun k' r hk' => ⟨fun e2 => ?_, hk'⟩) (fun _ _ h => h)⟩
          cases e2
          rw [hk] at hk'
          simp at hk'
          exact e hk'.1.symm }
end
end Go.Cx
/- CxC -/
namespace Go.Cx
open Go
def bytesI (s : ByteArray) : List Int := s.data.toList.map fun b => (b.toNat : Int)
def constV : Value → Option V
  | .bool b => some (boolV b)
  | .int k n => if k.min ≤ n ∧ n ≤ k.max then some (.lit k n) else none
  | .string s => if s.size ≤ 4294967296 then some (.str (bytesI s)) else none
  | .pointer none => some .nilp
  | .slice none 0 0 => some .nsl
  | _ => none
def opIX : Operand → Option IX
  | .tmp t => some (.t t)
  | .const v => (constV v).map .c
  | .global g => some (.g g)
  | .func _ => none
section
variable (P : Program) (pure : Nat → Bool)
def sz (t : TypeId) : Nat := ((P.info? t).map (·.size)).getD 0
def byt (t : TypeId) : Nat := ((P.info? t).map (·.bytes)).getD 0
def aggT (t : TypeId) : Bool := match P.underlying t with | some (.struct _) | some (.array ..) => true | _ => false
/-- fields as a row that leans to the right -/
def catF : List (Nat × ZT) → Option ZT
  | [] => none
  | [a] => some a.2
  | a :: r => match catF r with
    | some b => some (.cat a.1 ((r.map (·.1)).sum) a.2 b)
    | none => none
def optL {α : Type} : List (Option α) → Option (List α)
  | [] => some []
  | none :: _ => none
  | some a :: r => match optL r with | some l => some (a :: l) | none => none
def zeroT : Nat → TypeId → Option ZT
  | 0, _ => none
  | d + 1, t => match P.underlying t with
    | some .bool => some (.v .ff)
    | some (.int k) => some (.v (.lit k 0))
    | some .string => some (.v (.str []))
    | some (.pointer _) => some (.v .nilp)
    | some (.slice _) => some (.v .nsl)
    | some (.array n e) => match P.underlying e with
      | some (.int k) => some (.ints k n)
      | _ => (zeroT d e).map (.rows (sz P e) n)
    | some (.struct fs) => (optL (fs.toList.map fun f => (zeroT d f.type).map fun z => (sz P f.type, z))).bind catF
    | _ => none
/-- the cells of a zero value -/
def ZT.cells : ZT → List Value
  | .v .ff => [.bool false]
  | .v (.lit k n) => [.int k n]
  | .v (.str []) => [.string ⟨#[]⟩]
  | .v .nilp => [.pointer none]
  | .v .nsl => [.slice none 0 0]
  | .v _ => []
  | .ints k n => List.replicate n (.int k 0)
  | .cat _ _ a b => a.cells ++ b.cells
  | .rows _ n z => (List.replicate n z.cells).flatten
def ZT.good : ZT → Bool
  | .v .ff | .v .nilp | .v .nsl => true
  | .v (.str []) => true
  | .v (.lit _ n) => n == 0
  | .v _ => false
  | .ints _ _ => true
  | .cat n m a b => a.good && b.good && a.cells.length == n && b.cells.length == m
  | .rows e _ z => z.good && z.cells.length == e
def eqCell : Value → Value → Bool
  | .bool a, .bool b => a == b
  | .int k n, .int k' m => k == k' && n == m
  | .string a, .string b => a.data == b.data
  | .pointer none, .pointer none => true
  | .slice none 0 0, .slice none 0 0 => true
  | _, _ => false
def eqCells : List Value → List Value → Bool
  | [], [] => true
  | a :: l, b :: m => eqCell a b && eqCells l m
  | _, _ => false
/-- is it the zero value of the type, told right? -/
def zOk (t : TypeId) (z : ZT) : Bool := match P.info? t with
  | some i => match i.zero with
    | some v => eqCells v.cells.toList z.cells && z.good && i.size == z.cells.length && 0 < i.size
    | none => false
  | none => false
def zeroK (t : TypeId) : Option ZT := match zeroT P 6 t with
  | some z => if zOk P t z then some z else none
  | none => none
def ekOf (e : TypeId) : Option EK := match P.underlying e with
  | some (.int k) => match zeroK P e with | some (.v (.lit k' 0)) => if k == k' then some (.i k) else none | _ => none
  | _ => (zeroK P e).map (.o (sz P e))
def ekSlice (t : TypeId) : Option EK := match P.underlying t with
  | some (.slice e) => ekOf P e
  | _ => none
def isSliceT (t : TypeId) : Bool := match P.underlying t with | some (.slice _) => true | _ => false
def optIX : Option Operand → Option (Option IX)
  | none => some none
  | some x => (opIX x).map some
def sameOp : Operand → Operand → Bool
  | .tmp a, .tmp b => a == b
  | .const (.int k a), .const (.int k' b) => k == k' && a == b
  | _, _ => false
def isSh : BinOp → Bool
  | .shl | .shr => true
  | _ => false
def isU8 : Option TypeDesc → Bool
  | some (.int .u8) => true
  | _ => false
def isEkU8 : Option EK → Bool
  | some (.i .u8) => true
  | _ => false
def compCall (b : Builtin) (xs : List Operand) (ts : List TypeId) : Option IOp :=
  match b, xs, ts with
  | .len, [x], [t] => match P.underlying t with
    | some .string => (opIX x).map .lenT
    | some (.slice _) => (opIX x).map .lenS
    | some (.array n _) => if n ≤ 4294967296 then some (.lenA n) else none
    | _ => none
  | .append, [x, y], [t, u] => match P.underlying t, P.underlying u with
    | some (.slice e), some (.slice e') => do if e == e' && 0 < byt P e then some (.app (← ekOf P e) (byt P e) (← opIX x) (← opIX y)) else none
    | some (.slice e), some .string => do if isEkU8 (ekOf P e) && byt P e == 1 then some (.appT (← opIX x) (← opIX y)) else none
    | some (.slice e), some (.int _) => do if 0 < byt P e then some (.appz (← ekOf P e) (byt P e) (← opIX x) (← opIX y)) else none
    | _, _ => none
  | .copy, [x, y], [t, u] => match P.underlying t, P.underlying u with
    | some (.slice e), some (.slice e') => do if e == e' then some (.cpy (← ekOf P e) (← opIX x) (← opIX y)) else none
    | _, _ => none
  | .min, [x, y], [t, _] => match P.underlying t with
    | some (.int _) => do some (.min2 (← opIX x) (← opIX y))
    | _ => none
  | .max, [x, y], [t, _] => match P.underlying t with
    | some (.int _) => do some (.max2 (← opIX x) (← opIX y))
    | _ => none
  | _, _, _ => none
/-- is the array's zero value made of the element's? -/
def arrOk (t e : TypeId) (k : EK) (n : Nat) : Bool := sz P e == k.size && (match k with
  | .i k => zOk P t (.ints k n)
  | .o e z => zOk P t (.rows e n z))
/-- the kinds of a type's cells, where these are plain data that fill it -/
def ckT : Nat → TypeId → Option (List CK)
  | 0, _ => none
  | d + 1, t => match P.underlying t with
    | some .bool => some [.b]
    | some (.int k) => some [.i k]
    | some .string => some [.s]
    | some (.array n e) => (ckT d e).bind fun l => if l.length == P.cellsOf e && n ≤ 65536 then some (List.replicate n l).flatten else none
    | some (.struct fs) => ckF (fun t => ckT d t) 0 fs.toList
    | _ => none
where ckF (f : TypeId → Option (List CK)) : Nat → List Field → Option (List CK)
  | _, [] => some []
  | o, g :: r => (f g.type).bind fun l => if g.offset == o && l.length == P.cellsOf g.type then (ckF f (o + l.length) r).map (l ++ ·) else none
def eqZT (t : TypeId) : Option ETy := match P.underlying t with
  | some (.array ..) | some (.struct _) => if P.keyTypeAt 6 t && !P.eqGuardType P.depth t then
      match ckT P 6 t with
      | some ks => if ks.length == P.cellsOf t then some (.z ks) else none
      | none => none
    else none
  | _ => none
def eqTy : Option TypeDesc → Option ETy
  | some .bool => some .b
  | some .string => some .s
  | some (.pointer _) => some .p
  | some (.slice _) => some .l
  | some (.array n e) => match P.underlying e with | some (.int k) => if P.cellsOf e == 1 then some (.a k n) else none | _ => none
  | _ => none
/-- how the arguments of a call are handed over -/
def akOf (j : Nat) (t : TypeId) : Option AK := if isSliceT P t && pure (j + 1000000) then (if pure j then (ekSlice P t).map .b else (ekSlice P t).map .w) else some .v
def akL : Nat → List (IX × TypeId) → Option (List (IX × AK))
  | _, [] => some []
  | j, (x, t) :: r => (akOf P pure j t).bind fun k => (akL (j + 1) r).bind fun l => some ((x, k) :: l)
def compOp : Op → Option IOp
  | .move x | .assign x => (opIX x).map .mv
  | .pick c a b => do some (.pick (← opIX c) (← opIX a) (← opIX b))
  | .alloc e => (zeroK P e).map .alloc
  | .box _ x => (opIX x).map .box
  | .build t ps => match P.underlying t with
    | some (.struct fs) => do
      let z ← zeroK P t
      if !(fs.toList.all fun f => (P.info? f.type).isSome) then none else
      let l ← optL (ps.toList.map fun p => match fs[p.1]? with | some f => (opIX p.2).map fun x => (f.offset, sz P f.type, x) | none => none)
      some (.bldS z l)
    | some (.array n e) => do
      let k ← ekOf P e
      let l ← optL (ps.toList.map fun p => (opIX p.2).map fun x => (p.1, x))
      if arrOk P t e k n && (P.info? e).isSome then some (.bldA k n l) else none
    | _ => none
  | .buildSlice t n ps => do
    let k ← ekSlice P t
    let l ← optL (ps.toList.map fun p => (opIX p.2).map fun x => (p.1, x))
    if n * k.size ≤ 65536 && (n != 0 || ps.isEmpty) then some (.bsl k n l) else none
  | .load t a => if sz P t != 0 && (P.underlying t).isSome then (opIX a).map (.ld (sz P t) (aggT P t)) else none
  | .store t a x => if sz P t != 0 then do some (.st (sz P t) (← opIX a) (← opIX x)) else none
  | .nilCheck x => (opIX x).map .nck
  | .binOp op t x y _ => match P.underlying t with
    | some (.int k) =>
      if isCmp op then do some (.cmp op (← opIX x) (← opIX y))
      else if isAr op then do some (.ar op k (← opIX x) (← opIX y))
      else if isSh op then do some (.shf op k (← opIX x) (← opIX y)) else none
    | d => match eqTy P d, op with
      | some k, .eql => do some (.eq k false (← opIX x) (← opIX y))
      | some k, .neq => do some (.eq k true (← opIX x) (← opIX y))
      | none, .eql => do some (.eq (← eqZT P t) false (← opIX x) (← opIX y))
      | none, .neq => do some (.eq (← eqZT P t) true (← opIX x) (← opIX y))
      | _, _ => none
  | .unOp op t x => match op, P.underlying t with
    | .neg, some (.int k) => (opIX x).map (.neg k)
    | .xor, some (.int k) => (opIX x).map (.cpl k)
    | .not, _ => (opIX x).map .not
    | _, _ => none
  | .convert s t x => match P.underlying s, P.underlying t with
    | some (.int _), some (.int k) => (opIX x).map (.cv k)
    | some (.slice e), some .string => if isU8 (P.underlying e) then (opIX x).map .b2s else none
    | some .string, some (.slice e) => if isU8 (P.underlying e) then (opIX x).map .s2b else none
    | some (.slice _), some (.slice e) => if s == t && isU8 (P.underlying e) then (opIX x).map .mst else none
    | _, _ => none
  | .sliceToArrayPointer t x => match P.underlying t with
    | some (.array n e) => if sz P e != 0 then (opIX x).map (.s2a n (sz P e)) else none
    | _ => none
  | .makeSlice t l c => match P.underlying t with
    | some (.slice e) => if sameOp l c && 0 < byt P e then do some (.mks (← ekOf P e) (byt P e) (← opIX l)) else none
    | _ => none
  | .slice t x lo hi mx => match P.underlying t with
    | some (.array n e) => if mx.isNone && sz P e != 0 && n ≤ 4294967296 then do some (.slA n (sz P e) (← opIX x) (← optIX lo) (← optIX hi)) else none
    | some (.slice e) => if sz P e != 0 then (match lo, hi, mx with
        | none, some h, some (.tmp m) => do some (.slX (sz P e) (← opIX x) (← opIX h) (.t m))
        | _, _, _ => do some (.slS (sz P e) (← opIX x) (← optIX lo) (← optIX hi) (← optIX mx))) else none
    | some .string => if mx.isNone then do some (.slT (← opIX x) (← optIX lo) (← optIX hi)) else none
    | _ => none
  | .fieldAddr s x f => match P.underlying s with
    | some (.struct fs) => match fs[f]? with
      | some f => if sz P f.type = 0 then none else (opIX x).map (.fa f.offset (sz P f.type))
      | none => none
    | _ => none
  | .field s x f => match P.underlying s with
    | some (.struct fs) => match fs[f]? with
      | some f => if sz P f.type != 0 && (P.underlying f.type).isSome then (opIX x).map (.fl f.offset (sz P f.type) (aggT P f.type)) else none
      | none => none
    | _ => none
  | .indexAddr t x i => match P.underlying t with
    | some (.array n e) => if sz P e != 0 then do some (.iaA n (sz P e) (← opIX x) (← opIX i)) else none
    | some (.slice e) => if sz P e != 0 then do some (.iaS (sz P e) (← opIX x) (← opIX i)) else none
    | _ => none
  | .index t x i => match P.underlying t with
    | some (.array n e) => if sz P e != 0 && (P.underlying e).isSome then do some (.ixA n (sz P e) (aggT P e) (← opIX x) (← opIX i)) else none
    | some .string => do some (.ixT (← opIX x) (← opIX i))
    | _ => none
  | .call { callee := .builtin b, args, argTypes } => compCall P b args.toList argTypes.toList
  | .call { callee := .value (.func f), args, argTypes } => do
    let l ← optL ((args.toList.zip argTypes.toList).map fun p => (opIX p.1).map fun x => (x, p.2))
    let l ← akL P pure (1000000 + 100 * f) l
    if args.size == argTypes.size && l.length ≤ 1000 && f < 5000000 then some (.call f (pure f) l) else none
  | .extract x i => (opIX x).map (.ext i)
  | _ => none
/-- an append to a slice that has no room -/
def toApp0 (ops : Array Oper) : IOp → IOp
  | .app k w (.t n) y => if ops.any fun o => o.dst == some n && (match compOp P pure o.op with | some (.bsl _ 0 _) => true | some (.slS _ _ _ _ (some _)) => true | _ => false) then .app0 k w (.t n) y else .app k w (.t n) y
  | .app k w (.c .nsl) y => .app0 k w (.c .nsl) y
  | i => i
/-- what an operation may be turned into -/
inductive Tr (i i' : IOp) : Prop where
  | same (h : i' = i)
  | app0 (k : EK) (b : Nat) (x y : IX) (h : i = .app k b x y) (h' : i' = .app0 k b x y)
  | mksF (k : EK) (b : Nat) (x : IX) (h : i = .mks k b x) (h' : i' = .mksF k b x)
  | ldE (re : Bool) (x : IX) (h : i = .ld 1 false x) (h' : i' = .ldE re x)
  | stE (n : Nat) (y : IX) (h : i = .st 1 (.t n) y) (h' : i' = .stE (.t n) y)
  | bslE (z : ZT) (n : Nat) (ps : List (Nat × IX)) (h : i = .bsl (.o 1 z) n ps) (h' : i' = .bslE n ps)
  | allocE (n : Nat) (h : i = .alloc (.rows 1 n (.v .nsl))) (h' : i' = .allocE n)
  | appE (z : ZT) (w : Nat) (x y : IX) (h : i = .app (.o 1 z) w x y) (h' : i' = .appE w x y)
/-- a row that is made to be handed on for good -/
def toMF (d : Option Nat) : IOp → IOp
  | .mks k w x => if pure (3000000 + d.getD 0) then .mks k w x else .mksF k w x
  | .ld 1 false x => if pure (5000000 + d.getD 0) then (if pure (6000000 + d.getD 0) then .ld 1 false x else .ldE true x) else .ldE false x
  | .st 1 (.t n) y => if pure (5000000 + n) then .st 1 (.t n) y else .stE (.t n) y
  | .bsl (.o 1 z) n ps => if pure (5000000 + d.getD 0) then .bsl (.o 1 z) n ps else .bslE n ps
  | .alloc (.rows 1 n (.v .nsl)) => if pure (5000000 + d.getD 0) then .alloc (.rows 1 n (.v .nsl)) else .allocE n
  | .app (.o 1 z) w x y => if pure (5000000 + d.getD 0) then .app (.o 1 z) w x y else .appE w x y
  | i => i
def compOper (ops : Array Oper) (o : Oper) : IOper :=
  { d := o.dst,
    g := match o.guard with
      | none => none
      | some (j, w) => some (((ops[j]?).bind (·.dst)).getD 0, w),
    o := match compOp P pure o.op with | some i => toMF pure o.dst (toApp0 P pure ops i) | none => .bad 0 }
/-- a guard must look at an operation with a slot -/
def guardOk (ops : Array Oper) (o : Oper) : Bool := match o.guard with
  | none => true
  | some (j, _) => ((ops[j]?).bind (·.dst)).isSome
inductive Cls where | p | n | w
  deriving DecidableEq
def cls : IOp → Cls
  | .ld .. | .b2s _ | .box _ | .alloc _ | .bsl .. | .s2b _ | .mks .. | .mksF .. | .slA .. | .app0 .. | .bslE .. | .allocE _ => .n
  | .st .. | .app .. | .appz .. | .appT .. | .cpy .. | .mst _ | .stE .. | .appE .. => .w
  | .ldE r _ => if r then .n else .w
  | .call _ p _ => if p then .n else .w
  | _ => .p
def IX.tmps : IX → List Nat
  | .t n => [n]
  | _ => []
def optTmps : Option IX → List Nat
  | some x => x.tmps
  | none => []
def IOp.tmps : IOp → List Nat
  | .mv x | .nck x | .box x | .ld _ _ x | .neg _ x | .cpl _ x | .not x | .cv _ x | .b2s x | .s2b x | .mst x | .mks _ _ x | .mksF _ _ x | .fa _ _ x | .fl _ _ _ x | .lenS x | .lenT x | .ext _ x | .s2a _ _ x | .ldE _ x => x.tmps
  | .pick a b c => a.tmps ++ b.tmps ++ c.tmps
  | .bldS _ l => l.flatMap fun p => p.2.2.tmps
  | .bldA _ _ l | .bsl _ _ l | .bslE _ l => l.flatMap fun p => p.2.tmps
  | .st _ x y | .ar _ _ x y | .cmp _ x y | .shf _ _ x y | .eq _ _ x y | .iaA _ _ x y | .iaS _ x y | .ixA _ _ _ x y | .ixT x y | .app _ _ x y | .appz _ _ x y | .app0 _ _ x y | .appT x y | .cpy _ x y | .min2 x y | .max2 x y | .stE x y | .appE _ x y => x.tmps ++ y.tmps
  | .slX _ a b c => a.tmps ++ b.tmps ++ c.tmps
  | .slA _ _ x a b | .slT x a b => x.tmps ++ optTmps a ++ optTmps b
  | .slS _ x a b c => x.tmps ++ optTmps a ++ optTmps b ++ optTmps c
  | .call _ _ l => l.flatMap fun p => p.1.tmps
  | .alloc _ | .allocE _ | .lenA _ | .bad _ => []
def IOper.tmps (o : IOper) : List Nat := o.o.tmps ++ (match o.g with | some (g, _) => [g] | none => [])
/-- what an operation writes to, as it stands in the code -/
def wrOps : IOp → List IX
  | .st _ x _ | .cpy _ x _ | .app _ _ x _ | .appz _ _ x _ | .appT x _ | .mst x | .ldE _ x | .stE x _ => [x]
  | .appE _ x y => [x, y]
  | .call _ false l => l.map (·.1)
  | _ => []
/-- where a slot's handle comes from: made in the region, or in a slot ahead of it (the operations ahead, the last first) -/
def rootX : Nat → List IOper → IX → List Nat × List Nat
  | 0, _, _ => ([], [])
  | k + 1, l, .t n => match l.dropWhile (fun o => o.d != some n) with
    | [] => ([], [n])
    | o :: r => match o.o with
      | .mv x | .nck x | .fa _ _ x | .iaA _ _ x _ | .iaS _ x _ | .slA _ _ x _ _ | .slS _ x _ _ _ | .slX _ x _ _ | .s2a _ _ x => rootX k r x
      | .pick _ x y => ((rootX k r x).1 ++ (rootX k r y).1, (rootX k r x).2 ++ (rootX k r y).2)
      | .ld _ _ x => (mayMake o ++ (rootX k r x).1, (rootX k r x).2.map fun n => if n < 1000000 then n + 1000000 else n)
      | _ => (mayMake o, [])
  | _, _, _ => ([], [])
def footX (l : List IOper) (i : Nat) (o : IOper) : List Nat × List Nat := (mayMake o ++ (wrOps o.o).flatMap fun x => (rootX 8 (l.take i).reverse x).1, (wrOps o.o).flatMap fun x => (rootX 8 (l.take i).reverse x).2)
def bef (b : Array Nat) (i j : Nat) : Bool := (b.getD j 0).testBit i
/-- of two operations that do not wait for each other: may they change places? -/
def apartO (x y : IOper) : Bool :=
  (match x.d with | some d => !y.tmps.contains d && y.d != some d | none => true) &&
  (match y.d with | some d => !x.tmps.contains d | none => true) &&
  (cls x.o == .p || cls y.o == .p || cls x.o == .n || cls y.o == .n) &&
  (mayMake x).all fun j => !(mayMake y).contains j
/-- an operation that one which writes may stand beside: it must not see what is written -/
def seen (b : Array Nat) (i j : Nat) : Bool := i != j && !bef b i j && !bef b j i
def watch (b : Array Nat) (l : List IOper) (i : Nat) (o : IOper) : Bool := cls o.o == .w && l.zipIdx.any fun q => seen b i q.2 && cls q.1.o == .n
def msk (b : Array Nat) (l : List IOper) (i : Nat) : List Nat := l.zipIdx.flatMap fun q => if seen b i q.2 then mayMake q.1 ++ (if cls q.1.o == .w then (footX l q.2 q.1).1 else []) else []
def mskT (b : Array Nat) (l : List IOper) (i : Nat) (o : IOper) : List Nat := if cls o.o == .n then l.zipIdx.flatMap fun q => if seen b i q.2 && cls q.1.o == .w then (footX l q.2 q.1).2 else [] else []
def mskD (b : Array Nat) (l : List IOper) (o : IOper) (i : Nat) : DOp := ⟨o, if cls o.o == .n then msk b l i else l.zipIdx.flatMap fun q => if seen b i q.2 then mayMake q.1 else [], mskT b l i o, if watch b l i o then some (footX l i o) else none⟩
def masks (b : Array Nat) (l : List IOper) : List DOp := l.zipIdx.map fun p => mskD b l p.1 p.2
/-- is 'before' what the edges say, and do they lead back? -/
def befOk (b : Array Nat) (ops : Array Oper) : Bool :=
  ops.toList.zipIdx.all fun p =>
    (p.1.after.toList.all fun e => !Region.binds .any e || decide (e.on < p.2)) &&
    (List.range ops.size).all fun q => !bef b q p.2 || (decide (q < p.2) && p.1.after.toList.any fun e => Region.binds .any e && (q == e.on || bef b q e.on))
def drawOk (b : Array Nat) (l : List IOper) : Bool :=
  l.zipIdx.all fun p => l.zipIdx.all fun q => !(q.2 < p.2) || bef b q.2 p.2 || apartO q.1 p.1
/-- slots that are looked at beyond the region that writes them -/
structure Uses where
  rd : List (Nat × Nat)   -- slot, region
  wr : List (Nat × Nat)
def usesOf : Code → Nat → (Uses × Nat)
  | .region _ ops _, n =>
    let l := ops.toList.map (compOper P pure ops)
    (⟨l.flatMap fun o => o.tmps.map fun t => (t, n), l.filterMap fun o => o.d.map fun d => (d, n)⟩, n + 1)
  | .seq a b, n => let (u, n) := usesOf a n; let (v, n) := usesOf b n; (⟨u.rd ++ v.rd, u.wr ++ v.wr⟩, n)
  | .cond c a b, n => let (u, n) := usesOf a n; let (v, n) := usesOf b n; (⟨(match opIX c with | some x => x.tmps.map fun t => (t, n) | none => []) ++ u.rd ++ v.rd, u.wr ++ v.wr⟩, n + 1)
  | .block _ c, n | .loop c, n | .scope c, n => usesOf c n
  | _, n => (⟨[], []⟩, n)
def compCode (keep : List Nat) : Code → Nat → ICode × Nat
  | .skip, n | .label _, n => (.skip, n)
  | .ret, n => (.ret, n)
  | .seq a b, n => let (x, n) := compCode keep a n; let (y, n) := compCode keep b n; (.seq x y, n)
  | .cond c a b, n => let (x, n) := compCode keep a n; let (y, n) := compCode keep b n; ((match opIX c with | some c => .cond c x y | none => .bad 1), n)
  | .block i c, n => let (x, n) := compCode keep c n; (.block i x, n)
  | .loop c, n => let (x, m) := compCode keep c (n + 1); (.loop n x, m)
  | .exit i, n => (.exit i, n)
  | .region _ ops draw, n =>
    let l := ops.toList.map (compOper P pure ops)
    if !ops.all (guardOk ops) then (.bad 5, n) else
    if draw then
      let b := Region.before ops
      (if drawOk b l && befOk b ops then .dreg keep (masks b l) else .bad 3, n)
    else (.reg keep l, n)
  | _, n => (.bad 4, n)
def compRes (rs : List ResultVar) : Option (List IRes) :=
  optL (rs.map fun | .tmp t => some (.t t) | .cell a t => some (.cell a (sz P t) (aggT P t)))
def comp (f : Nat) : Option IFn :=
  match P.funcs[f]? with
  | some fn =>
    let pure := fun k => if 5000000 ≤ k ∧ k < 7000000 then pure (k + 10000000 * (f + 1)) else pure k
    match fn.body, compRes P fn.results.toList with
    | some c, some res =>
      let u := (usesOf P pure c 0).1
      let rs := res.map fun | .t n => n | .cell n _ _ => n
      let slots := ((u.rd.map (·.1)) ++ rs).eraseDups
      let keep := slots.filter fun t => rs.contains t || t < fn.params.size || (u.rd.any fun r => r.1 == t && (u.wr.any fun w => w.1 == t && w.2 != r.2))
      some { nargs := fn.params.size, ntmps := fn.ntmps, res, body := (compCode P pure keep c 0).1 }
    | _, _ => none
  | none => none
end
end Go.Cx
/- CxOp1 -/
namespace Go.Cx
open Go
theorem inR_wrap (k : IntKind) (n : Int) : inR k (k.wrap n) := by
  unfold inR IntKind.wrap
  cases k <;> simp [IntKind.min, IntKind.max, IntKind.bits, IntKind.signed] <;> first | omega | (split <;> omega)
theorem bytesI_rng (s : ByteArray) : ∀ y ∈ bytesI s, inR .u8 y := by
  intro y hy
  simp only [bytesI, List.mem_map] at hy
  obtain ⟨b, _, rfl⟩ := hy
  have := b.toNat_lt
  simp only [inR, IntKind.min, IntKind.max, IntKind.bits, IntKind.signed]
  constructor <;> simp <;> omega
theorem bytesI_len (s : ByteArray) : (bytesI s).length = s.size := by
  show (s.data.toList.map _).length = s.data.size
  rw [List.length_map, Array.length_toList]
theorem toBA_bytesI (s : ByteArray) : toBA (bytesI s) = s := by
  cases s with
  | mk d =>
    simp only [toBA, bytesI, List.map_map]
    congr 1
    have : (fun n : Int => UInt8.ofNat n.toNat) ∘ (fun b : UInt8 => (b.toNat : Int)) = id := by
      funext b
      simp
    rw [this]
    simp
theorem toBA_data (l : List Int) : (toBA l).data.toList = l.map fun n => UInt8.ofNat n.toNat := by simp [toBA]
theorem toBA_size (l : List Int) : (toBA l).size = l.length := by simp [toBA, ByteArray.size]
theorem ofNat_toNat_u8 {n : Int} (h : inR .u8 n) : (((UInt8.ofNat n.toNat).toNat : Nat) : Int) = n := by
  simp only [inR, IntKind.min, IntKind.max, IntKind.bits, IntKind.signed] at h
  obtain ⟨h1, h2⟩ := h
  simp at h1 h2
  simp only [UInt8.toNat_ofNat']
  omega
theorem bytesI_toBA {l : List Int} (h : ∀ y ∈ l, inR .u8 y) : bytesI (toBA l) = l := by
  simp only [bytesI, toBA_data, List.map_map]
  conv => rhs; rw [← List.map_id l]
  apply List.map_congr_left
  intro y hy
  exact ofNat_toNat_u8 (h y hy)
section
variable {I : Nat → Prop} {w : World} {ρ : Rho} {x : Value}
theorem vr_leaf {v : V} (h : VRep I w ρ v x) (hne : v ≠ .any := by simp) (ha : v.isAgg = false := by rfl) (ht : ∀ a b, v ≠ .tcons a b := by simp) (ht' : v ≠ .tnil := by simp) : CRep I w (fun _ => none) v ρ [] 0 (fun j => #[x][j]?) := by
  have h0 : VRep0 I w ρ v x := by
    cases v with
    | tnil => exact absurd rfl ht'
    | tcons a b => exact absurd rfl (ht a b)
    | _ => exact h
  exact (h0.leaf hne ha).2.2
theorem vr_tt (h : VRep I w ρ .tt x) : x = .bool true := by simpa [CRep] using vr_leaf h
theorem vr_ff (h : VRep I w ρ .ff x) : x = .bool false := by simpa [CRep] using vr_leaf h
theorem vr_bool {b : Bool} (h : VRep I w ρ (.bool b) x) : x = .bool b := by simpa [CRep] using vr_leaf h
theorem vr_int {k : IntKind} {n : Int} (h : VRep I w ρ (.int k n) x) : x = .int k n ∧ inR k n := by simpa [CRep] using vr_leaf h
theorem vr_lit {k : IntKind} {n : Int} (h : VRep I w ρ (.lit k n) x) : x = .int k n ∧ inR k n := by simpa [CRep] using vr_leaf h
theorem vr_str {l : List Int} (h : VRep I w ρ (.str l) x) : x = .string (toBA l) ∧ l.length ≤ maxLen ∧ ∀ y ∈ l, inR .u8 y := by simpa [CRep] using vr_leaf h
theorem vr_nilp (h : VRep I w ρ .nilp x) : x = .pointer none := by simpa [CRep] using vr_leaf h
theorem vr_nsl (h : VRep I w ρ .nsl x) : x = .slice none 0 0 := by simpa [CRep] using vr_leaf h
theorem vr_zsl (h : VRep I w ρ .zsl x) : ∃ a, x = .slice a 0 0 := by simpa [CRep] using vr_leaf h
theorem vr_ptr {hd : Nat} {p : List Pt} (h : VRep I w ρ (.ptr hd p) x) : ∃ b off sz, ρ hd = some (.at b off sz) ∧ x = .pointer (some ⟨b, off + poff p, none⟩) := by simpa [CRep] using vr_leaf h
theorem vr_dptr {c : V} {p : List Pt} (h : VRep I w ρ (.dptr c p) x) : ∃ b off, I b ∧ x = .pointer (some ⟨b, off + poff p, none⟩) ∧ CRep I w (fun _ => none) c noR [] 0 (cellsAt w b off) := by simpa [CRep] using vr_leaf h
theorem vr_sl {hd : Nat} {p : List Pt} {i n e : Nat} {cap : Option Nat} (h : VRep I w ρ (.sl hd p i n e cap) x) : ∃ a c l, x = .slice a n c ∧ ρ hd = some l ∧ n ≤ c ∧ c ≤ maxLen ∧ capOk cap c ∧
      (c = 0 ∨ ∃ b off sz, l = .at b off sz ∧ a = some ⟨b, off + (poff p + i * e), none⟩ ∧ poff p + i * e + c * e ≤ sz) := by simpa [CRep] using vr_leaf h
theorem vr_dsl {n e : Nat} {c : V} (h : VRep I w ρ (.dsl n e c) x) : ∃ a cp, x = .slice a n cp ∧ n ≤ cp ∧ cp ≤ maxLen ∧ isRow e n c ∧ CRep I w (fun _ => none) c noR [] 0 (behind w a) ∧ (cp = 0 ∨ ∃ b off, a = some ⟨b, off, none⟩ ∧ I b) := by
  simpa [CRep] using vr_leaf h
theorem vr_agg {v : V} (h : VRep I w ρ v x) (ha : v.isAgg = true) : ∃ cs, x = .agg cs ∧ cs.size = v.size ∧ CRep I w (fun _ => none) v ρ [] 0 (cs[·]?) := by
  have h0 : VRep0 I w ρ v x := by
    cases v with
    | tnil => cases ha
    | tcons a b => cases ha
    | _ => exact h
  rcases h0 with rfl | ⟨h1, h2, h3⟩
  · cases ha
  · rw [ha] at h2
    cases x <;> first | exact ⟨_, rfl, h1, h3⟩ | cases h2
theorem vr_tcons {a b : V} (h : VRep I w ρ (.tcons a b) x) : ∃ l, x = .tuple l.toArray ∧ TRep I w ρ (.tcons a b) l := h
/-- a value that may be stored: its cells -/
theorem vr_full {v : V} (h : VRep I w ρ v x) (hf : v.full = true) : x.cells.size = v.unwrap.size ∧ CRep I w (fun _ => none) v.unwrap ρ [] 0 (x.cells[·]?) ∧ isAggV x = v.isAgg := by
  have h0 : VRep0 I w ρ v x := by
    cases v with
    | tnil => cases hf
    | tcons a b => cases hf
    | _ => exact h
  rcases h0 with rfl | ⟨h1, h2, h3⟩
  · cases hf
  · cases v with
    | one a => exact ⟨by simpa [V.unwrap, V.size] using h1, h3.2, h2⟩
    | _ => exact ⟨h1, h3, h2⟩
theorem leaf_vr {v : V} (hs : v.size = 1) (ha : v.isAgg = false) (hx : isAggV x = false) (h : CRep I w (fun _ => none) v ρ [] 0 (fun _ => some x)) : VRep I w ρ v x := (VRep0.ofLeaf hs ha hx h).up
theorem bool_vr (b : Bool) : VRep I w ρ (.bool b) (.bool b) := leaf_vr rfl rfl rfl rfl
theorem boolV_vr (b : Bool) : VRep I w ρ (boolV b) (.bool b) := by cases b <;> exact leaf_vr rfl rfl rfl rfl
theorem int_vr {k : IntKind} {n : Int} (h : inR k n) : VRep I w ρ (.int k n) (.int k n) := leaf_vr rfl rfl rfl ⟨rfl, h⟩
theorem lit_vr {k : IntKind} {n : Int} (h : inR k n) : VRep I w ρ (.lit k n) (.int k n) := leaf_vr rfl rfl rfl ⟨rfl, h⟩
theorem str_vr {l : List Int} (hn : l.length ≤ maxLen) (h : ∀ y ∈ l, inR .u8 y) : VRep I w ρ (.str l) (.string (toBA l)) := leaf_vr rfl rfl rfl ⟨rfl, hn, h⟩
theorem nilp_vr : VRep I w ρ .nilp (.pointer none) := leaf_vr rfl rfl rfl rfl
theorem nsl_vr : VRep I w ρ .nsl (.slice none 0 0) := leaf_vr rfl rfl rfl rfl
theorem zsl_vr (a : Option Addr) : VRep I w ρ .zsl (.slice a 0 0) := leaf_vr rfl rfl rfl ⟨a, rfl⟩
theorem ptr_vr {hd : Nat} {p : List Pt} {b off sz : Nat} (h : ρ hd = some (.at b off sz)) : VRep I w ρ (.ptr hd p) (.pointer (some ⟨b, off + poff p, none⟩)) := leaf_vr rfl rfl rfl ⟨b, off, sz, h, rfl⟩
theorem agg_vr {v : V} {cs : Array Value} (ha : v.isAgg = true) (hs : cs.size = v.size) (h : CRep I w (fun _ => none) v ρ [] 0 (cs[·]?)) : VRep I w ρ v (.agg cs) := VRep0.up (.inr ⟨hs, ha.symm, h⟩)
theorem constV_rep {v : Value} {c : V} (h : constV v = some c) : VRep I w ρ c v := by
  unfold constV at h
  split at h
  · cases h; exact boolV_vr _
  · split at h
    · cases h; exact lit_vr (by assumption)
    · cases h
  · split at h
    · rename_i s hs
      cases h
      have := str_vr (I := I) (w := w) (ρ := ρ) (by rw [bytesI_len]; simp only [maxLen]; omega) (bytesI_rng s)
      rwa [toBA_bytesI] at this
    · cases h
  · cases h; exact nilp_vr
  · cases h; exact nsl_vr
  · cases h
end
section
variable {P : Program} {pure : Nat → Bool} {X : Fix} {I : Nat → Prop} {ρ : Rho} {ow : Own} {s : St} {a : Act} {w : World} {o : Oper}
theorem ev_rep (h : Rep X I ρ ow s a.tmps w) {x : Operand} {i : IX} (hx : opIX x = some i) : VRep I w ρ (ev s.t i) (a.eval x) := by
  cases x with
  | tmp t => cases hx; exact h.tmps t
  | const v =>
    simp only [opIX, Option.map_eq_some_iff] at hx
    obtain ⟨c, hc, rfl⟩ := hx
    exact constV_rep hc
  | global g =>
    cases hx
    obtain ⟨sz, hg⟩ := h.glob g
    have := ptr_vr (I := I) (w := w) (p := []) hg
    simpa [poff, ev, Act.eval] using this
  | func f => cases hx
/-- what a step of the small code promises of the step of the program -/
def StepOk (P : Program) (X : Fix) (o : Oper) (a : Act) (w : World) (s : St) (e : Eff) : Prop :=
  (∃ x w', (execOp a.eval o).run P w = .ok (.value x) w' ∧ RepE X (e.on o.dst s) (a.put o.dst x).tmps w') ∨
  (∃ w', (execOp a.eval o).run P w = .ok .skip w' ∧ RepE X (e.on o.dst s) (a.put o.dst undef).tmps w') ∨
  (∃ f args w1, (execOp a.eval o).run P w = .ok (.enter f args) w1 ∧ Calls P f args w1 fun en w' => ∃ x, en = .returned x ∧ RepE X (e.on o.dst s) (a.put o.dst x).tmps w')
def dstOk (X : Fix) (o : Oper) : Prop := ∀ d, o.dst = some d → d < X.N
theorem Rep.putD (h : Rep X I ρ ow s a.tmps w) (hd : dstOk X o) {v : V} {x : Value} (hv : VRep I w ρ v x) : Rep X I ρ ow ⟨putT s.t o.dst v, s.h⟩ (a.put o.dst x).tmps w := by
  unfold dstOk at hd
  cases hdst : o.dst with
  | none => exact h
  | some d => exact h.setT (hd d hdst) hv
theorem stepVal (h : Rep X I ρ ow s a.tmps w) (hd : dstOk X o) {v : V} {x : Value} (hrun : (execOp a.eval o).run P w = .ok (.value x) w) (hv : VRep I w ρ v x) : StepOk P X o a w s (noEff v) :=
  .inl ⟨x, w, hrun, I, ρ, ow, h.putD hd hv⟩
/-- the same where the run only draws -/
theorem stepVal' (h : Rep X I ρ ow s a.tmps w) (hd : dstOk X o) {v : V} {x : Value} {w' : World} (hw : Only w w' none) (hrun : (execOp a.eval o).run P w = .ok (.value x) w') (hv : VRep I w ρ v x) : StepOk P X o a w s (noEff v) :=
  .inl ⟨x, w', hrun, I, ρ, ow, (h.grow hw).putD hd (hv.mono (fun b hb => ⟨hb, hw.block b (h.ilt b hb) (by simp)⟩) (Rho.le_refl _))⟩
end
end Go.Cx
/- CxOp2 -/
namespace Go.Cx
open Go
section
variable {P : Program} {pure : Nat → Bool} {X : Fix} {I : Nat → Prop} {ρ : Rho} {ow : Own} {s : St} {a : Act} {w : World} {o : Oper}
/-- a number's value -/
theorem num_vr {v : V} {x : Value} (h : VRep I w ρ v x) : ∀ k n, (v = .int k n ∨ v = .lit k n) → x = .int k n ∧ inR k n := by
  rintro k n (rfl | rfl)
  · exact vr_int h
  · exact vr_lit h
theorem numOut {v : V} {k : IntKind} {n : Int} (hv : v = .int k n ∨ v = .lit k n) (h : inR k n) : VRep I w ρ v (.int k n) := by
  rcases hv with rfl | rfl
  · exact int_vr h
  · exact lit_vr h
theorem inR_tmod {k : IntKind} {x y : Int} (hx : inR k x) : inR k (x.tmod y) := by
  obtain ⟨h1, h2⟩ := hx
  have hmin : k.min ≤ 0 := by cases k <;> simp [IntKind.min, IntKind.signed, IntKind.bits]
  have hmax : 0 ≤ k.max := by cases k <;> simp [IntKind.max, IntKind.signed, IntKind.bits]
  have e := Int.tmod_def x y
  rcases Int.le_total 0 x with hx0 | hx0
  · have := Int.tmod_nonneg (b := y) hx0
    have h3 : x.tmod y ≤ x := by
      have h4 : (x.tmod y).natAbs ≤ x.natAbs := by
        rw [Int.natAbs_tmod]
        exact Nat.mod_le _ _
      omega
    exact ⟨by omega, by omega⟩
  · have h4 : (x.tmod y).natAbs ≤ x.natAbs := by
      rw [Int.natAbs_tmod]
      exact Nat.mod_le _ _
    have h5 : x.tmod y ≤ 0 := by
      have := Int.tmod_nonneg (a := -x) (b := y) (by omega)
      rw [Int.neg_tmod] at this
      omega
    exact ⟨by omega, by omega⟩
theorem inR_fdiv {k : IntKind} {x : Int} (hx : inR k x) (n : Nat) : inR k (x.fdiv (2 ^ n)) := by
  obtain ⟨h1, h2⟩ := hx
  have hmin : k.min ≤ 0 := by cases k <;> simp [IntKind.min, IntKind.signed, IntKind.bits]
  have hmax : 0 ≤ k.max := by cases k <;> simp [IntKind.max, IntKind.signed, IntKind.bits]
  have hp : (0 : Int) < 2 ^ n := Int.pow_pos (by decide)
  rw [Int.fdiv_eq_ediv_of_nonneg _ (by omega)]
  rcases Int.le_total 0 x with hx0 | hx0
  · have h3 := Int.ediv_nonneg hx0 (Int.le_of_lt hp)
    have h4 := Int.ediv_le_self (2 ^ n) hx0
    exact ⟨by omega, by omega⟩
  · have h3 : x ≤ x / 2 ^ n := by
      rw [Int.le_ediv_iff_mul_le hp]
      have : x * 2 ^ n ≤ x * 1 := Int.mul_le_mul_of_nonpos_left hx0 (by omega)
      omega
    have h4 : x / 2 ^ n ≤ 0 := by
      have : x / 2 ^ n < 1 := by
        rw [Int.ediv_lt_iff_lt_mul hp]
        omega
      omega
    exact ⟨by omega, by omega⟩
theorem arF_in {op : BinOp} {k : IntKind} {x y : Int} (hop : isAr op = true) (hx : inR k x) : inR k (arF op k x y) := by
  cases op <;> simp only [isAr] at hop <;> first
    | exact inR_wrap _ _
    | exact inR_tmod hx
    | cases hop
theorem run_binOp_ar {op : BinOp} {t : TypeId} {k : IntKind} {x y : Int} (hop : isAr op = true) (hd : isDiv op = true → y ≠ 0) (w : World) :
    (binOp op t (.int k x) (.int k y)).run P w = .ok (.int k (arF op k x y)) w := by
  cases op <;> simp only [isAr, Bool.false_eq_true] at hop <;> simp_all [binOp, arF, Op.intArith, Op.intDiv, Op.intBits, isDiv, wadd, wsub, wmul, wquo, wrem, band, bor, bxor, bandn]
theorem eqGuard_int (op : BinOp) (t : TypeId) (x y : Operand) (k : IntKind) (n : Int) (v : Value) : eqGuard op t x y (.int k n) v = Pure.pure () := eqGuard_at_int op t x y v k n
theorem execOp_bin {op : BinOp} {t yt : TypeId} {x y : Operand} (ho : o.op = .binOp op t x y yt) {k : IntKind} {n : Int} {u v : Value} (hx : a.eval x = .int k n) (hy : a.eval y = u) (hrun : (binOp op t (.int k n) u).run P w = .ok v w) :
    (execOp a.eval o).run P w = .ok (.value v) w := by
  simp [execOp, ho, hx, hy, eqGuard_int, hrun]
theorem step_ar (h : Rep X I ρ ow s a.tmps w) (hd : dstOk X o) {op : BinOp} {t yt : TypeId} {x y : Operand} {ix iy : IX} {k : IntKind} (ho : o.op = .binOp op t x y yt) (hop : isAr op = true)
    (hx : opIX x = some ix) (hy : opIX y = some iy) {e : Eff} (he : ((arR apf op (ev s.t ix) (ev s.t iy)).bind fun v => .ok (noEff v)).to e) (_ : k = k) : StepOk P X o a w s e := by
  obtain ⟨v, hv, rfl⟩ := bind_to he
  have hvx := ev_rep h hx
  have hvy := ev_rep h hy
  have fin : ∀ (k : IntKind) (n m : Int), (ev s.t ix = .int k n ∨ ev s.t ix = .lit k n) → (ev s.t iy = .int k m ∨ ev s.t iy = .lit k m) → (isDiv op = true → m ≠ 0) →
      (v = .int k (arF op k n m) ∨ v = .lit k (arF op k n m)) → StepOk P X o a w s (noEff v) := by
    intro k n m hn hm hdiv hv
    obtain ⟨ex, rx⟩ := num_vr hvx k n hn
    obtain ⟨ey, _⟩ := num_vr hvy k m hm
    exact stepVal h hd (execOp_bin ho ex ey (run_binOp_ar hop hdiv w)) (numOut hv (arF_in hop rx))
  unfold arR at hv
  split at hv
  all_goals first | exact hv.elim | skip
  · rename_i k n k' m e1 e2
    obtain ⟨h1, h2⟩ := rif_to hv
    simp only [Bool.and_eq_true, beq_iff_eq, Bool.not_eq_true', Bool.and_eq_false_imp] at h1
    obtain ⟨rfl, h3⟩ := h1
    exact fin k n m (.inr e1) (.inr e2) (fun hd0 hm0 => by have := h3 hd0; simp [hm0] at this) (.inr h2.symm)
  · rename_i k n k' m e1 e2
    obtain ⟨h1, h2⟩ := rif_to hv
    simp only [Bool.and_eq_true, beq_iff_eq, Bool.not_eq_true', Bool.and_eq_false_imp] at h1
    obtain ⟨rfl, h3⟩ := h1
    exact fin k n m (.inl e1) (.inr e2) (fun hd0 hm0 => by have := h3 hd0; simp [hm0] at this) (.inl h2.symm)
  · rename_i k n k' m e1 e2
    obtain ⟨h1, h2⟩ := rif_to hv
    have h1 : k = k' := by simpa using h1
    subst h1
    split at h2
    · exact fin k n m (.inr e1) (.inl e2) (fun _ => h2.1) (.inl h2.2.symm)
    · rename_i hnd
      exact fin k n m (.inr e1) (.inl e2) (fun hd0 => absurd hd0 hnd) (.inl h2.symm)
  · rename_i k n k' m e1 e2
    obtain ⟨h1, h2⟩ := rif_to hv
    have h1 : k = k' := by simpa using h1
    subst h1
    split at h2
    · exact fin k n m (.inl e1) (.inl e2) (fun _ => h2.1) (.inl h2.2.symm)
    · rename_i hnd
      exact fin k n m (.inl e1) (.inl e2) (fun hd0 => absurd hd0 hnd) (.inl h2.symm)
theorem run_binOp_cmp {op : BinOp} {t : TypeId} {k : IntKind} {x y : Int} (hop : isCmp op = true) (w : World) :
    (binOp op t (.int k x) (.int k y)).run P w = .ok (.bool (cmF op x y)) w := by
  cases op <;> simp only [isCmp, Bool.false_eq_true] at hop <;> simp [binOp, cmF, Op.intCmp, eqI, neI, ltI, leI, gtI, geI] <;> first | rfl | (by_cases hxy : x = y <;> simp [hxy])
theorem step_cmp (h : Rep X I ρ ow s a.tmps w) (hd : dstOk X o) {op : BinOp} {t yt : TypeId} {x y : Operand} {ix iy : IX} (ho : o.op = .binOp op t x y yt) (hop : isCmp op = true)
    (hx : opIX x = some ix) (hy : opIX y = some iy) {e : Eff} (he : ((cmR apf op (ev s.t ix) (ev s.t iy)).bind fun v => .ok (noEff v)).to e) : StepOk P X o a w s e := by
  obtain ⟨v, hv, rfl⟩ := bind_to he
  have hvx := ev_rep h hx
  have hvy := ev_rep h hy
  have fin : ∀ (k : IntKind) (n m : Int), (ev s.t ix = .int k n ∨ ev s.t ix = .lit k n) → (ev s.t iy = .int k m ∨ ev s.t iy = .lit k m) →
      (v = .bool (cmF op n m) ∨ v = boolV (cmF op n m)) → StepOk P X o a w s (noEff v) := by
    intro k n m hn hm hv
    obtain ⟨ex, rx⟩ := num_vr hvx k n hn
    obtain ⟨ey, _⟩ := num_vr hvy k m hm
    refine stepVal h hd (execOp_bin ho ex ey (run_binOp_cmp hop w)) ?_
    rcases hv with rfl | rfl
    · exact bool_vr _
    · exact boolV_vr _
  unfold cmR at hv
  split at hv
  all_goals first
    | exact hv.elim
    | (rename_i k n k' m e1 e2
       obtain ⟨h1, h2⟩ := rif_to hv
       have h1 : k = k' := by simpa using h1
       subst h1
       first
         | exact fin k n m (.inr e1) (.inr e2) (.inr h2.symm)
         | exact fin k n m (.inl e1) (.inr e2) (.inl h2.symm)
         | exact fin k n m (.inr e1) (.inl e2) (.inl h2.symm)
         | exact fin k n m (.inl e1) (.inl e2) (.inl h2.symm))
theorem step_shf (h : Rep X I ρ ow s a.tmps w) (hd : dstOk X o) {op : BinOp} {t yt : TypeId} {x y : Operand} {ix iy : IX} (ho : o.op = .binOp op t x y yt) (hop : op = .shl ∨ op = .shr)
    (hx : opIX x = some ix) (hy : opIX y = some iy) {e : Eff} (he : ((shR apf op (ev s.t ix) (ev s.t iy)).bind fun v => .ok (noEff v)).to e) : StepOk P X o a w s e := by
  obtain ⟨v, hv, rfl⟩ := bind_to he
  have hvx := ev_rep h hx
  have hvy := ev_rep h hy
  have fin : ∀ (k k' : IntKind) (n m : Int), (ev s.t ix = .int k n ∨ ev s.t ix = .lit k n) → (ev s.t iy = .int k' m ∨ ev s.t iy = .lit k' m) → 0 ≤ m →
      (v = .int k (arF op k n m) ∨ v = .lit k (arF op k n m)) → StepOk P X o a w s (noEff v) := by
    intro k k' n m hn hm hm0 hv
    obtain ⟨ex, rx⟩ := num_vr hvx k n hn
    obtain ⟨ey, _⟩ := num_vr hvy k' m hm
    have hrun : (binOp op t (.int k n) (.int k' m)).run P w = .ok (.int k (arF op k n m)) w := by
      rcases hop with rfl | rfl <;> simp [binOp, Op.shift, arF, bshl, bshr, show ¬ m < 0 by omega]
    refine stepVal h hd (execOp_bin ho ex ey hrun) (numOut hv ?_)
    rcases hop with rfl | rfl
    · exact inR_wrap _ _
    · exact inR_fdiv rx _
  unfold shR at hv
  split at hv
  all_goals first | exact hv.elim | skip
  · rename_i k n k' m e1 e2
    obtain ⟨h1, h2⟩ := rif_to hv
    exact fin k _ n m (.inr e1) (.inr e2) (by simpa using h1) (.inr h2.symm)
  · rename_i k n k' m e1 e2
    obtain ⟨h1, h2⟩ := rif_to hv
    exact fin k _ n m (.inl e1) (.inr e2) (by simpa using h1) (.inl h2.symm)
  · rename_i k n k' m e1 e2
    exact fin k _ n m (.inr e1) (.inl e2) hv.1 (.inl hv.2.symm)
  · rename_i k n k' m e1 e2
    exact fin k _ n m (.inl e1) (.inl e2) hv.1 (.inl hv.2.symm)
theorem step_mv (h : Rep X I ρ ow s a.tmps w) (hd : dstOk X o) {x : Operand} {ix : IX} (ho : o.op = .move x ∨ o.op = .assign x) (hx : opIX x = some ix) {e : Eff} (he : (R.ok (noEff (ev s.t ix))).to e) : StepOk P X o a w s e := by
  cases he
  refine stepVal h hd (x := a.eval x) ?_ (ev_rep h hx)
  rcases ho with ho | ho <;> simp [execOp, ho]
theorem step_nck (h : Rep X I ρ ow s a.tmps w) (hd : dstOk X o) {x : Operand} {ix : IX} (ho : o.op = .nilCheck x) (hx : opIX x = some ix) {e : Eff}
    (he : (match ev s.t ix with | .ptr h p => R.ok (noEff (.ptr h p)) | .dptr c p => .ok (noEff (.dptr c p)) | _ => .fail 60).to e) : StepOk P X o a w s e := by
  have hv := ev_rep h hx
  split at he
  · rename_i hd' p e1
    cases he
    rw [e1] at hv
    obtain ⟨b, off, sz, _, h2⟩ := vr_ptr hv
    exact stepVal h hd (x := a.eval x) (by simp [execOp, ho, h2]) hv
  · rename_i c p e1
    cases he
    rw [e1] at hv
    obtain ⟨b, off, _, h2, _⟩ := vr_dptr hv
    exact stepVal h hd (x := a.eval x) (by simp [execOp, ho, h2]) hv
  · exact he.elim
theorem step_pick (h : Rep X I ρ ow s a.tmps w) (hd : dstOk X o) {c x y : Operand} {ic ix iy : IX} (ho : o.op = .pick c x y) (hc : opIX c = some ic) (hx : opIX x = some ix) (hy : opIX y = some iy) {e : Eff}
    (he : (match ev s.t ic with | .tt => R.ok (noEff (ev s.t ix)) | .ff => .ok (noEff (ev s.t iy)) | .bool z => .br z (.ok (noEff (ev s.t ix))) (.ok (noEff (ev s.t iy))) | _ => .fail 61).to e) : StepOk P X o a w s e := by
  have hv := ev_rep h hc
  have yes : a.eval c = .bool true → StepOk P X o a w s (noEff (ev s.t ix)) := fun hb => stepVal h hd (x := a.eval x) (by simp [execOp, ho, hb, asBool]) (ev_rep h hx)
  have no : a.eval c = .bool false → StepOk P X o a w s (noEff (ev s.t iy)) := fun hb => stepVal h hd (x := a.eval y) (by simp [execOp, ho, hb, asBool]) (ev_rep h hy)
  split at he
  · rename_i e1; rw [e1] at hv; cases he; exact yes (vr_tt hv)
  · rename_i e1; rw [e1] at hv; cases he; exact no (vr_ff hv)
  · rename_i z e1
    rw [e1] at hv
    have hb := vr_bool hv
    rcases he with ⟨rfl, he⟩ | ⟨rfl, he⟩
    · cases he; exact yes hb
    · cases he; exact no hb
  · exact he.elim
theorem step_neg (h : Rep X I ρ ow s a.tmps w) (hd : dstOk X o) {k : IntKind} {t : TypeId} {x : Operand} {ix : IX} (ho : o.op = .unOp .neg t x) (hx : opIX x = some ix) {e : Eff}
    (he : (match ev s.t ix with | .lit k' n => rif (k == k') 67 (.ok (noEff (.lit k (wneg k n)))) | .int k' n => rif (k == k') 67 (.ok (noEff (.int k (wneg k n)))) | _ => .fail 67).to e) : StepOk P X o a w s e := by
  have hv := ev_rep h hx
  have fin : ∀ n v, a.eval x = .int k n → (v = .int k (wneg k n) ∨ v = .lit k (wneg k n)) → StepOk P X o a w s (noEff v) := fun n v hn hv =>
    stepVal h hd (x := .int k (wneg k n)) (by simp [execOp, ho, hn, Op.unary, Op.intArith, wneg]) (numOut hv (inR_wrap _ _))
  split at he
  · rename_i k' n e1
    rw [e1] at hv
    obtain ⟨h1, h2⟩ := rif_to he
    have : k = k' := by simpa using h1
    subst this
    cases h2
    exact fin n _ (vr_lit hv).1 (.inr rfl)
  · rename_i k' n e1
    rw [e1] at hv
    obtain ⟨h1, h2⟩ := rif_to he
    have : k = k' := by simpa using h1
    subst this
    cases h2
    exact fin n _ (vr_int hv).1 (.inl rfl)
  · exact he.elim
theorem step_cpl (h : Rep X I ρ ow s a.tmps w) (hd : dstOk X o) {k : IntKind} {t : TypeId} {x : Operand} {ix : IX} (ho : o.op = .unOp .xor t x) (hx : opIX x = some ix) {e : Eff}
    (he : (match ev s.t ix with | .lit k' n => rif (k == k') 68 (.ok (noEff (.lit k (bcpl k n)))) | .int k' n => rif (k == k') 68 (.ok (noEff (.int k (bcpl k n)))) | _ => .fail 68).to e) : StepOk P X o a w s e := by
  have hv := ev_rep h hx
  have fin : ∀ n v, a.eval x = .int k n → (v = .int k (bcpl k n) ∨ v = .lit k (bcpl k n)) → StepOk P X o a w s (noEff v) := fun n v hn hv =>
    stepVal h hd (x := .int k (bcpl k n)) (by simp [execOp, ho, hn, Op.unary, Op.intBits, bcpl, bxor]) (numOut hv (inR_wrap _ _))
  split at he
  · rename_i k' n e1
    rw [e1] at hv
    obtain ⟨h1, h2⟩ := rif_to he
    have : k = k' := by simpa using h1
    subst this
    cases h2
    exact fin n _ (vr_lit hv).1 (.inr rfl)
  · rename_i k' n e1
    rw [e1] at hv
    obtain ⟨h1, h2⟩ := rif_to he
    have : k = k' := by simpa using h1
    subst this
    cases h2
    exact fin n _ (vr_int hv).1 (.inl rfl)
  · exact he.elim
theorem step_not (h : Rep X I ρ ow s a.tmps w) (hd : dstOk X o) {t : TypeId} {x : Operand} {ix : IX} (ho : o.op = .unOp .not t x) (hx : opIX x = some ix) {e : Eff}
    (he : (match ev s.t ix with | .tt => R.ok (noEff .ff) | .ff => .ok (noEff .tt) | .bool b => .ok (noEff (.bool (notB b))) | _ => .fail 69).to e) : StepOk P X o a w s e := by
  have hv := ev_rep h hx
  have fin : ∀ b v, a.eval x = .bool b → VRep I w ρ v (.bool (!b)) → StepOk P X o a w s (noEff v) := fun b v hb hv =>
    stepVal h hd (x := .bool (!b)) (by simp [execOp, ho, hb, Op.unary]) hv
  split at he
  · rename_i e1; rw [e1] at hv; cases he; exact fin _ _ (vr_tt hv) (boolV_vr false)
  · rename_i e1; rw [e1] at hv; cases he; exact fin _ _ (vr_ff hv) (boolV_vr true)
  · rename_i b e1; rw [e1] at hv; cases he; exact fin _ _ (vr_bool hv) (bool_vr _)
  · exact he.elim
theorem step_cv (h : Rep X I ρ ow s a.tmps w) (hd : dstOk X o) {k j : IntKind} {t u : TypeId} {x : Operand} {ix : IX} (ho : o.op = .convert t u x) (hu : P.underlying u = some (.int k)) (ht : P.underlying t = some (.int j)) (hx : opIX x = some ix) {e : Eff}
    (he : (match ev s.t ix with | .lit _ n => R.ok (noEff (.lit k (wcv k n))) | .int _ n => .ok (noEff (.int k (wcv k n))) | _ => .fail 70).to e) : StepOk P X o a w s e := by
  have hv := ev_rep h hx
  have fin : ∀ k' n v, a.eval x = .int k' n → (v = .int k (wcv k n) ∨ v = .lit k (wcv k n)) → StepOk P X o a w s (noEff v) := fun k' n v hn hv =>
    stepVal h hd (x := .int k (wcv k n)) (by simp [execOp, ho, hn, convert, run_underlying hu, run_underlying ht, Conv.intToInt, wcv]) (numOut hv (inR_wrap _ _))
  split at he
  · rename_i k' n e1; rw [e1] at hv; cases he; exact fin _ n _ (vr_lit hv).1 (.inr rfl)
  · rename_i k' n e1; rw [e1] at hv; cases he; exact fin _ n _ (vr_int hv).1 (.inl rfl)
  · exact he.elim
theorem minmax_in {k : IntKind} {n m : Int} (hn : inR k n) (hm : inR k m) : inR k (minI n m) ∧ inR k (maxI n m) := by
  unfold minI maxI
  constructor <;> (split <;> assumption)
theorem step_min (h : Rep X I ρ ow s a.tmps w) (hd : dstOk X o) {x y : Operand} {ix iy : IX} {ts : Array TypeId} (ho : o.op = .call { callee := .builtin .min, args := #[x, y], argTypes := ts })
    (hx : opIX x = some ix) (hy : opIX y = some iy) {e : Eff} (he : ((minR apf (ev s.t ix) (ev s.t iy)).bind fun v => .ok (noEff v)).to e) : StepOk P X o a w s e := by
  obtain ⟨v, hv, rfl⟩ := bind_to he
  have hvx := ev_rep h hx
  have hvy := ev_rep h hy
  have fin : ∀ (k : IntKind) (n m : Int), (ev s.t ix = .int k n ∨ ev s.t ix = .lit k n) → (ev s.t iy = .int k m ∨ ev s.t iy = .lit k m) →
      (v = .int k (minI n m) ∨ v = .lit k (minI n m)) → StepOk P X o a w s (noEff v) := by
    intro k n m hn hm hv
    obtain ⟨ex, rx⟩ := num_vr hvx k n hn
    obtain ⟨ey, ry⟩ := num_vr hvy k m hm
    exact stepVal h hd (x := .int k (minI n m)) (by simp [execOp, ho, Go.resolve, invoke, builtin, Builtin.min_, Builtin.min2, ex, ey, minI]) (numOut hv (minmax_in rx ry).1)
  unfold minR at hv
  split at hv
  all_goals first
    | exact hv.elim
    | (rename_i k n k' m e1 e2
       obtain ⟨h1, h2⟩ := rif_to hv
       have h1 : k = k' := by simpa using h1
       subst h1
       first
         | exact fin k n m (.inr e1) (.inr e2) (.inr h2.symm)
         | exact fin k n m (.inl e1) (.inr e2) (.inl h2.symm)
         | exact fin k n m (.inr e1) (.inl e2) (.inl h2.symm)
         | exact fin k n m (.inl e1) (.inl e2) (.inl h2.symm))
theorem step_max (h : Rep X I ρ ow s a.tmps w) (hd : dstOk X o) {x y : Operand} {ix iy : IX} {ts : Array TypeId} (ho : o.op = .call { callee := .builtin .max, args := #[x, y], argTypes := ts })
    (hx : opIX x = some ix) (hy : opIX y = some iy) {e : Eff} (he : ((maxR apf (ev s.t ix) (ev s.t iy)).bind fun v => .ok (noEff v)).to e) : StepOk P X o a w s e := by
  obtain ⟨v, hv, rfl⟩ := bind_to he
  have hvx := ev_rep h hx
  have hvy := ev_rep h hy
  have fin : ∀ (k : IntKind) (n m : Int), (ev s.t ix = .int k n ∨ ev s.t ix = .lit k n) → (ev s.t iy = .int k m ∨ ev s.t iy = .lit k m) →
      (v = .int k (maxI n m) ∨ v = .lit k (maxI n m)) → StepOk P X o a w s (noEff v) := by
    intro k n m hn hm hv
    obtain ⟨ex, rx⟩ := num_vr hvx k n hn
    obtain ⟨ey, ry⟩ := num_vr hvy k m hm
    exact stepVal h hd (x := .int k (maxI n m)) (by simp [execOp, ho, Go.resolve, invoke, builtin, Builtin.max_, Builtin.max2, ex, ey, maxI]) (numOut hv (minmax_in rx ry).2)
  unfold maxR at hv
  split at hv
  all_goals first
    | exact hv.elim
    | (rename_i k n k' m e1 e2
       obtain ⟨h1, h2⟩ := rif_to hv
       have h1 : k = k' := by simpa using h1
       subst h1
       first
         | exact fin k n m (.inr e1) (.inr e2) (.inr h2.symm)
         | exact fin k n m (.inl e1) (.inr e2) (.inl h2.symm)
         | exact fin k n m (.inr e1) (.inl e2) (.inl h2.symm)
         | exact fin k n m (.inl e1) (.inl e2) (.inl h2.symm))
end
end Go.Cx
