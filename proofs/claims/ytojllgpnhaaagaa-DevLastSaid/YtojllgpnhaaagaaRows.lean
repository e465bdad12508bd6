/-
  No cell of these rows narrows 'for every input' (looked for: loops, veiled, ifaces, maps, wideKeys, modest, calm, conditions, laid).
  DERIVED. THE GIVEN ROWS OF THIS SEAT. 5 by the template 'for every input the law returns true; each argument reads behind the call as it read before'; 0 by the template 'total and deterministic' (their statements: YtojllgpnhaaagaaTotals.lean).
  GIVEN WITH THE SEED: the statements are not yours to turn. If you find one false, say at which input.
  Laid BY PROGRAM, IN A SANDBOX (cutbox-rows.mjs): the forced cells as the released guide's own fill.sh prints them over the translation 64b54529028e74a7… (all of the seat's roots in one cut). By AI agents, Wed Nov 11 2026. No macro, syntax, notation, axiom, sorry.
-/
import Derived.Test.YtojllgpnhaaagaaChecked
import GoSem.Claim
import GoSem.ClaimJoined
import GoSem.ClaimMapViews
import Derived.JoinedTies
import Derived.KernelRfl
namespace Go.Proofs.Ytojllgpnhaaagaa
/- THE CELL 'sum', in the pinned program and in every row, IS THE sha256 OF THE DUMP (.gsa) THAT YtojllgpnhaaagaaProg.lean LOADS. Nothing in Lean hashes anything: it is a label: what it is worth is what the hold of that sum in a sandbox is worth. -/
noncomputable def Try.pinned : Pinned := { name := "ytojllgpnhaaagaa", sum := "64b54529028e74a76c80f44537dfac61ee9b8444f9e2d0e3aa9bd2c645582d38", checked := Try.checked }
namespace Rows
def none {H : Type} : Left H := { results := [], args := [] }

/-- 'cloisterlaw06.DevFaulty': WHATEVER THE INPUT: true; the input reads as it did. -/
def devFaultySpec : ChangeSpec := { name := "devFaulty", fn := fun _ => fun
  | [d1, d2] => { results := [.lit (.bool true)], args := [d1, d2] }
  | _ => none }
def devFaultyRow : OpenClaim := { program := "ytojllgpnhaaagaa", sum := "64b54529028e74a76c80f44537dfac61ee9b8444f9e2d0e3aa9bd2c645582d38", func := "cloister/cloisterlaw06.DevFaulty", spec := "devFaulty", apart := false }
def DevFaultySaid : Prop := devFaultyRow.holds Try.pinned (OpenSpec.ofChange devFaultySpec)

/-- ITS FALSE NEIGHBOUR: 'it returns false'. Refute it at one input. -/
def devFaultyWrong : ChangeSpec := { name := "devFaulty", fn := fun _ => fun
  | [d1, d2] => { results := [.lit (.bool false)], args := [d1, d2] }
  | _ => none }
def DevFaultyWrongFalsely : Prop := devFaultyRow.holds Try.pinned (OpenSpec.ofChange devFaultyWrong)

/-- 'cloisterlaw06.DevLast': WHATEVER THE INPUT: true; the input reads as it did. -/
def devLastSpec : ChangeSpec := { name := "devLast", fn := fun _ => fun
  | [d1, d2, d3] => { results := [.lit (.bool true)], args := [d1, d2, d3] }
  | _ => none }
def devLastRow : OpenClaim := { program := "ytojllgpnhaaagaa", sum := "64b54529028e74a76c80f44537dfac61ee9b8444f9e2d0e3aa9bd2c645582d38", func := "cloister/cloisterlaw06.DevLast", spec := "devLast", apart := false }
def DevLastSaid : Prop := devLastRow.holds Try.pinned (OpenSpec.ofChange devLastSpec)

/-- ITS FALSE NEIGHBOUR: 'it returns false'. Refute it at one input. -/
def devLastWrong : ChangeSpec := { name := "devLast", fn := fun _ => fun
  | [d1, d2, d3] => { results := [.lit (.bool false)], args := [d1, d2, d3] }
  | _ => none }
def DevLastWrongFalsely : Prop := devLastRow.holds Try.pinned (OpenSpec.ofChange devLastWrong)

/-- 'cloisterlaw06.DevFlushed': WHATEVER THE INPUT: true; the input reads as it did. -/
def devFlushedSpec : ChangeSpec := { name := "devFlushed", fn := fun _ => fun
  | [d1, d2, d3] => { results := [.lit (.bool true)], args := [d1, d2, d3] }
  | _ => none }
def devFlushedRow : OpenClaim := { program := "ytojllgpnhaaagaa", sum := "64b54529028e74a76c80f44537dfac61ee9b8444f9e2d0e3aa9bd2c645582d38", func := "cloister/cloisterlaw06.DevFlushed", spec := "devFlushed", apart := false }
def DevFlushedSaid : Prop := devFlushedRow.holds Try.pinned (OpenSpec.ofChange devFlushedSpec)

/-- ITS FALSE NEIGHBOUR: 'it returns false'. Refute it at one input. -/
def devFlushedWrong : ChangeSpec := { name := "devFlushed", fn := fun _ => fun
  | [d1, d2, d3] => { results := [.lit (.bool false)], args := [d1, d2, d3] }
  | _ => none }
def DevFlushedWrongFalsely : Prop := devFlushedRow.holds Try.pinned (OpenSpec.ofChange devFlushedWrong)

/-- 'cloisterlaw06.DevPlays': WHATEVER THE INPUT: true; the input reads as it did. -/
def devPlaysSpec : ChangeSpec := { name := "devPlays", fn := fun _ => fun
  | [d1, d2, d3, d4] => { results := [.lit (.bool true)], args := [d1, d2, d3, d4] }
  | _ => none }
def devPlaysRow : OpenClaim := { program := "ytojllgpnhaaagaa", sum := "64b54529028e74a76c80f44537dfac61ee9b8444f9e2d0e3aa9bd2c645582d38", func := "cloister/cloisterlaw06.DevPlays", spec := "devPlays", unfollowed := true, recurses := true, apart := false }
def DevPlaysSaid : Prop := devPlaysRow.holds Try.pinned (OpenSpec.ofChange devPlaysSpec)

/-- ITS FALSE NEIGHBOUR: 'it returns false'. Refute it at one input. -/
def devPlaysWrong : ChangeSpec := { name := "devPlays", fn := fun _ => fun
  | [d1, d2, d3, d4] => { results := [.lit (.bool false)], args := [d1, d2, d3, d4] }
  | _ => none }
def DevPlaysWrongFalsely : Prop := devPlaysRow.holds Try.pinned (OpenSpec.ofChange devPlaysWrong)

/-- 'cloisterlaw06.DevNil': WHATEVER THE INPUT: true; the input reads as it did. -/
def devNilSpec : ChangeSpec := { name := "devNil", fn := fun _ => fun
  | [d1, d2, d3] => { results := [.lit (.bool true)], args := [d1, d2, d3] }
  | _ => none }
def devNilRow : OpenClaim := { program := "ytojllgpnhaaagaa", sum := "64b54529028e74a76c80f44537dfac61ee9b8444f9e2d0e3aa9bd2c645582d38", func := "cloister/cloisterlaw06.DevNil", spec := "devNil", unfollowed := true, recurses := true, apart := false }
def DevNilSaid : Prop := devNilRow.holds Try.pinned (OpenSpec.ofChange devNilSpec)

/-- ITS FALSE NEIGHBOUR: 'it returns false'. Refute it at one input. -/
def devNilWrong : ChangeSpec := { name := "devNil", fn := fun _ => fun
  | [d1, d2, d3] => { results := [.lit (.bool false)], args := [d1, d2, d3] }
  | _ => none }
def DevNilWrongFalsely : Prop := devNilRow.holds Try.pinned (OpenSpec.ofChange devNilWrong)

/- THE SECOND FORM. 'bulk': how many values and letters a reading holds, each counted each time it is reached (what is shared counts as often as it is met; a slice's spare places count too). A statement '..UptoSaid' is the law's where the arguments, and the package variables that the reading takes, are together of bulk at most 1048576: NARROWER than '..Said'. Prove '..Said' where nothing that the law and all that it calls make is longer than what came in: it says more and counts as full. Else prove '..UptoSaid'. A law counts once. -/
mutual
def uptoBulk {H : Type} : DataW H → Nat
  | .lit (.string bytes) => bytes.length + 1
  | .lit _ => 1
  | .nil => 1
  | .ptr d => uptoBulk d + 1
  | .slice elems spare => uptoBulkAll elems + uptoBulkAll spare + 1
  | .agg parts => uptoBulkAll parts + 1
  | .iface _ d => uptoBulk d + 1
  | .map entries => uptoBulkEntries entries + 1
  | .held _ => 1
def uptoBulkAll {H : Type} : List (DataW H) → Nat
  | [] => 0
  | d :: r => uptoBulk d + uptoBulkAll r
def uptoBulkEntries {H : Type} : List (Lit × DataW H) → Nat
  | [] => 0
  | x :: r => uptoBulkEntry x + uptoBulkEntries r
def uptoBulkEntry {H : Type} : Lit × DataW H → Nat
  | (.string bytes, d) => bytes.length + uptoBulk d + 1
  | (_, d) => uptoBulk d + 1
 end
def uptoSmall : (H : Type) → List (DataW H) → Bool := fun _ ds => decide (uptoBulkAll ds ≤ 1048576)
def OpenSpec.upto (s : _root_.Go.ChangeSpec) : _root_.Go.OpenSpec := { _root_.Go.OpenSpec.ofChange s with cond := some uptoSmall }

/-- 'cloisterlaw06.DevFaulty', WHERE WHAT IT READS IS OF BULK AT MOST 1048576: true; the input reads as it did. -/
def devFaultyUptoRow : OpenClaim := { program := "ytojllgpnhaaagaa", sum := "64b54529028e74a76c80f44537dfac61ee9b8444f9e2d0e3aa9bd2c645582d38", func := "cloister/cloisterlaw06.DevFaulty", spec := "devFaulty", apart := false, narrowed := true }
def DevFaultyUptoSaid : Prop := devFaultyUptoRow.holds Try.pinned (OpenSpec.upto devFaultySpec)

/-- 'cloisterlaw06.DevLast', WHERE WHAT IT READS IS OF BULK AT MOST 1048576: true; the input reads as it did. -/
def devLastUptoRow : OpenClaim := { program := "ytojllgpnhaaagaa", sum := "64b54529028e74a76c80f44537dfac61ee9b8444f9e2d0e3aa9bd2c645582d38", func := "cloister/cloisterlaw06.DevLast", spec := "devLast", apart := false, narrowed := true }
def DevLastUptoSaid : Prop := devLastUptoRow.holds Try.pinned (OpenSpec.upto devLastSpec)

/-- 'cloisterlaw06.DevFlushed', WHERE WHAT IT READS IS OF BULK AT MOST 1048576: true; the input reads as it did. -/
def devFlushedUptoRow : OpenClaim := { program := "ytojllgpnhaaagaa", sum := "64b54529028e74a76c80f44537dfac61ee9b8444f9e2d0e3aa9bd2c645582d38", func := "cloister/cloisterlaw06.DevFlushed", spec := "devFlushed", apart := false, narrowed := true }
def DevFlushedUptoSaid : Prop := devFlushedUptoRow.holds Try.pinned (OpenSpec.upto devFlushedSpec)

/-- 'cloisterlaw06.DevPlays', WHERE WHAT IT READS IS OF BULK AT MOST 1048576: true; the input reads as it did. -/
def devPlaysUptoRow : OpenClaim := { program := "ytojllgpnhaaagaa", sum := "64b54529028e74a76c80f44537dfac61ee9b8444f9e2d0e3aa9bd2c645582d38", func := "cloister/cloisterlaw06.DevPlays", spec := "devPlays", unfollowed := true, recurses := true, apart := false, narrowed := true }
def DevPlaysUptoSaid : Prop := devPlaysUptoRow.holds Try.pinned (OpenSpec.upto devPlaysSpec)

/-- 'cloisterlaw06.DevNil', WHERE WHAT IT READS IS OF BULK AT MOST 1048576: true; the input reads as it did. -/
def devNilUptoRow : OpenClaim := { program := "ytojllgpnhaaagaa", sum := "64b54529028e74a76c80f44537dfac61ee9b8444f9e2d0e3aa9bd2c645582d38", func := "cloister/cloisterlaw06.DevNil", spec := "devNil", unfollowed := true, recurses := true, apart := false, narrowed := true }
def DevNilUptoSaid : Prop := devNilUptoRow.holds Try.pinned (OpenSpec.upto devNilSpec)

end Rows
end Go.Proofs.Ytojllgpnhaaagaa
