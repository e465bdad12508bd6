/-
  NARROWER THAN 'FOR EVERY INPUT', by the rows' own cells (each row's printed sentence says how): ShaSums: laid · ShaPieces: laid · ShaNil: laid · MacKeys: laid · MacMacs: laid · MacSame: laid · MacDerives: laid.
  DERIVED. THE GIVEN ROWS OF THIS SEAT. 7 by the template 'for every input the law returns true; each argument reads behind the call as it read before'; 0 by the template 'total and deterministic' (their statements: YteadbnnfbegpjaaDoorTotals.lean).
  GIVEN WITH THE SEED: the statements are not yours to turn. If you find one false, say at which input.
  Laid BY PROGRAM, IN A SANDBOX (cutbox-rows.mjs): the forced cells as the released guide's own fill.sh prints them over the translation c7b441b30ae9a9cb… (all of the seat's roots in one cut). By AI agents, Wed Nov 11 2026. No macro, syntax, notation, axiom, sorry.
-/
import Derived.Test.YteadbnnfbegpjaaDoorChecked
import GoSem.Claim
import GoSem.ClaimJoined
import GoSem.ClaimMapViews
import Derived.JoinedTies
import Derived.KernelRfl
namespace Go.Proofs.YteadbnnfbegpjaaDoor
/- THE CELL 'sum', in the pinned program and in every row, IS THE sha256 OF THE DUMP (.gsa) THAT YteadbnnfbegpjaaDoorProg.lean LOADS. Nothing in Lean hashes anything: it is a label: what it is worth is what the hold of that sum in a sandbox is worth. -/
noncomputable def Tryd.pinned : Pinned := { name := "yteadbnnfbegpjaadoor", sum := "c7b441b30ae9a9cb8d4bfe416fd56a7799bb6dfb8d4830dbc62babd0f79dd210", checked := Tryd.checked }
namespace Rows
def none {H : Type} : Left H := { results := [], args := [] }

/- WHAT THE LISTED PACKAGE-LEVEL VARIABLES READ AS WHEN THE CALL BEGINS. Each datum BY PROGRAM (the guide's laid-datum.mjs) off the statement by which the dump's own 'gosem.cut.vars' lays the variable. In a bare row this is a premise. The card (YteadbnnfbegpjaaDoorCards.lean) ties it to the program's text. -/
def laid_cloister_cloisterref01_k {H : Type} : DataW H := .agg [.lit (.int .u32 1116352408), .lit (.int .u32 1899447441), .lit (.int .u32 3049323471), .lit (.int .u32 3921009573), .lit (.int .u32 961987163), .lit (.int .u32 1508970993), .lit (.int .u32 2453635748), .lit (.int .u32 2870763221), .lit (.int .u32 3624381080), .lit (.int .u32 310598401), .lit (.int .u32 607225278), .lit (.int .u32 1426881987), .lit (.int .u32 1925078388), .lit (.int .u32 2162078206), .lit (.int .u32 2614888103), .lit (.int .u32 3248222580), .lit (.int .u32 3835390401), .lit (.int .u32 4022224774), .lit (.int .u32 264347078), .lit (.int .u32 604807628), .lit (.int .u32 770255983), .lit (.int .u32 1249150122), .lit (.int .u32 1555081692), .lit (.int .u32 1996064986), .lit (.int .u32 2554220882), .lit (.int .u32 2821834349), .lit (.int .u32 2952996808), .lit (.int .u32 3210313671), .lit (.int .u32 3336571891), .lit (.int .u32 3584528711), .lit (.int .u32 113926993), .lit (.int .u32 338241895), .lit (.int .u32 666307205), .lit (.int .u32 773529912), .lit (.int .u32 1294757372), .lit (.int .u32 1396182291), .lit (.int .u32 1695183700), .lit (.int .u32 1986661051), .lit (.int .u32 2177026350), .lit (.int .u32 2456956037), .lit (.int .u32 2730485921), .lit (.int .u32 2820302411), .lit (.int .u32 3259730800), .lit (.int .u32 3345764771), .lit (.int .u32 3516065817), .lit (.int .u32 3600352804), .lit (.int .u32 4094571909), .lit (.int .u32 275423344), .lit (.int .u32 430227734), .lit (.int .u32 506948616), .lit (.int .u32 659060556), .lit (.int .u32 883997877), .lit (.int .u32 958139571), .lit (.int .u32 1322822218), .lit (.int .u32 1537002063), .lit (.int .u32 1747873779), .lit (.int .u32 1955562222), .lit (.int .u32 2024104815), .lit (.int .u32 2227730452), .lit (.int .u32 2361852424), .lit (.int .u32 2428436474), .lit (.int .u32 2756734187), .lit (.int .u32 3204031479), .lit (.int .u32 3329325298)]
def laid_cloister_sha_keys {H : Type} : DataW H := .agg [.lit (.int .u32 1116352408), .lit (.int .u32 1899447441), .lit (.int .u32 3049323471), .lit (.int .u32 3921009573), .lit (.int .u32 961987163), .lit (.int .u32 1508970993), .lit (.int .u32 2453635748), .lit (.int .u32 2870763221), .lit (.int .u32 3624381080), .lit (.int .u32 310598401), .lit (.int .u32 607225278), .lit (.int .u32 1426881987), .lit (.int .u32 1925078388), .lit (.int .u32 2162078206), .lit (.int .u32 2614888103), .lit (.int .u32 3248222580), .lit (.int .u32 3835390401), .lit (.int .u32 4022224774), .lit (.int .u32 264347078), .lit (.int .u32 604807628), .lit (.int .u32 770255983), .lit (.int .u32 1249150122), .lit (.int .u32 1555081692), .lit (.int .u32 1996064986), .lit (.int .u32 2554220882), .lit (.int .u32 2821834349), .lit (.int .u32 2952996808), .lit (.int .u32 3210313671), .lit (.int .u32 3336571891), .lit (.int .u32 3584528711), .lit (.int .u32 113926993), .lit (.int .u32 338241895), .lit (.int .u32 666307205), .lit (.int .u32 773529912), .lit (.int .u32 1294757372), .lit (.int .u32 1396182291), .lit (.int .u32 1695183700), .lit (.int .u32 1986661051), .lit (.int .u32 2177026350), .lit (.int .u32 2456956037), .lit (.int .u32 2730485921), .lit (.int .u32 2820302411), .lit (.int .u32 3259730800), .lit (.int .u32 3345764771), .lit (.int .u32 3516065817), .lit (.int .u32 3600352804), .lit (.int .u32 4094571909), .lit (.int .u32 275423344), .lit (.int .u32 430227734), .lit (.int .u32 506948616), .lit (.int .u32 659060556), .lit (.int .u32 883997877), .lit (.int .u32 958139571), .lit (.int .u32 1322822218), .lit (.int .u32 1537002063), .lit (.int .u32 1747873779), .lit (.int .u32 1955562222), .lit (.int .u32 2024104815), .lit (.int .u32 2227730452), .lit (.int .u32 2361852424), .lit (.int .u32 2428436474), .lit (.int .u32 2756734187), .lit (.int .u32 3204031479), .lit (.int .u32 3329325298)]

/-- 'cloisterlaw01.ShaSums': WHATEVER THE INPUT: true; the input reads as it did. -/
def shaSumsSpec : ChangeSpec := { name := "shaSums", fn := fun _ => fun
  | [d] => { results := [.lit (.bool true)], args := [d] }
  | _ => none }
def shaSumsRow : OpenClaim := { program := "yteadbnnfbegpjaadoor", sum := "c7b441b30ae9a9cb8d4bfe416fd56a7799bb6dfb8d4830dbc62babd0f79dd210", func := "cloister/cloisterlaw01.ShaSums", spec := "shaSums", named := ["cloister/sha.keys", "cloister/cloisterref01.k"], apart := false, laid := [("cloister/cloisterref01.k", laid_cloister_cloisterref01_k), ("cloister/sha.keys", laid_cloister_sha_keys)] }
def ShaSumsSaid : Prop := shaSumsRow.holds Tryd.pinned (OpenSpec.ofChange shaSumsSpec)

/-- ITS FALSE NEIGHBOUR: 'it returns false'. Refute it at one input. -/
def shaSumsWrong : ChangeSpec := { name := "shaSums", fn := fun _ => fun
  | [d] => { results := [.lit (.bool false)], args := [d] }
  | _ => none }
def ShaSumsWrongFalsely : Prop := shaSumsRow.holds Tryd.pinned (OpenSpec.ofChange shaSumsWrong)

/-- 'cloisterlaw01.ShaPieces': WHATEVER THE INPUT: true; the input reads as it did. -/
def shaPiecesSpec : ChangeSpec := { name := "shaPieces", fn := fun _ => fun
  | [d] => { results := [.lit (.bool true)], args := [d] }
  | _ => none }
def shaPiecesRow : OpenClaim := { program := "yteadbnnfbegpjaadoor", sum := "c7b441b30ae9a9cb8d4bfe416fd56a7799bb6dfb8d4830dbc62babd0f79dd210", func := "cloister/cloisterlaw01.ShaPieces", spec := "shaPieces", named := ["cloister/sha.keys", "cloister/cloisterref01.k"], apart := false, laid := [("cloister/cloisterref01.k", laid_cloister_cloisterref01_k), ("cloister/sha.keys", laid_cloister_sha_keys)] }
def ShaPiecesSaid : Prop := shaPiecesRow.holds Tryd.pinned (OpenSpec.ofChange shaPiecesSpec)

/-- ITS FALSE NEIGHBOUR: 'it returns false'. Refute it at one input. -/
def shaPiecesWrong : ChangeSpec := { name := "shaPieces", fn := fun _ => fun
  | [d] => { results := [.lit (.bool false)], args := [d] }
  | _ => none }
def ShaPiecesWrongFalsely : Prop := shaPiecesRow.holds Tryd.pinned (OpenSpec.ofChange shaPiecesWrong)

/-- 'cloisterlaw01.ShaNil': WHATEVER THE INPUT: true; the input reads as it did. -/
def shaNilSpec : ChangeSpec := { name := "shaNil", fn := fun _ => fun
  | [d1, d2] => { results := [.lit (.bool true)], args := [d1, d2] }
  | _ => none }
def shaNilRow : OpenClaim := { program := "yteadbnnfbegpjaadoor", sum := "c7b441b30ae9a9cb8d4bfe416fd56a7799bb6dfb8d4830dbc62babd0f79dd210", func := "cloister/cloisterlaw01.ShaNil", spec := "shaNil", named := ["cloister/sha.keys", "cloister/cloisterref01.k"], apart := false, laid := [("cloister/cloisterref01.k", laid_cloister_cloisterref01_k), ("cloister/sha.keys", laid_cloister_sha_keys)] }
def ShaNilSaid : Prop := shaNilRow.holds Tryd.pinned (OpenSpec.ofChange shaNilSpec)

/-- ITS FALSE NEIGHBOUR: 'it returns false'. Refute it at one input. -/
def shaNilWrong : ChangeSpec := { name := "shaNil", fn := fun _ => fun
  | [d1, d2] => { results := [.lit (.bool false)], args := [d1, d2] }
  | _ => none }
def ShaNilWrongFalsely : Prop := shaNilRow.holds Tryd.pinned (OpenSpec.ofChange shaNilWrong)

/-- 'cloisterlaw02.MacKeys': WHATEVER THE INPUT: true; the input reads as it did. -/
def macKeysSpec : ChangeSpec := { name := "macKeys", fn := fun _ => fun
  | [d1, d2, d3] => { results := [.lit (.bool true)], args := [d1, d2, d3] }
  | _ => none }
def macKeysRow : OpenClaim := { program := "yteadbnnfbegpjaadoor", sum := "c7b441b30ae9a9cb8d4bfe416fd56a7799bb6dfb8d4830dbc62babd0f79dd210", func := "cloister/cloisterlaw02.MacKeys", spec := "macKeys", named := ["cloister/sha.keys", "cloister/cloisterref01.k"], apart := false, laid := [("cloister/cloisterref01.k", laid_cloister_cloisterref01_k), ("cloister/sha.keys", laid_cloister_sha_keys)] }
def MacKeysSaid : Prop := macKeysRow.holds Tryd.pinned (OpenSpec.ofChange macKeysSpec)

/-- ITS FALSE NEIGHBOUR: 'it returns false'. Refute it at one input. -/
def macKeysWrong : ChangeSpec := { name := "macKeys", fn := fun _ => fun
  | [d1, d2, d3] => { results := [.lit (.bool false)], args := [d1, d2, d3] }
  | _ => none }
def MacKeysWrongFalsely : Prop := macKeysRow.holds Tryd.pinned (OpenSpec.ofChange macKeysWrong)

/-- 'cloisterlaw02.MacMacs': WHATEVER THE INPUT: true; the input reads as it did. -/
def macMacsSpec : ChangeSpec := { name := "macMacs", fn := fun _ => fun
  | [d1, d2] => { results := [.lit (.bool true)], args := [d1, d2] }
  | _ => none }
def macMacsRow : OpenClaim := { program := "yteadbnnfbegpjaadoor", sum := "c7b441b30ae9a9cb8d4bfe416fd56a7799bb6dfb8d4830dbc62babd0f79dd210", func := "cloister/cloisterlaw02.MacMacs", spec := "macMacs", named := ["cloister/sha.keys", "cloister/cloisterref01.k"], apart := false, laid := [("cloister/cloisterref01.k", laid_cloister_cloisterref01_k), ("cloister/sha.keys", laid_cloister_sha_keys)] }
def MacMacsSaid : Prop := macMacsRow.holds Tryd.pinned (OpenSpec.ofChange macMacsSpec)

/-- ITS FALSE NEIGHBOUR: 'it returns false'. Refute it at one input. -/
def macMacsWrong : ChangeSpec := { name := "macMacs", fn := fun _ => fun
  | [d1, d2] => { results := [.lit (.bool false)], args := [d1, d2] }
  | _ => none }
def MacMacsWrongFalsely : Prop := macMacsRow.holds Tryd.pinned (OpenSpec.ofChange macMacsWrong)

/-- 'cloisterlaw02.MacSame': WHATEVER THE INPUT: true; the input reads as it did. -/
def macSameSpec : ChangeSpec := { name := "macSame", fn := fun _ => fun
  | [d1, d2] => { results := [.lit (.bool true)], args := [d1, d2] }
  | _ => none }
def macSameRow : OpenClaim := { program := "yteadbnnfbegpjaadoor", sum := "c7b441b30ae9a9cb8d4bfe416fd56a7799bb6dfb8d4830dbc62babd0f79dd210", func := "cloister/cloisterlaw02.MacSame", spec := "macSame", named := ["cloister/sha.keys"], apart := false, laid := [("cloister/sha.keys", laid_cloister_sha_keys)] }
def MacSameSaid : Prop := macSameRow.holds Tryd.pinned (OpenSpec.ofChange macSameSpec)

/-- ITS FALSE NEIGHBOUR: 'it returns false'. Refute it at one input. -/
def macSameWrong : ChangeSpec := { name := "macSame", fn := fun _ => fun
  | [d1, d2] => { results := [.lit (.bool false)], args := [d1, d2] }
  | _ => none }
def MacSameWrongFalsely : Prop := macSameRow.holds Tryd.pinned (OpenSpec.ofChange macSameWrong)

/-- 'cloisterlaw02.MacDerives': WHATEVER THE INPUT: true; the input reads as it did. -/
def macDerivesSpec : ChangeSpec := { name := "macDerives", fn := fun _ => fun
  | [d1, d2, d3, d4, d5] => { results := [.lit (.bool true)], args := [d1, d2, d3, d4, d5] }
  | _ => none }
def macDerivesRow : OpenClaim := { program := "yteadbnnfbegpjaadoor", sum := "c7b441b30ae9a9cb8d4bfe416fd56a7799bb6dfb8d4830dbc62babd0f79dd210", func := "cloister/cloisterlaw02.MacDerives", spec := "macDerives", named := ["cloister/sha.keys", "cloister/cloisterref01.k"], apart := false, laid := [("cloister/cloisterref01.k", laid_cloister_cloisterref01_k), ("cloister/sha.keys", laid_cloister_sha_keys)] }
def MacDerivesSaid : Prop := macDerivesRow.holds Tryd.pinned (OpenSpec.ofChange macDerivesSpec)

/-- ITS FALSE NEIGHBOUR: 'it returns false'. Refute it at one input. -/
def macDerivesWrong : ChangeSpec := { name := "macDerives", fn := fun _ => fun
  | [d1, d2, d3, d4, d5] => { results := [.lit (.bool false)], args := [d1, d2, d3, d4, d5] }
  | _ => none }
def MacDerivesWrongFalsely : Prop := macDerivesRow.holds Tryd.pinned (OpenSpec.ofChange macDerivesWrong)

/- THE SECOND FORM. 'bulk': how many values and letters a reading holds, each counted each time it is reached (what is shared counts as often as it is met; a slice's spare places count too). A statement '..UptoSaid' is the law's where the arguments, and the package variables that the reading takes, are together of bulk at most 1048576: NARROWER than '..Said'. Prove '..Said' where nothing that the law and all that it calls make is longer than what came in: it says more and counts as full. Else prove '..UptoSaid'. A law counts once. -/
mutual
def uptoBulk {H : Type} : DataW H → Nat
  | .lit (.string bytes) => bytes.length + 1
  | .lit _ => 1
  | .nil => 1
  | .ptr d => uptoBulk d + 1
  | .slice elems spare => uptoBulkAll elems + uptoBulkAll spare + 1
  | .agg parts => uptoBulkAll parts + 1
  | .iface _ d => uptoBulk d + 1
  | .map entries => uptoBulkEntries entries + 1
  | .held _ => 1
def uptoBulkAll {H : Type} : List (DataW H) → Nat
  | [] => 0
  | d :: r => uptoBulk d + uptoBulkAll r
def uptoBulkEntries {H : Type} : List (Lit × DataW H) → Nat
  | [] => 0
  | x :: r => uptoBulkEntry x + uptoBulkEntries r
def uptoBulkEntry {H : Type} : Lit × DataW H → Nat
  | (.string bytes, d) => bytes.length + uptoBulk d + 1
  | (_, d) => uptoBulk d + 1
 end
def uptoSmall : (H : Type) → List (DataW H) → Bool := fun _ ds => decide (uptoBulkAll ds ≤ 1048576)
def OpenSpec.upto (s : _root_.Go.ChangeSpec) : _root_.Go.OpenSpec := { _root_.Go.OpenSpec.ofChange s with cond := some uptoSmall }

/-- 'cloisterlaw01.ShaSums', WHERE WHAT IT READS IS OF BULK AT MOST 1048576: true; the input reads as it did. -/
def shaSumsUptoRow : OpenClaim := { program := "yteadbnnfbegpjaadoor", sum := "c7b441b30ae9a9cb8d4bfe416fd56a7799bb6dfb8d4830dbc62babd0f79dd210", func := "cloister/cloisterlaw01.ShaSums", spec := "shaSums", named := ["cloister/sha.keys", "cloister/cloisterref01.k"], apart := false, laid := [("cloister/cloisterref01.k", laid_cloister_cloisterref01_k), ("cloister/sha.keys", laid_cloister_sha_keys)], narrowed := true }
def ShaSumsUptoSaid : Prop := shaSumsUptoRow.holds Tryd.pinned (OpenSpec.upto shaSumsSpec)

/-- 'cloisterlaw01.ShaPieces', WHERE WHAT IT READS IS OF BULK AT MOST 1048576: true; the input reads as it did. -/
def shaPiecesUptoRow : OpenClaim := { program := "yteadbnnfbegpjaadoor", sum := "c7b441b30ae9a9cb8d4bfe416fd56a7799bb6dfb8d4830dbc62babd0f79dd210", func := "cloister/cloisterlaw01.ShaPieces", spec := "shaPieces", named := ["cloister/sha.keys", "cloister/cloisterref01.k"], apart := false, laid := [("cloister/cloisterref01.k", laid_cloister_cloisterref01_k), ("cloister/sha.keys", laid_cloister_sha_keys)], narrowed := true }
def ShaPiecesUptoSaid : Prop := shaPiecesUptoRow.holds Tryd.pinned (OpenSpec.upto shaPiecesSpec)

/-- 'cloisterlaw01.ShaNil', WHERE WHAT IT READS IS OF BULK AT MOST 1048576: true; the input reads as it did. -/
def shaNilUptoRow : OpenClaim := { program := "yteadbnnfbegpjaadoor", sum := "c7b441b30ae9a9cb8d4bfe416fd56a7799bb6dfb8d4830dbc62babd0f79dd210", func := "cloister/cloisterlaw01.ShaNil", spec := "shaNil", named := ["cloister/sha.keys", "cloister/cloisterref01.k"], apart := false, laid := [("cloister/cloisterref01.k", laid_cloister_cloisterref01_k), ("cloister/sha.keys", laid_cloister_sha_keys)], narrowed := true }
def ShaNilUptoSaid : Prop := shaNilUptoRow.holds Tryd.pinned (OpenSpec.upto shaNilSpec)

/-- 'cloisterlaw02.MacKeys', WHERE WHAT IT READS IS OF BULK AT MOST 1048576: true; the input reads as it did. -/
def macKeysUptoRow : OpenClaim := { program := "yteadbnnfbegpjaadoor", sum := "c7b441b30ae9a9cb8d4bfe416fd56a7799bb6dfb8d4830dbc62babd0f79dd210", func := "cloister/cloisterlaw02.MacKeys", spec := "macKeys", named := ["cloister/sha.keys", "cloister/cloisterref01.k"], apart := false, laid := [("cloister/cloisterref01.k", laid_cloister_cloisterref01_k), ("cloister/sha.keys", laid_cloister_sha_keys)], narrowed := true }
def MacKeysUptoSaid : Prop := macKeysUptoRow.holds Tryd.pinned (OpenSpec.upto macKeysSpec)

/-- 'cloisterlaw02.MacMacs', WHERE WHAT IT READS IS OF BULK AT MOST 1048576: true; the input reads as it did. -/
def macMacsUptoRow : OpenClaim := { program := "yteadbnnfbegpjaadoor", sum := "c7b441b30ae9a9cb8d4bfe416fd56a7799bb6dfb8d4830dbc62babd0f79dd210", func := "cloister/cloisterlaw02.MacMacs", spec := "macMacs", named := ["cloister/sha.keys", "cloister/cloisterref01.k"], apart := false, laid := [("cloister/cloisterref01.k", laid_cloister_cloisterref01_k), ("cloister/sha.keys", laid_cloister_sha_keys)], narrowed := true }
def MacMacsUptoSaid : Prop := macMacsUptoRow.holds Tryd.pinned (OpenSpec.upto macMacsSpec)

/-- 'cloisterlaw02.MacSame', WHERE WHAT IT READS IS OF BULK AT MOST 1048576: true; the input reads as it did. -/
def macSameUptoRow : OpenClaim := { program := "yteadbnnfbegpjaadoor", sum := "c7b441b30ae9a9cb8d4bfe416fd56a7799bb6dfb8d4830dbc62babd0f79dd210", func := "cloister/cloisterlaw02.MacSame", spec := "macSame", named := ["cloister/sha.keys"], apart := false, laid := [("cloister/sha.keys", laid_cloister_sha_keys)], narrowed := true }
def MacSameUptoSaid : Prop := macSameUptoRow.holds Tryd.pinned (OpenSpec.upto macSameSpec)

/-- 'cloisterlaw02.MacDerives', WHERE WHAT IT READS IS OF BULK AT MOST 1048576: true; the input reads as it did. -/
def macDerivesUptoRow : OpenClaim := { program := "yteadbnnfbegpjaadoor", sum := "c7b441b30ae9a9cb8d4bfe416fd56a7799bb6dfb8d4830dbc62babd0f79dd210", func := "cloister/cloisterlaw02.MacDerives", spec := "macDerives", named := ["cloister/sha.keys", "cloister/cloisterref01.k"], apart := false, laid := [("cloister/cloisterref01.k", laid_cloister_cloisterref01_k), ("cloister/sha.keys", laid_cloister_sha_keys)], narrowed := true }
def MacDerivesUptoSaid : Prop := macDerivesUptoRow.holds Tryd.pinned (OpenSpec.upto macDerivesSpec)

end Rows
end Go.Proofs.YteadbnnfbegpjaaDoor
