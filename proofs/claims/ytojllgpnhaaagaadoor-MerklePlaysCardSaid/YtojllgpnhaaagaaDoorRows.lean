/-
  NARROWER THAN 'FOR EVERY INPUT', by the rows' own cells (each row's printed sentence says how): MerkleUnlike: laid · MerkleOrder: laid · MerklePlays: laid · MerkleNil: laid · MerkleFolds: laid · SlotsWrap: laid · SlotsUnwrap: laid · SlotsDecode: laid · SlotsBack: laid · JournalPacks: laid · JournalUnpacks: laid · JournalBack: laid · SuperEncodes: laid · SuperDecodes: laid · SuperBack: laid · SealCloses: laid · SealOpens: laid · SealBack: laid.
  DERIVED. THE GIVEN ROWS OF THIS SEAT. 18 by the template 'for every input the law returns true; each argument reads behind the call as it read before'; 0 by the template 'total and deterministic' (their statements: YtojllgpnhaaagaaDoorTotals.lean).
  GIVEN WITH THE SEED: the statements are not yours to turn. If you find one false, say at which input.
  Laid BY PROGRAM, IN A SANDBOX (cutbox-rows.mjs): the forced cells as the released guide's own fill.sh prints them over the translation 0f006e321599f0a3… (all of the seat's roots in one cut). By AI agents, Wed Nov 11 2026. No macro, syntax, notation, axiom, sorry.
-/
import Derived.Test.YtojllgpnhaaagaaDoorChecked
import GoSem.Claim
import GoSem.ClaimJoined
import GoSem.ClaimMapViews
import Derived.JoinedTies
import Derived.KernelRfl
namespace Go.Proofs.YtojllgpnhaaagaaDoor
/- THE CELL 'sum', in the pinned program and in every row, IS THE sha256 OF THE DUMP (.gsa) THAT YtojllgpnhaaagaaDoorProg.lean LOADS. Nothing in Lean hashes anything: it is a label: what it is worth is what the hold of that sum in a sandbox is worth. -/
noncomputable def Tryd.pinned : Pinned := { name := "ytojllgpnhaaagaadoor", sum := "0f006e321599f0a36788f15be8ea502cdd79644d780426eb8c90f751a099ecf8", checked := Tryd.checked }
namespace Rows
def none {H : Type} : Left H := { results := [], args := [] }

/- WHAT THE LISTED PACKAGE-LEVEL VARIABLES READ AS WHEN THE CALL BEGINS. Each datum BY PROGRAM (the guide's laid-datum.mjs) off the statement by which the dump's own 'gosem.cut.vars' lays the variable. In a bare row this is a premise. The card (YtojllgpnhaaagaaDoorCards.lean) ties it to the program's text. -/
def laid_cloister_cloisterref01_k {H : Type} : DataW H := .agg [.lit (.int .u32 1116352408), .lit (.int .u32 1899447441), .lit (.int .u32 3049323471), .lit (.int .u32 3921009573), .lit (.int .u32 961987163), .lit (.int .u32 1508970993), .lit (.int .u32 2453635748), .lit (.int .u32 2870763221), .lit (.int .u32 3624381080), .lit (.int .u32 310598401), .lit (.int .u32 607225278), .lit (.int .u32 1426881987), .lit (.int .u32 1925078388), .lit (.int .u32 2162078206), .lit (.int .u32 2614888103), .lit (.int .u32 3248222580), .lit (.int .u32 3835390401), .lit (.int .u32 4022224774), .lit (.int .u32 264347078), .lit (.int .u32 604807628), .lit (.int .u32 770255983), .lit (.int .u32 1249150122), .lit (.int .u32 1555081692), .lit (.int .u32 1996064986), .lit (.int .u32 2554220882), .lit (.int .u32 2821834349), .lit (.int .u32 2952996808), .lit (.int .u32 3210313671), .lit (.int .u32 3336571891), .lit (.int .u32 3584528711), .lit (.int .u32 113926993), .lit (.int .u32 338241895), .lit (.int .u32 666307205), .lit (.int .u32 773529912), .lit (.int .u32 1294757372), .lit (.int .u32 1396182291), .lit (.int .u32 1695183700), .lit (.int .u32 1986661051), .lit (.int .u32 2177026350), .lit (.int .u32 2456956037), .lit (.int .u32 2730485921), .lit (.int .u32 2820302411), .lit (.int .u32 3259730800), .lit (.int .u32 3345764771), .lit (.int .u32 3516065817), .lit (.int .u32 3600352804), .lit (.int .u32 4094571909), .lit (.int .u32 275423344), .lit (.int .u32 430227734), .lit (.int .u32 506948616), .lit (.int .u32 659060556), .lit (.int .u32 883997877), .lit (.int .u32 958139571), .lit (.int .u32 1322822218), .lit (.int .u32 1537002063), .lit (.int .u32 1747873779), .lit (.int .u32 1955562222), .lit (.int .u32 2024104815), .lit (.int .u32 2227730452), .lit (.int .u32 2361852424), .lit (.int .u32 2428436474), .lit (.int .u32 2756734187), .lit (.int .u32 3204031479), .lit (.int .u32 3329325298)]
def laid_cloister_sha_keys {H : Type} : DataW H := .agg [.lit (.int .u32 1116352408), .lit (.int .u32 1899447441), .lit (.int .u32 3049323471), .lit (.int .u32 3921009573), .lit (.int .u32 961987163), .lit (.int .u32 1508970993), .lit (.int .u32 2453635748), .lit (.int .u32 2870763221), .lit (.int .u32 3624381080), .lit (.int .u32 310598401), .lit (.int .u32 607225278), .lit (.int .u32 1426881987), .lit (.int .u32 1925078388), .lit (.int .u32 2162078206), .lit (.int .u32 2614888103), .lit (.int .u32 3248222580), .lit (.int .u32 3835390401), .lit (.int .u32 4022224774), .lit (.int .u32 264347078), .lit (.int .u32 604807628), .lit (.int .u32 770255983), .lit (.int .u32 1249150122), .lit (.int .u32 1555081692), .lit (.int .u32 1996064986), .lit (.int .u32 2554220882), .lit (.int .u32 2821834349), .lit (.int .u32 2952996808), .lit (.int .u32 3210313671), .lit (.int .u32 3336571891), .lit (.int .u32 3584528711), .lit (.int .u32 113926993), .lit (.int .u32 338241895), .lit (.int .u32 666307205), .lit (.int .u32 773529912), .lit (.int .u32 1294757372), .lit (.int .u32 1396182291), .lit (.int .u32 1695183700), .lit (.int .u32 1986661051), .lit (.int .u32 2177026350), .lit (.int .u32 2456956037), .lit (.int .u32 2730485921), .lit (.int .u32 2820302411), .lit (.int .u32 3259730800), .lit (.int .u32 3345764771), .lit (.int .u32 3516065817), .lit (.int .u32 3600352804), .lit (.int .u32 4094571909), .lit (.int .u32 275423344), .lit (.int .u32 430227734), .lit (.int .u32 506948616), .lit (.int .u32 659060556), .lit (.int .u32 883997877), .lit (.int .u32 958139571), .lit (.int .u32 1322822218), .lit (.int .u32 1537002063), .lit (.int .u32 1747873779), .lit (.int .u32 1955562222), .lit (.int .u32 2024104815), .lit (.int .u32 2227730452), .lit (.int .u32 2361852424), .lit (.int .u32 2428436474), .lit (.int .u32 2756734187), .lit (.int .u32 3204031479), .lit (.int .u32 3329325298)]

/-- 'cloisterlaw10.MerkleUnlike': WHATEVER THE INPUT: true; the input reads as it did. -/
def merkleUnlikeSpec : ChangeSpec := { name := "merkleUnlike", fn := fun _ => fun
  | [d1, d2, d3] => { results := [.lit (.bool true)], args := [d1, d2, d3] }
  | _ => none }
def merkleUnlikeRow : OpenClaim := { program := "ytojllgpnhaaagaadoor", sum := "0f006e321599f0a36788f15be8ea502cdd79644d780426eb8c90f751a099ecf8", func := "cloister/cloisterlaw10.MerkleUnlike", spec := "merkleUnlike", named := ["cloister/sha.keys", "cloister/cloisterref01.k"], apart := false, laid := [("cloister/cloisterref01.k", laid_cloister_cloisterref01_k), ("cloister/sha.keys", laid_cloister_sha_keys)] }
def MerkleUnlikeSaid : Prop := merkleUnlikeRow.holds Tryd.pinned (OpenSpec.ofChange merkleUnlikeSpec)

/-- ITS FALSE NEIGHBOUR: 'it returns false'. Refute it at one input. -/
def merkleUnlikeWrong : ChangeSpec := { name := "merkleUnlike", fn := fun _ => fun
  | [d1, d2, d3] => { results := [.lit (.bool false)], args := [d1, d2, d3] }
  | _ => none }
def MerkleUnlikeWrongFalsely : Prop := merkleUnlikeRow.holds Tryd.pinned (OpenSpec.ofChange merkleUnlikeWrong)

/-- 'cloisterlaw10.MerkleOrder': WHATEVER THE INPUT: true; the input reads as it did. -/
def merkleOrderSpec : ChangeSpec := { name := "merkleOrder", fn := fun _ => fun
  | [d] => { results := [.lit (.bool true)], args := [d] }
  | _ => none }
def merkleOrderRow : OpenClaim := { program := "ytojllgpnhaaagaadoor", sum := "0f006e321599f0a36788f15be8ea502cdd79644d780426eb8c90f751a099ecf8", func := "cloister/cloisterlaw10.MerkleOrder", spec := "merkleOrder", named := ["cloister/sha.keys", "cloister/cloisterref01.k"], apart := false, laid := [("cloister/cloisterref01.k", laid_cloister_cloisterref01_k), ("cloister/sha.keys", laid_cloister_sha_keys)] }
def MerkleOrderSaid : Prop := merkleOrderRow.holds Tryd.pinned (OpenSpec.ofChange merkleOrderSpec)

/-- ITS FALSE NEIGHBOUR: 'it returns false'. Refute it at one input. -/
def merkleOrderWrong : ChangeSpec := { name := "merkleOrder", fn := fun _ => fun
  | [d] => { results := [.lit (.bool false)], args := [d] }
  | _ => none }
def MerkleOrderWrongFalsely : Prop := merkleOrderRow.holds Tryd.pinned (OpenSpec.ofChange merkleOrderWrong)

/-- 'cloisterlaw10.MerklePlays': WHATEVER THE INPUT: true; the input reads as it did. -/
def merklePlaysSpec : ChangeSpec := { name := "merklePlays", fn := fun _ => fun
  | [d1, d2] => { results := [.lit (.bool true)], args := [d1, d2] }
  | _ => none }
def merklePlaysRow : OpenClaim := { program := "ytojllgpnhaaagaadoor", sum := "0f006e321599f0a36788f15be8ea502cdd79644d780426eb8c90f751a099ecf8", func := "cloister/cloisterlaw10.MerklePlays", spec := "merklePlays", named := ["cloister/sha.keys", "cloister/cloisterref01.k"], apart := false, laid := [("cloister/cloisterref01.k", laid_cloister_cloisterref01_k), ("cloister/sha.keys", laid_cloister_sha_keys)] }
def MerklePlaysSaid : Prop := merklePlaysRow.holds Tryd.pinned (OpenSpec.ofChange merklePlaysSpec)

/-- ITS FALSE NEIGHBOUR: 'it returns false'. Refute it at one input. -/
def merklePlaysWrong : ChangeSpec := { name := "merklePlays", fn := fun _ => fun
  | [d1, d2] => { results := [.lit (.bool false)], args := [d1, d2] }
  | _ => none }
def MerklePlaysWrongFalsely : Prop := merklePlaysRow.holds Tryd.pinned (OpenSpec.ofChange merklePlaysWrong)

/-- 'cloisterlaw10.MerkleNil': WHATEVER THE INPUT: true; the input reads as it did. -/
def merkleNilSpec : ChangeSpec := { name := "merkleNil", fn := fun _ => fun
  | [d1, d2] => { results := [.lit (.bool true)], args := [d1, d2] }
  | _ => none }
def merkleNilRow : OpenClaim := { program := "ytojllgpnhaaagaadoor", sum := "0f006e321599f0a36788f15be8ea502cdd79644d780426eb8c90f751a099ecf8", func := "cloister/cloisterlaw10.MerkleNil", spec := "merkleNil", named := ["cloister/sha.keys", "cloister/cloisterref01.k"], apart := false, laid := [("cloister/cloisterref01.k", laid_cloister_cloisterref01_k), ("cloister/sha.keys", laid_cloister_sha_keys)] }
def MerkleNilSaid : Prop := merkleNilRow.holds Tryd.pinned (OpenSpec.ofChange merkleNilSpec)

/-- ITS FALSE NEIGHBOUR: 'it returns false'. Refute it at one input. -/
def merkleNilWrong : ChangeSpec := { name := "merkleNil", fn := fun _ => fun
  | [d1, d2] => { results := [.lit (.bool false)], args := [d1, d2] }
  | _ => none }
def MerkleNilWrongFalsely : Prop := merkleNilRow.holds Tryd.pinned (OpenSpec.ofChange merkleNilWrong)

/-- 'cloisterlaw10.MerkleFolds': WHATEVER THE INPUT: true; the input reads as it did. -/
def merkleFoldsSpec : ChangeSpec := { name := "merkleFolds", fn := fun _ => fun
  | [d1, d2, d3, d4, d5] => { results := [.lit (.bool true)], args := [d1, d2, d3, d4, d5] }
  | _ => none }
def merkleFoldsRow : OpenClaim := { program := "ytojllgpnhaaagaadoor", sum := "0f006e321599f0a36788f15be8ea502cdd79644d780426eb8c90f751a099ecf8", func := "cloister/cloisterlaw10.MerkleFolds", spec := "merkleFolds", named := ["cloister/sha.keys", "cloister/cloisterref01.k"], apart := false, laid := [("cloister/cloisterref01.k", laid_cloister_cloisterref01_k), ("cloister/sha.keys", laid_cloister_sha_keys)] }
def MerkleFoldsSaid : Prop := merkleFoldsRow.holds Tryd.pinned (OpenSpec.ofChange merkleFoldsSpec)

/-- ITS FALSE NEIGHBOUR: 'it returns false'. Refute it at one input. -/
def merkleFoldsWrong : ChangeSpec := { name := "merkleFolds", fn := fun _ => fun
  | [d1, d2, d3, d4, d5] => { results := [.lit (.bool false)], args := [d1, d2, d3, d4, d5] }
  | _ => none }
def MerkleFoldsWrongFalsely : Prop := merkleFoldsRow.holds Tryd.pinned (OpenSpec.ofChange merkleFoldsWrong)

/-- 'cloisterlaw08.SlotsWrap': WHATEVER THE INPUT: true; the input reads as it did. -/
def slotsWrapSpec : ChangeSpec := { name := "slotsWrap", fn := fun _ => fun
  | [d1, d2, d3, d4, d5] => { results := [.lit (.bool true)], args := [d1, d2, d3, d4, d5] }
  | _ => none }
def slotsWrapRow : OpenClaim := { program := "ytojllgpnhaaagaadoor", sum := "0f006e321599f0a36788f15be8ea502cdd79644d780426eb8c90f751a099ecf8", func := "cloister/cloisterlaw08.SlotsWrap", spec := "slotsWrap", named := ["cloister/sha.keys", "cloister/cloisterref01.k"], apart := false, laid := [("cloister/cloisterref01.k", laid_cloister_cloisterref01_k), ("cloister/sha.keys", laid_cloister_sha_keys)] }
def SlotsWrapSaid : Prop := slotsWrapRow.holds Tryd.pinned (OpenSpec.ofChange slotsWrapSpec)

/-- ITS FALSE NEIGHBOUR: 'it returns false'. Refute it at one input. -/
def slotsWrapWrong : ChangeSpec := { name := "slotsWrap", fn := fun _ => fun
  | [d1, d2, d3, d4, d5] => { results := [.lit (.bool false)], args := [d1, d2, d3, d4, d5] }
  | _ => none }
def SlotsWrapWrongFalsely : Prop := slotsWrapRow.holds Tryd.pinned (OpenSpec.ofChange slotsWrapWrong)

/-- 'cloisterlaw08.SlotsUnwrap': WHATEVER THE INPUT: true; the input reads as it did. -/
def slotsUnwrapSpec : ChangeSpec := { name := "slotsUnwrap", fn := fun _ => fun
  | [d1, d2] => { results := [.lit (.bool true)], args := [d1, d2] }
  | _ => none }
def slotsUnwrapRow : OpenClaim := { program := "ytojllgpnhaaagaadoor", sum := "0f006e321599f0a36788f15be8ea502cdd79644d780426eb8c90f751a099ecf8", func := "cloister/cloisterlaw08.SlotsUnwrap", spec := "slotsUnwrap", named := ["cloister/sha.keys", "cloister/cloisterref01.k"], apart := false, laid := [("cloister/cloisterref01.k", laid_cloister_cloisterref01_k), ("cloister/sha.keys", laid_cloister_sha_keys)] }
def SlotsUnwrapSaid : Prop := slotsUnwrapRow.holds Tryd.pinned (OpenSpec.ofChange slotsUnwrapSpec)

/-- ITS FALSE NEIGHBOUR: 'it returns false'. Refute it at one input. -/
def slotsUnwrapWrong : ChangeSpec := { name := "slotsUnwrap", fn := fun _ => fun
  | [d1, d2] => { results := [.lit (.bool false)], args := [d1, d2] }
  | _ => none }
def SlotsUnwrapWrongFalsely : Prop := slotsUnwrapRow.holds Tryd.pinned (OpenSpec.ofChange slotsUnwrapWrong)

/-- 'cloisterlaw08.SlotsDecode': WHATEVER THE INPUT: true; the input reads as it did. -/
def slotsDecodeSpec : ChangeSpec := { name := "slotsDecode", fn := fun _ => fun
  | [d] => { results := [.lit (.bool true)], args := [d] }
  | _ => none }
def slotsDecodeRow : OpenClaim := { program := "ytojllgpnhaaagaadoor", sum := "0f006e321599f0a36788f15be8ea502cdd79644d780426eb8c90f751a099ecf8", func := "cloister/cloisterlaw08.SlotsDecode", spec := "slotsDecode", named := ["cloister/sha.keys"], apart := false, laid := [("cloister/sha.keys", laid_cloister_sha_keys)] }
def SlotsDecodeSaid : Prop := slotsDecodeRow.holds Tryd.pinned (OpenSpec.ofChange slotsDecodeSpec)

/-- ITS FALSE NEIGHBOUR: 'it returns false'. Refute it at one input. -/
def slotsDecodeWrong : ChangeSpec := { name := "slotsDecode", fn := fun _ => fun
  | [d] => { results := [.lit (.bool false)], args := [d] }
  | _ => none }
def SlotsDecodeWrongFalsely : Prop := slotsDecodeRow.holds Tryd.pinned (OpenSpec.ofChange slotsDecodeWrong)

/-- 'cloisterlaw08.SlotsBack': WHATEVER THE INPUT: true; the input reads as it did. -/
def slotsBackSpec : ChangeSpec := { name := "slotsBack", fn := fun _ => fun
  | [d1, d2, d3, d4, d5, d6] => { results := [.lit (.bool true)], args := [d1, d2, d3, d4, d5, d6] }
  | _ => none }
def slotsBackRow : OpenClaim := { program := "ytojllgpnhaaagaadoor", sum := "0f006e321599f0a36788f15be8ea502cdd79644d780426eb8c90f751a099ecf8", func := "cloister/cloisterlaw08.SlotsBack", spec := "slotsBack", named := ["cloister/sha.keys", "cloister/cloisterref01.k"], apart := false, laid := [("cloister/cloisterref01.k", laid_cloister_cloisterref01_k), ("cloister/sha.keys", laid_cloister_sha_keys)] }
def SlotsBackSaid : Prop := slotsBackRow.holds Tryd.pinned (OpenSpec.ofChange slotsBackSpec)

/-- ITS FALSE NEIGHBOUR: 'it returns false'. Refute it at one input. -/
def slotsBackWrong : ChangeSpec := { name := "slotsBack", fn := fun _ => fun
  | [d1, d2, d3, d4, d5, d6] => { results := [.lit (.bool false)], args := [d1, d2, d3, d4, d5, d6] }
  | _ => none }
def SlotsBackWrongFalsely : Prop := slotsBackRow.holds Tryd.pinned (OpenSpec.ofChange slotsBackWrong)

/-- 'cloisterlaw11.JournalPacks': WHATEVER THE INPUT: true; the input reads as it did. -/
def journalPacksSpec : ChangeSpec := { name := "journalPacks", fn := fun _ => fun
  | [d1, d2, d3, d4, d5] => { results := [.lit (.bool true)], args := [d1, d2, d3, d4, d5] }
  | _ => none }
def journalPacksRow : OpenClaim := { program := "ytojllgpnhaaagaadoor", sum := "0f006e321599f0a36788f15be8ea502cdd79644d780426eb8c90f751a099ecf8", func := "cloister/cloisterlaw11.JournalPacks", spec := "journalPacks", unfollowed := true, recurses := true, named := ["cloister/sha.keys", "cloister/cloisterref01.k"], apart := false, laid := [("cloister/cloisterref01.k", laid_cloister_cloisterref01_k), ("cloister/sha.keys", laid_cloister_sha_keys)] }
def JournalPacksSaid : Prop := journalPacksRow.holds Tryd.pinned (OpenSpec.ofChange journalPacksSpec)

/-- ITS FALSE NEIGHBOUR: 'it returns false'. Refute it at one input. -/
def journalPacksWrong : ChangeSpec := { name := "journalPacks", fn := fun _ => fun
  | [d1, d2, d3, d4, d5] => { results := [.lit (.bool false)], args := [d1, d2, d3, d4, d5] }
  | _ => none }
def JournalPacksWrongFalsely : Prop := journalPacksRow.holds Tryd.pinned (OpenSpec.ofChange journalPacksWrong)

/-- 'cloisterlaw11.JournalUnpacks': WHATEVER THE INPUT: true; the input reads as it did. -/
def journalUnpacksSpec : ChangeSpec := { name := "journalUnpacks", fn := fun _ => fun
  | [d1, d2] => { results := [.lit (.bool true)], args := [d1, d2] }
  | _ => none }
def journalUnpacksRow : OpenClaim := { program := "ytojllgpnhaaagaadoor", sum := "0f006e321599f0a36788f15be8ea502cdd79644d780426eb8c90f751a099ecf8", func := "cloister/cloisterlaw11.JournalUnpacks", spec := "journalUnpacks", unfollowed := true, recurses := true, named := ["cloister/sha.keys", "cloister/cloisterref01.k"], apart := false, laid := [("cloister/cloisterref01.k", laid_cloister_cloisterref01_k), ("cloister/sha.keys", laid_cloister_sha_keys)] }
def JournalUnpacksSaid : Prop := journalUnpacksRow.holds Tryd.pinned (OpenSpec.ofChange journalUnpacksSpec)

/-- ITS FALSE NEIGHBOUR: 'it returns false'. Refute it at one input. -/
def journalUnpacksWrong : ChangeSpec := { name := "journalUnpacks", fn := fun _ => fun
  | [d1, d2] => { results := [.lit (.bool false)], args := [d1, d2] }
  | _ => none }
def JournalUnpacksWrongFalsely : Prop := journalUnpacksRow.holds Tryd.pinned (OpenSpec.ofChange journalUnpacksWrong)

/-- 'cloisterlaw11.JournalBack': WHATEVER THE INPUT: true; the input reads as it did. -/
def journalBackSpec : ChangeSpec := { name := "journalBack", fn := fun _ => fun
  | [d1, d2, d3, d4, d5, d6] => { results := [.lit (.bool true)], args := [d1, d2, d3, d4, d5, d6] }
  | _ => none }
def journalBackRow : OpenClaim := { program := "ytojllgpnhaaagaadoor", sum := "0f006e321599f0a36788f15be8ea502cdd79644d780426eb8c90f751a099ecf8", func := "cloister/cloisterlaw11.JournalBack", spec := "journalBack", unfollowed := true, recurses := true, named := ["cloister/sha.keys", "cloister/cloisterref01.k"], apart := false, laid := [("cloister/cloisterref01.k", laid_cloister_cloisterref01_k), ("cloister/sha.keys", laid_cloister_sha_keys)] }
def JournalBackSaid : Prop := journalBackRow.holds Tryd.pinned (OpenSpec.ofChange journalBackSpec)

/-- ITS FALSE NEIGHBOUR: 'it returns false'. Refute it at one input. -/
def journalBackWrong : ChangeSpec := { name := "journalBack", fn := fun _ => fun
  | [d1, d2, d3, d4, d5, d6] => { results := [.lit (.bool false)], args := [d1, d2, d3, d4, d5, d6] }
  | _ => none }
def JournalBackWrongFalsely : Prop := journalBackRow.holds Tryd.pinned (OpenSpec.ofChange journalBackWrong)

/-- 'cloisterlaw09.SuperEncodes': WHATEVER THE INPUT: true; the input reads as it did. -/
def superEncodesSpec : ChangeSpec := { name := "superEncodes", fn := fun _ => fun
  | [d1, d2, d3] => { results := [.lit (.bool true)], args := [d1, d2, d3] }
  | _ => none }
def superEncodesRow : OpenClaim := { program := "ytojllgpnhaaagaadoor", sum := "0f006e321599f0a36788f15be8ea502cdd79644d780426eb8c90f751a099ecf8", func := "cloister/cloisterlaw09.SuperEncodes", spec := "superEncodes", named := ["cloister/sha.keys", "cloister/cloisterref01.k"], apart := false, laid := [("cloister/cloisterref01.k", laid_cloister_cloisterref01_k), ("cloister/sha.keys", laid_cloister_sha_keys)] }
def SuperEncodesSaid : Prop := superEncodesRow.holds Tryd.pinned (OpenSpec.ofChange superEncodesSpec)

/-- ITS FALSE NEIGHBOUR: 'it returns false'. Refute it at one input. -/
def superEncodesWrong : ChangeSpec := { name := "superEncodes", fn := fun _ => fun
  | [d1, d2, d3] => { results := [.lit (.bool false)], args := [d1, d2, d3] }
  | _ => none }
def SuperEncodesWrongFalsely : Prop := superEncodesRow.holds Tryd.pinned (OpenSpec.ofChange superEncodesWrong)

/-- 'cloisterlaw09.SuperDecodes': WHATEVER THE INPUT: true; the input reads as it did. -/
def superDecodesSpec : ChangeSpec := { name := "superDecodes", fn := fun _ => fun
  | [d1, d2] => { results := [.lit (.bool true)], args := [d1, d2] }
  | _ => none }
def superDecodesRow : OpenClaim := { program := "ytojllgpnhaaagaadoor", sum := "0f006e321599f0a36788f15be8ea502cdd79644d780426eb8c90f751a099ecf8", func := "cloister/cloisterlaw09.SuperDecodes", spec := "superDecodes", named := ["cloister/sha.keys", "cloister/cloisterref01.k"], apart := false, laid := [("cloister/cloisterref01.k", laid_cloister_cloisterref01_k), ("cloister/sha.keys", laid_cloister_sha_keys)] }
def SuperDecodesSaid : Prop := superDecodesRow.holds Tryd.pinned (OpenSpec.ofChange superDecodesSpec)

/-- ITS FALSE NEIGHBOUR: 'it returns false'. Refute it at one input. -/
def superDecodesWrong : ChangeSpec := { name := "superDecodes", fn := fun _ => fun
  | [d1, d2] => { results := [.lit (.bool false)], args := [d1, d2] }
  | _ => none }
def SuperDecodesWrongFalsely : Prop := superDecodesRow.holds Tryd.pinned (OpenSpec.ofChange superDecodesWrong)

/-- 'cloisterlaw09.SuperBack': WHATEVER THE INPUT: true; the input reads as it did. -/
def superBackSpec : ChangeSpec := { name := "superBack", fn := fun _ => fun
  | [d1, d2, d3, d4, d5] => { results := [.lit (.bool true)], args := [d1, d2, d3, d4, d5] }
  | _ => none }
def superBackRow : OpenClaim := { program := "ytojllgpnhaaagaadoor", sum := "0f006e321599f0a36788f15be8ea502cdd79644d780426eb8c90f751a099ecf8", func := "cloister/cloisterlaw09.SuperBack", spec := "superBack", named := ["cloister/sha.keys", "cloister/cloisterref01.k"], apart := false, laid := [("cloister/cloisterref01.k", laid_cloister_cloisterref01_k), ("cloister/sha.keys", laid_cloister_sha_keys)] }
def SuperBackSaid : Prop := superBackRow.holds Tryd.pinned (OpenSpec.ofChange superBackSpec)

/-- ITS FALSE NEIGHBOUR: 'it returns false'. Refute it at one input. -/
def superBackWrong : ChangeSpec := { name := "superBack", fn := fun _ => fun
  | [d1, d2, d3, d4, d5] => { results := [.lit (.bool false)], args := [d1, d2, d3, d4, d5] }
  | _ => none }
def SuperBackWrongFalsely : Prop := superBackRow.holds Tryd.pinned (OpenSpec.ofChange superBackWrong)

/-- 'cloisterlaw07.SealCloses': WHATEVER THE INPUT: true; the input reads as it did. -/
def sealClosesSpec : ChangeSpec := { name := "sealCloses", fn := fun _ => fun
  | [d1, d2, d3] => { results := [.lit (.bool true)], args := [d1, d2, d3] }
  | _ => none }
def sealClosesRow : OpenClaim := { program := "ytojllgpnhaaagaadoor", sum := "0f006e321599f0a36788f15be8ea502cdd79644d780426eb8c90f751a099ecf8", func := "cloister/cloisterlaw07.SealCloses", spec := "sealCloses", named := ["cloister/sha.keys", "cloister/cloisterref01.k"], apart := false, laid := [("cloister/cloisterref01.k", laid_cloister_cloisterref01_k), ("cloister/sha.keys", laid_cloister_sha_keys)] }
def SealClosesSaid : Prop := sealClosesRow.holds Tryd.pinned (OpenSpec.ofChange sealClosesSpec)

/-- ITS FALSE NEIGHBOUR: 'it returns false'. Refute it at one input. -/
def sealClosesWrong : ChangeSpec := { name := "sealCloses", fn := fun _ => fun
  | [d1, d2, d3] => { results := [.lit (.bool false)], args := [d1, d2, d3] }
  | _ => none }
def SealClosesWrongFalsely : Prop := sealClosesRow.holds Tryd.pinned (OpenSpec.ofChange sealClosesWrong)

/-- 'cloisterlaw07.SealOpens': WHATEVER THE INPUT: true; the input reads as it did. -/
def sealOpensSpec : ChangeSpec := { name := "sealOpens", fn := fun _ => fun
  | [d1, d2] => { results := [.lit (.bool true)], args := [d1, d2] }
  | _ => none }
def sealOpensRow : OpenClaim := { program := "ytojllgpnhaaagaadoor", sum := "0f006e321599f0a36788f15be8ea502cdd79644d780426eb8c90f751a099ecf8", func := "cloister/cloisterlaw07.SealOpens", spec := "sealOpens", named := ["cloister/sha.keys", "cloister/cloisterref01.k"], apart := false, laid := [("cloister/cloisterref01.k", laid_cloister_cloisterref01_k), ("cloister/sha.keys", laid_cloister_sha_keys)] }
def SealOpensSaid : Prop := sealOpensRow.holds Tryd.pinned (OpenSpec.ofChange sealOpensSpec)

/-- ITS FALSE NEIGHBOUR: 'it returns false'. Refute it at one input. -/
def sealOpensWrong : ChangeSpec := { name := "sealOpens", fn := fun _ => fun
  | [d1, d2] => { results := [.lit (.bool false)], args := [d1, d2] }
  | _ => none }
def SealOpensWrongFalsely : Prop := sealOpensRow.holds Tryd.pinned (OpenSpec.ofChange sealOpensWrong)

/-- 'cloisterlaw07.SealBack': WHATEVER THE INPUT: true; the input reads as it did. -/
def sealBackSpec : ChangeSpec := { name := "sealBack", fn := fun _ => fun
  | [d1, d2, d3, d4, d5] => { results := [.lit (.bool true)], args := [d1, d2, d3, d4, d5] }
  | _ => none }
def sealBackRow : OpenClaim := { program := "ytojllgpnhaaagaadoor", sum := "0f006e321599f0a36788f15be8ea502cdd79644d780426eb8c90f751a099ecf8", func := "cloister/cloisterlaw07.SealBack", spec := "sealBack", named := ["cloister/sha.keys", "cloister/cloisterref01.k"], apart := false, laid := [("cloister/cloisterref01.k", laid_cloister_cloisterref01_k), ("cloister/sha.keys", laid_cloister_sha_keys)] }
def SealBackSaid : Prop := sealBackRow.holds Tryd.pinned (OpenSpec.ofChange sealBackSpec)

/-- ITS FALSE NEIGHBOUR: 'it returns false'. Refute it at one input. -/
def sealBackWrong : ChangeSpec := { name := "sealBack", fn := fun _ => fun
  | [d1, d2, d3, d4, d5] => { results := [.lit (.bool false)], args := [d1, d2, d3, d4, d5] }
  | _ => none }
def SealBackWrongFalsely : Prop := sealBackRow.holds Tryd.pinned (OpenSpec.ofChange sealBackWrong)

/- THE SECOND FORM. 'bulk': how many values and letters a reading holds, each counted each time it is reached (what is shared counts as often as it is met; a slice's spare places count too). A statement '..UptoSaid' is the law's where the arguments, and the package variables that the reading takes, are together of bulk at most 1048576: NARROWER than '..Said'. Prove '..Said' where nothing that the law and all that it calls make is longer than what came in: it says more and counts as full. Else prove '..UptoSaid'. A law counts once. -/
mutual
def uptoBulk {H : Type} : DataW H → Nat
  | .lit (.string bytes) => bytes.length + 1
  | .lit _ => 1
  | .nil => 1
  | .ptr d => uptoBulk d + 1
  | .slice elems spare => uptoBulkAll elems + uptoBulkAll spare + 1
  | .agg parts => uptoBulkAll parts + 1
  | .iface _ d => uptoBulk d + 1
  | .map entries => uptoBulkEntries entries + 1
  | .held _ => 1
def uptoBulkAll {H : Type} : List (DataW H) → Nat
  | [] => 0
  | d :: r => uptoBulk d + uptoBulkAll r
def uptoBulkEntries {H : Type} : List (Lit × DataW H) → Nat
  | [] => 0
  | x :: r => uptoBulkEntry x + uptoBulkEntries r
def uptoBulkEntry {H : Type} : Lit × DataW H → Nat
  | (.string bytes, d) => bytes.length + uptoBulk d + 1
  | (_, d) => uptoBulk d + 1
 end
def uptoSmall : (H : Type) → List (DataW H) → Bool := fun _ ds => decide (uptoBulkAll ds ≤ 1048576)
def OpenSpec.upto (s : _root_.Go.ChangeSpec) : _root_.Go.OpenSpec := { _root_.Go.OpenSpec.ofChange s with cond := some uptoSmall }

/-- 'cloisterlaw10.MerkleUnlike', WHERE WHAT IT READS IS OF BULK AT MOST 1048576: true; the input reads as it did. -/
def merkleUnlikeUptoRow : OpenClaim := { program := "ytojllgpnhaaagaadoor", sum := "0f006e321599f0a36788f15be8ea502cdd79644d780426eb8c90f751a099ecf8", func := "cloister/cloisterlaw10.MerkleUnlike", spec := "merkleUnlike", named := ["cloister/sha.keys", "cloister/cloisterref01.k"], apart := false, laid := [("cloister/cloisterref01.k", laid_cloister_cloisterref01_k), ("cloister/sha.keys", laid_cloister_sha_keys)], narrowed := true }
def MerkleUnlikeUptoSaid : Prop := merkleUnlikeUptoRow.holds Tryd.pinned (OpenSpec.upto merkleUnlikeSpec)

/-- 'cloisterlaw10.MerkleOrder', WHERE WHAT IT READS IS OF BULK AT MOST 1048576: true; the input reads as it did. -/
def merkleOrderUptoRow : OpenClaim := { program := "ytojllgpnhaaagaadoor", sum := "0f006e321599f0a36788f15be8ea502cdd79644d780426eb8c90f751a099ecf8", func := "cloister/cloisterlaw10.MerkleOrder", spec := "merkleOrder", named := ["cloister/sha.keys", "cloister/cloisterref01.k"], apart := false, laid := [("cloister/cloisterref01.k", laid_cloister_cloisterref01_k), ("cloister/sha.keys", laid_cloister_sha_keys)], narrowed := true }
def MerkleOrderUptoSaid : Prop := merkleOrderUptoRow.holds Tryd.pinned (OpenSpec.upto merkleOrderSpec)

/-- 'cloisterlaw10.MerklePlays', WHERE WHAT IT READS IS OF BULK AT MOST 1048576: true; the input reads as it did. -/
def merklePlaysUptoRow : OpenClaim := { program := "ytojllgpnhaaagaadoor", sum := "0f006e321599f0a36788f15be8ea502cdd79644d780426eb8c90f751a099ecf8", func := "cloister/cloisterlaw10.MerklePlays", spec := "merklePlays", named := ["cloister/sha.keys", "cloister/cloisterref01.k"], apart := false, laid := [("cloister/cloisterref01.k", laid_cloister_cloisterref01_k), ("cloister/sha.keys", laid_cloister_sha_keys)], narrowed := true }
def MerklePlaysUptoSaid : Prop := merklePlaysUptoRow.holds Tryd.pinned (OpenSpec.upto merklePlaysSpec)

/-- 'cloisterlaw10.MerkleNil', WHERE WHAT IT READS IS OF BULK AT MOST 1048576: true; the input reads as it did. -/
def merkleNilUptoRow : OpenClaim := { program := "ytojllgpnhaaagaadoor", sum := "0f006e321599f0a36788f15be8ea502cdd79644d780426eb8c90f751a099ecf8", func := "cloister/cloisterlaw10.MerkleNil", spec := "merkleNil", named := ["cloister/sha.keys", "cloister/cloisterref01.k"], apart := false, laid := [("cloister/cloisterref01.k", laid_cloister_cloisterref01_k), ("cloister/sha.keys", laid_cloister_sha_keys)], narrowed := true }
def MerkleNilUptoSaid : Prop := merkleNilUptoRow.holds Tryd.pinned (OpenSpec.upto merkleNilSpec)

/-- 'cloisterlaw10.MerkleFolds', WHERE WHAT IT READS IS OF BULK AT MOST 1048576: true; the input reads as it did. -/
def merkleFoldsUptoRow : OpenClaim := { program := "ytojllgpnhaaagaadoor", sum := "0f006e321599f0a36788f15be8ea502cdd79644d780426eb8c90f751a099ecf8", func := "cloister/cloisterlaw10.MerkleFolds", spec := "merkleFolds", named := ["cloister/sha.keys", "cloister/cloisterref01.k"], apart := false, laid := [("cloister/cloisterref01.k", laid_cloister_cloisterref01_k), ("cloister/sha.keys", laid_cloister_sha_keys)], narrowed := true }
def MerkleFoldsUptoSaid : Prop := merkleFoldsUptoRow.holds Tryd.pinned (OpenSpec.upto merkleFoldsSpec)

/-- 'cloisterlaw08.SlotsWrap', WHERE WHAT IT READS IS OF BULK AT MOST 1048576: true; the input reads as it did. -/
def slotsWrapUptoRow : OpenClaim := { program := "ytojllgpnhaaagaadoor", sum := "0f006e321599f0a36788f15be8ea502cdd79644d780426eb8c90f751a099ecf8", func := "cloister/cloisterlaw08.SlotsWrap", spec := "slotsWrap", named := ["cloister/sha.keys", "cloister/cloisterref01.k"], apart := false, laid := [("cloister/cloisterref01.k", laid_cloister_cloisterref01_k), ("cloister/sha.keys", laid_cloister_sha_keys)], narrowed := true }
def SlotsWrapUptoSaid : Prop := slotsWrapUptoRow.holds Tryd.pinned (OpenSpec.upto slotsWrapSpec)

/-- 'cloisterlaw08.SlotsUnwrap', WHERE WHAT IT READS IS OF BULK AT MOST 1048576: true; the input reads as it did. -/
def slotsUnwrapUptoRow : OpenClaim := { program := "ytojllgpnhaaagaadoor", sum := "0f006e321599f0a36788f15be8ea502cdd79644d780426eb8c90f751a099ecf8", func := "cloister/cloisterlaw08.SlotsUnwrap", spec := "slotsUnwrap", named := ["cloister/sha.keys", "cloister/cloisterref01.k"], apart := false, laid := [("cloister/cloisterref01.k", laid_cloister_cloisterref01_k), ("cloister/sha.keys", laid_cloister_sha_keys)], narrowed := true }
def SlotsUnwrapUptoSaid : Prop := slotsUnwrapUptoRow.holds Tryd.pinned (OpenSpec.upto slotsUnwrapSpec)

/-- 'cloisterlaw08.SlotsDecode', WHERE WHAT IT READS IS OF BULK AT MOST 1048576: true; the input reads as it did. -/
def slotsDecodeUptoRow : OpenClaim := { program := "ytojllgpnhaaagaadoor", sum := "0f006e321599f0a36788f15be8ea502cdd79644d780426eb8c90f751a099ecf8", func := "cloister/cloisterlaw08.SlotsDecode", spec := "slotsDecode", named := ["cloister/sha.keys"], apart := false, laid := [("cloister/sha.keys", laid_cloister_sha_keys)], narrowed := true }
def SlotsDecodeUptoSaid : Prop := slotsDecodeUptoRow.holds Tryd.pinned (OpenSpec.upto slotsDecodeSpec)

/-- 'cloisterlaw08.SlotsBack', WHERE WHAT IT READS IS OF BULK AT MOST 1048576: true; the input reads as it did. -/
def slotsBackUptoRow : OpenClaim := { program := "ytojllgpnhaaagaadoor", sum := "0f006e321599f0a36788f15be8ea502cdd79644d780426eb8c90f751a099ecf8", func := "cloister/cloisterlaw08.SlotsBack", spec := "slotsBack", named := ["cloister/sha.keys", "cloister/cloisterref01.k"], apart := false, laid := [("cloister/cloisterref01.k", laid_cloister_cloisterref01_k), ("cloister/sha.keys", laid_cloister_sha_keys)], narrowed := true }
def SlotsBackUptoSaid : Prop := slotsBackUptoRow.holds Tryd.pinned (OpenSpec.upto slotsBackSpec)

/-- 'cloisterlaw11.JournalPacks', WHERE WHAT IT READS IS OF BULK AT MOST 1048576: true; the input reads as it did. -/
def journalPacksUptoRow : OpenClaim := { program := "ytojllgpnhaaagaadoor", sum := "0f006e321599f0a36788f15be8ea502cdd79644d780426eb8c90f751a099ecf8", func := "cloister/cloisterlaw11.JournalPacks", spec := "journalPacks", unfollowed := true, recurses := true, named := ["cloister/sha.keys", "cloister/cloisterref01.k"], apart := false, laid := [("cloister/cloisterref01.k", laid_cloister_cloisterref01_k), ("cloister/sha.keys", laid_cloister_sha_keys)], narrowed := true }
def JournalPacksUptoSaid : Prop := journalPacksUptoRow.holds Tryd.pinned (OpenSpec.upto journalPacksSpec)

/-- 'cloisterlaw11.JournalUnpacks', WHERE WHAT IT READS IS OF BULK AT MOST 1048576: true; the input reads as it did. -/
def journalUnpacksUptoRow : OpenClaim := { program := "ytojllgpnhaaagaadoor", sum := "0f006e321599f0a36788f15be8ea502cdd79644d780426eb8c90f751a099ecf8", func := "cloister/cloisterlaw11.JournalUnpacks", spec := "journalUnpacks", unfollowed := true, recurses := true, named := ["cloister/sha.keys", "cloister/cloisterref01.k"], apart := false, laid := [("cloister/cloisterref01.k", laid_cloister_cloisterref01_k), ("cloister/sha.keys", laid_cloister_sha_keys)], narrowed := true }
def JournalUnpacksUptoSaid : Prop := journalUnpacksUptoRow.holds Tryd.pinned (OpenSpec.upto journalUnpacksSpec)

/-- 'cloisterlaw11.JournalBack', WHERE WHAT IT READS IS OF BULK AT MOST 1048576: true; the input reads as it did. -/
def journalBackUptoRow : OpenClaim := { program := "ytojllgpnhaaagaadoor", sum := "0f006e321599f0a36788f15be8ea502cdd79644d780426eb8c90f751a099ecf8", func := "cloister/cloisterlaw11.JournalBack", spec := "journalBack", unfollowed := true, recurses := true, named := ["cloister/sha.keys", "cloister/cloisterref01.k"], apart := false, laid := [("cloister/cloisterref01.k", laid_cloister_cloisterref01_k), ("cloister/sha.keys", laid_cloister_sha_keys)], narrowed := true }
def JournalBackUptoSaid : Prop := journalBackUptoRow.holds Tryd.pinned (OpenSpec.upto journalBackSpec)

/-- 'cloisterlaw09.SuperEncodes', WHERE WHAT IT READS IS OF BULK AT MOST 1048576: true; the input reads as it did. -/
def superEncodesUptoRow : OpenClaim := { program := "ytojllgpnhaaagaadoor", sum := "0f006e321599f0a36788f15be8ea502cdd79644d780426eb8c90f751a099ecf8", func := "cloister/cloisterlaw09.SuperEncodes", spec := "superEncodes", named := ["cloister/sha.keys", "cloister/cloisterref01.k"], apart := false, laid := [("cloister/cloisterref01.k", laid_cloister_cloisterref01_k), ("cloister/sha.keys", laid_cloister_sha_keys)], narrowed := true }
def SuperEncodesUptoSaid : Prop := superEncodesUptoRow.holds Tryd.pinned (OpenSpec.upto superEncodesSpec)

/-- 'cloisterlaw09.SuperDecodes', WHERE WHAT IT READS IS OF BULK AT MOST 1048576: true; the input reads as it did. -/
def superDecodesUptoRow : OpenClaim := { program := "ytojllgpnhaaagaadoor", sum := "0f006e321599f0a36788f15be8ea502cdd79644d780426eb8c90f751a099ecf8", func := "cloister/cloisterlaw09.SuperDecodes", spec := "superDecodes", named := ["cloister/sha.keys", "cloister/cloisterref01.k"], apart := false, laid := [("cloister/cloisterref01.k", laid_cloister_cloisterref01_k), ("cloister/sha.keys", laid_cloister_sha_keys)], narrowed := true }
def SuperDecodesUptoSaid : Prop := superDecodesUptoRow.holds Tryd.pinned (OpenSpec.upto superDecodesSpec)

/-- 'cloisterlaw09.SuperBack', WHERE WHAT IT READS IS OF BULK AT MOST 1048576: true; the input reads as it did. -/
def superBackUptoRow : OpenClaim := { program := "ytojllgpnhaaagaadoor", sum := "0f006e321599f0a36788f15be8ea502cdd79644d780426eb8c90f751a099ecf8", func := "cloister/cloisterlaw09.SuperBack", spec := "superBack", named := ["cloister/sha.keys", "cloister/cloisterref01.k"], apart := false, laid := [("cloister/cloisterref01.k", laid_cloister_cloisterref01_k), ("cloister/sha.keys", laid_cloister_sha_keys)], narrowed := true }
def SuperBackUptoSaid : Prop := superBackUptoRow.holds Tryd.pinned (OpenSpec.upto superBackSpec)

/-- 'cloisterlaw07.SealCloses', WHERE WHAT IT READS IS OF BULK AT MOST 1048576: true; the input reads as it did. -/
def sealClosesUptoRow : OpenClaim := { program := "ytojllgpnhaaagaadoor", sum := "0f006e321599f0a36788f15be8ea502cdd79644d780426eb8c90f751a099ecf8", func := "cloister/cloisterlaw07.SealCloses", spec := "sealCloses", named := ["cloister/sha.keys", "cloister/cloisterref01.k"], apart := false, laid := [("cloister/cloisterref01.k", laid_cloister_cloisterref01_k), ("cloister/sha.keys", laid_cloister_sha_keys)], narrowed := true }
def SealClosesUptoSaid : Prop := sealClosesUptoRow.holds Tryd.pinned (OpenSpec.upto sealClosesSpec)

/-- 'cloisterlaw07.SealOpens', WHERE WHAT IT READS IS OF BULK AT MOST 1048576: true; the input reads as it did. -/
def sealOpensUptoRow : OpenClaim := { program := "ytojllgpnhaaagaadoor", sum := "0f006e321599f0a36788f15be8ea502cdd79644d780426eb8c90f751a099ecf8", func := "cloister/cloisterlaw07.SealOpens", spec := "sealOpens", named := ["cloister/sha.keys", "cloister/cloisterref01.k"], apart := false, laid := [("cloister/cloisterref01.k", laid_cloister_cloisterref01_k), ("cloister/sha.keys", laid_cloister_sha_keys)], narrowed := true }
def SealOpensUptoSaid : Prop := sealOpensUptoRow.holds Tryd.pinned (OpenSpec.upto sealOpensSpec)

/-- 'cloisterlaw07.SealBack', WHERE WHAT IT READS IS OF BULK AT MOST 1048576: true; the input reads as it did. -/
def sealBackUptoRow : OpenClaim := { program := "ytojllgpnhaaagaadoor", sum := "0f006e321599f0a36788f15be8ea502cdd79644d780426eb8c90f751a099ecf8", func := "cloister/cloisterlaw07.SealBack", spec := "sealBack", named := ["cloister/sha.keys", "cloister/cloisterref01.k"], apart := false, laid := [("cloister/cloisterref01.k", laid_cloister_cloisterref01_k), ("cloister/sha.keys", laid_cloister_sha_keys)], narrowed := true }
def SealBackUptoSaid : Prop := sealBackUptoRow.holds Tryd.pinned (OpenSpec.upto sealBackSpec)

end Rows
end Go.Proofs.YtojllgpnhaaagaaDoor
