/-
  NARROWER THAN 'FOR EVERY INPUT', by the rows' own cells (each row's printed sentence says how): XattrPacks: laid · XattrOnly: laid · XattrOrder: laid · XattrHow: laid · XattrPlays: laid · XattrIs: laid.
  DERIVED. THE GIVEN ROWS OF THIS SEAT. 6 by the template 'for every input the law returns true; each argument reads behind the call as it read before'; 0 by the template 'total and deterministic' (their statements: YtkmhilhfmfmckaaGreatDoorTotals.lean).
  GIVEN WITH THE SEED: the statements are not yours to turn. If you find one false, say at which input.
  Laid BY PROGRAM, IN A SANDBOX (cutbox-rows.mjs): the forced cells as the released guide's own fill.sh prints them over the translation 38f7fa8da1aec941… (all of the seat's roots in one cut). By AI agents, Wed Nov 11 2026. No macro, syntax, notation, axiom, sorry.
-/
import Derived.Test.YtkmhilhfmfmckaaGreatDoorChecked
import GoSem.Claim
import GoSem.ClaimJoined
import GoSem.ClaimMapViews
import Derived.JoinedTies
import Derived.KernelRfl
namespace Go.Proofs.YtkmhilhfmfmckaaGreatDoor
/- THE CELL 'sum', in the pinned program and in every row, IS THE sha256 OF THE DUMP (.gsa) THAT YtkmhilhfmfmckaaGreatDoorProg.lean LOADS. Nothing in Lean hashes anything: it is a label: what it is worth is what the hold of that sum in a sandbox is worth. -/
noncomputable def Tryz.pinned : Pinned := { name := "ytkmhilhfmfmckaagreatdoor", sum := "38f7fa8da1aec9413ac9f0853ce4e13839bc6142ec8659bd76bde581e75f7671", checked := Tryz.checked }
namespace Rows
def none {H : Type} : Left H := { results := [], args := [] }

/- WHAT THE LISTED PACKAGE-LEVEL VARIABLES READ AS WHEN THE CALL BEGINS. Each datum BY PROGRAM (the guide's laid-datum.mjs) off the statement by which the dump's own 'gosem.cut.vars' lays the variable. In a bare row this is a premise. The card (YtkmhilhfmfmckaaGreatDoorCards.lean) ties it to the program's text. -/
def laid_math_bits_deBruijn32tab {H : Type} : DataW H := .agg [.lit (.int .u8 0), .lit (.int .u8 1), .lit (.int .u8 28), .lit (.int .u8 2), .lit (.int .u8 29), .lit (.int .u8 14), .lit (.int .u8 24), .lit (.int .u8 3), .lit (.int .u8 30), .lit (.int .u8 22), .lit (.int .u8 20), .lit (.int .u8 15), .lit (.int .u8 25), .lit (.int .u8 17), .lit (.int .u8 4), .lit (.int .u8 8), .lit (.int .u8 31), .lit (.int .u8 27), .lit (.int .u8 13), .lit (.int .u8 23), .lit (.int .u8 21), .lit (.int .u8 19), .lit (.int .u8 16), .lit (.int .u8 7), .lit (.int .u8 26), .lit (.int .u8 12), .lit (.int .u8 18), .lit (.int .u8 6), .lit (.int .u8 11), .lit (.int .u8 5), .lit (.int .u8 10), .lit (.int .u8 9)]
def laid_math_bits_deBruijn64tab {H : Type} : DataW H := .agg [.lit (.int .u8 0), .lit (.int .u8 1), .lit (.int .u8 56), .lit (.int .u8 2), .lit (.int .u8 57), .lit (.int .u8 49), .lit (.int .u8 28), .lit (.int .u8 3), .lit (.int .u8 61), .lit (.int .u8 58), .lit (.int .u8 42), .lit (.int .u8 50), .lit (.int .u8 38), .lit (.int .u8 29), .lit (.int .u8 17), .lit (.int .u8 4), .lit (.int .u8 62), .lit (.int .u8 47), .lit (.int .u8 59), .lit (.int .u8 36), .lit (.int .u8 45), .lit (.int .u8 43), .lit (.int .u8 51), .lit (.int .u8 22), .lit (.int .u8 53), .lit (.int .u8 39), .lit (.int .u8 33), .lit (.int .u8 30), .lit (.int .u8 24), .lit (.int .u8 18), .lit (.int .u8 12), .lit (.int .u8 5), .lit (.int .u8 63), .lit (.int .u8 55), .lit (.int .u8 48), .lit (.int .u8 27), .lit (.int .u8 60), .lit (.int .u8 41), .lit (.int .u8 37), .lit (.int .u8 16), .lit (.int .u8 46), .lit (.int .u8 35), .lit (.int .u8 44), .lit (.int .u8 21), .lit (.int .u8 52), .lit (.int .u8 32), .lit (.int .u8 23), .lit (.int .u8 11), .lit (.int .u8 54), .lit (.int .u8 26), .lit (.int .u8 40), .lit (.int .u8 15), .lit (.int .u8 34), .lit (.int .u8 20), .lit (.int .u8 31), .lit (.int .u8 10), .lit (.int .u8 25), .lit (.int .u8 14), .lit (.int .u8 19), .lit (.int .u8 9), .lit (.int .u8 13), .lit (.int .u8 8), .lit (.int .u8 7), .lit (.int .u8 6)]

/-- 'hayricklaw17.XattrPacks': WHATEVER THE INPUT: true; the input reads as it did. -/
def xattrPacksSpec : ChangeSpec := { name := "xattrPacks", fn := fun _ => fun
  | [d1, d2, d3] => { results := [.lit (.bool true)], args := [d1, d2, d3] }
  | _ => none }
def xattrPacksRow : OpenClaim := { program := "ytkmhilhfmfmckaagreatdoor", sum := "38f7fa8da1aec9413ac9f0853ce4e13839bc6142ec8659bd76bde581e75f7671", func := "hayrick/hayricklaw17.XattrPacks", spec := "xattrPacks", inPlace := ["internal/bytealg.IndexByteString", "internal/bytealg.abigen_runtime_cmpstring", "slices.overlaps[hayrick/xattr.Attr]"], unfollowed := true, recurses := true, named := ["math/bits.deBruijn32tab", "math/bits.deBruijn64tab"], apart := false, laid := [("math/bits.deBruijn32tab", laid_math_bits_deBruijn32tab), ("math/bits.deBruijn64tab", laid_math_bits_deBruijn64tab)] }
def XattrPacksSaid : Prop := xattrPacksRow.holds Tryz.pinned (OpenSpec.ofChange xattrPacksSpec)

/-- ITS FALSE NEIGHBOUR: 'it returns false'. Refute it at one input. -/
def xattrPacksWrong : ChangeSpec := { name := "xattrPacks", fn := fun _ => fun
  | [d1, d2, d3] => { results := [.lit (.bool false)], args := [d1, d2, d3] }
  | _ => none }
def XattrPacksWrongFalsely : Prop := xattrPacksRow.holds Tryz.pinned (OpenSpec.ofChange xattrPacksWrong)

/-- 'hayricklaw17.XattrOnly': WHATEVER THE INPUT: true; the input reads as it did. -/
def xattrOnlySpec : ChangeSpec := { name := "xattrOnly", fn := fun _ => fun
  | [d1, d2] => { results := [.lit (.bool true)], args := [d1, d2] }
  | _ => none }
def xattrOnlyRow : OpenClaim := { program := "ytkmhilhfmfmckaagreatdoor", sum := "38f7fa8da1aec9413ac9f0853ce4e13839bc6142ec8659bd76bde581e75f7671", func := "hayrick/hayricklaw17.XattrOnly", spec := "xattrOnly", inPlace := ["internal/bytealg.IndexByteString", "internal/bytealg.abigen_runtime_cmpstring", "slices.overlaps[hayrick/xattr.Attr]"], unfollowed := true, recurses := true, named := ["math/bits.deBruijn32tab", "math/bits.deBruijn64tab"], apart := false, laid := [("math/bits.deBruijn32tab", laid_math_bits_deBruijn32tab), ("math/bits.deBruijn64tab", laid_math_bits_deBruijn64tab)] }
def XattrOnlySaid : Prop := xattrOnlyRow.holds Tryz.pinned (OpenSpec.ofChange xattrOnlySpec)

/-- ITS FALSE NEIGHBOUR: 'it returns false'. Refute it at one input. -/
def xattrOnlyWrong : ChangeSpec := { name := "xattrOnly", fn := fun _ => fun
  | [d1, d2] => { results := [.lit (.bool false)], args := [d1, d2] }
  | _ => none }
def XattrOnlyWrongFalsely : Prop := xattrOnlyRow.holds Tryz.pinned (OpenSpec.ofChange xattrOnlyWrong)

/-- 'hayricklaw17.XattrOrder': WHATEVER THE INPUT: true; the input reads as it did. -/
def xattrOrderSpec : ChangeSpec := { name := "xattrOrder", fn := fun _ => fun
  | [d1, d2] => { results := [.lit (.bool true)], args := [d1, d2] }
  | _ => none }
def xattrOrderRow : OpenClaim := { program := "ytkmhilhfmfmckaagreatdoor", sum := "38f7fa8da1aec9413ac9f0853ce4e13839bc6142ec8659bd76bde581e75f7671", func := "hayrick/hayricklaw17.XattrOrder", spec := "xattrOrder", inPlace := ["internal/bytealg.IndexByteString", "internal/bytealg.abigen_runtime_cmpstring", "slices.overlaps[hayrick/xattr.Attr]"], unfollowed := true, recurses := true, named := ["math/bits.deBruijn32tab", "math/bits.deBruijn64tab"], apart := false, laid := [("math/bits.deBruijn32tab", laid_math_bits_deBruijn32tab), ("math/bits.deBruijn64tab", laid_math_bits_deBruijn64tab)] }
def XattrOrderSaid : Prop := xattrOrderRow.holds Tryz.pinned (OpenSpec.ofChange xattrOrderSpec)

/-- ITS FALSE NEIGHBOUR: 'it returns false'. Refute it at one input. -/
def xattrOrderWrong : ChangeSpec := { name := "xattrOrder", fn := fun _ => fun
  | [d1, d2] => { results := [.lit (.bool false)], args := [d1, d2] }
  | _ => none }
def XattrOrderWrongFalsely : Prop := xattrOrderRow.holds Tryz.pinned (OpenSpec.ofChange xattrOrderWrong)

/-- 'hayricklaw17.XattrHow': WHATEVER THE INPUT: true; the input reads as it did. -/
def xattrHowSpec : ChangeSpec := { name := "xattrHow", fn := fun _ => fun
  | [d1, d2] => { results := [.lit (.bool true)], args := [d1, d2] }
  | _ => none }
def xattrHowRow : OpenClaim := { program := "ytkmhilhfmfmckaagreatdoor", sum := "38f7fa8da1aec9413ac9f0853ce4e13839bc6142ec8659bd76bde581e75f7671", func := "hayrick/hayricklaw17.XattrHow", spec := "xattrHow", inPlace := ["internal/bytealg.IndexByteString", "internal/bytealg.abigen_runtime_cmpstring", "slices.overlaps[hayrick/xattr.Attr]"], unfollowed := true, recurses := true, named := ["math/bits.deBruijn32tab", "math/bits.deBruijn64tab"], apart := false, laid := [("math/bits.deBruijn32tab", laid_math_bits_deBruijn32tab), ("math/bits.deBruijn64tab", laid_math_bits_deBruijn64tab)] }
def XattrHowSaid : Prop := xattrHowRow.holds Tryz.pinned (OpenSpec.ofChange xattrHowSpec)

/-- ITS FALSE NEIGHBOUR: 'it returns false'. Refute it at one input. -/
def xattrHowWrong : ChangeSpec := { name := "xattrHow", fn := fun _ => fun
  | [d1, d2] => { results := [.lit (.bool false)], args := [d1, d2] }
  | _ => none }
def XattrHowWrongFalsely : Prop := xattrHowRow.holds Tryz.pinned (OpenSpec.ofChange xattrHowWrong)

/-- 'hayricklaw17.XattrPlays': WHATEVER THE INPUT: true; the input reads as it did. -/
def xattrPlaysSpec : ChangeSpec := { name := "xattrPlays", fn := fun _ => fun
  | [d1, d2] => { results := [.lit (.bool true)], args := [d1, d2] }
  | _ => none }
def xattrPlaysRow : OpenClaim := { program := "ytkmhilhfmfmckaagreatdoor", sum := "38f7fa8da1aec9413ac9f0853ce4e13839bc6142ec8659bd76bde581e75f7671", func := "hayrick/hayricklaw17.XattrPlays", spec := "xattrPlays", inPlace := ["internal/bytealg.IndexByteString", "internal/bytealg.abigen_runtime_cmpstring", "slices.overlaps[hayrick/xattr.Attr]"], unfollowed := true, recurses := true, named := ["math/bits.deBruijn32tab", "math/bits.deBruijn64tab"], apart := false, laid := [("math/bits.deBruijn32tab", laid_math_bits_deBruijn32tab), ("math/bits.deBruijn64tab", laid_math_bits_deBruijn64tab)] }
def XattrPlaysSaid : Prop := xattrPlaysRow.holds Tryz.pinned (OpenSpec.ofChange xattrPlaysSpec)

/-- ITS FALSE NEIGHBOUR: 'it returns false'. Refute it at one input. -/
def xattrPlaysWrong : ChangeSpec := { name := "xattrPlays", fn := fun _ => fun
  | [d1, d2] => { results := [.lit (.bool false)], args := [d1, d2] }
  | _ => none }
def XattrPlaysWrongFalsely : Prop := xattrPlaysRow.holds Tryz.pinned (OpenSpec.ofChange xattrPlaysWrong)

/-- 'hayricklaw17.XattrIs': WHATEVER THE INPUT: true; the input reads as it did. -/
def xattrIsSpec : ChangeSpec := { name := "xattrIs", fn := fun _ => fun
  | [d] => { results := [.lit (.bool true)], args := [d] }
  | _ => none }
def xattrIsRow : OpenClaim := { program := "ytkmhilhfmfmckaagreatdoor", sum := "38f7fa8da1aec9413ac9f0853ce4e13839bc6142ec8659bd76bde581e75f7671", func := "hayrick/hayricklaw17.XattrIs", spec := "xattrIs", inPlace := ["internal/bytealg.IndexByteString", "internal/bytealg.abigen_runtime_cmpstring", "slices.overlaps[hayrick/xattr.Attr]"], unfollowed := true, recurses := true, named := ["math/bits.deBruijn32tab", "math/bits.deBruijn64tab"], apart := false, laid := [("math/bits.deBruijn32tab", laid_math_bits_deBruijn32tab), ("math/bits.deBruijn64tab", laid_math_bits_deBruijn64tab)] }
def XattrIsSaid : Prop := xattrIsRow.holds Tryz.pinned (OpenSpec.ofChange xattrIsSpec)

/-- ITS FALSE NEIGHBOUR: 'it returns false'. Refute it at one input. -/
def xattrIsWrong : ChangeSpec := { name := "xattrIs", fn := fun _ => fun
  | [d] => { results := [.lit (.bool false)], args := [d] }
  | _ => none }
def XattrIsWrongFalsely : Prop := xattrIsRow.holds Tryz.pinned (OpenSpec.ofChange xattrIsWrong)

/- THE SECOND FORM. 'bulk': how many values and letters a reading holds, each counted each time it is reached (what is shared counts as often as it is met; a slice's spare places count too). A statement '..UptoSaid' is the law's where the arguments, and the package variables that the reading takes, are together of bulk at most 1048576: NARROWER than '..Said'. Prove '..Said' where nothing that the law and all that it calls make is longer than what came in: it says more and counts as full. Else prove '..UptoSaid'. A law counts once. -/
mutual
def uptoBulk {H : Type} : DataW H → Nat
  | .lit (.string bytes) => bytes.length + 1
  | .lit _ => 1
  | .nil => 1
  | .ptr d => uptoBulk d + 1
  | .slice elems spare => uptoBulkAll elems + uptoBulkAll spare + 1
  | .agg parts => uptoBulkAll parts + 1
  | .iface _ d => uptoBulk d + 1
  | .map entries => uptoBulkEntries entries + 1
  | .held _ => 1
def uptoBulkAll {H : Type} : List (DataW H) → Nat
  | [] => 0
  | d :: r => uptoBulk d + uptoBulkAll r
def uptoBulkEntries {H : Type} : List (Lit × DataW H) → Nat
  | [] => 0
  | x :: r => uptoBulkEntry x + uptoBulkEntries r
def uptoBulkEntry {H : Type} : Lit × DataW H → Nat
  | (.string bytes, d) => bytes.length + uptoBulk d + 1
  | (_, d) => uptoBulk d + 1
 end
def uptoSmall : (H : Type) → List (DataW H) → Bool := fun _ ds => decide (uptoBulkAll ds ≤ 1048576)
def OpenSpec.upto (s : _root_.Go.ChangeSpec) : _root_.Go.OpenSpec := { _root_.Go.OpenSpec.ofChange s with cond := some uptoSmall }

/-- 'hayricklaw17.XattrPacks', WHERE WHAT IT READS IS OF BULK AT MOST 1048576: true; the input reads as it did. -/
def xattrPacksUptoRow : OpenClaim := { program := "ytkmhilhfmfmckaagreatdoor", sum := "38f7fa8da1aec9413ac9f0853ce4e13839bc6142ec8659bd76bde581e75f7671", func := "hayrick/hayricklaw17.XattrPacks", spec := "xattrPacks", inPlace := ["internal/bytealg.IndexByteString", "internal/bytealg.abigen_runtime_cmpstring", "slices.overlaps[hayrick/xattr.Attr]"], unfollowed := true, recurses := true, named := ["math/bits.deBruijn32tab", "math/bits.deBruijn64tab"], apart := false, laid := [("math/bits.deBruijn32tab", laid_math_bits_deBruijn32tab), ("math/bits.deBruijn64tab", laid_math_bits_deBruijn64tab)], narrowed := true }
def XattrPacksUptoSaid : Prop := xattrPacksUptoRow.holds Tryz.pinned (OpenSpec.upto xattrPacksSpec)

/-- 'hayricklaw17.XattrOnly', WHERE WHAT IT READS IS OF BULK AT MOST 1048576: true; the input reads as it did. -/
def xattrOnlyUptoRow : OpenClaim := { program := "ytkmhilhfmfmckaagreatdoor", sum := "38f7fa8da1aec9413ac9f0853ce4e13839bc6142ec8659bd76bde581e75f7671", func := "hayrick/hayricklaw17.XattrOnly", spec := "xattrOnly", inPlace := ["internal/bytealg.IndexByteString", "internal/bytealg.abigen_runtime_cmpstring", "slices.overlaps[hayrick/xattr.Attr]"], unfollowed := true, recurses := true, named := ["math/bits.deBruijn32tab", "math/bits.deBruijn64tab"], apart := false, laid := [("math/bits.deBruijn32tab", laid_math_bits_deBruijn32tab), ("math/bits.deBruijn64tab", laid_math_bits_deBruijn64tab)], narrowed := true }
def XattrOnlyUptoSaid : Prop := xattrOnlyUptoRow.holds Tryz.pinned (OpenSpec.upto xattrOnlySpec)

/-- 'hayricklaw17.XattrOrder', WHERE WHAT IT READS IS OF BULK AT MOST 1048576: true; the input reads as it did. -/
def xattrOrderUptoRow : OpenClaim := { program := "ytkmhilhfmfmckaagreatdoor", sum := "38f7fa8da1aec9413ac9f0853ce4e13839bc6142ec8659bd76bde581e75f7671", func := "hayrick/hayricklaw17.XattrOrder", spec := "xattrOrder", inPlace := ["internal/bytealg.IndexByteString", "internal/bytealg.abigen_runtime_cmpstring", "slices.overlaps[hayrick/xattr.Attr]"], unfollowed := true, recurses := true, named := ["math/bits.deBruijn32tab", "math/bits.deBruijn64tab"], apart := false, laid := [("math/bits.deBruijn32tab", laid_math_bits_deBruijn32tab), ("math/bits.deBruijn64tab", laid_math_bits_deBruijn64tab)], narrowed := true }
def XattrOrderUptoSaid : Prop := xattrOrderUptoRow.holds Tryz.pinned (OpenSpec.upto xattrOrderSpec)

/-- 'hayricklaw17.XattrHow', WHERE WHAT IT READS IS OF BULK AT MOST 1048576: true; the input reads as it did. -/
def xattrHowUptoRow : OpenClaim := { program := "ytkmhilhfmfmckaagreatdoor", sum := "38f7fa8da1aec9413ac9f0853ce4e13839bc6142ec8659bd76bde581e75f7671", func := "hayrick/hayricklaw17.XattrHow", spec := "xattrHow", inPlace := ["internal/bytealg.IndexByteString", "internal/bytealg.abigen_runtime_cmpstring", "slices.overlaps[hayrick/xattr.Attr]"], unfollowed := true, recurses := true, named := ["math/bits.deBruijn32tab", "math/bits.deBruijn64tab"], apart := false, laid := [("math/bits.deBruijn32tab", laid_math_bits_deBruijn32tab), ("math/bits.deBruijn64tab", laid_math_bits_deBruijn64tab)], narrowed := true }
def XattrHowUptoSaid : Prop := xattrHowUptoRow.holds Tryz.pinned (OpenSpec.upto xattrHowSpec)

/-- 'hayricklaw17.XattrPlays', WHERE WHAT IT READS IS OF BULK AT MOST 1048576: true; the input reads as it did. -/
def xattrPlaysUptoRow : OpenClaim := { program := "ytkmhilhfmfmckaagreatdoor", sum := "38f7fa8da1aec9413ac9f0853ce4e13839bc6142ec8659bd76bde581e75f7671", func := "hayrick/hayricklaw17.XattrPlays", spec := "xattrPlays", inPlace := ["internal/bytealg.IndexByteString", "internal/bytealg.abigen_runtime_cmpstring", "slices.overlaps[hayrick/xattr.Attr]"], unfollowed := true, recurses := true, named := ["math/bits.deBruijn32tab", "math/bits.deBruijn64tab"], apart := false, laid := [("math/bits.deBruijn32tab", laid_math_bits_deBruijn32tab), ("math/bits.deBruijn64tab", laid_math_bits_deBruijn64tab)], narrowed := true }
def XattrPlaysUptoSaid : Prop := xattrPlaysUptoRow.holds Tryz.pinned (OpenSpec.upto xattrPlaysSpec)

/-- 'hayricklaw17.XattrIs', WHERE WHAT IT READS IS OF BULK AT MOST 1048576: true; the input reads as it did. -/
def xattrIsUptoRow : OpenClaim := { program := "ytkmhilhfmfmckaagreatdoor", sum := "38f7fa8da1aec9413ac9f0853ce4e13839bc6142ec8659bd76bde581e75f7671", func := "hayrick/hayricklaw17.XattrIs", spec := "xattrIs", inPlace := ["internal/bytealg.IndexByteString", "internal/bytealg.abigen_runtime_cmpstring", "slices.overlaps[hayrick/xattr.Attr]"], unfollowed := true, recurses := true, named := ["math/bits.deBruijn32tab", "math/bits.deBruijn64tab"], apart := false, laid := [("math/bits.deBruijn32tab", laid_math_bits_deBruijn32tab), ("math/bits.deBruijn64tab", laid_math_bits_deBruijn64tab)], narrowed := true }
def XattrIsUptoSaid : Prop := xattrIsUptoRow.holds Tryz.pinned (OpenSpec.upto xattrIsSpec)

end Rows
end Go.Proofs.YtkmhilhfmfmckaaGreatDoor
