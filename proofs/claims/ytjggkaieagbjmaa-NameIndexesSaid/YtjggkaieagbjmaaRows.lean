/-
  No cell of these rows narrows 'for every input' (looked for: loops, veiled, ifaces, maps, wideKeys, modest, calm, conditions, laid).
  DERIVED. THE GIVEN ROWS OF THIS SEAT. 6 by the template 'for every input the law returns true; each argument reads behind the call as it read before'; 0 by the template 'total and deterministic' (their statements: YtjggkaieagbjmaaTotals.lean).
  GIVEN WITH THE SEED: the statements are not yours to turn. If you find one false, say at which input.
  Laid BY PROGRAM, IN A SANDBOX (cutbox-rows.mjs): the forced cells as the released guide's own fill.sh prints them over the translation 2c2629e91c430e78… (all of the seat's roots in one cut). By AI agents, Wed Nov 11 2026. No macro, syntax, notation, axiom, sorry.
-/
import Derived.Test.YtjggkaieagbjmaaChecked
import GoSem.Claim
import GoSem.ClaimJoined
import GoSem.ClaimMapViews
import Derived.JoinedTies
import Derived.KernelRfl
namespace Go.Proofs.Ytjggkaieagbjmaa
/- THE CELL 'sum', in the pinned program and in every row, IS THE sha256 OF THE DUMP (.gsa) THAT YtjggkaieagbjmaaProg.lean LOADS. Nothing in Lean hashes anything: it is a label: what it is worth is what the hold of that sum in a sandbox is worth. -/
noncomputable def Try.pinned : Pinned := { name := "ytjggkaieagbjmaa", sum := "2c2629e91c430e7840fb607d3994017b169d6e8bfce6e748b2a9ce6484a2a95e", checked := Try.checked }
namespace Rows
def none {H : Type} : Left H := { results := [], args := [] }

/-- 'hayricklaw15.NameOrders': WHATEVER THE INPUT: true; the input reads as it did. -/
def nameOrdersSpec : ChangeSpec := { name := "nameOrders", fn := fun _ => fun
  | [d1, d2, d3] => { results := [.lit (.bool true)], args := [d1, d2, d3] }
  | _ => none }
def nameOrdersRow : OpenClaim := { program := "ytjggkaieagbjmaa", sum := "2c2629e91c430e7840fb607d3994017b169d6e8bfce6e748b2a9ce6484a2a95e", func := "hayrick/hayricklaw15.NameOrders", spec := "nameOrders", inPlace := ["internal/bytealg.IndexByteString", "internal/bytealg.IndexString"], unfollowed := true, recurses := true, named := ["internal/bytealg.MaxLen"], apart := false }
def NameOrdersSaid : Prop := nameOrdersRow.holds Try.pinned (OpenSpec.ofChange nameOrdersSpec)

/-- ITS FALSE NEIGHBOUR: 'it returns false'. Refute it at one input. -/
def nameOrdersWrong : ChangeSpec := { name := "nameOrders", fn := fun _ => fun
  | [d1, d2, d3] => { results := [.lit (.bool false)], args := [d1, d2, d3] }
  | _ => none }
def NameOrdersWrongFalsely : Prop := nameOrdersRow.holds Try.pinned (OpenSpec.ofChange nameOrdersWrong)

/-- 'hayricklaw15.NameLeaves': WHATEVER THE INPUT: true; the input reads as it did. -/
def nameLeavesSpec : ChangeSpec := { name := "nameLeaves", fn := fun _ => fun
  | [d1, d2, d3] => { results := [.lit (.bool true)], args := [d1, d2, d3] }
  | _ => none }
def nameLeavesRow : OpenClaim := { program := "ytjggkaieagbjmaa", sum := "2c2629e91c430e7840fb607d3994017b169d6e8bfce6e748b2a9ce6484a2a95e", func := "hayrick/hayricklaw15.NameLeaves", spec := "nameLeaves", inPlace := ["internal/bytealg.IndexByteString", "internal/bytealg.IndexString"], unfollowed := true, recurses := true, named := ["internal/bytealg.MaxLen"], apart := false }
def NameLeavesSaid : Prop := nameLeavesRow.holds Try.pinned (OpenSpec.ofChange nameLeavesSpec)

/-- ITS FALSE NEIGHBOUR: 'it returns false'. Refute it at one input. -/
def nameLeavesWrong : ChangeSpec := { name := "nameLeaves", fn := fun _ => fun
  | [d1, d2, d3] => { results := [.lit (.bool false)], args := [d1, d2, d3] }
  | _ => none }
def NameLeavesWrongFalsely : Prop := nameLeavesRow.holds Try.pinned (OpenSpec.ofChange nameLeavesWrong)

/-- 'hayricklaw15.NameHalves': WHATEVER THE INPUT: true; the input reads as it did. -/
def nameHalvesSpec : ChangeSpec := { name := "nameHalves", fn := fun _ => fun
  | [d] => { results := [.lit (.bool true)], args := [d] }
  | _ => none }
def nameHalvesRow : OpenClaim := { program := "ytjggkaieagbjmaa", sum := "2c2629e91c430e7840fb607d3994017b169d6e8bfce6e748b2a9ce6484a2a95e", func := "hayrick/hayricklaw15.NameHalves", spec := "nameHalves", inPlace := ["internal/bytealg.IndexByteString", "internal/bytealg.IndexString"], unfollowed := true, recurses := true, named := ["internal/bytealg.MaxLen"], apart := false }
def NameHalvesSaid : Prop := nameHalvesRow.holds Try.pinned (OpenSpec.ofChange nameHalvesSpec)

/-- ITS FALSE NEIGHBOUR: 'it returns false'. Refute it at one input. -/
def nameHalvesWrong : ChangeSpec := { name := "nameHalves", fn := fun _ => fun
  | [d] => { results := [.lit (.bool false)], args := [d] }
  | _ => none }
def NameHalvesWrongFalsely : Prop := nameHalvesRow.holds Try.pinned (OpenSpec.ofChange nameHalvesWrong)

/-- 'hayricklaw15.NameIndexes': WHATEVER THE INPUT: true; the input reads as it did. -/
def nameIndexesSpec : ChangeSpec := { name := "nameIndexes", fn := fun _ => fun
  | [d1, d2, d3] => { results := [.lit (.bool true)], args := [d1, d2, d3] }
  | _ => none }
def nameIndexesRow : OpenClaim := { program := "ytjggkaieagbjmaa", sum := "2c2629e91c430e7840fb607d3994017b169d6e8bfce6e748b2a9ce6484a2a95e", func := "hayrick/hayricklaw15.NameIndexes", spec := "nameIndexes", inPlace := ["internal/bytealg.IndexByteString", "internal/bytealg.IndexString"], unfollowed := true, recurses := true, named := ["internal/bytealg.MaxLen"], apart := false }
def NameIndexesSaid : Prop := nameIndexesRow.holds Try.pinned (OpenSpec.ofChange nameIndexesSpec)

/-- ITS FALSE NEIGHBOUR: 'it returns false'. Refute it at one input. -/
def nameIndexesWrong : ChangeSpec := { name := "nameIndexes", fn := fun _ => fun
  | [d1, d2, d3] => { results := [.lit (.bool false)], args := [d1, d2, d3] }
  | _ => none }
def NameIndexesWrongFalsely : Prop := nameIndexesRow.holds Try.pinned (OpenSpec.ofChange nameIndexesWrong)

/-- 'hayricklaw15.NameOnly': WHATEVER THE INPUT: true; the input reads as it did. -/
def nameOnlySpec : ChangeSpec := { name := "nameOnly", fn := fun _ => fun
  | [d1, d2] => { results := [.lit (.bool true)], args := [d1, d2] }
  | _ => none }
def nameOnlyRow : OpenClaim := { program := "ytjggkaieagbjmaa", sum := "2c2629e91c430e7840fb607d3994017b169d6e8bfce6e748b2a9ce6484a2a95e", func := "hayrick/hayricklaw15.NameOnly", spec := "nameOnly", inPlace := ["internal/bytealg.IndexByteString", "internal/bytealg.IndexString"], unfollowed := true, recurses := true, named := ["internal/bytealg.MaxLen"], apart := false }
def NameOnlySaid : Prop := nameOnlyRow.holds Try.pinned (OpenSpec.ofChange nameOnlySpec)

/-- ITS FALSE NEIGHBOUR: 'it returns false'. Refute it at one input. -/
def nameOnlyWrong : ChangeSpec := { name := "nameOnly", fn := fun _ => fun
  | [d1, d2] => { results := [.lit (.bool false)], args := [d1, d2] }
  | _ => none }
def NameOnlyWrongFalsely : Prop := nameOnlyRow.holds Try.pinned (OpenSpec.ofChange nameOnlyWrong)

/-- 'hayricklaw15.NameBack': WHATEVER THE INPUT: true; the input reads as it did. -/
def nameBackSpec : ChangeSpec := { name := "nameBack", fn := fun _ => fun
  | [d1, d2, d3, d4] => { results := [.lit (.bool true)], args := [d1, d2, d3, d4] }
  | _ => none }
def nameBackRow : OpenClaim := { program := "ytjggkaieagbjmaa", sum := "2c2629e91c430e7840fb607d3994017b169d6e8bfce6e748b2a9ce6484a2a95e", func := "hayrick/hayricklaw15.NameBack", spec := "nameBack", inPlace := ["internal/bytealg.IndexByteString", "internal/bytealg.IndexString"], unfollowed := true, recurses := true, named := ["internal/bytealg.MaxLen"], apart := false }
def NameBackSaid : Prop := nameBackRow.holds Try.pinned (OpenSpec.ofChange nameBackSpec)

/-- ITS FALSE NEIGHBOUR: 'it returns false'. Refute it at one input. -/
def nameBackWrong : ChangeSpec := { name := "nameBack", fn := fun _ => fun
  | [d1, d2, d3, d4] => { results := [.lit (.bool false)], args := [d1, d2, d3, d4] }
  | _ => none }
def NameBackWrongFalsely : Prop := nameBackRow.holds Try.pinned (OpenSpec.ofChange nameBackWrong)

/- THE SECOND FORM. 'bulk': how many values and letters a reading holds, each counted each time it is reached (what is shared counts as often as it is met; a slice's spare places count too). A statement '..UptoSaid' is the law's where the arguments, and the package variables that the reading takes, are together of bulk at most 1048576: NARROWER than '..Said'. Prove '..Said' where nothing that the law and all that it calls make is longer than what came in: it says more and counts as full. Else prove '..UptoSaid'. A law counts once. -/
mutual
def uptoBulk {H : Type} : DataW H → Nat
  | .lit (.string bytes) => bytes.length + 1
  | .lit _ => 1
  | .nil => 1
  | .ptr d => uptoBulk d + 1
  | .slice elems spare => uptoBulkAll elems + uptoBulkAll spare + 1
  | .agg parts => uptoBulkAll parts + 1
  | .iface _ d => uptoBulk d + 1
  | .map entries => uptoBulkEntries entries + 1
  | .held _ => 1
def uptoBulkAll {H : Type} : List (DataW H) → Nat
  | [] => 0
  | d :: r => uptoBulk d + uptoBulkAll r
def uptoBulkEntries {H : Type} : List (Lit × DataW H) → Nat
  | [] => 0
  | x :: r => uptoBulkEntry x + uptoBulkEntries r
def uptoBulkEntry {H : Type} : Lit × DataW H → Nat
  | (.string bytes, d) => bytes.length + uptoBulk d + 1
  | (_, d) => uptoBulk d + 1
 end
def uptoSmall : (H : Type) → List (DataW H) → Bool := fun _ ds => decide (uptoBulkAll ds ≤ 1048576)
def OpenSpec.upto (s : _root_.Go.ChangeSpec) : _root_.Go.OpenSpec := { _root_.Go.OpenSpec.ofChange s with cond := some uptoSmall }

/-- 'hayricklaw15.NameOrders', WHERE WHAT IT READS IS OF BULK AT MOST 1048576: true; the input reads as it did. -/
def nameOrdersUptoRow : OpenClaim := { program := "ytjggkaieagbjmaa", sum := "2c2629e91c430e7840fb607d3994017b169d6e8bfce6e748b2a9ce6484a2a95e", func := "hayrick/hayricklaw15.NameOrders", spec := "nameOrders", inPlace := ["internal/bytealg.IndexByteString", "internal/bytealg.IndexString"], unfollowed := true, recurses := true, named := ["internal/bytealg.MaxLen"], apart := false, narrowed := true }
def NameOrdersUptoSaid : Prop := nameOrdersUptoRow.holds Try.pinned (OpenSpec.upto nameOrdersSpec)

/-- 'hayricklaw15.NameLeaves', WHERE WHAT IT READS IS OF BULK AT MOST 1048576: true; the input reads as it did. -/
def nameLeavesUptoRow : OpenClaim := { program := "ytjggkaieagbjmaa", sum := "2c2629e91c430e7840fb607d3994017b169d6e8bfce6e748b2a9ce6484a2a95e", func := "hayrick/hayricklaw15.NameLeaves", spec := "nameLeaves", inPlace := ["internal/bytealg.IndexByteString", "internal/bytealg.IndexString"], unfollowed := true, recurses := true, named := ["internal/bytealg.MaxLen"], apart := false, narrowed := true }
def NameLeavesUptoSaid : Prop := nameLeavesUptoRow.holds Try.pinned (OpenSpec.upto nameLeavesSpec)

/-- 'hayricklaw15.NameHalves', WHERE WHAT IT READS IS OF BULK AT MOST 1048576: true; the input reads as it did. -/
def nameHalvesUptoRow : OpenClaim := { program := "ytjggkaieagbjmaa", sum := "2c2629e91c430e7840fb607d3994017b169d6e8bfce6e748b2a9ce6484a2a95e", func := "hayrick/hayricklaw15.NameHalves", spec := "nameHalves", inPlace := ["internal/bytealg.IndexByteString", "internal/bytealg.IndexString"], unfollowed := true, recurses := true, named := ["internal/bytealg.MaxLen"], apart := false, narrowed := true }
def NameHalvesUptoSaid : Prop := nameHalvesUptoRow.holds Try.pinned (OpenSpec.upto nameHalvesSpec)

/-- 'hayricklaw15.NameIndexes', WHERE WHAT IT READS IS OF BULK AT MOST 1048576: true; the input reads as it did. -/
def nameIndexesUptoRow : OpenClaim := { program := "ytjggkaieagbjmaa", sum := "2c2629e91c430e7840fb607d3994017b169d6e8bfce6e748b2a9ce6484a2a95e", func := "hayrick/hayricklaw15.NameIndexes", spec := "nameIndexes", inPlace := ["internal/bytealg.IndexByteString", "internal/bytealg.IndexString"], unfollowed := true, recurses := true, named := ["internal/bytealg.MaxLen"], apart := false, narrowed := true }
def NameIndexesUptoSaid : Prop := nameIndexesUptoRow.holds Try.pinned (OpenSpec.upto nameIndexesSpec)

/-- 'hayricklaw15.NameOnly', WHERE WHAT IT READS IS OF BULK AT MOST 1048576: true; the input reads as it did. -/
def nameOnlyUptoRow : OpenClaim := { program := "ytjggkaieagbjmaa", sum := "2c2629e91c430e7840fb607d3994017b169d6e8bfce6e748b2a9ce6484a2a95e", func := "hayrick/hayricklaw15.NameOnly", spec := "nameOnly", inPlace := ["internal/bytealg.IndexByteString", "internal/bytealg.IndexString"], unfollowed := true, recurses := true, named := ["internal/bytealg.MaxLen"], apart := false, narrowed := true }
def NameOnlyUptoSaid : Prop := nameOnlyUptoRow.holds Try.pinned (OpenSpec.upto nameOnlySpec)

/-- 'hayricklaw15.NameBack', WHERE WHAT IT READS IS OF BULK AT MOST 1048576: true; the input reads as it did. -/
def nameBackUptoRow : OpenClaim := { program := "ytjggkaieagbjmaa", sum := "2c2629e91c430e7840fb607d3994017b169d6e8bfce6e748b2a9ce6484a2a95e", func := "hayrick/hayricklaw15.NameBack", spec := "nameBack", inPlace := ["internal/bytealg.IndexByteString", "internal/bytealg.IndexString"], unfollowed := true, recurses := true, named := ["internal/bytealg.MaxLen"], apart := false, narrowed := true }
def NameBackUptoSaid : Prop := nameBackUptoRow.holds Try.pinned (OpenSpec.upto nameBackSpec)

end Rows
end Go.Proofs.Ytjggkaieagbjmaa
