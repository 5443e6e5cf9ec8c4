/-
  NARROWER THAN 'FOR EVERY INPUT', by the rows' own cells (each row's printed sentence says how): EntityCanons: loops · EntityTurned: loops · EntityAttrs: loops · FamilyLoads: loops · FamilyAbove: loops · FamilyLaws: loops · FamilyNames: loops · ConformValues: loops · ConformStores: loops · ConformRequests: loops.
  DERIVED. THE GIVEN ROWS OF THIS SEAT. 12 by the template 'for every input the law returns true; each argument reads behind the call as it read before'; 0 by the template 'total and deterministic' (their statements: YtjllolagcdjlnaaGreatTotals.lean).
  GIVEN WITH THE SEED: the statements are not yours to turn. If you find one false, say at which input.
  Laid BY PROGRAM, IN A SANDBOX (cutbox-rows.mjs): the forced cells as the released guide's own fill.sh prints them over the translation 3a17bb1a7bd9ff44… (all of the seat's roots in one cut). By AI agents, Wed Nov 11 2026. No macro, syntax, notation, axiom, sorry.
-/
import Derived.Test.YtjllolagcdjlnaaGreatChecked
import GoSem.Claim
import GoSem.ClaimJoined
import GoSem.ClaimMapViews
import Derived.JoinedTies
import Derived.KernelRfl
namespace Go.Proofs.YtjllolagcdjlnaaGreat
/- THE CELL 'sum', in the pinned program and in every row, IS THE sha256 OF THE DUMP (.gsa) THAT YtjllolagcdjlnaaGreatProg.lean LOADS. Nothing in Lean hashes anything: it is a label: what it is worth is what the hold of that sum in a sandbox is worth. -/
noncomputable def Tryz.pinned : Pinned := { name := "ytjllolagcdjlnaagreat", sum := "3a17bb1a7bd9ff4420b234d680119193992fc0b29b9703e38e062f02226b7ba8", checked := Tryz.checked }
namespace Rows
def none {H : Type} : Left H := { results := [], args := [] }

/-- 'chamberlainlaw05.EntityCanons': WHATEVER THE INPUT: true; the input reads as it did. -/
def entityCanonsSpec : ChangeSpec := { name := "entityCanons", fn := fun _ => fun
  | [d] => { results := [.lit (.bool true)], args := [d] }
  | _ => none }
def entityCanonsRow : OpenClaim := { program := "ytjllolagcdjlnaagreat", sum := "3a17bb1a7bd9ff4420b234d680119193992fc0b29b9703e38e062f02226b7ba8", func := "chamberlain/chamberlainlaw05.EntityCanons", spec := "entityCanons", unfollowed := true, recurses := true, loops := true, plainKeys := false, apart := false }
def EntityCanonsSaid : Prop := entityCanonsRow.holds Tryz.pinned (OpenSpec.ofChange entityCanonsSpec)

/-- ITS FALSE NEIGHBOUR: 'it returns false'. Refute it at one input. -/
def entityCanonsWrong : ChangeSpec := { name := "entityCanons", fn := fun _ => fun
  | [d] => { results := [.lit (.bool false)], args := [d] }
  | _ => none }
def EntityCanonsWrongFalsely : Prop := entityCanonsRow.holds Tryz.pinned (OpenSpec.ofChange entityCanonsWrong)

/-- 'chamberlainlaw05.EntityTurned': WHATEVER THE INPUT: true; the input reads as it did. -/
def entityTurnedSpec : ChangeSpec := { name := "entityTurned", fn := fun _ => fun
  | [d] => { results := [.lit (.bool true)], args := [d] }
  | _ => none }
def entityTurnedRow : OpenClaim := { program := "ytjllolagcdjlnaagreat", sum := "3a17bb1a7bd9ff4420b234d680119193992fc0b29b9703e38e062f02226b7ba8", func := "chamberlain/chamberlainlaw05.EntityTurned", spec := "entityTurned", unfollowed := true, recurses := true, loops := true, plainKeys := false, apart := false }
def EntityTurnedSaid : Prop := entityTurnedRow.holds Tryz.pinned (OpenSpec.ofChange entityTurnedSpec)

/-- ITS FALSE NEIGHBOUR: 'it returns false'. Refute it at one input. -/
def entityTurnedWrong : ChangeSpec := { name := "entityTurned", fn := fun _ => fun
  | [d] => { results := [.lit (.bool false)], args := [d] }
  | _ => none }
def EntityTurnedWrongFalsely : Prop := entityTurnedRow.holds Tryz.pinned (OpenSpec.ofChange entityTurnedWrong)

/-- 'chamberlainlaw05.EntityAttrs': WHATEVER THE INPUT: true; the input reads as it did. -/
def entityAttrsSpec : ChangeSpec := { name := "entityAttrs", fn := fun _ => fun
  | [d1, d2, d3, d4] => { results := [.lit (.bool true)], args := [d1, d2, d3, d4] }
  | _ => none }
def entityAttrsRow : OpenClaim := { program := "ytjllolagcdjlnaagreat", sum := "3a17bb1a7bd9ff4420b234d680119193992fc0b29b9703e38e062f02226b7ba8", func := "chamberlain/chamberlainlaw05.EntityAttrs", spec := "entityAttrs", unfollowed := true, recurses := true, loops := true, plainKeys := false, apart := false }
def EntityAttrsSaid : Prop := entityAttrsRow.holds Tryz.pinned (OpenSpec.ofChange entityAttrsSpec)

/-- ITS FALSE NEIGHBOUR: 'it returns false'. Refute it at one input. -/
def entityAttrsWrong : ChangeSpec := { name := "entityAttrs", fn := fun _ => fun
  | [d1, d2, d3, d4] => { results := [.lit (.bool false)], args := [d1, d2, d3, d4] }
  | _ => none }
def EntityAttrsWrongFalsely : Prop := entityAttrsRow.holds Tryz.pinned (OpenSpec.ofChange entityAttrsWrong)

/-- 'chamberlainlaw06.FamilyLoads': WHATEVER THE INPUT: true; the input reads as it did. -/
def familyLoadsSpec : ChangeSpec := { name := "familyLoads", fn := fun _ => fun
  | [d1, d2] => { results := [.lit (.bool true)], args := [d1, d2] }
  | _ => none }
def familyLoadsRow : OpenClaim := { program := "ytjllolagcdjlnaagreat", sum := "3a17bb1a7bd9ff4420b234d680119193992fc0b29b9703e38e062f02226b7ba8", func := "chamberlain/chamberlainlaw06.FamilyLoads", spec := "familyLoads", unfollowed := true, recurses := true, loops := true, plainKeys := false, apart := false }
def FamilyLoadsSaid : Prop := familyLoadsRow.holds Tryz.pinned (OpenSpec.ofChange familyLoadsSpec)

/-- ITS FALSE NEIGHBOUR: 'it returns false'. Refute it at one input. -/
def familyLoadsWrong : ChangeSpec := { name := "familyLoads", fn := fun _ => fun
  | [d1, d2] => { results := [.lit (.bool false)], args := [d1, d2] }
  | _ => none }
def FamilyLoadsWrongFalsely : Prop := familyLoadsRow.holds Tryz.pinned (OpenSpec.ofChange familyLoadsWrong)

/-- 'chamberlainlaw06.FamilyAbove': WHATEVER THE INPUT: true; the input reads as it did. -/
def familyAboveSpec : ChangeSpec := { name := "familyAbove", fn := fun _ => fun
  | [d1, d2, d3] => { results := [.lit (.bool true)], args := [d1, d2, d3] }
  | _ => none }
def familyAboveRow : OpenClaim := { program := "ytjllolagcdjlnaagreat", sum := "3a17bb1a7bd9ff4420b234d680119193992fc0b29b9703e38e062f02226b7ba8", func := "chamberlain/chamberlainlaw06.FamilyAbove", spec := "familyAbove", unfollowed := true, recurses := true, loops := true, plainKeys := false, apart := false }
def FamilyAboveSaid : Prop := familyAboveRow.holds Tryz.pinned (OpenSpec.ofChange familyAboveSpec)

/-- ITS FALSE NEIGHBOUR: 'it returns false'. Refute it at one input. -/
def familyAboveWrong : ChangeSpec := { name := "familyAbove", fn := fun _ => fun
  | [d1, d2, d3] => { results := [.lit (.bool false)], args := [d1, d2, d3] }
  | _ => none }
def FamilyAboveWrongFalsely : Prop := familyAboveRow.holds Tryz.pinned (OpenSpec.ofChange familyAboveWrong)

/-- 'chamberlainlaw06.FamilyLaws': WHATEVER THE INPUT: true; the input reads as it did. -/
def familyLawsSpec : ChangeSpec := { name := "familyLaws", fn := fun _ => fun
  | [d1, d2, d3, d4] => { results := [.lit (.bool true)], args := [d1, d2, d3, d4] }
  | _ => none }
def familyLawsRow : OpenClaim := { program := "ytjllolagcdjlnaagreat", sum := "3a17bb1a7bd9ff4420b234d680119193992fc0b29b9703e38e062f02226b7ba8", func := "chamberlain/chamberlainlaw06.FamilyLaws", spec := "familyLaws", unfollowed := true, recurses := true, loops := true, plainKeys := false, apart := false }
def FamilyLawsSaid : Prop := familyLawsRow.holds Tryz.pinned (OpenSpec.ofChange familyLawsSpec)

/-- ITS FALSE NEIGHBOUR: 'it returns false'. Refute it at one input. -/
def familyLawsWrong : ChangeSpec := { name := "familyLaws", fn := fun _ => fun
  | [d1, d2, d3, d4] => { results := [.lit (.bool false)], args := [d1, d2, d3, d4] }
  | _ => none }
def FamilyLawsWrongFalsely : Prop := familyLawsRow.holds Tryz.pinned (OpenSpec.ofChange familyLawsWrong)

/-- 'chamberlainlaw06.FamilyChains': WHATEVER THE INPUT: true; the input reads as it did. -/
def familyChainsSpec : ChangeSpec := { name := "familyChains", fn := fun _ => fun
  | [d1, d2] => { results := [.lit (.bool true)], args := [d1, d2] }
  | _ => none }
def familyChainsRow : OpenClaim := { program := "ytjllolagcdjlnaagreat", sum := "3a17bb1a7bd9ff4420b234d680119193992fc0b29b9703e38e062f02226b7ba8", func := "chamberlain/chamberlainlaw06.FamilyChains", spec := "familyChains", unfollowed := true, recurses := true, plainKeys := false, apart := false }
def FamilyChainsSaid : Prop := familyChainsRow.holds Tryz.pinned (OpenSpec.ofChange familyChainsSpec)

/-- ITS FALSE NEIGHBOUR: 'it returns false'. Refute it at one input. -/
def familyChainsWrong : ChangeSpec := { name := "familyChains", fn := fun _ => fun
  | [d1, d2] => { results := [.lit (.bool false)], args := [d1, d2] }
  | _ => none }
def FamilyChainsWrongFalsely : Prop := familyChainsRow.holds Tryz.pinned (OpenSpec.ofChange familyChainsWrong)

/-- 'chamberlainlaw06.FamilyNames': WHATEVER THE INPUT: true; the input reads as it did. -/
def familyNamesSpec : ChangeSpec := { name := "familyNames", fn := fun _ => fun
  | [d] => { results := [.lit (.bool true)], args := [d] }
  | _ => none }
def familyNamesRow : OpenClaim := { program := "ytjllolagcdjlnaagreat", sum := "3a17bb1a7bd9ff4420b234d680119193992fc0b29b9703e38e062f02226b7ba8", func := "chamberlain/chamberlainlaw06.FamilyNames", spec := "familyNames", unfollowed := true, recurses := true, loops := true, plainKeys := false, apart := false }
def FamilyNamesSaid : Prop := familyNamesRow.holds Tryz.pinned (OpenSpec.ofChange familyNamesSpec)

/-- ITS FALSE NEIGHBOUR: 'it returns false'. Refute it at one input. -/
def familyNamesWrong : ChangeSpec := { name := "familyNames", fn := fun _ => fun
  | [d] => { results := [.lit (.bool false)], args := [d] }
  | _ => none }
def FamilyNamesWrongFalsely : Prop := familyNamesRow.holds Tryz.pinned (OpenSpec.ofChange familyNamesWrong)

/-- 'chamberlainlaw13.ConformValues': WHATEVER THE INPUT: true; the input reads as it did. -/
def conformValuesSpec : ChangeSpec := { name := "conformValues", fn := fun _ => fun
  | [d1, d2, d3] => { results := [.lit (.bool true)], args := [d1, d2, d3] }
  | _ => none }
def conformValuesRow : OpenClaim := { program := "ytjllolagcdjlnaagreat", sum := "3a17bb1a7bd9ff4420b234d680119193992fc0b29b9703e38e062f02226b7ba8", func := "chamberlain/chamberlainlaw13.ConformValues", spec := "conformValues", unfollowed := true, recurses := true, loops := true, plainKeys := false, apart := false }
def ConformValuesSaid : Prop := conformValuesRow.holds Tryz.pinned (OpenSpec.ofChange conformValuesSpec)

/-- ITS FALSE NEIGHBOUR: 'it returns false'. Refute it at one input. -/
def conformValuesWrong : ChangeSpec := { name := "conformValues", fn := fun _ => fun
  | [d1, d2, d3] => { results := [.lit (.bool false)], args := [d1, d2, d3] }
  | _ => none }
def ConformValuesWrongFalsely : Prop := conformValuesRow.holds Tryz.pinned (OpenSpec.ofChange conformValuesWrong)

/-- 'chamberlainlaw13.ConformStores': WHATEVER THE INPUT: true; the input reads as it did. -/
def conformStoresSpec : ChangeSpec := { name := "conformStores", fn := fun _ => fun
  | [d1, d2] => { results := [.lit (.bool true)], args := [d1, d2] }
  | _ => none }
def conformStoresRow : OpenClaim := { program := "ytjllolagcdjlnaagreat", sum := "3a17bb1a7bd9ff4420b234d680119193992fc0b29b9703e38e062f02226b7ba8", func := "chamberlain/chamberlainlaw13.ConformStores", spec := "conformStores", unfollowed := true, recurses := true, loops := true, plainKeys := false, apart := false }
def ConformStoresSaid : Prop := conformStoresRow.holds Tryz.pinned (OpenSpec.ofChange conformStoresSpec)

/-- ITS FALSE NEIGHBOUR: 'it returns false'. Refute it at one input. -/
def conformStoresWrong : ChangeSpec := { name := "conformStores", fn := fun _ => fun
  | [d1, d2] => { results := [.lit (.bool false)], args := [d1, d2] }
  | _ => none }
def ConformStoresWrongFalsely : Prop := conformStoresRow.holds Tryz.pinned (OpenSpec.ofChange conformStoresWrong)

/-- 'chamberlainlaw13.ConformRequests': WHATEVER THE INPUT: true; the input reads as it did. -/
def conformRequestsSpec : ChangeSpec := { name := "conformRequests", fn := fun _ => fun
  | [d1, d2] => { results := [.lit (.bool true)], args := [d1, d2] }
  | _ => none }
def conformRequestsRow : OpenClaim := { program := "ytjllolagcdjlnaagreat", sum := "3a17bb1a7bd9ff4420b234d680119193992fc0b29b9703e38e062f02226b7ba8", func := "chamberlain/chamberlainlaw13.ConformRequests", spec := "conformRequests", unfollowed := true, recurses := true, loops := true, plainKeys := false, apart := false }
def ConformRequestsSaid : Prop := conformRequestsRow.holds Tryz.pinned (OpenSpec.ofChange conformRequestsSpec)

/-- ITS FALSE NEIGHBOUR: 'it returns false'. Refute it at one input. -/
def conformRequestsWrong : ChangeSpec := { name := "conformRequests", fn := fun _ => fun
  | [d1, d2] => { results := [.lit (.bool false)], args := [d1, d2] }
  | _ => none }
def ConformRequestsWrongFalsely : Prop := conformRequestsRow.holds Tryz.pinned (OpenSpec.ofChange conformRequestsWrong)

/-- 'chamberlainlaw13.ConformRecords': WHATEVER THE INPUT: true; the input reads as it did. -/
def conformRecordsSpec : ChangeSpec := { name := "conformRecords", fn := fun _ => fun
  | [d1, d2, d3, d4] => { results := [.lit (.bool true)], args := [d1, d2, d3, d4] }
  | _ => none }
def conformRecordsRow : OpenClaim := { program := "ytjllolagcdjlnaagreat", sum := "3a17bb1a7bd9ff4420b234d680119193992fc0b29b9703e38e062f02226b7ba8", func := "chamberlain/chamberlainlaw13.ConformRecords", spec := "conformRecords", unfollowed := true, recurses := true, plainKeys := false, apart := false }
def ConformRecordsSaid : Prop := conformRecordsRow.holds Tryz.pinned (OpenSpec.ofChange conformRecordsSpec)

/-- ITS FALSE NEIGHBOUR: 'it returns false'. Refute it at one input. -/
def conformRecordsWrong : ChangeSpec := { name := "conformRecords", fn := fun _ => fun
  | [d1, d2, d3, d4] => { results := [.lit (.bool false)], args := [d1, d2, d3, d4] }
  | _ => none }
def ConformRecordsWrongFalsely : Prop := conformRecordsRow.holds Tryz.pinned (OpenSpec.ofChange conformRecordsWrong)

/- THE SECOND FORM. 'bulk': how many values and letters a reading holds, each counted each time it is reached (what is shared counts as often as it is met; a slice's spare places count too). A statement '..UptoSaid' is the law's where the arguments, and the package variables that the reading takes, are together of bulk at most 1048576: NARROWER than '..Said'. Prove '..Said' where nothing that the law and all that it calls make is longer than what came in: it says more and counts as full. Else prove '..UptoSaid'. A law counts once. -/
mutual
def uptoBulk {H : Type} : DataW H → Nat
  | .lit (.string bytes) => bytes.length + 1
  | .lit _ => 1
  | .nil => 1
  | .ptr d => uptoBulk d + 1
  | .slice elems spare => uptoBulkAll elems + uptoBulkAll spare + 1
  | .agg parts => uptoBulkAll parts + 1
  | .iface _ d => uptoBulk d + 1
  | .map entries => uptoBulkEntries entries + 1
  | .held _ => 1
def uptoBulkAll {H : Type} : List (DataW H) → Nat
  | [] => 0
  | d :: r => uptoBulk d + uptoBulkAll r
def uptoBulkEntries {H : Type} : List (Lit × DataW H) → Nat
  | [] => 0
  | x :: r => uptoBulkEntry x + uptoBulkEntries r
def uptoBulkEntry {H : Type} : Lit × DataW H → Nat
  | (.string bytes, d) => bytes.length + uptoBulk d + 1
  | (_, d) => uptoBulk d + 1
 end
def uptoSmall : (H : Type) → List (DataW H) → Bool := fun _ ds => decide (uptoBulkAll ds ≤ 1048576)
def OpenSpec.upto (s : _root_.Go.ChangeSpec) : _root_.Go.OpenSpec := { _root_.Go.OpenSpec.ofChange s with cond := some uptoSmall }

/-- 'chamberlainlaw05.EntityCanons', WHERE WHAT IT READS IS OF BULK AT MOST 1048576: true; the input reads as it did. -/
def entityCanonsUptoRow : OpenClaim := { program := "ytjllolagcdjlnaagreat", sum := "3a17bb1a7bd9ff4420b234d680119193992fc0b29b9703e38e062f02226b7ba8", func := "chamberlain/chamberlainlaw05.EntityCanons", spec := "entityCanons", unfollowed := true, recurses := true, loops := true, plainKeys := false, apart := false, narrowed := true }
def EntityCanonsUptoSaid : Prop := entityCanonsUptoRow.holds Tryz.pinned (OpenSpec.upto entityCanonsSpec)

/-- 'chamberlainlaw05.EntityTurned', WHERE WHAT IT READS IS OF BULK AT MOST 1048576: true; the input reads as it did. -/
def entityTurnedUptoRow : OpenClaim := { program := "ytjllolagcdjlnaagreat", sum := "3a17bb1a7bd9ff4420b234d680119193992fc0b29b9703e38e062f02226b7ba8", func := "chamberlain/chamberlainlaw05.EntityTurned", spec := "entityTurned", unfollowed := true, recurses := true, loops := true, plainKeys := false, apart := false, narrowed := true }
def EntityTurnedUptoSaid : Prop := entityTurnedUptoRow.holds Tryz.pinned (OpenSpec.upto entityTurnedSpec)

/-- 'chamberlainlaw05.EntityAttrs', WHERE WHAT IT READS IS OF BULK AT MOST 1048576: true; the input reads as it did. -/
def entityAttrsUptoRow : OpenClaim := { program := "ytjllolagcdjlnaagreat", sum := "3a17bb1a7bd9ff4420b234d680119193992fc0b29b9703e38e062f02226b7ba8", func := "chamberlain/chamberlainlaw05.EntityAttrs", spec := "entityAttrs", unfollowed := true, recurses := true, loops := true, plainKeys := false, apart := false, narrowed := true }
def EntityAttrsUptoSaid : Prop := entityAttrsUptoRow.holds Tryz.pinned (OpenSpec.upto entityAttrsSpec)

/-- 'chamberlainlaw06.FamilyLoads', WHERE WHAT IT READS IS OF BULK AT MOST 1048576: true; the input reads as it did. -/
def familyLoadsUptoRow : OpenClaim := { program := "ytjllolagcdjlnaagreat", sum := "3a17bb1a7bd9ff4420b234d680119193992fc0b29b9703e38e062f02226b7ba8", func := "chamberlain/chamberlainlaw06.FamilyLoads", spec := "familyLoads", unfollowed := true, recurses := true, loops := true, plainKeys := false, apart := false, narrowed := true }
def FamilyLoadsUptoSaid : Prop := familyLoadsUptoRow.holds Tryz.pinned (OpenSpec.upto familyLoadsSpec)

/-- 'chamberlainlaw06.FamilyAbove', WHERE WHAT IT READS IS OF BULK AT MOST 1048576: true; the input reads as it did. -/
def familyAboveUptoRow : OpenClaim := { program := "ytjllolagcdjlnaagreat", sum := "3a17bb1a7bd9ff4420b234d680119193992fc0b29b9703e38e062f02226b7ba8", func := "chamberlain/chamberlainlaw06.FamilyAbove", spec := "familyAbove", unfollowed := true, recurses := true, loops := true, plainKeys := false, apart := false, narrowed := true }
def FamilyAboveUptoSaid : Prop := familyAboveUptoRow.holds Tryz.pinned (OpenSpec.upto familyAboveSpec)

/-- 'chamberlainlaw06.FamilyLaws', WHERE WHAT IT READS IS OF BULK AT MOST 1048576: true; the input reads as it did. -/
def familyLawsUptoRow : OpenClaim := { program := "ytjllolagcdjlnaagreat", sum := "3a17bb1a7bd9ff4420b234d680119193992fc0b29b9703e38e062f02226b7ba8", func := "chamberlain/chamberlainlaw06.FamilyLaws", spec := "familyLaws", unfollowed := true, recurses := true, loops := true, plainKeys := false, apart := false, narrowed := true }
def FamilyLawsUptoSaid : Prop := familyLawsUptoRow.holds Tryz.pinned (OpenSpec.upto familyLawsSpec)

/-- 'chamberlainlaw06.FamilyChains', WHERE WHAT IT READS IS OF BULK AT MOST 1048576: true; the input reads as it did. -/
def familyChainsUptoRow : OpenClaim := { program := "ytjllolagcdjlnaagreat", sum := "3a17bb1a7bd9ff4420b234d680119193992fc0b29b9703e38e062f02226b7ba8", func := "chamberlain/chamberlainlaw06.FamilyChains", spec := "familyChains", unfollowed := true, recurses := true, plainKeys := false, apart := false, narrowed := true }
def FamilyChainsUptoSaid : Prop := familyChainsUptoRow.holds Tryz.pinned (OpenSpec.upto familyChainsSpec)

/-- 'chamberlainlaw06.FamilyNames', WHERE WHAT IT READS IS OF BULK AT MOST 1048576: true; the input reads as it did. -/
def familyNamesUptoRow : OpenClaim := { program := "ytjllolagcdjlnaagreat", sum := "3a17bb1a7bd9ff4420b234d680119193992fc0b29b9703e38e062f02226b7ba8", func := "chamberlain/chamberlainlaw06.FamilyNames", spec := "familyNames", unfollowed := true, recurses := true, loops := true, plainKeys := false, apart := false, narrowed := true }
def FamilyNamesUptoSaid : Prop := familyNamesUptoRow.holds Tryz.pinned (OpenSpec.upto familyNamesSpec)

/-- 'chamberlainlaw13.ConformValues', WHERE WHAT IT READS IS OF BULK AT MOST 1048576: true; the input reads as it did. -/
def conformValuesUptoRow : OpenClaim := { program := "ytjllolagcdjlnaagreat", sum := "3a17bb1a7bd9ff4420b234d680119193992fc0b29b9703e38e062f02226b7ba8", func := "chamberlain/chamberlainlaw13.ConformValues", spec := "conformValues", unfollowed := true, recurses := true, loops := true, plainKeys := false, apart := false, narrowed := true }
def ConformValuesUptoSaid : Prop := conformValuesUptoRow.holds Tryz.pinned (OpenSpec.upto conformValuesSpec)

/-- 'chamberlainlaw13.ConformStores', WHERE WHAT IT READS IS OF BULK AT MOST 1048576: true; the input reads as it did. -/
def conformStoresUptoRow : OpenClaim := { program := "ytjllolagcdjlnaagreat", sum := "3a17bb1a7bd9ff4420b234d680119193992fc0b29b9703e38e062f02226b7ba8", func := "chamberlain/chamberlainlaw13.ConformStores", spec := "conformStores", unfollowed := true, recurses := true, loops := true, plainKeys := false, apart := false, narrowed := true }
def ConformStoresUptoSaid : Prop := conformStoresUptoRow.holds Tryz.pinned (OpenSpec.upto conformStoresSpec)

/-- 'chamberlainlaw13.ConformRequests', WHERE WHAT IT READS IS OF BULK AT MOST 1048576: true; the input reads as it did. -/
def conformRequestsUptoRow : OpenClaim := { program := "ytjllolagcdjlnaagreat", sum := "3a17bb1a7bd9ff4420b234d680119193992fc0b29b9703e38e062f02226b7ba8", func := "chamberlain/chamberlainlaw13.ConformRequests", spec := "conformRequests", unfollowed := true, recurses := true, loops := true, plainKeys := false, apart := false, narrowed := true }
def ConformRequestsUptoSaid : Prop := conformRequestsUptoRow.holds Tryz.pinned (OpenSpec.upto conformRequestsSpec)

/-- 'chamberlainlaw13.ConformRecords', WHERE WHAT IT READS IS OF BULK AT MOST 1048576: true; the input reads as it did. -/
def conformRecordsUptoRow : OpenClaim := { program := "ytjllolagcdjlnaagreat", sum := "3a17bb1a7bd9ff4420b234d680119193992fc0b29b9703e38e062f02226b7ba8", func := "chamberlain/chamberlainlaw13.ConformRecords", spec := "conformRecords", unfollowed := true, recurses := true, plainKeys := false, apart := false, narrowed := true }
def ConformRecordsUptoSaid : Prop := conformRecordsUptoRow.holds Tryz.pinned (OpenSpec.upto conformRecordsSpec)

end Rows
end Go.Proofs.YtjllolagcdjlnaaGreat
