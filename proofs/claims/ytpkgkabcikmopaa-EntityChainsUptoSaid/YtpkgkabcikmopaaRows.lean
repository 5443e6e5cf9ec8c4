/-
  NARROWER THAN 'FOR EVERY INPUT', by the rows' own cells (each row's printed sentence says how): ValueCanons: loops · ValueFinds: loops · ValueLaws: loops · ValueUnions: loops · ValueNested: loops · CodecEncodes: loops · CodecDecodes: loops · CodecBack: loops.
  DERIVED. THE GIVEN ROWS OF THIS SEAT. 12 by the template 'for every input the law returns true; each argument reads behind the call as it read before'; 0 by the template 'total and deterministic' (their statements: YtpkgkabcikmopaaTotals.lean).
  GIVEN WITH THE SEED: the statements are not yours to turn. If you find one false, say at which input.
  Laid BY PROGRAM, IN A SANDBOX (cutbox-rows.mjs): the forced cells as the released guide's own fill.sh prints them over the translation 5a22010272c431b4… (all of the seat's roots in one cut). By AI agents, Wed Nov 11 2026. No macro, syntax, notation, axiom, sorry.
-/
import Derived.Test.YtpkgkabcikmopaaChecked
import GoSem.Claim
import GoSem.ClaimJoined
import GoSem.ClaimMapViews
import Derived.JoinedTies
import Derived.KernelRfl
namespace Go.Proofs.Ytpkgkabcikmopaa
/- THE CELL 'sum', in the pinned program and in every row, IS THE sha256 OF THE DUMP (.gsa) THAT YtpkgkabcikmopaaProg.lean LOADS. Nothing in Lean hashes anything: it is a label: what it is worth is what the hold of that sum in a sandbox is worth. -/
noncomputable def Try.pinned : Pinned := { name := "ytpkgkabcikmopaa", sum := "5a22010272c431b409161dfd2ed117143c5426f44a9660fe0852b405ef49015e", checked := Try.checked }
namespace Rows
def none {H : Type} : Left H := { results := [], args := [] }

/-- 'chamberlainlaw03.ValueCanons': WHATEVER THE INPUT: true; the input reads as it did. -/
def valueCanonsSpec : ChangeSpec := { name := "valueCanons", fn := fun _ => fun
  | [d] => { results := [.lit (.bool true)], args := [d] }
  | _ => none }
def valueCanonsRow : OpenClaim := { program := "ytpkgkabcikmopaa", sum := "5a22010272c431b409161dfd2ed117143c5426f44a9660fe0852b405ef49015e", func := "chamberlain/chamberlainlaw03.ValueCanons", spec := "valueCanons", unfollowed := true, recurses := true, loops := true, plainKeys := false, apart := false }
def ValueCanonsSaid : Prop := valueCanonsRow.holds Try.pinned (OpenSpec.ofChange valueCanonsSpec)

/-- ITS FALSE NEIGHBOUR: 'it returns false'. Refute it at one input. -/
def valueCanonsWrong : ChangeSpec := { name := "valueCanons", fn := fun _ => fun
  | [d] => { results := [.lit (.bool false)], args := [d] }
  | _ => none }
def ValueCanonsWrongFalsely : Prop := valueCanonsRow.holds Try.pinned (OpenSpec.ofChange valueCanonsWrong)

/-- 'chamberlainlaw03.ValueFinds': WHATEVER THE INPUT: true; the input reads as it did. -/
def valueFindsSpec : ChangeSpec := { name := "valueFinds", fn := fun _ => fun
  | [d1, d2, d3] => { results := [.lit (.bool true)], args := [d1, d2, d3] }
  | _ => none }
def valueFindsRow : OpenClaim := { program := "ytpkgkabcikmopaa", sum := "5a22010272c431b409161dfd2ed117143c5426f44a9660fe0852b405ef49015e", func := "chamberlain/chamberlainlaw03.ValueFinds", spec := "valueFinds", unfollowed := true, recurses := true, loops := true, plainKeys := false, apart := false }
def ValueFindsSaid : Prop := valueFindsRow.holds Try.pinned (OpenSpec.ofChange valueFindsSpec)

/-- ITS FALSE NEIGHBOUR: 'it returns false'. Refute it at one input. -/
def valueFindsWrong : ChangeSpec := { name := "valueFinds", fn := fun _ => fun
  | [d1, d2, d3] => { results := [.lit (.bool false)], args := [d1, d2, d3] }
  | _ => none }
def ValueFindsWrongFalsely : Prop := valueFindsRow.holds Try.pinned (OpenSpec.ofChange valueFindsWrong)

/-- 'chamberlainlaw03.ValueLaws': WHATEVER THE INPUT: true; the input reads as it did. -/
def valueLawsSpec : ChangeSpec := { name := "valueLaws", fn := fun _ => fun
  | [d1, d2, d3] => { results := [.lit (.bool true)], args := [d1, d2, d3] }
  | _ => none }
def valueLawsRow : OpenClaim := { program := "ytpkgkabcikmopaa", sum := "5a22010272c431b409161dfd2ed117143c5426f44a9660fe0852b405ef49015e", func := "chamberlain/chamberlainlaw03.ValueLaws", spec := "valueLaws", unfollowed := true, recurses := true, loops := true, plainKeys := false, apart := false }
def ValueLawsSaid : Prop := valueLawsRow.holds Try.pinned (OpenSpec.ofChange valueLawsSpec)

/-- ITS FALSE NEIGHBOUR: 'it returns false'. Refute it at one input. -/
def valueLawsWrong : ChangeSpec := { name := "valueLaws", fn := fun _ => fun
  | [d1, d2, d3] => { results := [.lit (.bool false)], args := [d1, d2, d3] }
  | _ => none }
def ValueLawsWrongFalsely : Prop := valueLawsRow.holds Try.pinned (OpenSpec.ofChange valueLawsWrong)

/-- 'chamberlainlaw03.ValueUnions': WHATEVER THE INPUT: true; the input reads as it did. -/
def valueUnionsSpec : ChangeSpec := { name := "valueUnions", fn := fun _ => fun
  | [d1, d2, d3] => { results := [.lit (.bool true)], args := [d1, d2, d3] }
  | _ => none }
def valueUnionsRow : OpenClaim := { program := "ytpkgkabcikmopaa", sum := "5a22010272c431b409161dfd2ed117143c5426f44a9660fe0852b405ef49015e", func := "chamberlain/chamberlainlaw03.ValueUnions", spec := "valueUnions", unfollowed := true, recurses := true, loops := true, plainKeys := false, apart := false }
def ValueUnionsSaid : Prop := valueUnionsRow.holds Try.pinned (OpenSpec.ofChange valueUnionsSpec)

/-- ITS FALSE NEIGHBOUR: 'it returns false'. Refute it at one input. -/
def valueUnionsWrong : ChangeSpec := { name := "valueUnions", fn := fun _ => fun
  | [d1, d2, d3] => { results := [.lit (.bool false)], args := [d1, d2, d3] }
  | _ => none }
def ValueUnionsWrongFalsely : Prop := valueUnionsRow.holds Try.pinned (OpenSpec.ofChange valueUnionsWrong)

/-- 'chamberlainlaw03.ValueNested': WHATEVER THE INPUT: true; the input reads as it did. -/
def valueNestedSpec : ChangeSpec := { name := "valueNested", fn := fun _ => fun
  | [d1, d2] => { results := [.lit (.bool true)], args := [d1, d2] }
  | _ => none }
def valueNestedRow : OpenClaim := { program := "ytpkgkabcikmopaa", sum := "5a22010272c431b409161dfd2ed117143c5426f44a9660fe0852b405ef49015e", func := "chamberlain/chamberlainlaw03.ValueNested", spec := "valueNested", unfollowed := true, recurses := true, loops := true, plainKeys := false, apart := false }
def ValueNestedSaid : Prop := valueNestedRow.holds Try.pinned (OpenSpec.ofChange valueNestedSpec)

/-- ITS FALSE NEIGHBOUR: 'it returns false'. Refute it at one input. -/
def valueNestedWrong : ChangeSpec := { name := "valueNested", fn := fun _ => fun
  | [d1, d2] => { results := [.lit (.bool false)], args := [d1, d2] }
  | _ => none }
def ValueNestedWrongFalsely : Prop := valueNestedRow.holds Try.pinned (OpenSpec.ofChange valueNestedWrong)

/-- 'chamberlainlaw03.ValueRecords': WHATEVER THE INPUT: true; the input reads as it did. -/
def valueRecordsSpec : ChangeSpec := { name := "valueRecords", fn := fun _ => fun
  | [d1, d2] => { results := [.lit (.bool true)], args := [d1, d2] }
  | _ => none }
def valueRecordsRow : OpenClaim := { program := "ytpkgkabcikmopaa", sum := "5a22010272c431b409161dfd2ed117143c5426f44a9660fe0852b405ef49015e", func := "chamberlain/chamberlainlaw03.ValueRecords", spec := "valueRecords", unfollowed := true, recurses := true, plainKeys := false, apart := false }
def ValueRecordsSaid : Prop := valueRecordsRow.holds Try.pinned (OpenSpec.ofChange valueRecordsSpec)

/-- ITS FALSE NEIGHBOUR: 'it returns false'. Refute it at one input. -/
def valueRecordsWrong : ChangeSpec := { name := "valueRecords", fn := fun _ => fun
  | [d1, d2] => { results := [.lit (.bool false)], args := [d1, d2] }
  | _ => none }
def ValueRecordsWrongFalsely : Prop := valueRecordsRow.holds Try.pinned (OpenSpec.ofChange valueRecordsWrong)

/-- 'chamberlainlaw04.CodecEncodes': WHATEVER THE INPUT: true; the input reads as it did. -/
def codecEncodesSpec : ChangeSpec := { name := "codecEncodes", fn := fun _ => fun
  | [d] => { results := [.lit (.bool true)], args := [d] }
  | _ => none }
def codecEncodesRow : OpenClaim := { program := "ytpkgkabcikmopaa", sum := "5a22010272c431b409161dfd2ed117143c5426f44a9660fe0852b405ef49015e", func := "chamberlain/chamberlainlaw04.CodecEncodes", spec := "codecEncodes", unfollowed := true, recurses := true, loops := true, plainKeys := false, apart := false }
def CodecEncodesSaid : Prop := codecEncodesRow.holds Try.pinned (OpenSpec.ofChange codecEncodesSpec)

/-- ITS FALSE NEIGHBOUR: 'it returns false'. Refute it at one input. -/
def codecEncodesWrong : ChangeSpec := { name := "codecEncodes", fn := fun _ => fun
  | [d] => { results := [.lit (.bool false)], args := [d] }
  | _ => none }
def CodecEncodesWrongFalsely : Prop := codecEncodesRow.holds Try.pinned (OpenSpec.ofChange codecEncodesWrong)

/-- 'chamberlainlaw04.CodecDecodes': WHATEVER THE INPUT: true; the input reads as it did. -/
def codecDecodesSpec : ChangeSpec := { name := "codecDecodes", fn := fun _ => fun
  | [d1, d2, d3, d4] => { results := [.lit (.bool true)], args := [d1, d2, d3, d4] }
  | _ => none }
def codecDecodesRow : OpenClaim := { program := "ytpkgkabcikmopaa", sum := "5a22010272c431b409161dfd2ed117143c5426f44a9660fe0852b405ef49015e", func := "chamberlain/chamberlainlaw04.CodecDecodes", spec := "codecDecodes", unfollowed := true, recurses := true, loops := true, plainKeys := false, apart := false }
def CodecDecodesSaid : Prop := codecDecodesRow.holds Try.pinned (OpenSpec.ofChange codecDecodesSpec)

/-- ITS FALSE NEIGHBOUR: 'it returns false'. Refute it at one input. -/
def codecDecodesWrong : ChangeSpec := { name := "codecDecodes", fn := fun _ => fun
  | [d1, d2, d3, d4] => { results := [.lit (.bool false)], args := [d1, d2, d3, d4] }
  | _ => none }
def CodecDecodesWrongFalsely : Prop := codecDecodesRow.holds Try.pinned (OpenSpec.ofChange codecDecodesWrong)

/-- 'chamberlainlaw04.CodecBack': WHATEVER THE INPUT: true; the input reads as it did. -/
def codecBackSpec : ChangeSpec := { name := "codecBack", fn := fun _ => fun
  | [d1, d2] => { results := [.lit (.bool true)], args := [d1, d2] }
  | _ => none }
def codecBackRow : OpenClaim := { program := "ytpkgkabcikmopaa", sum := "5a22010272c431b409161dfd2ed117143c5426f44a9660fe0852b405ef49015e", func := "chamberlain/chamberlainlaw04.CodecBack", spec := "codecBack", unfollowed := true, recurses := true, loops := true, plainKeys := false, apart := false }
def CodecBackSaid : Prop := codecBackRow.holds Try.pinned (OpenSpec.ofChange codecBackSpec)

/-- ITS FALSE NEIGHBOUR: 'it returns false'. Refute it at one input. -/
def codecBackWrong : ChangeSpec := { name := "codecBack", fn := fun _ => fun
  | [d1, d2] => { results := [.lit (.bool false)], args := [d1, d2] }
  | _ => none }
def CodecBackWrongFalsely : Prop := codecBackRow.holds Try.pinned (OpenSpec.ofChange codecBackWrong)

/-- 'chamberlainlaw04.CodecLong': WHATEVER THE INPUT: true; the input reads as it did. -/
def codecLongSpec : ChangeSpec := { name := "codecLong", fn := fun _ => fun
  | [d] => { results := [.lit (.bool true)], args := [d] }
  | _ => none }
def codecLongRow : OpenClaim := { program := "ytpkgkabcikmopaa", sum := "5a22010272c431b409161dfd2ed117143c5426f44a9660fe0852b405ef49015e", func := "chamberlain/chamberlainlaw04.CodecLong", spec := "codecLong", unfollowed := true, recurses := true, plainKeys := false, apart := false }
def CodecLongSaid : Prop := codecLongRow.holds Try.pinned (OpenSpec.ofChange codecLongSpec)

/-- ITS FALSE NEIGHBOUR: 'it returns false'. Refute it at one input. -/
def codecLongWrong : ChangeSpec := { name := "codecLong", fn := fun _ => fun
  | [d] => { results := [.lit (.bool false)], args := [d] }
  | _ => none }
def CodecLongWrongFalsely : Prop := codecLongRow.holds Try.pinned (OpenSpec.ofChange codecLongWrong)

/-- 'chamberlainlaw04.CodecKinds': WHATEVER THE INPUT: true; the input reads as it did. -/
def codecKindsSpec : ChangeSpec := { name := "codecKinds", fn := fun _ => fun
  | [d1, d2, d3] => { results := [.lit (.bool true)], args := [d1, d2, d3] }
  | _ => none }
def codecKindsRow : OpenClaim := { program := "ytpkgkabcikmopaa", sum := "5a22010272c431b409161dfd2ed117143c5426f44a9660fe0852b405ef49015e", func := "chamberlain/chamberlainlaw04.CodecKinds", spec := "codecKinds", unfollowed := true, recurses := true, plainKeys := false, apart := false }
def CodecKindsSaid : Prop := codecKindsRow.holds Try.pinned (OpenSpec.ofChange codecKindsSpec)

/-- ITS FALSE NEIGHBOUR: 'it returns false'. Refute it at one input. -/
def codecKindsWrong : ChangeSpec := { name := "codecKinds", fn := fun _ => fun
  | [d1, d2, d3] => { results := [.lit (.bool false)], args := [d1, d2, d3] }
  | _ => none }
def CodecKindsWrongFalsely : Prop := codecKindsRow.holds Try.pinned (OpenSpec.ofChange codecKindsWrong)

/-- 'chamberlainlaw05.EntityChains': WHATEVER THE INPUT: true; the input reads as it did. -/
def entityChainsSpec : ChangeSpec := { name := "entityChains", fn := fun _ => fun
  | [d1, d2, d3, d4] => { results := [.lit (.bool true)], args := [d1, d2, d3, d4] }
  | _ => none }
def entityChainsRow : OpenClaim := { program := "ytpkgkabcikmopaa", sum := "5a22010272c431b409161dfd2ed117143c5426f44a9660fe0852b405ef49015e", func := "chamberlain/chamberlainlaw05.EntityChains", spec := "entityChains", unfollowed := true, recurses := true, plainKeys := false, apart := false }
def EntityChainsSaid : Prop := entityChainsRow.holds Try.pinned (OpenSpec.ofChange entityChainsSpec)

/-- ITS FALSE NEIGHBOUR: 'it returns false'. Refute it at one input. -/
def entityChainsWrong : ChangeSpec := { name := "entityChains", fn := fun _ => fun
  | [d1, d2, d3, d4] => { results := [.lit (.bool false)], args := [d1, d2, d3, d4] }
  | _ => none }
def EntityChainsWrongFalsely : Prop := entityChainsRow.holds Try.pinned (OpenSpec.ofChange entityChainsWrong)

/- THE SECOND FORM. 'bulk': how many values and letters a reading holds, each counted each time it is reached (what is shared counts as often as it is met; a slice's spare places count too). A statement '..UptoSaid' is the law's where the arguments, and the package variables that the reading takes, are together of bulk at most 1048576: NARROWER than '..Said'. Prove '..Said' where nothing that the law and all that it calls make is longer than what came in: it says more and counts as full. Else prove '..UptoSaid'. A law counts once. -/
mutual
def uptoBulk {H : Type} : DataW H → Nat
  | .lit (.string bytes) => bytes.length + 1
  | .lit _ => 1
  | .nil => 1
  | .ptr d => uptoBulk d + 1
  | .slice elems spare => uptoBulkAll elems + uptoBulkAll spare + 1
  | .agg parts => uptoBulkAll parts + 1
  | .iface _ d => uptoBulk d + 1
  | .map entries => uptoBulkEntries entries + 1
  | .held _ => 1
def uptoBulkAll {H : Type} : List (DataW H) → Nat
  | [] => 0
  | d :: r => uptoBulk d + uptoBulkAll r
def uptoBulkEntries {H : Type} : List (Lit × DataW H) → Nat
  | [] => 0
  | x :: r => uptoBulkEntry x + uptoBulkEntries r
def uptoBulkEntry {H : Type} : Lit × DataW H → Nat
  | (.string bytes, d) => bytes.length + uptoBulk d + 1
  | (_, d) => uptoBulk d + 1
 end
def uptoSmall : (H : Type) → List (DataW H) → Bool := fun _ ds => decide (uptoBulkAll ds ≤ 1048576)
def OpenSpec.upto (s : _root_.Go.ChangeSpec) : _root_.Go.OpenSpec := { _root_.Go.OpenSpec.ofChange s with cond := some uptoSmall }

/-- 'chamberlainlaw03.ValueCanons', WHERE WHAT IT READS IS OF BULK AT MOST 1048576: true; the input reads as it did. -/
def valueCanonsUptoRow : OpenClaim := { program := "ytpkgkabcikmopaa", sum := "5a22010272c431b409161dfd2ed117143c5426f44a9660fe0852b405ef49015e", func := "chamberlain/chamberlainlaw03.ValueCanons", spec := "valueCanons", unfollowed := true, recurses := true, loops := true, plainKeys := false, apart := false, narrowed := true }
def ValueCanonsUptoSaid : Prop := valueCanonsUptoRow.holds Try.pinned (OpenSpec.upto valueCanonsSpec)

/-- 'chamberlainlaw03.ValueFinds', WHERE WHAT IT READS IS OF BULK AT MOST 1048576: true; the input reads as it did. -/
def valueFindsUptoRow : OpenClaim := { program := "ytpkgkabcikmopaa", sum := "5a22010272c431b409161dfd2ed117143c5426f44a9660fe0852b405ef49015e", func := "chamberlain/chamberlainlaw03.ValueFinds", spec := "valueFinds", unfollowed := true, recurses := true, loops := true, plainKeys := false, apart := false, narrowed := true }
def ValueFindsUptoSaid : Prop := valueFindsUptoRow.holds Try.pinned (OpenSpec.upto valueFindsSpec)

/-- 'chamberlainlaw03.ValueLaws', WHERE WHAT IT READS IS OF BULK AT MOST 1048576: true; the input reads as it did. -/
def valueLawsUptoRow : OpenClaim := { program := "ytpkgkabcikmopaa", sum := "5a22010272c431b409161dfd2ed117143c5426f44a9660fe0852b405ef49015e", func := "chamberlain/chamberlainlaw03.ValueLaws", spec := "valueLaws", unfollowed := true, recurses := true, loops := true, plainKeys := false, apart := false, narrowed := true }
def ValueLawsUptoSaid : Prop := valueLawsUptoRow.holds Try.pinned (OpenSpec.upto valueLawsSpec)

/-- 'chamberlainlaw03.ValueUnions', WHERE WHAT IT READS IS OF BULK AT MOST 1048576: true; the input reads as it did. -/
def valueUnionsUptoRow : OpenClaim := { program := "ytpkgkabcikmopaa", sum := "5a22010272c431b409161dfd2ed117143c5426f44a9660fe0852b405ef49015e", func := "chamberlain/chamberlainlaw03.ValueUnions", spec := "valueUnions", unfollowed := true, recurses := true, loops := true, plainKeys := false, apart := false, narrowed := true }
def ValueUnionsUptoSaid : Prop := valueUnionsUptoRow.holds Try.pinned (OpenSpec.upto valueUnionsSpec)

/-- 'chamberlainlaw03.ValueNested', WHERE WHAT IT READS IS OF BULK AT MOST 1048576: true; the input reads as it did. -/
def valueNestedUptoRow : OpenClaim := { program := "ytpkgkabcikmopaa", sum := "5a22010272c431b409161dfd2ed117143c5426f44a9660fe0852b405ef49015e", func := "chamberlain/chamberlainlaw03.ValueNested", spec := "valueNested", unfollowed := true, recurses := true, loops := true, plainKeys := false, apart := false, narrowed := true }
def ValueNestedUptoSaid : Prop := valueNestedUptoRow.holds Try.pinned (OpenSpec.upto valueNestedSpec)

/-- 'chamberlainlaw03.ValueRecords', WHERE WHAT IT READS IS OF BULK AT MOST 1048576: true; the input reads as it did. -/
def valueRecordsUptoRow : OpenClaim := { program := "ytpkgkabcikmopaa", sum := "5a22010272c431b409161dfd2ed117143c5426f44a9660fe0852b405ef49015e", func := "chamberlain/chamberlainlaw03.ValueRecords", spec := "valueRecords", unfollowed := true, recurses := true, plainKeys := false, apart := false, narrowed := true }
def ValueRecordsUptoSaid : Prop := valueRecordsUptoRow.holds Try.pinned (OpenSpec.upto valueRecordsSpec)

/-- 'chamberlainlaw04.CodecEncodes', WHERE WHAT IT READS IS OF BULK AT MOST 1048576: true; the input reads as it did. -/
def codecEncodesUptoRow : OpenClaim := { program := "ytpkgkabcikmopaa", sum := "5a22010272c431b409161dfd2ed117143c5426f44a9660fe0852b405ef49015e", func := "chamberlain/chamberlainlaw04.CodecEncodes", spec := "codecEncodes", unfollowed := true, recurses := true, loops := true, plainKeys := false, apart := false, narrowed := true }
def CodecEncodesUptoSaid : Prop := codecEncodesUptoRow.holds Try.pinned (OpenSpec.upto codecEncodesSpec)

/-- 'chamberlainlaw04.CodecDecodes', WHERE WHAT IT READS IS OF BULK AT MOST 1048576: true; the input reads as it did. -/
def codecDecodesUptoRow : OpenClaim := { program := "ytpkgkabcikmopaa", sum := "5a22010272c431b409161dfd2ed117143c5426f44a9660fe0852b405ef49015e", func := "chamberlain/chamberlainlaw04.CodecDecodes", spec := "codecDecodes", unfollowed := true, recurses := true, loops := true, plainKeys := false, apart := false, narrowed := true }
def CodecDecodesUptoSaid : Prop := codecDecodesUptoRow.holds Try.pinned (OpenSpec.upto codecDecodesSpec)

/-- 'chamberlainlaw04.CodecBack', WHERE WHAT IT READS IS OF BULK AT MOST 1048576: true; the input reads as it did. -/
def codecBackUptoRow : OpenClaim := { program := "ytpkgkabcikmopaa", sum := "5a22010272c431b409161dfd2ed117143c5426f44a9660fe0852b405ef49015e", func := "chamberlain/chamberlainlaw04.CodecBack", spec := "codecBack", unfollowed := true, recurses := true, loops := true, plainKeys := false, apart := false, narrowed := true }
def CodecBackUptoSaid : Prop := codecBackUptoRow.holds Try.pinned (OpenSpec.upto codecBackSpec)

/-- 'chamberlainlaw04.CodecLong', WHERE WHAT IT READS IS OF BULK AT MOST 1048576: true; the input reads as it did. -/
def codecLongUptoRow : OpenClaim := { program := "ytpkgkabcikmopaa", sum := "5a22010272c431b409161dfd2ed117143c5426f44a9660fe0852b405ef49015e", func := "chamberlain/chamberlainlaw04.CodecLong", spec := "codecLong", unfollowed := true, recurses := true, plainKeys := false, apart := false, narrowed := true }
def CodecLongUptoSaid : Prop := codecLongUptoRow.holds Try.pinned (OpenSpec.upto codecLongSpec)

/-- 'chamberlainlaw04.CodecKinds', WHERE WHAT IT READS IS OF BULK AT MOST 1048576: true; the input reads as it did. -/
def codecKindsUptoRow : OpenClaim := { program := "ytpkgkabcikmopaa", sum := "5a22010272c431b409161dfd2ed117143c5426f44a9660fe0852b405ef49015e", func := "chamberlain/chamberlainlaw04.CodecKinds", spec := "codecKinds", unfollowed := true, recurses := true, plainKeys := false, apart := false, narrowed := true }
def CodecKindsUptoSaid : Prop := codecKindsUptoRow.holds Try.pinned (OpenSpec.upto codecKindsSpec)

/-- 'chamberlainlaw05.EntityChains', WHERE WHAT IT READS IS OF BULK AT MOST 1048576: true; the input reads as it did. -/
def entityChainsUptoRow : OpenClaim := { program := "ytpkgkabcikmopaa", sum := "5a22010272c431b409161dfd2ed117143c5426f44a9660fe0852b405ef49015e", func := "chamberlain/chamberlainlaw05.EntityChains", spec := "entityChains", unfollowed := true, recurses := true, plainKeys := false, apart := false, narrowed := true }
def EntityChainsUptoSaid : Prop := entityChainsUptoRow.holds Try.pinned (OpenSpec.upto entityChainsSpec)

end Rows
end Go.Proofs.Ytpkgkabcikmopaa
