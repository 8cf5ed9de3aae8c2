/-
  No cell of these rows narrows 'for every input' (looked for: loops, veiled, ifaces, maps, wideKeys, modest, calm, conditions, laid).
  DERIVED. THE GIVEN ROWS OF THIS SEAT. 12 by the template 'for every input the law returns true; each argument reads behind the call as it read before'; 0 by the template 'total and deterministic' (their statements: YtijlhblleiaomaaGreatTotals.lean).
  GIVEN WITH THE SEED: the statements are not yours to turn. If you find one false, say at which input.
  Laid BY PROGRAM, IN A SANDBOX (cutbox-rows.mjs): the forced cells as the released guide's own fill.sh prints them over the translation 8629fd2c10bf46d7… (all of the seat's roots in one cut). By AI agents, Wed Nov 11 2026. No macro, syntax, notation, axiom, sorry.
-/
import Derived.Test.YtijlhblleiaomaaGreatChecked
import GoSem.Claim
import GoSem.ClaimJoined
import GoSem.ClaimMapViews
import Derived.JoinedTies
import Derived.KernelRfl
namespace Go.Proofs.YtijlhblleiaomaaGreat
/- THE CELL 'sum', in the pinned program and in every row, IS THE sha256 OF THE DUMP (.gsa) THAT YtijlhblleiaomaaGreatProg.lean LOADS. Nothing in Lean hashes anything: it is a label: what it is worth is what the hold of that sum in a sandbox is worth. -/
noncomputable def Tryz.pinned : Pinned := { name := "ytijlhblleiaomaagreat", sum := "8629fd2c10bf46d70a08b698bc5740bf890ae36c7ea2ee2179649a33d929de7c", checked := Tryz.checked }
namespace Rows
def none {H : Type} : Left H := { results := [], args := [] }

/-- 'leadtraillaw17.WalkEvents': WHATEVER THE INPUT: true; the input reads as it did. -/
def walkEventsSpec : ChangeSpec := { name := "walkEvents", fn := fun _ => fun
  | [d1, d2, d3] => { results := [.lit (.bool true)], args := [d1, d2, d3] }
  | _ => none }
def walkEventsRow : OpenClaim := { program := "ytijlhblleiaomaagreat", sum := "8629fd2c10bf46d70a08b698bc5740bf890ae36c7ea2ee2179649a33d929de7c", func := "leadtrail/leadtraillaw17.WalkEvents", spec := "walkEvents", unfollowed := true, recurses := true, plainKeys := false, apart := false }
def WalkEventsSaid : Prop := walkEventsRow.holds Tryz.pinned (OpenSpec.ofChange walkEventsSpec)

/-- ITS FALSE NEIGHBOUR: 'it returns false'. Refute it at one input. -/
def walkEventsWrong : ChangeSpec := { name := "walkEvents", fn := fun _ => fun
  | [d1, d2, d3] => { results := [.lit (.bool false)], args := [d1, d2, d3] }
  | _ => none }
def WalkEventsWrongFalsely : Prop := walkEventsRow.holds Tryz.pinned (OpenSpec.ofChange walkEventsWrong)

/-- 'leadtraillaw17.WalkOn': WHATEVER THE INPUT: true; the input reads as it did. -/
def walkOnSpec : ChangeSpec := { name := "walkOn", fn := fun _ => fun
  | [d1, d2, d3] => { results := [.lit (.bool true)], args := [d1, d2, d3] }
  | _ => none }
def walkOnRow : OpenClaim := { program := "ytijlhblleiaomaagreat", sum := "8629fd2c10bf46d70a08b698bc5740bf890ae36c7ea2ee2179649a33d929de7c", func := "leadtrail/leadtraillaw17.WalkOn", spec := "walkOn", unfollowed := true, recurses := true, plainKeys := false, apart := false }
def WalkOnSaid : Prop := walkOnRow.holds Tryz.pinned (OpenSpec.ofChange walkOnSpec)

/-- ITS FALSE NEIGHBOUR: 'it returns false'. Refute it at one input. -/
def walkOnWrong : ChangeSpec := { name := "walkOn", fn := fun _ => fun
  | [d1, d2, d3] => { results := [.lit (.bool false)], args := [d1, d2, d3] }
  | _ => none }
def WalkOnWrongFalsely : Prop := walkOnRow.holds Tryz.pinned (OpenSpec.ofChange walkOnWrong)

/-- 'leadtraillaw17.WalkBorders': WHATEVER THE INPUT: true; the input reads as it did. -/
def walkBordersSpec : ChangeSpec := { name := "walkBorders", fn := fun _ => fun
  | [d1, d2, d3] => { results := [.lit (.bool true)], args := [d1, d2, d3] }
  | _ => none }
def walkBordersRow : OpenClaim := { program := "ytijlhblleiaomaagreat", sum := "8629fd2c10bf46d70a08b698bc5740bf890ae36c7ea2ee2179649a33d929de7c", func := "leadtrail/leadtraillaw17.WalkBorders", spec := "walkBorders", unfollowed := true, recurses := true, plainKeys := false, apart := false }
def WalkBordersSaid : Prop := walkBordersRow.holds Tryz.pinned (OpenSpec.ofChange walkBordersSpec)

/-- ITS FALSE NEIGHBOUR: 'it returns false'. Refute it at one input. -/
def walkBordersWrong : ChangeSpec := { name := "walkBorders", fn := fun _ => fun
  | [d1, d2, d3] => { results := [.lit (.bool false)], args := [d1, d2, d3] }
  | _ => none }
def WalkBordersWrongFalsely : Prop := walkBordersRow.holds Tryz.pinned (OpenSpec.ofChange walkBordersWrong)

/-- 'leadtraillaw17.WalkText': WHATEVER THE INPUT: true; the input reads as it did. -/
def walkTextSpec : ChangeSpec := { name := "walkText", fn := fun _ => fun
  | [d1, d2] => { results := [.lit (.bool true)], args := [d1, d2] }
  | _ => none }
def walkTextRow : OpenClaim := { program := "ytijlhblleiaomaagreat", sum := "8629fd2c10bf46d70a08b698bc5740bf890ae36c7ea2ee2179649a33d929de7c", func := "leadtrail/leadtraillaw17.WalkText", spec := "walkText", unfollowed := true, recurses := true, plainKeys := false, apart := false }
def WalkTextSaid : Prop := walkTextRow.holds Tryz.pinned (OpenSpec.ofChange walkTextSpec)

/-- ITS FALSE NEIGHBOUR: 'it returns false'. Refute it at one input. -/
def walkTextWrong : ChangeSpec := { name := "walkText", fn := fun _ => fun
  | [d1, d2] => { results := [.lit (.bool false)], args := [d1, d2] }
  | _ => none }
def WalkTextWrongFalsely : Prop := walkTextRow.holds Tryz.pinned (OpenSpec.ofChange walkTextWrong)

/-- 'leadtraillaw17.WalkTiles': WHATEVER THE INPUT: true; the input reads as it did. -/
def walkTilesSpec : ChangeSpec := { name := "walkTiles", fn := fun _ => fun
  | [d1, d2, d3] => { results := [.lit (.bool true)], args := [d1, d2, d3] }
  | _ => none }
def walkTilesRow : OpenClaim := { program := "ytijlhblleiaomaagreat", sum := "8629fd2c10bf46d70a08b698bc5740bf890ae36c7ea2ee2179649a33d929de7c", func := "leadtrail/leadtraillaw17.WalkTiles", spec := "walkTiles", unfollowed := true, recurses := true, plainKeys := false, apart := false }
def WalkTilesSaid : Prop := walkTilesRow.holds Tryz.pinned (OpenSpec.ofChange walkTilesSpec)

/-- ITS FALSE NEIGHBOUR: 'it returns false'. Refute it at one input. -/
def walkTilesWrong : ChangeSpec := { name := "walkTiles", fn := fun _ => fun
  | [d1, d2, d3] => { results := [.lit (.bool false)], args := [d1, d2, d3] }
  | _ => none }
def WalkTilesWrongFalsely : Prop := walkTilesRow.holds Tryz.pinned (OpenSpec.ofChange walkTilesWrong)

/-- 'leadtraillaw18.DecodeNames': WHATEVER THE INPUT: true; the input reads as it did. -/
def decodeNamesSpec : ChangeSpec := { name := "decodeNames", fn := fun _ => fun
  | [] => { results := [.lit (.bool true)], args := [] }
  | _ => none }
def decodeNamesRow : OpenClaim := { program := "ytijlhblleiaomaagreat", sum := "8629fd2c10bf46d70a08b698bc5740bf890ae36c7ea2ee2179649a33d929de7c", func := "leadtrail/leadtraillaw18.DecodeNames", spec := "decodeNames", unfollowed := true, recurses := true, plainKeys := false, apart := false }
def DecodeNamesSaid : Prop := decodeNamesRow.holds Tryz.pinned (OpenSpec.ofChange decodeNamesSpec)

/-- ITS FALSE NEIGHBOUR: 'it returns false'. Refute it at one input. -/
def decodeNamesWrong : ChangeSpec := { name := "decodeNames", fn := fun _ => fun
  | [] => { results := [.lit (.bool false)], args := [] }
  | _ => none }
def DecodeNamesWrongFalsely : Prop := decodeNamesRow.holds Tryz.pinned (OpenSpec.ofChange decodeNamesWrong)

/-- 'leadtraillaw18.DecodeFull': WHATEVER THE INPUT: true; the input reads as it did. -/
def decodeFullSpec : ChangeSpec := { name := "decodeFull", fn := fun _ => fun
  | [d1, d2, d3] => { results := [.lit (.bool true)], args := [d1, d2, d3] }
  | _ => none }
def decodeFullRow : OpenClaim := { program := "ytijlhblleiaomaagreat", sum := "8629fd2c10bf46d70a08b698bc5740bf890ae36c7ea2ee2179649a33d929de7c", func := "leadtrail/leadtraillaw18.DecodeFull", spec := "decodeFull", unfollowed := true, recurses := true, plainKeys := false, apart := false }
def DecodeFullSaid : Prop := decodeFullRow.holds Tryz.pinned (OpenSpec.ofChange decodeFullSpec)

/-- ITS FALSE NEIGHBOUR: 'it returns false'. Refute it at one input. -/
def decodeFullWrong : ChangeSpec := { name := "decodeFull", fn := fun _ => fun
  | [d1, d2, d3] => { results := [.lit (.bool false)], args := [d1, d2, d3] }
  | _ => none }
def DecodeFullWrongFalsely : Prop := decodeFullRow.holds Tryz.pinned (OpenSpec.ofChange decodeFullWrong)

/-- 'leadtraillaw18.DecodeCuts': WHATEVER THE INPUT: true; the input reads as it did. -/
def decodeCutsSpec : ChangeSpec := { name := "decodeCuts", fn := fun _ => fun
  | [d1, d2, d3] => { results := [.lit (.bool true)], args := [d1, d2, d3] }
  | _ => none }
def decodeCutsRow : OpenClaim := { program := "ytijlhblleiaomaagreat", sum := "8629fd2c10bf46d70a08b698bc5740bf890ae36c7ea2ee2179649a33d929de7c", func := "leadtrail/leadtraillaw18.DecodeCuts", spec := "decodeCuts", unfollowed := true, recurses := true, plainKeys := false, apart := false }
def DecodeCutsSaid : Prop := decodeCutsRow.holds Tryz.pinned (OpenSpec.ofChange decodeCutsSpec)

/-- ITS FALSE NEIGHBOUR: 'it returns false'. Refute it at one input. -/
def decodeCutsWrong : ChangeSpec := { name := "decodeCuts", fn := fun _ => fun
  | [d1, d2, d3] => { results := [.lit (.bool false)], args := [d1, d2, d3] }
  | _ => none }
def DecodeCutsWrongFalsely : Prop := decodeCutsRow.holds Tryz.pinned (OpenSpec.ofChange decodeCutsWrong)

/-- 'leadtraillaw18.DecodeStops': WHATEVER THE INPUT: true; the input reads as it did. -/
def decodeStopsSpec : ChangeSpec := { name := "decodeStops", fn := fun _ => fun
  | [d1, d2, d3] => { results := [.lit (.bool true)], args := [d1, d2, d3] }
  | _ => none }
def decodeStopsRow : OpenClaim := { program := "ytijlhblleiaomaagreat", sum := "8629fd2c10bf46d70a08b698bc5740bf890ae36c7ea2ee2179649a33d929de7c", func := "leadtrail/leadtraillaw18.DecodeStops", spec := "decodeStops", unfollowed := true, recurses := true, plainKeys := false, apart := false }
def DecodeStopsSaid : Prop := decodeStopsRow.holds Tryz.pinned (OpenSpec.ofChange decodeStopsSpec)

/-- ITS FALSE NEIGHBOUR: 'it returns false'. Refute it at one input. -/
def decodeStopsWrong : ChangeSpec := { name := "decodeStops", fn := fun _ => fun
  | [d1, d2, d3] => { results := [.lit (.bool false)], args := [d1, d2, d3] }
  | _ => none }
def DecodeStopsWrongFalsely : Prop := decodeStopsRow.holds Tryz.pinned (OpenSpec.ofChange decodeStopsWrong)

/-- 'leadtraillaw18.DecodePlays': WHATEVER THE INPUT: true; the input reads as it did. -/
def decodePlaysSpec : ChangeSpec := { name := "decodePlays", fn := fun _ => fun
  | [d1, d2, d3] => { results := [.lit (.bool true)], args := [d1, d2, d3] }
  | _ => none }
def decodePlaysRow : OpenClaim := { program := "ytijlhblleiaomaagreat", sum := "8629fd2c10bf46d70a08b698bc5740bf890ae36c7ea2ee2179649a33d929de7c", func := "leadtrail/leadtraillaw18.DecodePlays", spec := "decodePlays", unfollowed := true, recurses := true, plainKeys := false, apart := false }
def DecodePlaysSaid : Prop := decodePlaysRow.holds Tryz.pinned (OpenSpec.ofChange decodePlaysSpec)

/-- ITS FALSE NEIGHBOUR: 'it returns false'. Refute it at one input. -/
def decodePlaysWrong : ChangeSpec := { name := "decodePlays", fn := fun _ => fun
  | [d1, d2, d3] => { results := [.lit (.bool false)], args := [d1, d2, d3] }
  | _ => none }
def DecodePlaysWrongFalsely : Prop := decodePlaysRow.holds Tryz.pinned (OpenSpec.ofChange decodePlaysWrong)

/-- 'leadtraillaw18.DecodeNil': WHATEVER THE INPUT: true; the input reads as it did. -/
def decodeNilSpec : ChangeSpec := { name := "decodeNil", fn := fun _ => fun
  | [d] => { results := [.lit (.bool true)], args := [d] }
  | _ => none }
def decodeNilRow : OpenClaim := { program := "ytijlhblleiaomaagreat", sum := "8629fd2c10bf46d70a08b698bc5740bf890ae36c7ea2ee2179649a33d929de7c", func := "leadtrail/leadtraillaw18.DecodeNil", spec := "decodeNil", unfollowed := true, recurses := true, plainKeys := false, apart := false }
def DecodeNilSaid : Prop := decodeNilRow.holds Tryz.pinned (OpenSpec.ofChange decodeNilSpec)

/-- ITS FALSE NEIGHBOUR: 'it returns false'. Refute it at one input. -/
def decodeNilWrong : ChangeSpec := { name := "decodeNil", fn := fun _ => fun
  | [d] => { results := [.lit (.bool false)], args := [d] }
  | _ => none }
def DecodeNilWrongFalsely : Prop := decodeNilRow.holds Tryz.pinned (OpenSpec.ofChange decodeNilWrong)

/-- 'leadtraillaw18.DecodeRound': WHATEVER THE INPUT: true; the input reads as it did. -/
def decodeRoundSpec : ChangeSpec := { name := "decodeRound", fn := fun _ => fun
  | [d1, d2, d3] => { results := [.lit (.bool true)], args := [d1, d2, d3] }
  | _ => none }
def decodeRoundRow : OpenClaim := { program := "ytijlhblleiaomaagreat", sum := "8629fd2c10bf46d70a08b698bc5740bf890ae36c7ea2ee2179649a33d929de7c", func := "leadtrail/leadtraillaw18.DecodeRound", spec := "decodeRound", unfollowed := true, recurses := true, plainKeys := false, apart := false }
def DecodeRoundSaid : Prop := decodeRoundRow.holds Tryz.pinned (OpenSpec.ofChange decodeRoundSpec)

/-- ITS FALSE NEIGHBOUR: 'it returns false'. Refute it at one input. -/
def decodeRoundWrong : ChangeSpec := { name := "decodeRound", fn := fun _ => fun
  | [d1, d2, d3] => { results := [.lit (.bool false)], args := [d1, d2, d3] }
  | _ => none }
def DecodeRoundWrongFalsely : Prop := decodeRoundRow.holds Tryz.pinned (OpenSpec.ofChange decodeRoundWrong)

/- THE SECOND FORM. 'bulk': how many values and letters a reading holds, each counted each time it is reached (what is shared counts as often as it is met; a slice's spare places count too). A statement '..UptoSaid' is the law's where the arguments, and the package variables that the reading takes, are together of bulk at most 1048576: NARROWER than '..Said'. Prove '..Said' where nothing that the law and all that it calls make is longer than what came in: it says more and counts as full. Else prove '..UptoSaid'. A law counts once. -/
mutual
def uptoBulk {H : Type} : DataW H → Nat
  | .lit (.string bytes) => bytes.length + 1
  | .lit _ => 1
  | .nil => 1
  | .ptr d => uptoBulk d + 1
  | .slice elems spare => uptoBulkAll elems + uptoBulkAll spare + 1
  | .agg parts => uptoBulkAll parts + 1
  | .iface _ d => uptoBulk d + 1
  | .map entries => uptoBulkEntries entries + 1
  | .held _ => 1
def uptoBulkAll {H : Type} : List (DataW H) → Nat
  | [] => 0
  | d :: r => uptoBulk d + uptoBulkAll r
def uptoBulkEntries {H : Type} : List (Lit × DataW H) → Nat
  | [] => 0
  | x :: r => uptoBulkEntry x + uptoBulkEntries r
def uptoBulkEntry {H : Type} : Lit × DataW H → Nat
  | (.string bytes, d) => bytes.length + uptoBulk d + 1
  | (_, d) => uptoBulk d + 1
 end
def uptoSmall : (H : Type) → List (DataW H) → Bool := fun _ ds => decide (uptoBulkAll ds ≤ 1048576)
def OpenSpec.upto (s : _root_.Go.ChangeSpec) : _root_.Go.OpenSpec := { _root_.Go.OpenSpec.ofChange s with cond := some uptoSmall }

/-- 'leadtraillaw17.WalkEvents', WHERE WHAT IT READS IS OF BULK AT MOST 1048576: true; the input reads as it did. -/
def walkEventsUptoRow : OpenClaim := { program := "ytijlhblleiaomaagreat", sum := "8629fd2c10bf46d70a08b698bc5740bf890ae36c7ea2ee2179649a33d929de7c", func := "leadtrail/leadtraillaw17.WalkEvents", spec := "walkEvents", unfollowed := true, recurses := true, plainKeys := false, apart := false, narrowed := true }
def WalkEventsUptoSaid : Prop := walkEventsUptoRow.holds Tryz.pinned (OpenSpec.upto walkEventsSpec)

/-- 'leadtraillaw17.WalkOn', WHERE WHAT IT READS IS OF BULK AT MOST 1048576: true; the input reads as it did. -/
def walkOnUptoRow : OpenClaim := { program := "ytijlhblleiaomaagreat", sum := "8629fd2c10bf46d70a08b698bc5740bf890ae36c7ea2ee2179649a33d929de7c", func := "leadtrail/leadtraillaw17.WalkOn", spec := "walkOn", unfollowed := true, recurses := true, plainKeys := false, apart := false, narrowed := true }
def WalkOnUptoSaid : Prop := walkOnUptoRow.holds Tryz.pinned (OpenSpec.upto walkOnSpec)

/-- 'leadtraillaw17.WalkBorders', WHERE WHAT IT READS IS OF BULK AT MOST 1048576: true; the input reads as it did. -/
def walkBordersUptoRow : OpenClaim := { program := "ytijlhblleiaomaagreat", sum := "8629fd2c10bf46d70a08b698bc5740bf890ae36c7ea2ee2179649a33d929de7c", func := "leadtrail/leadtraillaw17.WalkBorders", spec := "walkBorders", unfollowed := true, recurses := true, plainKeys := false, apart := false, narrowed := true }
def WalkBordersUptoSaid : Prop := walkBordersUptoRow.holds Tryz.pinned (OpenSpec.upto walkBordersSpec)

/-- 'leadtraillaw17.WalkText', WHERE WHAT IT READS IS OF BULK AT MOST 1048576: true; the input reads as it did. -/
def walkTextUptoRow : OpenClaim := { program := "ytijlhblleiaomaagreat", sum := "8629fd2c10bf46d70a08b698bc5740bf890ae36c7ea2ee2179649a33d929de7c", func := "leadtrail/leadtraillaw17.WalkText", spec := "walkText", unfollowed := true, recurses := true, plainKeys := false, apart := false, narrowed := true }
def WalkTextUptoSaid : Prop := walkTextUptoRow.holds Tryz.pinned (OpenSpec.upto walkTextSpec)

/-- 'leadtraillaw17.WalkTiles', WHERE WHAT IT READS IS OF BULK AT MOST 1048576: true; the input reads as it did. -/
def walkTilesUptoRow : OpenClaim := { program := "ytijlhblleiaomaagreat", sum := "8629fd2c10bf46d70a08b698bc5740bf890ae36c7ea2ee2179649a33d929de7c", func := "leadtrail/leadtraillaw17.WalkTiles", spec := "walkTiles", unfollowed := true, recurses := true, plainKeys := false, apart := false, narrowed := true }
def WalkTilesUptoSaid : Prop := walkTilesUptoRow.holds Tryz.pinned (OpenSpec.upto walkTilesSpec)

/-- 'leadtraillaw18.DecodeNames', WHERE WHAT IT READS IS OF BULK AT MOST 1048576: true; the input reads as it did. -/
def decodeNamesUptoRow : OpenClaim := { program := "ytijlhblleiaomaagreat", sum := "8629fd2c10bf46d70a08b698bc5740bf890ae36c7ea2ee2179649a33d929de7c", func := "leadtrail/leadtraillaw18.DecodeNames", spec := "decodeNames", unfollowed := true, recurses := true, plainKeys := false, apart := false, narrowed := true }
def DecodeNamesUptoSaid : Prop := decodeNamesUptoRow.holds Tryz.pinned (OpenSpec.upto decodeNamesSpec)

/-- 'leadtraillaw18.DecodeFull', WHERE WHAT IT READS IS OF BULK AT MOST 1048576: true; the input reads as it did. -/
def decodeFullUptoRow : OpenClaim := { program := "ytijlhblleiaomaagreat", sum := "8629fd2c10bf46d70a08b698bc5740bf890ae36c7ea2ee2179649a33d929de7c", func := "leadtrail/leadtraillaw18.DecodeFull", spec := "decodeFull", unfollowed := true, recurses := true, plainKeys := false, apart := false, narrowed := true }
def DecodeFullUptoSaid : Prop := decodeFullUptoRow.holds Tryz.pinned (OpenSpec.upto decodeFullSpec)

/-- 'leadtraillaw18.DecodeCuts', WHERE WHAT IT READS IS OF BULK AT MOST 1048576: true; the input reads as it did. -/
def decodeCutsUptoRow : OpenClaim := { program := "ytijlhblleiaomaagreat", sum := "8629fd2c10bf46d70a08b698bc5740bf890ae36c7ea2ee2179649a33d929de7c", func := "leadtrail/leadtraillaw18.DecodeCuts", spec := "decodeCuts", unfollowed := true, recurses := true, plainKeys := false, apart := false, narrowed := true }
def DecodeCutsUptoSaid : Prop := decodeCutsUptoRow.holds Tryz.pinned (OpenSpec.upto decodeCutsSpec)

/-- 'leadtraillaw18.DecodeStops', WHERE WHAT IT READS IS OF BULK AT MOST 1048576: true; the input reads as it did. -/
def decodeStopsUptoRow : OpenClaim := { program := "ytijlhblleiaomaagreat", sum := "8629fd2c10bf46d70a08b698bc5740bf890ae36c7ea2ee2179649a33d929de7c", func := "leadtrail/leadtraillaw18.DecodeStops", spec := "decodeStops", unfollowed := true, recurses := true, plainKeys := false, apart := false, narrowed := true }
def DecodeStopsUptoSaid : Prop := decodeStopsUptoRow.holds Tryz.pinned (OpenSpec.upto decodeStopsSpec)

/-- 'leadtraillaw18.DecodePlays', WHERE WHAT IT READS IS OF BULK AT MOST 1048576: true; the input reads as it did. -/
def decodePlaysUptoRow : OpenClaim := { program := "ytijlhblleiaomaagreat", sum := "8629fd2c10bf46d70a08b698bc5740bf890ae36c7ea2ee2179649a33d929de7c", func := "leadtrail/leadtraillaw18.DecodePlays", spec := "decodePlays", unfollowed := true, recurses := true, plainKeys := false, apart := false, narrowed := true }
def DecodePlaysUptoSaid : Prop := decodePlaysUptoRow.holds Tryz.pinned (OpenSpec.upto decodePlaysSpec)

/-- 'leadtraillaw18.DecodeNil', WHERE WHAT IT READS IS OF BULK AT MOST 1048576: true; the input reads as it did. -/
def decodeNilUptoRow : OpenClaim := { program := "ytijlhblleiaomaagreat", sum := "8629fd2c10bf46d70a08b698bc5740bf890ae36c7ea2ee2179649a33d929de7c", func := "leadtrail/leadtraillaw18.DecodeNil", spec := "decodeNil", unfollowed := true, recurses := true, plainKeys := false, apart := false, narrowed := true }
def DecodeNilUptoSaid : Prop := decodeNilUptoRow.holds Tryz.pinned (OpenSpec.upto decodeNilSpec)

/-- 'leadtraillaw18.DecodeRound', WHERE WHAT IT READS IS OF BULK AT MOST 1048576: true; the input reads as it did. -/
def decodeRoundUptoRow : OpenClaim := { program := "ytijlhblleiaomaagreat", sum := "8629fd2c10bf46d70a08b698bc5740bf890ae36c7ea2ee2179649a33d929de7c", func := "leadtrail/leadtraillaw18.DecodeRound", spec := "decodeRound", unfollowed := true, recurses := true, plainKeys := false, apart := false, narrowed := true }
def DecodeRoundUptoSaid : Prop := decodeRoundUptoRow.holds Tryz.pinned (OpenSpec.upto decodeRoundSpec)

end Rows
end Go.Proofs.YtijlhblleiaomaaGreat
