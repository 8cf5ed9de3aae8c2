/-
  No cell of these rows narrows 'for every input' (looked for: loops, veiled, ifaces, maps, wideKeys, modest, calm, conditions, laid).
  DERIVED. THE GIVEN ROWS OF THIS SEAT. 11 by the template 'for every input the law returns true; each argument reads behind the call as it read before'; 0 by the template 'total and deterministic' (their statements: YtdglpnpkgngcdaaGreatTotals.lean).
  GIVEN WITH THE SEED: the statements are not yours to turn. If you find one false, say at which input.
  Laid BY PROGRAM, IN A SANDBOX (cutbox-rows.mjs): the forced cells as the released guide's own fill.sh prints them over the translation 8d4c8d837926fdbf… (all of the seat's roots in one cut). By AI agents, Wed Nov 11 2026. No macro, syntax, notation, axiom, sorry.
-/
import Derived.Test.YtdglpnpkgngcdaaGreatChecked
import GoSem.Claim
import GoSem.ClaimJoined
import GoSem.ClaimMapViews
import Derived.JoinedTies
import Derived.KernelRfl
namespace Go.Proofs.YtdglpnpkgngcdaaGreat
/- THE CELL 'sum', in the pinned program and in every row, IS THE sha256 OF THE DUMP (.gsa) THAT YtdglpnpkgngcdaaGreatProg.lean LOADS. Nothing in Lean hashes anything: it is a label: what it is worth is what the hold of that sum in a sandbox is worth. -/
noncomputable def Tryz.pinned : Pinned := { name := "ytdglpnpkgngcdaagreat", sum := "8d4c8d837926fdbfd10ca62eacce274fefc31de8faacebd4290070a3f319ebbf", checked := Tryz.checked }
namespace Rows
def none {H : Type} : Left H := { results := [], args := [] }

/-- 'leadtraillaw15.TableCompiles': WHATEVER THE INPUT: true; the input reads as it did. -/
def tableCompilesSpec : ChangeSpec := { name := "tableCompiles", fn := fun _ => fun
  | [d] => { results := [.lit (.bool true)], args := [d] }
  | _ => none }
def tableCompilesRow : OpenClaim := { program := "ytdglpnpkgngcdaagreat", sum := "8d4c8d837926fdbfd10ca62eacce274fefc31de8faacebd4290070a3f319ebbf", func := "leadtrail/leadtraillaw15.TableCompiles", spec := "tableCompiles", unfollowed := true, recurses := true, plainKeys := false, apart := false }
def TableCompilesSaid : Prop := tableCompilesRow.holds Tryz.pinned (OpenSpec.ofChange tableCompilesSpec)

/-- ITS FALSE NEIGHBOUR: 'it returns false'. Refute it at one input. -/
def tableCompilesWrong : ChangeSpec := { name := "tableCompiles", fn := fun _ => fun
  | [d] => { results := [.lit (.bool false)], args := [d] }
  | _ => none }
def TableCompilesWrongFalsely : Prop := tableCompilesRow.holds Tryz.pinned (OpenSpec.ofChange tableCompilesWrong)

/-- 'leadtraillaw15.TableOwns': WHATEVER THE INPUT: true; the input reads as it did. -/
def tableOwnsSpec : ChangeSpec := { name := "tableOwns", fn := fun _ => fun
  | [d1, d2] => { results := [.lit (.bool true)], args := [d1, d2] }
  | _ => none }
def tableOwnsRow : OpenClaim := { program := "ytdglpnpkgngcdaagreat", sum := "8d4c8d837926fdbfd10ca62eacce274fefc31de8faacebd4290070a3f319ebbf", func := "leadtrail/leadtraillaw15.TableOwns", spec := "tableOwns", unfollowed := true, recurses := true, plainKeys := false, apart := false }
def TableOwnsSaid : Prop := tableOwnsRow.holds Tryz.pinned (OpenSpec.ofChange tableOwnsSpec)

/-- ITS FALSE NEIGHBOUR: 'it returns false'. Refute it at one input. -/
def tableOwnsWrong : ChangeSpec := { name := "tableOwns", fn := fun _ => fun
  | [d1, d2] => { results := [.lit (.bool false)], args := [d1, d2] }
  | _ => none }
def TableOwnsWrongFalsely : Prop := tableOwnsRow.holds Tryz.pinned (OpenSpec.ofChange tableOwnsWrong)

/-- 'leadtraillaw15.TableAnswers': WHATEVER THE INPUT: true; the input reads as it did. -/
def tableAnswersSpec : ChangeSpec := { name := "tableAnswers", fn := fun _ => fun
  | [d1, d2, d3] => { results := [.lit (.bool true)], args := [d1, d2, d3] }
  | _ => none }
def tableAnswersRow : OpenClaim := { program := "ytdglpnpkgngcdaagreat", sum := "8d4c8d837926fdbfd10ca62eacce274fefc31de8faacebd4290070a3f319ebbf", func := "leadtrail/leadtraillaw15.TableAnswers", spec := "tableAnswers", unfollowed := true, recurses := true, plainKeys := false, apart := false }
def TableAnswersSaid : Prop := tableAnswersRow.holds Tryz.pinned (OpenSpec.ofChange tableAnswersSpec)

/-- ITS FALSE NEIGHBOUR: 'it returns false'. Refute it at one input. -/
def tableAnswersWrong : ChangeSpec := { name := "tableAnswers", fn := fun _ => fun
  | [d1, d2, d3] => { results := [.lit (.bool false)], args := [d1, d2, d3] }
  | _ => none }
def TableAnswersWrongFalsely : Prop := tableAnswersRow.holds Tryz.pinned (OpenSpec.ofChange tableAnswersWrong)

/-- 'leadtraillaw19.EncodeNames': WHATEVER THE INPUT: true; the input reads as it did. -/
def encodeNamesSpec : ChangeSpec := { name := "encodeNames", fn := fun _ => fun
  | [] => { results := [.lit (.bool true)], args := [] }
  | _ => none }
def encodeNamesRow : OpenClaim := { program := "ytdglpnpkgngcdaagreat", sum := "8d4c8d837926fdbfd10ca62eacce274fefc31de8faacebd4290070a3f319ebbf", func := "leadtrail/leadtraillaw19.EncodeNames", spec := "encodeNames", unfollowed := true, recurses := true, plainKeys := false, apart := false }
def EncodeNamesSaid : Prop := encodeNamesRow.holds Tryz.pinned (OpenSpec.ofChange encodeNamesSpec)

/-- ITS FALSE NEIGHBOUR: 'it returns false'. Refute it at one input. -/
def encodeNamesWrong : ChangeSpec := { name := "encodeNames", fn := fun _ => fun
  | [] => { results := [.lit (.bool false)], args := [] }
  | _ => none }
def EncodeNamesWrongFalsely : Prop := encodeNamesRow.holds Tryz.pinned (OpenSpec.ofChange encodeNamesWrong)

/-- 'leadtraillaw19.EncodeNone': WHATEVER THE INPUT: true; the input reads as it did. -/
def encodeNoneSpec : ChangeSpec := { name := "encodeNone", fn := fun _ => fun
  | [d1, d2, d3] => { results := [.lit (.bool true)], args := [d1, d2, d3] }
  | _ => none }
def encodeNoneRow : OpenClaim := { program := "ytdglpnpkgngcdaagreat", sum := "8d4c8d837926fdbfd10ca62eacce274fefc31de8faacebd4290070a3f319ebbf", func := "leadtrail/leadtraillaw19.EncodeNone", spec := "encodeNone", unfollowed := true, recurses := true, plainKeys := false, apart := false }
def EncodeNoneSaid : Prop := encodeNoneRow.holds Tryz.pinned (OpenSpec.ofChange encodeNoneSpec)

/-- ITS FALSE NEIGHBOUR: 'it returns false'. Refute it at one input. -/
def encodeNoneWrong : ChangeSpec := { name := "encodeNone", fn := fun _ => fun
  | [d1, d2, d3] => { results := [.lit (.bool false)], args := [d1, d2, d3] }
  | _ => none }
def EncodeNoneWrongFalsely : Prop := encodeNoneRow.holds Tryz.pinned (OpenSpec.ofChange encodeNoneWrong)

/-- 'leadtraillaw15.TableNil': WHATEVER THE INPUT: true; the input reads as it did. -/
def tableNilSpec : ChangeSpec := { name := "tableNil", fn := fun _ => fun
  | [d1, d2] => { results := [.lit (.bool true)], args := [d1, d2] }
  | _ => none }
def tableNilRow : OpenClaim := { program := "ytdglpnpkgngcdaagreat", sum := "8d4c8d837926fdbfd10ca62eacce274fefc31de8faacebd4290070a3f319ebbf", func := "leadtrail/leadtraillaw15.TableNil", spec := "tableNil", unfollowed := true, recurses := true, plainKeys := false, apart := false }
def TableNilSaid : Prop := tableNilRow.holds Tryz.pinned (OpenSpec.ofChange tableNilSpec)

/-- ITS FALSE NEIGHBOUR: 'it returns false'. Refute it at one input. -/
def tableNilWrong : ChangeSpec := { name := "tableNil", fn := fun _ => fun
  | [d1, d2] => { results := [.lit (.bool false)], args := [d1, d2] }
  | _ => none }
def TableNilWrongFalsely : Prop := tableNilRow.holds Tryz.pinned (OpenSpec.ofChange tableNilWrong)

/-- 'leadtraillaw22.FuseLinks': WHATEVER THE INPUT: true; the input reads as it did. -/
def fuseLinksSpec : ChangeSpec := { name := "fuseLinks", fn := fun _ => fun
  | [d1, d2] => { results := [.lit (.bool true)], args := [d1, d2] }
  | _ => none }
def fuseLinksRow : OpenClaim := { program := "ytdglpnpkgngcdaagreat", sum := "8d4c8d837926fdbfd10ca62eacce274fefc31de8faacebd4290070a3f319ebbf", func := "leadtrail/leadtraillaw22.FuseLinks", spec := "fuseLinks", unfollowed := true, recurses := true, plainKeys := false, apart := false }
def FuseLinksSaid : Prop := fuseLinksRow.holds Tryz.pinned (OpenSpec.ofChange fuseLinksSpec)

/-- ITS FALSE NEIGHBOUR: 'it returns false'. Refute it at one input. -/
def fuseLinksWrong : ChangeSpec := { name := "fuseLinks", fn := fun _ => fun
  | [d1, d2] => { results := [.lit (.bool false)], args := [d1, d2] }
  | _ => none }
def FuseLinksWrongFalsely : Prop := fuseLinksRow.holds Tryz.pinned (OpenSpec.ofChange fuseLinksWrong)

/-- 'leadtraillaw22.FuseConverts': WHATEVER THE INPUT: true; the input reads as it did. -/
def fuseConvertsSpec : ChangeSpec := { name := "fuseConverts", fn := fun _ => fun
  | [d1, d2, d3] => { results := [.lit (.bool true)], args := [d1, d2, d3] }
  | _ => none }
def fuseConvertsRow : OpenClaim := { program := "ytdglpnpkgngcdaagreat", sum := "8d4c8d837926fdbfd10ca62eacce274fefc31de8faacebd4290070a3f319ebbf", func := "leadtrail/leadtraillaw22.FuseConverts", spec := "fuseConverts", unfollowed := true, recurses := true, plainKeys := false, apart := false }
def FuseConvertsSaid : Prop := fuseConvertsRow.holds Tryz.pinned (OpenSpec.ofChange fuseConvertsSpec)

/-- ITS FALSE NEIGHBOUR: 'it returns false'. Refute it at one input. -/
def fuseConvertsWrong : ChangeSpec := { name := "fuseConverts", fn := fun _ => fun
  | [d1, d2, d3] => { results := [.lit (.bool false)], args := [d1, d2, d3] }
  | _ => none }
def FuseConvertsWrongFalsely : Prop := fuseConvertsRow.holds Tryz.pinned (OpenSpec.ofChange fuseConvertsWrong)

/-- 'leadtraillaw19.EncodePlays': WHATEVER THE INPUT: true; the input reads as it did. -/
def encodePlaysSpec : ChangeSpec := { name := "encodePlays", fn := fun _ => fun
  | [d1, d2, d3] => { results := [.lit (.bool true)], args := [d1, d2, d3] }
  | _ => none }
def encodePlaysRow : OpenClaim := { program := "ytdglpnpkgngcdaagreat", sum := "8d4c8d837926fdbfd10ca62eacce274fefc31de8faacebd4290070a3f319ebbf", func := "leadtrail/leadtraillaw19.EncodePlays", spec := "encodePlays", unfollowed := true, recurses := true, plainKeys := false, apart := false }
def EncodePlaysSaid : Prop := encodePlaysRow.holds Tryz.pinned (OpenSpec.ofChange encodePlaysSpec)

/-- ITS FALSE NEIGHBOUR: 'it returns false'. Refute it at one input. -/
def encodePlaysWrong : ChangeSpec := { name := "encodePlays", fn := fun _ => fun
  | [d1, d2, d3] => { results := [.lit (.bool false)], args := [d1, d2, d3] }
  | _ => none }
def EncodePlaysWrongFalsely : Prop := encodePlaysRow.holds Tryz.pinned (OpenSpec.ofChange encodePlaysWrong)

/-- 'leadtraillaw19.EncodeOwns': WHATEVER THE INPUT: true; the input reads as it did. -/
def encodeOwnsSpec : ChangeSpec := { name := "encodeOwns", fn := fun _ => fun
  | [d1, d2, d3] => { results := [.lit (.bool true)], args := [d1, d2, d3] }
  | _ => none }
def encodeOwnsRow : OpenClaim := { program := "ytdglpnpkgngcdaagreat", sum := "8d4c8d837926fdbfd10ca62eacce274fefc31de8faacebd4290070a3f319ebbf", func := "leadtrail/leadtraillaw19.EncodeOwns", spec := "encodeOwns", unfollowed := true, recurses := true, plainKeys := false, apart := false }
def EncodeOwnsSaid : Prop := encodeOwnsRow.holds Tryz.pinned (OpenSpec.ofChange encodeOwnsSpec)

/-- ITS FALSE NEIGHBOUR: 'it returns false'. Refute it at one input. -/
def encodeOwnsWrong : ChangeSpec := { name := "encodeOwns", fn := fun _ => fun
  | [d1, d2, d3] => { results := [.lit (.bool false)], args := [d1, d2, d3] }
  | _ => none }
def EncodeOwnsWrongFalsely : Prop := encodeOwnsRow.holds Tryz.pinned (OpenSpec.ofChange encodeOwnsWrong)

/-- 'leadtraillaw19.EncodeText': WHATEVER THE INPUT: true; the input reads as it did. -/
def encodeTextSpec : ChangeSpec := { name := "encodeText", fn := fun _ => fun
  | [d1, d2, d3] => { results := [.lit (.bool true)], args := [d1, d2, d3] }
  | _ => none }
def encodeTextRow : OpenClaim := { program := "ytdglpnpkgngcdaagreat", sum := "8d4c8d837926fdbfd10ca62eacce274fefc31de8faacebd4290070a3f319ebbf", func := "leadtrail/leadtraillaw19.EncodeText", spec := "encodeText", unfollowed := true, recurses := true, plainKeys := false, apart := false }
def EncodeTextSaid : Prop := encodeTextRow.holds Tryz.pinned (OpenSpec.ofChange encodeTextSpec)

/-- ITS FALSE NEIGHBOUR: 'it returns false'. Refute it at one input. -/
def encodeTextWrong : ChangeSpec := { name := "encodeText", fn := fun _ => fun
  | [d1, d2, d3] => { results := [.lit (.bool false)], args := [d1, d2, d3] }
  | _ => none }
def EncodeTextWrongFalsely : Prop := encodeTextRow.holds Tryz.pinned (OpenSpec.ofChange encodeTextWrong)

/- THE SECOND FORM. 'bulk': how many values and letters a reading holds, each counted each time it is reached (what is shared counts as often as it is met; a slice's spare places count too). A statement '..UptoSaid' is the law's where the arguments, and the package variables that the reading takes, are together of bulk at most 1048576: NARROWER than '..Said'. Prove '..Said' where nothing that the law and all that it calls make is longer than what came in: it says more and counts as full. Else prove '..UptoSaid'. A law counts once. -/
mutual
def uptoBulk {H : Type} : DataW H → Nat
  | .lit (.string bytes) => bytes.length + 1
  | .lit _ => 1
  | .nil => 1
  | .ptr d => uptoBulk d + 1
  | .slice elems spare => uptoBulkAll elems + uptoBulkAll spare + 1
  | .agg parts => uptoBulkAll parts + 1
  | .iface _ d => uptoBulk d + 1
  | .map entries => uptoBulkEntries entries + 1
  | .held _ => 1
def uptoBulkAll {H : Type} : List (DataW H) → Nat
  | [] => 0
  | d :: r => uptoBulk d + uptoBulkAll r
def uptoBulkEntries {H : Type} : List (Lit × DataW H) → Nat
  | [] => 0
  | x :: r => uptoBulkEntry x + uptoBulkEntries r
def uptoBulkEntry {H : Type} : Lit × DataW H → Nat
  | (.string bytes, d) => bytes.length + uptoBulk d + 1
  | (_, d) => uptoBulk d + 1
 end
def uptoSmall : (H : Type) → List (DataW H) → Bool := fun _ ds => decide (uptoBulkAll ds ≤ 1048576)
def OpenSpec.upto (s : _root_.Go.ChangeSpec) : _root_.Go.OpenSpec := { _root_.Go.OpenSpec.ofChange s with cond := some uptoSmall }

/-- 'leadtraillaw15.TableCompiles', WHERE WHAT IT READS IS OF BULK AT MOST 1048576: true; the input reads as it did. -/
def tableCompilesUptoRow : OpenClaim := { program := "ytdglpnpkgngcdaagreat", sum := "8d4c8d837926fdbfd10ca62eacce274fefc31de8faacebd4290070a3f319ebbf", func := "leadtrail/leadtraillaw15.TableCompiles", spec := "tableCompiles", unfollowed := true, recurses := true, plainKeys := false, apart := false, narrowed := true }
def TableCompilesUptoSaid : Prop := tableCompilesUptoRow.holds Tryz.pinned (OpenSpec.upto tableCompilesSpec)

/-- 'leadtraillaw15.TableOwns', WHERE WHAT IT READS IS OF BULK AT MOST 1048576: true; the input reads as it did. -/
def tableOwnsUptoRow : OpenClaim := { program := "ytdglpnpkgngcdaagreat", sum := "8d4c8d837926fdbfd10ca62eacce274fefc31de8faacebd4290070a3f319ebbf", func := "leadtrail/leadtraillaw15.TableOwns", spec := "tableOwns", unfollowed := true, recurses := true, plainKeys := false, apart := false, narrowed := true }
def TableOwnsUptoSaid : Prop := tableOwnsUptoRow.holds Tryz.pinned (OpenSpec.upto tableOwnsSpec)

/-- 'leadtraillaw15.TableAnswers', WHERE WHAT IT READS IS OF BULK AT MOST 1048576: true; the input reads as it did. -/
def tableAnswersUptoRow : OpenClaim := { program := "ytdglpnpkgngcdaagreat", sum := "8d4c8d837926fdbfd10ca62eacce274fefc31de8faacebd4290070a3f319ebbf", func := "leadtrail/leadtraillaw15.TableAnswers", spec := "tableAnswers", unfollowed := true, recurses := true, plainKeys := false, apart := false, narrowed := true }
def TableAnswersUptoSaid : Prop := tableAnswersUptoRow.holds Tryz.pinned (OpenSpec.upto tableAnswersSpec)

/-- 'leadtraillaw19.EncodeNames', WHERE WHAT IT READS IS OF BULK AT MOST 1048576: true; the input reads as it did. -/
def encodeNamesUptoRow : OpenClaim := { program := "ytdglpnpkgngcdaagreat", sum := "8d4c8d837926fdbfd10ca62eacce274fefc31de8faacebd4290070a3f319ebbf", func := "leadtrail/leadtraillaw19.EncodeNames", spec := "encodeNames", unfollowed := true, recurses := true, plainKeys := false, apart := false, narrowed := true }
def EncodeNamesUptoSaid : Prop := encodeNamesUptoRow.holds Tryz.pinned (OpenSpec.upto encodeNamesSpec)

/-- 'leadtraillaw19.EncodeNone', WHERE WHAT IT READS IS OF BULK AT MOST 1048576: true; the input reads as it did. -/
def encodeNoneUptoRow : OpenClaim := { program := "ytdglpnpkgngcdaagreat", sum := "8d4c8d837926fdbfd10ca62eacce274fefc31de8faacebd4290070a3f319ebbf", func := "leadtrail/leadtraillaw19.EncodeNone", spec := "encodeNone", unfollowed := true, recurses := true, plainKeys := false, apart := false, narrowed := true }
def EncodeNoneUptoSaid : Prop := encodeNoneUptoRow.holds Tryz.pinned (OpenSpec.upto encodeNoneSpec)

/-- 'leadtraillaw15.TableNil', WHERE WHAT IT READS IS OF BULK AT MOST 1048576: true; the input reads as it did. -/
def tableNilUptoRow : OpenClaim := { program := "ytdglpnpkgngcdaagreat", sum := "8d4c8d837926fdbfd10ca62eacce274fefc31de8faacebd4290070a3f319ebbf", func := "leadtrail/leadtraillaw15.TableNil", spec := "tableNil", unfollowed := true, recurses := true, plainKeys := false, apart := false, narrowed := true }
def TableNilUptoSaid : Prop := tableNilUptoRow.holds Tryz.pinned (OpenSpec.upto tableNilSpec)

/-- 'leadtraillaw22.FuseLinks', WHERE WHAT IT READS IS OF BULK AT MOST 1048576: true; the input reads as it did. -/
def fuseLinksUptoRow : OpenClaim := { program := "ytdglpnpkgngcdaagreat", sum := "8d4c8d837926fdbfd10ca62eacce274fefc31de8faacebd4290070a3f319ebbf", func := "leadtrail/leadtraillaw22.FuseLinks", spec := "fuseLinks", unfollowed := true, recurses := true, plainKeys := false, apart := false, narrowed := true }
def FuseLinksUptoSaid : Prop := fuseLinksUptoRow.holds Tryz.pinned (OpenSpec.upto fuseLinksSpec)

/-- 'leadtraillaw22.FuseConverts', WHERE WHAT IT READS IS OF BULK AT MOST 1048576: true; the input reads as it did. -/
def fuseConvertsUptoRow : OpenClaim := { program := "ytdglpnpkgngcdaagreat", sum := "8d4c8d837926fdbfd10ca62eacce274fefc31de8faacebd4290070a3f319ebbf", func := "leadtrail/leadtraillaw22.FuseConverts", spec := "fuseConverts", unfollowed := true, recurses := true, plainKeys := false, apart := false, narrowed := true }
def FuseConvertsUptoSaid : Prop := fuseConvertsUptoRow.holds Tryz.pinned (OpenSpec.upto fuseConvertsSpec)

/-- 'leadtraillaw19.EncodePlays', WHERE WHAT IT READS IS OF BULK AT MOST 1048576: true; the input reads as it did. -/
def encodePlaysUptoRow : OpenClaim := { program := "ytdglpnpkgngcdaagreat", sum := "8d4c8d837926fdbfd10ca62eacce274fefc31de8faacebd4290070a3f319ebbf", func := "leadtrail/leadtraillaw19.EncodePlays", spec := "encodePlays", unfollowed := true, recurses := true, plainKeys := false, apart := false, narrowed := true }
def EncodePlaysUptoSaid : Prop := encodePlaysUptoRow.holds Tryz.pinned (OpenSpec.upto encodePlaysSpec)

/-- 'leadtraillaw19.EncodeOwns', WHERE WHAT IT READS IS OF BULK AT MOST 1048576: true; the input reads as it did. -/
def encodeOwnsUptoRow : OpenClaim := { program := "ytdglpnpkgngcdaagreat", sum := "8d4c8d837926fdbfd10ca62eacce274fefc31de8faacebd4290070a3f319ebbf", func := "leadtrail/leadtraillaw19.EncodeOwns", spec := "encodeOwns", unfollowed := true, recurses := true, plainKeys := false, apart := false, narrowed := true }
def EncodeOwnsUptoSaid : Prop := encodeOwnsUptoRow.holds Tryz.pinned (OpenSpec.upto encodeOwnsSpec)

/-- 'leadtraillaw19.EncodeText', WHERE WHAT IT READS IS OF BULK AT MOST 1048576: true; the input reads as it did. -/
def encodeTextUptoRow : OpenClaim := { program := "ytdglpnpkgngcdaagreat", sum := "8d4c8d837926fdbfd10ca62eacce274fefc31de8faacebd4290070a3f319ebbf", func := "leadtrail/leadtraillaw19.EncodeText", spec := "encodeText", unfollowed := true, recurses := true, plainKeys := false, apart := false, narrowed := true }
def EncodeTextUptoSaid : Prop := encodeTextUptoRow.holds Tryz.pinned (OpenSpec.upto encodeTextSpec)

end Rows
end Go.Proofs.YtdglpnpkgngcdaaGreat
