/-
  No cell of these rows narrows 'for every input' (looked for: loops, veiled, ifaces, maps, wideKeys, modest, calm, conditions, laid).
  DERIVED. THE GIVEN ROWS OF THIS SEAT. 9 by the template 'for every input the law returns true; each argument reads behind the call as it read before'; 0 by the template 'total and deterministic' (their statements: YtolkahifidfgeaaTotals.lean).
  GIVEN WITH THE SEED: the statements are not yours to turn. If you find one false, say at which input.
  Laid BY PROGRAM, IN A SANDBOX (cutbox-rows.mjs): the forced cells as the released guide's own fill.sh prints them over the translation d570b7563f174f9e… (all of the seat's roots in one cut). By AI agents, Wed Nov 11 2026. No macro, syntax, notation, axiom, sorry.
-/
import Derived.Test.YtolkahifidfgeaaChecked
import GoSem.Claim
import GoSem.ClaimJoined
import GoSem.ClaimMapViews
import Derived.JoinedTies
import Derived.KernelRfl
namespace Go.Proofs.Ytolkahifidfgeaa
/- THE CELL 'sum', in the pinned program and in every row, IS THE sha256 OF THE DUMP (.gsa) THAT YtolkahifidfgeaaProg.lean LOADS. Nothing in Lean hashes anything: it is a label: what it is worth is what the hold of that sum in a sandbox is worth. -/
noncomputable def Try.pinned : Pinned := { name := "ytolkahifidfgeaa", sum := "d570b7563f174f9eac9606bea9e2f218c91af06af6f19bb8de8720948789a3cc", checked := Try.checked }
namespace Rows
def none {H : Type} : Left H := { results := [], args := [] }

/-- 'leadtraillaw13.AutoBuilds': WHATEVER THE INPUT: true; the input reads as it did. -/
def autoBuildsSpec : ChangeSpec := { name := "autoBuilds", fn := fun _ => fun
  | [d] => { results := [.lit (.bool true)], args := [d] }
  | _ => none }
def autoBuildsRow : OpenClaim := { program := "ytolkahifidfgeaa", sum := "d570b7563f174f9eac9606bea9e2f218c91af06af6f19bb8de8720948789a3cc", func := "leadtrail/leadtraillaw13.AutoBuilds", spec := "autoBuilds", unfollowed := true, recurses := true, plainKeys := false, apart := false }
def AutoBuildsSaid : Prop := autoBuildsRow.holds Try.pinned (OpenSpec.ofChange autoBuildsSpec)

/-- ITS FALSE NEIGHBOUR: 'it returns false'. Refute it at one input. -/
def autoBuildsWrong : ChangeSpec := { name := "autoBuilds", fn := fun _ => fun
  | [d] => { results := [.lit (.bool false)], args := [d] }
  | _ => none }
def AutoBuildsWrongFalsely : Prop := autoBuildsRow.holds Try.pinned (OpenSpec.ofChange autoBuildsWrong)

/-- 'leadtraillaw13.AutoLeast': WHATEVER THE INPUT: true; the input reads as it did. -/
def autoLeastSpec : ChangeSpec := { name := "autoLeast", fn := fun _ => fun
  | [d] => { results := [.lit (.bool true)], args := [d] }
  | _ => none }
def autoLeastRow : OpenClaim := { program := "ytolkahifidfgeaa", sum := "d570b7563f174f9eac9606bea9e2f218c91af06af6f19bb8de8720948789a3cc", func := "leadtrail/leadtraillaw13.AutoLeast", spec := "autoLeast", unfollowed := true, recurses := true, plainKeys := false, apart := false }
def AutoLeastSaid : Prop := autoLeastRow.holds Try.pinned (OpenSpec.ofChange autoLeastSpec)

/-- ITS FALSE NEIGHBOUR: 'it returns false'. Refute it at one input. -/
def autoLeastWrong : ChangeSpec := { name := "autoLeast", fn := fun _ => fun
  | [d] => { results := [.lit (.bool false)], args := [d] }
  | _ => none }
def AutoLeastWrongFalsely : Prop := autoLeastRow.holds Try.pinned (OpenSpec.ofChange autoLeastWrong)

/-- 'leadtraillaw13.AutoOwns': WHATEVER THE INPUT: true; the input reads as it did. -/
def autoOwnsSpec : ChangeSpec := { name := "autoOwns", fn := fun _ => fun
  | [d] => { results := [.lit (.bool true)], args := [d] }
  | _ => none }
def autoOwnsRow : OpenClaim := { program := "ytolkahifidfgeaa", sum := "d570b7563f174f9eac9606bea9e2f218c91af06af6f19bb8de8720948789a3cc", func := "leadtrail/leadtraillaw13.AutoOwns", spec := "autoOwns", unfollowed := true, recurses := true, plainKeys := false, apart := false }
def AutoOwnsSaid : Prop := autoOwnsRow.holds Try.pinned (OpenSpec.ofChange autoOwnsSpec)

/-- ITS FALSE NEIGHBOUR: 'it returns false'. Refute it at one input. -/
def autoOwnsWrong : ChangeSpec := { name := "autoOwns", fn := fun _ => fun
  | [d] => { results := [.lit (.bool false)], args := [d] }
  | _ => none }
def AutoOwnsWrongFalsely : Prop := autoOwnsRow.holds Try.pinned (OpenSpec.ofChange autoOwnsWrong)

/-- 'leadtraillaw13.AutoNames': WHATEVER THE INPUT: true; the input reads as it did. -/
def autoNamesSpec : ChangeSpec := { name := "autoNames", fn := fun _ => fun
  | [] => { results := [.lit (.bool true)], args := [] }
  | _ => none }
def autoNamesRow : OpenClaim := { program := "ytolkahifidfgeaa", sum := "d570b7563f174f9eac9606bea9e2f218c91af06af6f19bb8de8720948789a3cc", func := "leadtrail/leadtraillaw13.AutoNames", spec := "autoNames", unfollowed := true, recurses := true, plainKeys := false, apart := false }
def AutoNamesSaid : Prop := autoNamesRow.holds Try.pinned (OpenSpec.ofChange autoNamesSpec)

/-- ITS FALSE NEIGHBOUR: 'it returns false'. Refute it at one input. -/
def autoNamesWrong : ChangeSpec := { name := "autoNames", fn := fun _ => fun
  | [] => { results := [.lit (.bool false)], args := [] }
  | _ => none }
def AutoNamesWrongFalsely : Prop := autoNamesRow.holds Try.pinned (OpenSpec.ofChange autoNamesWrong)

/-- 'leadtraillaw13.AutoRuns': WHATEVER THE INPUT: true; the input reads as it did. -/
def autoRunsSpec : ChangeSpec := { name := "autoRuns", fn := fun _ => fun
  | [d1, d2, d3] => { results := [.lit (.bool true)], args := [d1, d2, d3] }
  | _ => none }
def autoRunsRow : OpenClaim := { program := "ytolkahifidfgeaa", sum := "d570b7563f174f9eac9606bea9e2f218c91af06af6f19bb8de8720948789a3cc", func := "leadtrail/leadtraillaw13.AutoRuns", spec := "autoRuns", unfollowed := true, recurses := true, plainKeys := false, apart := false }
def AutoRunsSaid : Prop := autoRunsRow.holds Try.pinned (OpenSpec.ofChange autoRunsSpec)

/-- ITS FALSE NEIGHBOUR: 'it returns false'. Refute it at one input. -/
def autoRunsWrong : ChangeSpec := { name := "autoRuns", fn := fun _ => fun
  | [d1, d2, d3] => { results := [.lit (.bool false)], args := [d1, d2, d3] }
  | _ => none }
def AutoRunsWrongFalsely : Prop := autoRunsRow.holds Try.pinned (OpenSpec.ofChange autoRunsWrong)

/-- 'leadtraillaw13.AutoTells': WHATEVER THE INPUT: true; the input reads as it did. -/
def autoTellsSpec : ChangeSpec := { name := "autoTells", fn := fun _ => fun
  | [d1, d2] => { results := [.lit (.bool true)], args := [d1, d2] }
  | _ => none }
def autoTellsRow : OpenClaim := { program := "ytolkahifidfgeaa", sum := "d570b7563f174f9eac9606bea9e2f218c91af06af6f19bb8de8720948789a3cc", func := "leadtrail/leadtraillaw13.AutoTells", spec := "autoTells", unfollowed := true, recurses := true, plainKeys := false, apart := false }
def AutoTellsSaid : Prop := autoTellsRow.holds Try.pinned (OpenSpec.ofChange autoTellsSpec)

/-- ITS FALSE NEIGHBOUR: 'it returns false'. Refute it at one input. -/
def autoTellsWrong : ChangeSpec := { name := "autoTells", fn := fun _ => fun
  | [d1, d2] => { results := [.lit (.bool false)], args := [d1, d2] }
  | _ => none }
def AutoTellsWrongFalsely : Prop := autoTellsRow.holds Try.pinned (OpenSpec.ofChange autoTellsWrong)

/-- 'leadtraillaw13.AutoKnows': WHATEVER THE INPUT: true; the input reads as it did. -/
def autoKnowsSpec : ChangeSpec := { name := "autoKnows", fn := fun _ => fun
  | [d1, d2, d3] => { results := [.lit (.bool true)], args := [d1, d2, d3] }
  | _ => none }
def autoKnowsRow : OpenClaim := { program := "ytolkahifidfgeaa", sum := "d570b7563f174f9eac9606bea9e2f218c91af06af6f19bb8de8720948789a3cc", func := "leadtrail/leadtraillaw13.AutoKnows", spec := "autoKnows", unfollowed := true, recurses := true, plainKeys := false, apart := false }
def AutoKnowsSaid : Prop := autoKnowsRow.holds Try.pinned (OpenSpec.ofChange autoKnowsSpec)

/-- ITS FALSE NEIGHBOUR: 'it returns false'. Refute it at one input. -/
def autoKnowsWrong : ChangeSpec := { name := "autoKnows", fn := fun _ => fun
  | [d1, d2, d3] => { results := [.lit (.bool false)], args := [d1, d2, d3] }
  | _ => none }
def AutoKnowsWrongFalsely : Prop := autoKnowsRow.holds Try.pinned (OpenSpec.ofChange autoKnowsWrong)

/-- 'leadtraillaw14.SyncShows': WHATEVER THE INPUT: true; the input reads as it did. -/
def syncShowsSpec : ChangeSpec := { name := "syncShows", fn := fun _ => fun
  | [d] => { results := [.lit (.bool true)], args := [d] }
  | _ => none }
def syncShowsRow : OpenClaim := { program := "ytolkahifidfgeaa", sum := "d570b7563f174f9eac9606bea9e2f218c91af06af6f19bb8de8720948789a3cc", func := "leadtrail/leadtraillaw14.SyncShows", spec := "syncShows", unfollowed := true, recurses := true, plainKeys := false, apart := false }
def SyncShowsSaid : Prop := syncShowsRow.holds Try.pinned (OpenSpec.ofChange syncShowsSpec)

/-- ITS FALSE NEIGHBOUR: 'it returns false'. Refute it at one input. -/
def syncShowsWrong : ChangeSpec := { name := "syncShows", fn := fun _ => fun
  | [d] => { results := [.lit (.bool false)], args := [d] }
  | _ => none }
def SyncShowsWrongFalsely : Prop := syncShowsRow.holds Try.pinned (OpenSpec.ofChange syncShowsWrong)

/-- 'leadtraillaw14.SyncOwns': WHATEVER THE INPUT: true; the input reads as it did. -/
def syncOwnsSpec : ChangeSpec := { name := "syncOwns", fn := fun _ => fun
  | [d] => { results := [.lit (.bool true)], args := [d] }
  | _ => none }
def syncOwnsRow : OpenClaim := { program := "ytolkahifidfgeaa", sum := "d570b7563f174f9eac9606bea9e2f218c91af06af6f19bb8de8720948789a3cc", func := "leadtrail/leadtraillaw14.SyncOwns", spec := "syncOwns", unfollowed := true, recurses := true, plainKeys := false, apart := false }
def SyncOwnsSaid : Prop := syncOwnsRow.holds Try.pinned (OpenSpec.ofChange syncOwnsSpec)

/-- ITS FALSE NEIGHBOUR: 'it returns false'. Refute it at one input. -/
def syncOwnsWrong : ChangeSpec := { name := "syncOwns", fn := fun _ => fun
  | [d] => { results := [.lit (.bool false)], args := [d] }
  | _ => none }
def SyncOwnsWrongFalsely : Prop := syncOwnsRow.holds Try.pinned (OpenSpec.ofChange syncOwnsWrong)

/- THE SECOND FORM. 'bulk': how many values and letters a reading holds, each counted each time it is reached (what is shared counts as often as it is met; a slice's spare places count too). A statement '..UptoSaid' is the law's where the arguments, and the package variables that the reading takes, are together of bulk at most 1048576: NARROWER than '..Said'. Prove '..Said' where nothing that the law and all that it calls make is longer than what came in: it says more and counts as full. Else prove '..UptoSaid'. A law counts once. -/
mutual
def uptoBulk {H : Type} : DataW H → Nat
  | .lit (.string bytes) => bytes.length + 1
  | .lit _ => 1
  | .nil => 1
  | .ptr d => uptoBulk d + 1
  | .slice elems spare => uptoBulkAll elems + uptoBulkAll spare + 1
  | .agg parts => uptoBulkAll parts + 1
  | .iface _ d => uptoBulk d + 1
  | .map entries => uptoBulkEntries entries + 1
  | .held _ => 1
def uptoBulkAll {H : Type} : List (DataW H) → Nat
  | [] => 0
  | d :: r => uptoBulk d + uptoBulkAll r
def uptoBulkEntries {H : Type} : List (Lit × DataW H) → Nat
  | [] => 0
  | x :: r => uptoBulkEntry x + uptoBulkEntries r
def uptoBulkEntry {H : Type} : Lit × DataW H → Nat
  | (.string bytes, d) => bytes.length + uptoBulk d + 1
  | (_, d) => uptoBulk d + 1
 end
def uptoSmall : (H : Type) → List (DataW H) → Bool := fun _ ds => decide (uptoBulkAll ds ≤ 1048576)
def OpenSpec.upto (s : _root_.Go.ChangeSpec) : _root_.Go.OpenSpec := { _root_.Go.OpenSpec.ofChange s with cond := some uptoSmall }

/-- 'leadtraillaw13.AutoBuilds', WHERE WHAT IT READS IS OF BULK AT MOST 1048576: true; the input reads as it did. -/
def autoBuildsUptoRow : OpenClaim := { program := "ytolkahifidfgeaa", sum := "d570b7563f174f9eac9606bea9e2f218c91af06af6f19bb8de8720948789a3cc", func := "leadtrail/leadtraillaw13.AutoBuilds", spec := "autoBuilds", unfollowed := true, recurses := true, plainKeys := false, apart := false, narrowed := true }
def AutoBuildsUptoSaid : Prop := autoBuildsUptoRow.holds Try.pinned (OpenSpec.upto autoBuildsSpec)

/-- 'leadtraillaw13.AutoLeast', WHERE WHAT IT READS IS OF BULK AT MOST 1048576: true; the input reads as it did. -/
def autoLeastUptoRow : OpenClaim := { program := "ytolkahifidfgeaa", sum := "d570b7563f174f9eac9606bea9e2f218c91af06af6f19bb8de8720948789a3cc", func := "leadtrail/leadtraillaw13.AutoLeast", spec := "autoLeast", unfollowed := true, recurses := true, plainKeys := false, apart := false, narrowed := true }
def AutoLeastUptoSaid : Prop := autoLeastUptoRow.holds Try.pinned (OpenSpec.upto autoLeastSpec)

/-- 'leadtraillaw13.AutoOwns', WHERE WHAT IT READS IS OF BULK AT MOST 1048576: true; the input reads as it did. -/
def autoOwnsUptoRow : OpenClaim := { program := "ytolkahifidfgeaa", sum := "d570b7563f174f9eac9606bea9e2f218c91af06af6f19bb8de8720948789a3cc", func := "leadtrail/leadtraillaw13.AutoOwns", spec := "autoOwns", unfollowed := true, recurses := true, plainKeys := false, apart := false, narrowed := true }
def AutoOwnsUptoSaid : Prop := autoOwnsUptoRow.holds Try.pinned (OpenSpec.upto autoOwnsSpec)

/-- 'leadtraillaw13.AutoNames', WHERE WHAT IT READS IS OF BULK AT MOST 1048576: true; the input reads as it did. -/
def autoNamesUptoRow : OpenClaim := { program := "ytolkahifidfgeaa", sum := "d570b7563f174f9eac9606bea9e2f218c91af06af6f19bb8de8720948789a3cc", func := "leadtrail/leadtraillaw13.AutoNames", spec := "autoNames", unfollowed := true, recurses := true, plainKeys := false, apart := false, narrowed := true }
def AutoNamesUptoSaid : Prop := autoNamesUptoRow.holds Try.pinned (OpenSpec.upto autoNamesSpec)

/-- 'leadtraillaw13.AutoRuns', WHERE WHAT IT READS IS OF BULK AT MOST 1048576: true; the input reads as it did. -/
def autoRunsUptoRow : OpenClaim := { program := "ytolkahifidfgeaa", sum := "d570b7563f174f9eac9606bea9e2f218c91af06af6f19bb8de8720948789a3cc", func := "leadtrail/leadtraillaw13.AutoRuns", spec := "autoRuns", unfollowed := true, recurses := true, plainKeys := false, apart := false, narrowed := true }
def AutoRunsUptoSaid : Prop := autoRunsUptoRow.holds Try.pinned (OpenSpec.upto autoRunsSpec)

/-- 'leadtraillaw13.AutoTells', WHERE WHAT IT READS IS OF BULK AT MOST 1048576: true; the input reads as it did. -/
def autoTellsUptoRow : OpenClaim := { program := "ytolkahifidfgeaa", sum := "d570b7563f174f9eac9606bea9e2f218c91af06af6f19bb8de8720948789a3cc", func := "leadtrail/leadtraillaw13.AutoTells", spec := "autoTells", unfollowed := true, recurses := true, plainKeys := false, apart := false, narrowed := true }
def AutoTellsUptoSaid : Prop := autoTellsUptoRow.holds Try.pinned (OpenSpec.upto autoTellsSpec)

/-- 'leadtraillaw13.AutoKnows', WHERE WHAT IT READS IS OF BULK AT MOST 1048576: true; the input reads as it did. -/
def autoKnowsUptoRow : OpenClaim := { program := "ytolkahifidfgeaa", sum := "d570b7563f174f9eac9606bea9e2f218c91af06af6f19bb8de8720948789a3cc", func := "leadtrail/leadtraillaw13.AutoKnows", spec := "autoKnows", unfollowed := true, recurses := true, plainKeys := false, apart := false, narrowed := true }
def AutoKnowsUptoSaid : Prop := autoKnowsUptoRow.holds Try.pinned (OpenSpec.upto autoKnowsSpec)

/-- 'leadtraillaw14.SyncShows', WHERE WHAT IT READS IS OF BULK AT MOST 1048576: true; the input reads as it did. -/
def syncShowsUptoRow : OpenClaim := { program := "ytolkahifidfgeaa", sum := "d570b7563f174f9eac9606bea9e2f218c91af06af6f19bb8de8720948789a3cc", func := "leadtrail/leadtraillaw14.SyncShows", spec := "syncShows", unfollowed := true, recurses := true, plainKeys := false, apart := false, narrowed := true }
def SyncShowsUptoSaid : Prop := syncShowsUptoRow.holds Try.pinned (OpenSpec.upto syncShowsSpec)

/-- 'leadtraillaw14.SyncOwns', WHERE WHAT IT READS IS OF BULK AT MOST 1048576: true; the input reads as it did. -/
def syncOwnsUptoRow : OpenClaim := { program := "ytolkahifidfgeaa", sum := "d570b7563f174f9eac9606bea9e2f218c91af06af6f19bb8de8720948789a3cc", func := "leadtrail/leadtraillaw14.SyncOwns", spec := "syncOwns", unfollowed := true, recurses := true, plainKeys := false, apart := false, narrowed := true }
def SyncOwnsUptoSaid : Prop := syncOwnsUptoRow.holds Try.pinned (OpenSpec.upto syncOwnsSpec)

end Rows
end Go.Proofs.Ytolkahifidfgeaa
