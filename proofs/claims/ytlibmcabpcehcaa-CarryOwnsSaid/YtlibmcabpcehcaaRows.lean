/-
  No cell of these rows narrows 'for every input' (looked for: loops, veiled, ifaces, maps, wideKeys, modest, calm, conditions, laid).
  DERIVED. THE GIVEN ROWS OF THIS SEAT. 4 by the template 'for every input the law returns true; each argument reads behind the call as it read before'; 0 by the template 'total and deterministic' (their statements: YtlibmcabpcehcaaTotals.lean).
  GIVEN WITH THE SEED: the statements are not yours to turn. If you find one false, say at which input.
  Laid BY PROGRAM, IN A SANDBOX (cutbox-rows.mjs): the forced cells as the released guide's own fill.sh prints them over the translation ea29a9fac46fbcaf… (all of the seat's roots in one cut). By AI agents, Wed Nov 11 2026. No macro, syntax, notation, axiom, sorry.
-/
import Derived.Test.YtlibmcabpcehcaaChecked
import GoSem.Claim
import GoSem.ClaimJoined
import GoSem.ClaimMapViews
import Derived.JoinedTies
import Derived.KernelRfl
namespace Go.Proofs.Ytlibmcabpcehcaa
/- THE CELL 'sum', in the pinned program and in every row, IS THE sha256 OF THE DUMP (.gsa) THAT YtlibmcabpcehcaaProg.lean LOADS. Nothing in Lean hashes anything: it is a label: what it is worth is what the hold of that sum in a sandbox is worth. -/
noncomputable def Try.pinned : Pinned := { name := "ytlibmcabpcehcaa", sum := "ea29a9fac46fbcaf1e0387563fed7071dec0b2ecc71e8948fa40d1800b8674dc", checked := Try.checked }
namespace Rows
def none {H : Type} : Left H := { results := [], args := [] }

/-- 'leadtraillaw02.CarryOwns': WHATEVER THE INPUT: true; the input reads as it did. -/
def carryOwnsSpec : ChangeSpec := { name := "carryOwns", fn := fun _ => fun
  | [d] => { results := [.lit (.bool true)], args := [d] }
  | _ => none }
def carryOwnsRow : OpenClaim := { program := "ytlibmcabpcehcaa", sum := "ea29a9fac46fbcaf1e0387563fed7071dec0b2ecc71e8948fa40d1800b8674dc", func := "leadtrail/leadtraillaw02.CarryOwns", spec := "carryOwns", apart := false }
def CarryOwnsSaid : Prop := carryOwnsRow.holds Try.pinned (OpenSpec.ofChange carryOwnsSpec)

/-- ITS FALSE NEIGHBOUR: 'it returns false'. Refute it at one input. -/
def carryOwnsWrong : ChangeSpec := { name := "carryOwns", fn := fun _ => fun
  | [d] => { results := [.lit (.bool false)], args := [d] }
  | _ => none }
def CarryOwnsWrongFalsely : Prop := carryOwnsRow.holds Try.pinned (OpenSpec.ofChange carryOwnsWrong)

/-- 'leadtraillaw02.CarryPlays': WHATEVER THE INPUT: true; the input reads as it did. -/
def carryPlaysSpec : ChangeSpec := { name := "carryPlays", fn := fun _ => fun
  | [d1, d2] => { results := [.lit (.bool true)], args := [d1, d2] }
  | _ => none }
def carryPlaysRow : OpenClaim := { program := "ytlibmcabpcehcaa", sum := "ea29a9fac46fbcaf1e0387563fed7071dec0b2ecc71e8948fa40d1800b8674dc", func := "leadtrail/leadtraillaw02.CarryPlays", spec := "carryPlays", apart := false }
def CarryPlaysSaid : Prop := carryPlaysRow.holds Try.pinned (OpenSpec.ofChange carryPlaysSpec)

/-- ITS FALSE NEIGHBOUR: 'it returns false'. Refute it at one input. -/
def carryPlaysWrong : ChangeSpec := { name := "carryPlays", fn := fun _ => fun
  | [d1, d2] => { results := [.lit (.bool false)], args := [d1, d2] }
  | _ => none }
def CarryPlaysWrongFalsely : Prop := carryPlaysRow.holds Try.pinned (OpenSpec.ofChange carryPlaysWrong)

/-- 'leadtraillaw02.CarryQueue': WHATEVER THE INPUT: true; the input reads as it did. -/
def carryQueueSpec : ChangeSpec := { name := "carryQueue", fn := fun _ => fun
  | [d1, d2] => { results := [.lit (.bool true)], args := [d1, d2] }
  | _ => none }
def carryQueueRow : OpenClaim := { program := "ytlibmcabpcehcaa", sum := "ea29a9fac46fbcaf1e0387563fed7071dec0b2ecc71e8948fa40d1800b8674dc", func := "leadtrail/leadtraillaw02.CarryQueue", spec := "carryQueue", apart := false }
def CarryQueueSaid : Prop := carryQueueRow.holds Try.pinned (OpenSpec.ofChange carryQueueSpec)

/-- ITS FALSE NEIGHBOUR: 'it returns false'. Refute it at one input. -/
def carryQueueWrong : ChangeSpec := { name := "carryQueue", fn := fun _ => fun
  | [d1, d2] => { results := [.lit (.bool false)], args := [d1, d2] }
  | _ => none }
def CarryQueueWrongFalsely : Prop := carryQueueRow.holds Try.pinned (OpenSpec.ofChange carryQueueWrong)

/-- 'leadtraillaw02.CarryNil': WHATEVER THE INPUT: true; the input reads as it did. -/
def carryNilSpec : ChangeSpec := { name := "carryNil", fn := fun _ => fun
  | [d] => { results := [.lit (.bool true)], args := [d] }
  | _ => none }
def carryNilRow : OpenClaim := { program := "ytlibmcabpcehcaa", sum := "ea29a9fac46fbcaf1e0387563fed7071dec0b2ecc71e8948fa40d1800b8674dc", func := "leadtrail/leadtraillaw02.CarryNil", spec := "carryNil", apart := false }
def CarryNilSaid : Prop := carryNilRow.holds Try.pinned (OpenSpec.ofChange carryNilSpec)

/-- ITS FALSE NEIGHBOUR: 'it returns false'. Refute it at one input. -/
def carryNilWrong : ChangeSpec := { name := "carryNil", fn := fun _ => fun
  | [d] => { results := [.lit (.bool false)], args := [d] }
  | _ => none }
def CarryNilWrongFalsely : Prop := carryNilRow.holds Try.pinned (OpenSpec.ofChange carryNilWrong)

/- THE SECOND FORM. 'bulk': how many values and letters a reading holds, each counted each time it is reached (what is shared counts as often as it is met; a slice's spare places count too). A statement '..UptoSaid' is the law's where the arguments, and the package variables that the reading takes, are together of bulk at most 1048576: NARROWER than '..Said'. Prove '..Said' where nothing that the law and all that it calls make is longer than what came in: it says more and counts as full. Else prove '..UptoSaid'. A law counts once. -/
mutual
def uptoBulk {H : Type} : DataW H → Nat
  | .lit (.string bytes) => bytes.length + 1
  | .lit _ => 1
  | .nil => 1
  | .ptr d => uptoBulk d + 1
  | .slice elems spare => uptoBulkAll elems + uptoBulkAll spare + 1
  | .agg parts => uptoBulkAll parts + 1
  | .iface _ d => uptoBulk d + 1
  | .map entries => uptoBulkEntries entries + 1
  | .held _ => 1
def uptoBulkAll {H : Type} : List (DataW H) → Nat
  | [] => 0
  | d :: r => uptoBulk d + uptoBulkAll r
def uptoBulkEntries {H : Type} : List (Lit × DataW H) → Nat
  | [] => 0
  | x :: r => uptoBulkEntry x + uptoBulkEntries r
def uptoBulkEntry {H : Type} : Lit × DataW H → Nat
  | (.string bytes, d) => bytes.length + uptoBulk d + 1
  | (_, d) => uptoBulk d + 1
 end
def uptoSmall : (H : Type) → List (DataW H) → Bool := fun _ ds => decide (uptoBulkAll ds ≤ 1048576)
def OpenSpec.upto (s : _root_.Go.ChangeSpec) : _root_.Go.OpenSpec := { _root_.Go.OpenSpec.ofChange s with cond := some uptoSmall }

/-- 'leadtraillaw02.CarryOwns', WHERE WHAT IT READS IS OF BULK AT MOST 1048576: true; the input reads as it did. -/
def carryOwnsUptoRow : OpenClaim := { program := "ytlibmcabpcehcaa", sum := "ea29a9fac46fbcaf1e0387563fed7071dec0b2ecc71e8948fa40d1800b8674dc", func := "leadtrail/leadtraillaw02.CarryOwns", spec := "carryOwns", apart := false, narrowed := true }
def CarryOwnsUptoSaid : Prop := carryOwnsUptoRow.holds Try.pinned (OpenSpec.upto carryOwnsSpec)

/-- 'leadtraillaw02.CarryPlays', WHERE WHAT IT READS IS OF BULK AT MOST 1048576: true; the input reads as it did. -/
def carryPlaysUptoRow : OpenClaim := { program := "ytlibmcabpcehcaa", sum := "ea29a9fac46fbcaf1e0387563fed7071dec0b2ecc71e8948fa40d1800b8674dc", func := "leadtrail/leadtraillaw02.CarryPlays", spec := "carryPlays", apart := false, narrowed := true }
def CarryPlaysUptoSaid : Prop := carryPlaysUptoRow.holds Try.pinned (OpenSpec.upto carryPlaysSpec)

/-- 'leadtraillaw02.CarryQueue', WHERE WHAT IT READS IS OF BULK AT MOST 1048576: true; the input reads as it did. -/
def carryQueueUptoRow : OpenClaim := { program := "ytlibmcabpcehcaa", sum := "ea29a9fac46fbcaf1e0387563fed7071dec0b2ecc71e8948fa40d1800b8674dc", func := "leadtrail/leadtraillaw02.CarryQueue", spec := "carryQueue", apart := false, narrowed := true }
def CarryQueueUptoSaid : Prop := carryQueueUptoRow.holds Try.pinned (OpenSpec.upto carryQueueSpec)

/-- 'leadtraillaw02.CarryNil', WHERE WHAT IT READS IS OF BULK AT MOST 1048576: true; the input reads as it did. -/
def carryNilUptoRow : OpenClaim := { program := "ytlibmcabpcehcaa", sum := "ea29a9fac46fbcaf1e0387563fed7071dec0b2ecc71e8948fa40d1800b8674dc", func := "leadtrail/leadtraillaw02.CarryNil", spec := "carryNil", apart := false, narrowed := true }
def CarryNilUptoSaid : Prop := carryNilUptoRow.holds Try.pinned (OpenSpec.upto carryNilSpec)

end Rows
end Go.Proofs.Ytlibmcabpcehcaa
