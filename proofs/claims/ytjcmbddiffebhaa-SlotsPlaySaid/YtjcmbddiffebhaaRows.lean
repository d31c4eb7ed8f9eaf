/-
  No cell of these rows narrows 'for every input' (looked for: loops, veiled, ifaces, maps, wideKeys, modest, calm, conditions, laid).
  DERIVED. THE GIVEN ROWS OF THIS SEAT. 10 by the template 'for every input the law returns true; each argument reads behind the call as it read before'; 0 by the template 'total and deterministic' (their statements: YtjcmbddiffebhaaTotals.lean).
  GIVEN WITH THE SEED: the statements are not yours to turn. If you find one false, say at which input.
  Laid BY PROGRAM, IN A SANDBOX (cutbox-rows.mjs): the forced cells as the released guide's own fill.sh prints them over the translation 5319df1b8dde834d… (all of the seat's roots in one cut). By AI agents, Wed Nov 11 2026. No macro, syntax, notation, axiom, sorry.
-/
import Derived.Test.YtjcmbddiffebhaaChecked
import GoSem.Claim
import GoSem.ClaimJoined
import GoSem.ClaimMapViews
import Derived.JoinedTies
import Derived.KernelRfl
namespace Go.Proofs.Ytjcmbddiffebhaa
/- THE CELL 'sum', in the pinned program and in every row, IS THE sha256 OF THE DUMP (.gsa) THAT YtjcmbddiffebhaaProg.lean LOADS. Nothing in Lean hashes anything: it is a label: what it is worth is what the hold of that sum in a sandbox is worth. -/
noncomputable def Try.pinned : Pinned := { name := "ytjcmbddiffebhaa", sum := "5319df1b8dde834dd58ce16f34827f68eb8a5c31257c27265b11654c40696138", checked := Try.checked }
namespace Rows
def none {H : Type} : Left H := { results := [], args := [] }

/-- 'kedgelaw10.RecencyTouched': WHATEVER THE INPUT: true; the input reads as it did. -/
def recencyTouchedSpec : ChangeSpec := { name := "recencyTouched", fn := fun _ => fun
  | [d1, d2] => { results := [.lit (.bool true)], args := [d1, d2] }
  | _ => none }
def recencyTouchedRow : OpenClaim := { program := "ytjcmbddiffebhaa", sum := "5319df1b8dde834dd58ce16f34827f68eb8a5c31257c27265b11654c40696138", func := "kedge/kedgelaw10.RecencyTouched", spec := "recencyTouched", apart := false }
def RecencyTouchedSaid : Prop := recencyTouchedRow.holds Try.pinned (OpenSpec.ofChange recencyTouchedSpec)

/-- ITS FALSE NEIGHBOUR: 'it returns false'. Refute it at one input. -/
def recencyTouchedWrong : ChangeSpec := { name := "recencyTouched", fn := fun _ => fun
  | [d1, d2] => { results := [.lit (.bool false)], args := [d1, d2] }
  | _ => none }
def RecencyTouchedWrongFalsely : Prop := recencyTouchedRow.holds Try.pinned (OpenSpec.ofChange recencyTouchedWrong)

/-- 'kedgelaw09.SlotsApart': WHATEVER THE INPUT: true; the input reads as it did. -/
def slotsApartSpec : ChangeSpec := { name := "slotsApart", fn := fun _ => fun
  | [d1, d2] => { results := [.lit (.bool true)], args := [d1, d2] }
  | _ => none }
def slotsApartRow : OpenClaim := { program := "ytjcmbddiffebhaa", sum := "5319df1b8dde834dd58ce16f34827f68eb8a5c31257c27265b11654c40696138", func := "kedge/kedgelaw09.SlotsApart", spec := "slotsApart", apart := false }
def SlotsApartSaid : Prop := slotsApartRow.holds Try.pinned (OpenSpec.ofChange slotsApartSpec)

/-- ITS FALSE NEIGHBOUR: 'it returns false'. Refute it at one input. -/
def slotsApartWrong : ChangeSpec := { name := "slotsApart", fn := fun _ => fun
  | [d1, d2] => { results := [.lit (.bool false)], args := [d1, d2] }
  | _ => none }
def SlotsApartWrongFalsely : Prop := slotsApartRow.holds Try.pinned (OpenSpec.ofChange slotsApartWrong)

/-- 'kedgelaw10.RecencyPlays': WHATEVER THE INPUT: true; the input reads as it did. -/
def recencyPlaysSpec : ChangeSpec := { name := "recencyPlays", fn := fun _ => fun
  | [d1, d2, d3] => { results := [.lit (.bool true)], args := [d1, d2, d3] }
  | _ => none }
def recencyPlaysRow : OpenClaim := { program := "ytjcmbddiffebhaa", sum := "5319df1b8dde834dd58ce16f34827f68eb8a5c31257c27265b11654c40696138", func := "kedge/kedgelaw10.RecencyPlays", spec := "recencyPlays", apart := false }
def RecencyPlaysSaid : Prop := recencyPlaysRow.holds Try.pinned (OpenSpec.ofChange recencyPlaysSpec)

/-- ITS FALSE NEIGHBOUR: 'it returns false'. Refute it at one input. -/
def recencyPlaysWrong : ChangeSpec := { name := "recencyPlays", fn := fun _ => fun
  | [d1, d2, d3] => { results := [.lit (.bool false)], args := [d1, d2, d3] }
  | _ => none }
def RecencyPlaysWrongFalsely : Prop := recencyPlaysRow.holds Try.pinned (OpenSpec.ofChange recencyPlaysWrong)

/-- 'kedgelaw10.RecencyNone': WHATEVER THE INPUT: true; the input reads as it did. -/
def recencyNoneSpec : ChangeSpec := { name := "recencyNone", fn := fun _ => fun
  | [d] => { results := [.lit (.bool true)], args := [d] }
  | _ => none }
def recencyNoneRow : OpenClaim := { program := "ytjcmbddiffebhaa", sum := "5319df1b8dde834dd58ce16f34827f68eb8a5c31257c27265b11654c40696138", func := "kedge/kedgelaw10.RecencyNone", spec := "recencyNone", apart := false }
def RecencyNoneSaid : Prop := recencyNoneRow.holds Try.pinned (OpenSpec.ofChange recencyNoneSpec)

/-- ITS FALSE NEIGHBOUR: 'it returns false'. Refute it at one input. -/
def recencyNoneWrong : ChangeSpec := { name := "recencyNone", fn := fun _ => fun
  | [d] => { results := [.lit (.bool false)], args := [d] }
  | _ => none }
def RecencyNoneWrongFalsely : Prop := recencyNoneRow.holds Try.pinned (OpenSpec.ofChange recencyNoneWrong)

/-- 'kedgelaw10.RecencyOrder': WHATEVER THE INPUT: true; the input reads as it did. -/
def recencyOrderSpec : ChangeSpec := { name := "recencyOrder", fn := fun _ => fun
  | [d1, d2] => { results := [.lit (.bool true)], args := [d1, d2] }
  | _ => none }
def recencyOrderRow : OpenClaim := { program := "ytjcmbddiffebhaa", sum := "5319df1b8dde834dd58ce16f34827f68eb8a5c31257c27265b11654c40696138", func := "kedge/kedgelaw10.RecencyOrder", spec := "recencyOrder", apart := false }
def RecencyOrderSaid : Prop := recencyOrderRow.holds Try.pinned (OpenSpec.ofChange recencyOrderSpec)

/-- ITS FALSE NEIGHBOUR: 'it returns false'. Refute it at one input. -/
def recencyOrderWrong : ChangeSpec := { name := "recencyOrder", fn := fun _ => fun
  | [d1, d2] => { results := [.lit (.bool false)], args := [d1, d2] }
  | _ => none }
def RecencyOrderWrongFalsely : Prop := recencyOrderRow.holds Try.pinned (OpenSpec.ofChange recencyOrderWrong)

/-- 'kedgelaw10.RecencyDrains': WHATEVER THE INPUT: true; the input reads as it did. -/
def recencyDrainsSpec : ChangeSpec := { name := "recencyDrains", fn := fun _ => fun
  | [d1, d2] => { results := [.lit (.bool true)], args := [d1, d2] }
  | _ => none }
def recencyDrainsRow : OpenClaim := { program := "ytjcmbddiffebhaa", sum := "5319df1b8dde834dd58ce16f34827f68eb8a5c31257c27265b11654c40696138", func := "kedge/kedgelaw10.RecencyDrains", spec := "recencyDrains", apart := false }
def RecencyDrainsSaid : Prop := recencyDrainsRow.holds Try.pinned (OpenSpec.ofChange recencyDrainsSpec)

/-- ITS FALSE NEIGHBOUR: 'it returns false'. Refute it at one input. -/
def recencyDrainsWrong : ChangeSpec := { name := "recencyDrains", fn := fun _ => fun
  | [d1, d2] => { results := [.lit (.bool false)], args := [d1, d2] }
  | _ => none }
def RecencyDrainsWrongFalsely : Prop := recencyDrainsRow.holds Try.pinned (OpenSpec.ofChange recencyDrainsWrong)

/-- 'kedgelaw09.SlotsNext': WHATEVER THE INPUT: true; the input reads as it did. -/
def slotsNextSpec : ChangeSpec := { name := "slotsNext", fn := fun _ => fun
  | [d1, d2, d3] => { results := [.lit (.bool true)], args := [d1, d2, d3] }
  | _ => none }
def slotsNextRow : OpenClaim := { program := "ytjcmbddiffebhaa", sum := "5319df1b8dde834dd58ce16f34827f68eb8a5c31257c27265b11654c40696138", func := "kedge/kedgelaw09.SlotsNext", spec := "slotsNext", apart := false }
def SlotsNextSaid : Prop := slotsNextRow.holds Try.pinned (OpenSpec.ofChange slotsNextSpec)

/-- ITS FALSE NEIGHBOUR: 'it returns false'. Refute it at one input. -/
def slotsNextWrong : ChangeSpec := { name := "slotsNext", fn := fun _ => fun
  | [d1, d2, d3] => { results := [.lit (.bool false)], args := [d1, d2, d3] }
  | _ => none }
def SlotsNextWrongFalsely : Prop := slotsNextRow.holds Try.pinned (OpenSpec.ofChange slotsNextWrong)

/-- 'kedgelaw09.SlotsPlay': WHATEVER THE INPUT: true; the input reads as it did. -/
def slotsPlaySpec : ChangeSpec := { name := "slotsPlay", fn := fun _ => fun
  | [d1, d2, d3] => { results := [.lit (.bool true)], args := [d1, d2, d3] }
  | _ => none }
def slotsPlayRow : OpenClaim := { program := "ytjcmbddiffebhaa", sum := "5319df1b8dde834dd58ce16f34827f68eb8a5c31257c27265b11654c40696138", func := "kedge/kedgelaw09.SlotsPlay", spec := "slotsPlay", apart := false }
def SlotsPlaySaid : Prop := slotsPlayRow.holds Try.pinned (OpenSpec.ofChange slotsPlaySpec)

/-- ITS FALSE NEIGHBOUR: 'it returns false'. Refute it at one input. -/
def slotsPlayWrong : ChangeSpec := { name := "slotsPlay", fn := fun _ => fun
  | [d1, d2, d3] => { results := [.lit (.bool false)], args := [d1, d2, d3] }
  | _ => none }
def SlotsPlayWrongFalsely : Prop := slotsPlayRow.holds Try.pinned (OpenSpec.ofChange slotsPlayWrong)

/-- 'kedgelaw09.SlotsNone': WHATEVER THE INPUT: true; the input reads as it did. -/
def slotsNoneSpec : ChangeSpec := { name := "slotsNone", fn := fun _ => fun
  | [d1, d2] => { results := [.lit (.bool true)], args := [d1, d2] }
  | _ => none }
def slotsNoneRow : OpenClaim := { program := "ytjcmbddiffebhaa", sum := "5319df1b8dde834dd58ce16f34827f68eb8a5c31257c27265b11654c40696138", func := "kedge/kedgelaw09.SlotsNone", spec := "slotsNone", apart := false }
def SlotsNoneSaid : Prop := slotsNoneRow.holds Try.pinned (OpenSpec.ofChange slotsNoneSpec)

/-- ITS FALSE NEIGHBOUR: 'it returns false'. Refute it at one input. -/
def slotsNoneWrong : ChangeSpec := { name := "slotsNone", fn := fun _ => fun
  | [d1, d2] => { results := [.lit (.bool false)], args := [d1, d2] }
  | _ => none }
def SlotsNoneWrongFalsely : Prop := slotsNoneRow.holds Try.pinned (OpenSpec.ofChange slotsNoneWrong)

/-- 'kedgelaw09.SlotsUsed': WHATEVER THE INPUT: true; the input reads as it did. -/
def slotsUsedSpec : ChangeSpec := { name := "slotsUsed", fn := fun _ => fun
  | [d1, d2] => { results := [.lit (.bool true)], args := [d1, d2] }
  | _ => none }
def slotsUsedRow : OpenClaim := { program := "ytjcmbddiffebhaa", sum := "5319df1b8dde834dd58ce16f34827f68eb8a5c31257c27265b11654c40696138", func := "kedge/kedgelaw09.SlotsUsed", spec := "slotsUsed", apart := false }
def SlotsUsedSaid : Prop := slotsUsedRow.holds Try.pinned (OpenSpec.ofChange slotsUsedSpec)

/-- ITS FALSE NEIGHBOUR: 'it returns false'. Refute it at one input. -/
def slotsUsedWrong : ChangeSpec := { name := "slotsUsed", fn := fun _ => fun
  | [d1, d2] => { results := [.lit (.bool false)], args := [d1, d2] }
  | _ => none }
def SlotsUsedWrongFalsely : Prop := slotsUsedRow.holds Try.pinned (OpenSpec.ofChange slotsUsedWrong)

/- THE SECOND FORM. 'bulk': how many values and letters a reading holds, each counted each time it is reached (what is shared counts as often as it is met; a slice's spare places count too). A statement '..UptoSaid' is the law's where the arguments, and the package variables that the reading takes, are together of bulk at most 1048576: NARROWER than '..Said'. Prove '..Said' where nothing that the law and all that it calls make is longer than what came in: it says more and counts as full. Else prove '..UptoSaid'. A law counts once. -/
mutual
def uptoBulk {H : Type} : DataW H → Nat
  | .lit (.string bytes) => bytes.length + 1
  | .lit _ => 1
  | .nil => 1
  | .ptr d => uptoBulk d + 1
  | .slice elems spare => uptoBulkAll elems + uptoBulkAll spare + 1
  | .agg parts => uptoBulkAll parts + 1
  | .iface _ d => uptoBulk d + 1
  | .map entries => uptoBulkEntries entries + 1
  | .held _ => 1
def uptoBulkAll {H : Type} : List (DataW H) → Nat
  | [] => 0
  | d :: r => uptoBulk d + uptoBulkAll r
def uptoBulkEntries {H : Type} : List (Lit × DataW H) → Nat
  | [] => 0
  | x :: r => uptoBulkEntry x + uptoBulkEntries r
def uptoBulkEntry {H : Type} : Lit × DataW H → Nat
  | (.string bytes, d) => bytes.length + uptoBulk d + 1
  | (_, d) => uptoBulk d + 1
 end
def uptoSmall : (H : Type) → List (DataW H) → Bool := fun _ ds => decide (uptoBulkAll ds ≤ 1048576)
def OpenSpec.upto (s : _root_.Go.ChangeSpec) : _root_.Go.OpenSpec := { _root_.Go.OpenSpec.ofChange s with cond := some uptoSmall }

/-- 'kedgelaw10.RecencyTouched', WHERE WHAT IT READS IS OF BULK AT MOST 1048576: true; the input reads as it did. -/
def recencyTouchedUptoRow : OpenClaim := { program := "ytjcmbddiffebhaa", sum := "5319df1b8dde834dd58ce16f34827f68eb8a5c31257c27265b11654c40696138", func := "kedge/kedgelaw10.RecencyTouched", spec := "recencyTouched", apart := false, narrowed := true }
def RecencyTouchedUptoSaid : Prop := recencyTouchedUptoRow.holds Try.pinned (OpenSpec.upto recencyTouchedSpec)

/-- 'kedgelaw09.SlotsApart', WHERE WHAT IT READS IS OF BULK AT MOST 1048576: true; the input reads as it did. -/
def slotsApartUptoRow : OpenClaim := { program := "ytjcmbddiffebhaa", sum := "5319df1b8dde834dd58ce16f34827f68eb8a5c31257c27265b11654c40696138", func := "kedge/kedgelaw09.SlotsApart", spec := "slotsApart", apart := false, narrowed := true }
def SlotsApartUptoSaid : Prop := slotsApartUptoRow.holds Try.pinned (OpenSpec.upto slotsApartSpec)

/-- 'kedgelaw10.RecencyPlays', WHERE WHAT IT READS IS OF BULK AT MOST 1048576: true; the input reads as it did. -/
def recencyPlaysUptoRow : OpenClaim := { program := "ytjcmbddiffebhaa", sum := "5319df1b8dde834dd58ce16f34827f68eb8a5c31257c27265b11654c40696138", func := "kedge/kedgelaw10.RecencyPlays", spec := "recencyPlays", apart := false, narrowed := true }
def RecencyPlaysUptoSaid : Prop := recencyPlaysUptoRow.holds Try.pinned (OpenSpec.upto recencyPlaysSpec)

/-- 'kedgelaw10.RecencyNone', WHERE WHAT IT READS IS OF BULK AT MOST 1048576: true; the input reads as it did. -/
def recencyNoneUptoRow : OpenClaim := { program := "ytjcmbddiffebhaa", sum := "5319df1b8dde834dd58ce16f34827f68eb8a5c31257c27265b11654c40696138", func := "kedge/kedgelaw10.RecencyNone", spec := "recencyNone", apart := false, narrowed := true }
def RecencyNoneUptoSaid : Prop := recencyNoneUptoRow.holds Try.pinned (OpenSpec.upto recencyNoneSpec)

/-- 'kedgelaw10.RecencyOrder', WHERE WHAT IT READS IS OF BULK AT MOST 1048576: true; the input reads as it did. -/
def recencyOrderUptoRow : OpenClaim := { program := "ytjcmbddiffebhaa", sum := "5319df1b8dde834dd58ce16f34827f68eb8a5c31257c27265b11654c40696138", func := "kedge/kedgelaw10.RecencyOrder", spec := "recencyOrder", apart := false, narrowed := true }
def RecencyOrderUptoSaid : Prop := recencyOrderUptoRow.holds Try.pinned (OpenSpec.upto recencyOrderSpec)

/-- 'kedgelaw10.RecencyDrains', WHERE WHAT IT READS IS OF BULK AT MOST 1048576: true; the input reads as it did. -/
def recencyDrainsUptoRow : OpenClaim := { program := "ytjcmbddiffebhaa", sum := "5319df1b8dde834dd58ce16f34827f68eb8a5c31257c27265b11654c40696138", func := "kedge/kedgelaw10.RecencyDrains", spec := "recencyDrains", apart := false, narrowed := true }
def RecencyDrainsUptoSaid : Prop := recencyDrainsUptoRow.holds Try.pinned (OpenSpec.upto recencyDrainsSpec)

/-- 'kedgelaw09.SlotsNext', WHERE WHAT IT READS IS OF BULK AT MOST 1048576: true; the input reads as it did. -/
def slotsNextUptoRow : OpenClaim := { program := "ytjcmbddiffebhaa", sum := "5319df1b8dde834dd58ce16f34827f68eb8a5c31257c27265b11654c40696138", func := "kedge/kedgelaw09.SlotsNext", spec := "slotsNext", apart := false, narrowed := true }
def SlotsNextUptoSaid : Prop := slotsNextUptoRow.holds Try.pinned (OpenSpec.upto slotsNextSpec)

/-- 'kedgelaw09.SlotsPlay', WHERE WHAT IT READS IS OF BULK AT MOST 1048576: true; the input reads as it did. -/
def slotsPlayUptoRow : OpenClaim := { program := "ytjcmbddiffebhaa", sum := "5319df1b8dde834dd58ce16f34827f68eb8a5c31257c27265b11654c40696138", func := "kedge/kedgelaw09.SlotsPlay", spec := "slotsPlay", apart := false, narrowed := true }
def SlotsPlayUptoSaid : Prop := slotsPlayUptoRow.holds Try.pinned (OpenSpec.upto slotsPlaySpec)

/-- 'kedgelaw09.SlotsNone', WHERE WHAT IT READS IS OF BULK AT MOST 1048576: true; the input reads as it did. -/
def slotsNoneUptoRow : OpenClaim := { program := "ytjcmbddiffebhaa", sum := "5319df1b8dde834dd58ce16f34827f68eb8a5c31257c27265b11654c40696138", func := "kedge/kedgelaw09.SlotsNone", spec := "slotsNone", apart := false, narrowed := true }
def SlotsNoneUptoSaid : Prop := slotsNoneUptoRow.holds Try.pinned (OpenSpec.upto slotsNoneSpec)

/-- 'kedgelaw09.SlotsUsed', WHERE WHAT IT READS IS OF BULK AT MOST 1048576: true; the input reads as it did. -/
def slotsUsedUptoRow : OpenClaim := { program := "ytjcmbddiffebhaa", sum := "5319df1b8dde834dd58ce16f34827f68eb8a5c31257c27265b11654c40696138", func := "kedge/kedgelaw09.SlotsUsed", spec := "slotsUsed", apart := false, narrowed := true }
def SlotsUsedUptoSaid : Prop := slotsUsedUptoRow.holds Try.pinned (OpenSpec.upto slotsUsedSpec)

end Rows
end Go.Proofs.Ytjcmbddiffebhaa
