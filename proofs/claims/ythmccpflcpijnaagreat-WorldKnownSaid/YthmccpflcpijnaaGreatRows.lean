/-
  No cell of these rows narrows 'for every input' (looked for: loops, veiled, ifaces, maps, wideKeys, modest, calm, conditions, laid).
  DERIVED. THE GIVEN ROWS OF THIS SEAT. 4 by the template 'for every input the law returns true; each argument reads behind the call as it read before'; 0 by the template 'total and deterministic' (their statements: YthmccpflcpijnaaGreatTotals.lean).
  GIVEN WITH THE SEED: the statements are not yours to turn. If you find one false, say at which input.
  Laid BY PROGRAM, IN A SANDBOX (cutbox-rows.mjs): the forced cells as the released guide's own fill.sh prints them over the translation 4deb30042afc239f… (all of the seat's roots in one cut). By AI agents, Wed Nov 11 2026. No macro, syntax, notation, axiom, sorry.
-/
import Derived.Test.YthmccpflcpijnaaGreatChecked
import GoSem.Claim
import GoSem.ClaimJoined
import GoSem.ClaimMapViews
import Derived.JoinedTies
import Derived.KernelRfl
namespace Go.Proofs.YthmccpflcpijnaaGreat
/- THE CELL 'sum', in the pinned program and in every row, IS THE sha256 OF THE DUMP (.gsa) THAT YthmccpflcpijnaaGreatProg.lean LOADS. Nothing in Lean hashes anything: it is a label: what it is worth is what the hold of that sum in a sandbox is worth. -/
noncomputable def Tryz.pinned : Pinned := { name := "ythmccpflcpijnaagreat", sum := "4deb30042afc239f938f4cc40bff8379c24c1bf385408da910fa80e854d1cc6e", checked := Tryz.checked }
namespace Rows
def none {H : Type} : Left H := { results := [], args := [] }

/-- 'stadholderlaw23.SysKnown': WHATEVER THE INPUT: true; the input reads as it did. -/
def sysKnownSpec : ChangeSpec := { name := "sysKnown", fn := fun _ => fun
  | [] => { results := [.lit (.bool true)], args := [] }
  | _ => none }
def sysKnownRow : OpenClaim := { program := "ythmccpflcpijnaagreat", sum := "4deb30042afc239f938f4cc40bff8379c24c1bf385408da910fa80e854d1cc6e", func := "stadholder/stadholderlaw23.SysKnown", spec := "sysKnown", unfollowed := true, recurses := true, apart := false }
def SysKnownSaid : Prop := sysKnownRow.holds Tryz.pinned (OpenSpec.ofChange sysKnownSpec)

/-- ITS FALSE NEIGHBOUR: 'it returns false'. Refute it at one input. -/
def sysKnownWrong : ChangeSpec := { name := "sysKnown", fn := fun _ => fun
  | [] => { results := [.lit (.bool false)], args := [] }
  | _ => none }
def SysKnownWrongFalsely : Prop := sysKnownRow.holds Tryz.pinned (OpenSpec.ofChange sysKnownWrong)

/-- 'stadholderlaw26.FateKnown': WHATEVER THE INPUT: true; the input reads as it did. -/
def fateKnownSpec : ChangeSpec := { name := "fateKnown", fn := fun _ => fun
  | [] => { results := [.lit (.bool true)], args := [] }
  | _ => none }
def fateKnownRow : OpenClaim := { program := "ythmccpflcpijnaagreat", sum := "4deb30042afc239f938f4cc40bff8379c24c1bf385408da910fa80e854d1cc6e", func := "stadholder/stadholderlaw26.FateKnown", spec := "fateKnown", unfollowed := true, recurses := true, apart := false }
def FateKnownSaid : Prop := fateKnownRow.holds Tryz.pinned (OpenSpec.ofChange fateKnownSpec)

/-- ITS FALSE NEIGHBOUR: 'it returns false'. Refute it at one input. -/
def fateKnownWrong : ChangeSpec := { name := "fateKnown", fn := fun _ => fun
  | [] => { results := [.lit (.bool false)], args := [] }
  | _ => none }
def FateKnownWrongFalsely : Prop := fateKnownRow.holds Tryz.pinned (OpenSpec.ofChange fateKnownWrong)

/-- 'stadholderlaw24.SwapKnown': WHATEVER THE INPUT: true; the input reads as it did. -/
def swapKnownSpec : ChangeSpec := { name := "swapKnown", fn := fun _ => fun
  | [] => { results := [.lit (.bool true)], args := [] }
  | _ => none }
def swapKnownRow : OpenClaim := { program := "ythmccpflcpijnaagreat", sum := "4deb30042afc239f938f4cc40bff8379c24c1bf385408da910fa80e854d1cc6e", func := "stadholder/stadholderlaw24.SwapKnown", spec := "swapKnown", unfollowed := true, recurses := true, apart := false }
def SwapKnownSaid : Prop := swapKnownRow.holds Tryz.pinned (OpenSpec.ofChange swapKnownSpec)

/-- ITS FALSE NEIGHBOUR: 'it returns false'. Refute it at one input. -/
def swapKnownWrong : ChangeSpec := { name := "swapKnown", fn := fun _ => fun
  | [] => { results := [.lit (.bool false)], args := [] }
  | _ => none }
def SwapKnownWrongFalsely : Prop := swapKnownRow.holds Tryz.pinned (OpenSpec.ofChange swapKnownWrong)

/-- 'stadholderlaw27.WorldKnown': WHATEVER THE INPUT: true; the input reads as it did. -/
def worldKnownSpec : ChangeSpec := { name := "worldKnown", fn := fun _ => fun
  | [] => { results := [.lit (.bool true)], args := [] }
  | _ => none }
def worldKnownRow : OpenClaim := { program := "ythmccpflcpijnaagreat", sum := "4deb30042afc239f938f4cc40bff8379c24c1bf385408da910fa80e854d1cc6e", func := "stadholder/stadholderlaw27.WorldKnown", spec := "worldKnown", unfollowed := true, recurses := true, apart := false }
def WorldKnownSaid : Prop := worldKnownRow.holds Tryz.pinned (OpenSpec.ofChange worldKnownSpec)

/-- ITS FALSE NEIGHBOUR: 'it returns false'. Refute it at one input. -/
def worldKnownWrong : ChangeSpec := { name := "worldKnown", fn := fun _ => fun
  | [] => { results := [.lit (.bool false)], args := [] }
  | _ => none }
def WorldKnownWrongFalsely : Prop := worldKnownRow.holds Tryz.pinned (OpenSpec.ofChange worldKnownWrong)

/- THE SECOND FORM. 'bulk': how many values and letters a reading holds, each counted each time it is reached (what is shared counts as often as it is met; a slice's spare places count too). A statement '..UptoSaid' is the law's where the arguments, and the package variables that the reading takes, are together of bulk at most 1048576: NARROWER than '..Said'. Prove '..Said' where nothing that the law and all that it calls make is longer than what came in: it says more and counts as full. Else prove '..UptoSaid'. A law counts once. -/
mutual
def uptoBulk {H : Type} : DataW H → Nat
  | .lit (.string bytes) => bytes.length + 1
  | .lit _ => 1
  | .nil => 1
  | .ptr d => uptoBulk d + 1
  | .slice elems spare => uptoBulkAll elems + uptoBulkAll spare + 1
  | .agg parts => uptoBulkAll parts + 1
  | .iface _ d => uptoBulk d + 1
  | .map entries => uptoBulkEntries entries + 1
  | .held _ => 1
def uptoBulkAll {H : Type} : List (DataW H) → Nat
  | [] => 0
  | d :: r => uptoBulk d + uptoBulkAll r
def uptoBulkEntries {H : Type} : List (Lit × DataW H) → Nat
  | [] => 0
  | x :: r => uptoBulkEntry x + uptoBulkEntries r
def uptoBulkEntry {H : Type} : Lit × DataW H → Nat
  | (.string bytes, d) => bytes.length + uptoBulk d + 1
  | (_, d) => uptoBulk d + 1
 end
def uptoSmall : (H : Type) → List (DataW H) → Bool := fun _ ds => decide (uptoBulkAll ds ≤ 1048576)
def OpenSpec.upto (s : _root_.Go.ChangeSpec) : _root_.Go.OpenSpec := { _root_.Go.OpenSpec.ofChange s with cond := some uptoSmall }

/-- 'stadholderlaw23.SysKnown', WHERE WHAT IT READS IS OF BULK AT MOST 1048576: true; the input reads as it did. -/
def sysKnownUptoRow : OpenClaim := { program := "ythmccpflcpijnaagreat", sum := "4deb30042afc239f938f4cc40bff8379c24c1bf385408da910fa80e854d1cc6e", func := "stadholder/stadholderlaw23.SysKnown", spec := "sysKnown", unfollowed := true, recurses := true, apart := false, narrowed := true }
def SysKnownUptoSaid : Prop := sysKnownUptoRow.holds Tryz.pinned (OpenSpec.upto sysKnownSpec)

/-- 'stadholderlaw26.FateKnown', WHERE WHAT IT READS IS OF BULK AT MOST 1048576: true; the input reads as it did. -/
def fateKnownUptoRow : OpenClaim := { program := "ythmccpflcpijnaagreat", sum := "4deb30042afc239f938f4cc40bff8379c24c1bf385408da910fa80e854d1cc6e", func := "stadholder/stadholderlaw26.FateKnown", spec := "fateKnown", unfollowed := true, recurses := true, apart := false, narrowed := true }
def FateKnownUptoSaid : Prop := fateKnownUptoRow.holds Tryz.pinned (OpenSpec.upto fateKnownSpec)

/-- 'stadholderlaw24.SwapKnown', WHERE WHAT IT READS IS OF BULK AT MOST 1048576: true; the input reads as it did. -/
def swapKnownUptoRow : OpenClaim := { program := "ythmccpflcpijnaagreat", sum := "4deb30042afc239f938f4cc40bff8379c24c1bf385408da910fa80e854d1cc6e", func := "stadholder/stadholderlaw24.SwapKnown", spec := "swapKnown", unfollowed := true, recurses := true, apart := false, narrowed := true }
def SwapKnownUptoSaid : Prop := swapKnownUptoRow.holds Tryz.pinned (OpenSpec.upto swapKnownSpec)

/-- 'stadholderlaw27.WorldKnown', WHERE WHAT IT READS IS OF BULK AT MOST 1048576: true; the input reads as it did. -/
def worldKnownUptoRow : OpenClaim := { program := "ythmccpflcpijnaagreat", sum := "4deb30042afc239f938f4cc40bff8379c24c1bf385408da910fa80e854d1cc6e", func := "stadholder/stadholderlaw27.WorldKnown", spec := "worldKnown", unfollowed := true, recurses := true, apart := false, narrowed := true }
def WorldKnownUptoSaid : Prop := worldKnownUptoRow.holds Tryz.pinned (OpenSpec.upto worldKnownSpec)

end Rows
end Go.Proofs.YthmccpflcpijnaaGreat
