/-
  No cell of these rows narrows 'for every input' (looked for: loops, veiled, ifaces, maps, wideKeys, modest, calm, conditions, laid).
  DERIVED. THE GIVEN ROWS OF THIS SEAT. 6 by the template 'for every input the law returns true; each argument reads behind the call as it read before'; 0 by the template 'total and deterministic' (their statements: YtjnbanjmehkifaaTotals.lean).
  GIVEN WITH THE SEED: the statements are not yours to turn. If you find one false, say at which input.
  Laid BY PROGRAM, IN A SANDBOX (cutbox-rows.mjs): the forced cells as the released guide's own fill.sh prints them over the translation 4463c69d4bed2a92… (all of the seat's roots in one cut). By AI agents, Wed Nov 11 2026. No macro, syntax, notation, axiom, sorry.
-/
import Derived.Test.YtjnbanjmehkifaaChecked
import GoSem.Claim
import GoSem.ClaimJoined
import GoSem.ClaimMapViews
import Derived.JoinedTies
import Derived.KernelRfl
namespace Go.Proofs.Ytjnbanjmehkifaa
/- THE CELL 'sum', in the pinned program and in every row, IS THE sha256 OF THE DUMP (.gsa) THAT YtjnbanjmehkifaaProg.lean LOADS. Nothing in Lean hashes anything: it is a label: what it is worth is what the hold of that sum in a sandbox is worth. -/
noncomputable def Try.pinned : Pinned := { name := "ytjnbanjmehkifaa", sum := "4463c69d4bed2a928a4d80376eb3d366b190f00df5cd53951bd013efd2bf18dd", checked := Try.checked }
namespace Rows
def none {H : Type} : Left H := { results := [], args := [] }

/-- 'estafettelaw01.DiskPlays': WHATEVER THE INPUT: true; the input reads as it did. -/
def diskPlaysSpec : ChangeSpec := { name := "diskPlays", fn := fun _ => fun
  | [d1, d2] => { results := [.lit (.bool true)], args := [d1, d2] }
  | _ => none }
def diskPlaysRow : OpenClaim := { program := "ytjnbanjmehkifaa", sum := "4463c69d4bed2a928a4d80376eb3d366b190f00df5cd53951bd013efd2bf18dd", func := "estafette/estafettelaw01.DiskPlays", spec := "diskPlays", inPlace := ["maps.clone"], apart := false }
def DiskPlaysSaid : Prop := diskPlaysRow.holds Try.pinned (OpenSpec.ofChange diskPlaysSpec)

/-- ITS FALSE NEIGHBOUR: 'it returns false'. Refute it at one input. -/
def diskPlaysWrong : ChangeSpec := { name := "diskPlays", fn := fun _ => fun
  | [d1, d2] => { results := [.lit (.bool false)], args := [d1, d2] }
  | _ => none }
def DiskPlaysWrongFalsely : Prop := diskPlaysRow.holds Try.pinned (OpenSpec.ofChange diskPlaysWrong)

/-- 'estafettelaw03.CachePlays': WHATEVER THE INPUT: true; the input reads as it did. -/
def cachePlaysSpec : ChangeSpec := { name := "cachePlays", fn := fun _ => fun
  | [d1, d2] => { results := [.lit (.bool true)], args := [d1, d2] }
  | _ => none }
def cachePlaysRow : OpenClaim := { program := "ytjnbanjmehkifaa", sum := "4463c69d4bed2a928a4d80376eb3d366b190f00df5cd53951bd013efd2bf18dd", func := "estafette/estafettelaw03.CachePlays", spec := "cachePlays", unfollowed := true, recurses := true, apart := false }
def CachePlaysSaid : Prop := cachePlaysRow.holds Try.pinned (OpenSpec.ofChange cachePlaysSpec)

/-- ITS FALSE NEIGHBOUR: 'it returns false'. Refute it at one input. -/
def cachePlaysWrong : ChangeSpec := { name := "cachePlays", fn := fun _ => fun
  | [d1, d2] => { results := [.lit (.bool false)], args := [d1, d2] }
  | _ => none }
def CachePlaysWrongFalsely : Prop := cachePlaysRow.holds Try.pinned (OpenSpec.ofChange cachePlaysWrong)

/-- 'estafettelaw05.InodeCosts': WHATEVER THE INPUT: true; the input reads as it did. -/
def inodeCostsSpec : ChangeSpec := { name := "inodeCosts", fn := fun _ => fun
  | [d1, d2, d3] => { results := [.lit (.bool true)], args := [d1, d2, d3] }
  | _ => none }
def inodeCostsRow : OpenClaim := { program := "ytjnbanjmehkifaa", sum := "4463c69d4bed2a928a4d80376eb3d366b190f00df5cd53951bd013efd2bf18dd", func := "estafette/estafettelaw05.InodeCosts", spec := "inodeCosts", unfollowed := true, recurses := true, apart := false }
def InodeCostsSaid : Prop := inodeCostsRow.holds Try.pinned (OpenSpec.ofChange inodeCostsSpec)

/-- ITS FALSE NEIGHBOUR: 'it returns false'. Refute it at one input. -/
def inodeCostsWrong : ChangeSpec := { name := "inodeCosts", fn := fun _ => fun
  | [d1, d2, d3] => { results := [.lit (.bool false)], args := [d1, d2, d3] }
  | _ => none }
def InodeCostsWrongFalsely : Prop := inodeCostsRow.holds Try.pinned (OpenSpec.ofChange inodeCostsWrong)

/-- 'estafettelaw05.InodeFull': WHATEVER THE INPUT: true; the input reads as it did. -/
def inodeFullSpec : ChangeSpec := { name := "inodeFull", fn := fun _ => fun
  | [d1, d2, d3] => { results := [.lit (.bool true)], args := [d1, d2, d3] }
  | _ => none }
def inodeFullRow : OpenClaim := { program := "ytjnbanjmehkifaa", sum := "4463c69d4bed2a928a4d80376eb3d366b190f00df5cd53951bd013efd2bf18dd", func := "estafette/estafettelaw05.InodeFull", spec := "inodeFull", unfollowed := true, recurses := true, apart := false }
def InodeFullSaid : Prop := inodeFullRow.holds Try.pinned (OpenSpec.ofChange inodeFullSpec)

/-- ITS FALSE NEIGHBOUR: 'it returns false'. Refute it at one input. -/
def inodeFullWrong : ChangeSpec := { name := "inodeFull", fn := fun _ => fun
  | [d1, d2, d3] => { results := [.lit (.bool false)], args := [d1, d2, d3] }
  | _ => none }
def InodeFullWrongFalsely : Prop := inodeFullRow.holds Try.pinned (OpenSpec.ofChange inodeFullWrong)

/-- 'estafettelaw05.InodeApart': WHATEVER THE INPUT: true; the input reads as it did. -/
def inodeApartSpec : ChangeSpec := { name := "inodeApart", fn := fun _ => fun
  | [d1, d2, d3] => { results := [.lit (.bool true)], args := [d1, d2, d3] }
  | _ => none }
def inodeApartRow : OpenClaim := { program := "ytjnbanjmehkifaa", sum := "4463c69d4bed2a928a4d80376eb3d366b190f00df5cd53951bd013efd2bf18dd", func := "estafette/estafettelaw05.InodeApart", spec := "inodeApart", unfollowed := true, recurses := true, apart := false }
def InodeApartSaid : Prop := inodeApartRow.holds Try.pinned (OpenSpec.ofChange inodeApartSpec)

/-- ITS FALSE NEIGHBOUR: 'it returns false'. Refute it at one input. -/
def inodeApartWrong : ChangeSpec := { name := "inodeApart", fn := fun _ => fun
  | [d1, d2, d3] => { results := [.lit (.bool false)], args := [d1, d2, d3] }
  | _ => none }
def InodeApartWrongFalsely : Prop := inodeApartRow.holds Try.pinned (OpenSpec.ofChange inodeApartWrong)

/-- 'estafettelaw05.InodeGaps': WHATEVER THE INPUT: true; the input reads as it did. -/
def inodeGapsSpec : ChangeSpec := { name := "inodeGaps", fn := fun _ => fun
  | [d1, d2, d3] => { results := [.lit (.bool true)], args := [d1, d2, d3] }
  | _ => none }
def inodeGapsRow : OpenClaim := { program := "ytjnbanjmehkifaa", sum := "4463c69d4bed2a928a4d80376eb3d366b190f00df5cd53951bd013efd2bf18dd", func := "estafette/estafettelaw05.InodeGaps", spec := "inodeGaps", unfollowed := true, recurses := true, apart := false }
def InodeGapsSaid : Prop := inodeGapsRow.holds Try.pinned (OpenSpec.ofChange inodeGapsSpec)

/-- ITS FALSE NEIGHBOUR: 'it returns false'. Refute it at one input. -/
def inodeGapsWrong : ChangeSpec := { name := "inodeGaps", fn := fun _ => fun
  | [d1, d2, d3] => { results := [.lit (.bool false)], args := [d1, d2, d3] }
  | _ => none }
def InodeGapsWrongFalsely : Prop := inodeGapsRow.holds Try.pinned (OpenSpec.ofChange inodeGapsWrong)

/- THE SECOND FORM. 'bulk': how many values and letters a reading holds, each counted each time it is reached (what is shared counts as often as it is met; a slice's spare places count too). A statement '..UptoSaid' is the law's where the arguments, and the package variables that the reading takes, are together of bulk at most 1048576: NARROWER than '..Said'. Prove '..Said' where nothing that the law and all that it calls make is longer than what came in: it says more and counts as full. Else prove '..UptoSaid'. A law counts once. -/
mutual
def uptoBulk {H : Type} : DataW H → Nat
  | .lit (.string bytes) => bytes.length + 1
  | .lit _ => 1
  | .nil => 1
  | .ptr d => uptoBulk d + 1
  | .slice elems spare => uptoBulkAll elems + uptoBulkAll spare + 1
  | .agg parts => uptoBulkAll parts + 1
  | .iface _ d => uptoBulk d + 1
  | .map entries => uptoBulkEntries entries + 1
  | .held _ => 1
def uptoBulkAll {H : Type} : List (DataW H) → Nat
  | [] => 0
  | d :: r => uptoBulk d + uptoBulkAll r
def uptoBulkEntries {H : Type} : List (Lit × DataW H) → Nat
  | [] => 0
  | x :: r => uptoBulkEntry x + uptoBulkEntries r
def uptoBulkEntry {H : Type} : Lit × DataW H → Nat
  | (.string bytes, d) => bytes.length + uptoBulk d + 1
  | (_, d) => uptoBulk d + 1
 end
def uptoSmall : (H : Type) → List (DataW H) → Bool := fun _ ds => decide (uptoBulkAll ds ≤ 1048576)
def OpenSpec.upto (s : _root_.Go.ChangeSpec) : _root_.Go.OpenSpec := { _root_.Go.OpenSpec.ofChange s with cond := some uptoSmall }

/-- 'estafettelaw01.DiskPlays', WHERE WHAT IT READS IS OF BULK AT MOST 1048576: true; the input reads as it did. -/
def diskPlaysUptoRow : OpenClaim := { program := "ytjnbanjmehkifaa", sum := "4463c69d4bed2a928a4d80376eb3d366b190f00df5cd53951bd013efd2bf18dd", func := "estafette/estafettelaw01.DiskPlays", spec := "diskPlays", inPlace := ["maps.clone"], apart := false, narrowed := true }
def DiskPlaysUptoSaid : Prop := diskPlaysUptoRow.holds Try.pinned (OpenSpec.upto diskPlaysSpec)

/-- 'estafettelaw03.CachePlays', WHERE WHAT IT READS IS OF BULK AT MOST 1048576: true; the input reads as it did. -/
def cachePlaysUptoRow : OpenClaim := { program := "ytjnbanjmehkifaa", sum := "4463c69d4bed2a928a4d80376eb3d366b190f00df5cd53951bd013efd2bf18dd", func := "estafette/estafettelaw03.CachePlays", spec := "cachePlays", unfollowed := true, recurses := true, apart := false, narrowed := true }
def CachePlaysUptoSaid : Prop := cachePlaysUptoRow.holds Try.pinned (OpenSpec.upto cachePlaysSpec)

/-- 'estafettelaw05.InodeCosts', WHERE WHAT IT READS IS OF BULK AT MOST 1048576: true; the input reads as it did. -/
def inodeCostsUptoRow : OpenClaim := { program := "ytjnbanjmehkifaa", sum := "4463c69d4bed2a928a4d80376eb3d366b190f00df5cd53951bd013efd2bf18dd", func := "estafette/estafettelaw05.InodeCosts", spec := "inodeCosts", unfollowed := true, recurses := true, apart := false, narrowed := true }
def InodeCostsUptoSaid : Prop := inodeCostsUptoRow.holds Try.pinned (OpenSpec.upto inodeCostsSpec)

/-- 'estafettelaw05.InodeFull', WHERE WHAT IT READS IS OF BULK AT MOST 1048576: true; the input reads as it did. -/
def inodeFullUptoRow : OpenClaim := { program := "ytjnbanjmehkifaa", sum := "4463c69d4bed2a928a4d80376eb3d366b190f00df5cd53951bd013efd2bf18dd", func := "estafette/estafettelaw05.InodeFull", spec := "inodeFull", unfollowed := true, recurses := true, apart := false, narrowed := true }
def InodeFullUptoSaid : Prop := inodeFullUptoRow.holds Try.pinned (OpenSpec.upto inodeFullSpec)

/-- 'estafettelaw05.InodeApart', WHERE WHAT IT READS IS OF BULK AT MOST 1048576: true; the input reads as it did. -/
def inodeApartUptoRow : OpenClaim := { program := "ytjnbanjmehkifaa", sum := "4463c69d4bed2a928a4d80376eb3d366b190f00df5cd53951bd013efd2bf18dd", func := "estafette/estafettelaw05.InodeApart", spec := "inodeApart", unfollowed := true, recurses := true, apart := false, narrowed := true }
def InodeApartUptoSaid : Prop := inodeApartUptoRow.holds Try.pinned (OpenSpec.upto inodeApartSpec)

/-- 'estafettelaw05.InodeGaps', WHERE WHAT IT READS IS OF BULK AT MOST 1048576: true; the input reads as it did. -/
def inodeGapsUptoRow : OpenClaim := { program := "ytjnbanjmehkifaa", sum := "4463c69d4bed2a928a4d80376eb3d366b190f00df5cd53951bd013efd2bf18dd", func := "estafette/estafettelaw05.InodeGaps", spec := "inodeGaps", unfollowed := true, recurses := true, apart := false, narrowed := true }
def InodeGapsUptoSaid : Prop := inodeGapsUptoRow.holds Try.pinned (OpenSpec.upto inodeGapsSpec)

end Rows
end Go.Proofs.Ytjnbanjmehkifaa
