/-
  No cell of these rows narrows 'for every input' (looked for: loops, veiled, ifaces, maps, wideKeys, modest, calm, conditions, laid).
  DERIVED. THE GIVEN ROWS OF THIS SEAT. 9 by the template 'for every input the law returns true; each argument reads behind the call as it read before'; 0 by the template 'total and deterministic' (their statements: YtogipajanbgenaaTotals.lean).
  GIVEN WITH THE SEED: the statements are not yours to turn. If you find one false, say at which input.
  Laid BY PROGRAM, IN A SANDBOX (cutbox-rows.mjs): the forced cells as the released guide's own fill.sh prints them over the translation 22a28a75bc12e200… (all of the seat's roots in one cut). By AI agents, Wed Nov 11 2026. No macro, syntax, notation, axiom, sorry.
-/
import Derived.Test.YtogipajanbgenaaChecked
import GoSem.Claim
import GoSem.ClaimJoined
import GoSem.ClaimMapViews
import Derived.JoinedTies
import Derived.KernelRfl
namespace Go.Proofs.Ytogipajanbgenaa
/- THE CELL 'sum', in the pinned program and in every row, IS THE sha256 OF THE DUMP (.gsa) THAT YtogipajanbgenaaProg.lean LOADS. Nothing in Lean hashes anything: it is a label: what it is worth is what the hold of that sum in a sandbox is worth. -/
noncomputable def Try.pinned : Pinned := { name := "ytogipajanbgenaa", sum := "22a28a75bc12e200d67a46a0871f086a437e6ad098fea09b8efe86969e3af12f", checked := Try.checked }
namespace Rows
def none {H : Type} : Left H := { results := [], args := [] }

/-- 'pantlerlaw08.GatherPlays': WHATEVER THE INPUT: true; the input reads as it did. -/
def gatherPlaysSpec : ChangeSpec := { name := "gatherPlays", fn := fun _ => fun
  | [d1, d2, d3] => { results := [.lit (.bool true)], args := [d1, d2, d3] }
  | _ => none }
def gatherPlaysRow : OpenClaim := { program := "ytogipajanbgenaa", sum := "22a28a75bc12e200d67a46a0871f086a437e6ad098fea09b8efe86969e3af12f", func := "pantler/pantlerlaw08.GatherPlays", spec := "gatherPlays", unfollowed := true, recurses := true, apart := false }
def GatherPlaysSaid : Prop := gatherPlaysRow.holds Try.pinned (OpenSpec.ofChange gatherPlaysSpec)

/-- ITS FALSE NEIGHBOUR: 'it returns false'. Refute it at one input. -/
def gatherPlaysWrong : ChangeSpec := { name := "gatherPlays", fn := fun _ => fun
  | [d1, d2, d3] => { results := [.lit (.bool false)], args := [d1, d2, d3] }
  | _ => none }
def GatherPlaysWrongFalsely : Prop := gatherPlaysRow.holds Try.pinned (OpenSpec.ofChange gatherPlaysWrong)

/-- 'pantlerlaw09.KernSends': WHATEVER THE INPUT: true; the input reads as it did. -/
def kernSendsSpec : ChangeSpec := { name := "kernSends", fn := fun _ => fun
  | [d1, d2, d3] => { results := [.lit (.bool true)], args := [d1, d2, d3] }
  | _ => none }
def kernSendsRow : OpenClaim := { program := "ytogipajanbgenaa", sum := "22a28a75bc12e200d67a46a0871f086a437e6ad098fea09b8efe86969e3af12f", func := "pantler/pantlerlaw09.KernSends", spec := "kernSends", unfollowed := true, recurses := true, apart := false }
def KernSendsSaid : Prop := kernSendsRow.holds Try.pinned (OpenSpec.ofChange kernSendsSpec)

/-- ITS FALSE NEIGHBOUR: 'it returns false'. Refute it at one input. -/
def kernSendsWrong : ChangeSpec := { name := "kernSends", fn := fun _ => fun
  | [d1, d2, d3] => { results := [.lit (.bool false)], args := [d1, d2, d3] }
  | _ => none }
def KernSendsWrongFalsely : Prop := kernSendsRow.holds Try.pinned (OpenSpec.ofChange kernSendsWrong)

/-- 'pantlerlaw09.KernCounts': WHATEVER THE INPUT: true; the input reads as it did. -/
def kernCountsSpec : ChangeSpec := { name := "kernCounts", fn := fun _ => fun
  | [d] => { results := [.lit (.bool true)], args := [d] }
  | _ => none }
def kernCountsRow : OpenClaim := { program := "ytogipajanbgenaa", sum := "22a28a75bc12e200d67a46a0871f086a437e6ad098fea09b8efe86969e3af12f", func := "pantler/pantlerlaw09.KernCounts", spec := "kernCounts", unfollowed := true, recurses := true, apart := false }
def KernCountsSaid : Prop := kernCountsRow.holds Try.pinned (OpenSpec.ofChange kernCountsSpec)

/-- ITS FALSE NEIGHBOUR: 'it returns false'. Refute it at one input. -/
def kernCountsWrong : ChangeSpec := { name := "kernCounts", fn := fun _ => fun
  | [d] => { results := [.lit (.bool false)], args := [d] }
  | _ => none }
def KernCountsWrongFalsely : Prop := kernCountsRow.holds Try.pinned (OpenSpec.ofChange kernCountsWrong)

/-- 'pantlerlaw09.KernApart': WHATEVER THE INPUT: true; the input reads as it did. -/
def kernApartSpec : ChangeSpec := { name := "kernApart", fn := fun _ => fun
  | [d1, d2] => { results := [.lit (.bool true)], args := [d1, d2] }
  | _ => none }
def kernApartRow : OpenClaim := { program := "ytogipajanbgenaa", sum := "22a28a75bc12e200d67a46a0871f086a437e6ad098fea09b8efe86969e3af12f", func := "pantler/pantlerlaw09.KernApart", spec := "kernApart", unfollowed := true, recurses := true, apart := false }
def KernApartSaid : Prop := kernApartRow.holds Try.pinned (OpenSpec.ofChange kernApartSpec)

/-- ITS FALSE NEIGHBOUR: 'it returns false'. Refute it at one input. -/
def kernApartWrong : ChangeSpec := { name := "kernApart", fn := fun _ => fun
  | [d1, d2] => { results := [.lit (.bool false)], args := [d1, d2] }
  | _ => none }
def KernApartWrongFalsely : Prop := kernApartRow.holds Try.pinned (OpenSpec.ofChange kernApartWrong)

/-- 'pantlerlaw09.KernNil': WHATEVER THE INPUT: true; the input reads as it did. -/
def kernNilSpec : ChangeSpec := { name := "kernNil", fn := fun _ => fun
  | [d1, d2] => { results := [.lit (.bool true)], args := [d1, d2] }
  | _ => none }
def kernNilRow : OpenClaim := { program := "ytogipajanbgenaa", sum := "22a28a75bc12e200d67a46a0871f086a437e6ad098fea09b8efe86969e3af12f", func := "pantler/pantlerlaw09.KernNil", spec := "kernNil", unfollowed := true, recurses := true, apart := false }
def KernNilSaid : Prop := kernNilRow.holds Try.pinned (OpenSpec.ofChange kernNilSpec)

/-- ITS FALSE NEIGHBOUR: 'it returns false'. Refute it at one input. -/
def kernNilWrong : ChangeSpec := { name := "kernNil", fn := fun _ => fun
  | [d1, d2] => { results := [.lit (.bool false)], args := [d1, d2] }
  | _ => none }
def KernNilWrongFalsely : Prop := kernNilRow.holds Try.pinned (OpenSpec.ofChange kernNilWrong)

/-- 'pantlerlaw13.PoolKeeps': WHATEVER THE INPUT: true; the input reads as it did. -/
def poolKeepsSpec : ChangeSpec := { name := "poolKeeps", fn := fun _ => fun
  | [d1, d2] => { results := [.lit (.bool true)], args := [d1, d2] }
  | _ => none }
def poolKeepsRow : OpenClaim := { program := "ytogipajanbgenaa", sum := "22a28a75bc12e200d67a46a0871f086a437e6ad098fea09b8efe86969e3af12f", func := "pantler/pantlerlaw13.PoolKeeps", spec := "poolKeeps", unfollowed := true, recurses := true, apart := false }
def PoolKeepsSaid : Prop := poolKeepsRow.holds Try.pinned (OpenSpec.ofChange poolKeepsSpec)

/-- ITS FALSE NEIGHBOUR: 'it returns false'. Refute it at one input. -/
def poolKeepsWrong : ChangeSpec := { name := "poolKeeps", fn := fun _ => fun
  | [d1, d2] => { results := [.lit (.bool false)], args := [d1, d2] }
  | _ => none }
def PoolKeepsWrongFalsely : Prop := poolKeepsRow.holds Try.pinned (OpenSpec.ofChange poolKeepsWrong)

/-- 'pantlerlaw13.PoolOnce': WHATEVER THE INPUT: true; the input reads as it did. -/
def poolOnceSpec : ChangeSpec := { name := "poolOnce", fn := fun _ => fun
  | [d1, d2, d3] => { results := [.lit (.bool true)], args := [d1, d2, d3] }
  | _ => none }
def poolOnceRow : OpenClaim := { program := "ytogipajanbgenaa", sum := "22a28a75bc12e200d67a46a0871f086a437e6ad098fea09b8efe86969e3af12f", func := "pantler/pantlerlaw13.PoolOnce", spec := "poolOnce", unfollowed := true, recurses := true, apart := false }
def PoolOnceSaid : Prop := poolOnceRow.holds Try.pinned (OpenSpec.ofChange poolOnceSpec)

/-- ITS FALSE NEIGHBOUR: 'it returns false'. Refute it at one input. -/
def poolOnceWrong : ChangeSpec := { name := "poolOnce", fn := fun _ => fun
  | [d1, d2, d3] => { results := [.lit (.bool false)], args := [d1, d2, d3] }
  | _ => none }
def PoolOnceWrongFalsely : Prop := poolOnceRow.holds Try.pinned (OpenSpec.ofChange poolOnceWrong)

/-- 'pantlerlaw13.PoolParts': WHATEVER THE INPUT: true; the input reads as it did. -/
def poolPartsSpec : ChangeSpec := { name := "poolParts", fn := fun _ => fun
  | [d1, d2] => { results := [.lit (.bool true)], args := [d1, d2] }
  | _ => none }
def poolPartsRow : OpenClaim := { program := "ytogipajanbgenaa", sum := "22a28a75bc12e200d67a46a0871f086a437e6ad098fea09b8efe86969e3af12f", func := "pantler/pantlerlaw13.PoolParts", spec := "poolParts", inPlace := ["math.archTrunc", "math.Float64bits", "math.Float64frombits"], unfollowed := true, recurses := true, apart := false }
def PoolPartsSaid : Prop := poolPartsRow.holds Try.pinned (OpenSpec.ofChange poolPartsSpec)

/-- ITS FALSE NEIGHBOUR: 'it returns false'. Refute it at one input. -/
def poolPartsWrong : ChangeSpec := { name := "poolParts", fn := fun _ => fun
  | [d1, d2] => { results := [.lit (.bool false)], args := [d1, d2] }
  | _ => none }
def PoolPartsWrongFalsely : Prop := poolPartsRow.holds Try.pinned (OpenSpec.ofChange poolPartsWrong)

/-- 'pantlerlaw13.PoolNil': WHATEVER THE INPUT: true; the input reads as it did. -/
def poolNilSpec : ChangeSpec := { name := "poolNil", fn := fun _ => fun
  | [d] => { results := [.lit (.bool true)], args := [d] }
  | _ => none }
def poolNilRow : OpenClaim := { program := "ytogipajanbgenaa", sum := "22a28a75bc12e200d67a46a0871f086a437e6ad098fea09b8efe86969e3af12f", func := "pantler/pantlerlaw13.PoolNil", spec := "poolNil", inPlace := ["math.archTrunc", "math.Float64bits", "math.Float64frombits"], unfollowed := true, recurses := true, apart := false }
def PoolNilSaid : Prop := poolNilRow.holds Try.pinned (OpenSpec.ofChange poolNilSpec)

/-- ITS FALSE NEIGHBOUR: 'it returns false'. Refute it at one input. -/
def poolNilWrong : ChangeSpec := { name := "poolNil", fn := fun _ => fun
  | [d] => { results := [.lit (.bool false)], args := [d] }
  | _ => none }
def PoolNilWrongFalsely : Prop := poolNilRow.holds Try.pinned (OpenSpec.ofChange poolNilWrong)

/- THE SECOND FORM. 'bulk': how many values and letters a reading holds, each counted each time it is reached (what is shared counts as often as it is met; a slice's spare places count too). A statement '..UptoSaid' is the law's where the arguments, and the package variables that the reading takes, are together of bulk at most 1048576: NARROWER than '..Said'. Prove '..Said' where nothing that the law and all that it calls make is longer than what came in: it says more and counts as full. Else prove '..UptoSaid'. A law counts once. -/
mutual
def uptoBulk {H : Type} : DataW H → Nat
  | .lit (.string bytes) => bytes.length + 1
  | .lit _ => 1
  | .nil => 1
  | .ptr d => uptoBulk d + 1
  | .slice elems spare => uptoBulkAll elems + uptoBulkAll spare + 1
  | .agg parts => uptoBulkAll parts + 1
  | .iface _ d => uptoBulk d + 1
  | .map entries => uptoBulkEntries entries + 1
  | .held _ => 1
def uptoBulkAll {H : Type} : List (DataW H) → Nat
  | [] => 0
  | d :: r => uptoBulk d + uptoBulkAll r
def uptoBulkEntries {H : Type} : List (Lit × DataW H) → Nat
  | [] => 0
  | x :: r => uptoBulkEntry x + uptoBulkEntries r
def uptoBulkEntry {H : Type} : Lit × DataW H → Nat
  | (.string bytes, d) => bytes.length + uptoBulk d + 1
  | (_, d) => uptoBulk d + 1
 end
def uptoSmall : (H : Type) → List (DataW H) → Bool := fun _ ds => decide (uptoBulkAll ds ≤ 1048576)
def OpenSpec.upto (s : _root_.Go.ChangeSpec) : _root_.Go.OpenSpec := { _root_.Go.OpenSpec.ofChange s with cond := some uptoSmall }

/-- 'pantlerlaw08.GatherPlays', WHERE WHAT IT READS IS OF BULK AT MOST 1048576: true; the input reads as it did. -/
def gatherPlaysUptoRow : OpenClaim := { program := "ytogipajanbgenaa", sum := "22a28a75bc12e200d67a46a0871f086a437e6ad098fea09b8efe86969e3af12f", func := "pantler/pantlerlaw08.GatherPlays", spec := "gatherPlays", unfollowed := true, recurses := true, apart := false, narrowed := true }
def GatherPlaysUptoSaid : Prop := gatherPlaysUptoRow.holds Try.pinned (OpenSpec.upto gatherPlaysSpec)

/-- 'pantlerlaw09.KernSends', WHERE WHAT IT READS IS OF BULK AT MOST 1048576: true; the input reads as it did. -/
def kernSendsUptoRow : OpenClaim := { program := "ytogipajanbgenaa", sum := "22a28a75bc12e200d67a46a0871f086a437e6ad098fea09b8efe86969e3af12f", func := "pantler/pantlerlaw09.KernSends", spec := "kernSends", unfollowed := true, recurses := true, apart := false, narrowed := true }
def KernSendsUptoSaid : Prop := kernSendsUptoRow.holds Try.pinned (OpenSpec.upto kernSendsSpec)

/-- 'pantlerlaw09.KernCounts', WHERE WHAT IT READS IS OF BULK AT MOST 1048576: true; the input reads as it did. -/
def kernCountsUptoRow : OpenClaim := { program := "ytogipajanbgenaa", sum := "22a28a75bc12e200d67a46a0871f086a437e6ad098fea09b8efe86969e3af12f", func := "pantler/pantlerlaw09.KernCounts", spec := "kernCounts", unfollowed := true, recurses := true, apart := false, narrowed := true }
def KernCountsUptoSaid : Prop := kernCountsUptoRow.holds Try.pinned (OpenSpec.upto kernCountsSpec)

/-- 'pantlerlaw09.KernApart', WHERE WHAT IT READS IS OF BULK AT MOST 1048576: true; the input reads as it did. -/
def kernApartUptoRow : OpenClaim := { program := "ytogipajanbgenaa", sum := "22a28a75bc12e200d67a46a0871f086a437e6ad098fea09b8efe86969e3af12f", func := "pantler/pantlerlaw09.KernApart", spec := "kernApart", unfollowed := true, recurses := true, apart := false, narrowed := true }
def KernApartUptoSaid : Prop := kernApartUptoRow.holds Try.pinned (OpenSpec.upto kernApartSpec)

/-- 'pantlerlaw09.KernNil', WHERE WHAT IT READS IS OF BULK AT MOST 1048576: true; the input reads as it did. -/
def kernNilUptoRow : OpenClaim := { program := "ytogipajanbgenaa", sum := "22a28a75bc12e200d67a46a0871f086a437e6ad098fea09b8efe86969e3af12f", func := "pantler/pantlerlaw09.KernNil", spec := "kernNil", unfollowed := true, recurses := true, apart := false, narrowed := true }
def KernNilUptoSaid : Prop := kernNilUptoRow.holds Try.pinned (OpenSpec.upto kernNilSpec)

/-- 'pantlerlaw13.PoolKeeps', WHERE WHAT IT READS IS OF BULK AT MOST 1048576: true; the input reads as it did. -/
def poolKeepsUptoRow : OpenClaim := { program := "ytogipajanbgenaa", sum := "22a28a75bc12e200d67a46a0871f086a437e6ad098fea09b8efe86969e3af12f", func := "pantler/pantlerlaw13.PoolKeeps", spec := "poolKeeps", unfollowed := true, recurses := true, apart := false, narrowed := true }
def PoolKeepsUptoSaid : Prop := poolKeepsUptoRow.holds Try.pinned (OpenSpec.upto poolKeepsSpec)

/-- 'pantlerlaw13.PoolOnce', WHERE WHAT IT READS IS OF BULK AT MOST 1048576: true; the input reads as it did. -/
def poolOnceUptoRow : OpenClaim := { program := "ytogipajanbgenaa", sum := "22a28a75bc12e200d67a46a0871f086a437e6ad098fea09b8efe86969e3af12f", func := "pantler/pantlerlaw13.PoolOnce", spec := "poolOnce", unfollowed := true, recurses := true, apart := false, narrowed := true }
def PoolOnceUptoSaid : Prop := poolOnceUptoRow.holds Try.pinned (OpenSpec.upto poolOnceSpec)

/-- 'pantlerlaw13.PoolParts', WHERE WHAT IT READS IS OF BULK AT MOST 1048576: true; the input reads as it did. -/
def poolPartsUptoRow : OpenClaim := { program := "ytogipajanbgenaa", sum := "22a28a75bc12e200d67a46a0871f086a437e6ad098fea09b8efe86969e3af12f", func := "pantler/pantlerlaw13.PoolParts", spec := "poolParts", inPlace := ["math.archTrunc", "math.Float64bits", "math.Float64frombits"], unfollowed := true, recurses := true, apart := false, narrowed := true }
def PoolPartsUptoSaid : Prop := poolPartsUptoRow.holds Try.pinned (OpenSpec.upto poolPartsSpec)

/-- 'pantlerlaw13.PoolNil', WHERE WHAT IT READS IS OF BULK AT MOST 1048576: true; the input reads as it did. -/
def poolNilUptoRow : OpenClaim := { program := "ytogipajanbgenaa", sum := "22a28a75bc12e200d67a46a0871f086a437e6ad098fea09b8efe86969e3af12f", func := "pantler/pantlerlaw13.PoolNil", spec := "poolNil", inPlace := ["math.archTrunc", "math.Float64bits", "math.Float64frombits"], unfollowed := true, recurses := true, apart := false, narrowed := true }
def PoolNilUptoSaid : Prop := poolNilUptoRow.holds Try.pinned (OpenSpec.upto poolNilSpec)

end Rows
end Go.Proofs.Ytogipajanbgenaa
