/-
  No cell of these rows narrows 'for every input' (looked for: loops, veiled, ifaces, maps, wideKeys, modest, calm, conditions, laid).
  DERIVED. THE GIVEN ROWS OF THIS SEAT. 13 by the template 'for every input the law returns true; each argument reads behind the call as it read before'; 0 by the template 'total and deterministic' (their statements: YtfhmcgpohpkjgaaTotals.lean).
  GIVEN WITH THE SEED: the statements are not yours to turn. If you find one false, say at which input.
  Laid BY PROGRAM, IN A SANDBOX (cutbox-rows.mjs): the forced cells as the released guide's own fill.sh prints them over the translation 2d251729bba6bf15… (all of the seat's roots in one cut). By AI agents, Wed Nov 11 2026. No macro, syntax, notation, axiom, sorry.
-/
import Derived.Test.YtfhmcgpohpkjgaaChecked
import GoSem.Claim
import GoSem.ClaimJoined
import GoSem.ClaimMapViews
import Derived.JoinedTies
import Derived.KernelRfl
namespace Go.Proofs.Ytfhmcgpohpkjgaa
/- THE CELL 'sum', in the pinned program and in every row, IS THE sha256 OF THE DUMP (.gsa) THAT YtfhmcgpohpkjgaaProg.lean LOADS. Nothing in Lean hashes anything: it is a label: what it is worth is what the hold of that sum in a sandbox is worth. -/
noncomputable def Try.pinned : Pinned := { name := "ytfhmcgpohpkjgaa", sum := "2d251729bba6bf15226961e5265a7bc00f3e3feb79219f8c57dd8fc15362f77b", checked := Try.checked }
namespace Rows
def none {H : Type} : Left H := { results := [], args := [] }

/-- 'edictlaw09.BoundAdds': WHATEVER THE INPUT: true; the input reads as it did. -/
def boundAddsSpec : ChangeSpec := { name := "boundAdds", fn := fun _ => fun
  | [d1, d2] => { results := [.lit (.bool true)], args := [d1, d2] }
  | _ => none }
def boundAddsRow : OpenClaim := { program := "ytfhmcgpohpkjgaa", sum := "2d251729bba6bf15226961e5265a7bc00f3e3feb79219f8c57dd8fc15362f77b", func := "edict/edictlaw09.BoundAdds", spec := "boundAdds", inPlace := ["math/bits.Add64"], apart := false }
def BoundAddsSaid : Prop := boundAddsRow.holds Try.pinned (OpenSpec.ofChange boundAddsSpec)

/-- ITS FALSE NEIGHBOUR: 'it returns false'. Refute it at one input. -/
def boundAddsWrong : ChangeSpec := { name := "boundAdds", fn := fun _ => fun
  | [d1, d2] => { results := [.lit (.bool false)], args := [d1, d2] }
  | _ => none }
def BoundAddsWrongFalsely : Prop := boundAddsRow.holds Try.pinned (OpenSpec.ofChange boundAddsWrong)

/-- 'edictlaw09.BoundMuls': WHATEVER THE INPUT: true; the input reads as it did. -/
def boundMulsSpec : ChangeSpec := { name := "boundMuls", fn := fun _ => fun
  | [d1, d2] => { results := [.lit (.bool true)], args := [d1, d2] }
  | _ => none }
def boundMulsRow : OpenClaim := { program := "ytfhmcgpohpkjgaa", sum := "2d251729bba6bf15226961e5265a7bc00f3e3feb79219f8c57dd8fc15362f77b", func := "edict/edictlaw09.BoundMuls", spec := "boundMuls", apart := false }
def BoundMulsSaid : Prop := boundMulsRow.holds Try.pinned (OpenSpec.ofChange boundMulsSpec)

/-- ITS FALSE NEIGHBOUR: 'it returns false'. Refute it at one input. -/
def boundMulsWrong : ChangeSpec := { name := "boundMuls", fn := fun _ => fun
  | [d1, d2] => { results := [.lit (.bool false)], args := [d1, d2] }
  | _ => none }
def BoundMulsWrongFalsely : Prop := boundMulsRow.holds Try.pinned (OpenSpec.ofChange boundMulsWrong)

/-- 'edictlaw09.BoundSums': WHATEVER THE INPUT: true; the input reads as it did. -/
def boundSumsSpec : ChangeSpec := { name := "boundSums", fn := fun _ => fun
  | [d] => { results := [.lit (.bool true)], args := [d] }
  | _ => none }
def boundSumsRow : OpenClaim := { program := "ytfhmcgpohpkjgaa", sum := "2d251729bba6bf15226961e5265a7bc00f3e3feb79219f8c57dd8fc15362f77b", func := "edict/edictlaw09.BoundSums", spec := "boundSums", inPlace := ["math/bits.Add64"], apart := false }
def BoundSumsSaid : Prop := boundSumsRow.holds Try.pinned (OpenSpec.ofChange boundSumsSpec)

/-- ITS FALSE NEIGHBOUR: 'it returns false'. Refute it at one input. -/
def boundSumsWrong : ChangeSpec := { name := "boundSums", fn := fun _ => fun
  | [d] => { results := [.lit (.bool false)], args := [d] }
  | _ => none }
def BoundSumsWrongFalsely : Prop := boundSumsRow.holds Try.pinned (OpenSpec.ofChange boundSumsWrong)

/-- 'edictlaw09.BoundAddIs': WHATEVER THE INPUT: true; the input reads as it did. -/
def boundAddIsSpec : ChangeSpec := { name := "boundAddIs", fn := fun _ => fun
  | [d1, d2, d3] => { results := [.lit (.bool true)], args := [d1, d2, d3] }
  | _ => none }
def boundAddIsRow : OpenClaim := { program := "ytfhmcgpohpkjgaa", sum := "2d251729bba6bf15226961e5265a7bc00f3e3feb79219f8c57dd8fc15362f77b", func := "edict/edictlaw09.BoundAddIs", spec := "boundAddIs", inPlace := ["math/bits.Add64"], apart := false }
def BoundAddIsSaid : Prop := boundAddIsRow.holds Try.pinned (OpenSpec.ofChange boundAddIsSpec)

/-- ITS FALSE NEIGHBOUR: 'it returns false'. Refute it at one input. -/
def boundAddIsWrong : ChangeSpec := { name := "boundAddIs", fn := fun _ => fun
  | [d1, d2, d3] => { results := [.lit (.bool false)], args := [d1, d2, d3] }
  | _ => none }
def BoundAddIsWrongFalsely : Prop := boundAddIsRow.holds Try.pinned (OpenSpec.ofChange boundAddIsWrong)

/-- 'edictlaw09.BoundPows': WHATEVER THE INPUT: true; the input reads as it did. -/
def boundPowsSpec : ChangeSpec := { name := "boundPows", fn := fun _ => fun
  | [d1, d2] => { results := [.lit (.bool true)], args := [d1, d2] }
  | _ => none }
def boundPowsRow : OpenClaim := { program := "ytfhmcgpohpkjgaa", sum := "2d251729bba6bf15226961e5265a7bc00f3e3feb79219f8c57dd8fc15362f77b", func := "edict/edictlaw09.BoundPows", spec := "boundPows", apart := false }
def BoundPowsSaid : Prop := boundPowsRow.holds Try.pinned (OpenSpec.ofChange boundPowsSpec)

/-- ITS FALSE NEIGHBOUR: 'it returns false'. Refute it at one input. -/
def boundPowsWrong : ChangeSpec := { name := "boundPows", fn := fun _ => fun
  | [d1, d2] => { results := [.lit (.bool false)], args := [d1, d2] }
  | _ => none }
def BoundPowsWrongFalsely : Prop := boundPowsRow.holds Try.pinned (OpenSpec.ofChange boundPowsWrong)

/-- 'edictlaw09.BoundPowIs': WHATEVER THE INPUT: true; the input reads as it did. -/
def boundPowIsSpec : ChangeSpec := { name := "boundPowIs", fn := fun _ => fun
  | [d1, d2, d3] => { results := [.lit (.bool true)], args := [d1, d2, d3] }
  | _ => none }
def boundPowIsRow : OpenClaim := { program := "ytfhmcgpohpkjgaa", sum := "2d251729bba6bf15226961e5265a7bc00f3e3feb79219f8c57dd8fc15362f77b", func := "edict/edictlaw09.BoundPowIs", spec := "boundPowIs", apart := false }
def BoundPowIsSaid : Prop := boundPowIsRow.holds Try.pinned (OpenSpec.ofChange boundPowIsSpec)

/-- ITS FALSE NEIGHBOUR: 'it returns false'. Refute it at one input. -/
def boundPowIsWrong : ChangeSpec := { name := "boundPowIs", fn := fun _ => fun
  | [d1, d2, d3] => { results := [.lit (.bool false)], args := [d1, d2, d3] }
  | _ => none }
def BoundPowIsWrongFalsely : Prop := boundPowIsRow.holds Try.pinned (OpenSpec.ofChange boundPowIsWrong)

/-- 'edictlaw09.BoundMulIs': WHATEVER THE INPUT: true; the input reads as it did. -/
def boundMulIsSpec : ChangeSpec := { name := "boundMulIs", fn := fun _ => fun
  | [d1, d2, d3] => { results := [.lit (.bool true)], args := [d1, d2, d3] }
  | _ => none }
def boundMulIsRow : OpenClaim := { program := "ytfhmcgpohpkjgaa", sum := "2d251729bba6bf15226961e5265a7bc00f3e3feb79219f8c57dd8fc15362f77b", func := "edict/edictlaw09.BoundMulIs", spec := "boundMulIs", inPlace := ["math/bits.Add64"], apart := false }
def BoundMulIsSaid : Prop := boundMulIsRow.holds Try.pinned (OpenSpec.ofChange boundMulIsSpec)

/-- ITS FALSE NEIGHBOUR: 'it returns false'. Refute it at one input. -/
def boundMulIsWrong : ChangeSpec := { name := "boundMulIs", fn := fun _ => fun
  | [d1, d2, d3] => { results := [.lit (.bool false)], args := [d1, d2, d3] }
  | _ => none }
def BoundMulIsWrongFalsely : Prop := boundMulIsRow.holds Try.pinned (OpenSpec.ofChange boundMulIsWrong)

/-- 'edictlaw09.BoundFirings': WHATEVER THE INPUT: true; the input reads as it did. -/
def boundFiringsSpec : ChangeSpec := { name := "boundFirings", fn := fun _ => fun
  | [d1, d2] => { results := [.lit (.bool true)], args := [d1, d2] }
  | _ => none }
def boundFiringsRow : OpenClaim := { program := "ytfhmcgpohpkjgaa", sum := "2d251729bba6bf15226961e5265a7bc00f3e3feb79219f8c57dd8fc15362f77b", func := "edict/edictlaw09.BoundFirings", spec := "boundFirings", inPlace := ["math/bits.Add64"], apart := false }
def BoundFiringsSaid : Prop := boundFiringsRow.holds Try.pinned (OpenSpec.ofChange boundFiringsSpec)

/-- ITS FALSE NEIGHBOUR: 'it returns false'. Refute it at one input. -/
def boundFiringsWrong : ChangeSpec := { name := "boundFirings", fn := fun _ => fun
  | [d1, d2] => { results := [.lit (.bool false)], args := [d1, d2] }
  | _ => none }
def BoundFiringsWrongFalsely : Prop := boundFiringsRow.holds Try.pinned (OpenSpec.ofChange boundFiringsWrong)

/-- 'edictlaw09.BoundTokens': WHATEVER THE INPUT: true; the input reads as it did. -/
def boundTokensSpec : ChangeSpec := { name := "boundTokens", fn := fun _ => fun
  | [d1, d2] => { results := [.lit (.bool true)], args := [d1, d2] }
  | _ => none }
def boundTokensRow : OpenClaim := { program := "ytfhmcgpohpkjgaa", sum := "2d251729bba6bf15226961e5265a7bc00f3e3feb79219f8c57dd8fc15362f77b", func := "edict/edictlaw09.BoundTokens", spec := "boundTokens", inPlace := ["math/bits.Add64"], apart := false }
def BoundTokensSaid : Prop := boundTokensRow.holds Try.pinned (OpenSpec.ofChange boundTokensSpec)

/-- ITS FALSE NEIGHBOUR: 'it returns false'. Refute it at one input. -/
def boundTokensWrong : ChangeSpec := { name := "boundTokens", fn := fun _ => fun
  | [d1, d2] => { results := [.lit (.bool false)], args := [d1, d2] }
  | _ => none }
def BoundTokensWrongFalsely : Prop := boundTokensRow.holds Try.pinned (OpenSpec.ofChange boundTokensWrong)

/-- 'edictlaw09.BoundMeters': WHATEVER THE INPUT: true; the input reads as it did. -/
def boundMetersSpec : ChangeSpec := { name := "boundMeters", fn := fun _ => fun
  | [d] => { results := [.lit (.bool true)], args := [d] }
  | _ => none }
def boundMetersRow : OpenClaim := { program := "ytfhmcgpohpkjgaa", sum := "2d251729bba6bf15226961e5265a7bc00f3e3feb79219f8c57dd8fc15362f77b", func := "edict/edictlaw09.BoundMeters", spec := "boundMeters", inPlace := ["(*internal/sync.Mutex).Lock", "internal/race.Disable", "sync/atomic.CompareAndSwapInt32", "internal/race.Enable", "internal/race.Acquire", "(*internal/sync.Mutex).lockSlow", "internal/sync.runtime_canSpin", "internal/sync.runtime_doSpin", "internal/sync.throw", "internal/sync.runtime_nanotime", "internal/sync.runtime_SemacquireMutex", "sync/atomic.AddInt32", "(*internal/sync.Mutex).Unlock", "internal/race.ReleaseMerge", "(*internal/sync.Mutex).unlockSlow", "internal/sync.fatal", "internal/sync.runtime_Semrelease"], apart := false }
def BoundMetersSaid : Prop := boundMetersRow.holds Try.pinned (OpenSpec.ofChange boundMetersSpec)

/-- ITS FALSE NEIGHBOUR: 'it returns false'. Refute it at one input. -/
def boundMetersWrong : ChangeSpec := { name := "boundMeters", fn := fun _ => fun
  | [d] => { results := [.lit (.bool false)], args := [d] }
  | _ => none }
def BoundMetersWrongFalsely : Prop := boundMetersRow.holds Try.pinned (OpenSpec.ofChange boundMetersWrong)

/-- 'edictlaw09.BoundMeterKeeps': WHATEVER THE INPUT: true; the input reads as it did. -/
def boundMeterKeepsSpec : ChangeSpec := { name := "boundMeterKeeps", fn := fun _ => fun
  | [d1, d2, d3] => { results := [.lit (.bool true)], args := [d1, d2, d3] }
  | _ => none }
def boundMeterKeepsRow : OpenClaim := { program := "ytfhmcgpohpkjgaa", sum := "2d251729bba6bf15226961e5265a7bc00f3e3feb79219f8c57dd8fc15362f77b", func := "edict/edictlaw09.BoundMeterKeeps", spec := "boundMeterKeeps", inPlace := ["(*internal/sync.Mutex).Lock", "internal/race.Disable", "sync/atomic.CompareAndSwapInt32", "internal/race.Enable", "internal/race.Acquire", "(*internal/sync.Mutex).lockSlow", "internal/sync.runtime_canSpin", "internal/sync.runtime_doSpin", "internal/sync.throw", "internal/sync.runtime_nanotime", "internal/sync.runtime_SemacquireMutex", "sync/atomic.AddInt32", "(*internal/sync.Mutex).Unlock", "internal/race.ReleaseMerge", "(*internal/sync.Mutex).unlockSlow", "internal/sync.fatal", "internal/sync.runtime_Semrelease"], apart := false }
def BoundMeterKeepsSaid : Prop := boundMeterKeepsRow.holds Try.pinned (OpenSpec.ofChange boundMeterKeepsSpec)

/-- ITS FALSE NEIGHBOUR: 'it returns false'. Refute it at one input. -/
def boundMeterKeepsWrong : ChangeSpec := { name := "boundMeterKeeps", fn := fun _ => fun
  | [d1, d2, d3] => { results := [.lit (.bool false)], args := [d1, d2, d3] }
  | _ => none }
def BoundMeterKeepsWrongFalsely : Prop := boundMeterKeepsRow.holds Try.pinned (OpenSpec.ofChange boundMeterKeepsWrong)

/-- 'edictlaw09.BoundCounts': WHATEVER THE INPUT: true; the input reads as it did. -/
def boundCountsSpec : ChangeSpec := { name := "boundCounts", fn := fun _ => fun
  | [d1, d2] => { results := [.lit (.bool true)], args := [d1, d2] }
  | _ => none }
def boundCountsRow : OpenClaim := { program := "ytfhmcgpohpkjgaa", sum := "2d251729bba6bf15226961e5265a7bc00f3e3feb79219f8c57dd8fc15362f77b", func := "edict/edictlaw09.BoundCounts", spec := "boundCounts", inPlace := ["math/bits.Add64"], apart := false }
def BoundCountsSaid : Prop := boundCountsRow.holds Try.pinned (OpenSpec.ofChange boundCountsSpec)

/-- ITS FALSE NEIGHBOUR: 'it returns false'. Refute it at one input. -/
def boundCountsWrong : ChangeSpec := { name := "boundCounts", fn := fun _ => fun
  | [d1, d2] => { results := [.lit (.bool false)], args := [d1, d2] }
  | _ => none }
def BoundCountsWrongFalsely : Prop := boundCountsRow.holds Try.pinned (OpenSpec.ofChange boundCountsWrong)

/-- 'edictlaw09.BoundSplits': WHATEVER THE INPUT: true; the input reads as it did. -/
def boundSplitsSpec : ChangeSpec := { name := "boundSplits", fn := fun _ => fun
  | [d] => { results := [.lit (.bool true)], args := [d] }
  | _ => none }
def boundSplitsRow : OpenClaim := { program := "ytfhmcgpohpkjgaa", sum := "2d251729bba6bf15226961e5265a7bc00f3e3feb79219f8c57dd8fc15362f77b", func := "edict/edictlaw09.BoundSplits", spec := "boundSplits", inPlace := ["math/bits.Add64"], apart := false }
def BoundSplitsSaid : Prop := boundSplitsRow.holds Try.pinned (OpenSpec.ofChange boundSplitsSpec)

/-- ITS FALSE NEIGHBOUR: 'it returns false'. Refute it at one input. -/
def boundSplitsWrong : ChangeSpec := { name := "boundSplits", fn := fun _ => fun
  | [d] => { results := [.lit (.bool false)], args := [d] }
  | _ => none }
def BoundSplitsWrongFalsely : Prop := boundSplitsRow.holds Try.pinned (OpenSpec.ofChange boundSplitsWrong)

/- THE SECOND FORM. 'bulk': how many values and letters a reading holds, each counted each time it is reached (what is shared counts as often as it is met; a slice's spare places count too). A statement '..UptoSaid' is the law's where the arguments, and the package variables that the reading takes, are together of bulk at most 1048576: NARROWER than '..Said'. Prove '..Said' where nothing that the law and all that it calls make is longer than what came in: it says more and counts as full. Else prove '..UptoSaid'. A law counts once. -/
mutual
def uptoBulk {H : Type} : DataW H → Nat
  | .lit (.string bytes) => bytes.length + 1
  | .lit _ => 1
  | .nil => 1
  | .ptr d => uptoBulk d + 1
  | .slice elems spare => uptoBulkAll elems + uptoBulkAll spare + 1
  | .agg parts => uptoBulkAll parts + 1
  | .iface _ d => uptoBulk d + 1
  | .map entries => uptoBulkEntries entries + 1
  | .held _ => 1
def uptoBulkAll {H : Type} : List (DataW H) → Nat
  | [] => 0
  | d :: r => uptoBulk d + uptoBulkAll r
def uptoBulkEntries {H : Type} : List (Lit × DataW H) → Nat
  | [] => 0
  | x :: r => uptoBulkEntry x + uptoBulkEntries r
def uptoBulkEntry {H : Type} : Lit × DataW H → Nat
  | (.string bytes, d) => bytes.length + uptoBulk d + 1
  | (_, d) => uptoBulk d + 1
 end
def uptoSmall : (H : Type) → List (DataW H) → Bool := fun _ ds => decide (uptoBulkAll ds ≤ 1048576)
def OpenSpec.upto (s : _root_.Go.ChangeSpec) : _root_.Go.OpenSpec := { _root_.Go.OpenSpec.ofChange s with cond := some uptoSmall }

/-- 'edictlaw09.BoundAdds', WHERE WHAT IT READS IS OF BULK AT MOST 1048576: true; the input reads as it did. -/
def boundAddsUptoRow : OpenClaim := { program := "ytfhmcgpohpkjgaa", sum := "2d251729bba6bf15226961e5265a7bc00f3e3feb79219f8c57dd8fc15362f77b", func := "edict/edictlaw09.BoundAdds", spec := "boundAdds", inPlace := ["math/bits.Add64"], apart := false, narrowed := true }
def BoundAddsUptoSaid : Prop := boundAddsUptoRow.holds Try.pinned (OpenSpec.upto boundAddsSpec)

/-- 'edictlaw09.BoundMuls', WHERE WHAT IT READS IS OF BULK AT MOST 1048576: true; the input reads as it did. -/
def boundMulsUptoRow : OpenClaim := { program := "ytfhmcgpohpkjgaa", sum := "2d251729bba6bf15226961e5265a7bc00f3e3feb79219f8c57dd8fc15362f77b", func := "edict/edictlaw09.BoundMuls", spec := "boundMuls", apart := false, narrowed := true }
def BoundMulsUptoSaid : Prop := boundMulsUptoRow.holds Try.pinned (OpenSpec.upto boundMulsSpec)

/-- 'edictlaw09.BoundSums', WHERE WHAT IT READS IS OF BULK AT MOST 1048576: true; the input reads as it did. -/
def boundSumsUptoRow : OpenClaim := { program := "ytfhmcgpohpkjgaa", sum := "2d251729bba6bf15226961e5265a7bc00f3e3feb79219f8c57dd8fc15362f77b", func := "edict/edictlaw09.BoundSums", spec := "boundSums", inPlace := ["math/bits.Add64"], apart := false, narrowed := true }
def BoundSumsUptoSaid : Prop := boundSumsUptoRow.holds Try.pinned (OpenSpec.upto boundSumsSpec)

/-- 'edictlaw09.BoundAddIs', WHERE WHAT IT READS IS OF BULK AT MOST 1048576: true; the input reads as it did. -/
def boundAddIsUptoRow : OpenClaim := { program := "ytfhmcgpohpkjgaa", sum := "2d251729bba6bf15226961e5265a7bc00f3e3feb79219f8c57dd8fc15362f77b", func := "edict/edictlaw09.BoundAddIs", spec := "boundAddIs", inPlace := ["math/bits.Add64"], apart := false, narrowed := true }
def BoundAddIsUptoSaid : Prop := boundAddIsUptoRow.holds Try.pinned (OpenSpec.upto boundAddIsSpec)

/-- 'edictlaw09.BoundPows', WHERE WHAT IT READS IS OF BULK AT MOST 1048576: true; the input reads as it did. -/
def boundPowsUptoRow : OpenClaim := { program := "ytfhmcgpohpkjgaa", sum := "2d251729bba6bf15226961e5265a7bc00f3e3feb79219f8c57dd8fc15362f77b", func := "edict/edictlaw09.BoundPows", spec := "boundPows", apart := false, narrowed := true }
def BoundPowsUptoSaid : Prop := boundPowsUptoRow.holds Try.pinned (OpenSpec.upto boundPowsSpec)

/-- 'edictlaw09.BoundPowIs', WHERE WHAT IT READS IS OF BULK AT MOST 1048576: true; the input reads as it did. -/
def boundPowIsUptoRow : OpenClaim := { program := "ytfhmcgpohpkjgaa", sum := "2d251729bba6bf15226961e5265a7bc00f3e3feb79219f8c57dd8fc15362f77b", func := "edict/edictlaw09.BoundPowIs", spec := "boundPowIs", apart := false, narrowed := true }
def BoundPowIsUptoSaid : Prop := boundPowIsUptoRow.holds Try.pinned (OpenSpec.upto boundPowIsSpec)

/-- 'edictlaw09.BoundMulIs', WHERE WHAT IT READS IS OF BULK AT MOST 1048576: true; the input reads as it did. -/
def boundMulIsUptoRow : OpenClaim := { program := "ytfhmcgpohpkjgaa", sum := "2d251729bba6bf15226961e5265a7bc00f3e3feb79219f8c57dd8fc15362f77b", func := "edict/edictlaw09.BoundMulIs", spec := "boundMulIs", inPlace := ["math/bits.Add64"], apart := false, narrowed := true }
def BoundMulIsUptoSaid : Prop := boundMulIsUptoRow.holds Try.pinned (OpenSpec.upto boundMulIsSpec)

/-- 'edictlaw09.BoundFirings', WHERE WHAT IT READS IS OF BULK AT MOST 1048576: true; the input reads as it did. -/
def boundFiringsUptoRow : OpenClaim := { program := "ytfhmcgpohpkjgaa", sum := "2d251729bba6bf15226961e5265a7bc00f3e3feb79219f8c57dd8fc15362f77b", func := "edict/edictlaw09.BoundFirings", spec := "boundFirings", inPlace := ["math/bits.Add64"], apart := false, narrowed := true }
def BoundFiringsUptoSaid : Prop := boundFiringsUptoRow.holds Try.pinned (OpenSpec.upto boundFiringsSpec)

/-- 'edictlaw09.BoundTokens', WHERE WHAT IT READS IS OF BULK AT MOST 1048576: true; the input reads as it did. -/
def boundTokensUptoRow : OpenClaim := { program := "ytfhmcgpohpkjgaa", sum := "2d251729bba6bf15226961e5265a7bc00f3e3feb79219f8c57dd8fc15362f77b", func := "edict/edictlaw09.BoundTokens", spec := "boundTokens", inPlace := ["math/bits.Add64"], apart := false, narrowed := true }
def BoundTokensUptoSaid : Prop := boundTokensUptoRow.holds Try.pinned (OpenSpec.upto boundTokensSpec)

/-- 'edictlaw09.BoundMeters', WHERE WHAT IT READS IS OF BULK AT MOST 1048576: true; the input reads as it did. -/
def boundMetersUptoRow : OpenClaim := { program := "ytfhmcgpohpkjgaa", sum := "2d251729bba6bf15226961e5265a7bc00f3e3feb79219f8c57dd8fc15362f77b", func := "edict/edictlaw09.BoundMeters", spec := "boundMeters", inPlace := ["(*internal/sync.Mutex).Lock", "internal/race.Disable", "sync/atomic.CompareAndSwapInt32", "internal/race.Enable", "internal/race.Acquire", "(*internal/sync.Mutex).lockSlow", "internal/sync.runtime_canSpin", "internal/sync.runtime_doSpin", "internal/sync.throw", "internal/sync.runtime_nanotime", "internal/sync.runtime_SemacquireMutex", "sync/atomic.AddInt32", "(*internal/sync.Mutex).Unlock", "internal/race.ReleaseMerge", "(*internal/sync.Mutex).unlockSlow", "internal/sync.fatal", "internal/sync.runtime_Semrelease"], apart := false, narrowed := true }
def BoundMetersUptoSaid : Prop := boundMetersUptoRow.holds Try.pinned (OpenSpec.upto boundMetersSpec)

/-- 'edictlaw09.BoundMeterKeeps', WHERE WHAT IT READS IS OF BULK AT MOST 1048576: true; the input reads as it did. -/
def boundMeterKeepsUptoRow : OpenClaim := { program := "ytfhmcgpohpkjgaa", sum := "2d251729bba6bf15226961e5265a7bc00f3e3feb79219f8c57dd8fc15362f77b", func := "edict/edictlaw09.BoundMeterKeeps", spec := "boundMeterKeeps", inPlace := ["(*internal/sync.Mutex).Lock", "internal/race.Disable", "sync/atomic.CompareAndSwapInt32", "internal/race.Enable", "internal/race.Acquire", "(*internal/sync.Mutex).lockSlow", "internal/sync.runtime_canSpin", "internal/sync.runtime_doSpin", "internal/sync.throw", "internal/sync.runtime_nanotime", "internal/sync.runtime_SemacquireMutex", "sync/atomic.AddInt32", "(*internal/sync.Mutex).Unlock", "internal/race.ReleaseMerge", "(*internal/sync.Mutex).unlockSlow", "internal/sync.fatal", "internal/sync.runtime_Semrelease"], apart := false, narrowed := true }
def BoundMeterKeepsUptoSaid : Prop := boundMeterKeepsUptoRow.holds Try.pinned (OpenSpec.upto boundMeterKeepsSpec)

/-- 'edictlaw09.BoundCounts', WHERE WHAT IT READS IS OF BULK AT MOST 1048576: true; the input reads as it did. -/
def boundCountsUptoRow : OpenClaim := { program := "ytfhmcgpohpkjgaa", sum := "2d251729bba6bf15226961e5265a7bc00f3e3feb79219f8c57dd8fc15362f77b", func := "edict/edictlaw09.BoundCounts", spec := "boundCounts", inPlace := ["math/bits.Add64"], apart := false, narrowed := true }
def BoundCountsUptoSaid : Prop := boundCountsUptoRow.holds Try.pinned (OpenSpec.upto boundCountsSpec)

/-- 'edictlaw09.BoundSplits', WHERE WHAT IT READS IS OF BULK AT MOST 1048576: true; the input reads as it did. -/
def boundSplitsUptoRow : OpenClaim := { program := "ytfhmcgpohpkjgaa", sum := "2d251729bba6bf15226961e5265a7bc00f3e3feb79219f8c57dd8fc15362f77b", func := "edict/edictlaw09.BoundSplits", spec := "boundSplits", inPlace := ["math/bits.Add64"], apart := false, narrowed := true }
def BoundSplitsUptoSaid : Prop := boundSplitsUptoRow.holds Try.pinned (OpenSpec.upto boundSplitsSpec)

end Rows
end Go.Proofs.Ytfhmcgpohpkjgaa
