/-
  No cell of these rows narrows 'for every input' (looked for: loops, veiled, ifaces, maps, wideKeys, modest, calm, conditions, laid).
  DERIVED. THE GIVEN ROWS OF THIS SEAT. 5 by the template 'for every input the law returns true; each argument reads behind the call as it read before'; 0 by the template 'total and deterministic' (their statements: YtdoekadmocabdaaTotals.lean).
  GIVEN WITH THE SEED: the statements are not yours to turn. If you find one false, say at which input.
  Laid BY PROGRAM, IN A SANDBOX (cutbox-rows.mjs): the forced cells as the released guide's own fill.sh prints them over the translation b83449106336168c… (all of the seat's roots in one cut). By AI agents, Wed Nov 11 2026. No macro, syntax, notation, axiom, sorry.
-/
import Derived.Test.YtdoekadmocabdaaChecked
import GoSem.Claim
import GoSem.ClaimJoined
import GoSem.ClaimMapViews
import Derived.JoinedTies
import Derived.KernelRfl
namespace Go.Proofs.Ytdoekadmocabdaa
/- THE CELL 'sum', in the pinned program and in every row, IS THE sha256 OF THE DUMP (.gsa) THAT YtdoekadmocabdaaProg.lean LOADS. Nothing in Lean hashes anything: it is a label: what it is worth is what the hold of that sum in a sandbox is worth. -/
noncomputable def Try.pinned : Pinned := { name := "ytdoekadmocabdaa", sum := "b83449106336168cd1c978aa66997056059de9d223d734b9c4796f3352d41948", checked := Try.checked }
namespace Rows
def none {H : Type} : Left H := { results := [], args := [] }

/-- 'drayagelaw19.ShipStale': WHATEVER THE INPUT: true; the input reads as it did. -/
def shipStaleSpec : ChangeSpec := { name := "shipStale", fn := fun _ => fun
  | [d1, d2, d3] => { results := [.lit (.bool true)], args := [d1, d2, d3] }
  | _ => none }
def shipStaleRow : OpenClaim := { program := "ytdoekadmocabdaa", sum := "b83449106336168cd1c978aa66997056059de9d223d734b9c4796f3352d41948", func := "drayage/drayagelaw19.ShipStale", spec := "shipStale", unfollowed := true, recurses := true, apart := false }
def ShipStaleSaid : Prop := shipStaleRow.holds Try.pinned (OpenSpec.ofChange shipStaleSpec)

/-- ITS FALSE NEIGHBOUR: 'it returns false'. Refute it at one input. -/
def shipStaleWrong : ChangeSpec := { name := "shipStale", fn := fun _ => fun
  | [d1, d2, d3] => { results := [.lit (.bool false)], args := [d1, d2, d3] }
  | _ => none }
def ShipStaleWrongFalsely : Prop := shipStaleRow.holds Try.pinned (OpenSpec.ofChange shipStaleWrong)

/-- 'drayagelaw19.ShipLost': WHATEVER THE INPUT: true; the input reads as it did. -/
def shipLostSpec : ChangeSpec := { name := "shipLost", fn := fun _ => fun
  | [d1, d2] => { results := [.lit (.bool true)], args := [d1, d2] }
  | _ => none }
def shipLostRow : OpenClaim := { program := "ytdoekadmocabdaa", sum := "b83449106336168cd1c978aa66997056059de9d223d734b9c4796f3352d41948", func := "drayage/drayagelaw19.ShipLost", spec := "shipLost", unfollowed := true, recurses := true, apart := false }
def ShipLostSaid : Prop := shipLostRow.holds Try.pinned (OpenSpec.ofChange shipLostSpec)

/-- ITS FALSE NEIGHBOUR: 'it returns false'. Refute it at one input. -/
def shipLostWrong : ChangeSpec := { name := "shipLost", fn := fun _ => fun
  | [d1, d2] => { results := [.lit (.bool false)], args := [d1, d2] }
  | _ => none }
def ShipLostWrongFalsely : Prop := shipLostRow.holds Try.pinned (OpenSpec.ofChange shipLostWrong)

/-- 'drayagelaw19.ShipCut': WHATEVER THE INPUT: true; the input reads as it did. -/
def shipCutSpec : ChangeSpec := { name := "shipCut", fn := fun _ => fun
  | [d1, d2] => { results := [.lit (.bool true)], args := [d1, d2] }
  | _ => none }
def shipCutRow : OpenClaim := { program := "ytdoekadmocabdaa", sum := "b83449106336168cd1c978aa66997056059de9d223d734b9c4796f3352d41948", func := "drayage/drayagelaw19.ShipCut", spec := "shipCut", unfollowed := true, recurses := true, apart := false }
def ShipCutSaid : Prop := shipCutRow.holds Try.pinned (OpenSpec.ofChange shipCutSpec)

/-- ITS FALSE NEIGHBOUR: 'it returns false'. Refute it at one input. -/
def shipCutWrong : ChangeSpec := { name := "shipCut", fn := fun _ => fun
  | [d1, d2] => { results := [.lit (.bool false)], args := [d1, d2] }
  | _ => none }
def ShipCutWrongFalsely : Prop := shipCutRow.holds Try.pinned (OpenSpec.ofChange shipCutWrong)

/-- 'drayagelaw20.LedgerEnds': WHATEVER THE INPUT: true; the input reads as it did. -/
def ledgerEndsSpec : ChangeSpec := { name := "ledgerEnds", fn := fun _ => fun
  | [d1, d2] => { results := [.lit (.bool true)], args := [d1, d2] }
  | _ => none }
def ledgerEndsRow : OpenClaim := { program := "ytdoekadmocabdaa", sum := "b83449106336168cd1c978aa66997056059de9d223d734b9c4796f3352d41948", func := "drayage/drayagelaw20.LedgerEnds", spec := "ledgerEnds", inPlace := ["sync/atomic.AddInt64"], apart := false }
def LedgerEndsSaid : Prop := ledgerEndsRow.holds Try.pinned (OpenSpec.ofChange ledgerEndsSpec)

/-- ITS FALSE NEIGHBOUR: 'it returns false'. Refute it at one input. -/
def ledgerEndsWrong : ChangeSpec := { name := "ledgerEnds", fn := fun _ => fun
  | [d1, d2] => { results := [.lit (.bool false)], args := [d1, d2] }
  | _ => none }
def LedgerEndsWrongFalsely : Prop := ledgerEndsRow.holds Try.pinned (OpenSpec.ofChange ledgerEndsWrong)

/-- 'drayagelaw20.LedgerNil': WHATEVER THE INPUT: true; the input reads as it did. -/
def ledgerNilSpec : ChangeSpec := { name := "ledgerNil", fn := fun _ => fun
  | [d] => { results := [.lit (.bool true)], args := [d] }
  | _ => none }
def ledgerNilRow : OpenClaim := { program := "ytdoekadmocabdaa", sum := "b83449106336168cd1c978aa66997056059de9d223d734b9c4796f3352d41948", func := "drayage/drayagelaw20.LedgerNil", spec := "ledgerNil", inPlace := ["sync/atomic.AddInt64"], apart := false }
def LedgerNilSaid : Prop := ledgerNilRow.holds Try.pinned (OpenSpec.ofChange ledgerNilSpec)

/-- ITS FALSE NEIGHBOUR: 'it returns false'. Refute it at one input. -/
def ledgerNilWrong : ChangeSpec := { name := "ledgerNil", fn := fun _ => fun
  | [d] => { results := [.lit (.bool false)], args := [d] }
  | _ => none }
def LedgerNilWrongFalsely : Prop := ledgerNilRow.holds Try.pinned (OpenSpec.ofChange ledgerNilWrong)

/- THE SECOND FORM. 'bulk': how many values and letters a reading holds, each counted each time it is reached (what is shared counts as often as it is met; a slice's spare places count too). A statement '..UptoSaid' is the law's where the arguments, and the package variables that the reading takes, are together of bulk at most 1048576: NARROWER than '..Said'. Prove '..Said' where nothing that the law and all that it calls make is longer than what came in: it says more and counts as full. Else prove '..UptoSaid'. A law counts once. -/
mutual
def uptoBulk {H : Type} : DataW H → Nat
  | .lit (.string bytes) => bytes.length + 1
  | .lit _ => 1
  | .nil => 1
  | .ptr d => uptoBulk d + 1
  | .slice elems spare => uptoBulkAll elems + uptoBulkAll spare + 1
  | .agg parts => uptoBulkAll parts + 1
  | .iface _ d => uptoBulk d + 1
  | .map entries => uptoBulkEntries entries + 1
  | .held _ => 1
def uptoBulkAll {H : Type} : List (DataW H) → Nat
  | [] => 0
  | d :: r => uptoBulk d + uptoBulkAll r
def uptoBulkEntries {H : Type} : List (Lit × DataW H) → Nat
  | [] => 0
  | x :: r => uptoBulkEntry x + uptoBulkEntries r
def uptoBulkEntry {H : Type} : Lit × DataW H → Nat
  | (.string bytes, d) => bytes.length + uptoBulk d + 1
  | (_, d) => uptoBulk d + 1
 end
def uptoSmall : (H : Type) → List (DataW H) → Bool := fun _ ds => decide (uptoBulkAll ds ≤ 1048576)
def OpenSpec.upto (s : _root_.Go.ChangeSpec) : _root_.Go.OpenSpec := { _root_.Go.OpenSpec.ofChange s with cond := some uptoSmall }

/-- 'drayagelaw19.ShipStale', WHERE WHAT IT READS IS OF BULK AT MOST 1048576: true; the input reads as it did. -/
def shipStaleUptoRow : OpenClaim := { program := "ytdoekadmocabdaa", sum := "b83449106336168cd1c978aa66997056059de9d223d734b9c4796f3352d41948", func := "drayage/drayagelaw19.ShipStale", spec := "shipStale", unfollowed := true, recurses := true, apart := false, narrowed := true }
def ShipStaleUptoSaid : Prop := shipStaleUptoRow.holds Try.pinned (OpenSpec.upto shipStaleSpec)

/-- 'drayagelaw19.ShipLost', WHERE WHAT IT READS IS OF BULK AT MOST 1048576: true; the input reads as it did. -/
def shipLostUptoRow : OpenClaim := { program := "ytdoekadmocabdaa", sum := "b83449106336168cd1c978aa66997056059de9d223d734b9c4796f3352d41948", func := "drayage/drayagelaw19.ShipLost", spec := "shipLost", unfollowed := true, recurses := true, apart := false, narrowed := true }
def ShipLostUptoSaid : Prop := shipLostUptoRow.holds Try.pinned (OpenSpec.upto shipLostSpec)

/-- 'drayagelaw19.ShipCut', WHERE WHAT IT READS IS OF BULK AT MOST 1048576: true; the input reads as it did. -/
def shipCutUptoRow : OpenClaim := { program := "ytdoekadmocabdaa", sum := "b83449106336168cd1c978aa66997056059de9d223d734b9c4796f3352d41948", func := "drayage/drayagelaw19.ShipCut", spec := "shipCut", unfollowed := true, recurses := true, apart := false, narrowed := true }
def ShipCutUptoSaid : Prop := shipCutUptoRow.holds Try.pinned (OpenSpec.upto shipCutSpec)

/-- 'drayagelaw20.LedgerEnds', WHERE WHAT IT READS IS OF BULK AT MOST 1048576: true; the input reads as it did. -/
def ledgerEndsUptoRow : OpenClaim := { program := "ytdoekadmocabdaa", sum := "b83449106336168cd1c978aa66997056059de9d223d734b9c4796f3352d41948", func := "drayage/drayagelaw20.LedgerEnds", spec := "ledgerEnds", inPlace := ["sync/atomic.AddInt64"], apart := false, narrowed := true }
def LedgerEndsUptoSaid : Prop := ledgerEndsUptoRow.holds Try.pinned (OpenSpec.upto ledgerEndsSpec)

/-- 'drayagelaw20.LedgerNil', WHERE WHAT IT READS IS OF BULK AT MOST 1048576: true; the input reads as it did. -/
def ledgerNilUptoRow : OpenClaim := { program := "ytdoekadmocabdaa", sum := "b83449106336168cd1c978aa66997056059de9d223d734b9c4796f3352d41948", func := "drayage/drayagelaw20.LedgerNil", spec := "ledgerNil", inPlace := ["sync/atomic.AddInt64"], apart := false, narrowed := true }
def LedgerNilUptoSaid : Prop := ledgerNilUptoRow.holds Try.pinned (OpenSpec.upto ledgerNilSpec)

end Rows
end Go.Proofs.Ytdoekadmocabdaa
