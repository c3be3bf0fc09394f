/-
  NARROWER THAN 'FOR EVERY INPUT', by the rows' own cells (each row's printed sentence says how): HistoryOrder: laid · DaemonDeadlock: laid · DaemonBusy: laid · DaemonGrants: laid · DaemonNil: laid.
  DERIVED. THE GIVEN ROWS OF THIS SEAT. 5 by the template 'for every input the law returns true; each argument reads behind the call as it read before'; 0 by the template 'total and deterministic' (their statements: YtnieadkafeohlaaGreatDoorTotals.lean).
  GIVEN WITH THE SEED: the statements are not yours to turn. If you find one false, say at which input.
  Laid BY PROGRAM, IN A SANDBOX (cutbox-rows.mjs): the forced cells as the released guide's own fill.sh prints them over the translation 325a3d8510502e05… (all of the seat's roots in one cut). By AI agents, Wed Nov 11 2026. No macro, syntax, notation, axiom, sorry.
-/
import Derived.Test.YtnieadkafeohlaaGreatDoorChecked
import GoSem.PinnedTables
import GoSem.Claim
import GoSem.ClaimJoined
import GoSem.ClaimMapViews
import Derived.JoinedTies
import Derived.KernelRfl
namespace Go.Proofs.YtnieadkafeohlaaGreatDoor
/- THE CELL 'sum', in the pinned program and in every row, IS THE sha256 OF THE DUMP (.gsa) THAT YtnieadkafeohlaaGreatDoorProg.lean LOADS. Nothing in Lean hashes anything: it is a label: what it is worth is what the hold of that sum in a sandbox is worth. -/
noncomputable def Tryz.pinned : Pinned := { name := "ytnieadkafeohlaagreatdoor", sum := "325a3d8510502e0514d4f52804f7fb3c662fca4b0f780da83d154b5074dc0c24", checked := Tryz.checked }
namespace Rows
def none {H : Type} : Left H := { results := [], args := [] }

/- WHAT THE LISTED PACKAGE-LEVEL VARIABLES READ AS WHEN THE CALL BEGINS. Each datum BY PROGRAM (the guide's laid-datum.mjs) off the statement by which the dump's own 'gosem.cut.vars' lays the variable. In a bare row this is a premise. The card (YtnieadkafeohlaaGreatDoorCards.lean) ties it to the program's text. -/
def laid_godown_hash_first {H : Type} : DataW H := .agg [.lit (.int .u32 1779033703), .lit (.int .u32 3144134277), .lit (.int .u32 1013904242), .lit (.int .u32 2773480762), .lit (.int .u32 1359893119), .lit (.int .u32 2600822924), .lit (.int .u32 528734635), .lit (.int .u32 1541459225)]
def laid_godown_hash_keys {H : Type} : DataW H := .agg [.lit (.int .u32 1116352408), .lit (.int .u32 1899447441), .lit (.int .u32 3049323471), .lit (.int .u32 3921009573), .lit (.int .u32 961987163), .lit (.int .u32 1508970993), .lit (.int .u32 2453635748), .lit (.int .u32 2870763221), .lit (.int .u32 3624381080), .lit (.int .u32 310598401), .lit (.int .u32 607225278), .lit (.int .u32 1426881987), .lit (.int .u32 1925078388), .lit (.int .u32 2162078206), .lit (.int .u32 2614888103), .lit (.int .u32 3248222580), .lit (.int .u32 3835390401), .lit (.int .u32 4022224774), .lit (.int .u32 264347078), .lit (.int .u32 604807628), .lit (.int .u32 770255983), .lit (.int .u32 1249150122), .lit (.int .u32 1555081692), .lit (.int .u32 1996064986), .lit (.int .u32 2554220882), .lit (.int .u32 2821834349), .lit (.int .u32 2952996808), .lit (.int .u32 3210313671), .lit (.int .u32 3336571891), .lit (.int .u32 3584528711), .lit (.int .u32 113926993), .lit (.int .u32 338241895), .lit (.int .u32 666307205), .lit (.int .u32 773529912), .lit (.int .u32 1294757372), .lit (.int .u32 1396182291), .lit (.int .u32 1695183700), .lit (.int .u32 1986661051), .lit (.int .u32 2177026350), .lit (.int .u32 2456956037), .lit (.int .u32 2730485921), .lit (.int .u32 2820302411), .lit (.int .u32 3259730800), .lit (.int .u32 3345764771), .lit (.int .u32 3516065817), .lit (.int .u32 3600352804), .lit (.int .u32 4094571909), .lit (.int .u32 275423344), .lit (.int .u32 430227734), .lit (.int .u32 506948616), .lit (.int .u32 659060556), .lit (.int .u32 883997877), .lit (.int .u32 958139571), .lit (.int .u32 1322822218), .lit (.int .u32 1537002063), .lit (.int .u32 1747873779), .lit (.int .u32 1955562222), .lit (.int .u32 2024104815), .lit (.int .u32 2227730452), .lit (.int .u32 2361852424), .lit (.int .u32 2428436474), .lit (.int .u32 2756734187), .lit (.int .u32 3204031479), .lit (.int .u32 3329325298)]
def laid_unicode_utf8_acceptRanges {H : Type} : DataW H := .agg [.agg [.lit (.int .u8 128), .lit (.int .u8 191)], .agg [.lit (.int .u8 160), .lit (.int .u8 191)], .agg [.lit (.int .u8 128), .lit (.int .u8 159)], .agg [.lit (.int .u8 144), .lit (.int .u8 191)], .agg [.lit (.int .u8 128), .lit (.int .u8 143)], .agg [.lit (.int .u8 0), .lit (.int .u8 0)], .agg [.lit (.int .u8 0), .lit (.int .u8 0)], .agg [.lit (.int .u8 0), .lit (.int .u8 0)], .agg [.lit (.int .u8 0), .lit (.int .u8 0)], .agg [.lit (.int .u8 0), .lit (.int .u8 0)], .agg [.lit (.int .u8 0), .lit (.int .u8 0)], .agg [.lit (.int .u8 0), .lit (.int .u8 0)], .agg [.lit (.int .u8 0), .lit (.int .u8 0)], .agg [.lit (.int .u8 0), .lit (.int .u8 0)], .agg [.lit (.int .u8 0), .lit (.int .u8 0)], .agg [.lit (.int .u8 0), .lit (.int .u8 0)]]
/-- One of Go's own tables, pinned by name: the form's constant. -/
def laid_unicode_utf8_first : DataW Unit := Go.Pinned.utf8First
def laid_godown_request_names {H : Type} : DataW H := .agg [.lit (.string []), .lit (.string [97, 100, 100]), .lit (.string [118, 97, 108, 105, 100]), .lit (.string [105, 110, 102, 111]), .lit (.string [114, 101, 102, 115]), .lit (.string [114, 101, 102, 101, 114, 114, 101, 114, 115]), .lit (.string [99, 108, 111, 115, 117, 114, 101]), .lit (.string [114, 101, 103, 105, 115, 116, 101, 114]), .lit (.string [114, 111, 111, 116]), .lit (.string [117, 110, 114, 111, 111, 116]), .lit (.string [100, 101, 108, 101, 116, 101]), .lit (.string [99, 111, 108, 108, 101, 99, 116]), .lit (.string [118, 101, 114, 105, 102, 121])]

/-- 'godownlaw20.HistoryOrder': WHATEVER THE INPUT: true; the input reads as it did. -/
def historyOrderSpec : ChangeSpec := { name := "historyOrder", fn := fun _ => fun
  | [d] => { results := [.lit (.bool true)], args := [d] }
  | _ => none }
def historyOrderRow : OpenClaim := { program := "ytnieadkafeohlaagreatdoor", sum := "325a3d8510502e0514d4f52804f7fb3c662fca4b0f780da83d154b5074dc0c24", func := "godown/godownlaw20.HistoryOrder", spec := "historyOrder", inPlace := ["internal/bytealg.IndexByteString", "internal/bytealg.IndexString", "internal/abi.NoEscape", "math.Float64frombits", "math.Float64bits"], unfollowed := true, recurses := true, named := ["unicode/utf8.first", "unicode/utf8.acceptRanges", "godown/hash.first", "godown/hash.keys", "internal/bytealg.MaxLen"], apart := false, laid := [("godown/hash.first", laid_godown_hash_first), ("godown/hash.keys", laid_godown_hash_keys), ("unicode/utf8.acceptRanges", laid_unicode_utf8_acceptRanges), ("unicode/utf8.first", laid_unicode_utf8_first)] }
def HistoryOrderSaid : Prop := historyOrderRow.holds Tryz.pinned (OpenSpec.ofChange historyOrderSpec)

/-- ITS FALSE NEIGHBOUR: 'it returns false'. Refute it at one input. -/
def historyOrderWrong : ChangeSpec := { name := "historyOrder", fn := fun _ => fun
  | [d] => { results := [.lit (.bool false)], args := [d] }
  | _ => none }
def HistoryOrderWrongFalsely : Prop := historyOrderRow.holds Tryz.pinned (OpenSpec.ofChange historyOrderWrong)

/-- 'godownlaw19.DaemonDeadlock': WHATEVER THE INPUT: true; the input reads as it did. -/
def daemonDeadlockSpec : ChangeSpec := { name := "daemonDeadlock", fn := fun _ => fun
  | [d1, d2, d3] => { results := [.lit (.bool true)], args := [d1, d2, d3] }
  | _ => none }
def daemonDeadlockRow : OpenClaim := { program := "ytnieadkafeohlaagreatdoor", sum := "325a3d8510502e0514d4f52804f7fb3c662fca4b0f780da83d154b5074dc0c24", func := "godown/godownlaw19.DaemonDeadlock", spec := "daemonDeadlock", inPlace := ["math.Float64frombits", "math.Float64bits", "internal/bytealg.IndexByteString", "internal/bytealg.IndexString", "internal/abi.NoEscape", "slices.overlaps[godown/lock.waiter]"], unfollowed := true, recurses := true, named := ["godown/request.names", "unicode/utf8.first", "unicode/utf8.acceptRanges", "godown/hash.first", "godown/hash.keys", "internal/bytealg.MaxLen"], apart := false, laid := [("godown/hash.first", laid_godown_hash_first), ("godown/hash.keys", laid_godown_hash_keys), ("unicode/utf8.acceptRanges", laid_unicode_utf8_acceptRanges), ("godown/request.names", laid_godown_request_names), ("unicode/utf8.first", laid_unicode_utf8_first)] }
def DaemonDeadlockSaid : Prop := daemonDeadlockRow.holds Tryz.pinned (OpenSpec.ofChange daemonDeadlockSpec)

/-- ITS FALSE NEIGHBOUR: 'it returns false'. Refute it at one input. -/
def daemonDeadlockWrong : ChangeSpec := { name := "daemonDeadlock", fn := fun _ => fun
  | [d1, d2, d3] => { results := [.lit (.bool false)], args := [d1, d2, d3] }
  | _ => none }
def DaemonDeadlockWrongFalsely : Prop := daemonDeadlockRow.holds Tryz.pinned (OpenSpec.ofChange daemonDeadlockWrong)

/-- 'godownlaw19.DaemonBusy': WHATEVER THE INPUT: true; the input reads as it did. -/
def daemonBusySpec : ChangeSpec := { name := "daemonBusy", fn := fun _ => fun
  | [d1, d2] => { results := [.lit (.bool true)], args := [d1, d2] }
  | _ => none }
def daemonBusyRow : OpenClaim := { program := "ytnieadkafeohlaagreatdoor", sum := "325a3d8510502e0514d4f52804f7fb3c662fca4b0f780da83d154b5074dc0c24", func := "godown/godownlaw19.DaemonBusy", spec := "daemonBusy", inPlace := ["math.Float64frombits", "math.Float64bits", "internal/bytealg.IndexByteString", "internal/bytealg.IndexString", "internal/abi.NoEscape", "slices.overlaps[godown/lock.waiter]"], unfollowed := true, recurses := true, named := ["godown/request.names", "unicode/utf8.first", "unicode/utf8.acceptRanges", "godown/hash.first", "godown/hash.keys", "internal/bytealg.MaxLen"], apart := false, laid := [("godown/hash.first", laid_godown_hash_first), ("godown/hash.keys", laid_godown_hash_keys), ("unicode/utf8.acceptRanges", laid_unicode_utf8_acceptRanges), ("godown/request.names", laid_godown_request_names), ("unicode/utf8.first", laid_unicode_utf8_first)] }
def DaemonBusySaid : Prop := daemonBusyRow.holds Tryz.pinned (OpenSpec.ofChange daemonBusySpec)

/-- ITS FALSE NEIGHBOUR: 'it returns false'. Refute it at one input. -/
def daemonBusyWrong : ChangeSpec := { name := "daemonBusy", fn := fun _ => fun
  | [d1, d2] => { results := [.lit (.bool false)], args := [d1, d2] }
  | _ => none }
def DaemonBusyWrongFalsely : Prop := daemonBusyRow.holds Tryz.pinned (OpenSpec.ofChange daemonBusyWrong)

/-- 'godownlaw19.DaemonGrants': WHATEVER THE INPUT: true; the input reads as it did. -/
def daemonGrantsSpec : ChangeSpec := { name := "daemonGrants", fn := fun _ => fun
  | [d1, d2] => { results := [.lit (.bool true)], args := [d1, d2] }
  | _ => none }
def daemonGrantsRow : OpenClaim := { program := "ytnieadkafeohlaagreatdoor", sum := "325a3d8510502e0514d4f52804f7fb3c662fca4b0f780da83d154b5074dc0c24", func := "godown/godownlaw19.DaemonGrants", spec := "daemonGrants", inPlace := ["math.Float64frombits", "math.Float64bits", "internal/bytealg.IndexByteString", "internal/bytealg.IndexString", "internal/abi.NoEscape", "slices.overlaps[godown/lock.waiter]"], unfollowed := true, recurses := true, named := ["godown/request.names", "unicode/utf8.first", "unicode/utf8.acceptRanges", "godown/hash.first", "godown/hash.keys", "internal/bytealg.MaxLen"], apart := false, laid := [("godown/hash.first", laid_godown_hash_first), ("godown/hash.keys", laid_godown_hash_keys), ("unicode/utf8.acceptRanges", laid_unicode_utf8_acceptRanges), ("godown/request.names", laid_godown_request_names), ("unicode/utf8.first", laid_unicode_utf8_first)] }
def DaemonGrantsSaid : Prop := daemonGrantsRow.holds Tryz.pinned (OpenSpec.ofChange daemonGrantsSpec)

/-- ITS FALSE NEIGHBOUR: 'it returns false'. Refute it at one input. -/
def daemonGrantsWrong : ChangeSpec := { name := "daemonGrants", fn := fun _ => fun
  | [d1, d2] => { results := [.lit (.bool false)], args := [d1, d2] }
  | _ => none }
def DaemonGrantsWrongFalsely : Prop := daemonGrantsRow.holds Tryz.pinned (OpenSpec.ofChange daemonGrantsWrong)

/-- 'godownlaw19.DaemonNil': WHATEVER THE INPUT: true; the input reads as it did. -/
def daemonNilSpec : ChangeSpec := { name := "daemonNil", fn := fun _ => fun
  | [d1, d2] => { results := [.lit (.bool true)], args := [d1, d2] }
  | _ => none }
def daemonNilRow : OpenClaim := { program := "ytnieadkafeohlaagreatdoor", sum := "325a3d8510502e0514d4f52804f7fb3c662fca4b0f780da83d154b5074dc0c24", func := "godown/godownlaw19.DaemonNil", spec := "daemonNil", inPlace := ["math.Float64frombits", "math.Float64bits", "internal/bytealg.IndexByteString", "internal/bytealg.IndexString", "internal/abi.NoEscape", "slices.overlaps[godown/lock.waiter]"], unfollowed := true, recurses := true, named := ["godown/request.names", "unicode/utf8.first", "unicode/utf8.acceptRanges", "godown/hash.first", "godown/hash.keys", "internal/bytealg.MaxLen"], apart := false, laid := [("godown/hash.first", laid_godown_hash_first), ("godown/hash.keys", laid_godown_hash_keys), ("unicode/utf8.acceptRanges", laid_unicode_utf8_acceptRanges), ("godown/request.names", laid_godown_request_names), ("unicode/utf8.first", laid_unicode_utf8_first)] }
def DaemonNilSaid : Prop := daemonNilRow.holds Tryz.pinned (OpenSpec.ofChange daemonNilSpec)

/-- ITS FALSE NEIGHBOUR: 'it returns false'. Refute it at one input. -/
def daemonNilWrong : ChangeSpec := { name := "daemonNil", fn := fun _ => fun
  | [d1, d2] => { results := [.lit (.bool false)], args := [d1, d2] }
  | _ => none }
def DaemonNilWrongFalsely : Prop := daemonNilRow.holds Tryz.pinned (OpenSpec.ofChange daemonNilWrong)

/- THE SECOND FORM. 'bulk': how many values and letters a reading holds, each counted each time it is reached (what is shared counts as often as it is met; a slice's spare places count too). A statement '..UptoSaid' is the law's where the arguments, and the package variables that the reading takes, are together of bulk at most 1048576: NARROWER than '..Said'. Prove '..Said' where nothing that the law and all that it calls make is longer than what came in: it says more and counts as full. Else prove '..UptoSaid'. A law counts once. -/
mutual
def uptoBulk {H : Type} : DataW H → Nat
  | .lit (.string bytes) => bytes.length + 1
  | .lit _ => 1
  | .nil => 1
  | .ptr d => uptoBulk d + 1
  | .slice elems spare => uptoBulkAll elems + uptoBulkAll spare + 1
  | .agg parts => uptoBulkAll parts + 1
  | .iface _ d => uptoBulk d + 1
  | .map entries => uptoBulkEntries entries + 1
  | .held _ => 1
def uptoBulkAll {H : Type} : List (DataW H) → Nat
  | [] => 0
  | d :: r => uptoBulk d + uptoBulkAll r
def uptoBulkEntries {H : Type} : List (Lit × DataW H) → Nat
  | [] => 0
  | x :: r => uptoBulkEntry x + uptoBulkEntries r
def uptoBulkEntry {H : Type} : Lit × DataW H → Nat
  | (.string bytes, d) => bytes.length + uptoBulk d + 1
  | (_, d) => uptoBulk d + 1
 end
def uptoSmall : (H : Type) → List (DataW H) → Bool := fun _ ds => decide (uptoBulkAll ds ≤ 1048576)
def OpenSpec.upto (s : _root_.Go.ChangeSpec) : _root_.Go.OpenSpec := { _root_.Go.OpenSpec.ofChange s with cond := some uptoSmall }

/-- 'godownlaw20.HistoryOrder', WHERE WHAT IT READS IS OF BULK AT MOST 1048576: true; the input reads as it did. -/
def historyOrderUptoRow : OpenClaim := { program := "ytnieadkafeohlaagreatdoor", sum := "325a3d8510502e0514d4f52804f7fb3c662fca4b0f780da83d154b5074dc0c24", func := "godown/godownlaw20.HistoryOrder", spec := "historyOrder", inPlace := ["internal/bytealg.IndexByteString", "internal/bytealg.IndexString", "internal/abi.NoEscape", "math.Float64frombits", "math.Float64bits"], unfollowed := true, recurses := true, named := ["unicode/utf8.first", "unicode/utf8.acceptRanges", "godown/hash.first", "godown/hash.keys", "internal/bytealg.MaxLen"], apart := false, laid := [("godown/hash.first", laid_godown_hash_first), ("godown/hash.keys", laid_godown_hash_keys), ("unicode/utf8.acceptRanges", laid_unicode_utf8_acceptRanges), ("unicode/utf8.first", laid_unicode_utf8_first)], narrowed := true }
def HistoryOrderUptoSaid : Prop := historyOrderUptoRow.holds Tryz.pinned (OpenSpec.upto historyOrderSpec)

/-- 'godownlaw19.DaemonDeadlock', WHERE WHAT IT READS IS OF BULK AT MOST 1048576: true; the input reads as it did. -/
def daemonDeadlockUptoRow : OpenClaim := { program := "ytnieadkafeohlaagreatdoor", sum := "325a3d8510502e0514d4f52804f7fb3c662fca4b0f780da83d154b5074dc0c24", func := "godown/godownlaw19.DaemonDeadlock", spec := "daemonDeadlock", inPlace := ["math.Float64frombits", "math.Float64bits", "internal/bytealg.IndexByteString", "internal/bytealg.IndexString", "internal/abi.NoEscape", "slices.overlaps[godown/lock.waiter]"], unfollowed := true, recurses := true, named := ["godown/request.names", "unicode/utf8.first", "unicode/utf8.acceptRanges", "godown/hash.first", "godown/hash.keys", "internal/bytealg.MaxLen"], apart := false, laid := [("godown/hash.first", laid_godown_hash_first), ("godown/hash.keys", laid_godown_hash_keys), ("unicode/utf8.acceptRanges", laid_unicode_utf8_acceptRanges), ("godown/request.names", laid_godown_request_names), ("unicode/utf8.first", laid_unicode_utf8_first)], narrowed := true }
def DaemonDeadlockUptoSaid : Prop := daemonDeadlockUptoRow.holds Tryz.pinned (OpenSpec.upto daemonDeadlockSpec)

/-- 'godownlaw19.DaemonBusy', WHERE WHAT IT READS IS OF BULK AT MOST 1048576: true; the input reads as it did. -/
def daemonBusyUptoRow : OpenClaim := { program := "ytnieadkafeohlaagreatdoor", sum := "325a3d8510502e0514d4f52804f7fb3c662fca4b0f780da83d154b5074dc0c24", func := "godown/godownlaw19.DaemonBusy", spec := "daemonBusy", inPlace := ["math.Float64frombits", "math.Float64bits", "internal/bytealg.IndexByteString", "internal/bytealg.IndexString", "internal/abi.NoEscape", "slices.overlaps[godown/lock.waiter]"], unfollowed := true, recurses := true, named := ["godown/request.names", "unicode/utf8.first", "unicode/utf8.acceptRanges", "godown/hash.first", "godown/hash.keys", "internal/bytealg.MaxLen"], apart := false, laid := [("godown/hash.first", laid_godown_hash_first), ("godown/hash.keys", laid_godown_hash_keys), ("unicode/utf8.acceptRanges", laid_unicode_utf8_acceptRanges), ("godown/request.names", laid_godown_request_names), ("unicode/utf8.first", laid_unicode_utf8_first)], narrowed := true }
def DaemonBusyUptoSaid : Prop := daemonBusyUptoRow.holds Tryz.pinned (OpenSpec.upto daemonBusySpec)

/-- 'godownlaw19.DaemonGrants', WHERE WHAT IT READS IS OF BULK AT MOST 1048576: true; the input reads as it did. -/
def daemonGrantsUptoRow : OpenClaim := { program := "ytnieadkafeohlaagreatdoor", sum := "325a3d8510502e0514d4f52804f7fb3c662fca4b0f780da83d154b5074dc0c24", func := "godown/godownlaw19.DaemonGrants", spec := "daemonGrants", inPlace := ["math.Float64frombits", "math.Float64bits", "internal/bytealg.IndexByteString", "internal/bytealg.IndexString", "internal/abi.NoEscape", "slices.overlaps[godown/lock.waiter]"], unfollowed := true, recurses := true, named := ["godown/request.names", "unicode/utf8.first", "unicode/utf8.acceptRanges", "godown/hash.first", "godown/hash.keys", "internal/bytealg.MaxLen"], apart := false, laid := [("godown/hash.first", laid_godown_hash_first), ("godown/hash.keys", laid_godown_hash_keys), ("unicode/utf8.acceptRanges", laid_unicode_utf8_acceptRanges), ("godown/request.names", laid_godown_request_names), ("unicode/utf8.first", laid_unicode_utf8_first)], narrowed := true }
def DaemonGrantsUptoSaid : Prop := daemonGrantsUptoRow.holds Tryz.pinned (OpenSpec.upto daemonGrantsSpec)

/-- 'godownlaw19.DaemonNil', WHERE WHAT IT READS IS OF BULK AT MOST 1048576: true; the input reads as it did. -/
def daemonNilUptoRow : OpenClaim := { program := "ytnieadkafeohlaagreatdoor", sum := "325a3d8510502e0514d4f52804f7fb3c662fca4b0f780da83d154b5074dc0c24", func := "godown/godownlaw19.DaemonNil", spec := "daemonNil", inPlace := ["math.Float64frombits", "math.Float64bits", "internal/bytealg.IndexByteString", "internal/bytealg.IndexString", "internal/abi.NoEscape", "slices.overlaps[godown/lock.waiter]"], unfollowed := true, recurses := true, named := ["godown/request.names", "unicode/utf8.first", "unicode/utf8.acceptRanges", "godown/hash.first", "godown/hash.keys", "internal/bytealg.MaxLen"], apart := false, laid := [("godown/hash.first", laid_godown_hash_first), ("godown/hash.keys", laid_godown_hash_keys), ("unicode/utf8.acceptRanges", laid_unicode_utf8_acceptRanges), ("godown/request.names", laid_godown_request_names), ("unicode/utf8.first", laid_unicode_utf8_first)], narrowed := true }
def DaemonNilUptoSaid : Prop := daemonNilUptoRow.holds Tryz.pinned (OpenSpec.upto daemonNilSpec)

end Rows
end Go.Proofs.YtnieadkafeohlaaGreatDoor
