/-
  No cell of these rows narrows 'for every input' (looked for: loops, veiled, ifaces, maps, wideKeys, modest, calm, conditions, laid).
  DERIVED. THE GIVEN ROWS OF THIS SEAT. 3 by the template 'for every input the law returns true; each argument reads behind the call as it read before'; 0 by the template 'total and deterministic' (their statements: YtldjhbmccnbciaaTotals.lean).
  GIVEN WITH THE SEED: the statements are not yours to turn. If you find one false, say at which input.
  Laid BY PROGRAM, IN A SANDBOX (cutbox-rows.mjs): the forced cells as the released guide's own fill.sh prints them over the translation 7c13e2dd33fb60af… (all of the seat's roots in one cut). By AI agents, Wed Nov 11 2026. No macro, syntax, notation, axiom, sorry.
-/
import Derived.Test.YtldjhbmccnbciaaChecked
import GoSem.Claim
import GoSem.ClaimJoined
import GoSem.ClaimMapViews
import Derived.JoinedTies
import Derived.KernelRfl
namespace Go.Proofs.Ytldjhbmccnbciaa
/- THE CELL 'sum', in the pinned program and in every row, IS THE sha256 OF THE DUMP (.gsa) THAT YtldjhbmccnbciaaProg.lean LOADS. Nothing in Lean hashes anything: it is a label: what it is worth is what the hold of that sum in a sandbox is worth. -/
noncomputable def Try.pinned : Pinned := { name := "ytldjhbmccnbciaa", sum := "7c13e2dd33fb60af07bda35a9ac5bc4a04435037130f1e5bafa869d17cf6c8b1", checked := Try.checked }
namespace Rows
def none {H : Type} : Left H := { results := [], args := [] }

/-- 'rutterlaw15.DpathGuest': WHATEVER THE INPUT: true; the input reads as it did. -/
def dpathGuestSpec : ChangeSpec := { name := "dpathGuest", fn := fun _ => fun
  | [d1, d2, d3] => { results := [.lit (.bool true)], args := [d1, d2, d3] }
  | _ => none }
def dpathGuestRow : OpenClaim := { program := "ytldjhbmccnbciaa", sum := "7c13e2dd33fb60af07bda35a9ac5bc4a04435037130f1e5bafa869d17cf6c8b1", func := "rutter/rutterlaw15.DpathGuest", spec := "dpathGuest", unfollowed := true, recurses := true, apart := false }
def DpathGuestSaid : Prop := dpathGuestRow.holds Try.pinned (OpenSpec.ofChange dpathGuestSpec)

/-- ITS FALSE NEIGHBOUR: 'it returns false'. Refute it at one input. -/
def dpathGuestWrong : ChangeSpec := { name := "dpathGuest", fn := fun _ => fun
  | [d1, d2, d3] => { results := [.lit (.bool false)], args := [d1, d2, d3] }
  | _ => none }
def DpathGuestWrongFalsely : Prop := dpathGuestRow.holds Try.pinned (OpenSpec.ofChange dpathGuestWrong)

/-- 'rutterlaw15.DpathTunnel': WHATEVER THE INPUT: true; the input reads as it did. -/
def dpathTunnelSpec : ChangeSpec := { name := "dpathTunnel", fn := fun _ => fun
  | [d1, d2, d3] => { results := [.lit (.bool true)], args := [d1, d2, d3] }
  | _ => none }
def dpathTunnelRow : OpenClaim := { program := "ytldjhbmccnbciaa", sum := "7c13e2dd33fb60af07bda35a9ac5bc4a04435037130f1e5bafa869d17cf6c8b1", func := "rutter/rutterlaw15.DpathTunnel", spec := "dpathTunnel", unfollowed := true, recurses := true, apart := false }
def DpathTunnelSaid : Prop := dpathTunnelRow.holds Try.pinned (OpenSpec.ofChange dpathTunnelSpec)

/-- ITS FALSE NEIGHBOUR: 'it returns false'. Refute it at one input. -/
def dpathTunnelWrong : ChangeSpec := { name := "dpathTunnel", fn := fun _ => fun
  | [d1, d2, d3] => { results := [.lit (.bool false)], args := [d1, d2, d3] }
  | _ => none }
def DpathTunnelWrongFalsely : Prop := dpathTunnelRow.holds Try.pinned (OpenSpec.ofChange dpathTunnelWrong)

/-- 'rutterlaw15.DpathOn': WHATEVER THE INPUT: true; the input reads as it did. -/
def dpathOnSpec : ChangeSpec := { name := "dpathOn", fn := fun _ => fun
  | [d1, d2, d3] => { results := [.lit (.bool true)], args := [d1, d2, d3] }
  | _ => none }
def dpathOnRow : OpenClaim := { program := "ytldjhbmccnbciaa", sum := "7c13e2dd33fb60af07bda35a9ac5bc4a04435037130f1e5bafa869d17cf6c8b1", func := "rutter/rutterlaw15.DpathOn", spec := "dpathOn", unfollowed := true, recurses := true, apart := false }
def DpathOnSaid : Prop := dpathOnRow.holds Try.pinned (OpenSpec.ofChange dpathOnSpec)

/-- ITS FALSE NEIGHBOUR: 'it returns false'. Refute it at one input. -/
def dpathOnWrong : ChangeSpec := { name := "dpathOn", fn := fun _ => fun
  | [d1, d2, d3] => { results := [.lit (.bool false)], args := [d1, d2, d3] }
  | _ => none }
def DpathOnWrongFalsely : Prop := dpathOnRow.holds Try.pinned (OpenSpec.ofChange dpathOnWrong)

/- THE SECOND FORM. 'bulk': how many values and letters a reading holds, each counted each time it is reached (what is shared counts as often as it is met; a slice's spare places count too). A statement '..UptoSaid' is the law's where the arguments, and the package variables that the reading takes, are together of bulk at most 1048576: NARROWER than '..Said'. Prove '..Said' where nothing that the law and all that it calls make is longer than what came in: it says more and counts as full. Else prove '..UptoSaid'. A law counts once. -/
mutual
def uptoBulk {H : Type} : DataW H → Nat
  | .lit (.string bytes) => bytes.length + 1
  | .lit _ => 1
  | .nil => 1
  | .ptr d => uptoBulk d + 1
  | .slice elems spare => uptoBulkAll elems + uptoBulkAll spare + 1
  | .agg parts => uptoBulkAll parts + 1
  | .iface _ d => uptoBulk d + 1
  | .map entries => uptoBulkEntries entries + 1
  | .held _ => 1
def uptoBulkAll {H : Type} : List (DataW H) → Nat
  | [] => 0
  | d :: r => uptoBulk d + uptoBulkAll r
def uptoBulkEntries {H : Type} : List (Lit × DataW H) → Nat
  | [] => 0
  | x :: r => uptoBulkEntry x + uptoBulkEntries r
def uptoBulkEntry {H : Type} : Lit × DataW H → Nat
  | (.string bytes, d) => bytes.length + uptoBulk d + 1
  | (_, d) => uptoBulk d + 1
 end
def uptoSmall : (H : Type) → List (DataW H) → Bool := fun _ ds => decide (uptoBulkAll ds ≤ 1048576)
def OpenSpec.upto (s : _root_.Go.ChangeSpec) : _root_.Go.OpenSpec := { _root_.Go.OpenSpec.ofChange s with cond := some uptoSmall }

/-- 'rutterlaw15.DpathGuest', WHERE WHAT IT READS IS OF BULK AT MOST 1048576: true; the input reads as it did. -/
def dpathGuestUptoRow : OpenClaim := { program := "ytldjhbmccnbciaa", sum := "7c13e2dd33fb60af07bda35a9ac5bc4a04435037130f1e5bafa869d17cf6c8b1", func := "rutter/rutterlaw15.DpathGuest", spec := "dpathGuest", unfollowed := true, recurses := true, apart := false, narrowed := true }
def DpathGuestUptoSaid : Prop := dpathGuestUptoRow.holds Try.pinned (OpenSpec.upto dpathGuestSpec)

/-- 'rutterlaw15.DpathTunnel', WHERE WHAT IT READS IS OF BULK AT MOST 1048576: true; the input reads as it did. -/
def dpathTunnelUptoRow : OpenClaim := { program := "ytldjhbmccnbciaa", sum := "7c13e2dd33fb60af07bda35a9ac5bc4a04435037130f1e5bafa869d17cf6c8b1", func := "rutter/rutterlaw15.DpathTunnel", spec := "dpathTunnel", unfollowed := true, recurses := true, apart := false, narrowed := true }
def DpathTunnelUptoSaid : Prop := dpathTunnelUptoRow.holds Try.pinned (OpenSpec.upto dpathTunnelSpec)

/-- 'rutterlaw15.DpathOn', WHERE WHAT IT READS IS OF BULK AT MOST 1048576: true; the input reads as it did. -/
def dpathOnUptoRow : OpenClaim := { program := "ytldjhbmccnbciaa", sum := "7c13e2dd33fb60af07bda35a9ac5bc4a04435037130f1e5bafa869d17cf6c8b1", func := "rutter/rutterlaw15.DpathOn", spec := "dpathOn", unfollowed := true, recurses := true, apart := false, narrowed := true }
def DpathOnUptoSaid : Prop := dpathOnUptoRow.holds Try.pinned (OpenSpec.upto dpathOnSpec)

end Rows
end Go.Proofs.Ytldjhbmccnbciaa
