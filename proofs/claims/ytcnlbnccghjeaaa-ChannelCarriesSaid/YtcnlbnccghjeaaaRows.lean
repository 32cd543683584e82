/-
  No cell of these rows narrows 'for every input' (looked for: loops, veiled, ifaces, maps, wideKeys, modest, calm, conditions, laid).
  DERIVED. THE GIVEN ROWS OF THIS SEAT. 6 by the template 'for every input the law returns true; each argument reads behind the call as it read before'; 0 by the template 'total and deterministic' (their statements: YtcnlbnccghjeaaaTotals.lean).
  GIVEN WITH THE SEED: the statements are not yours to turn. If you find one false, say at which input.
  Laid BY PROGRAM, IN A SANDBOX (cutbox-rows.mjs): the forced cells as the released guide's own fill.sh prints them over the translation 1071f1c46eb3ffb5… (all of the seat's roots in one cut). By AI agents, Wed Nov 11 2026. No macro, syntax, notation, axiom, sorry.
-/
import Derived.Test.YtcnlbnccghjeaaaChecked
import GoSem.Claim
import GoSem.ClaimJoined
import GoSem.ClaimMapViews
import Derived.JoinedTies
import Derived.KernelRfl
namespace Go.Proofs.Ytcnlbnccghjeaaa
/- THE CELL 'sum', in the pinned program and in every row, IS THE sha256 OF THE DUMP (.gsa) THAT YtcnlbnccghjeaaaProg.lean LOADS. Nothing in Lean hashes anything: it is a label: what it is worth is what the hold of that sum in a sandbox is worth. -/
noncomputable def Try.pinned : Pinned := { name := "ytcnlbnccghjeaaa", sum := "1071f1c46eb3ffb5adb889c50aa6c53922f8c576e3583f29b58aba6b979e0926", checked := Try.checked }
namespace Rows
def none {H : Type} : Left H := { results := [], args := [] }

/-- 'salchowlaw50.ChannelNew': WHATEVER THE INPUT: true; the input reads as it did. -/
def channelNewSpec : ChangeSpec := { name := "channelNew", fn := fun _ => fun
  | [d] => { results := [.lit (.bool true)], args := [d] }
  | _ => none }
def channelNewRow : OpenClaim := { program := "ytcnlbnccghjeaaa", sum := "1071f1c46eb3ffb5adb889c50aa6c53922f8c576e3583f29b58aba6b979e0926", func := "salchow/salchowlaw50.ChannelNew", spec := "channelNew", unfollowed := true, recurses := true, apart := false }
def ChannelNewSaid : Prop := channelNewRow.holds Try.pinned (OpenSpec.ofChange channelNewSpec)

/-- ITS FALSE NEIGHBOUR: 'it returns false'. Refute it at one input. -/
def channelNewWrong : ChangeSpec := { name := "channelNew", fn := fun _ => fun
  | [d] => { results := [.lit (.bool false)], args := [d] }
  | _ => none }
def ChannelNewWrongFalsely : Prop := channelNewRow.holds Try.pinned (OpenSpec.ofChange channelNewWrong)

/-- 'salchowlaw50.ChannelPlays': WHATEVER THE INPUT: true; the input reads as it did. -/
def channelPlaysSpec : ChangeSpec := { name := "channelPlays", fn := fun _ => fun
  | [d1, d2] => { results := [.lit (.bool true)], args := [d1, d2] }
  | _ => none }
def channelPlaysRow : OpenClaim := { program := "ytcnlbnccghjeaaa", sum := "1071f1c46eb3ffb5adb889c50aa6c53922f8c576e3583f29b58aba6b979e0926", func := "salchow/salchowlaw50.ChannelPlays", spec := "channelPlays", unfollowed := true, recurses := true, apart := false }
def ChannelPlaysSaid : Prop := channelPlaysRow.holds Try.pinned (OpenSpec.ofChange channelPlaysSpec)

/-- ITS FALSE NEIGHBOUR: 'it returns false'. Refute it at one input. -/
def channelPlaysWrong : ChangeSpec := { name := "channelPlays", fn := fun _ => fun
  | [d1, d2] => { results := [.lit (.bool false)], args := [d1, d2] }
  | _ => none }
def ChannelPlaysWrongFalsely : Prop := channelPlaysRow.holds Try.pinned (OpenSpec.ofChange channelPlaysWrong)

/-- 'salchowlaw50.ChannelKeeps': WHATEVER THE INPUT: true; the input reads as it did. -/
def channelKeepsSpec : ChangeSpec := { name := "channelKeeps", fn := fun _ => fun
  | [d1, d2] => { results := [.lit (.bool true)], args := [d1, d2] }
  | _ => none }
def channelKeepsRow : OpenClaim := { program := "ytcnlbnccghjeaaa", sum := "1071f1c46eb3ffb5adb889c50aa6c53922f8c576e3583f29b58aba6b979e0926", func := "salchow/salchowlaw50.ChannelKeeps", spec := "channelKeeps", unfollowed := true, recurses := true, apart := false }
def ChannelKeepsSaid : Prop := channelKeepsRow.holds Try.pinned (OpenSpec.ofChange channelKeepsSpec)

/-- ITS FALSE NEIGHBOUR: 'it returns false'. Refute it at one input. -/
def channelKeepsWrong : ChangeSpec := { name := "channelKeeps", fn := fun _ => fun
  | [d1, d2] => { results := [.lit (.bool false)], args := [d1, d2] }
  | _ => none }
def ChannelKeepsWrongFalsely : Prop := channelKeepsRow.holds Try.pinned (OpenSpec.ofChange channelKeepsWrong)

/-- 'salchowlaw50.ChannelCarries': WHATEVER THE INPUT: true; the input reads as it did. -/
def channelCarriesSpec : ChangeSpec := { name := "channelCarries", fn := fun _ => fun
  | [d1, d2, d3, d4, d5, d6, d7] => { results := [.lit (.bool true)], args := [d1, d2, d3, d4, d5, d6, d7] }
  | _ => none }
def channelCarriesRow : OpenClaim := { program := "ytcnlbnccghjeaaa", sum := "1071f1c46eb3ffb5adb889c50aa6c53922f8c576e3583f29b58aba6b979e0926", func := "salchow/salchowlaw50.ChannelCarries", spec := "channelCarries", unfollowed := true, recurses := true, apart := false }
def ChannelCarriesSaid : Prop := channelCarriesRow.holds Try.pinned (OpenSpec.ofChange channelCarriesSpec)

/-- ITS FALSE NEIGHBOUR: 'it returns false'. Refute it at one input. -/
def channelCarriesWrong : ChangeSpec := { name := "channelCarries", fn := fun _ => fun
  | [d1, d2, d3, d4, d5, d6, d7] => { results := [.lit (.bool false)], args := [d1, d2, d3, d4, d5, d6, d7] }
  | _ => none }
def ChannelCarriesWrongFalsely : Prop := channelCarriesRow.holds Try.pinned (OpenSpec.ofChange channelCarriesWrong)

/-- 'salchowlaw50.ChannelConnects': WHATEVER THE INPUT: true; the input reads as it did. -/
def channelConnectsSpec : ChangeSpec := { name := "channelConnects", fn := fun _ => fun
  | [d1, d2, d3] => { results := [.lit (.bool true)], args := [d1, d2, d3] }
  | _ => none }
def channelConnectsRow : OpenClaim := { program := "ytcnlbnccghjeaaa", sum := "1071f1c46eb3ffb5adb889c50aa6c53922f8c576e3583f29b58aba6b979e0926", func := "salchow/salchowlaw50.ChannelConnects", spec := "channelConnects", unfollowed := true, recurses := true, apart := false }
def ChannelConnectsSaid : Prop := channelConnectsRow.holds Try.pinned (OpenSpec.ofChange channelConnectsSpec)

/-- ITS FALSE NEIGHBOUR: 'it returns false'. Refute it at one input. -/
def channelConnectsWrong : ChangeSpec := { name := "channelConnects", fn := fun _ => fun
  | [d1, d2, d3] => { results := [.lit (.bool false)], args := [d1, d2, d3] }
  | _ => none }
def ChannelConnectsWrongFalsely : Prop := channelConnectsRow.holds Try.pinned (OpenSpec.ofChange channelConnectsWrong)

/-- 'salchowlaw50.ChannelFull': WHATEVER THE INPUT: true; the input reads as it did. -/
def channelFullSpec : ChangeSpec := { name := "channelFull", fn := fun _ => fun
  | [d1, d2] => { results := [.lit (.bool true)], args := [d1, d2] }
  | _ => none }
def channelFullRow : OpenClaim := { program := "ytcnlbnccghjeaaa", sum := "1071f1c46eb3ffb5adb889c50aa6c53922f8c576e3583f29b58aba6b979e0926", func := "salchow/salchowlaw50.ChannelFull", spec := "channelFull", unfollowed := true, recurses := true, apart := false }
def ChannelFullSaid : Prop := channelFullRow.holds Try.pinned (OpenSpec.ofChange channelFullSpec)

/-- ITS FALSE NEIGHBOUR: 'it returns false'. Refute it at one input. -/
def channelFullWrong : ChangeSpec := { name := "channelFull", fn := fun _ => fun
  | [d1, d2] => { results := [.lit (.bool false)], args := [d1, d2] }
  | _ => none }
def ChannelFullWrongFalsely : Prop := channelFullRow.holds Try.pinned (OpenSpec.ofChange channelFullWrong)

/- THE SECOND FORM. 'bulk': how many values and letters a reading holds, each counted each time it is reached (what is shared counts as often as it is met; a slice's spare places count too). A statement '..UptoSaid' is the law's where the arguments, and the package variables that the reading takes, are together of bulk at most 1048576: NARROWER than '..Said'. Prove '..Said' where nothing that the law and all that it calls make is longer than what came in: it says more and counts as full. Else prove '..UptoSaid'. A law counts once. -/
mutual
def uptoBulk {H : Type} : DataW H → Nat
  | .lit (.string bytes) => bytes.length + 1
  | .lit _ => 1
  | .nil => 1
  | .ptr d => uptoBulk d + 1
  | .slice elems spare => uptoBulkAll elems + uptoBulkAll spare + 1
  | .agg parts => uptoBulkAll parts + 1
  | .iface _ d => uptoBulk d + 1
  | .map entries => uptoBulkEntries entries + 1
  | .held _ => 1
def uptoBulkAll {H : Type} : List (DataW H) → Nat
  | [] => 0
  | d :: r => uptoBulk d + uptoBulkAll r
def uptoBulkEntries {H : Type} : List (Lit × DataW H) → Nat
  | [] => 0
  | x :: r => uptoBulkEntry x + uptoBulkEntries r
def uptoBulkEntry {H : Type} : Lit × DataW H → Nat
  | (.string bytes, d) => bytes.length + uptoBulk d + 1
  | (_, d) => uptoBulk d + 1
 end
def uptoSmall : (H : Type) → List (DataW H) → Bool := fun _ ds => decide (uptoBulkAll ds ≤ 1048576)
def OpenSpec.upto (s : _root_.Go.ChangeSpec) : _root_.Go.OpenSpec := { _root_.Go.OpenSpec.ofChange s with cond := some uptoSmall }

/-- 'salchowlaw50.ChannelNew', WHERE WHAT IT READS IS OF BULK AT MOST 1048576: true; the input reads as it did. -/
def channelNewUptoRow : OpenClaim := { program := "ytcnlbnccghjeaaa", sum := "1071f1c46eb3ffb5adb889c50aa6c53922f8c576e3583f29b58aba6b979e0926", func := "salchow/salchowlaw50.ChannelNew", spec := "channelNew", unfollowed := true, recurses := true, apart := false, narrowed := true }
def ChannelNewUptoSaid : Prop := channelNewUptoRow.holds Try.pinned (OpenSpec.upto channelNewSpec)

/-- 'salchowlaw50.ChannelPlays', WHERE WHAT IT READS IS OF BULK AT MOST 1048576: true; the input reads as it did. -/
def channelPlaysUptoRow : OpenClaim := { program := "ytcnlbnccghjeaaa", sum := "1071f1c46eb3ffb5adb889c50aa6c53922f8c576e3583f29b58aba6b979e0926", func := "salchow/salchowlaw50.ChannelPlays", spec := "channelPlays", unfollowed := true, recurses := true, apart := false, narrowed := true }
def ChannelPlaysUptoSaid : Prop := channelPlaysUptoRow.holds Try.pinned (OpenSpec.upto channelPlaysSpec)

/-- 'salchowlaw50.ChannelKeeps', WHERE WHAT IT READS IS OF BULK AT MOST 1048576: true; the input reads as it did. -/
def channelKeepsUptoRow : OpenClaim := { program := "ytcnlbnccghjeaaa", sum := "1071f1c46eb3ffb5adb889c50aa6c53922f8c576e3583f29b58aba6b979e0926", func := "salchow/salchowlaw50.ChannelKeeps", spec := "channelKeeps", unfollowed := true, recurses := true, apart := false, narrowed := true }
def ChannelKeepsUptoSaid : Prop := channelKeepsUptoRow.holds Try.pinned (OpenSpec.upto channelKeepsSpec)

/-- 'salchowlaw50.ChannelCarries', WHERE WHAT IT READS IS OF BULK AT MOST 1048576: true; the input reads as it did. -/
def channelCarriesUptoRow : OpenClaim := { program := "ytcnlbnccghjeaaa", sum := "1071f1c46eb3ffb5adb889c50aa6c53922f8c576e3583f29b58aba6b979e0926", func := "salchow/salchowlaw50.ChannelCarries", spec := "channelCarries", unfollowed := true, recurses := true, apart := false, narrowed := true }
def ChannelCarriesUptoSaid : Prop := channelCarriesUptoRow.holds Try.pinned (OpenSpec.upto channelCarriesSpec)

/-- 'salchowlaw50.ChannelConnects', WHERE WHAT IT READS IS OF BULK AT MOST 1048576: true; the input reads as it did. -/
def channelConnectsUptoRow : OpenClaim := { program := "ytcnlbnccghjeaaa", sum := "1071f1c46eb3ffb5adb889c50aa6c53922f8c576e3583f29b58aba6b979e0926", func := "salchow/salchowlaw50.ChannelConnects", spec := "channelConnects", unfollowed := true, recurses := true, apart := false, narrowed := true }
def ChannelConnectsUptoSaid : Prop := channelConnectsUptoRow.holds Try.pinned (OpenSpec.upto channelConnectsSpec)

/-- 'salchowlaw50.ChannelFull', WHERE WHAT IT READS IS OF BULK AT MOST 1048576: true; the input reads as it did. -/
def channelFullUptoRow : OpenClaim := { program := "ytcnlbnccghjeaaa", sum := "1071f1c46eb3ffb5adb889c50aa6c53922f8c576e3583f29b58aba6b979e0926", func := "salchow/salchowlaw50.ChannelFull", spec := "channelFull", unfollowed := true, recurses := true, apart := false, narrowed := true }
def ChannelFullUptoSaid : Prop := channelFullUptoRow.holds Try.pinned (OpenSpec.upto channelFullSpec)

end Rows
end Go.Proofs.Ytcnlbnccghjeaaa
