/-
  No cell of these rows narrows 'for every input' (looked for: loops, veiled, ifaces, maps, wideKeys, modest, calm, conditions, laid).
  DERIVED. THE GIVEN ROWS OF THIS SEAT. 10 by the template 'for every input the law returns true; each argument reads behind the call as it read before'; 0 by the template 'total and deterministic' (their statements: YtbcmfajacbpaiaaTotals.lean).
  GIVEN WITH THE SEED: the statements are not yours to turn. If you find one false, say at which input.
  Laid BY PROGRAM, IN A SANDBOX (cutbox-rows.mjs): the forced cells as the released guide's own fill.sh prints them over the translation e552ccac1256fba4… (all of the seat's roots in one cut). By AI agents, Wed Nov 11 2026. No macro, syntax, notation, axiom, sorry.
-/
import Derived.Test.YtbcmfajacbpaiaaChecked
import GoSem.Claim
import GoSem.ClaimJoined
import GoSem.ClaimMapViews
import Derived.JoinedTies
import Derived.KernelRfl
namespace Go.Proofs.Ytbcmfajacbpaiaa
/- THE CELL 'sum', in the pinned program and in every row, IS THE sha256 OF THE DUMP (.gsa) THAT YtbcmfajacbpaiaaProg.lean LOADS. Nothing in Lean hashes anything: it is a label: what it is worth is what the hold of that sum in a sandbox is worth. -/
noncomputable def Try.pinned : Pinned := { name := "ytbcmfajacbpaiaa", sum := "e552ccac1256fba4c5b61c40c6eaf62b205443eb09d2e877b3fb7c13c88f6990", checked := Try.checked }
namespace Rows
def none {H : Type} : Left H := { results := [], args := [] }

/-- 'flumelaw17.SchedJoins': WHATEVER THE INPUT: true; the input reads as it did. -/
def schedJoinsSpec : ChangeSpec := { name := "schedJoins", fn := fun _ => fun
  | [d1, d2, d3] => { results := [.lit (.bool true)], args := [d1, d2, d3] }
  | _ => none }
def schedJoinsRow : OpenClaim := { program := "ytbcmfajacbpaiaa", sum := "e552ccac1256fba4c5b61c40c6eaf62b205443eb09d2e877b3fb7c13c88f6990", func := "flume/flumelaw17.SchedJoins", spec := "schedJoins", plainKeys := false, apart := false }
def SchedJoinsSaid : Prop := schedJoinsRow.holds Try.pinned (OpenSpec.ofChange schedJoinsSpec)

/-- ITS FALSE NEIGHBOUR: 'it returns false'. Refute it at one input. -/
def schedJoinsWrong : ChangeSpec := { name := "schedJoins", fn := fun _ => fun
  | [d1, d2, d3] => { results := [.lit (.bool false)], args := [d1, d2, d3] }
  | _ => none }
def SchedJoinsWrongFalsely : Prop := schedJoinsRow.holds Try.pinned (OpenSpec.ofChange schedJoinsWrong)

/-- 'flumelaw14.IntakeRoom': WHATEVER THE INPUT: true; the input reads as it did. -/
def intakeRoomSpec : ChangeSpec := { name := "intakeRoom", fn := fun _ => fun
  | [d1, d2] => { results := [.lit (.bool true)], args := [d1, d2] }
  | _ => none }
def intakeRoomRow : OpenClaim := { program := "ytbcmfajacbpaiaa", sum := "e552ccac1256fba4c5b61c40c6eaf62b205443eb09d2e877b3fb7c13c88f6990", func := "flume/flumelaw14.IntakeRoom", spec := "intakeRoom", inPlace := ["slices.overlaps[flume/span.row]"], unfollowed := true, recurses := true, plainKeys := false, apart := false }
def IntakeRoomSaid : Prop := intakeRoomRow.holds Try.pinned (OpenSpec.ofChange intakeRoomSpec)

/-- ITS FALSE NEIGHBOUR: 'it returns false'. Refute it at one input. -/
def intakeRoomWrong : ChangeSpec := { name := "intakeRoom", fn := fun _ => fun
  | [d1, d2] => { results := [.lit (.bool false)], args := [d1, d2] }
  | _ => none }
def IntakeRoomWrongFalsely : Prop := intakeRoomRow.holds Try.pinned (OpenSpec.ofChange intakeRoomWrong)

/-- 'flumelaw14.IntakeTwice': WHATEVER THE INPUT: true; the input reads as it did. -/
def intakeTwiceSpec : ChangeSpec := { name := "intakeTwice", fn := fun _ => fun
  | [d1, d2] => { results := [.lit (.bool true)], args := [d1, d2] }
  | _ => none }
def intakeTwiceRow : OpenClaim := { program := "ytbcmfajacbpaiaa", sum := "e552ccac1256fba4c5b61c40c6eaf62b205443eb09d2e877b3fb7c13c88f6990", func := "flume/flumelaw14.IntakeTwice", spec := "intakeTwice", inPlace := ["slices.overlaps[flume/span.row]"], unfollowed := true, recurses := true, plainKeys := false, apart := false }
def IntakeTwiceSaid : Prop := intakeTwiceRow.holds Try.pinned (OpenSpec.ofChange intakeTwiceSpec)

/-- ITS FALSE NEIGHBOUR: 'it returns false'. Refute it at one input. -/
def intakeTwiceWrong : ChangeSpec := { name := "intakeTwice", fn := fun _ => fun
  | [d1, d2] => { results := [.lit (.bool false)], args := [d1, d2] }
  | _ => none }
def IntakeTwiceWrongFalsely : Prop := intakeTwiceRow.holds Try.pinned (OpenSpec.ofChange intakeTwiceWrong)

/-- 'flumelaw14.IntakeOnce': WHATEVER THE INPUT: true; the input reads as it did. -/
def intakeOnceSpec : ChangeSpec := { name := "intakeOnce", fn := fun _ => fun
  | [d1, d2, d3] => { results := [.lit (.bool true)], args := [d1, d2, d3] }
  | _ => none }
def intakeOnceRow : OpenClaim := { program := "ytbcmfajacbpaiaa", sum := "e552ccac1256fba4c5b61c40c6eaf62b205443eb09d2e877b3fb7c13c88f6990", func := "flume/flumelaw14.IntakeOnce", spec := "intakeOnce", inPlace := ["slices.overlaps[flume/span.row]"], unfollowed := true, recurses := true, plainKeys := false, apart := false }
def IntakeOnceSaid : Prop := intakeOnceRow.holds Try.pinned (OpenSpec.ofChange intakeOnceSpec)

/-- ITS FALSE NEIGHBOUR: 'it returns false'. Refute it at one input. -/
def intakeOnceWrong : ChangeSpec := { name := "intakeOnce", fn := fun _ => fun
  | [d1, d2, d3] => { results := [.lit (.bool false)], args := [d1, d2, d3] }
  | _ => none }
def IntakeOnceWrongFalsely : Prop := intakeOnceRow.holds Try.pinned (OpenSpec.ofChange intakeOnceWrong)

/-- 'flumelaw15.FlightUntil': WHATEVER THE INPUT: true; the input reads as it did. -/
def flightUntilSpec : ChangeSpec := { name := "flightUntil", fn := fun _ => fun
  | [d1, d2] => { results := [.lit (.bool true)], args := [d1, d2] }
  | _ => none }
def flightUntilRow : OpenClaim := { program := "ytbcmfajacbpaiaa", sum := "e552ccac1256fba4c5b61c40c6eaf62b205443eb09d2e877b3fb7c13c88f6990", func := "flume/flumelaw15.FlightUntil", spec := "flightUntil", unfollowed := true, recurses := true, plainKeys := false, apart := false }
def FlightUntilSaid : Prop := flightUntilRow.holds Try.pinned (OpenSpec.ofChange flightUntilSpec)

/-- ITS FALSE NEIGHBOUR: 'it returns false'. Refute it at one input. -/
def flightUntilWrong : ChangeSpec := { name := "flightUntil", fn := fun _ => fun
  | [d1, d2] => { results := [.lit (.bool false)], args := [d1, d2] }
  | _ => none }
def FlightUntilWrongFalsely : Prop := flightUntilRow.holds Try.pinned (OpenSpec.ofChange flightUntilWrong)

/-- 'flumelaw18.ResetOnce': WHATEVER THE INPUT: true; the input reads as it did. -/
def resetOnceSpec : ChangeSpec := { name := "resetOnce", fn := fun _ => fun
  | [d1, d2, d3] => { results := [.lit (.bool true)], args := [d1, d2, d3] }
  | _ => none }
def resetOnceRow : OpenClaim := { program := "ytbcmfajacbpaiaa", sum := "e552ccac1256fba4c5b61c40c6eaf62b205443eb09d2e877b3fb7c13c88f6990", func := "flume/flumelaw18.ResetOnce", spec := "resetOnce", recurses := true, plainKeys := false, apart := false }
def ResetOnceSaid : Prop := resetOnceRow.holds Try.pinned (OpenSpec.ofChange resetOnceSpec)

/-- ITS FALSE NEIGHBOUR: 'it returns false'. Refute it at one input. -/
def resetOnceWrong : ChangeSpec := { name := "resetOnce", fn := fun _ => fun
  | [d1, d2, d3] => { results := [.lit (.bool false)], args := [d1, d2, d3] }
  | _ => none }
def ResetOnceWrongFalsely : Prop := resetOnceRow.holds Try.pinned (OpenSpec.ofChange resetOnceWrong)

/-- 'flumelaw18.ResetPlays': WHATEVER THE INPUT: true; the input reads as it did. -/
def resetPlaysSpec : ChangeSpec := { name := "resetPlays", fn := fun _ => fun
  | [d1, d2, d3] => { results := [.lit (.bool true)], args := [d1, d2, d3] }
  | _ => none }
def resetPlaysRow : OpenClaim := { program := "ytbcmfajacbpaiaa", sum := "e552ccac1256fba4c5b61c40c6eaf62b205443eb09d2e877b3fb7c13c88f6990", func := "flume/flumelaw18.ResetPlays", spec := "resetPlays", recurses := true, plainKeys := false, apart := false }
def ResetPlaysSaid : Prop := resetPlaysRow.holds Try.pinned (OpenSpec.ofChange resetPlaysSpec)

/-- ITS FALSE NEIGHBOUR: 'it returns false'. Refute it at one input. -/
def resetPlaysWrong : ChangeSpec := { name := "resetPlays", fn := fun _ => fun
  | [d1, d2, d3] => { results := [.lit (.bool false)], args := [d1, d2, d3] }
  | _ => none }
def ResetPlaysWrongFalsely : Prop := resetPlaysRow.holds Try.pinned (OpenSpec.ofChange resetPlaysWrong)

/-- 'flumelaw18.ResetLater': WHATEVER THE INPUT: true; the input reads as it did. -/
def resetLaterSpec : ChangeSpec := { name := "resetLater", fn := fun _ => fun
  | [d1, d2, d3] => { results := [.lit (.bool true)], args := [d1, d2, d3] }
  | _ => none }
def resetLaterRow : OpenClaim := { program := "ytbcmfajacbpaiaa", sum := "e552ccac1256fba4c5b61c40c6eaf62b205443eb09d2e877b3fb7c13c88f6990", func := "flume/flumelaw18.ResetLater", spec := "resetLater", recurses := true, plainKeys := false, apart := false }
def ResetLaterSaid : Prop := resetLaterRow.holds Try.pinned (OpenSpec.ofChange resetLaterSpec)

/-- ITS FALSE NEIGHBOUR: 'it returns false'. Refute it at one input. -/
def resetLaterWrong : ChangeSpec := { name := "resetLater", fn := fun _ => fun
  | [d1, d2, d3] => { results := [.lit (.bool false)], args := [d1, d2, d3] }
  | _ => none }
def ResetLaterWrongFalsely : Prop := resetLaterRow.holds Try.pinned (OpenSpec.ofChange resetLaterWrong)

/-- 'flumelaw18.ResetWants': WHATEVER THE INPUT: true; the input reads as it did. -/
def resetWantsSpec : ChangeSpec := { name := "resetWants", fn := fun _ => fun
  | [d1, d2] => { results := [.lit (.bool true)], args := [d1, d2] }
  | _ => none }
def resetWantsRow : OpenClaim := { program := "ytbcmfajacbpaiaa", sum := "e552ccac1256fba4c5b61c40c6eaf62b205443eb09d2e877b3fb7c13c88f6990", func := "flume/flumelaw18.ResetWants", spec := "resetWants", recurses := true, plainKeys := false, apart := false }
def ResetWantsSaid : Prop := resetWantsRow.holds Try.pinned (OpenSpec.ofChange resetWantsSpec)

/-- ITS FALSE NEIGHBOUR: 'it returns false'. Refute it at one input. -/
def resetWantsWrong : ChangeSpec := { name := "resetWants", fn := fun _ => fun
  | [d1, d2] => { results := [.lit (.bool false)], args := [d1, d2] }
  | _ => none }
def ResetWantsWrongFalsely : Prop := resetWantsRow.holds Try.pinned (OpenSpec.ofChange resetWantsWrong)

/-- 'flumelaw13.JoinSkips': WHATEVER THE INPUT: true; the input reads as it did. -/
def joinSkipsSpec : ChangeSpec := { name := "joinSkips", fn := fun _ => fun
  | [d1, d2, d3] => { results := [.lit (.bool true)], args := [d1, d2, d3] }
  | _ => none }
def joinSkipsRow : OpenClaim := { program := "ytbcmfajacbpaiaa", sum := "e552ccac1256fba4c5b61c40c6eaf62b205443eb09d2e877b3fb7c13c88f6990", func := "flume/flumelaw13.JoinSkips", spec := "joinSkips", unfollowed := true, recurses := true, plainKeys := false, apart := false }
def JoinSkipsSaid : Prop := joinSkipsRow.holds Try.pinned (OpenSpec.ofChange joinSkipsSpec)

/-- ITS FALSE NEIGHBOUR: 'it returns false'. Refute it at one input. -/
def joinSkipsWrong : ChangeSpec := { name := "joinSkips", fn := fun _ => fun
  | [d1, d2, d3] => { results := [.lit (.bool false)], args := [d1, d2, d3] }
  | _ => none }
def JoinSkipsWrongFalsely : Prop := joinSkipsRow.holds Try.pinned (OpenSpec.ofChange joinSkipsWrong)

/- THE SECOND FORM. 'bulk': how many values and letters a reading holds, each counted each time it is reached (what is shared counts as often as it is met; a slice's spare places count too). A statement '..UptoSaid' is the law's where the arguments, and the package variables that the reading takes, are together of bulk at most 1048576: NARROWER than '..Said'. Prove '..Said' where nothing that the law and all that it calls make is longer than what came in: it says more and counts as full. Else prove '..UptoSaid'. A law counts once. -/
mutual
def uptoBulk {H : Type} : DataW H → Nat
  | .lit (.string bytes) => bytes.length + 1
  | .lit _ => 1
  | .nil => 1
  | .ptr d => uptoBulk d + 1
  | .slice elems spare => uptoBulkAll elems + uptoBulkAll spare + 1
  | .agg parts => uptoBulkAll parts + 1
  | .iface _ d => uptoBulk d + 1
  | .map entries => uptoBulkEntries entries + 1
  | .held _ => 1
def uptoBulkAll {H : Type} : List (DataW H) → Nat
  | [] => 0
  | d :: r => uptoBulk d + uptoBulkAll r
def uptoBulkEntries {H : Type} : List (Lit × DataW H) → Nat
  | [] => 0
  | x :: r => uptoBulkEntry x + uptoBulkEntries r
def uptoBulkEntry {H : Type} : Lit × DataW H → Nat
  | (.string bytes, d) => bytes.length + uptoBulk d + 1
  | (_, d) => uptoBulk d + 1
 end
def uptoSmall : (H : Type) → List (DataW H) → Bool := fun _ ds => decide (uptoBulkAll ds ≤ 1048576)
def OpenSpec.upto (s : _root_.Go.ChangeSpec) : _root_.Go.OpenSpec := { _root_.Go.OpenSpec.ofChange s with cond := some uptoSmall }

/-- 'flumelaw17.SchedJoins', WHERE WHAT IT READS IS OF BULK AT MOST 1048576: true; the input reads as it did. -/
def schedJoinsUptoRow : OpenClaim := { program := "ytbcmfajacbpaiaa", sum := "e552ccac1256fba4c5b61c40c6eaf62b205443eb09d2e877b3fb7c13c88f6990", func := "flume/flumelaw17.SchedJoins", spec := "schedJoins", plainKeys := false, apart := false, narrowed := true }
def SchedJoinsUptoSaid : Prop := schedJoinsUptoRow.holds Try.pinned (OpenSpec.upto schedJoinsSpec)

/-- 'flumelaw14.IntakeRoom', WHERE WHAT IT READS IS OF BULK AT MOST 1048576: true; the input reads as it did. -/
def intakeRoomUptoRow : OpenClaim := { program := "ytbcmfajacbpaiaa", sum := "e552ccac1256fba4c5b61c40c6eaf62b205443eb09d2e877b3fb7c13c88f6990", func := "flume/flumelaw14.IntakeRoom", spec := "intakeRoom", inPlace := ["slices.overlaps[flume/span.row]"], unfollowed := true, recurses := true, plainKeys := false, apart := false, narrowed := true }
def IntakeRoomUptoSaid : Prop := intakeRoomUptoRow.holds Try.pinned (OpenSpec.upto intakeRoomSpec)

/-- 'flumelaw14.IntakeTwice', WHERE WHAT IT READS IS OF BULK AT MOST 1048576: true; the input reads as it did. -/
def intakeTwiceUptoRow : OpenClaim := { program := "ytbcmfajacbpaiaa", sum := "e552ccac1256fba4c5b61c40c6eaf62b205443eb09d2e877b3fb7c13c88f6990", func := "flume/flumelaw14.IntakeTwice", spec := "intakeTwice", inPlace := ["slices.overlaps[flume/span.row]"], unfollowed := true, recurses := true, plainKeys := false, apart := false, narrowed := true }
def IntakeTwiceUptoSaid : Prop := intakeTwiceUptoRow.holds Try.pinned (OpenSpec.upto intakeTwiceSpec)

/-- 'flumelaw14.IntakeOnce', WHERE WHAT IT READS IS OF BULK AT MOST 1048576: true; the input reads as it did. -/
def intakeOnceUptoRow : OpenClaim := { program := "ytbcmfajacbpaiaa", sum := "e552ccac1256fba4c5b61c40c6eaf62b205443eb09d2e877b3fb7c13c88f6990", func := "flume/flumelaw14.IntakeOnce", spec := "intakeOnce", inPlace := ["slices.overlaps[flume/span.row]"], unfollowed := true, recurses := true, plainKeys := false, apart := false, narrowed := true }
def IntakeOnceUptoSaid : Prop := intakeOnceUptoRow.holds Try.pinned (OpenSpec.upto intakeOnceSpec)

/-- 'flumelaw15.FlightUntil', WHERE WHAT IT READS IS OF BULK AT MOST 1048576: true; the input reads as it did. -/
def flightUntilUptoRow : OpenClaim := { program := "ytbcmfajacbpaiaa", sum := "e552ccac1256fba4c5b61c40c6eaf62b205443eb09d2e877b3fb7c13c88f6990", func := "flume/flumelaw15.FlightUntil", spec := "flightUntil", unfollowed := true, recurses := true, plainKeys := false, apart := false, narrowed := true }
def FlightUntilUptoSaid : Prop := flightUntilUptoRow.holds Try.pinned (OpenSpec.upto flightUntilSpec)

/-- 'flumelaw18.ResetOnce', WHERE WHAT IT READS IS OF BULK AT MOST 1048576: true; the input reads as it did. -/
def resetOnceUptoRow : OpenClaim := { program := "ytbcmfajacbpaiaa", sum := "e552ccac1256fba4c5b61c40c6eaf62b205443eb09d2e877b3fb7c13c88f6990", func := "flume/flumelaw18.ResetOnce", spec := "resetOnce", recurses := true, plainKeys := false, apart := false, narrowed := true }
def ResetOnceUptoSaid : Prop := resetOnceUptoRow.holds Try.pinned (OpenSpec.upto resetOnceSpec)

/-- 'flumelaw18.ResetPlays', WHERE WHAT IT READS IS OF BULK AT MOST 1048576: true; the input reads as it did. -/
def resetPlaysUptoRow : OpenClaim := { program := "ytbcmfajacbpaiaa", sum := "e552ccac1256fba4c5b61c40c6eaf62b205443eb09d2e877b3fb7c13c88f6990", func := "flume/flumelaw18.ResetPlays", spec := "resetPlays", recurses := true, plainKeys := false, apart := false, narrowed := true }
def ResetPlaysUptoSaid : Prop := resetPlaysUptoRow.holds Try.pinned (OpenSpec.upto resetPlaysSpec)

/-- 'flumelaw18.ResetLater', WHERE WHAT IT READS IS OF BULK AT MOST 1048576: true; the input reads as it did. -/
def resetLaterUptoRow : OpenClaim := { program := "ytbcmfajacbpaiaa", sum := "e552ccac1256fba4c5b61c40c6eaf62b205443eb09d2e877b3fb7c13c88f6990", func := "flume/flumelaw18.ResetLater", spec := "resetLater", recurses := true, plainKeys := false, apart := false, narrowed := true }
def ResetLaterUptoSaid : Prop := resetLaterUptoRow.holds Try.pinned (OpenSpec.upto resetLaterSpec)

/-- 'flumelaw18.ResetWants', WHERE WHAT IT READS IS OF BULK AT MOST 1048576: true; the input reads as it did. -/
def resetWantsUptoRow : OpenClaim := { program := "ytbcmfajacbpaiaa", sum := "e552ccac1256fba4c5b61c40c6eaf62b205443eb09d2e877b3fb7c13c88f6990", func := "flume/flumelaw18.ResetWants", spec := "resetWants", recurses := true, plainKeys := false, apart := false, narrowed := true }
def ResetWantsUptoSaid : Prop := resetWantsUptoRow.holds Try.pinned (OpenSpec.upto resetWantsSpec)

/-- 'flumelaw13.JoinSkips', WHERE WHAT IT READS IS OF BULK AT MOST 1048576: true; the input reads as it did. -/
def joinSkipsUptoRow : OpenClaim := { program := "ytbcmfajacbpaiaa", sum := "e552ccac1256fba4c5b61c40c6eaf62b205443eb09d2e877b3fb7c13c88f6990", func := "flume/flumelaw13.JoinSkips", spec := "joinSkips", unfollowed := true, recurses := true, plainKeys := false, apart := false, narrowed := true }
def JoinSkipsUptoSaid : Prop := joinSkipsUptoRow.holds Try.pinned (OpenSpec.upto joinSkipsSpec)

end Rows
end Go.Proofs.Ytbcmfajacbpaiaa
