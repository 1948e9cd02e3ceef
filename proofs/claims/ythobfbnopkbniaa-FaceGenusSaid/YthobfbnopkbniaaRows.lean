/-
  No cell of these rows narrows 'for every input' (looked for: loops, veiled, ifaces, maps, wideKeys, modest, calm, conditions, laid).
  DERIVED. THE GIVEN ROWS OF THIS SEAT. 14 by the template 'for every input the law returns true; each argument reads behind the call as it read before'; 0 by the template 'total and deterministic' (their statements: YthobfbnopkbniaaTotals.lean).
  GIVEN WITH THE SEED: the statements are not yours to turn. If you find one false, say at which input.
  Laid BY PROGRAM, IN A SANDBOX (cutbox-rows.mjs): the forced cells as the released guide's own fill.sh prints them over the translation 17ea096b0e41254d… (all of the seat's roots in one cut). By AI agents, Wed Nov 11 2026. No macro, syntax, notation, axiom, sorry.
-/
import Derived.Test.YthobfbnopkbniaaChecked
import GoSem.Claim
import GoSem.ClaimJoined
import GoSem.ClaimMapViews
import Derived.JoinedTies
import Derived.KernelRfl
namespace Go.Proofs.Ythobfbnopkbniaa
/- THE CELL 'sum', in the pinned program and in every row, IS THE sha256 OF THE DUMP (.gsa) THAT YthobfbnopkbniaaProg.lean LOADS. Nothing in Lean hashes anything: it is a label: what it is worth is what the hold of that sum in a sandbox is worth. -/
noncomputable def Try.pinned : Pinned := { name := "ythobfbnopkbniaa", sum := "17ea096b0e41254d86648f2936758461e59ecdc01d35e0ebdf4bb0c49b8b3beb", checked := Try.checked }
namespace Rows
def none {H : Type} : Left H := { results := [], args := [] }

/-- 'tracerylaw06.RotaSteps': WHATEVER THE INPUT: true; the input reads as it did. -/
def rotaStepsSpec : ChangeSpec := { name := "rotaSteps", fn := fun _ => fun
  | [d1, d2, d3, d4] => { results := [.lit (.bool true)], args := [d1, d2, d3, d4] }
  | _ => none }
def rotaStepsRow : OpenClaim := { program := "ythobfbnopkbniaa", sum := "17ea096b0e41254d86648f2936758461e59ecdc01d35e0ebdf4bb0c49b8b3beb", func := "tracery/tracerylaw06.RotaSteps", spec := "rotaSteps", apart := false }
def RotaStepsSaid : Prop := rotaStepsRow.holds Try.pinned (OpenSpec.ofChange rotaStepsSpec)

/-- ITS FALSE NEIGHBOUR: 'it returns false'. Refute it at one input. -/
def rotaStepsWrong : ChangeSpec := { name := "rotaSteps", fn := fun _ => fun
  | [d1, d2, d3, d4] => { results := [.lit (.bool false)], args := [d1, d2, d3, d4] }
  | _ => none }
def RotaStepsWrongFalsely : Prop := rotaStepsRow.holds Try.pinned (OpenSpec.ofChange rotaStepsWrong)

/-- 'tracerylaw05.WalkPaths': WHATEVER THE INPUT: true; the input reads as it did. -/
def walkPathsSpec : ChangeSpec := { name := "walkPaths", fn := fun _ => fun
  | [d1, d2, d3, d4] => { results := [.lit (.bool true)], args := [d1, d2, d3, d4] }
  | _ => none }
def walkPathsRow : OpenClaim := { program := "ythobfbnopkbniaa", sum := "17ea096b0e41254d86648f2936758461e59ecdc01d35e0ebdf4bb0c49b8b3beb", func := "tracery/tracerylaw05.WalkPaths", spec := "walkPaths", unfollowed := true, recurses := true, apart := false }
def WalkPathsSaid : Prop := walkPathsRow.holds Try.pinned (OpenSpec.ofChange walkPathsSpec)

/-- ITS FALSE NEIGHBOUR: 'it returns false'. Refute it at one input. -/
def walkPathsWrong : ChangeSpec := { name := "walkPaths", fn := fun _ => fun
  | [d1, d2, d3, d4] => { results := [.lit (.bool false)], args := [d1, d2, d3, d4] }
  | _ => none }
def WalkPathsWrongFalsely : Prop := walkPathsRow.holds Try.pinned (OpenSpec.ofChange walkPathsWrong)

/-- 'tracerylaw06.RotaAgain': WHATEVER THE INPUT: true; the input reads as it did. -/
def rotaAgainSpec : ChangeSpec := { name := "rotaAgain", fn := fun _ => fun
  | [d1, d2, d3] => { results := [.lit (.bool true)], args := [d1, d2, d3] }
  | _ => none }
def rotaAgainRow : OpenClaim := { program := "ythobfbnopkbniaa", sum := "17ea096b0e41254d86648f2936758461e59ecdc01d35e0ebdf4bb0c49b8b3beb", func := "tracery/tracerylaw06.RotaAgain", spec := "rotaAgain", unfollowed := true, recurses := true, apart := false }
def RotaAgainSaid : Prop := rotaAgainRow.holds Try.pinned (OpenSpec.ofChange rotaAgainSpec)

/-- ITS FALSE NEIGHBOUR: 'it returns false'. Refute it at one input. -/
def rotaAgainWrong : ChangeSpec := { name := "rotaAgain", fn := fun _ => fun
  | [d1, d2, d3] => { results := [.lit (.bool false)], args := [d1, d2, d3] }
  | _ => none }
def RotaAgainWrongFalsely : Prop := rotaAgainRow.holds Try.pinned (OpenSpec.ofChange rotaAgainWrong)

/-- 'tracerylaw05.WalkFars': WHATEVER THE INPUT: true; the input reads as it did. -/
def walkFarsSpec : ChangeSpec := { name := "walkFars", fn := fun _ => fun
  | [d1, d2, d3] => { results := [.lit (.bool true)], args := [d1, d2, d3] }
  | _ => none }
def walkFarsRow : OpenClaim := { program := "ythobfbnopkbniaa", sum := "17ea096b0e41254d86648f2936758461e59ecdc01d35e0ebdf4bb0c49b8b3beb", func := "tracery/tracerylaw05.WalkFars", spec := "walkFars", unfollowed := true, recurses := true, apart := false }
def WalkFarsSaid : Prop := walkFarsRow.holds Try.pinned (OpenSpec.ofChange walkFarsSpec)

/-- ITS FALSE NEIGHBOUR: 'it returns false'. Refute it at one input. -/
def walkFarsWrong : ChangeSpec := { name := "walkFars", fn := fun _ => fun
  | [d1, d2, d3] => { results := [.lit (.bool false)], args := [d1, d2, d3] }
  | _ => none }
def WalkFarsWrongFalsely : Prop := walkFarsRow.holds Try.pinned (OpenSpec.ofChange walkFarsWrong)

/-- 'tracerylaw06.RotaPlays': WHATEVER THE INPUT: true; the input reads as it did. -/
def rotaPlaysSpec : ChangeSpec := { name := "rotaPlays", fn := fun _ => fun
  | [d1, d2, d3] => { results := [.lit (.bool true)], args := [d1, d2, d3] }
  | _ => none }
def rotaPlaysRow : OpenClaim := { program := "ythobfbnopkbniaa", sum := "17ea096b0e41254d86648f2936758461e59ecdc01d35e0ebdf4bb0c49b8b3beb", func := "tracery/tracerylaw06.RotaPlays", spec := "rotaPlays", unfollowed := true, recurses := true, apart := false }
def RotaPlaysSaid : Prop := rotaPlaysRow.holds Try.pinned (OpenSpec.ofChange rotaPlaysSpec)

/-- ITS FALSE NEIGHBOUR: 'it returns false'. Refute it at one input. -/
def rotaPlaysWrong : ChangeSpec := { name := "rotaPlays", fn := fun _ => fun
  | [d1, d2, d3] => { results := [.lit (.bool false)], args := [d1, d2, d3] }
  | _ => none }
def RotaPlaysWrongFalsely : Prop := rotaPlaysRow.holds Try.pinned (OpenSpec.ofChange rotaPlaysWrong)

/-- 'tracerylaw05.WalkBeyonds': WHATEVER THE INPUT: true; the input reads as it did. -/
def walkBeyondsSpec : ChangeSpec := { name := "walkBeyonds", fn := fun _ => fun
  | [d1, d2, d3] => { results := [.lit (.bool true)], args := [d1, d2, d3] }
  | _ => none }
def walkBeyondsRow : OpenClaim := { program := "ythobfbnopkbniaa", sum := "17ea096b0e41254d86648f2936758461e59ecdc01d35e0ebdf4bb0c49b8b3beb", func := "tracery/tracerylaw05.WalkBeyonds", spec := "walkBeyonds", unfollowed := true, recurses := true, apart := false }
def WalkBeyondsSaid : Prop := walkBeyondsRow.holds Try.pinned (OpenSpec.ofChange walkBeyondsSpec)

/-- ITS FALSE NEIGHBOUR: 'it returns false'. Refute it at one input. -/
def walkBeyondsWrong : ChangeSpec := { name := "walkBeyonds", fn := fun _ => fun
  | [d1, d2, d3] => { results := [.lit (.bool false)], args := [d1, d2, d3] }
  | _ => none }
def WalkBeyondsWrongFalsely : Prop := walkBeyondsRow.holds Try.pinned (OpenSpec.ofChange walkBeyondsWrong)

/-- 'tracerylaw06.RotaMirror': WHATEVER THE INPUT: true; the input reads as it did. -/
def rotaMirrorSpec : ChangeSpec := { name := "rotaMirror", fn := fun _ => fun
  | [d1, d2, d3] => { results := [.lit (.bool true)], args := [d1, d2, d3] }
  | _ => none }
def rotaMirrorRow : OpenClaim := { program := "ythobfbnopkbniaa", sum := "17ea096b0e41254d86648f2936758461e59ecdc01d35e0ebdf4bb0c49b8b3beb", func := "tracery/tracerylaw06.RotaMirror", spec := "rotaMirror", unfollowed := true, recurses := true, apart := false }
def RotaMirrorSaid : Prop := rotaMirrorRow.holds Try.pinned (OpenSpec.ofChange rotaMirrorSpec)

/-- ITS FALSE NEIGHBOUR: 'it returns false'. Refute it at one input. -/
def rotaMirrorWrong : ChangeSpec := { name := "rotaMirror", fn := fun _ => fun
  | [d1, d2, d3] => { results := [.lit (.bool false)], args := [d1, d2, d3] }
  | _ => none }
def RotaMirrorWrongFalsely : Prop := rotaMirrorRow.holds Try.pinned (OpenSpec.ofChange rotaMirrorWrong)

/-- 'tracerylaw05.WalkPieces': WHATEVER THE INPUT: true; the input reads as it did. -/
def walkPiecesSpec : ChangeSpec := { name := "walkPieces", fn := fun _ => fun
  | [d1, d2] => { results := [.lit (.bool true)], args := [d1, d2] }
  | _ => none }
def walkPiecesRow : OpenClaim := { program := "ythobfbnopkbniaa", sum := "17ea096b0e41254d86648f2936758461e59ecdc01d35e0ebdf4bb0c49b8b3beb", func := "tracery/tracerylaw05.WalkPieces", spec := "walkPieces", unfollowed := true, recurses := true, apart := false }
def WalkPiecesSaid : Prop := walkPiecesRow.holds Try.pinned (OpenSpec.ofChange walkPiecesSpec)

/-- ITS FALSE NEIGHBOUR: 'it returns false'. Refute it at one input. -/
def walkPiecesWrong : ChangeSpec := { name := "walkPieces", fn := fun _ => fun
  | [d1, d2] => { results := [.lit (.bool false)], args := [d1, d2] }
  | _ => none }
def WalkPiecesWrongFalsely : Prop := walkPiecesRow.holds Try.pinned (OpenSpec.ofChange walkPiecesWrong)

/-- 'tracerylaw06.RotaNil': WHATEVER THE INPUT: true; the input reads as it did. -/
def rotaNilSpec : ChangeSpec := { name := "rotaNil", fn := fun _ => fun
  | [d] => { results := [.lit (.bool true)], args := [d] }
  | _ => none }
def rotaNilRow : OpenClaim := { program := "ythobfbnopkbniaa", sum := "17ea096b0e41254d86648f2936758461e59ecdc01d35e0ebdf4bb0c49b8b3beb", func := "tracery/tracerylaw06.RotaNil", spec := "rotaNil", unfollowed := true, recurses := true, apart := false }
def RotaNilSaid : Prop := rotaNilRow.holds Try.pinned (OpenSpec.ofChange rotaNilSpec)

/-- ITS FALSE NEIGHBOUR: 'it returns false'. Refute it at one input. -/
def rotaNilWrong : ChangeSpec := { name := "rotaNil", fn := fun _ => fun
  | [d] => { results := [.lit (.bool false)], args := [d] }
  | _ => none }
def RotaNilWrongFalsely : Prop := rotaNilRow.holds Try.pinned (OpenSpec.ofChange rotaNilWrong)

/-- 'tracerylaw07.FaceOnce': WHATEVER THE INPUT: true; the input reads as it did. -/
def faceOnceSpec : ChangeSpec := { name := "faceOnce", fn := fun _ => fun
  | [d1, d2, d3] => { results := [.lit (.bool true)], args := [d1, d2, d3] }
  | _ => none }
def faceOnceRow : OpenClaim := { program := "ythobfbnopkbniaa", sum := "17ea096b0e41254d86648f2936758461e59ecdc01d35e0ebdf4bb0c49b8b3beb", func := "tracery/tracerylaw07.FaceOnce", spec := "faceOnce", unfollowed := true, recurses := true, apart := false }
def FaceOnceSaid : Prop := faceOnceRow.holds Try.pinned (OpenSpec.ofChange faceOnceSpec)

/-- ITS FALSE NEIGHBOUR: 'it returns false'. Refute it at one input. -/
def faceOnceWrong : ChangeSpec := { name := "faceOnce", fn := fun _ => fun
  | [d1, d2, d3] => { results := [.lit (.bool false)], args := [d1, d2, d3] }
  | _ => none }
def FaceOnceWrongFalsely : Prop := faceOnceRow.holds Try.pinned (OpenSpec.ofChange faceOnceWrong)

/-- 'tracerylaw07.FaceSpheres': WHATEVER THE INPUT: true; the input reads as it did. -/
def faceSpheresSpec : ChangeSpec := { name := "faceSpheres", fn := fun _ => fun
  | [d1, d2, d3] => { results := [.lit (.bool true)], args := [d1, d2, d3] }
  | _ => none }
def faceSpheresRow : OpenClaim := { program := "ythobfbnopkbniaa", sum := "17ea096b0e41254d86648f2936758461e59ecdc01d35e0ebdf4bb0c49b8b3beb", func := "tracery/tracerylaw07.FaceSpheres", spec := "faceSpheres", unfollowed := true, recurses := true, apart := false }
def FaceSpheresSaid : Prop := faceSpheresRow.holds Try.pinned (OpenSpec.ofChange faceSpheresSpec)

/-- ITS FALSE NEIGHBOUR: 'it returns false'. Refute it at one input. -/
def faceSpheresWrong : ChangeSpec := { name := "faceSpheres", fn := fun _ => fun
  | [d1, d2, d3] => { results := [.lit (.bool false)], args := [d1, d2, d3] }
  | _ => none }
def FaceSpheresWrongFalsely : Prop := faceSpheresRow.holds Try.pinned (OpenSpec.ofChange faceSpheresWrong)

/-- 'tracerylaw07.FaceWalks': WHATEVER THE INPUT: true; the input reads as it did. -/
def faceWalksSpec : ChangeSpec := { name := "faceWalks", fn := fun _ => fun
  | [d1, d2, d3, d4] => { results := [.lit (.bool true)], args := [d1, d2, d3, d4] }
  | _ => none }
def faceWalksRow : OpenClaim := { program := "ythobfbnopkbniaa", sum := "17ea096b0e41254d86648f2936758461e59ecdc01d35e0ebdf4bb0c49b8b3beb", func := "tracery/tracerylaw07.FaceWalks", spec := "faceWalks", unfollowed := true, recurses := true, apart := false }
def FaceWalksSaid : Prop := faceWalksRow.holds Try.pinned (OpenSpec.ofChange faceWalksSpec)

/-- ITS FALSE NEIGHBOUR: 'it returns false'. Refute it at one input. -/
def faceWalksWrong : ChangeSpec := { name := "faceWalks", fn := fun _ => fun
  | [d1, d2, d3, d4] => { results := [.lit (.bool false)], args := [d1, d2, d3, d4] }
  | _ => none }
def FaceWalksWrongFalsely : Prop := faceWalksRow.holds Try.pinned (OpenSpec.ofChange faceWalksWrong)

/-- 'tracerylaw07.FaceKeys': WHATEVER THE INPUT: true; the input reads as it did. -/
def faceKeysSpec : ChangeSpec := { name := "faceKeys", fn := fun _ => fun
  | [d1, d2, d3, d4] => { results := [.lit (.bool true)], args := [d1, d2, d3, d4] }
  | _ => none }
def faceKeysRow : OpenClaim := { program := "ythobfbnopkbniaa", sum := "17ea096b0e41254d86648f2936758461e59ecdc01d35e0ebdf4bb0c49b8b3beb", func := "tracery/tracerylaw07.FaceKeys", spec := "faceKeys", unfollowed := true, recurses := true, apart := false }
def FaceKeysSaid : Prop := faceKeysRow.holds Try.pinned (OpenSpec.ofChange faceKeysSpec)

/-- ITS FALSE NEIGHBOUR: 'it returns false'. Refute it at one input. -/
def faceKeysWrong : ChangeSpec := { name := "faceKeys", fn := fun _ => fun
  | [d1, d2, d3, d4] => { results := [.lit (.bool false)], args := [d1, d2, d3, d4] }
  | _ => none }
def FaceKeysWrongFalsely : Prop := faceKeysRow.holds Try.pinned (OpenSpec.ofChange faceKeysWrong)

/-- 'tracerylaw07.FaceGenus': WHATEVER THE INPUT: true; the input reads as it did. -/
def faceGenusSpec : ChangeSpec := { name := "faceGenus", fn := fun _ => fun
  | [d1, d2, d3] => { results := [.lit (.bool true)], args := [d1, d2, d3] }
  | _ => none }
def faceGenusRow : OpenClaim := { program := "ythobfbnopkbniaa", sum := "17ea096b0e41254d86648f2936758461e59ecdc01d35e0ebdf4bb0c49b8b3beb", func := "tracery/tracerylaw07.FaceGenus", spec := "faceGenus", unfollowed := true, recurses := true, apart := false }
def FaceGenusSaid : Prop := faceGenusRow.holds Try.pinned (OpenSpec.ofChange faceGenusSpec)

/-- ITS FALSE NEIGHBOUR: 'it returns false'. Refute it at one input. -/
def faceGenusWrong : ChangeSpec := { name := "faceGenus", fn := fun _ => fun
  | [d1, d2, d3] => { results := [.lit (.bool false)], args := [d1, d2, d3] }
  | _ => none }
def FaceGenusWrongFalsely : Prop := faceGenusRow.holds Try.pinned (OpenSpec.ofChange faceGenusWrong)

/- THE SECOND FORM. 'bulk': how many values and letters a reading holds, each counted each time it is reached (what is shared counts as often as it is met; a slice's spare places count too). A statement '..UptoSaid' is the law's where the arguments, and the package variables that the reading takes, are together of bulk at most 1048576: NARROWER than '..Said'. Prove '..Said' where nothing that the law and all that it calls make is longer than what came in: it says more and counts as full. Else prove '..UptoSaid'. A law counts once. -/
mutual
def uptoBulk {H : Type} : DataW H → Nat
  | .lit (.string bytes) => bytes.length + 1
  | .lit _ => 1
  | .nil => 1
  | .ptr d => uptoBulk d + 1
  | .slice elems spare => uptoBulkAll elems + uptoBulkAll spare + 1
  | .agg parts => uptoBulkAll parts + 1
  | .iface _ d => uptoBulk d + 1
  | .map entries => uptoBulkEntries entries + 1
  | .held _ => 1
def uptoBulkAll {H : Type} : List (DataW H) → Nat
  | [] => 0
  | d :: r => uptoBulk d + uptoBulkAll r
def uptoBulkEntries {H : Type} : List (Lit × DataW H) → Nat
  | [] => 0
  | x :: r => uptoBulkEntry x + uptoBulkEntries r
def uptoBulkEntry {H : Type} : Lit × DataW H → Nat
  | (.string bytes, d) => bytes.length + uptoBulk d + 1
  | (_, d) => uptoBulk d + 1
 end
def uptoSmall : (H : Type) → List (DataW H) → Bool := fun _ ds => decide (uptoBulkAll ds ≤ 1048576)
def OpenSpec.upto (s : _root_.Go.ChangeSpec) : _root_.Go.OpenSpec := { _root_.Go.OpenSpec.ofChange s with cond := some uptoSmall }

/-- 'tracerylaw06.RotaSteps', WHERE WHAT IT READS IS OF BULK AT MOST 1048576: true; the input reads as it did. -/
def rotaStepsUptoRow : OpenClaim := { program := "ythobfbnopkbniaa", sum := "17ea096b0e41254d86648f2936758461e59ecdc01d35e0ebdf4bb0c49b8b3beb", func := "tracery/tracerylaw06.RotaSteps", spec := "rotaSteps", apart := false, narrowed := true }
def RotaStepsUptoSaid : Prop := rotaStepsUptoRow.holds Try.pinned (OpenSpec.upto rotaStepsSpec)

/-- 'tracerylaw05.WalkPaths', WHERE WHAT IT READS IS OF BULK AT MOST 1048576: true; the input reads as it did. -/
def walkPathsUptoRow : OpenClaim := { program := "ythobfbnopkbniaa", sum := "17ea096b0e41254d86648f2936758461e59ecdc01d35e0ebdf4bb0c49b8b3beb", func := "tracery/tracerylaw05.WalkPaths", spec := "walkPaths", unfollowed := true, recurses := true, apart := false, narrowed := true }
def WalkPathsUptoSaid : Prop := walkPathsUptoRow.holds Try.pinned (OpenSpec.upto walkPathsSpec)

/-- 'tracerylaw06.RotaAgain', WHERE WHAT IT READS IS OF BULK AT MOST 1048576: true; the input reads as it did. -/
def rotaAgainUptoRow : OpenClaim := { program := "ythobfbnopkbniaa", sum := "17ea096b0e41254d86648f2936758461e59ecdc01d35e0ebdf4bb0c49b8b3beb", func := "tracery/tracerylaw06.RotaAgain", spec := "rotaAgain", unfollowed := true, recurses := true, apart := false, narrowed := true }
def RotaAgainUptoSaid : Prop := rotaAgainUptoRow.holds Try.pinned (OpenSpec.upto rotaAgainSpec)

/-- 'tracerylaw05.WalkFars', WHERE WHAT IT READS IS OF BULK AT MOST 1048576: true; the input reads as it did. -/
def walkFarsUptoRow : OpenClaim := { program := "ythobfbnopkbniaa", sum := "17ea096b0e41254d86648f2936758461e59ecdc01d35e0ebdf4bb0c49b8b3beb", func := "tracery/tracerylaw05.WalkFars", spec := "walkFars", unfollowed := true, recurses := true, apart := false, narrowed := true }
def WalkFarsUptoSaid : Prop := walkFarsUptoRow.holds Try.pinned (OpenSpec.upto walkFarsSpec)

/-- 'tracerylaw06.RotaPlays', WHERE WHAT IT READS IS OF BULK AT MOST 1048576: true; the input reads as it did. -/
def rotaPlaysUptoRow : OpenClaim := { program := "ythobfbnopkbniaa", sum := "17ea096b0e41254d86648f2936758461e59ecdc01d35e0ebdf4bb0c49b8b3beb", func := "tracery/tracerylaw06.RotaPlays", spec := "rotaPlays", unfollowed := true, recurses := true, apart := false, narrowed := true }
def RotaPlaysUptoSaid : Prop := rotaPlaysUptoRow.holds Try.pinned (OpenSpec.upto rotaPlaysSpec)

/-- 'tracerylaw05.WalkBeyonds', WHERE WHAT IT READS IS OF BULK AT MOST 1048576: true; the input reads as it did. -/
def walkBeyondsUptoRow : OpenClaim := { program := "ythobfbnopkbniaa", sum := "17ea096b0e41254d86648f2936758461e59ecdc01d35e0ebdf4bb0c49b8b3beb", func := "tracery/tracerylaw05.WalkBeyonds", spec := "walkBeyonds", unfollowed := true, recurses := true, apart := false, narrowed := true }
def WalkBeyondsUptoSaid : Prop := walkBeyondsUptoRow.holds Try.pinned (OpenSpec.upto walkBeyondsSpec)

/-- 'tracerylaw06.RotaMirror', WHERE WHAT IT READS IS OF BULK AT MOST 1048576: true; the input reads as it did. -/
def rotaMirrorUptoRow : OpenClaim := { program := "ythobfbnopkbniaa", sum := "17ea096b0e41254d86648f2936758461e59ecdc01d35e0ebdf4bb0c49b8b3beb", func := "tracery/tracerylaw06.RotaMirror", spec := "rotaMirror", unfollowed := true, recurses := true, apart := false, narrowed := true }
def RotaMirrorUptoSaid : Prop := rotaMirrorUptoRow.holds Try.pinned (OpenSpec.upto rotaMirrorSpec)

/-- 'tracerylaw05.WalkPieces', WHERE WHAT IT READS IS OF BULK AT MOST 1048576: true; the input reads as it did. -/
def walkPiecesUptoRow : OpenClaim := { program := "ythobfbnopkbniaa", sum := "17ea096b0e41254d86648f2936758461e59ecdc01d35e0ebdf4bb0c49b8b3beb", func := "tracery/tracerylaw05.WalkPieces", spec := "walkPieces", unfollowed := true, recurses := true, apart := false, narrowed := true }
def WalkPiecesUptoSaid : Prop := walkPiecesUptoRow.holds Try.pinned (OpenSpec.upto walkPiecesSpec)

/-- 'tracerylaw06.RotaNil', WHERE WHAT IT READS IS OF BULK AT MOST 1048576: true; the input reads as it did. -/
def rotaNilUptoRow : OpenClaim := { program := "ythobfbnopkbniaa", sum := "17ea096b0e41254d86648f2936758461e59ecdc01d35e0ebdf4bb0c49b8b3beb", func := "tracery/tracerylaw06.RotaNil", spec := "rotaNil", unfollowed := true, recurses := true, apart := false, narrowed := true }
def RotaNilUptoSaid : Prop := rotaNilUptoRow.holds Try.pinned (OpenSpec.upto rotaNilSpec)

/-- 'tracerylaw07.FaceOnce', WHERE WHAT IT READS IS OF BULK AT MOST 1048576: true; the input reads as it did. -/
def faceOnceUptoRow : OpenClaim := { program := "ythobfbnopkbniaa", sum := "17ea096b0e41254d86648f2936758461e59ecdc01d35e0ebdf4bb0c49b8b3beb", func := "tracery/tracerylaw07.FaceOnce", spec := "faceOnce", unfollowed := true, recurses := true, apart := false, narrowed := true }
def FaceOnceUptoSaid : Prop := faceOnceUptoRow.holds Try.pinned (OpenSpec.upto faceOnceSpec)

/-- 'tracerylaw07.FaceSpheres', WHERE WHAT IT READS IS OF BULK AT MOST 1048576: true; the input reads as it did. -/
def faceSpheresUptoRow : OpenClaim := { program := "ythobfbnopkbniaa", sum := "17ea096b0e41254d86648f2936758461e59ecdc01d35e0ebdf4bb0c49b8b3beb", func := "tracery/tracerylaw07.FaceSpheres", spec := "faceSpheres", unfollowed := true, recurses := true, apart := false, narrowed := true }
def FaceSpheresUptoSaid : Prop := faceSpheresUptoRow.holds Try.pinned (OpenSpec.upto faceSpheresSpec)

/-- 'tracerylaw07.FaceWalks', WHERE WHAT IT READS IS OF BULK AT MOST 1048576: true; the input reads as it did. -/
def faceWalksUptoRow : OpenClaim := { program := "ythobfbnopkbniaa", sum := "17ea096b0e41254d86648f2936758461e59ecdc01d35e0ebdf4bb0c49b8b3beb", func := "tracery/tracerylaw07.FaceWalks", spec := "faceWalks", unfollowed := true, recurses := true, apart := false, narrowed := true }
def FaceWalksUptoSaid : Prop := faceWalksUptoRow.holds Try.pinned (OpenSpec.upto faceWalksSpec)

/-- 'tracerylaw07.FaceKeys', WHERE WHAT IT READS IS OF BULK AT MOST 1048576: true; the input reads as it did. -/
def faceKeysUptoRow : OpenClaim := { program := "ythobfbnopkbniaa", sum := "17ea096b0e41254d86648f2936758461e59ecdc01d35e0ebdf4bb0c49b8b3beb", func := "tracery/tracerylaw07.FaceKeys", spec := "faceKeys", unfollowed := true, recurses := true, apart := false, narrowed := true }
def FaceKeysUptoSaid : Prop := faceKeysUptoRow.holds Try.pinned (OpenSpec.upto faceKeysSpec)

/-- 'tracerylaw07.FaceGenus', WHERE WHAT IT READS IS OF BULK AT MOST 1048576: true; the input reads as it did. -/
def faceGenusUptoRow : OpenClaim := { program := "ythobfbnopkbniaa", sum := "17ea096b0e41254d86648f2936758461e59ecdc01d35e0ebdf4bb0c49b8b3beb", func := "tracery/tracerylaw07.FaceGenus", spec := "faceGenus", unfollowed := true, recurses := true, apart := false, narrowed := true }
def FaceGenusUptoSaid : Prop := faceGenusUptoRow.holds Try.pinned (OpenSpec.upto faceGenusSpec)

end Rows
end Go.Proofs.Ythobfbnopkbniaa
