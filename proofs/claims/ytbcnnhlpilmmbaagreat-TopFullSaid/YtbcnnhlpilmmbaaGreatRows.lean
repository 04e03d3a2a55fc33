/-
  No cell of these rows narrows 'for every input' (looked for: loops, veiled, ifaces, maps, wideKeys, modest, calm, conditions, laid).
  DERIVED. THE GIVEN ROWS OF THIS SEAT. 3 by the template 'for every input the law returns true; each argument reads behind the call as it read before'; 0 by the template 'total and deterministic' (their statements: YtbcnnhlpilmmbaaGreatTotals.lean).
  GIVEN WITH THE SEED: the statements are not yours to turn. If you find one false, say at which input.
  Laid BY PROGRAM, IN A SANDBOX (cutbox-rows.mjs): the forced cells as the released guide's own fill.sh prints them over the translation 46f4c1db246524c3… (all of the seat's roots in one cut). By AI agents, Wed Nov 11 2026. No macro, syntax, notation, axiom, sorry.
-/
import Derived.Test.YtbcnnhlpilmmbaaGreatChecked
import GoSem.Claim
import GoSem.ClaimJoined
import GoSem.ClaimMapViews
import Derived.JoinedTies
import Derived.KernelRfl
namespace Go.Proofs.YtbcnnhlpilmmbaaGreat
/- THE CELL 'sum', in the pinned program and in every row, IS THE sha256 OF THE DUMP (.gsa) THAT YtbcnnhlpilmmbaaGreatProg.lean LOADS. Nothing in Lean hashes anything: it is a label: what it is worth is what the hold of that sum in a sandbox is worth. -/
noncomputable def Tryz.pinned : Pinned := { name := "ytbcnnhlpilmmbaagreat", sum := "46f4c1db246524c3152915cae9d6750239a33d143a98677facbf434dc0862b85", checked := Tryz.checked }
namespace Rows
def none {H : Type} : Left H := { results := [], args := [] }

/-- 'sherpatop.TopFull': WHATEVER THE INPUT: true; the input reads as it did. -/
def topFullSpec : ChangeSpec := { name := "topFull", fn := fun _ => fun
  | [d1, d2] => { results := [.lit (.bool true)], args := [d1, d2] }
  | _ => none }
def topFullRow : OpenClaim := { program := "ytbcnnhlpilmmbaagreat", sum := "46f4c1db246524c3152915cae9d6750239a33d143a98677facbf434dc0862b85", func := "sherpa/sherpatop.TopFull", spec := "topFull", unfollowed := true, recurses := true, apart := false }
def TopFullSaid : Prop := topFullRow.holds Tryz.pinned (OpenSpec.ofChange topFullSpec)

/-- ITS FALSE NEIGHBOUR: 'it returns false'. Refute it at one input. -/
def topFullWrong : ChangeSpec := { name := "topFull", fn := fun _ => fun
  | [d1, d2] => { results := [.lit (.bool false)], args := [d1, d2] }
  | _ => none }
def TopFullWrongFalsely : Prop := topFullRow.holds Tryz.pinned (OpenSpec.ofChange topFullWrong)

/-- 'sherpatop.TopClaims': WHATEVER THE INPUT: true; the input reads as it did. -/
def topClaimsSpec : ChangeSpec := { name := "topClaims", fn := fun _ => fun
  | [d1, d2] => { results := [.lit (.bool true)], args := [d1, d2] }
  | _ => none }
def topClaimsRow : OpenClaim := { program := "ytbcnnhlpilmmbaagreat", sum := "46f4c1db246524c3152915cae9d6750239a33d143a98677facbf434dc0862b85", func := "sherpa/sherpatop.TopClaims", spec := "topClaims", unfollowed := true, recurses := true, apart := false }
def TopClaimsSaid : Prop := topClaimsRow.holds Tryz.pinned (OpenSpec.ofChange topClaimsSpec)

/-- ITS FALSE NEIGHBOUR: 'it returns false'. Refute it at one input. -/
def topClaimsWrong : ChangeSpec := { name := "topClaims", fn := fun _ => fun
  | [d1, d2] => { results := [.lit (.bool false)], args := [d1, d2] }
  | _ => none }
def TopClaimsWrongFalsely : Prop := topClaimsRow.holds Tryz.pinned (OpenSpec.ofChange topClaimsWrong)

/-- 'sherpatop.TopPaths': WHATEVER THE INPUT: true; the input reads as it did. -/
def topPathsSpec : ChangeSpec := { name := "topPaths", fn := fun _ => fun
  | [d1, d2] => { results := [.lit (.bool true)], args := [d1, d2] }
  | _ => none }
def topPathsRow : OpenClaim := { program := "ytbcnnhlpilmmbaagreat", sum := "46f4c1db246524c3152915cae9d6750239a33d143a98677facbf434dc0862b85", func := "sherpa/sherpatop.TopPaths", spec := "topPaths", unfollowed := true, recurses := true, apart := false }
def TopPathsSaid : Prop := topPathsRow.holds Tryz.pinned (OpenSpec.ofChange topPathsSpec)

/-- ITS FALSE NEIGHBOUR: 'it returns false'. Refute it at one input. -/
def topPathsWrong : ChangeSpec := { name := "topPaths", fn := fun _ => fun
  | [d1, d2] => { results := [.lit (.bool false)], args := [d1, d2] }
  | _ => none }
def TopPathsWrongFalsely : Prop := topPathsRow.holds Tryz.pinned (OpenSpec.ofChange topPathsWrong)

/- THE SECOND FORM. 'bulk': how many values and letters a reading holds, each counted each time it is reached (what is shared counts as often as it is met; a slice's spare places count too). A statement '..UptoSaid' is the law's where the arguments, and the package variables that the reading takes, are together of bulk at most 1048576: NARROWER than '..Said'. Prove '..Said' where nothing that the law and all that it calls make is longer than what came in: it says more and counts as full. Else prove '..UptoSaid'. A law counts once. -/
mutual
def uptoBulk {H : Type} : DataW H → Nat
  | .lit (.string bytes) => bytes.length + 1
  | .lit _ => 1
  | .nil => 1
  | .ptr d => uptoBulk d + 1
  | .slice elems spare => uptoBulkAll elems + uptoBulkAll spare + 1
  | .agg parts => uptoBulkAll parts + 1
  | .iface _ d => uptoBulk d + 1
  | .map entries => uptoBulkEntries entries + 1
  | .held _ => 1
def uptoBulkAll {H : Type} : List (DataW H) → Nat
  | [] => 0
  | d :: r => uptoBulk d + uptoBulkAll r
def uptoBulkEntries {H : Type} : List (Lit × DataW H) → Nat
  | [] => 0
  | x :: r => uptoBulkEntry x + uptoBulkEntries r
def uptoBulkEntry {H : Type} : Lit × DataW H → Nat
  | (.string bytes, d) => bytes.length + uptoBulk d + 1
  | (_, d) => uptoBulk d + 1
 end
def uptoSmall : (H : Type) → List (DataW H) → Bool := fun _ ds => decide (uptoBulkAll ds ≤ 1048576)
def OpenSpec.upto (s : _root_.Go.ChangeSpec) : _root_.Go.OpenSpec := { _root_.Go.OpenSpec.ofChange s with cond := some uptoSmall }

/-- 'sherpatop.TopFull', WHERE WHAT IT READS IS OF BULK AT MOST 1048576: true; the input reads as it did. -/
def topFullUptoRow : OpenClaim := { program := "ytbcnnhlpilmmbaagreat", sum := "46f4c1db246524c3152915cae9d6750239a33d143a98677facbf434dc0862b85", func := "sherpa/sherpatop.TopFull", spec := "topFull", unfollowed := true, recurses := true, apart := false, narrowed := true }
def TopFullUptoSaid : Prop := topFullUptoRow.holds Tryz.pinned (OpenSpec.upto topFullSpec)

/-- 'sherpatop.TopClaims', WHERE WHAT IT READS IS OF BULK AT MOST 1048576: true; the input reads as it did. -/
def topClaimsUptoRow : OpenClaim := { program := "ytbcnnhlpilmmbaagreat", sum := "46f4c1db246524c3152915cae9d6750239a33d143a98677facbf434dc0862b85", func := "sherpa/sherpatop.TopClaims", spec := "topClaims", unfollowed := true, recurses := true, apart := false, narrowed := true }
def TopClaimsUptoSaid : Prop := topClaimsUptoRow.holds Tryz.pinned (OpenSpec.upto topClaimsSpec)

/-- 'sherpatop.TopPaths', WHERE WHAT IT READS IS OF BULK AT MOST 1048576: true; the input reads as it did. -/
def topPathsUptoRow : OpenClaim := { program := "ytbcnnhlpilmmbaagreat", sum := "46f4c1db246524c3152915cae9d6750239a33d143a98677facbf434dc0862b85", func := "sherpa/sherpatop.TopPaths", spec := "topPaths", unfollowed := true, recurses := true, apart := false, narrowed := true }
def TopPathsUptoSaid : Prop := topPathsUptoRow.holds Tryz.pinned (OpenSpec.upto topPathsSpec)

end Rows
end Go.Proofs.YtbcnnhlpilmmbaaGreat
