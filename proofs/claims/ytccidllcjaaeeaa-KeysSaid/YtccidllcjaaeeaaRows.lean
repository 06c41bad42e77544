/-
  No cell of these rows narrows 'for every input' (looked for: loops, veiled, ifaces, maps, wideKeys, modest, calm, conditions, laid).
  DERIVED. THE GIVEN ROWS OF THIS SEAT. 4 by the template 'for every input the law returns true; each argument reads behind the call as it read before'; 0 by the template 'total and deterministic' (their statements: YtccidllcjaaeeaaTotals.lean).
  GIVEN WITH THE SEED: the statements are not yours to turn. If you find one false, say at which input.
  Laid BY PROGRAM, IN A SANDBOX (cutbox-rows.mjs): the forced cells as the released guide's own fill.sh prints them over the translation 276bf8cb7a7446e8… (all of the seat's roots in one cut). By AI agents, Wed Nov 11 2026. No macro, syntax, notation, axiom, sorry.
-/
import Derived.Test.YtccidllcjaaeeaaChecked
import GoSem.Claim
import GoSem.ClaimJoined
import GoSem.ClaimMapViews
import Derived.JoinedTies
import Derived.KernelRfl
namespace Go.Proofs.Ytccidllcjaaeeaa
/- THE CELL 'sum', in the pinned program and in every row, IS THE sha256 OF THE DUMP (.gsa) THAT YtccidllcjaaeeaaProg.lean LOADS. Nothing in Lean hashes anything: it is a label: what it is worth is what the hold of that sum in a sandbox is worth. -/
noncomputable def Try.pinned : Pinned := { name := "ytccidllcjaaeeaa", sum := "276bf8cb7a7446e8ddd00945cc9a7590b27ef7aa3a6fa8f51f608d042475f89e", checked := Try.checked }
namespace Rows
def none {H : Type} : Left H := { results := [], args := [] }

/-- 'epochlaw.Names': WHATEVER THE INPUT: true; the input reads as it did. -/
def namesSpec : ChangeSpec := { name := "names", fn := fun _ => fun
  | [] => { results := [.lit (.bool true)], args := [] }
  | _ => none }
def namesRow : OpenClaim := { program := "ytccidllcjaaeeaa", sum := "276bf8cb7a7446e8ddd00945cc9a7590b27ef7aa3a6fa8f51f608d042475f89e", func := "epoch/epochlaw.Names", spec := "names", apart := false }
def NamesSaid : Prop := namesRow.holds Try.pinned (OpenSpec.ofChange namesSpec)

/-- ITS FALSE NEIGHBOUR: 'it returns false'. Refute it at one input. -/
def namesWrong : ChangeSpec := { name := "names", fn := fun _ => fun
  | [] => { results := [.lit (.bool false)], args := [] }
  | _ => none }
def NamesWrongFalsely : Prop := namesRow.holds Try.pinned (OpenSpec.ofChange namesWrong)

/-- 'epochlaw.Derives': WHATEVER THE INPUT: true; the input reads as it did. -/
def derivesSpec : ChangeSpec := { name := "derives", fn := fun _ => fun
  | [d1, d2, d3] => { results := [.lit (.bool true)], args := [d1, d2, d3] }
  | _ => none }
def derivesRow : OpenClaim := { program := "ytccidllcjaaeeaa", sum := "276bf8cb7a7446e8ddd00945cc9a7590b27ef7aa3a6fa8f51f608d042475f89e", func := "epoch/epochlaw.Derives", spec := "derives", inPlace := ["sync/atomic.AddInt64"], apart := false }
def DerivesSaid : Prop := derivesRow.holds Try.pinned (OpenSpec.ofChange derivesSpec)

/-- ITS FALSE NEIGHBOUR: 'it returns false'. Refute it at one input. -/
def derivesWrong : ChangeSpec := { name := "derives", fn := fun _ => fun
  | [d1, d2, d3] => { results := [.lit (.bool false)], args := [d1, d2, d3] }
  | _ => none }
def DerivesWrongFalsely : Prop := derivesRow.holds Try.pinned (OpenSpec.ofChange derivesWrong)

/-- 'epochlaw.Seals': WHATEVER THE INPUT: true; the input reads as it did. -/
def sealsSpec : ChangeSpec := { name := "seals", fn := fun _ => fun
  | [d1, d2, d3, d4] => { results := [.lit (.bool true)], args := [d1, d2, d3, d4] }
  | _ => none }
def sealsRow : OpenClaim := { program := "ytccidllcjaaeeaa", sum := "276bf8cb7a7446e8ddd00945cc9a7590b27ef7aa3a6fa8f51f608d042475f89e", func := "epoch/epochlaw.Seals", spec := "seals", inPlace := ["sync/atomic.AddInt64"], unfollowed := true, recurses := true, apart := false }
def SealsSaid : Prop := sealsRow.holds Try.pinned (OpenSpec.ofChange sealsSpec)

/-- ITS FALSE NEIGHBOUR: 'it returns false'. Refute it at one input. -/
def sealsWrong : ChangeSpec := { name := "seals", fn := fun _ => fun
  | [d1, d2, d3, d4] => { results := [.lit (.bool false)], args := [d1, d2, d3, d4] }
  | _ => none }
def SealsWrongFalsely : Prop := sealsRow.holds Try.pinned (OpenSpec.ofChange sealsWrong)

/-- 'epochlaw.Keys': WHATEVER THE INPUT: true; the input reads as it did. -/
def keysSpec : ChangeSpec := { name := "keys", fn := fun _ => fun
  | [d1, d2, d3, d4] => { results := [.lit (.bool true)], args := [d1, d2, d3, d4] }
  | _ => none }
def keysRow : OpenClaim := { program := "ytccidllcjaaeeaa", sum := "276bf8cb7a7446e8ddd00945cc9a7590b27ef7aa3a6fa8f51f608d042475f89e", func := "epoch/epochlaw.Keys", spec := "keys", inPlace := ["sync/atomic.AddInt64"], unfollowed := true, recurses := true, apart := false }
def KeysSaid : Prop := keysRow.holds Try.pinned (OpenSpec.ofChange keysSpec)

/-- ITS FALSE NEIGHBOUR: 'it returns false'. Refute it at one input. -/
def keysWrong : ChangeSpec := { name := "keys", fn := fun _ => fun
  | [d1, d2, d3, d4] => { results := [.lit (.bool false)], args := [d1, d2, d3, d4] }
  | _ => none }
def KeysWrongFalsely : Prop := keysRow.holds Try.pinned (OpenSpec.ofChange keysWrong)

/- THE SECOND FORM. 'bulk': how many values and letters a reading holds, each counted each time it is reached (what is shared counts as often as it is met; a slice's spare places count too). A statement '..UptoSaid' is the law's where the arguments, and the package variables that the reading takes, are together of bulk at most 1048576: NARROWER than '..Said'. Prove '..Said' where nothing that the law and all that it calls make is longer than what came in: it says more and counts as full. Else prove '..UptoSaid'. A law counts once. -/
mutual
def uptoBulk {H : Type} : DataW H → Nat
  | .lit (.string bytes) => bytes.length + 1
  | .lit _ => 1
  | .nil => 1
  | .ptr d => uptoBulk d + 1
  | .slice elems spare => uptoBulkAll elems + uptoBulkAll spare + 1
  | .agg parts => uptoBulkAll parts + 1
  | .iface _ d => uptoBulk d + 1
  | .map entries => uptoBulkEntries entries + 1
  | .held _ => 1
def uptoBulkAll {H : Type} : List (DataW H) → Nat
  | [] => 0
  | d :: r => uptoBulk d + uptoBulkAll r
def uptoBulkEntries {H : Type} : List (Lit × DataW H) → Nat
  | [] => 0
  | x :: r => uptoBulkEntry x + uptoBulkEntries r
def uptoBulkEntry {H : Type} : Lit × DataW H → Nat
  | (.string bytes, d) => bytes.length + uptoBulk d + 1
  | (_, d) => uptoBulk d + 1
 end
def uptoSmall : (H : Type) → List (DataW H) → Bool := fun _ ds => decide (uptoBulkAll ds ≤ 1048576)
def OpenSpec.upto (s : _root_.Go.ChangeSpec) : _root_.Go.OpenSpec := { _root_.Go.OpenSpec.ofChange s with cond := some uptoSmall }

/-- 'epochlaw.Names', WHERE WHAT IT READS IS OF BULK AT MOST 1048576: true; the input reads as it did. -/
def namesUptoRow : OpenClaim := { program := "ytccidllcjaaeeaa", sum := "276bf8cb7a7446e8ddd00945cc9a7590b27ef7aa3a6fa8f51f608d042475f89e", func := "epoch/epochlaw.Names", spec := "names", apart := false, narrowed := true }
def NamesUptoSaid : Prop := namesUptoRow.holds Try.pinned (OpenSpec.upto namesSpec)

/-- 'epochlaw.Derives', WHERE WHAT IT READS IS OF BULK AT MOST 1048576: true; the input reads as it did. -/
def derivesUptoRow : OpenClaim := { program := "ytccidllcjaaeeaa", sum := "276bf8cb7a7446e8ddd00945cc9a7590b27ef7aa3a6fa8f51f608d042475f89e", func := "epoch/epochlaw.Derives", spec := "derives", inPlace := ["sync/atomic.AddInt64"], apart := false, narrowed := true }
def DerivesUptoSaid : Prop := derivesUptoRow.holds Try.pinned (OpenSpec.upto derivesSpec)

/-- 'epochlaw.Seals', WHERE WHAT IT READS IS OF BULK AT MOST 1048576: true; the input reads as it did. -/
def sealsUptoRow : OpenClaim := { program := "ytccidllcjaaeeaa", sum := "276bf8cb7a7446e8ddd00945cc9a7590b27ef7aa3a6fa8f51f608d042475f89e", func := "epoch/epochlaw.Seals", spec := "seals", inPlace := ["sync/atomic.AddInt64"], unfollowed := true, recurses := true, apart := false, narrowed := true }
def SealsUptoSaid : Prop := sealsUptoRow.holds Try.pinned (OpenSpec.upto sealsSpec)

/-- 'epochlaw.Keys', WHERE WHAT IT READS IS OF BULK AT MOST 1048576: true; the input reads as it did. -/
def keysUptoRow : OpenClaim := { program := "ytccidllcjaaeeaa", sum := "276bf8cb7a7446e8ddd00945cc9a7590b27ef7aa3a6fa8f51f608d042475f89e", func := "epoch/epochlaw.Keys", spec := "keys", inPlace := ["sync/atomic.AddInt64"], unfollowed := true, recurses := true, apart := false, narrowed := true }
def KeysUptoSaid : Prop := keysUptoRow.holds Try.pinned (OpenSpec.upto keysSpec)

end Rows
end Go.Proofs.Ytccidllcjaaeeaa
