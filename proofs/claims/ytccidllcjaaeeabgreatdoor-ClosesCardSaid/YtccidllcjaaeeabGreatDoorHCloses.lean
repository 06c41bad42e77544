/- The walk of epochlaw's Closes. Conditions: the number of members is an int; the two slices read; the errors' type word lies. -/
import Derived.Test.YtccidllcjaaeeabGreatDoorHPlays
namespace Go.Proofs.YtccidllcjaaeeabGreatDoor
set_option maxRecDepth 100000
open Go Go.Maps Go.RowKit
theorem closes_any (w : World) (root : ByteArray) (n : Int) (v1 v2 : Value) (L : List Int) (O : List OpV) (hn : -9223372036854775808 ≤ n ∧ n ≤ 9223372036854775807) (h1 : IntsAt w v1 L) (h2 : OpsAt w v2 O) (hE : EG w) :
    Calls Tryz.prog 3 #[.string root, .int .i64 n, v1, v2] w fun e w' => e = .returned (.bool true) ∧ Below w.heap.size w w' := by
  have hp := plays_any w root n v1 v2 L O 6 hn h1 h2 hE
  have Hp := Lib.hid hp
  clear hp h1 h2 hE hn
  go_enter Tryz.func3, Tryz.ntmps3
  go_wp2_with (first | (go_at_call 4; refine Hp.out.mono ?_; rintro e w1 ⟨rfl, hb⟩; have Hb := Lib.hid hb; clear hb; go_frame))
  go_ret
  exact ⟨rfl, Hb.out⟩
end Go.Proofs.YtccidllcjaaeeabGreatDoor
