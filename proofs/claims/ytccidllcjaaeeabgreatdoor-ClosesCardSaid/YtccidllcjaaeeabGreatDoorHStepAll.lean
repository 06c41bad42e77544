/- The walk of a step of any kind. Conditions: the plays' world lies and reads; the numbers are ints; the text is of a bounded length. -/
import Derived.Test.YtccidllcjaaeeabGreatDoorHStep
import Derived.Test.YtccidllcjaaeeabGreatDoorHStepMore
import Derived.Test.YtccidllcjaaeeabGreatDoorHStepClose
namespace Go.Proofs.YtccidllcjaaeeabGreatDoor
set_option maxRecDepth 100000
open Go Go.Maps Go.RowKit
open Go.Shelf Go.Lib Go.Sort Go.MuLone
theorem step_any (w : World) (base W m u : Nat) (d : Nat → SPl) (s : Nat → GSt) (P : Nat → Nat → Prop) (lv bv : Value) (bag : List ByteArray) (kind a b : Int) (str : ByteArray) (h : PlayAt w base W m d s P u lv bv bag) (hm : 0 < m) (hm16 : m ≤ 16) (hb0 : 0 < base) (hbs : base ≤ w.heap.size) (hu : u ≤ 90000) (ha : -9223372036854775808 ≤ a ∧ a ≤ 9223372036854775807) (hb : -9223372036854775808 ≤ b ∧ b ≤ 9223372036854775807) (hs : str.size ≤ 65536) :
    Calls Tryz.prog 8 #[.pointer (some ⟨W, 0, none⟩), .agg #[.int .i64 kind, .int .i64 a, .int .i64 b, .string str]] w fun e w' => e = .returned (.bool true) ∧ PlayGo w w' base W m (u + 1) := by
  by_cases h1 : kind = 1
  · subst h1; exact step_protect w base W m u d s P lv bv bag a b str h hm hm16 hb0 hbs hu ha hs
  by_cases h2 : kind = 2
  · subst h2; exact step_un w base W m u d s P lv bv bag a b str h hm hm16 hb0 hbs hu ha hb
  by_cases h3 : kind = 3
  · subst h3; exact step_forge w base W m u d s P lv bv bag a b str h hm hm16 hb0 hbs hu ha hs
  by_cases h4 : kind = 4
  · subst h4; exact step_bent w base W m u d s P lv bv bag a b str h hm hm16 hb0 hbs hu ha hb hs
  by_cases h5 : kind = 5
  · subst h5; exact step_dump w base W m u d s P lv bv bag a b str h hm hm16 hb0 hbs hu ha
  by_cases h6 : kind = 6
  · subst h6; exact step_close w base W m u d s P lv bv bag a b str h hm hm16 hb0 hbs hu ha
  exact step_none w base W m u d s P lv bv bag a b kind str h hm hm16 hb0 hbs ha ⟨h1, h2, h3, h4, h5, h6⟩
end Go.Proofs.YtccidllcjaaeeabGreatDoor
