/- The walk of epochlaw's All. Conditions: its numbers are ints; its strings are no longer than an int; the two slices read; the errors' type word lies. -/
import Derived.Test.YtccidllcjaaeeaaGreatDoorHCloses
import Derived.Test.YtccidllcjaaeeaaGreatDoorH1
import Derived.Test.YtccidllcjaaeeaaGreatDoorHSeals
import Derived.Test.YtccidllcjaaeeaaGreatDoorHKeys
namespace Go.Proofs.YtccidllcjaaeeaaGreatDoor
set_option maxRecDepth 100000
open Go Go.Maps Go.RowKit
theorem seals_all (W : World) (key h t b : ByteArray) :
    Calls Tryz.prog 19 #[.string key, .string h, .string t, .string b] W fun e W' => e = .returned (.bool true) ∧ Below W.heap.size W W' := by
  by_cases hl : 65536 < h.size ∨ 65536 < t.size ∨ 65536 < b.size
  · exact seals_long W key h t b hl
  · exact seals_any W key h t b (by omega) (by omega) (by omega)
theorem keys_all (W : World) (a : ByteArray) (n m g : Int) :
    Calls Tryz.prog 20 #[.string a, .int .i64 n, .int .i64 m, .int .i64 g] W fun e W' => e = .returned (.bool true) ∧ Below W.heap.size W W' := by
  by_cases h1 : (4096 : Int) < g
  · by_cases h2 : g ≤ 65535
    · exact keys_any W a n m g (g % 4096) (.inr (.inr ⟨h1, h2, rfl⟩))
    · exact keys_any W a n m g g (.inr (.inl ⟨rfl, h1, h2⟩))
  · exact keys_any W a n m g g (.inl ⟨rfl, h1⟩)
theorem ints_below {w w' : World} {v : Value} {L : List Int} (h : IntsAt w v L) (hb : Below w.heap.size w w') : IntsAt w' v L := by
  rcases h with h | ⟨a, cap, h1, h2, h3, h4⟩
  · exact .inl h
  · exact .inr ⟨a, cap, h1, h2, h3, fun i hi => ⟨(hb.cell (block_lt_of_cell (h4 i hi).1)).trans (h4 i hi).1, (h4 i hi).2⟩⟩
theorem ops_below {w w' : World} {v : Value} {L : List OpV} (h : OpsAt w v L) (hb : Below w.heap.size w w') : OpsAt w' v L := by
  rcases h with h | ⟨a, cap, h1, h2, h3, h4⟩
  · exact .inl h
  · refine .inr ⟨a, cap, h1, h2, h3, fun i hi => ?_⟩
    obtain ⟨c0, c1, c2, c3, r⟩ := h4 i hi
    exact ⟨(hb.cell (block_lt_of_cell c0)).trans c0, (hb.cell (block_lt_of_cell c1)).trans c1, (hb.cell (block_lt_of_cell c2)).trans c2, (hb.cell (block_lt_of_cell c3)).trans c3, r⟩
set_option maxHeartbeats 4000000 in
theorem all_any (w : World) (root : ByteArray) (n : Int) (v1 v2 : Value) (L : List Int) (O : List OpV) (label text : ByteArray) (g : Int) (hn : -9223372036854775808 ≤ n ∧ n ≤ 9223372036854775807) (h1 : IntsAt w v1 L) (h2 : OpsAt w v2 O) (hl : label.size ≤ 9223372036854775807) (hE : EG w) :
    Calls Tryz.prog 4 #[.string root, .int .i64 n, v1, v2, .string label, .string text, .int .i64 g] w fun e w' => e = .returned (.bool true) ∧ Below w.heap.size w w' := by
  have hd := fun W => derives_any W root label g hl
  have hs := fun W => seals_all W root label text label
  have hk := fun W => keys_all W root n g g
  have hc := fun W (hb : Below w.heap.size w W) => closes_any W root n v1 v2 L O hn (ints_below h1 hb) (ops_below h2 hb) (hE.below hb)
  have Hd := Lib.hid hd
  have Hs := Lib.hid hs
  have Hk := Lib.hid hk
  have Hc := Lib.hid hc
  clear hd hs hk hc h1 h2 hE hn hl
  go_enter Tryz.func4, Tryz.ntmps4
  go_upto_region 2 with (fail)
  go_loopw [15, 16, 17, 18, 19] (fun iv _ _ _ _ wr => ∃ k : Nat, k ≤ 2 ∧ iv = .int .i64 k ∧ Below w.heap.size w wr) (fun iv _ _ _ _ _ => 2 - (intOf iv).toNat)
  case atStart => exact ⟨0, Nat.zero_le _, rfl, Below.refl _ _⟩
  case round =>
    obtain ⟨k, hk, rfl, hb⟩ := hrel
    have Hb := Lib.hid hb
    clear hb
    by_cases h : k < 2
    · have hI : (k : Int) < 2 := by omega
      go_wp2_with (first
        | (go_at_call 18; refine (Hd.out _).mono ?_; rintro e w1 ⟨rfl, hb1⟩; have Hb1 := Lib.hid (bnext Hb.out hb1); clear hb1; go_frame)
        | (go_at_call 19; refine (Hs.out _).mono ?_; rintro e w2 ⟨rfl, hb2⟩; have Hb2 := Lib.hid (bnext Hb1.out hb2); clear hb2; go_frame)
        | (go_at_call 20; refine (Hk.out _).mono ?_; rintro e w3 ⟨rfl, hb3⟩; have Hb3 := Lib.hid (bnext Hb2.out hb3); clear hb3; go_frame)
        | (go_at_call 21; refine (Hc.out _ Hb3.out).mono ?_; rintro e w4 ⟨rfl, hb4⟩; have Hb4 := Lib.hid (bnext Hb3.out hb4); clear hb4; go_frame))
      go_roundw
      case rel => exact ⟨k + 1, by omega, by go_num, Hb4.out⟩
      case measure => simp only [intOf]; omega
    · have hI : ¬ (k : Int) < 2 := by omega
      go_wp2
      go_ret
      exact ⟨rfl, Hb.out⟩
end Go.Proofs.YtccidllcjaaeeaaGreatDoor
