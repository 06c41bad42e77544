/- The walk of kdf's tag: four bytes of what is derived out of the key and SUM; one secret is derived. Conditions: the key has eight bytes, the counter is far from its end. -/
import Derived.Test.YtccidllcjaaeeaaMix
namespace Go.Proofs.Ytccidllcjaaeeaa
open Go.RowKit
set_option maxHeartbeats 400000 in
theorem add1_any (w : World) (H : Nat) (h0 : Int) (p : Option Addr) (cap : Nat) (l : List UInt8) (hl : l.length ≤ 9223372036854775807)
    (hh : w.heap[H]? = some (.cells #[.int .u32 h0] 50 (0, 0))) (hr : Rd w p l) :
    Calls Try.prog 44 #[.slice p l.length cap, .pointer (some ⟨H, 0, none⟩)] w fun e w' => e = .returned (.tuple #[]) ∧ w' = w.setRow H #[.int .u32 (fnv32 h0 l)] := by
  have Hh := Lib.hid hh
  clear hh
  generalize hN : l.length = N at *
  have HN := Lib.hid hN
  clear hN
  go_enter Try.func44, Try.ntmps44
  go_wp2
  go_loopw [4, 7] (fun _ i wr => ∃ j : Nat, j ≤ N ∧ i = .int .i64 j ∧ wr = w.setRow H #[.int .u32 (fnv32 h0 (l.take j))]) (fun _ i _ => N - (intOf i).toNat)
  case atStart => exact ⟨0, Nat.zero_le _, rfl, (setRow_self w H _ _ _ Hh.out).symm⟩
  case round =>
    obtain ⟨j, hj, rfl, rfl⟩ := hrel
    by_cases hlt : j < N
    · obtain ⟨b, o, rfl, hc⟩ := hr (by rw [HN.out]; omega)
      have hc := hc j (by rw [HN.out]; omega)
      have hbH : b ≠ H := by
        rintro rfl
        rw [cell_of_row _ _ _ _ _ _ Hh.out] at hc
        rcases Nat.eq_zero_or_pos (o + j) with h | h
        · simp [h] at hc
        · rw [Array.getElem?_eq_none (by simp; omega)] at hc; cases hc
      have hcb : (w.setRow H #[.int .u32 (fnv32 h0 (l.take j))]).cell? ⟨b, o + j, none⟩ = some (.int .u8 (l.getD j 0).toNat) := by
        rw [World.cell?_of_block (w := w) (setRow_other w H b _ hbH)]; exact hc
      have hrow := setRow_heap w H _ #[.int .u32 (fnv32 h0 (l.take j))] _ _ Hh.out
      have hcH : (w.setRow H #[.int .u32 (fnv32 h0 (l.take j))]).cell? ⟨H, 0, none⟩ = some (.int .u32 (fnv32 h0 (l.take j))) := by rw [cell_of_row _ _ _ _ _ _ hrow]; rfl
      have hfH : (w.setRow H #[.int .u32 (fnv32 h0 (l.take j))]).frozen? ⟨H, 0, none⟩ = false := frozen_of_row _ _ _ _ _ hrow
      have Hs := Lib.hid (fnv32_take h0 l j (by rw [HN.out]; exact hlt))
      have Hrow := Lib.hid hrow
      clear hc hrow
      generalize hW : w.setRow H #[.int .u32 (fnv32 h0 (l.take j))] = W at *
      have HW := Lib.hid hW
      clear hW
      go_wp2
      go_roundw
      case rel =>
        refine ⟨j + 1, by omega, by go_num, ?_⟩
        rw [setCell_eq_setRow _ _ _ _ _ _ _ Hrow.out, ← HW.out, setRow_setRow, Hs.out, fstep32, u32_wrap, u32_wrap]
        rfl
      case measure => simp [intOf]; omega
    · have hT := List.take_of_length_le (l := l) (i := j) (by rw [HN.out]; omega)
      go_wp2
      go_end0
      exact ⟨rfl, rfl⟩

theorem lTag_eq : (⟨#[116, 97, 103]⟩ : ByteArray).data.toList = lTag := rfl
set_option maxHeartbeats 1000000 in
theorem tag_any (D o : Nat) (v : Int) (w : World) (k : List UInt8) (p1 p2 : Option Addr) (c1 c2 : Nat) (head l : List UInt8) (hk : k.length = 8)
    (hx : w.cell? ⟨D, o, none⟩ = some (.int .i64 v)) (hf : w.frozen? ⟨D, o, none⟩ = false) (hb0 : 0 ≤ v) (hb1 : v ≤ 4611686018427000000)
    (hl1 : head.length ≤ 9223372036854775807) (hl2 : l.length ≤ 9223372036854775807) (hr1 : Rd w p1 head) (hr2 : Rd w p2 l) :
    Calls Try.prog 33 #[.pointer (some ⟨D, o, none⟩), .agg (cells k), .slice p1 head.length c1, .slice p2 l.length c2] w fun e w' =>
      ∃ T, e = .returned (.slice (some ⟨T, 0, none⟩) 4 8) ∧ w.heap.size ≤ T ∧ w'.heap[T]? = some (.cells (cells (kd k lTag (sumL head l))) 26 (0, 0)) ∧ Below w.heap.size (w.setCell ⟨D, o, none⟩ (.int .i64 (v + 1))) w' := by
  have hD := block_lt_of_cell hx
  have Hk := Lib.hid hk
  clear hk
  go_enter Try.func33, Try.ntmps33
  go_wp2_with fail
  generalize hW : World.alloc (World.alloc _ _) _ = W
  have hH : W.heap[w.heap.size + 1]? = some (.cells #[.int .u32 2166136261] 50 (0, 0)) := by rw [← hW]; exact heap_alloc2_new w _ _
  have hK : W.heap[w.heap.size]? = some (.cells (cells k) 26 (0, 0)) := by rw [← hW]; exact heap_alloc2_old w _ _
  have hB : Below w.heap.size w W := by rw [← hW]; exact balloc (balloc (Below.refl _ _) _) _
  have hS : W.heap.size = w.heap.size + 2 := by rw [← hW]; simp
  clear hW
  refine (add1_any W (w.heap.size + 1) 2166136261 p1 c1 head hl1 hH (hr1.below hB)).mono ?_
  rintro e w1 ⟨rfl, hw1⟩
  have hB1 : Below w.heap.size w w1 := by rw [hw1]; exact below_setRow hB (by omega) _
  have hS1 : w1.heap.size = w.heap.size + 2 := by rw [hw1]; simpa using hS
  have hH1 : w1.heap[w.heap.size + 1]? = some (.cells #[.int .u32 (fnv32 2166136261 head)] 50 (0, 0)) := by rw [hw1]; exact setRow_heap _ _ _ _ _ _ hH
  have hK1 : w1.heap[w.heap.size]? = some (.cells (cells k) 26 (0, 0)) := by rw [hw1, setRow_other _ _ _ _ (by omega)]; exact hK
  have HK1 := Lib.hid hK1
  have HH1 := Lib.hid hH1
  have HS1 := Lib.hid hS1
  clear hw1 hH hK hB hS hK1 hH1 hS1
  go_wp2_with fail
  have hH2 : (w1.alloc (.cells (cells [0]) 5)).heap[w.heap.size + 1]? = some (.cells #[.int .u32 (fnv32 2166136261 head)] 50 (0, 0)) := by
    rw [Below.heap_alloc _ _ _ (by rw [HS1.out]; omega)]; exact HH1.out
  refine (add1_any (w1.alloc (.cells (cells [0]) 5)) (w.heap.size + 1) _ (some ⟨w1.heap.size, 0, none⟩) 1 [0] (by decide) hH2 (Rd.row (heap_alloc_new _ _))).mono ?_
  rintro e w2 ⟨rfl, hw2⟩
  have hB2 : Below w.heap.size w w2 := by rw [hw2]; exact below_setRow (balloc hB1 _) (by omega) _
  have hS2 : w2.heap.size = w.heap.size + 3 := by rw [hw2]; simp [HS1.out]
  have hH2' : w2.heap[w.heap.size + 1]? = some (.cells #[.int .u32 (fnv32 (fnv32 2166136261 head) [0])] 50 (0, 0)) := by rw [hw2]; exact setRow_heap _ _ _ _ _ _ hH2
  have hK2 : w2.heap[w.heap.size]? = some (.cells (cells k) 26 (0, 0)) := by rw [hw2, setRow_other _ _ _ _ (by omega), Below.heap_alloc _ _ _ (by rw [HS1.out]; omega)]; exact HK1.out
  have HK2 := Lib.hid hK2
  have HH2 := Lib.hid hH2'
  have HS2 := Lib.hid hS2
  clear hw2 hH2 hK2 hH2' hS2
  go_wp2_with fail
  refine (add1_any w2 (w.heap.size + 1) _ p2 c2 l hl2 HH2.out (hr2.below hB2)).mono ?_
  rintro e w3 ⟨rfl, hw3⟩
  have hB3 : Below w.heap.size w w3 := by rw [hw3]; exact below_setRow hB2 (by omega) _
  have hH3 : w3.heap[w.heap.size + 1]? = some (.cells #[.int .u32 (fnv32 (fnv32 (fnv32 2166136261 head) [0]) l)] 50 (0, 0)) := by rw [hw3]; exact setRow_heap _ _ _ _ _ _ HH2.out
  have hK3 : w3.heap[w.heap.size]? = some (.cells (cells k) 26 (0, 0)) := by rw [hw3, setRow_other _ _ _ _ (by omega)]; exact HK2.out
  have hsum : fnv32 (fnv32 (fnv32 2166136261 head) [0]) l = sum32 head l := by rw [sum32, ← fnv32_append, ← fnv32_append]; simp
  rw [hsum] at hH3
  have hc : w3.cell? ⟨w.heap.size + 1, 0, none⟩ = some (.int .u32 (sum32 head l)) := by rw [cell_of_row _ _ _ _ _ _ hH3]; rfl
  have hsr := fnv32_range 2166136261 (head ++ 0 :: l) (by decide) (by decide)
  have hsr0 : 0 ≤ sum32 head l := hsr.1
  have hsr1 : sum32 head l < 4294967296 := hsr.2
  have HK3 := Lib.hid hK3
  have hx3 : w3.cell? ⟨D, o, none⟩ = some (.int .i64 v) := by rw [hB3.cell hD]; exact hx
  have hf3 : w3.frozen? ⟨D, o, none⟩ = false := by rw [hB3.frozen hD]; exact hf
  clear hw3 hH3 hK3 hsum hsr
  go_wp2_with (first | (refine wpList_load_row rfl 26 _ rfl w.heap.size rfl _ _ _ _ HK3.out Try.underlying26 rfl (by rw [infoSecret, cells_size, Hk.out]) ?_))
  rw [sumL_wrap]
  refine (derive_any D o v _ k _ _ Hk.out (by decide) hx3 hf3 hb0 (by omega)).mono ?_
  rintro e w4 ⟨rfl, hb4⟩
  rw [lTag_eq]
  have hB4 : Below w.heap.size (w.setCell ⟨D, o, none⟩ (.int .i64 (v + 1))) w4 := (below_setCell hB3 _ _).trans (hb4.mono hB3.size)
  have hsz : w.heap.size ≤ w4.heap.size := by have := hB4.size; rwa [size_setCell] at this
  go_wp2_with (first | (refine wpList_store_row rfl 26 _ _ rfl _ _ rfl rfl _ _ (heap_alloc_new _ _) (by rw [infoSecret, cells_size, kd_length]) (by rw [cells_size, kd_length]; rfl) (cells_one _) ?_; rw [World.setRow_alloc_new]))
  go_ret
  exact ⟨_, rfl, hsz, heap_alloc_new _ _, hB4.alloc hsz _⟩
end Go.Proofs.Ytccidllcjaaeeaa
