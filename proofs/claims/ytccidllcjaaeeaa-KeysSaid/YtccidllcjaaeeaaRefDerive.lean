/- The walk of the reference's Derive: it returns the eight bytes that the plain law tells; nothing that was there changes. Conditions: the secret has eight bytes, the label at most 65536. -/
import Derived.Test.YtccidllcjaaeeaaDerive
namespace Go.Proofs.Ytccidllcjaaeeaa
open Go.RowKit
set_option maxHeartbeats 1000000 in
theorem refDerive_any (w : World) (k : List UInt8) (label : ByteArray) (n : Int) (hk0 : k.length = 8) (hl : label.size ≤ 65536) :
    Calls Try.prog 10 #[.agg (cells k), .string label, .int .i64 n] w fun e w' => e = .returned (.agg (cells (kd k label.data.toList n))) ∧ Below w.heap.size w w' := by
  have hcell : ∀ j, j < 8 → (cells k)[j]? = some (.int .u8 (k.getD j 0).toNat) := by
    intro j hj
    have := cells_get k j (by omega)
    rw [Array.getElem?_toList] at this
    rw [this, List.getD_eq_getElem?_getD, List.getElem?_eq_getElem (by omega)]; rfl
  have Hcell := Lib.hid hcell
  have Hk := Lib.hid hk0
  clear hcell hk0
  go_enter Try.func10, Try.ntmps10
  go_wp2
  generalize hW : World.alloc (World.alloc _ _) _ = W
  have hS : W.heap[w.heap.size]? = some (.cells (cells k) 26 (0, 0)) := by rw [← hW]; exact heap_alloc2_old w _ _
  have hO : W.heap[w.heap.size + 1]? = some (.cells (cells [0, 0, 0, 0, 0, 0, 0, 0]) 26 (0, 0)) := by rw [← hW]; exact heap_alloc2_new w _ _
  have hWs : W.heap.size = w.heap.size + 2 := by rw [← hW]; simp
  have hWb : Below w.heap.size w W := by rw [← hW]; exact ((Below.refl _ _).alloc (Nat.le_refl _) _).alloc (by simp) _
  have HS := Lib.hid hS
  have HO := Lib.hid hO
  have HWs := Lib.hid hWs
  clear hS hO hWs hW
  go_loop [7, 8] (fun h i => ∃ j : Nat, j ≤ 8 ∧ i = .int .i64 j ∧ h = .int .u64 (fnv 14695981039346656037 (k.take j))) (fun _ i => 8 - (intOf i).toNat)
  case atStart => exact ⟨0, Nat.zero_le _, rfl, rfl⟩
  case round =>
    obtain ⟨j, hj, rfl, rfl⟩ := hrel
    by_cases hlt : j < 8
    · have hc : W.cell? ⟨w.heap.size, j, none⟩ = some (.int .u8 (k.getD j 0).toNat) := by rw [cell_of_row _ _ _ _ _ _ HS.out]; exact Hcell.out j hlt
      have Hs := Lib.hid (fnv_take 14695981039346656037 k j (by rw [Hk.out]; exact hlt))
      go_wp2
      go_round
      case rel => exact ⟨j + 1, by omega, by go_num, by rw [Hs.out]; rfl⟩
      case measure => simp [intOf]; omega
    · obtain rfl : j = 8 := by omega
      have hT := List.take_of_length_le (l := k) (i := 8) (by rw [Hk.out]; omega)
      clear hlt
      go_wp2
      clear hT
      generalize hh : fnv 14695981039346656037 k = h0
      have Hh := Lib.hid hh
      clear hh
      go_loop [7, 9] (fun h i => ∃ j : Nat, j ≤ label.size ∧ i = .int .i64 j ∧ h = .int .u64 (fnv h0 (label.data.toList.take j))) (fun _ i => label.size - (intOf i).toNat)
      case atStart => exact ⟨0, Nat.zero_le _, rfl, rfl⟩
      case round =>
        obtain ⟨j, hj, rfl, rfl⟩ := hrel
        by_cases hlt : j < label.size
        · have Hs := Lib.hid (fnv_take h0 label.data.toList j (by simpa using hlt))
          go_wp2
          go_round
          case rel => exact ⟨j + 1, by omega, by go_num, by rw [Hs.out, bytes_getD _ _ hlt]; rfl⟩
          case measure => simp [intOf]; omega
        · have hT := List.take_of_length_le (l := label.data.toList) (i := j) (by simpa using Nat.le_of_not_lt hlt)
          go_wp2
          clear hT
          generalize hh : fnv h0 label.data.toList = h1
          have Hh1 := Lib.hid hh
          clear hh
          go_loop [7, 10, 11] (fun h x i => ∃ j : Nat, j ≤ 4 ∧ i = .int .i64 j ∧ h = .int .u64 (fnv h1 ((be4 n).take j)) ∧ x = .int .u32 (num32 n j)) (fun _ _ i => 4 - (intOf i).toNat)
          case atStart => exact ⟨0, Nat.zero_le _, rfl, rfl, rfl⟩
          case round =>
            obtain ⟨m, hm, rfl, rfl, rfl⟩ := hrel
            by_cases hlt : m < 4
            · have Hs := Lib.hid (fnv_take h1 (be4 n) m hlt)
              obtain ⟨hb, hb0, hb1⟩ := num32_byte n m hlt
              have Hb := Lib.hid hb
              clear hb
              go_wp2
              go_round
              case rel => exact ⟨m + 1, by omega, by go_num, by rw [Hs.out, fstep, u64_byte, ← Hb.out], by rw [num32, u32_wrap]⟩
              case measure => simp [intOf]; omega
            · obtain rfl : m = 4 := by omega
              have hT := List.take_of_length_le (l := be4 n) (i := 4) (Nat.le_refl _)
              clear hlt
              go_wp2
              clear hT
              generalize hh : fnv h1 (be4 n) = h2
              have Hh2 := Lib.hid hh
              clear hh
              go_loop [7, 12] (fun h i => ∃ j : Nat, j ≤ 3 ∧ i = .int .i64 j ∧ h = .int .u64 (turns j h2)) (fun _ i => 3 - (intOf i).toNat)
              case atStart => exact ⟨0, by omega, rfl, rfl⟩
              case round =>
                obtain ⟨m, hm, rfl, rfl⟩ := hrel
                by_cases hlt : m < 3
                · go_wp2
                  go_round
                  case rel => exact ⟨m + 1, by omega, by go_num, rfl⟩
                  case measure => simp [intOf]; omega
                · obtain rfl : m = 3 := by omega
                  clear hlt
                  go_wp2
                  generalize ht : turns 3 h2 = h3
                  have Ht := Lib.hid ht
                  clear ht
                  go_loopw [14] (fun i wr => ∃ j : Nat, j ≤ 8 ∧ i = .int .i64 j ∧ wr.heap[W.heap.size]? = some (.cells (cells (outp h3 j)) 26 (0, 0)) ∧ Below W.heap.size W wr) (fun i _ => 8 - (intOf i).toNat)
                  case atStart => exact ⟨0, by omega, rfl, heap_alloc_new _ _, (Below.refl _ _).alloc (Nat.le_refl _) _⟩
                  case round =>
                    obtain ⟨m, hm, rfl, hro, hrb⟩ := hrel
                    by_cases hlt : m < 8
                    · have hoc : wr.cell? ⟨W.heap.size, m, none⟩ = some (.int .u8 ((outp h3 m).getD m 0).toNat) := by
                        rw [cell_of_row _ _ _ _ _ _ hro]
                        have := cells_get (outp h3 m) m (by rw [outp_length _ _ hm]; exact hlt)
                        simpa [List.getD, outp_length _ _ hm, hlt] using this
                      have hof : wr.frozen? ⟨W.heap.size, m, none⟩ = false := frozen_of_row _ _ _ _ _ hro
                      have hro := Lib.hid hro
                      go_wp2
                      have he : 56 - 8 * m = 8 * (7 - m) := by omega
                      have He := Lib.hid he
                      clear he
                      go_roundw
                      case rel => exact ⟨m + 1, by omega, by go_num, by rw [heap_setCell_same _ _ _ _ _ _ hro.out, He.out, outp_step h3 m hlt], hrb.setCell (Nat.le_refl _) _⟩
                      case measure => simp [intOf]; omega
                    · obtain rfl : m = 8 := by omega
                      clear hlt
                      rw [outp_all] at hro
                      have hR : wr.heap[w.heap.size + 1]? = some (.cells (cells [0, 0, 0, 0, 0, 0, 0, 0]) 26 (0, 0)) := by rw [hrb.block _ (by rw [HWs.out]; omega)]; exact HO.out
                      have Hro := Lib.hid hro
                      have HR := Lib.hid hR
                      clear hro hR
                      go_wp2_with (first | (refine wpList_load_row rfl 26 _ rfl W.heap.size rfl _ _ _ _ Hro.out Try.underlying26 rfl (by rw [infoSecret, cells_size, outb_length]) ?_) | (refine wpList_store_row rfl 26 _ _ rfl (w.heap.size + 1) _ rfl rfl _ _ HR.out (by rw [infoSecret, cells_size, outb_length]) (by rw [cells_size, cells_size, outb_length]; rfl) (cells_one _) ?_))
                      refine bodyPost_ret (results_cell_row rfl _ _ (w.heap.size + 1) _ _ _ _ rfl (setRow_heap _ _ _ _ _ _ HR.out) Try.underlying26 rfl (by rw [infoSecret, cells_size, outb_length])) rfl ⟨?_, below_setRow (hWb.trans (hrb.mono (by rw [HWs.out]; omega))) (by simp) _⟩
                      rw [kd_of _ _ _ _ _ _ _ Hh.out Hh1.out Hh2.out Ht.out]
end Go.Proofs.Ytccidllcjaaeeaa
