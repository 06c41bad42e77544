/- The walk of kdf's Derive: it returns the eight bytes that the plain law tells, and adds one to the counter. Conditions: the secret has eight bytes, the label at most 65536, the counter stands in a cell that may be written, from 0 to 2^62. -/
import Derived.Test.YtccidllcjaaeeaaRows
import Derived.Test.YtccidllcjaaeeaaKdf
import Derived.Deep.DeepCutAuto
import Derived.Deep.DeepMust
namespace Go.Proofs.Ytccidllcjaaeeaa
open Go.RowKit
theorem int_add (v : Int) (w : World) (hb : 0 ≤ v) (hb' : v ≤ 4611686018427387904) : (Op.intArith .add .i64 v 1).run Try.prog w = .ok (.int .i64 (v+1)) w := by
  have e : IntKind.i64.wrap (v + 1) = v + 1 := IntWalk.i64_in _ (by omega)
  simp [go_sem, e]
set_option maxHeartbeats 400000 in
theorem add_any (D o : Nat) (v : Int) (w : World) (hx : w.cell? ⟨D, o, none⟩ = some (.int .i64 v)) (hf : w.frozen? ⟨D, o, none⟩ = false) (hb : 0 ≤ v) (hb' : v ≤ 4611686018427387904) :
    Calls Try.prog 31 #[.pointer (some ⟨D, o, none⟩), .int .i64 1] w fun e w' => e = .returned (.int .i64 (v+1)) ∧ w' = w.setCell ⟨D, o, none⟩ (.int .i64 (v+1)) := by
  have h := run_call_add (P := Try.prog) (f := 42) Try.func42 (by kernel_rfl) (by kernel_rfl) (by kernel_rfl) .i64 (by kernel_rfl) hx hf (int_add v w hb hb')
  go_enter Try.func31, Try.ntmps31
  go_wp2
  go_ret
  exact ⟨rfl, rfl⟩

theorem infoU8 : (Try.prog.info? 5).map (fun i => (i.zero, i.size, i.bytes)) = some (some (.int .u8 0), 1, 1) := by kernel_rfl
theorem infoSecret : (Try.prog.info? 26).map (·.size) = some 8 := by kernel_rfl
theorem cells_one (k : List UInt8) : (cells k).all (·.oneCell') = true := by
  refine Array.all_eq_true_iff_forall_mem.2 fun v hv => ?_
  simp only [cells, List.mem_toArray, List.mem_map] at hv
  obtain ⟨b, _, rfl⟩ := hv
  rfl
set_option maxHeartbeats 1000000 in
theorem derive_any (D o : Nat) (v : Int) (w : World) (k : List UInt8) (label : ByteArray) (n : Int) (hk0 : k.length = 8) (hl : label.size ≤ 65536) (hx : w.cell? ⟨D, o, none⟩ = some (.int .i64 v)) (hf : w.frozen? ⟨D, o, none⟩ = false) (hb : 0 ≤ v) (hb' : v ≤ 4611686018427387904) :
    Calls Try.prog 19 #[.pointer (some ⟨D, o, none⟩), .agg (cells k), .string label, .int .i64 n] w fun e w' => e = .returned (.agg (cells (kd k label.data.toList n))) ∧ Below w.heap.size (w.setCell ⟨D, o, none⟩ (.int .i64 (v+1))) w' := by
  have hk : (cells k).size = 8 := by rw [cells_size]; exact hk0
  have hD : D < w.heap.size := block_lt_of_cell hx
  obtain ⟨i0, hi, hz0, hz1, hz2⟩ := info_parts infoU8
  go_enter Try.func19, Try.ntmps19
  go_wp2_with fail
  refine (add_any D o v _ (by go_simp) (by go_simp) hb hb').mono ?_
  rintro e w' ⟨rfl, rfl⟩
  generalize hW : World.setCell (World.alloc _ _) _ _ = W
  have hS : ∀ j u, (cells k).toList[j]? = some u → W.cell? ((⟨w.heap.size, 0, none⟩ : Addr).add j) = some u := by
    intro j u h
    rw [Addr.add_lit, Nat.zero_add, ← hW, World.cell?_setCell_other _ _ _ _ (by simp <;> omega), World.cell?_alloc_past _ _ _ (by simp), cell_of_row _ _ _ _ _ _ (heap_alloc_new _ _)]
    simpa using h
  have hDW : D < W.heap.size := by rw [← hW]; simp; omega
  have hWs : W.heap.size = w.heap.size + 2 := by rw [← hW]; simp
  have hWo : W.heap[w.heap.size + 1]? = some (.cells (cells [0, 0, 0, 0, 0, 0, 0, 0]) 26 (0, 0)) := by
    rw [← hW, heap_setCell_other _ _ _ _ (by simp; omega)]
    exact heap_alloc2_new w _ _
  have hWb : Below w.heap.size (w.setCell ⟨D, o, none⟩ (.int .i64 (v+1))) W := by
    rw [← hW]
    exact below_setCell (((Below.refl _ _).alloc (Nat.le_refl _) _).alloc (by simp) _) _ _
  have hH := Lib.hid hW
  clear hW
  have hb4 := Lib.hid (be4_cells n)
  have HWs := Lib.hid hWs
  clear hWs
  have HWo := Lib.hid hWo
  clear hWo
  go_upto_region 3 with (fail)
  go_cut [10] (fun s10 wx => wx.ownsRow (w.heap.size + 2) 5 1 s10 (8 + label.size + 4) (cells (k ++ label.data.toList ++ be4 n)).toList ∧ Below (w.heap.size + 2) W wx)
  case first =>
    by_cases hl0 : label.size = 0
    · go_wp2_with (first | (at_builtin; refine wpList_append_empty_string _ rfl _ _ 30 9 rfl 5 i0 Try.underlying30 Try.underlying9 hi hz1 ⟨w.heap.size, 0, none⟩ 8 8 rfl label rfl hl0 (by decide) ?_) | (at_builtin; refine wpList_append_grows _ rfl _ _ 30 rfl 5 i0 (.int .u8 0) 1 1 Try.underlying30 hi hz0 hz1 hz2 rfl (by decide) (some ⟨w.heap.size, 0, none⟩) 8 8 (cells k).toList rfl (by simp) (by simpa using hk) (fun b hb => by cases hb; exact cell_old_row hS _) _ 4 4 [Value.int .u8 (n / 16777216 % 256), Value.int .u8 (n / 65536 % 256), Value.int .u8 (n / 256 % 256), Value.int .u8 (n % 256)] rfl rfl (cell_new_row W #[_, _, _, _] 5) (one4 _ _ _ _) (by omega) (by unfold maxLen; omega) (by omega) ?_; intro v' W1 hown hg))
      go_meet
      refine ⟨?_, ?_⟩
      · rw [hb4.out, cells_append] at hown
        have he : label.data.toList = [] := List.eq_nil_of_length_eq_zero (by simpa using hl0)
        rw [hl0, he, List.append_nil]
        exact ownsRow_mono hown (by simp [HWs.out])
      · exact ((Below.refl _ _).alloc (Nat.le_of_eq HWs.out.symm) _).grown hg (by simp [HWs.out]) (by simp)
    · go_wp2_with (first | (at_builtin; refine wpList_append_grow_string _ rfl _ _ 30 9 rfl 5 i0 Try.underlying30 Try.underlying9 hi hz0 hz1 hz2 ⟨w.heap.size, 0, none⟩ 8 8 (cells k).toList rfl (by simpa using hk) hS label rfl (by omega) (by omega) ?_; intro v' W1 hown hg) | (at_builtin; go_must (refine wpList_append_own _ rfl _ _ 30 rfl W.heap.size 5 i0 (.int .u8 0) 1 1 Try.underlying30 hi hz0 hz1 hz2 rfl (by decide) _ _ _ rfl (hown.alloc _) _ 4 4 [Value.int .u8 (n / 16777216 % 256), Value.int .u8 (n / 65536 % 256), Value.int .u8 (n / 256 % 256), Value.int .u8 (n % 256)] rfl rfl (cell_new_row _ #[_, _, _, _] 5) (one4 _ _ _ _) (by unfold maxLen; omega) (by omega) (Nat.le_trans hg.size (by simp)) ?_); intro v2 W2 hown2 hg2 _))
      go_meet
      refine ⟨?_, ?_⟩
      · rw [hb4.out, strCells_eq, cells_append, cells_append] at hown2
        exact ownsRow_mono hown2 (by simp [HWs.out])
      · have h1 : Below (w.heap.size + 2) W W1 := (Below.refl _ _).grown hg (by simp [HWs.out]) (by simp)
        exact (h1.alloc (Nat.le_trans (Nat.le_of_eq HWs.out.symm) h1.size) _).grown hg2 (Nat.le_trans (Nat.le_of_eq HWs.out.symm) (Nat.le_trans h1.size (by simp))) (fun b hb => by have := hown.lt b hb; rw [HWs.out] at this; exact this.1)
  case rest =>
    obtain ⟨hown, hbel⟩ := hcut
    obtain ⟨g, cap, rfl, hg1, hg2⟩ := ownsRow_pos hown (by omega)
    have hlen : (k ++ label.data.toList ++ be4 n).length = 8 + label.size + 4 := by
      have := hk; rw [cells_size] at this; simp [be4, this]; omega
    have hcell : ∀ j, j < 8 + label.size + 4 → wc.cell? ⟨g, j, none⟩ = some (.int .u8 ((k ++ label.data.toList ++ be4 n).getD j 0).toNat) := by
      intro j hj
      rw [hown.cellAt j (by omega), cells_get _ _ (by omega)]
      rw [List.getD_eq_getElem?_getD, List.getElem?_eq_getElem (by omega)]; rfl
    have hO : wc.heap[w.heap.size + 1]? = some (.cells (cells [0, 0, 0, 0, 0, 0, 0, 0]) 26 (0, 0)) := by rw [hbel.block _ (by omega)]; exact HWo.out
    have hbd : Below w.heap.size (w.setCell ⟨D, o, none⟩ (.int .i64 (v+1))) wc := hWb.trans (hbel.mono (by omega))
    have hgo : g ≠ w.heap.size + 1 := by omega
    have hkd : kd k label.data.toList n = outb (fin3 (fnv 14695981039346656037 (k ++ label.data.toList ++ be4 n))) := rfl
    generalize hL : k ++ label.data.toList ++ be4 n = L at *
    have HL := Lib.hid hL
    have Hlen := Lib.hid hlen
    have Hcell := Lib.hid hcell
    have Hkd := Lib.hid hkd
    have HO := Lib.hid hO
    clear hL hlen hcell hS hk hkd hO hk0
    generalize hN : 8 + label.size + 4 = N at *
    have hN' : N ≤ 70000 := by omega
    have HN := Lib.hid hN
    clear hN
    go_wp2
    go_loop [9, 12, 36] (fun h b i => ∃ j : Nat, j ≤ N ∧ i = .int .i64 j ∧ h = .int .u64 (fnv 14695981039346656037 (L.take j))) (fun _ _ i => N - (intOf i).toNat)
    case atStart => exact ⟨0, Nat.zero_le _, rfl, rfl⟩
    case round =>
      obtain ⟨j, hj, rfl, rfl⟩ := hrel
      by_cases hlt : j < N
      · have hc := Hcell.out j hlt
        have Hs := Lib.hid (fnv_take 14695981039346656037 L j (by rw [Hlen.out]; exact hlt))
        go_wp2
        go_round
        case rel => exact ⟨j + 1, by omega, by go_num, by rw [Hs.out]; rfl⟩
        case measure => simp [intOf]; omega
      · have hjN : j = N := by omega
        have hT := List.take_of_length_le (l := L) (i := j) (by rw [Hlen.out]; omega)
        clear hjN
        go_wp2
        clear hT
        generalize hh : fnv 14695981039346656037 L = h0
        have Hh := Lib.hid hh
        clear hh Hcell
        go_loop [9, 46] (fun h i => ∃ j : Nat, j ≤ 3 ∧ i = .int .i64 j ∧ h = .int .u64 (turns j h0)) (fun _ i => 3 - (intOf i).toNat)
        case atStart => exact ⟨0, by omega, rfl, rfl⟩
        case round =>
          obtain ⟨m, hm, rfl, rfl⟩ := hrel
          by_cases hlt : m < 3
          · go_wp2
            go_round
            case rel => exact ⟨m + 1, by omega, by go_num, rfl⟩
            case measure => simp [intOf]; omega
          · obtain rfl : m = 3 := by omega
            clear hlt
            go_wp2
            generalize ht : turns 3 h0 = h1
            have Ht := Lib.hid ht
            clear ht
            go_loopw [13, 55] (fun _ i wr => ∃ j : Nat, j ≤ 8 ∧ i = .int .i64 j ∧ wr.heap[w.heap.size + 1]? = some (.cells (cells (outp h1 j)) 26 (0, 0)) ∧ Below w.heap.size (w.setCell ⟨D, o, none⟩ (.int .i64 (v+1))) wr) (fun _ i _ => 8 - (intOf i).toNat)
            case atStart => exact ⟨0, by omega, rfl, HO.out, hbd⟩
            case round =>
              obtain ⟨m, hm, rfl, hro, hrb⟩ := hrel
              by_cases hlt : m < 8
              · have hoc : wr.cell? ⟨w.heap.size + 1, m, none⟩ = some (.int .u8 ((outp h1 m).getD m 0).toNat) := by
                  rw [cell_of_row _ _ _ _ _ _ hro]
                  have := cells_get (outp h1 m) m (by rw [outp_length _ _ hm]; exact hlt)
                  simpa [List.getD, outp_length _ _ hm, hlt] using this
                have hof : wr.frozen? ⟨w.heap.size + 1, m, none⟩ = false := frozen_of_row _ _ _ _ _ hro
                have hro := Lib.hid hro
                go_wp2
                go_roundw
                case rel => exact ⟨m + 1, by omega, by go_num, by rw [heap_setCell_same _ _ _ _ _ _ hro.out, outp_step h1 m hlt], hrb.setCell (by simp) _⟩
                case measure => simp [intOf]; omega
              · obtain rfl : m = 8 := by omega
                clear hlt
                rw [outp_all] at hro
                have hro' := Lib.hid hro
                have hroi := run_loadVar_row (P := Try.prog) wr (w.heap.size + 1) _ 26 _ _ _ hro Try.underlying26 rfl (by rw [infoSecret, cells_size, outb_length])
                clear hro
                go_wp2_with (first | (refine wpList_load_row rfl 26 _ rfl (w.heap.size + 1) rfl _ _ _ _ hro'.out Try.underlying26 rfl (by rw [infoSecret, cells_size, outb_length]) ?_) | (refine wpList_store_row rfl 26 _ _ rfl (w.heap.size + 1) _ rfl rfl _ _ hro'.out (by rw [infoSecret, cells_size, outb_length]) rfl (cells_one _) ?_))
                refine bodyPost_ret (results_cell_row rfl _ _ (w.heap.size + 1) _ _ _ _ rfl (setRow_heap _ _ _ _ _ _ hro'.out) Try.underlying26 rfl (by rw [infoSecret, cells_size, outb_length])) rfl ⟨?_, below_setRow hrb (by simp) _⟩
                rw [Hkd.out, Hh.out, fin3, Ht.out]
end Go.Proofs.Ytccidllcjaaeeaa
