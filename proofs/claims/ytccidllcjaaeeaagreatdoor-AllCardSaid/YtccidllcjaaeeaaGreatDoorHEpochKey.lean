/- The walk of package epoch's Key. Conditions: the root has eight bytes. -/
import Derived.Test.YtccidllcjaaeeaaGreatDoorH2
namespace Go.Proofs.YtccidllcjaaeeaaGreatDoor
set_option maxRecDepth 100000
open Go.RowKit
open Go.Shelf Go.Lib Go.Sort
set_option maxRecDepth 100000 in
set_option maxHeartbeats 4000000 in
theorem key_no (w : World) (root : List UInt8) (n m g : Int) (hk : root.length = 8) (h : ¬ (1 ≤ n ∧ n ≤ 16 ∧ 0 ≤ m ∧ m < n)) :
    Calls Tryz.prog 49 #[.agg (cells root), .int .i64 n, .int .i64 m, .int .i64 g] w fun e w' => e = .returned (.tuple #[.agg (cells zeroS), .int .i64 1]) ∧ Below w.heap.size w w' := by
  have H := Lib.hid h
  have Hk := Lib.hid hk
  clear h hk
  go_enter Tryz.func49, Tryz.ntmps49
  go_upto_region 1 with (fail)
  generalize hW : World.alloc (World.alloc _ _) _ = W
  have hS : W.heap[w.heap.size]? = some (.cells (cells root) 48 (0, 0)) := by rw [← hW]; exact heap_alloc2_old w _ _
  have hR : W.heap[w.heap.size + 1]? = some (.cells (cells zeroS) 48 (0, 0)) := by rw [← hW]; exact heap_alloc2_new w _ _
  have hWb : Below w.heap.size w W := by rw [← hW]; exact balloc (balloc (Below.refl _ _) _) _
  have hRs : w.heap.size + 1 < W.heap.size := (Array.getElem?_eq_some_iff.1 hR).1
  have HS := Lib.hid hS
  have HR := Lib.hid hR
  clear hS hR hW
  go_wp2_with (first
    | (refine wpList_load_row rfl 48 (.tmp 4) rfl w.heap.size rfl _ (cells root) _ _ HS.out Tryz.underlying48 rfl (by rw [infoSecret, cells_size, Hk.out]) ?_))
  refine (leaf_no _ root n m H.out).mono ?_
  rintro e w1 ⟨rfl, hb1⟩
  have hR3 : w1.heap[w.heap.size + 1]? = some (.cells (cells zeroS) 48 (0, 0)) := by rw [hb1.block _ hRs]; exact HR.out
  have hR3s := (Array.getElem?_eq_some_iff.1 hR3).1
  have HR3 := Lib.hid hR3
  clear hR3
  go_wp2_with (first
    | (refine wpList_store_row rfl 48 (.tmp 10) _ rfl w1.heap.size (cells zeroS) rfl rfl _ _ (heap_alloc_new _ _) (by rw [infoSecret, cells_size]; rfl) (by rw [cells_size]; rfl) (cells_one _) ?_; rw [World.setRow_alloc_new])
    | (refine wpList_load_row rfl 48 (.tmp 10) rfl w1.heap.size rfl _ (cells zeroS) _ _ (heap_alloc_new _ _) Tryz.underlying48 rfl (by rw [infoSecret, cells_size]; rfl) ?_)
    | (refine wpList_store_row rfl 48 (.tmp 8) _ rfl (w.heap.size + 1) (cells zeroS) rfl rfl _ _ ((Below.heap_alloc _ _ _ hR3s).trans HR3.out) (by rw [infoSecret, cells_size]; rfl) rfl (cells_one _) ?_))
  refine bodyPost_ret (results_cell_row2 rfl _ _ (w.heap.size + 1) _ _ _ _ rfl (setRow_heap _ _ _ _ _ _ ((Below.heap_alloc _ _ _ hR3s).trans HR3.out)) Tryz.underlying48 rfl (by rw [infoSecret, cells_size]; rfl)) rfl ⟨rfl, below_setRow (balloc (bnext hWb hb1) _) (by simp) _⟩
set_option maxRecDepth 100000 in
set_option maxHeartbeats 4000000 in
theorem key_spent (w : World) (root : List UInt8) (n m : Nat) (g : Int) (hk : root.length = 8) (hm : m < n) (hn : n ≤ 16) (hg : g < 0 ∨ 65535 < g) :
    Calls Tryz.prog 49 #[.agg (cells root), .int .i64 n, .int .i64 m, .int .i64 g] w fun e w' => e = .returned (.tuple #[.agg (cells zeroS), .int .i64 8]) ∧ Below w.heap.size w w' := by
  have Hk := Lib.hid hk
  clear hk
  have hgg : (decide (g < 0) = true) ∨ (decide (g < 0) = false ∧ decide (65535 < g) = true) := by
    rcases hg with h | h
    · exact .inl (by simpa using h)
    · exact .inr ⟨by simp; omega, by simpa using h⟩
  clear hg
  rcases hgg with hg1 | ⟨hg1, hg2⟩
  all_goals
    go_enter Tryz.func49, Tryz.ntmps49
    go_upto_region 1 with (fail)
    generalize hW : World.alloc (World.alloc _ _) _ = W
    have hS : W.heap[w.heap.size]? = some (.cells (cells root) 48 (0, 0)) := by rw [← hW]; exact heap_alloc2_old w _ _
    have hR : W.heap[w.heap.size + 1]? = some (.cells (cells zeroS) 48 (0, 0)) := by rw [← hW]; exact heap_alloc2_new w _ _
    have hWb : Below w.heap.size w W := by rw [← hW]; exact balloc (balloc (Below.refl _ _) _) _
    have hRs : w.heap.size + 1 < W.heap.size := (Array.getElem?_eq_some_iff.1 hR).1
    have HS := Lib.hid hS
    have HR := Lib.hid hR
    clear hS hR hW
    go_wp2_with (first
      | (refine wpList_load_row rfl 48 (.tmp 4) rfl w.heap.size rfl _ (cells root) _ _ HS.out Tryz.underlying48 rfl (by rw [infoSecret, cells_size, Hk.out]) ?_))
    refine (leaf_yes _ root n m Hk.out hm hn).mono ?_
    rintro e w1 ⟨rfl, hb1⟩
    have hll : (leafL root n m).length = 8 := partL_length _ _ _ _ _ _ Hk.out
    generalize leafL root n m = leaf at *
    have Hll := Lib.hid hll
    have hR3 : w1.heap[w.heap.size + 1]? = some (.cells (cells zeroS) 48 (0, 0)) := by rw [hb1.block _ hRs]; exact HR.out
    have hR3s := (Array.getElem?_eq_some_iff.1 hR3).1
    have HR3 := Lib.hid hR3
    clear hR3 hll
    go_wp2_with (first
      | (refine wpList_store_row rfl 48 (.tmp 10) _ rfl w1.heap.size (cells leaf) rfl rfl _ _ (heap_alloc_new _ _) (by rw [infoSecret, cells_size, Hll.out]) (by rw [cells_size, Hll.out]; rfl) (cells_one _) ?_; rw [World.setRow_alloc_new])
      | (refine wpList_store_row rfl 48 (.tmp 8) _ rfl (w.heap.size + 1) (cells zeroS) rfl rfl _ _ ((Below.heap_alloc _ _ _ hR3s).trans HR3.out) (by rw [infoSecret, cells_size]; rfl) rfl (cells_one _) ?_))
    refine bodyPost_ret (results_cell_row2 rfl _ _ (w.heap.size + 1) _ _ _ _ rfl (setRow_heap _ _ _ _ _ _ ((Below.heap_alloc _ _ _ hR3s).trans HR3.out)) Tryz.underlying48 rfl (by rw [infoSecret, cells_size]; rfl)) rfl ⟨rfl, below_setRow (balloc (bnext hWb hb1) _) (by simp) _⟩
/-- What holds at the head of Key's loop. -/
def KyRel (w : World) (D Q : Nat) (leaf : List UInt8) (k : Nat) (wr : World) : Prop :=
  ∃ v : Int, 1 ≤ v ∧ v ≤ 1 + 2 * k ∧ wr.cell? ⟨D, 0, none⟩ = some (.int .i64 v) ∧ wr.frozen? ⟨D, 0, none⟩ = false ∧ wr.heap[Q]? = some (.cells (rcells (ratL leaf k) k) 97 (0, 0)) ∧
    wr.heap[w.heap.size + 1]? = some (.cells (cells zeroS) 48 (0, 0)) ∧ Below w.heap.size w wr
theorem ky_after {w wr w' : World} {D Q t : Nat} {u x : Value} {cur cs : Array Value} (hD : wr.cell? ⟨D, 0, none⟩ = some u) (hf : wr.frozen? ⟨D, 0, none⟩ = false) (hQ : wr.heap[Q]? = some (.cells cur t (0, 0))) (hQD : Q ≠ D) (hDw : w.heap.size ≤ D) (hQw : w.heap.size ≤ Q)
    (hb : Below w.heap.size w wr) (h : Below wr.heap.size ((wr.setCell ⟨D, 0, none⟩ x).setRow Q cs) w') :
    w'.cell? ⟨D, 0, none⟩ = some x ∧ w'.frozen? ⟨D, 0, none⟩ = false ∧ w'.heap[Q]? = some (.cells cs t (0, 0)) ∧ Below w.heap.size w w' := by
  have hDs : D < wr.heap.size := block_lt_of_cell hD
  have hQs : Q < wr.heap.size := (Array.getElem?_eq_some_iff.1 hQ).1
  have h1 : (wr.setCell ⟨D, 0, none⟩ x).heap[Q]? = some (.cells cur t (0, 0)) := (heap_setCell_other _ _ _ _ hQD).trans hQ
  refine ⟨?_, ?_, ?_, ?_⟩
  · rw [h.cell (p := ⟨D, 0, none⟩) hDs, cell_row_ne hQD]; exact World.cell?_setCell_same _ _ _ hD
  · rw [h.frozen (p := ⟨D, 0, none⟩) hDs, World.frozen?_of_block (a := ⟨D, 0, none⟩) (setRow_other _ _ _ _ (Ne.symm hQD)), World.frozen?_setCell]; exact hf
  · rw [h.block _ hQs]; exact setRow_heap _ _ _ _ _ _ h1
  · exact (below_setRow (hb.setCell (p := ⟨D, 0, none⟩) hDw x) hQw cs).trans (h.mono hb.size)
set_option maxRecDepth 100000 in
set_option maxHeartbeats 4000000 in
theorem key_yes (w : World) (root : List UInt8) (n m g : Nat) (hk : root.length = 8) (hm : m < n) (hn : n ≤ 16) (hg : g ≤ 65535) :
    Calls Tryz.prog 49 #[.agg (cells root), .int .i64 n, .int .i64 m, .int .i64 g] w fun e w' => e = .returned (.tuple #[.agg (cells (keyL (leafL root n m) g)), .int .i64 0]) ∧ Below w.heap.size w w' := by
  have Hk := Lib.hid hk
  clear hk
  have hg1 : decide ((g : Int) < 0) = false := by simp
  have hg2 : decide ((65535 : Int) < (g : Int)) = false := by simp; omega
  have hmf : ∀ (fn : Fn) (first cap : Array Value) (w : World), (Instr.makeFunc fn first cap).run Tryz.prog w = .ok (.func fn first cap) w := fun _ _ _ _ => rfl
  go_enter Tryz.func49, Tryz.ntmps49
  go_upto_region 1 with (fail)
  generalize hW : World.alloc (World.alloc _ _) _ = W
  have hS : W.heap[w.heap.size]? = some (.cells (cells root) 48 (0, 0)) := by rw [← hW]; exact heap_alloc2_old w _ _
  have hR : W.heap[w.heap.size + 1]? = some (.cells (cells zeroS) 48 (0, 0)) := by rw [← hW]; exact heap_alloc2_new w _ _
  have hWb : Below w.heap.size w W := by rw [← hW]; exact balloc (balloc (Below.refl _ _) _) _
  have hRs : w.heap.size + 1 < W.heap.size := (Array.getElem?_eq_some_iff.1 hR).1
  have HS := Lib.hid hS
  have HR := Lib.hid hR
  clear hS hR hW
  go_wp2_with (first
    | (refine wpList_load_row rfl 48 (.tmp 4) rfl w.heap.size rfl _ (cells root) _ _ HS.out Tryz.underlying48 rfl (by rw [infoSecret, cells_size, Hk.out]) ?_))
  refine (leaf_yes _ root n m Hk.out hm hn).mono ?_
  rintro e w1 ⟨rfl, hb1⟩
  have hll : (leafL root n m).length = 8 := partL_length _ _ _ _ _ _ Hk.out
  generalize hlf : leafL root n m = leaf at *
  have Hll := Lib.hid hll
  have Hlf := Lib.hid hlf
  have hR3 : w1.heap[w.heap.size + 1]? = some (.cells (cells zeroS) 48 (0, 0)) := by rw [hb1.block _ hRs]; exact HR.out
  have hR3s := (Array.getElem?_eq_some_iff.1 hR3).1
  have HR3 := Lib.hid hR3
  clear hR3 hll hlf
  go_wp2_with (first
    | (refine wpList_store_row rfl 48 (.tmp 10) _ rfl w1.heap.size (cells leaf) rfl rfl _ _ (heap_alloc_new _ _) (by rw [infoSecret, cells_size, Hll.out]) (by rw [cells_size, Hll.out]; rfl) (cells_one _) ?_; rw [World.setRow_alloc_new])
    | (refine wpList_load_row rfl 48 (.tmp 10) rfl w1.heap.size rfl _ (cells leaf) _ _ ((Below.heap_alloc _ _ _ (by simp)).trans (heap_alloc_new w1 _)) Tryz.underlying48 rfl (by rw [infoSecret, cells_size, Hll.out]) ?_))
  generalize hW3 : World.alloc (World.alloc _ _) _ = W3
  obtain ⟨D, hD⟩ : ∃ D, D = w1.heap.size + 1 := ⟨_, rfl⟩
  rw [← hD]
  have hD0 : W3.heap[D]? = some (.cells #[.int .i64 0] 79 (0, 0)) := by rw [← hW3, hD]; exact heap_alloc2_new w1 _ _
  have hR4 : W3.heap[w.heap.size + 1]? = some (.cells (cells zeroS) 48 (0, 0)) := by rw [← hW3, Below.heap_alloc _ _ _ (by simp; omega), Below.heap_alloc _ _ _ hR3s]; exact HR3.out
  have hb3 : Below w.heap.size w W3 := by rw [← hW3]; exact balloc (balloc (bnext hWb hb1) _) _
  have hDs : w.heap.size + 1 < D := by omega
  have HD0 := Lib.hid hD0
  have HR4 := Lib.hid hR4
  clear hW3 hD0 hR4 hD
  refine (ratNew_any D 0 0 W3 leaf Hll.out (cell_of_row _ _ _ _ _ _ HD0.out) (frozen_of_row _ _ _ _ _ HD0.out) (by omega) (by omega)).mono ?_
  rintro e w4 ⟨rfl, hb4⟩
  have hrs : (rcells (ratL leaf 0) 0).size = 9 := rcells_size _ _ (ratL_length _ _)
  rw [show kd leaf lRatchet 0 = ratL leaf 0 from rfl]
  have hw34 : W3.heap.size ≤ w4.heap.size := cnt_size hb4
  have hDW3 : D < W3.heap.size := (Array.getElem?_eq_some_iff.1 HD0.out).1
  have HR5 : Hid (w4.heap[w.heap.size + 1]? = some (.cells (cells zeroS) 48 (0, 0))) := Lib.hid (by rw [cnt_other hb4 (by omega) (by omega)]; exact HR4.out)
  have hc4 : w4.cell? ⟨D, 0, none⟩ = some (.int .i64 1) := cnt_cell hb4 (cell_of_row _ _ _ _ _ _ HD0.out)
  have hf4 : w4.frozen? ⟨D, 0, none⟩ = false := cnt_frozen hb4 (cell_of_row _ _ _ _ _ _ HD0.out) (frozen_of_row _ _ _ _ _ HD0.out)
  have HB4 : Hid (Below w.heap.size w w4) := Lib.hid ((hb3.setCell (p := ⟨D, 0, none⟩) (by show w.heap.size ≤ D; omega) _).trans (hb4.mono hb3.size))
  have Hc4 := Lib.hid hc4
  have Hf4 := Lib.hid hf4
  have Hrs := Lib.hid hrs
  clear hb4 hc4 hf4 hrs
  generalize hr0 : ratL leaf 0 = r0 at *
  have Hr0 := Lib.hid hr0
  clear hr0
  obtain ⟨Q, hQ⟩ : ∃ Q, Q = w4.heap.size := ⟨_, rfl⟩
  go_wp2_with (first
    | (refine wpList_store_row rfl 97 (.tmp 13) _ rfl w4.heap.size (rcells r0 0) rfl rfl _ (rcells zeroS 0) (by rw [rcells_zero]; exact heap_alloc_new _ _) (by rw [infoRatchet, Hrs.out]) (by rw [rcells_size _ _ rfl, Hrs.out]) (rcells_one _ _) ?_; rw [← rcells_zero, World.setRow_alloc_new]))
  rw [← hQ]
  have hQs : w.heap.size + 1 < Q := by omega
  have hQD : Q ≠ D := by omega
  have HQ := Lib.hid hQ
  clear hQ
  go_loopw [37] (fun s wr => ∃ k : Nat, k ≤ g ∧ s = .int .i64 k ∧ KyRel w D Q leaf k wr) (fun s _ => g - (intOf s).toNat)
  case atStart =>
    refine ⟨0, Nat.zero_le _, rfl, 1, by omega, by omega, ?_, ?_, ?_, ?_, ?_⟩
    · rw [World.cell?_alloc_past _ _ _ (by show D < _; omega)]; exact Hc4.out
    · rw [World.frozen?_alloc_past _ _ _ (by show D < _; omega)]; exact Hf4.out
    · rw [Hr0.out, HQ.out]; exact heap_alloc_new _ _
    · rw [Below.heap_alloc _ _ _ (by omega)]; exact HR5.out
    · exact balloc HB4.out _
  case round =>
    clear HB4 Hc4 Hf4 HR5 HR4 HD0 hb3 HR HS hWb hb1 HR3
    obtain ⟨k, hkg, rfl, v, v1, v2, q1, q2, q3, q4, q5⟩ := hrel
    have K1 := Lib.hid q1
    have K2 := Lib.hid q2
    have K3 := Lib.hid q3
    have K4 := Lib.hid q4
    have K5 := Lib.hid q5
    clear q1 q2 q3 q4 q5
    by_cases hlt : k < g
    · go_wp2_with fail
      refine (next_any D 0 Q v wr (ratL leaf k) k (ratL_length _ _) (by omega) K1.out K2.out (by omega) (by omega) K3.out hQD).mono ?_
      rintro e w5 ⟨rfl, hb5⟩
      have hns : nextS (ratL leaf k) k = ratL leaf (k + 1) := by rw [nextS, if_pos (by omega)]; rfl
      have hnn : nextN k = 2 := by rw [nextN, if_pos (by omega)]
      rw [hns, hnn] at hb5
      obtain ⟨p1, p2, p3, p4⟩ := ky_after K1.out K2.out K3.out hQD (by omega) (by omega) K5.out hb5
      have p5 : w5.heap[w.heap.size + 1]? = some (.cells (cells zeroS) 48 (0, 0)) := by
        rw [hb5.block _ (Array.getElem?_eq_some_iff.1 K4.out).1, heap_row_ne (show Q ≠ w.heap.size + 1 by omega), heap_ne (show D ≠ w.heap.size + 1 by omega)]; exact K4.out
      have P1 := Lib.hid p1
      have P2 := Lib.hid p2
      have P3 := Lib.hid p3
      have P4 := Lib.hid p4
      have P5 := Lib.hid p5
      clear hb5 p1 p2 p3 p4 p5 hns hnn
      go_wp2_with fail
      go_roundw
      case rel => exact ⟨k + 1, by omega, by go_num, v + 2, by omega, by omega, P1.out, P2.out, P3.out, P5.out, P4.out⟩
      case measure => simp [intOf]; omega
    · obtain rfl : k = g := by omega
      go_wp2_with fail
      refine (next_any D 0 Q v wr (ratL leaf k) k (ratL_length _ _) hg K1.out K2.out (by omega) (by omega) K3.out hQD).mono ?_
      rintro e w5 ⟨rfl, hb5⟩
      have p4 := (ky_after K1.out K2.out K3.out hQD (by omega) (by omega) K5.out hb5).2.2.2
      have p5 : w5.heap[w.heap.size + 1]? = some (.cells (cells zeroS) 48 (0, 0)) := by
        rw [hb5.block _ (Array.getElem?_eq_some_iff.1 K4.out).1, heap_row_ne (show Q ≠ w.heap.size + 1 by omega), heap_ne (show D ≠ w.heap.size + 1 by omega)]; exact K4.out
      have hkl : (kd (ratL leaf k) lKey k).length = 8 := kd_length _ _ _
      have hke : keyL (leafL root n m) k = kd (ratL leaf k) lKey k := by rw [Hlf.out]; rfl
      generalize kd (ratL leaf k) lKey k = key at *
      have Hkl := Lib.hid hkl
      have Hke := Lib.hid hke
      have P4 := Lib.hid p4
      have P5 := Lib.hid p5
      clear hb5 p4 p5 hkl hke
      go_wp2_with (first
        | (refine wpList_store_row rfl 48 (.tmp 8) _ rfl (w.heap.size + 1) (cells key) rfl rfl _ _ P5.out (by rw [infoSecret, cells_size, Hkl.out]) (by rw [cells_size, cells_size, Hkl.out]; rfl) (cells_one _) ?_))
      refine bodyPost_ret (results_cell_row2 rfl _ _ (w.heap.size + 1) _ _ _ _ rfl (setRow_heap _ _ _ _ _ _ P5.out) Tryz.underlying48 rfl (by rw [infoSecret, cells_size, Hkl.out])) rfl ⟨by rw [Hke.out]; rfl, below_setRow P4.out (by simp) _⟩
end Go.Proofs.YtccidllcjaaeeaaGreatDoor
