/- The walk of epochlaw.Keys: Leaf and Key of the program are the document's. No condition. -/
import Derived.Test.YtccidllcjaaeeaaGreatDoorHEpochKey
namespace Go.Proofs.YtccidllcjaaeeaaGreatDoor
set_option maxRecDepth 100000
open Go.RowKit
theorem leaf_both (root : List UInt8) (n m : Int) (hk : root.length = 8) : ∃ (k : List UInt8) (c : Int), k.length = 8 ∧
    (∀ w, Calls Tryz.prog 47 #[.agg (cells root), .int .i64 n, .int .i64 m] w fun e w' => e = .returned (.tuple #[.agg (cells k), .int .i64 c]) ∧ Below w.heap.size w w') ∧
    (∀ w, Calls Tryz.prog 48 #[.agg (cells root), .int .i64 n, .int .i64 m] w fun e w' => e = .returned (.tuple #[.agg (cells k), .int .i64 c]) ∧ Below w.heap.size w w') := by
  by_cases h : 1 ≤ n ∧ n ≤ 16 ∧ 0 ≤ m ∧ m < n
  · obtain ⟨n', rfl⟩ : ∃ n' : Nat, n = n' := ⟨n.toNat, by omega⟩
    obtain ⟨m', rfl⟩ : ∃ m' : Nat, m = m' := ⟨m.toNat, by omega⟩
    exact ⟨leafL root n' m', 0, partL_length _ _ _ _ _ _ hk, fun w => leaf_yes w root n' m' hk (by omega) (by omega), fun w => refLeaf_yes w root n' m' hk (by omega) (by omega)⟩
  · exact ⟨zeroS, 1, rfl, fun w => leaf_no w root n m h, fun w => refLeaf_no w root n m h⟩
theorem key_both (root : List UInt8) (n m g : Int) (hk : root.length = 8) : ∃ (k : List UInt8) (c : Int), k.length = 8 ∧
    (∀ w, Calls Tryz.prog 49 #[.agg (cells root), .int .i64 n, .int .i64 m, .int .i64 g] w fun e w' => e = .returned (.tuple #[.agg (cells k), .int .i64 c]) ∧ Below w.heap.size w w') ∧
    (∀ w, Calls Tryz.prog 50 #[.agg (cells root), .int .i64 n, .int .i64 m, .int .i64 g] w fun e w' => e = .returned (.tuple #[.agg (cells k), .int .i64 c]) ∧ Below w.heap.size w w') := by
  by_cases h : 1 ≤ n ∧ n ≤ 16 ∧ 0 ≤ m ∧ m < n
  · obtain ⟨n', rfl⟩ : ∃ n' : Nat, n = n' := ⟨n.toNat, by omega⟩
    obtain ⟨m', rfl⟩ : ∃ m' : Nat, m = m' := ⟨m.toNat, by omega⟩
    by_cases hg : g < 0 ∨ 65535 < g
    · exact ⟨zeroS, 8, rfl, fun w => key_spent w root n' m' g hk (by omega) (by omega) hg, fun w => refKey_spent w root n' m' g (by omega) (by omega) hg⟩
    · obtain ⟨g', rfl⟩ : ∃ g' : Nat, g = g' := ⟨g.toNat, by omega⟩
      exact ⟨keyL (leafL root n' m') g', 0, kd_length _ _ _, fun w => key_yes w root n' m' g' hk (by omega) (by omega) (by omega), fun w => refKey_yes w root n' m' g' hk (by omega) (by omega) (by omega)⟩
  · exact ⟨zeroS, 1, rfl, fun w => key_no w root n m g hk h, fun w => refKey_no w root n m g h⟩
/-- '!=' of two secrets. -/
theorem wpList_neq_secret {w : World} {ops : Array Oper} {rest : List Oper} {o : Oper} {a : Act} {Q : Exit → Act → World → Prop} (hgd : o.guard = none) (x y : Operand)
    (ho : o.op = .binOp .neq 48 x y 48) (k l : List UInt8) (hx : a.eval x = .agg (cells k)) (hy : a.eval y = .agg (cells l)) (hk : k.length = 8) (hl : l.length = 8)
    (h : wpList Tryz.prog ops Q rest (a.put o.dst (.bool (!(k == l)))) w) : wpList Tryz.prog ops Q (o :: rest) a w := by
  refine wpList_plain hgd fun K hK => ?_
  have h1 := run_eqGuard_agg (P := Tryz.prog) (w := w) .neq 48 x y (cells k) (cells l) eqGuardSecret
  have h2 : (binOp .neq 48 (.agg (cells k)) (.agg (cells l))).run Tryz.prog w = .ok (.bool (!(k == l))) w := by
    have := run_equalIn_bytes w 9998 48 5 8 Tryz.underlying48 Tryz.underlying5 sizeU8 k l hk hl
    rw [run_neq_struct]
    show ((Op.equalIn 10000 48 (.agg (k.map Extern.Stop.cell).toArray) (.agg (l.map Extern.Stop.cell).toArray)).run Tryz.prog w).andThen _ = _
    rw [this]; rfl
  unfold Oper.wp execOp
  simp only [ho, hx, hy, Sem.run_bind, h1, h2, Sem.run_pure, Result.andThen_ok]
  exact hK _ _ h
set_option maxRecDepth 100000 in
set_option maxHeartbeats 4000000 in
theorem keys_any (w : World) (root : ByteArray) (n m g g' : Int) (hg : (g' = g ∧ ¬ (4096 : Int) < g) ∨ (g' = g ∧ (4096 : Int) < g ∧ ¬ g ≤ 65535) ∨ ((4096 : Int) < g ∧ g ≤ 65535 ∧ g' = g % 4096)) :
    Calls Tryz.prog 20 #[.string root, .int .i64 n, .int .i64 m, .int .i64 g] w fun e w' => e = .returned (.bool true) ∧ Below w.heap.size w w' := by
  obtain ⟨k, c, hk, hA, hB⟩ := leaf_both (sec root) n m (sec_length _)
  obtain ⟨k2, c2, hk2, hA2, hB2⟩ := key_both (sec root) n m g' (sec_length _)
  have HA := Lib.hid hA
  have HB := Lib.hid hB
  have HA2 := Lib.hid hA2
  have HB2 := Lib.hid hB2
  have Hk := Lib.hid hk
  have Hk2 := Lib.hid hk2
  clear hA hB hA2 hB2 hk hk2
  rcases hg with ⟨rfl, hg1⟩ | ⟨rfl, hg1, hg2⟩ | ⟨hg1, hg2, rfl⟩
  all_goals
    go_enter Tryz.func20, Tryz.ntmps20
    go_wp2_with fail
    refine (secret_any _ _).mono ?_; rintro e w1 ⟨rfl, hb1⟩
    go_wp2_with fail
    refine (HA.out _).mono ?_; rintro e w2 ⟨rfl, hb2⟩
    have hb12 := bnext hb1 hb2
    clear hb1 hb2
    go_wp2_with (first | (refine wpList_store_row rfl 48 _ _ rfl _ (cells k) rfl rfl _ _ (heap_alloc_new _ _) (by rw [infoSecret, cells_size, Hk.out]) (by rw [cells_size, Hk.out]; rfl) (cells_one _) ?_; rw [World.setRow_alloc_new]))
    obtain ⟨A, hAe⟩ : ∃ A, A = w2.heap.size := ⟨_, rfl⟩
    refine (secret_any _ _).mono ?_; rintro e w3 ⟨rfl, hb3⟩
    go_wp2_with fail
    refine (HB.out _).mono ?_; rintro e w4 ⟨rfl, hb4⟩
    have hA4 : w4.heap[A]? = some (.cells (cells k) 48 (0, 0)) := by
      rw [hAe, hb4.block _ (Nat.lt_of_lt_of_le (by simp) hb3.size), hb3.block _ (by simp)]; exact heap_alloc_new _ _
    have hA4s : A < w4.heap.size := (Array.getElem?_eq_some_iff.1 hA4).1
    have hbw4 : Below w.heap.size w w4 := bnext (bnext (balloc hb12 _) hb3) hb4
    have hAw : w.heap.size ≤ A := by rw [hAe]; exact hb12.size
    rw [← hAe]
    have HA4 := Lib.hid hA4
    clear hb3 hb4 hb12 hA4 hAe
    go_wp2_with (first
      | (refine wpList_store_row rfl 48 _ _ rfl w4.heap.size (cells k) rfl rfl _ _ (heap_alloc_new _ _) (by rw [infoSecret, cells_size, Hk.out]) (by rw [cells_size, Hk.out]; rfl) (cells_one _) ?_; rw [World.setRow_alloc_new])
      | (refine wpList_load_row rfl 48 _ rfl A rfl _ _ _ _ ((Below.heap_alloc _ _ _ hA4s).trans HA4.out) Tryz.underlying48 rfl (by rw [infoSecret, cells_size, Hk.out]) ?_)
      | (refine wpList_load_row rfl 48 _ rfl w4.heap.size rfl _ _ _ _ (heap_alloc_new _ _) Tryz.underlying48 rfl (by rw [infoSecret, cells_size, Hk.out]) ?_)
      | (refine wpList_neq_secret rfl _ _ rfl k k rfl rfl Hk.out Hk.out ?_; rw [beq_self_eq_true, Bool.not_true]))
    refine (secret_any _ _).mono ?_; rintro e w5 ⟨rfl, hb5⟩
    go_wp2_with fail
    refine (HA2.out _).mono ?_; rintro e w6 ⟨rfl, hb6⟩
    have hB6 : w6.heap[w4.heap.size]? = some (.cells (cells k) 48 (0, 0)) := by
      rw [hb6.block _ (Nat.lt_of_lt_of_le (by simp) hb5.size), hb5.block _ (by simp)]; exact heap_alloc_new _ _
    have hA6 : w6.heap[A]? = some (.cells (cells k) 48 (0, 0)) := by
      rw [hb6.block _ (Nat.lt_of_lt_of_le (by simp; omega) hb5.size), hb5.block _ (by simp; omega), Below.heap_alloc _ _ _ hA4s]; exact HA4.out
    have hbw6 : Below w.heap.size w w6 := bnext (bnext (balloc hbw4 _) hb5) hb6
    have hBw : w.heap.size ≤ w4.heap.size := by exact hbw4.size
    have hAB : A ≠ w4.heap.size := by omega
    have HB6 := Lib.hid hB6
    have HA6 := Lib.hid hA6
    clear hb5 hb6 hbw4 hB6 hA6 hA4s HA4
    go_wp2_with (first
      | (refine wpList_store_row rfl 48 _ _ rfl A (cells k2) rfl rfl _ _ HA6.out (by rw [infoSecret, cells_size, Hk2.out]) (by rw [cells_size, cells_size, Hk.out, Hk2.out]) (cells_one _) ?_))
    refine (secret_any _ _).mono ?_; rintro e w7 ⟨rfl, hb7⟩
    go_wp2_with fail
    refine (HB2.out _).mono ?_; rintro e w8 ⟨rfl, hb8⟩
    have hA6s : A < w6.heap.size := (Array.getElem?_eq_some_iff.1 HA6.out).1
    have hB6s : w4.heap.size < w6.heap.size := (Array.getElem?_eq_some_iff.1 HB6.out).1
    have hA8 : w8.heap[A]? = some (.cells (cells k2) 48 (0, 0)) := by
      rw [hb8.block _ (Nat.lt_of_lt_of_le (by rw [size_setRow]; exact hA6s) hb7.size), hb7.block _ (by rw [size_setRow]; exact hA6s)]; exact setRow_heap _ _ _ _ _ _ HA6.out
    have hB8 : w8.heap[w4.heap.size]? = some (.cells (cells k) 48 (0, 0)) := by
      rw [hb8.block _ (Nat.lt_of_lt_of_le (by rw [size_setRow]; exact hB6s) hb7.size), hb7.block _ (by rw [size_setRow]; exact hB6s), heap_row_ne hAB]; exact HB6.out
    have hbw8 : Below w.heap.size w w8 := bnext (bnext (below_setRow hbw6 hAw _) hb7) hb8
    have hA9 : (w8.setRow w4.heap.size (cells k2)).heap[A]? = some (.cells (cells k2) 48 (0, 0)) := by rw [heap_row_ne (Ne.symm hAB)]; exact hA8
    have hB9 : (w8.setRow w4.heap.size (cells k2)).heap[w4.heap.size]? = some (.cells (cells k2) 48 (0, 0)) := setRow_heap _ _ _ _ _ _ hB8
    have HA9 := Lib.hid hA9
    have HB9 := Lib.hid hB9
    have HB8 := Lib.hid hB8
    clear hb7 hb8 hA8 hB8 hA9 hB9 hbw6 HA6 HB6
    go_wp2_with (first
      | (refine wpList_store_row rfl 48 _ _ rfl w4.heap.size (cells k2) rfl rfl _ _ HB8.out (by rw [infoSecret, cells_size, Hk2.out]) (by rw [cells_size, cells_size, Hk.out, Hk2.out]) (cells_one _) ?_)
      | (refine wpList_load_row rfl 48 _ rfl A rfl _ _ _ _ HA9.out Tryz.underlying48 rfl (by rw [infoSecret, cells_size, Hk2.out]) ?_)
      | (refine wpList_load_row rfl 48 _ rfl w4.heap.size rfl _ _ _ _ HB9.out Tryz.underlying48 rfl (by rw [infoSecret, cells_size, Hk2.out]) ?_)
      | (refine wpList_eql_secret rfl _ _ rfl k2 k2 rfl rfl Hk2.out Hk2.out ?_; rw [beq_self_eq_true]))
    go_ret
    exact ⟨rfl, below_setRow hbw8 hBw _⟩
end Go.Proofs.YtccidllcjaaeeaaGreatDoor
