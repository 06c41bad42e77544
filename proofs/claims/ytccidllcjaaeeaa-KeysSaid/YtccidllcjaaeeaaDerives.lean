/- Proved here: epochlaw.Derives returns true for every input (and changes nothing that was there). No condition. (The row's step began as the shell that proof-skeleton.mjs prints.) -/
import Derived.Test.YtccidllcjaaeeaaRefDerive
import Derived.Deep.WholeRow
import Derived.Stop.BytesEq
namespace Go.Proofs.Ytccidllcjaaeeaa
open Go.RowKit
set_option maxHeartbeats 400000 in
theorem secret_any (w : World) (s : ByteArray) :
    Calls Try.prog 9 #[.string s] w fun e w' => e = .returned (.agg (cells (sec s))) ∧ Below w.heap.size w w' := by
  have hi : (Try.prog.info? 5).map (·.size) = some 1 := by kernel_rfl
  go_enter Try.func9, Try.ntmps9
  go_upto_region 2 with (fail)
  generalize hW : World.alloc (World.alloc _ _) _ = W
  have hO : W.heap[w.heap.size]? = some (.cells (cells [0, 0, 0, 0, 0, 0, 0, 0]) 26 (0, 0)) := by rw [← hW]; exact heap_alloc2_old w _ _
  have hS : W.heap[w.heap.size + 1]? = some (.cells (cells [0, 0, 0, 0, 0, 0, 0, 0]) 26 (0, 0)) := by rw [← hW]; exact heap_alloc2_new w _ _
  have hWb : Below w.heap.size w W := by rw [← hW]; exact ((Below.refl _ _).alloc (Nat.le_refl _) _).alloc (by simp) _
  have HS := Lib.hid hS
  have HO := Lib.hid hO
  clear hS hO hW
  have h8 : (cells (sec s)).size = 8 := by rw [cells_size, sec_length]
  have H8 := Lib.hid h8
  clear h8
  have hS2 : (W.setRow (w.heap.size + 1) (cells (sec s))).heap[w.heap.size + 1]? = some (.cells (cells (sec s)) 26 (0, 0)) := setRow_heap _ _ _ _ _ _ HS.out
  have hO2 : (W.setRow (w.heap.size + 1) (cells (sec s))).heap[w.heap.size]? = some (.cells (cells [0, 0, 0, 0, 0, 0, 0, 0]) 26 (0, 0)) := by rw [setRow_other _ _ _ _ (by omega)]; exact HO.out
  have HS2 := Lib.hid hS2
  have HO2 := Lib.hid hO2
  clear hS2 hO2
  go_wp2_with (first | (refine wpList_copy_string rfl _ _ 30 9 rfl 5 Try.underlying30 hi (w.heap.size + 1) 8 8 rfl s rfl _ _ HS.out (by rw [cells_size]; rfl) ?_; rw [sec_cells]) | (refine wpList_load_row rfl 26 _ rfl (w.heap.size + 1) rfl _ _ _ _ HS2.out Try.underlying26 rfl (by rw [infoSecret, cells_size, sec_length]) ?_) | (refine wpList_store_row rfl 26 _ _ rfl w.heap.size _ rfl rfl _ _ HO2.out (by rw [infoSecret, cells_size, sec_length]) (by rw [cells_size, cells_size, sec_length]; rfl) (cells_one _) ?_))
  refine bodyPost_ret (results_cell_row rfl _ _ w.heap.size _ _ _ _ rfl (setRow_heap _ _ _ _ _ _ HO2.out) Try.underlying26 rfl (by rw [infoSecret, cells_size, sec_length])) rfl ⟨rfl, below_setRow (below_setRow hWb (by simp) _) (by simp) _⟩

set_option maxHeartbeats 400000 in
theorem epochDerive_any (w : World) (k : List UInt8) (label : ByteArray) (n : Int) (hk0 : k.length = 8) (hl : label.size ≤ 65536) :
    Calls Try.prog 8 #[.agg (cells k), .string label, .int .i64 n] w fun e w' => e = .returned (.agg (cells (kd k label.data.toList n))) ∧ Below w.heap.size w w' := by
  have Hk := Lib.hid hk0
  clear hk0
  go_enter Try.func8, Try.ntmps8
  go_upto_region 2 with (fail)
  generalize hW : World.alloc (World.alloc (World.alloc _ _) _) _ = W
  have hS : W.heap[w.heap.size]? = some (.cells (cells k) 26 (0, 0)) := by rw [← hW, Below.heap_alloc _ _ _ (by simp <;> omega)]; exact heap_alloc2_old w _ _
  have hR : W.heap[w.heap.size + 1]? = some (.cells (cells [0, 0, 0, 0, 0, 0, 0, 0]) 26 (0, 0)) := by rw [← hW, Below.heap_alloc _ _ _ (by simp <;> omega)]; exact heap_alloc2_new w _ _
  have hD : W.heap[w.heap.size + 2]? = some (.cells #[.int .i64 0] 48 (0, 0)) := by rw [← hW]; exact heap_alloc_at _ _ _ (by simp)
  have hWb : Below w.heap.size w W := by rw [← hW]; exact (((Below.refl _ _).alloc (Nat.le_refl _) _).alloc (by simp) _).alloc (by simp <;> omega) _
  have hWs : W.heap.size = w.heap.size + 3 := by rw [← hW]; simp
  have HS := Lib.hid hS
  have HR := Lib.hid hR
  have HD := Lib.hid hD
  have HWs := Lib.hid hWs
  clear hS hR hD hWs hW
  go_wp2_with (first | (refine wpList_load_row rfl 26 _ rfl w.heap.size rfl _ _ _ _ HS.out Try.underlying26 rfl (by rw [infoSecret, cells_size, Hk.out]) ?_))
  refine (derive_any (w.heap.size + 2) 0 0 W k label n Hk.out hl (by rw [cell_of_row _ _ _ _ _ _ HD.out]; rfl) (frozen_of_row _ _ _ _ _ HD.out) (by decide) (by decide)).mono ?_
  rintro e w1 ⟨rfl, hb1⟩
  have hR1 : w1.heap[w.heap.size + 1]? = some (.cells (cells [0, 0, 0, 0, 0, 0, 0, 0]) 26 (0, 0)) := by
    rw [hb1.block _ (by rw [HWs.out]; omega), heap_setCell_other _ _ _ _ (by simp)]; exact HR.out
  have HR1 := Lib.hid hR1
  clear hR1
  go_wp2_with (refine wpList_store_row rfl 26 _ _ rfl (w.heap.size + 1) _ rfl rfl _ _ HR1.out (by rw [infoSecret, cells_size, kd_length]) (by rw [cells_size, cells_size, kd_length]; rfl) (cells_one _) ?_)
  refine bodyPost_ret (results_cell_row rfl _ _ (w.heap.size + 1) _ _ _ _ rfl (setRow_heap _ _ _ _ _ _ HR1.out) Try.underlying26 rfl (by rw [infoSecret, cells_size, kd_length])) rfl ⟨rfl, below_setRow ((hWb.setCell (by simp) _).trans (hb1.mono (by rw [HWs.out]; omega))) (by simp) _⟩

theorem sizeU8 (w : World) : (sizeOf 5).run Try.prog w = .ok 1 w := by kernel_rfl
theorem eqGuardSecret : Try.prog.eqGuardType Try.prog.depth 26 = false := by kernel_rfl
/-- '==' of two secrets. -/
theorem wpList_eql_secret {w : World} {ops : Array Oper} {rest : List Oper} {o : Oper} {a : Act} {Q : Exit → Act → World → Prop} (hgd : o.guard = none) (x y : Operand)
    (ho : o.op = .binOp .eql 26 x y 26) (k l : List UInt8) (hx : a.eval x = .agg (cells k)) (hy : a.eval y = .agg (cells l)) (hk : k.length = 8) (hl : l.length = 8)
    (h : wpList Try.prog ops Q rest (a.put o.dst (.bool (k == l))) w) : wpList Try.prog ops Q (o :: rest) a w := by
  refine wpList_plain hgd fun K hK => ?_
  have h1 := run_eqGuard_agg (P := Try.prog) (w := w) .eql 26 x y (cells k) (cells l) eqGuardSecret
  have h2 : (binOp .eql 26 (.agg (cells k)) (.agg (cells l))).run Try.prog w = .ok (.bool (k == l)) w := run_eql_bytes w 26 5 8 Try.underlying26 Try.underlying5 sizeU8 k l hk hl
  unfold Oper.wp execOp
  simp only [ho, hx, hy, Sem.run_bind, h1, h2, Sem.run_pure, Result.andThen_ok]
  exact hK _ _ h
set_option maxHeartbeats 400000 in
theorem derives_any (w : World) (s label : ByteArray) (n : Int) (hs : label.size ≤ 9223372036854775807) :
    Calls Try.prog 4 #[.string s, .string label, .int .i64 n] w fun e w' => e = .returned (.bool true) ∧ Below w.heap.size w w' := by
  by_cases hl : label.size ≤ 65536
  · go_enter Try.func4, Try.ntmps4
    go_wp2_with fail
    refine (secret_any _ _).mono ?_; rintro e w1 ⟨rfl, hb1⟩
    go_wp2_with fail
    refine (epochDerive_any _ _ _ _ (sec_length _) hl).mono ?_; rintro e w2 ⟨rfl, hb2⟩
    have hk := kd_length (sec s) label.data.toList n
    generalize hkd : kd (sec s) label.data.toList n = k at *
    have Hkd := Lib.hid hkd
    clear hkd
    have Hk := Lib.hid hk
    clear hk
    go_wp2_with (refine wpList_store_row rfl 26 _ _ rfl _ _ rfl rfl _ _ (heap_alloc_new _ _) (by rw [infoSecret, cells_size, Hk.out]) (by rw [cells_size, Hk.out]; rfl) (cells_one _) ?_; rw [World.setRow_alloc_new])
    refine (secret_any _ _).mono ?_; rintro e w3 ⟨rfl, hb3⟩
    go_wp2_with fail
    refine (refDerive_any _ _ _ _ (sec_length _) hl).mono ?_; rintro e w4 ⟨rfl, hb4⟩
    rw [Hkd.out]
    have hA : w4.heap[w2.heap.size]? = some (.cells (cells k) 26 (0, 0)) := by
      rw [hb4.block _ (Nat.lt_of_lt_of_le (by simp) hb3.size), hb3.block _ (by simp)]; exact heap_alloc_new _ _
    have hlt : w2.heap.size < w4.heap.size := (Array.getElem?_eq_some_iff.1 hA).1
    have HA := Lib.hid hA
    clear hA
    go_wp2_with (first | (refine wpList_store_row rfl 26 _ _ rfl _ _ rfl rfl _ _ (heap_alloc_new _ _) (by rw [infoSecret, cells_size, Hk.out]) (by rw [cells_size, Hk.out]; rfl) (cells_one _) ?_; rw [World.setRow_alloc_new]) | (refine wpList_load_row rfl 26 _ rfl w2.heap.size rfl _ _ _ _ ((Below.heap_alloc _ _ _ hlt).trans HA.out) Try.underlying26 rfl (by rw [infoSecret, cells_size, Hk.out]) ?_) | (refine wpList_load_row rfl 26 _ rfl w4.heap.size rfl _ _ _ _ (heap_alloc_new _ _) Try.underlying26 rfl (by rw [infoSecret, cells_size, Hk.out]) ?_) | (refine wpList_eql_secret rfl _ _ rfl k k rfl rfl Hk.out Hk.out ?_; rw [beq_self_eq_true]))
    go_ret
    refine ⟨rfl, ?_⟩
    exact balloc (bnext (bnext (balloc (bnext hb1 hb2) _) hb3) hb4) _
  · go_enter Try.func4, Try.ntmps4
    have h : 65536 < label.size := by omega
    go_wp2_with fail
    go_ret
    exact ⟨rfl, Below.refl _ _⟩
end Go.Proofs.Ytccidllcjaaeeaa
