/- The walks of package ratchet: New and Next. Conditions: the secret has eight bytes, the ratchet's block and the counter are apart, the generation is from 0 to 65535. -/
import Derived.Test.YtccidllcjaaeeaaRefTree
import Derived.Test.YtccidllcjaaeeaaSeal
namespace Go.Proofs.Ytccidllcjaaeeaa
open Go.RowKit
/-- A ratchet's cells. -/
def rcells (s : List UInt8) (g : Int) : Array Value := cells s ++ #[Value.int .i64 g]
theorem rcells_size (s : List UInt8) (g : Int) (hs : s.length = 8) : (rcells s g).size = 9 := by rw [rcells, Array.size_append, cells_size, hs]; rfl
theorem rcells_zero : rcells zeroS 0 = #[.int .u8 0, .int .u8 0, .int .u8 0, .int .u8 0, .int .u8 0, .int .u8 0, .int .u8 0, .int .u8 0, .int .i64 0] := by simp [rcells, cells, zeroS]
theorem infoRatchet : (Try.prog.info? 64).map (·.size) = some 9 := by kernel_rfl
theorem built_ratchet (k : List UInt8) (hk : k.length = 8) : Try.prog.built 64 [(0, .agg (cells k))] = some (rcells k 0) := by
  obtain ⟨a0, a1, a2, a3, a4, a5, a6, a7, rfl⟩ := eight hk
  kernel_rfl
theorem rcells_one (k : List UInt8) (g : Int) : (rcells k g).all (·.oneCell') = true := by
  refine Array.all_eq_true_iff_forall_mem.2 fun v hv => ?_
  rw [rcells, Array.mem_append] at hv
  rcases hv with hv | hv
  · exact cells_oneCell k v (by simpa using hv)
  · simp only [List.mem_toArray, List.mem_singleton] at hv
    subst hv
    rfl
theorem wpList_build_rat {w : World} {ops : Array Oper} {rest : List Oper} {o : Oper} {a : Act} {Q : Exit → Act → World → Prop} (hgd : o.guard = none) (x : Operand) (ho : o.op = .build 64 #[(0, x)])
    (k : List UInt8) (hk : k.length = 8) (hx : a.eval x = .agg (cells k)) (h : wpList Try.prog ops Q rest (a.put o.dst (.agg (rcells k 0))) w) : wpList Try.prog ops Q (o :: rest) a w := by
  have hb := built_ratchet k hk
  refine wpList_build hgd 64 _ ho ?_ ?_
  · simp only [List.map_toArray, List.map_cons, List.map_nil, hx, hb]; rfl
  · simp only [List.map_toArray, List.map_cons, List.map_nil, hx, hb]; exact h
set_option maxHeartbeats 400000 in
theorem ratNew_any (D o : Nat) (v : Int) (w : World) (leaf : List UInt8) (hk : leaf.length = 8)
    (hx : w.cell? ⟨D, o, none⟩ = some (.int .i64 v)) (hf : w.frozen? ⟨D, o, none⟩ = false) (hb0 : 0 ≤ v) (hb1 : v ≤ 4611686018427000000) :
    Calls Try.prog 28 #[.pointer (some ⟨D, o, none⟩), .agg (cells leaf)] w fun e w' => e = .returned (.agg (rcells (kd leaf lRatchet 0) 0)) ∧ Below w.heap.size (w.setCell ⟨D, o, none⟩ (.int .i64 (v + 1))) w' := by
  have hD : D < w.heap.size := block_lt_of_cell hx
  have Hk := Lib.hid hk
  clear hk
  go_enter Try.func28, Try.ntmps28
  go_upto_region 1 with (fail)
  generalize hW : World.alloc (World.alloc _ _) _ = W
  have hS : W.heap[w.heap.size]? = some (.cells (cells leaf) 26 (0, 0)) := by rw [← hW]; exact heap_alloc2_old w _ _
  have hR : W.heap[w.heap.size + 1]? = some (.cells (rcells zeroS 0) 64 (0, 0)) := by rw [← hW, rcells_zero]; exact heap_alloc2_new w _ _
  have hWb : Below w.heap.size w W := by rw [← hW]; exact balloc (balloc (Below.refl _ _) _) _
  have hRs : w.heap.size + 1 < W.heap.size := (Array.getElem?_eq_some_iff.1 hR).1
  have HS := Lib.hid hS
  have HR := Lib.hid hR
  clear hS hR hW
  go_wp2_with (first | (refine wpList_load_row rfl 26 _ rfl w.heap.size rfl _ _ _ _ HS.out Try.underlying26 rfl (by rw [infoSecret, cells_size, Hk.out]) ?_))
  refine (derive_any D o v _ leaf _ _ Hk.out (by decide) (by rw [hWb.cell hD]; exact hx) (by rw [hWb.frozen hD]; exact hf) hb0 (by omega)).mono ?_
  rintro e w1 ⟨rfl, hb1⟩
  rw [lRatchet_eq]
  have hr := cnt_base hWb hb1
  have hR1 : w1.heap[w.heap.size + 1]? = some (.cells (rcells zeroS 0) 64 (0, 0)) := by rw [cnt_other hb1 hRs (by omega)]; exact HR.out
  have HR1 := Lib.hid hR1
  clear hR1
  go_wp2_with (first | (refine wpList_build_rat rfl _ rfl _ (kd_length _ _ _) rfl ?_) | (refine wpList_store_row rfl 64 _ _ rfl (w.heap.size + 1) _ rfl rfl _ _ HR1.out (by rw [infoRatchet, rcells_size _ _ (kd_length _ _ _)]) (by rw [rcells_size _ _ (kd_length _ _ _), rcells_size _ _ rfl]) (rcells_one _ _) ?_))
  refine bodyPost_ret (results_cell_row rfl _ _ (w.heap.size + 1) _ _ _ _ rfl (setRow_heap _ _ _ _ _ _ HR1.out) Try.underlying64 rfl (by rw [infoRatchet, rcells_size _ _ (kd_length _ _ _)])) rfl ⟨rfl, below_setRow hr (by simp) _⟩

theorem nine_cells {w : World} {b t : Nat} {fr : Nat × Nat} {k : List UInt8} {g : Int} {a0 a1 a2 a3 a4 a5 a6 a7 : UInt8} (hk : k = [a0, a1, a2, a3, a4, a5, a6, a7]) (h : w.heap[b]? = some (.cells (rcells k g) t fr)) :
    w.cell? ⟨b, 0, none⟩ = some (.int .u8 a0.toNat) ∧ w.cell? ⟨b, 1, none⟩ = some (.int .u8 a1.toNat) ∧ w.cell? ⟨b, 2, none⟩ = some (.int .u8 a2.toNat) ∧ w.cell? ⟨b, 3, none⟩ = some (.int .u8 a3.toNat) ∧ w.cell? ⟨b, 4, none⟩ = some (.int .u8 a4.toNat) ∧ w.cell? ⟨b, 5, none⟩ = some (.int .u8 a5.toNat) ∧ w.cell? ⟨b, 6, none⟩ = some (.int .u8 a6.toNat) ∧ w.cell? ⟨b, 7, none⟩ = some (.int .u8 a7.toNat) ∧ w.cell? ⟨b, 8, none⟩ = some (.int .i64 g) := by
  subst hk
  have e : rcells [a0, a1, a2, a3, a4, a5, a6, a7] g = #[.int .u8 a0.toNat, .int .u8 a1.toNat, .int .u8 a2.toNat, .int .u8 a3.toNat, .int .u8 a4.toNat, .int .u8 a5.toNat, .int .u8 a6.toNat, .int .u8 a7.toNat, .int .i64 g] := by simp [rcells, cells]
  rw [e] at h
  refine ⟨?_, ?_, ?_, ?_, ?_, ?_, ?_, ?_, ?_⟩ <;> (rw [cell_of_row _ _ _ _ _ _ h]; rfl)
theorem row_frozen {w : World} {b t : Nat} {cs : Array Value} (h : w.heap[b]? = some (.cells cs t (0, 0))) : ∀ j, w.frozen? ⟨b, j, none⟩ = false := fun _ => frozen_of_row _ _ _ _ _ h
theorem cnt_row {w w' : World} {D o g : Nat} {x : Value} {ob : Obj} (h : Below w.heap.size (w.setCell ⟨D, o, none⟩ x) w') (hg : w.heap[g]? = some ob) (hD : g ≠ D) : w'.heap[g]? = some ob :=
  (cnt_other h (Array.getElem?_eq_some_iff.1 hg).1 hD).trans hg
/-- Eight stores into the first eight cells of a row. -/
def store8 (w : World) (b : Nat) (v0 v1 v2 v3 v4 v5 v6 v7 : Value) : World :=
  (((((((w.setCell ⟨b, 0, none⟩ v0).setCell ⟨b, 1, none⟩ v1).setCell ⟨b, 2, none⟩ v2).setCell ⟨b, 3, none⟩ v3).setCell ⟨b, 4, none⟩ v4).setCell ⟨b, 5, none⟩ v5).setCell ⟨b, 6, none⟩ v6).setCell ⟨b, 7, none⟩ v7
theorem store8_eq {w : World} {b t : Nat} {cs : Array Value} (h : w.heap[b]? = some (.cells cs t (0, 0))) (v0 v1 v2 v3 v4 v5 v6 v7 : Value) :
    store8 w b v0 v1 v2 v3 v4 v5 v6 v7 = w.setRow b (((((((cs.setIfInBounds 0 v0).setIfInBounds 1 v1).setIfInBounds 2 v2).setIfInBounds 3 v3).setIfInBounds 4 v4).setIfInBounds 5 v5).setIfInBounds 6 v6 |>.setIfInBounds 7 v7) := by
  have h0 := heap_setCell_same w b 0 cs t v0 h
  have h1 := heap_setCell_same _ b 1 _ t v1 h0
  have h2 := heap_setCell_same _ b 2 _ t v2 h1
  have h3 := heap_setCell_same _ b 3 _ t v3 h2
  have h4 := heap_setCell_same _ b 4 _ t v4 h3
  have h5 := heap_setCell_same _ b 5 _ t v5 h4
  have h6 := heap_setCell_same _ b 6 _ t v6 h5
  unfold store8
  rw [setCell_eq_setRow _ _ _ _ _ _ _ h6, setCell_eq_setRow _ _ _ _ _ _ _ h5, setRow_setRow, setCell_eq_setRow _ _ _ _ _ _ _ h4, setRow_setRow, setCell_eq_setRow _ _ _ _ _ _ _ h3, setRow_setRow, setCell_eq_setRow _ _ _ _ _ _ _ h2, setRow_setRow, setCell_eq_setRow _ _ _ _ _ _ _ h1, setRow_setRow, setCell_eq_setRow _ _ _ _ _ _ _ h0, setRow_setRow, setCell_eq_setRow _ _ _ _ _ _ _ h, setRow_setRow]
theorem set8_secret (k : List UInt8) (hk : k.length = 8) (v0 v1 v2 v3 v4 v5 v6 v7 : Value) :
    (((((((((cells k).setIfInBounds 0 v0).setIfInBounds 1 v1).setIfInBounds 2 v2).setIfInBounds 3 v3).setIfInBounds 4 v4).setIfInBounds 5 v5).setIfInBounds 6 v6).setIfInBounds 7 v7) = #[v0, v1, v2, v3, v4, v5, v6, v7] := by
  obtain ⟨a0, a1, a2, a3, a4, a5, a6, a7, rfl⟩ := eight hk
  simp [cells]
theorem set8_ratchet (k : List UInt8) (hk : k.length = 8) (g : Int) (v0 v1 v2 v3 v4 v5 v6 v7 : Value) :
    (((((((((rcells k g).setIfInBounds 0 v0).setIfInBounds 1 v1).setIfInBounds 2 v2).setIfInBounds 3 v3).setIfInBounds 4 v4).setIfInBounds 5 v5).setIfInBounds 6 v6).setIfInBounds 7 v7) = #[v0, v1, v2, v3, v4, v5, v6, v7] ++ #[Value.int .i64 g] := by
  obtain ⟨a0, a1, a2, a3, a4, a5, a6, a7, rfl⟩ := eight hk
  simp [rcells, cells]
theorem setRow_heap_of {a b : World} (g : Nat) (cs : Array Value) (k : Nat) (h : a.heap[k]? = b.heap[k]?) : (a.setRow g cs).heap[k]? = (b.setRow g cs).heap[k]? := by
  simp only [World.setRow, Array.getElem?_modify, h]
theorem below_setRow_both {B : Nat} {a w : World} (h : Below B a w) (g : Nat) (cs : Array Value) : Below B (a.setRow g cs) (w.setRow g cs) :=
  ⟨h.os, h.tape, h.output, by simpa using h.size, fun k hk => setRow_heap_of g cs k (h.block k hk)⟩
theorem below_store8 {B : Nat} {a w : World} (h : Below B a w) {b : Nat} (hb : B ≤ b) (v0 v1 v2 v3 v4 v5 v6 v7 : Value) : Below B a (store8 w b v0 v1 v2 v3 v4 v5 v6 v7) :=
  (((((((h.setCell (p := ⟨b, 0, none⟩) hb v0).setCell (p := ⟨b, 1, none⟩) hb v1).setCell (p := ⟨b, 2, none⟩) hb v2).setCell (p := ⟨b, 3, none⟩) hb v3).setCell (p := ⟨b, 4, none⟩) hb v4).setCell (p := ⟨b, 5, none⟩) hb v5).setCell (p := ⟨b, 6, none⟩) hb v6).setCell (p := ⟨b, 7, none⟩) hb v7
/-- What Next leaves of the secret. -/
def nextS (s : List UInt8) (g : Nat) : List UInt8 := if g < 65535 then kd s lNext (g : Int) else zeroS
theorem nextS_length (s : List UInt8) (g : Nat) : (nextS s g).length = 8 := by unfold nextS; split <;> rfl
def nextN (g : Nat) : Int := if g < 65535 then 2 else 1

theorem run_storeCells_row {P : Program} {w : World} {g t : Nat} {cur : Array Value} (h : w.heap[g]? = some (.cells cur t (0, 0))) (k : List UInt8) (hs : cur.size = k.length) :
    (storeCells ⟨g, 0, none⟩ (cells k).toList).run P w = .ok () (w.setRow g (cells k)) := by
  have hst := run_storeCells_at P g 0 t (cells k).toList 0 cur w h (by rw [cells_len]; omega) (cells_oneCell k)
  have hd : cur.toList.drop (cells k).toList.length = [] := List.drop_eq_nil_of_le (by rw [cells_len, Array.length_toList]; omega)
  simp only [Nat.add_zero, Nat.zero_add, List.take_zero, List.nil_append, hd, List.append_nil, Array.toArray_toList] at hst
  exact hst
theorem run_storeCells_fresh {P : Program} (k : List UInt8) (hk : k.length = 8) (w : World) (t : TypeId) :
    (storeCells ⟨w.heap.size, 0, none⟩ (cells k).toList).run P (w.alloc (.cells #[.int .u8 0, .int .u8 0, .int .u8 0, .int .u8 0, .int .u8 0, .int .u8 0, .int .u8 0, .int .u8 0] t)) = .ok () (w.alloc (.cells (cells k) t)) := by
  rw [run_storeCells_row (heap_alloc_new w _) k (by rw [hk]; rfl), World.setRow_alloc_new]
theorem run_storeCells_rat {P : Program} {w : World} {R t : Nat} {s : List UInt8} {g : Int} (h : w.heap[R]? = some (.cells (rcells s g) t (0, 0))) (hs : s.length = 8) (k : List UInt8) (hk : k.length = 8) :
    (storeCells ⟨R, 0, none⟩ (cells k).toList).run P w = .ok () (w.setRow R (rcells k g)) := by
  have hst := run_storeCells_at P R 0 t (cells k).toList 0 (rcells s g) w h (by rw [cells_len, rcells_size _ _ hs, hk]; decide) (cells_oneCell k)
  have hd : (rcells s g).toList.drop (cells k).toList.length = [Value.int .i64 g] := by
    obtain ⟨a0, a1, a2, a3, a4, a5, a6, a7, rfl⟩ := eight hs
    rw [cells_len, hk]
    simp [rcells, cells]
  simp only [Nat.add_zero, Nat.zero_add, List.take_zero, List.nil_append, hd] at hst
  rw [hst]
  congr 2
  apply Array.ext'
  simp [rcells]
theorem rcells_set8 (k : List UInt8) (hk : k.length = 8) (g x : Int) : (rcells k g).setIfInBounds 8 (.int .i64 x) = rcells k x := by
  obtain ⟨a0, a1, a2, a3, a4, a5, a6, a7, rfl⟩ := eight hk
  simp [rcells, cells]
theorem zeroU8 (w : World) : (zeroValue 5).run Try.prog w = .ok (.int .u8 0) w := by kernel_rfl
theorem run_clear_rat {P : Program} {w : World} {R t0 : Nat} {s : List UInt8} {g : Int} (h : w.heap[R]? = some (.cells (rcells s g) t0 (0, 0))) (hs : s.length = 8) (t e ty : TypeId) (ht : P.underlying t = some (.slice e)) (hz : ∀ w : World, (zeroValue e).run P w = .ok (.int .u8 0) w) :
    (Builtin.clear_ #[t] ty #[.slice (some ⟨R, 0, none⟩) 8 8]).run P w = .ok (.tuple #[]) (w.setRow R (rcells zeroS g)) := by
  have h1 := run_storeCells_rat (P := P) h hs zeroS rfl
  have h2 : (Builtin.zeroCells (Value.int .u8 0).cells 8).toList = (cells zeroS).toList := by kernel_rfl
  simp [Builtin.clear_, run_underlying ht, hz, h2, h1]
set_option maxRecDepth 100000 in
set_option maxHeartbeats 2000000 in
theorem next_any (D o R : Nat) (v : Int) (w : World) (s : List UInt8) (g : Nat) (hk : s.length = 8) (hg : g ≤ 65535)
    (hx : w.cell? ⟨D, o, none⟩ = some (.int .i64 v)) (hf : w.frozen? ⟨D, o, none⟩ = false) (hb0 : 0 ≤ v) (hb1 : v ≤ 4611686018427000000)
    (hR : w.heap[R]? = some (.cells (rcells s g) 64 (0, 0))) (hRD : R ≠ D) :
    Calls Try.prog 29 #[.pointer (some ⟨R, 0, none⟩), .pointer (some ⟨D, o, none⟩)] w fun e w' =>
      e = .returned (.agg (cells (kd s lKey g))) ∧ Below w.heap.size ((w.setCell ⟨D, o, none⟩ (.int .i64 (v + nextN g))).setRow R (rcells (nextS s g) (g + 1))) w' := by
  have hD : D < w.heap.size := block_lt_of_cell hx
  have hRs : R < w.heap.size := (Array.getElem?_eq_some_iff.1 hR).1
  have Hk := Lib.hid hk
  have HR := Lib.hid hR
  clear hk hR
  obtain ⟨a0, a1, a2, a3, a4, a5, a6, a7, hk8⟩ := eight Hk.out
  have Hk8 := Lib.hid hk8
  clear hk8
  have Hc : Hid (#[Value.int .u8 a0.toNat, .int .u8 a1.toNat, .int .u8 a2.toNat, .int .u8 a3.toNat, .int .u8 a4.toNat, .int .u8 a5.toNat, .int .u8 a6.toNat, .int .u8 a7.toNat] = cells s) := Lib.hid (by rw [Hk8.out]; rfl)
  go_enter Try.func29, Try.ntmps29
  go_upto_region 1 with (fail)
  generalize hW : World.alloc _ _ = W
  have hWr : W.heap[R]? = some (.cells (rcells s g) 64 (0, 0)) := by rw [← hW, Below.heap_alloc _ _ _ hRs]; exact HR.out
  have hWq : W.heap[w.heap.size]? = some (.cells (cells zeroS) 26 (0, 0)) := by rw [← hW]; exact heap_alloc_new _ _
  have hWb : Below w.heap.size w W := by rw [← hW]; exact balloc (Below.refl _ _) _
  have hWs : w.heap.size < W.heap.size := by rw [← hW]; simp
  clear hW
  obtain ⟨e0, e1, e2, e3, e4, e5, e6, e7, e8⟩ := nine_cells Hk8.out hWr
  have HWr := Lib.hid hWr
  have HWq := Lib.hid hWq
  clear hWr hWq
  have hql := kd_length s lKey g
  obtain ⟨q, hq⟩ : ∃ q, q = kd s lKey g := ⟨_, rfl⟩
  rw [← hq] at hql
  have Hq := Lib.hid hq
  have Hql := Lib.hid hql
  clear hq hql
  have hqs : (cells q).size = 8 := by rw [cells_size, Hql.out]
  have hstA := fun w => run_storeCells_fresh (P := Try.prog) q Hql.out w 26
  have Q0 : W.cell? ⟨D, o, none⟩ = some (.int .i64 v) := by rw [hWb.cell hD]; exact hx
  have Q0f : W.frozen? ⟨D, o, none⟩ = false := by rw [hWb.frozen hD]; exact hf
  have hDW : D < W.heap.size := block_lt_of_cell Q0
  have hRW : R < W.heap.size := Nat.lt_of_lt_of_le hRs hWb.size
  have hv1 : v ≤ 4611686018427387904 := by omega
  have hRT : R ≠ W.heap.size := by omega
  go_cut [5] (fun s5 wx => ∃ T, s5 = .pointer (some ⟨T, 0, none⟩) ∧ w.heap.size < T ∧ wx.heap[T]? = some (.cells (cells q) 26 (0, 0)) ∧ wx.heap[R]? = some (.cells (rcells s g) 64 (0, 0)) ∧ wx.heap[w.heap.size]? = some (.cells (cells zeroS) 26 (0, 0)) ∧ Below w.heap.size (w.setCell ⟨D, o, none⟩ (.int .i64 (v + 1))) wx)
  case first =>
    go_region_held3 (fun w' => w'.cell? ⟨R, 0, none⟩ = some (.int .u8 a0.toNat) ∧ w'.cell? ⟨R, 1, none⟩ = some (.int .u8 a1.toNat) ∧ w'.cell? ⟨R, 2, none⟩ = some (.int .u8 a2.toNat) ∧ w'.cell? ⟨R, 3, none⟩ = some (.int .u8 a3.toNat) ∧ w'.cell? ⟨R, 4, none⟩ = some (.int .u8 a4.toNat) ∧ w'.cell? ⟨R, 5, none⟩ = some (.int .u8 a5.toNat) ∧ w'.cell? ⟨R, 6, none⟩ = some (.int .u8 a6.toNat) ∧ w'.cell? ⟨R, 7, none⟩ = some (.int .u8 a7.toNat) ∧ w'.cell? ⟨R, 8, none⟩ = some (.int .i64 g)) (refine ⟨?_, ?_, ?_, ?_, ?_, ?_, ?_, ?_, ?_⟩ <;> (first | assumption | (simp only [World.cell?_drew]; assumption) | ((try simp only [World.cell?_drew]); rw [World.cell?_alloc_past _ _ _ hRw2]; assumption) | ((try simp only [World.cell?_drew]); rw [World.cell?_alloc_past _ _ _ hRW]; assumption) | ((try simp only [World.cell?_drew]); rw [World.cell?_of_block (setRow_other _ _ _ _ hRT)]; assumption))) (first | (go_at_call 19; rw [Hc.out]; refine (derive_any D o v _ s _ _ Hk.out (by decide) ?_ ?_ hb0 hv1).mono ?_; (first | exact Q0 | (simp only [World.cell?_drew]; rw [World.cell?_alloc_past _ _ _ hDW]; exact Q0)); (first | exact Q0f | (simp only [World.frozen?_drew]; rw [World.frozen?_alloc_old _ _ _ (Nat.ne_of_lt hDW)]; exact Q0f)); rintro e w2 ⟨rfl, hb2⟩; rw [lKey_eq, ← Hq.out]; have hrowR : w2.heap[R]? = some (.cells (rcells s g) 64 (0, 0)) := cnt_row hb2 (by first | exact HWr.out | exact (Below.heap_alloc _ _ _ hRW).trans HWr.out) hRD; have hRw2 := (Array.getElem?_eq_some_iff.1 hrowR).1; have HrowR := Lib.hid hrowR; clear hrowR; obtain ⟨k0, k1, k2, k3, k4, k5, k6, k7, k8⟩ := nine_cells Hk8.out HrowR.out; (first | (have zr := cnt_row hb2 (heap_alloc_new W _) (Nat.ne_of_gt hDW); have hstB := run_storeCells_row (P := Try.prog) zr q (by rw [Hql.out]; rfl); have Zr := Lib.hid zr; clear zr) | skip)))
    · go_wp2_with fail
      go_meet
      exact ⟨w2.heap.size, rfl, Nat.lt_of_lt_of_le hWs (cnt_size (w := W.drew) hb2), heap_alloc_new _ _, (Below.heap_alloc _ _ _ hRw2).trans HrowR.out, (Below.heap_alloc _ _ _ (Nat.lt_of_lt_of_le hWs (cnt_size (w := W.drew) hb2))).trans (cnt_row (w := W.drew) hb2 HWq.out (by omega)), (cnt_base hWb.drew hb2).alloc (by have := cnt_size (w := W.drew) hb2; have h3 : W.drew.heap.size = W.heap.size := rfl; omega) _⟩
    · go_wp2_with fail
      go_meet
      exact ⟨W.heap.size, rfl, hWs, setRow_heap _ _ _ _ _ _ Zr.out, (setRow_other _ _ _ _ hRT).trans HrowR.out, (setRow_other _ _ _ _ (Nat.ne_of_lt hWs)).trans (cnt_row hb2 ((Below.heap_alloc W _ _ hWs).trans HWq.out) (by omega)), below_setRow (cnt_base (balloc hWb _).drew hb2) (by omega) _⟩
  case rest =>
    obtain ⟨T, rfl, hT, hTq, hRr, hqq, hbb⟩ := hcut
    clear e0 e1 e2 e3 e4 e5 e6 e7 e8 Q0 Q0f hDW hRW hRT
    obtain ⟨e0, e1, e2, e3, e4, e5, e6, e7, e8⟩ := nine_cells Hk8.out hRr
    have Q0 : wc.cell? ⟨D, o, none⟩ = some (.int .i64 (v + 1)) := cnt_cell hbb hx
    have Q0f : wc.frozen? ⟨D, o, none⟩ = false := cnt_frozen hbb hx hf
    have hTs := (Array.getElem?_eq_some_iff.1 hTq).1
    have HTq := Lib.hid hTq
    have HRr := Lib.hid hRr
    have Hqq := Lib.hid hqq
    clear hTq hRr hqq
    by_cases hlt : g < 65535
    · have hv2 : v + 1 ≤ 4611686018427387904 := by omega
      have hv0 : 0 ≤ v + 1 := by omega
      have hql2 := kd_length s lNext g
      obtain ⟨q2, hq2⟩ : ∃ q2, q2 = kd s lNext g := ⟨_, rfl⟩
      rw [← hq2] at hql2
      have Hq2 := Lib.hid hq2
      have Hql2 := Lib.hid hql2
      clear hq2 hql2
      have hqs2 : (cells q2).size = 8 := by rw [cells_size, Hql2.out]
      have hgi : (g : Int) < 65535 := by omega
      have Hlt := Lib.hid hlt
      clear hlt hg
      go_upto_region 3 with (fail)
      clear hgi
      go_cut [6] (fun _ wx => wx.heap[R]? = some (.cells (rcells q2 g) 64 (0, 0)) ∧ wx.heap[T]? = some (.cells (cells q) 26 (0, 0)) ∧ wx.heap[w.heap.size]? = some (.cells (cells zeroS) 26 (0, 0)) ∧ Below w.heap.size ((w.setCell ⟨D, o, none⟩ (.int .i64 (v + 2))).setRow R (rcells q2 g)) wx)
      case first =>
        go_region_with (first | (go_at_call 19; rw [Hc.out]; refine (derive_any D o (v + 1) _ s _ _ Hk.out (by decide) ?_ ?_ hv0 hv2).mono ?_; (first | exact Q0 | (simp only [World.cell?_drew]; exact Q0)); (first | exact Q0f | (simp only [World.frozen?_drew]; exact Q0f)); rintro e w3 ⟨rfl, hb3⟩; rw [lNext_eq, ← Hq2.out]; have hrowR := cnt_row hb3 (show wc.drew.heap[R]? = _ from HRr.out) hRD; have hst := run_storeCells_rat (P := Try.prog) hrowR Hk.out q2 Hql2.out; have HrowR := Lib.hid hrowR; clear hrowR))
        all_goals
          go_wp2_with fail
          go_meet
          refine ⟨setRow_heap _ _ _ _ _ _ HrowR.out, (setRow_other _ _ _ _ (by omega)).trans (cnt_row (w := wc.drew) hb3 HTq.out (by omega)), (setRow_other _ _ _ _ (by omega)).trans (cnt_row (w := wc.drew) hb3 Hqq.out (by omega)), below_setRow_both ?_ _ _⟩
          rw [show v + 2 = v + 1 + 1 from by omega]
          exact cnt_next hbb.drew hb3
      case rest =>
        obtain ⟨hr2, ht2, hq2, hbb2⟩ := hcut
        have hns : nextS s g = q2 := by rw [nextS, if_pos Hlt.out, Hq2.out]
        have hnn : nextN g = 2 := by rw [nextN, if_pos Hlt.out]
        rw [← hns] at hr2 hbb2
        rw [← hnn] at hbb2
        have hnl := nextS_length s g
        have Hns := Lib.hid hns
        clear hns hnn e0 e1 e2 e3 e4 e5 e6 e7 e8
        generalize hN : nextS s g = q3 at *
        have HN := Lib.hid hN
        have Hnl := Lib.hid hnl
        clear hN hnl
        obtain ⟨c0, c1, c2, c3, c4, c5, c6, c7, hk9⟩ := eight Hnl.out
        obtain ⟨_, _, _, _, _, _, _, _, e8⟩ := nine_cells hk9 hr2
        have hfr := row_frozen hr2
        have Hr2 := Lib.hid hr2
        have Ht2 := Lib.hid ht2
        have Hq3 := Lib.hid hq2
        clear hr2 ht2 hq2 hk9
        have hTR : T ≠ R := by omega
        have hwR : w.heap.size ≠ R := by omega
        have hgi : (g : Int) < 65536 := by have := Hlt.out; omega
        go_wp2_with (first | (refine wpList_load_row rfl 26 _ rfl T rfl _ _ _ _ ((heap_setCell_other _ _ _ _ hTR).trans Ht2.out) Try.underlying26 rfl (by rw [infoSecret, cells_size, Hql.out]) ?_) | (refine wpList_store_row rfl 26 _ _ rfl w.heap.size _ rfl rfl _ _ ((heap_setCell_other _ _ _ _ hwR).trans Hq3.out) (by rw [infoSecret, cells_size, Hql.out]) (by rw [cells_size, cells_size, Hql.out]; rfl) (cells_one _) ?_))
        refine bodyPost_ret (results_cell_row rfl _ _ w.heap.size _ _ _ _ rfl (setRow_heap _ _ _ _ _ _ ((heap_setCell_other _ _ _ _ hwR).trans Hq3.out)) Try.underlying26 rfl (by rw [infoSecret, cells_size, Hql.out])) rfl ⟨by rw [Hq.out], ?_⟩
        rw [HN.out, setCell_eq_setRow _ _ _ _ _ _ _ Hr2.out, rcells_set8 _ Hnl.out]
        have hfin := below_setRow_both hbb2 R (rcells q3 ((g : Int) + 1))
        rw [setRow_setRow] at hfin
        exact below_setRow hfin (Nat.le_refl _) _
    · have hge : g = 65535 := by omega
      have hgi : ¬ (g : Int) < 65535 := by omega
      have hgi2 : (g : Int) < 65536 := by omega
      have Hge := Lib.hid hge
      clear hge hlt hg
      have hclr := run_clear_rat (P := Try.prog) HRr.out Hk.out 30 5 0 Try.underlying30 (fun _ => zeroU8 _)
      have hrz := setRow_heap wc R _ (rcells zeroS g) _ _ HRr.out
      have hz8 := nine_cells (k := zeroS) rfl hrz
      have e8' := hz8.2.2.2.2.2.2.2.2
      have hfr := row_frozen hrz
      have Hrz := Lib.hid hrz
      have hTR : T ≠ R := by omega
      have hwR : w.heap.size ≠ R := by omega
      have Ht3 : Hid ((wc.setRow R (rcells zeroS g)).heap[T]? = some (.cells (cells q) 26 (0, 0))) := Lib.hid ((setRow_other _ _ _ _ hTR).trans HTq.out)
      have Hq3 : Hid ((wc.setRow R (rcells zeroS g)).heap[w.heap.size]? = some (.cells (cells zeroS) 26 (0, 0))) := Lib.hid ((setRow_other _ _ _ _ hwR).trans Hqq.out)
      have hbz := below_setRow_both hbb R (rcells zeroS g)
      clear hrz hz8
      go_upto_region 5 with (fail)
      generalize wc.setRow R (rcells zeroS g) = W5 at *
      go_wp2_with (first | (refine wpList_load_row rfl 26 _ rfl T rfl _ _ _ _ ((heap_setCell_other _ _ _ _ hTR).trans Ht3.out) Try.underlying26 rfl (by rw [infoSecret, cells_size, Hql.out]) ?_) | (refine wpList_store_row rfl 26 _ _ rfl w.heap.size _ rfl rfl _ _ ((heap_setCell_other _ _ _ _ hwR).trans Hq3.out) (by rw [infoSecret, cells_size, Hql.out]) (by rw [cells_size, cells_size, Hql.out]; rfl) (cells_one _) ?_))
      refine bodyPost_ret (results_cell_row rfl _ _ w.heap.size _ _ _ _ rfl (setRow_heap _ _ _ _ _ _ ((heap_setCell_other _ _ _ _ hwR).trans Hq3.out)) Try.underlying26 rfl (by rw [infoSecret, cells_size, Hql.out])) rfl ⟨by rw [Hq.out], ?_⟩
      rw [setCell_eq_setRow _ _ _ _ _ _ _ Hrz.out, rcells_set8 _ rfl]
      have hfin := below_setRow_both hbz R (rcells zeroS ((g : Int) + 1))
      rw [setRow_setRow] at hfin
      have hns : nextS s g = zeroS := by rw [nextS, if_neg (by rw [Hge.out]; decide)]
      have hnn : nextN g = 1 := by rw [nextN, if_neg (by rw [Hge.out]; decide)]
      rw [hns, hnn]
      exact below_setRow hfin (Nat.le_refl _) _
end Go.Proofs.Ytccidllcjaaeeaa
