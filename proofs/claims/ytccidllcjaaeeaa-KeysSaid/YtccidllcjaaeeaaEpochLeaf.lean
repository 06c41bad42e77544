/- The walks of package epoch's fits and Leaf, and the law that the leaf that Split takes is the document's. Conditions: the root has eight bytes. -/
import Derived.Test.YtccidllcjaaeeaaSplit
namespace Go.Proofs.Ytccidllcjaaeeaa
open Go.RowKit
open Go.Shelf Go.Lib Go.Sort
theorem descF_partL : ∀ (d : Nat) (p : TPart) (m : Nat) (bf bh : List TPart) (n : Nat), p.a ≤ m → m < p.b → p.b - p.a ≤ d + 1 → (descF d p m bf bh n).p.s = partL d p.s p.a p.b m (m + 1)
  | 0, p, m, bf, bh, n, _, _, _ => rfl
  | d + 1, p, m, bf, bh, n, h1, h2, h3 => by
    by_cases h : p.b - p.a ≤ 1
    · rw [descF_stop _ _ _ _ _ _ h, partL, if_pos ⟨by omega, by omega⟩]
    · have hne : ¬ (p.a = m ∧ p.b = m + 1) := by omega
      have hp := splitN_pos (p.b - p.a)
      have hl := splitN_lt (p.b - p.a) (by omega)
      rw [partL, if_neg hne]
      cases hb : hasB (pL p) m with
      | true =>
        have h4 := hasB_pL hb
        have h5 : (pL p).b = p.a + splitN (p.b - p.a) := rfl
        have h6 : (pL p).a = p.a := rfl
        rw [descF_left _ _ _ _ _ _ h hb, descF_partL d (pL p) m _ _ _ (by omega) h4 (by omega), if_pos (by omega)]
        rfl
      | false =>
        have h4 := hasB_pR h1 hb
        have h5 : (pR p).b = p.b := rfl
        have h6 : (pR p).a = p.a + splitN (p.b - p.a) := rfl
        rw [descF_right _ _ _ _ _ _ h hb, descF_partL d (pR p) m _ _ _ h4 (by omega) (by omega), if_neg (by omega)]
        rfl
theorem desc_leaf (root : List UInt8) (n m : Nat) (hm : m < n) (hn : n ≤ 16) : (desc ⟨0, n, root⟩ m).p.s = leafL root n m :=
  descF_partL 16 ⟨0, n, root⟩ m [] [] 0 (Nat.zero_le _) hm (by show n - 0 ≤ _; omega)
theorem descF_n : ∀ (d : Nat) (p : TPart) (m : Nat) (bf bh : List TPart) (n : Nat), (descF d p m bf bh n).n ≤ n + d
  | 0, p, m, bf, bh, n => Nat.le_refl _
  | d + 1, p, m, bf, bh, n => by
    rw [descF]
    split
    · show n ≤ _; omega
    · split
      · have := descF_n d (pL p) m bf (bh ++ [pR p]) (n + 1); omega
      · have := descF_n d (pR p) m (bf ++ [pL p]) bh (n + 1); omega
set_option maxHeartbeats 400000 in
theorem fits_yes (w : World) (n m : Int) (h1 : 1 ≤ n) (h2 : n ≤ 16) (h3 : 0 ≤ m) (h4 : m < n) :
    Calls Try.prog 24 #[.int .i64 n, .int .i64 m] w fun e w' => e = .returned (.bool true) ∧ w' = w := by
  go_enter Try.func24, Try.ntmps24
  go_wp2
  go_ret
  exact ⟨rfl, rfl⟩
set_option maxHeartbeats 400000 in
theorem fits_no (w : World) (n m : Int) (h : ¬ (1 ≤ n ∧ n ≤ 16 ∧ 0 ≤ m ∧ m < n)) :
    Calls Try.prog 24 #[.int .i64 n, .int .i64 m] w fun e w' => e = .returned (.bool false) ∧ w' = w := by
  by_cases h1 : 1 ≤ n
  · by_cases h2 : n ≤ 16
    · by_cases h3 : 0 ≤ m
      · have h4 : ¬ m < n := fun h4 => h ⟨h1, h2, h3, h4⟩
        clear h
        go_enter Try.func24, Try.ntmps24
        go_wp2
        go_ret
        exact ⟨rfl, rfl⟩
      · clear h
        go_enter Try.func24, Try.ntmps24
        go_wp2
        go_ret
        exact ⟨rfl, rfl⟩
    · clear h
      go_enter Try.func24, Try.ntmps24
      go_wp2
      go_ret
      exact ⟨rfl, rfl⟩
  · clear h
    go_enter Try.func24, Try.ntmps24
    go_wp2
    go_ret
    exact ⟨rfl, rfl⟩
set_option maxHeartbeats 1000000 in
theorem leaf_no (w : World) (root : List UInt8) (n m : Int) (h : ¬ (1 ≤ n ∧ n ≤ 16 ∧ 0 ≤ m ∧ m < n)) :
    Calls Try.prog 15 #[.agg (cells root), .int .i64 n, .int .i64 m] w fun e w' => e = .returned (.tuple #[.agg (cells zeroS), .int .i64 1]) ∧ Below w.heap.size w w' := by
  have H := Lib.hid h
  clear h
  go_enter Try.func15, Try.ntmps15
  go_upto_region 1 with (fail)
  generalize hW : World.alloc (World.alloc _ _) _ = W
  have hR : W.heap[w.heap.size + 1]? = some (.cells (cells zeroS) 26 (0, 0)) := by rw [← hW]; exact heap_alloc2_new w _ _
  have hWb : Below w.heap.size w W := by rw [← hW]; exact balloc (balloc (Below.refl _ _) _) _
  have HR := Lib.hid hR
  clear hR hW
  go_wp2_with fail
  refine (fits_no _ n m H.out).mono ?_
  rintro e w' ⟨rfl, rfl⟩
  go_wp2_with (refine wpList_store_row rfl 26 _ _ rfl (w.heap.size + 1) (cells zeroS) rfl rfl _ _ HR.out (by rw [infoSecret, cells_size]; rfl) rfl (cells_one _) ?_)
  refine bodyPost_ret (results_cell_row2 rfl _ _ (w.heap.size + 1) _ _ _ _ rfl (setRow_heap _ _ _ _ _ _ HR.out) Try.underlying26 rfl (by rw [infoSecret, cells_size]; rfl)) rfl ⟨rfl, below_setRow hWb (by simp) _⟩
theorem wpList_build_part {ops : Array Oper} {rest : List Oper} {o : Oper} {ac : Act} {w : World} {Q : Exit → Act → World → Prop} (hgd : o.guard = none) (x y z : Operand) (ho : o.op = .build 59 #[(0, x), (1, y), (2, z)]) (a b : Nat) (k : List UInt8) (hk : k.length = 8)
    (hx : ac.eval x = .int .i64 a) (hy : ac.eval y = .int .i64 b) (hz : ac.eval z = .agg (cells k)) (h : wpList Try.prog ops Q rest (ac.put o.dst (.agg (pcells ⟨a, b, k⟩))) w) : wpList Try.prog ops Q (o :: rest) ac w := by
  have hb := built_part a b k hk
  refine wpList_build hgd 59 _ ho ?_ ?_
  · simp only [List.map_toArray, List.map_cons, List.map_nil, hx, hy, hz, hb]; rfl
  · simp only [List.map_toArray, List.map_cons, List.map_nil, hx, hy, hz, hb]; exact h
set_option maxRecDepth 100000 in
set_option maxHeartbeats 4000000 in
theorem leaf_yes (w : World) (root : List UInt8) (n m : Nat) (hk : root.length = 8) (hm : m < n) (hn : n ≤ 16) :
    Calls Try.prog 15 #[.agg (cells root), .int .i64 n, .int .i64 m] w fun e w' => e = .returned (.tuple #[.agg (cells (leafL root n m)), .int .i64 0]) ∧ Below w.heap.size w w' := by
  have Hk := Lib.hid hk
  clear hk
  obtain ⟨i0, hi', hz0', hz1', hz2'⟩ := info_parts infoPartI
  have hi := Lib.hid hi'
  have hz0 := Lib.hid hz0'
  have hz1 := Lib.hid hz1'
  have hz2 := Lib.hid hz2'
  clear hi' hz0' hz1' hz2'
  have hp10 : (pcells ⟨0, n, root⟩).size = 10 := pcells_size _ Hk.out
  have Hp10 := Lib.hid hp10
  clear hp10
  go_enter Try.func15, Try.ntmps15
  go_upto_region 1 with (fail)
  generalize hW : World.alloc (World.alloc _ _) _ = W
  have hS : W.heap[w.heap.size]? = some (.cells (cells root) 26 (0, 0)) := by rw [← hW]; exact heap_alloc2_old w _ _
  have hR : W.heap[w.heap.size + 1]? = some (.cells (cells zeroS) 26 (0, 0)) := by rw [← hW]; exact heap_alloc2_new w _ _
  have hWb : Below w.heap.size w W := by rw [← hW]; exact balloc (balloc (Below.refl _ _) _) _
  have hRs : w.heap.size + 1 < W.heap.size := (Array.getElem?_eq_some_iff.1 hR).1
  have HS := Lib.hid hS
  have HR := Lib.hid hR
  clear hS hR hW
  go_wp2_with fail
  refine (fits_yes _ n m (by omega) (by omega) (by omega) (by omega)).mono ?_
  rintro e w' ⟨rfl, rfl⟩
  go_upto_region 4 with (fail)
  generalize hW2 : World.alloc _ _ = W2
  have hD2 : W2.cell? ⟨w'.heap.size, 0, none⟩ = some (.int .i64 0) := by rw [← hW2]; exact cell_of_row _ _ _ _ _ _ (heap_alloc_new _ _)
  have hF2 : W2.frozen? ⟨w'.heap.size, 0, none⟩ = false := by rw [← hW2]; exact frozen_of_row _ _ _ _ _ (heap_alloc_new _ _)
  have hS2 : W2.heap[w.heap.size]? = some (.cells (cells root) 26 (0, 0)) := by rw [← hW2, Below.heap_alloc _ _ _ (by omega)]; exact HS.out
  have hR2 : W2.heap[w.heap.size + 1]? = some (.cells (cells zeroS) 26 (0, 0)) := by rw [← hW2, Below.heap_alloc _ _ _ hRs]; exact HR.out
  have hs2 : W2.heap.size = w'.heap.size + 1 := by rw [← hW2]; simp
  have hb2 : Below w.heap.size w W2 := by rw [← hW2]; exact balloc hWb _
  clear hW2
  have HD2 := Lib.hid hD2
  have HF2 := Lib.hid hF2
  have HS2 := Lib.hid hS2
  have HR2 := Lib.hid hR2
  have Hs2 := Lib.hid hs2
  have hs2l : w'.heap.size + 1 ≤ W2.heap.size := by omega
  clear hD2 hF2 hS2 hR2 hs2
  go_wp2_with (first
    | (refine wpList_load_row rfl 26 (.tmp 3) rfl w.heap.size rfl _ (cells root) _ _ HS2.out Try.underlying26 rfl (by rw [infoSecret, cells_size, Hk.out]) ?_)
    | (refine wpList_build_part rfl _ _ _ rfl 0 n root Hk.out (by rfl) (by rfl) (by rfl) ?_)
    | (refine wpList_slice_one rfl 56 59 (.tmp 20) (by rfl) (pcells ⟨0, n, root⟩) (by rfl) i0 _ Try.underlying56 hi.out hz0.out (hz1.out.trans Hp10.out.symm) (by rw [Hp10.out]; decide) (by rw [Hp10.out]; decide) ?_))
  have hsl : SliceR (W2.alloc (.cells (pcells ⟨0, n, root⟩) 59)) (.slice (some ⟨W2.heap.size, 0, none⟩) 1 1) 1 (lcells [⟨0, n, root⟩]) := by
    refine .inr ⟨W2.heap.size, 0, 1, rfl, Nat.le_refl _, by unfold maxLen; omega, by simp, fun j u hj => ?_⟩
    have e : lcells [⟨0, n, root⟩] = (pcells ⟨0, n, root⟩).toList := by rw [← encP_eq _ Hk.out]; simp [lcells]
    rw [e] at hj
    rw [Nat.zero_add, cell_of_row _ _ _ _ _ _ (heap_alloc_new _ _), ← Array.getElem?_toList]
    exact hj
  have hidx : Lib.idxBy (fun _ y => hasB y m) [(⟨0, n, root⟩ : TPart)] default = ((0 : Nat) : Int) := by
    have : hasB ⟨0, n, root⟩ m = true := by simp [hasB, hm]
    simp [Lib.idxBy, Lib.idxByFrom, this]
  refine (split_any' w'.heap.size 0 0 _ [⟨0, n, root⟩] _ m 0 (by rw [World.cell?_alloc_past _ _ _ (by show w'.heap.size < _; omega)]; exact HD2.out) (by rw [World.frozen?_alloc_past _ _ _ (by show w'.heap.size < _; omega)]; exact HF2.out) (by omega) (by omega) (by simp) (by intro p hp; simp only [List.mem_singleton] at hp; subst hp; exact Hk.out) (by intro p hp; simp only [List.mem_singleton] at hp; subst hp; exact hn) hsl (slice_ne (by omega)) (by simp) hidx (by show hasB ⟨0, n, root⟩ m = true; simp [hasB, hm])).mono ?_
  rintro e w3 ⟨t, rfl, _, hb3⟩
  have hdl : (desc ([(⟨0, n, root⟩ : TPart)][0]) m).p.s = leafL root n m := desc_leaf root n m hm hn
  rw [hdl]
  have hll : (leafL root n m).length = 8 := partL_length _ _ _ _ _ _ Hk.out
  generalize hlf : leafL root n m = leaf at *
  have Hlf := Lib.hid hlf
  have Hll := Lib.hid hll
  have hb4 : Below w.heap.size w w3 :=
    ((balloc hb2 (.cells (pcells ⟨0, n, root⟩) 59)).setCell (p := ⟨w'.heap.size, 0, none⟩) (by show w.heap.size ≤ w'.heap.size; omega) _).trans (hb3.mono (by simp; omega))
  have hR3 : w3.heap[w.heap.size + 1]? = some (.cells (cells zeroS) 26 (0, 0)) := by
    rw [cnt_other hb3 (by simp; omega) (by omega), Below.heap_alloc _ _ _ (by omega)]; exact HR2.out
  have HR3 := Lib.hid hR3
  clear hlf hll hdl hb3 hsl hidx hR3
  go_wp2_with (first
    | (refine wpList_store_row rfl 26 (.tmp 10) _ rfl w3.heap.size _ rfl rfl _ _ (heap_alloc_new _ _) (by rw [infoSecret, cells_size, Hll.out]) (by rw [cells_size, Hll.out]; rfl) (cells_one _) ?_; rw [World.setRow_alloc_new])
    | (refine wpList_load_row rfl 26 (.tmp 10) rfl w3.heap.size rfl _ _ _ _ (heap_alloc_new _ _) Try.underlying26 rfl (by rw [infoSecret, cells_size, Hll.out]) ?_)
    | (refine wpList_store_row rfl 26 (.tmp 6) _ rfl (w.heap.size + 1) _ rfl rfl _ _ ((Below.heap_alloc _ _ _ (Array.getElem?_eq_some_iff.1 HR3.out).1).trans HR3.out) (by rw [infoSecret, cells_size, Hll.out]) (by rw [cells_size, cells_size, Hll.out]; rfl) (cells_one _) ?_))
  refine bodyPost_ret (results_cell_row2 rfl _ _ (w.heap.size + 1) _ _ _ _ rfl (setRow_heap _ _ _ _ _ _ ((Below.heap_alloc _ _ _ (Array.getElem?_eq_some_iff.1 HR3.out).1).trans HR3.out)) Try.underlying26 rfl (by rw [infoSecret, cells_size, Hll.out])) rfl ⟨by rw [Hlf.out]; rfl, below_setRow (balloc hb4 _) (by simp) _⟩
end Go.Proofs.Ytccidllcjaaeeaa
