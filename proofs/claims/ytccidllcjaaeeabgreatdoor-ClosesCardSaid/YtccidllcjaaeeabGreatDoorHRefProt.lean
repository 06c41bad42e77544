/- The document's group: bound, New, Protect. Conditions: stated in each. -/
import Derived.Test.YtccidllcjaaeeabGreatDoorHRefGrp
import Derived.BigQuiet
namespace Go.Proofs.YtccidllcjaaeeabGreatDoor
set_option maxRecDepth 100000
open Go Go.Maps Go.RowKit
open Go.Shelf Go.Lib Go.Sort Go.MuLone
def boundR (s : GSt) (m g len : Nat) : Nat := 4 + 2 * depthF 16 s.n m + 2 * (g + 1 - (s.M m).next) + (len + 7) / 8
theorem bound_any (w : World) (lo R B m g len : Nat) (s : GSt) (st : Int) (h : RefAt w lo R B s st) (hn : s.n ≤ 16) (hm : m < s.n) (hnx : (s.M m).next ≤ 65536) (hg : g ≤ 65535) (hlen : len ≤ 1000000) :
    Calls Tryz.prog 39 #[.pointer (some ⟨R, 0, none⟩), .int .i64 m, .int .i64 g, .int .i64 len] w fun e w' => e = .returned (.int .i64 (boundR s m g len)) ∧ w' = w := by
  obtain ⟨_, c8, c9, c10, _, _, _⟩ := h.fields
  obtain ⟨_, m1, _, _⟩ := h.member m hm
  have hdp := depth_any 16 s.n m w (by omega) (by omega) hn hm (by omega)
  have hd16 := depthF_le 16 s.n m
  obtain ⟨d, hd⟩ : ∃ d, d = depthF 16 s.n m := ⟨_, rfl⟩
  obtain ⟨nx, hx⟩ : ∃ nx, nx = (s.M m).next := ⟨_, rfl⟩
  obtain ⟨n, hnn⟩ : ∃ n, n = s.n := ⟨_, rfl⟩
  rw [← hd, ← hnn] at hdp
  rw [← hd] at hd16
  rw [← hx] at m1 hnx
  rw [← hnn] at c8 c10 hm hn
  have hb : boundR s m g len = 4 + 2 * d + 2 * (g + 1 - nx) + (len + 7) / 8 := by rw [boundR, hd, hx]
  rw [hb]
  have Hdp := Lib.hid hdp
  have hmI : (m : Int) < (n : Nat) := by omega
  have hm0 : (0 : Int) ≤ (m : Nat) := by omega
  obtain ⟨q, hq⟩ : ∃ q, q = (len + 7) / 8 := ⟨_, rfl⟩
  have hqI : ((len : Int) + 7) / 8 = (q : Nat) := by rw [hq]; omega
  have hql : q ≤ 1000000 := by omega
  rw [← hq]
  clear hdp hd hx hnn hb hq h
  by_cases hneg : (g : Int) - (nx : Nat) + 1 < 0
  · have hr : (((4 + 2 * d + 2 * (g + 1 - nx) + q : Nat)) : Int) = 4 + 2 * (d : Int) + (q : Int) := by omega
    have Hr := Lib.hid hr
    clear hr
    go_enter Tryz.func39, Tryz.ntmps39
    go_wp2_with (go_at_call 61; refine Hdp.out.mono ?_; rintro e w1 ⟨rfl, h1⟩; obtain rfl := h1.symm)
    go_ret
    refine ⟨?_, rfl⟩
    rw [Hr.out]; rfl
  · have hr : (((4 + 2 * d + 2 * (g + 1 - nx) + q : Nat)) : Int) = 4 + 2 * (d : Int) + 2 * ((g : Int) - (nx : Nat) + 1) + (q : Int) := by omega
    have Hr := Lib.hid hr
    clear hr
    go_enter Tryz.func39, Tryz.ntmps39
    go_wp2_with (go_at_call 61; refine Hdp.out.mono ?_; rintro e w1 ⟨rfl, h1⟩; obtain rfl := h1.symm)
    go_ret
    refine ⟨?_, rfl⟩
    rw [Hr.out]; rfl
theorem infoMember : (Tryz.prog.info? 111).map (fun i => (i.zero, i.size, i.bytes)) = some (some (.agg #[.bool false, .int .i64 0, .slice none 0 0]), 3, 40) := by kernel_rfl
theorem refNew_no (w : World) (root : List UInt8) (n m : Int) (h : ¬ (1 ≤ n ∧ n ≤ 16 ∧ 0 ≤ m ∧ m < n)) :
    Calls Tryz.prog 7 #[.agg (cells root), .int .i64 n, .int .i64 m] w fun e w' => e = .returned (.pointer none) ∧ Below w.heap.size w w' := by
  have H := Lib.hid h
  clear h
  go_enter Tryz.func7, Tryz.ntmps7
  go_wp2_with (go_at_call 11; refine (refFits_no _ n m H.out).mono ?_; rintro e w1 ⟨rfl, h1⟩; obtain rfl := h1.symm)
  go_ret
  exact ⟨rfl, balloc (Below.refl _ _) _⟩
theorem made_at (n k j : Nat) (cur : Array Value) (h : cur.toList.take (n * 3) = (madeCells (Value.agg #[.bool false, .int .i64 0, .slice none 0 0]).cells (n * 3)).toList) (hk : k < n) (hj : j < 3) : cur[k * 3 + j]? = #[Value.bool false, .int .i64 0, .slice none 0 0][j]? := by
  have h1 : (cur.toList.take (n * 3))[k * 3 + j]? = ((madeCells (Value.agg #[.bool false, .int .i64 0, .slice none 0 0]).cells (n * 3)).toList)[k * 3 + j]? := by rw [h]
  rw [List.getElem?_take_of_lt (by omega)] at h1
  have h2 : (madeCells (Value.agg #[.bool false, .int .i64 0, .slice none 0 0]).cells (n * 3))[k * 3 + j]? = #[Value.bool false, .int .i64 0, .slice none 0 0][j]? := by
    have hlt : k * 3 + j < n * 3 := by omega
    have hm : (k * 3 + j) % 3 = j := by omega
    simp only [madeCells, Value.cells, Array.getElem?_map, Array.getElem?_range, hlt, if_true, Option.map_some]
    show some (#[Value.bool false, .int .i64 0, .slice none 0 0][(k * 3 + j) % 3]!) = _
    rw [hm]
    rcases j with _ | _ | _ | j
    · rfl
    · rfl
    · rfl
    · omega
  simpa [h2] using h1
set_option maxHeartbeats 2000000 in
theorem refNew_yes (w : World) (lo : Nat) (root : List UInt8) (n m : Nat) (hk : root.length = 8) (hm : m < n) (hn : n ≤ 16) (hlo : lo ≤ w.heap.size) :
    Calls Tryz.prog 7 #[.agg (cells root), .int .i64 n, .int .i64 m] w fun e w' => ∃ R B, e = .returned (.pointer (some ⟨R, 0, none⟩)) ∧ RefAt w' lo R B (st0 root n m) 0 ∧ w.heap.size ≤ R ∧ w.heap.size ≤ B ∧ Below w.heap.size w w' := by
  go_enter Tryz.func7, Tryz.ntmps7
  go_upto_region 4 with (go_at_call 11; refine (refFits_yes _ n m (by omega) (by omega) (by omega) (by omega)).mono ?_; rintro e w1 ⟨rfl, h1⟩; obtain rfl := h1.symm)
  obtain ⟨a0, a1, a2, a3, a4, a5, a6, a7, rfl⟩ := eight hk
  generalize hW : World.alloc _ _ = W
  have hWr : W.heap[w.heap.size]? = some (.cells (cells [a0, a1, a2, a3, a4, a5, a6, a7]) 36 (0, 0)) := by rw [← hW]; exact heap_alloc_new _ _
  have hWb : Below w.heap.size w W := by rw [← hW]; exact balloc (Below.refl _ _) _
  have hWs : w.heap.size < W.drew.heap.size := (Array.getElem?_eq_some_iff.1 hWr).1
  have k0 : W.drew.cell? ⟨w.heap.size, 0, none⟩ = some (.int .u8 a0.toNat) := by rw [World.cell?_drew, cell_of_row _ _ _ _ _ _ hWr]; rfl
  have k1 : W.drew.cell? ⟨w.heap.size, 1, none⟩ = some (.int .u8 a1.toNat) := by rw [World.cell?_drew, cell_of_row _ _ _ _ _ _ hWr]; rfl
  have k2 : W.drew.cell? ⟨w.heap.size, 2, none⟩ = some (.int .u8 a2.toNat) := by rw [World.cell?_drew, cell_of_row _ _ _ _ _ _ hWr]; rfl
  have k3 : W.drew.cell? ⟨w.heap.size, 3, none⟩ = some (.int .u8 a3.toNat) := by rw [World.cell?_drew, cell_of_row _ _ _ _ _ _ hWr]; rfl
  have k4 : W.drew.cell? ⟨w.heap.size, 4, none⟩ = some (.int .u8 a4.toNat) := by rw [World.cell?_drew, cell_of_row _ _ _ _ _ _ hWr]; rfl
  have k5 : W.drew.cell? ⟨w.heap.size, 5, none⟩ = some (.int .u8 a5.toNat) := by rw [World.cell?_drew, cell_of_row _ _ _ _ _ _ hWr]; rfl
  have k6 : W.drew.cell? ⟨w.heap.size, 6, none⟩ = some (.int .u8 a6.toNat) := by rw [World.cell?_drew, cell_of_row _ _ _ _ _ _ hWr]; rfl
  have k7 : W.drew.cell? ⟨w.heap.size, 7, none⟩ = some (.int .u8 a7.toNat) := by rw [World.cell?_drew, cell_of_row _ _ _ _ _ _ hWr]; rfl
  obtain ⟨i0, hi', hz0', hz1', hz2'⟩ := info_parts infoMember
  obtain ⟨w2, hmk, hown2, hg2⟩ := run_make_full (P := Tryz.prog) W.drew lo 74 111 i0 _ 3 Tryz.underlying74 hi' hz0' hz1' .i64 .i64 n (by rw [hz2']; omega) (by unfold maxLen; omega) (Nat.le_trans hlo hWb.size)
  have l0 : w2.cell? ⟨w.heap.size, 0, none⟩ = some (.int .u8 a0.toNat) := (World.cell?_of_block (w := W.drew) (a := ⟨w.heap.size, 0, none⟩) (hg2.block _ hWs (by simp))).trans k0
  have l1 : w2.cell? ⟨w.heap.size, 1, none⟩ = some (.int .u8 a1.toNat) := (World.cell?_of_block (w := W.drew) (a := ⟨w.heap.size, 1, none⟩) (hg2.block _ hWs (by simp))).trans k1
  have l2 : w2.cell? ⟨w.heap.size, 2, none⟩ = some (.int .u8 a2.toNat) := (World.cell?_of_block (w := W.drew) (a := ⟨w.heap.size, 2, none⟩) (hg2.block _ hWs (by simp))).trans k2
  have l3 : w2.cell? ⟨w.heap.size, 3, none⟩ = some (.int .u8 a3.toNat) := (World.cell?_of_block (w := W.drew) (a := ⟨w.heap.size, 3, none⟩) (hg2.block _ hWs (by simp))).trans k3
  have l4 : w2.cell? ⟨w.heap.size, 4, none⟩ = some (.int .u8 a4.toNat) := (World.cell?_of_block (w := W.drew) (a := ⟨w.heap.size, 4, none⟩) (hg2.block _ hWs (by simp))).trans k4
  have l5 : w2.cell? ⟨w.heap.size, 5, none⟩ = some (.int .u8 a5.toNat) := (World.cell?_of_block (w := W.drew) (a := ⟨w.heap.size, 5, none⟩) (hg2.block _ hWs (by simp))).trans k5
  have l6 : w2.cell? ⟨w.heap.size, 6, none⟩ = some (.int .u8 a6.toNat) := (World.cell?_of_block (w := W.drew) (a := ⟨w.heap.size, 6, none⟩) (hg2.block _ hWs (by simp))).trans k6
  have l7 : w2.cell? ⟨w.heap.size, 7, none⟩ = some (.int .u8 a7.toNat) := (World.cell?_of_block (w := W.drew) (a := ⟨w.heap.size, 7, none⟩) (hg2.block _ hWs (by simp))).trans k7
  have hB : W.drew.heap.size = W.heap.size := rfl
  have Hown2 := Lib.hid hown2
  have Hg2 := Lib.hid hg2
  have HWb := Lib.hid hWb
  have HWr := Lib.hid hWr
  clear hW hown2 hg2 hWb hWr hi' hz0' hz1' hz2'
  go_region_held3 (fun w' => w'.cell? ⟨w.heap.size, 0, none⟩ = some (.int .u8 a0.toNat) ∧ w'.cell? ⟨w.heap.size, 1, none⟩ = some (.int .u8 a1.toNat) ∧ w'.cell? ⟨w.heap.size, 2, none⟩ = some (.int .u8 a2.toNat) ∧ w'.cell? ⟨w.heap.size, 3, none⟩ = some (.int .u8 a3.toNat) ∧ w'.cell? ⟨w.heap.size, 4, none⟩ = some (.int .u8 a4.toNat) ∧ w'.cell? ⟨w.heap.size, 5, none⟩ = some (.int .u8 a5.toNat) ∧ w'.cell? ⟨w.heap.size, 6, none⟩ = some (.int .u8 a6.toNat) ∧ w'.cell? ⟨w.heap.size, 7, none⟩ = some (.int .u8 a7.toNat)) (first | (refine ⟨?_, ?_, ?_, ?_, ?_, ?_, ?_, ?_⟩ <;> assumption) | go_keep) (fail)
  go_wp2
  go_ret
  have hB2 : ∃ ms, w2.heap[W.heap.size]? = some (.cells ms 111 (0, 0)) ∧ ∀ k, k < n → ms[k * 3]? = some (.bool false) ∧ ms[k * 3 + 1]? = some (.int .i64 0) ∧ ms[k * 3 + 2]? = some (.slice none 0 0) := by
    rcases Hown2.out.2 with ⟨e, _⟩ | ⟨g', cap, cur, e, _, h3, _, _, _, h7⟩
    · cases e
    · injection e with e1 _ _
      injection e1 with e1
      injection e1 with e1 _ _
      subst e1
      exact ⟨cur, h3, fun k hk => ⟨made_at n k 0 cur h7 hk (by omega), made_at n k 1 cur h7 hk (by omega), made_at n k 2 cur h7 hk (by omega)⟩⟩
  obtain ⟨ms, hms, hmk2⟩ := hB2
  have hws2 : W.heap.size ≤ w2.heap.size := Hg2.out.size
  have hms' := (Array.getElem?_eq_some_iff.1 hms).1
  have hwW : w.heap.size ≤ W.heap.size := HWb.out.size
  have hb2 : Below w.heap.size w w2 := HWb.out.drew.grown Hg2.out (by exact hwW) (fun k e => by cases e)
  refine ⟨_, W.heap.size, rfl, ⟨⟨_, heap_alloc_new _ _, fun j v hv => ?_, rfl, rfl, rfl, rfl, rfl⟩, ⟨ms, by rw [Below.heap_alloc _ _ _ hms']; exact hms, fun k hk => ?_⟩, by omega, by omega⟩, by omega, hwW, balloc hb2 _⟩
  · have hj := (List.getElem?_eq_some_iff.1 hv).1
    rcases j with _ | _ | _ | _ | _ | _ | _ | _ | j <;> first | exact hv | (exfalso; rw [cells_len] at hj; simp only [st0, List.length_cons, List.length_nil] at hj; omega)
  · obtain ⟨x1, x2, x3⟩ := hmk2 k hk
    exact ⟨x1, x2, _, x3, .inl ⟨rfl, rfl⟩⟩
end Go.Proofs.YtccidllcjaaeeabGreatDoor
