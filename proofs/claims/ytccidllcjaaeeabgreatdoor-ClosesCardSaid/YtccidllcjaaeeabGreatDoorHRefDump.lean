/- The document's Dump. Conditions: the group reads as its state. -/
import Derived.Test.YtccidllcjaaeeabGreatDoorHRefParts
import Derived.StillTailTactics
import Derived.Deep.CutRange
import Derived.BigQuiet
import Derived.Test.YtccidllcjaaeeabGreatDoorHRefUnGo
namespace Go.Proofs.YtccidllcjaaeeabGreatDoor
set_option maxRecDepth 100000
open Go Go.Maps Go.RowKit
open Go.Shelf Go.Lib Go.Sort Go.MuLone
theorem refDump_shut (w : World) (lo R B : Nat) (s : GSt) (st : Int) (h : RefAt w lo R B s st) (hcl : s.closed = true) :
    Calls Tryz.prog 19 #[.pointer (some ⟨R, 0, none⟩)] w fun e w' => e = .returned (.slice none 0 0) ∧ w' = w := by
  obtain ⟨_, _, _, _, c11, _, _⟩ := h.fields
  rw [hcl] at c11
  clear h
  go_enter Tryz.func19, Tryz.ntmps19
  go_wp2
  go_ret
  exact ⟨rfl, rfl⟩
theorem refT_whole {s : GSt} (hcl : s.closed = false) : refT 16 s 0 s.n = treeL s := by
  rw [refT, partL_self, treeL, if_neg (by rw [hcl]; simp)]
  rfl
def headsTo (s : GSt) (j : Nat) : List DItem := ((List.range j).filter (headB s)).map (headI s)
def keptsTo (s : GSt) (j : Nat) : List DItem := (List.range j).flatMap fun m => (s.M m).over.map (keptI s m)
theorem headsTo_yes {s : GSt} {j : Nat} (h : headB s j = true) : headsTo s (j + 1) = headsTo s j ++ [headI s j] := by
  rw [headsTo, List.range_succ, List.filter_append, List.map_append]; simp [headsTo, h]
theorem headsTo_no {s : GSt} {j : Nat} (h : headB s j = false) : headsTo s (j + 1) = headsTo s j := by
  rw [headsTo, List.range_succ, List.filter_append, List.map_append]; simp [headsTo, h]
theorem keptsTo_succ (s : GSt) (j : Nat) : keptsTo s (j + 1) = keptsTo s j ++ (s.M j).over.map (keptI s j) := by
  rw [keptsTo, List.range_succ, List.flatMap_append]; simp [keptsTo]
theorem headsTo_len (s : GSt) (j : Nat) : (headsTo s j).length ≤ j := by
  rw [headsTo, List.length_map]
  exact Nat.le_trans (List.length_filter_le _ _) (by rw [List.length_range]; exact Nat.le_refl _)
theorem keptsTo_len {s : GSt} (hI : GInv s) : ∀ j, (keptsTo s j).length ≤ 4 * j
  | 0 => by simp [keptsTo]
  | j + 1 => by
    have h := keptsTo_len hI j
    have h4 := hI.four j
    rw [keptsTo_succ, List.length_append, List.length_map]
    omega
/-- What a member's row and the root's hold, for the loads. -/
theorem RefAt.eleven {w : World} {lo R B : Nat} {s : GSt} {st : Int} {n j nx : Nat} {a0 a1 a2 a3 a4 a5 a6 a7 : UInt8} (h : RefAt w lo R B s st) (hr : s.root = [a0, a1, a2, a3, a4, a5, a6, a7]) (hn : n = s.n) (hj : j < s.n) (hx : nx = (s.M j).next) :
    w.cell? ⟨R, 0, none⟩ = some (.int .u8 a0.toNat) ∧ w.cell? ⟨R, 1, none⟩ = some (.int .u8 a1.toNat) ∧ w.cell? ⟨R, 2, none⟩ = some (.int .u8 a2.toNat) ∧ w.cell? ⟨R, 3, none⟩ = some (.int .u8 a3.toNat) ∧ w.cell? ⟨R, 4, none⟩ = some (.int .u8 a4.toNat) ∧ w.cell? ⟨R, 5, none⟩ = some (.int .u8 a5.toNat) ∧ w.cell? ⟨R, 6, none⟩ = some (.int .u8 a6.toNat) ∧ w.cell? ⟨R, 7, none⟩ = some (.int .u8 a7.toNat) ∧ w.cell? ⟨R, 8, none⟩ = some (.int .i64 n) ∧ w.cell? ⟨R, 10, none⟩ = some (.slice (some ⟨B, 0, none⟩) n n) ∧ w.cell? ⟨B, j * 3 + 1, none⟩ = some (.int .i64 nx) := by
  obtain ⟨z0, z1, z2, z3, z4, z5, z6, z7, z8⟩ := h.root_cells hr hn
  obtain ⟨_, _, _, c10, _, _, _⟩ := h.fields
  obtain ⟨_, m1, _, _⟩ := h.member j hj
  rw [← hn] at c10
  rw [← hx] at m1
  exact ⟨z0, z1, z2, z3, z4, z5, z6, z7, z8, c10, m1⟩
set_option maxHeartbeats 16000000 in
theorem refDump_open (w : World) (lo R B : Nat) (s : GSt) (st : Int) (h : RefAt w lo R B s st) (hI : GInv s) (hcl : s.closed = false) :
    Calls Tryz.prog 19 #[.pointer (some ⟨R, 0, none⟩)] w fun e w' => ∃ v, e = .returned v ∧ w'.ownsRow w.heap.size 88 12 v (dumpL s).length (itemsV (dumpL s)) ∧ Below w.heap.size w w' := by
  obtain ⟨_, c8, _, c10, c11, _, _⟩ := h.fields
  rw [hcl] at c11
  have hown := hI.own
  have hn16 := hI.n16
  have hparts := refParts_any s hI 16 w lo R B st 0 s.n h (by omega) (Nat.le_refl _) (by omega) (node_self _ _ _)
  rw [refT_whole hcl] at hparts
  have hT16 := (tree_in hI).2.2
  have e0 : ((0 : Nat) : Int) = 0 := rfl
  rw [e0] at hparts
  obtain ⟨n, hn⟩ : ∃ n, n = s.n := ⟨_, rfl⟩
  rw [← hn] at c8 c10 hparts hn16
  obtain ⟨TL, hTL⟩ : ∃ TL, TL = (treeL s).map nodeI := ⟨_, rfl⟩
  have hTl : TL.length = (treeL s).length := by rw [hTL, List.length_map]
  rw [← hTL, ← hTl] at hparts
  rw [← hTl] at hT16
  obtain ⟨a0, a1, a2, a3, a4, a5, a6, a7, hr⟩ := eight hI.root
  obtain ⟨i0, hi', hz0', hz1', hz2'⟩ := info_parts infoItemI
  have hi := Lib.hid hi'
  have hz0 := Lib.hid hz0'
  have hz1 := Lib.hid hz1'
  have hz2 := Lib.hid hz2'
  have Hh := Lib.hid h
  have HI := Lib.hid hI
  have Hn := Lib.hid hn
  have HTL := Lib.hid hTL
  have Hparts := Lib.hid hparts
  have Hr := Lib.hid hr
  have Hcl := Lib.hid hcl
  have Hlow := Lib.hid (show R < w.heap.size ∧ B < w.heap.size from ⟨block_lt_of_cell c8, block_lt_of_cell ((h.member s.own hown).1)⟩)
  clear h hI hn hTL hTl hparts hr hi' hz0' hz1' hz2' e0 hown hcl
  go_enter Tryz.func19, Tryz.ntmps19
  go_upto_region 5 with (first | (go_at_call 34; refine Hparts.out.mono ?_; rintro e w1 ⟨v1, rfl, ho1, hb1⟩; have Ho1 := Lib.hid ho1; have Hb1 := Lib.hid hb1; clear ho1 hb1; go_frame))
  go_loopw [3, 4, 5] (fun lv iv _ wr => ∃ j : Nat, j ≤ n ∧ iv = .int .i64 j ∧ wr.ownsRow w.heap.size 88 12 lv (TL ++ headsTo s j).length (itemsV (TL ++ headsTo s j)) ∧ Below w.heap.size w wr) (fun _ iv _ _ => n - (intOf iv).toNat)
  case atStart => exact ⟨0, Nat.zero_le _, rfl, by simpa [headsTo] using Ho1.out, Hb1.out⟩
  case round =>
    obtain ⟨j, hjn, rfl, hown, hb⟩ := hrel
    have Hown := Lib.hid hown
    have Hb := Lib.hid hb
    have Hwr := Lib.hid (Hh.out.below hb)
    clear hown hb
    by_cases hj : j < n
    · have hj' : j < s.n := by rw [← Hn.out]; exact hj
      obtain ⟨nx, hx⟩ : ∃ nx, nx = (s.M j).next := ⟨_, rfl⟩
      obtain ⟨bg, hbg⟩ : ∃ bg, bg = (s.M j).begun := ⟨_, rfl⟩
      obtain ⟨y0, y1, y2, y3, y4, y5, y6, y7, y8, y10, y11⟩ := Hwr.out.eleven Hr.out Hn.out hj' hx
      have yb := (Hwr.out.member j hj').1
      rw [← hbg] at yb
      have hjI : (j : Int) < (n : Nat) := by omega
      have hj0 : (0 : Int) ≤ (j : Nat) := by omega
      have Hx := Lib.hid hx
      have Hbg := Lib.hid hbg
      have Hj := Lib.hid hj'
      clear hx hbg hj'
      by_cases hbj : headB s j = true
      · obtain ⟨hb1, hb2⟩ := headB_iff.1 hbj
        obtain rfl : bg = true := by rw [Hbg.out]; exact hb1
        have h65 : (nx : Int) ≤ 65535 := by have := Hx.out; omega
        obtain ⟨q, hq⟩ : ∃ q, q = ratL (leafL s.root s.n j) nx := ⟨_, rfl⟩
        have hql : q.length = 8 := by rw [hq]; exact ratL_length _ _
        have hrat := fun W => refRatchet_any W s.root s.n j nx HI.out.root Hj.out HI.out.n16 (by omega)
        rw [← hq, ← Hn.out, Hr.out] at hrat
        have hstA := fun w => run_storeCells_fresh (P := Tryz.prog) q hql w 36
        have hqs : (cells q).size = 8 := by rw [cells_size, hql]
        have hRw : R < wr.heap.size := block_lt_of_cell y0
        have hBw : B < wr.heap.size := block_lt_of_cell y11
        have hRT : R ≠ wr.heap.size := by omega
        have hBT : B ≠ wr.heap.size := by omega
        have Hrat := Lib.hid hrat
        have Hq := Lib.hid hq
        have Hql := Lib.hid hql
        have Hbj := Lib.hid hbj
        clear hrat hq hql hbj hb1 hb2
        go_upto_region 8 with (fail)
        go_cut [5] from 20 to 80 (fun s5 wx => ∃ T, s5 = .pointer (some ⟨T, 0, none⟩) ∧ wr.heap.size ≤ T ∧ wx.heap[T]? = some (.cells (cells q) 36 (0, 0)) ∧ Below wr.heap.size wr wx)
        case first =>
          go_region_held3 (fun w' => w'.cell? ⟨R, 0, none⟩ = some (.int .u8 a0.toNat) ∧ w'.cell? ⟨R, 1, none⟩ = some (.int .u8 a1.toNat) ∧ w'.cell? ⟨R, 2, none⟩ = some (.int .u8 a2.toNat) ∧ w'.cell? ⟨R, 3, none⟩ = some (.int .u8 a3.toNat) ∧ w'.cell? ⟨R, 4, none⟩ = some (.int .u8 a4.toNat) ∧ w'.cell? ⟨R, 5, none⟩ = some (.int .u8 a5.toNat) ∧ w'.cell? ⟨R, 6, none⟩ = some (.int .u8 a6.toNat) ∧ w'.cell? ⟨R, 7, none⟩ = some (.int .u8 a7.toNat) ∧ w'.cell? ⟨R, 8, none⟩ = some (.int .i64 n) ∧ w'.cell? ⟨R, 10, none⟩ = some (.slice (some ⟨B, 0, none⟩) n n) ∧ w'.cell? ⟨B, j * 3 + 1, none⟩ = some (.int .i64 nx)) (refine ⟨?_, ?_, ?_, ?_, ?_, ?_, ?_, ?_, ?_, ?_, ?_⟩ <;> (first | with_reducible assumption | (simp only [World.cell?_drew]; with_reducible assumption) | ((try simp only [World.cell?_drew]); rw [World.cell?_alloc_past _ _ _ hR2]; assumption) | ((try simp only [World.cell?_drew]); rw [World.cell?_alloc_past _ _ _ hB2]; assumption) | ((try simp only [World.cell?_drew]); rw [World.cell?_alloc_past _ _ _ hRw]; assumption) | ((try simp only [World.cell?_drew]); rw [World.cell?_alloc_past _ _ _ hBw]; assumption) | ((try simp only [World.cell?_drew]); rw [World.cell?_of_block (setRow_other _ _ _ _ hRT)]; assumption) | ((try simp only [World.cell?_drew]); rw [World.cell?_of_block (setRow_other _ _ _ _ hBT)]; assumption))) (first | (go_at_call 35; refine (Hrat.out _).mono ?_; rintro e w2 ⟨rfl, hb2⟩; have hw2 : RefAt w2 lo R B s st := (by first | exact Hwr.out.drew.below hb2 | exact ((Hwr.out.below (balloc (Below.refl _ _) _)).drew).below hb2); have Hw2 := Lib.hid hw2; clear hw2; obtain ⟨z0, z1, z2, z3, z4, z5, z6, z7, z8, z10, z11⟩ := Hw2.out.eleven Hr.out Hn.out Hj.out Hx.out; have hR2 := block_lt_of_cell z0; have hB2 := block_lt_of_cell z11; (first | (have zr := (hb2.block wr.heap.size (by simp)).trans (heap_alloc_new wr _); have hstB := run_storeCells_row (P := Tryz.prog) zr q (by rw [Hql.out]; rfl); have Zr := Lib.hid zr; clear zr) | skip)))
          · go_wp2_with fail
            go_meet
            exact ⟨w2.heap.size, rfl, hb2.size, heap_alloc_new _ _, balloc (bnext (Below.refl _ _).drew hb2) _⟩
          · go_wp2_with fail
            go_meet
            exact ⟨wr.heap.size, rfl, Nat.le_refl _, setRow_heap _ _ _ _ _ _ Zr.out, below_setRow (bnext (balloc (Below.refl _ _) _).drew hb2) (Nat.le_refl _) _⟩
        case rest =>
          obtain ⟨T, rfl, hT, hTq, hb⟩ := hcut
          clear y0 y1 y2 y3 y4 y5 y6 y7 y8 y10 y11 yb hRw hBw hRT hBT hstA
          have hwc := Hwr.out.below hb
          have hbc := bnext Hb.out hb
          have hownc := ownsRow_below Hown.out hb
          obtain ⟨_, _, _, _, _, _, _, _, y8, y10, y11⟩ := hwc.eleven Hr.out Hn.out Hj.out Hx.out
          obtain ⟨k0, k1, k2, k3, k4, k5, k6, k7, rfl⟩ := eight Hql.out
          obtain ⟨e0, e1, e2, e3, e4, e5, e6, e7⟩ := eight_cells' rfl hTq
          obtain ⟨ic, hice⟩ : ∃ ic, ic = icells (⟨1, j, j + 1, nx, [k0, k1, k2, k3, k4, k5, k6, k7]⟩ : DItem) := ⟨_, rfl⟩
          have hic : ic.size = 12 := by rw [hice]; exact icells_size _ Hql.out
          have hone : ∀ u ∈ ic.toList, u.oneCell' = true := fun u hu => by rw [hice, ← encI_eq _ Hql.out] at hu; exact encI_one _ u hu
          have hlen : (TL ++ headsTo s j).length ≤ 1000 := by have := headsTo_len s j; rw [List.length_append]; omega
          obtain ⟨W4, hW4⟩ : ∃ W4, W4 = (wc.alloc (.cells ic 88)).drew := ⟨_, rfl⟩
          have hnew : ∀ (i : Nat) (u : Value), ic.toList[i]? = some u → W4.cell? ((⟨wc.heap.size, 0, none⟩ : Addr).add i) = some u := by rw [hW4]; exact cell_new_row wc ic _
          have hbW4 : Below wc.heap.size wc W4 := by rw [hW4]; exact (balloc (Below.refl _ _) _).drew
          have hW4e : W4 = (wc.alloc (.cells #[.int .i64 1, .int .i64 j, .int .i64 ((j : Int) + 1), .int .i64 nx, .int .u8 k0.toNat, .int .u8 k1.toNat, .int .u8 k2.toNat, .int .u8 k3.toNat, .int .u8 k4.toNat, .int .u8 k5.toNat, .int .u8 k6.toNat, .int .u8 k7.toNat] 88)).drew := by rw [hW4, hice]; rfl
          have Hice := Lib.hid hice
          have HW4 := Lib.hid hW4e
          have HbW4 := Lib.hid hbW4
          have Hnew := Lib.hid hnew
          have Hone := Lib.hid hone
          have Hbc := Lib.hid hbc
          have Hownc := Lib.hid hownc
          have Hic := Lib.hid hic
          have Hlen := Lib.hid hlen
          have hicl : ic.toList.length = 1 * 12 := by rw [Array.length_toList, hic]
          have hle : (TL ++ headsTo s j).length + 1 ≤ maxLen ∧ ((TL ++ headsTo s j).length + 1) * 40 ≤ 140737488355328 ∧ w.heap.size ≤ W4.heap.size := ⟨by unfold maxLen; omega, by omega, Nat.le_trans hbc.size hbW4.size⟩
          have Hicl := Lib.hid hicl
          have Hle := Lib.hid hle
          have HTq := Lib.hid hTq
          clear hwc hbc hownc hb hTq hic hlen hice hW4 hW4e hbW4 hnew hone hqs hicl hle
          have hRc : R < wc.heap.size := block_lt_of_cell y10
          have hBc : B < wc.heap.size := block_lt_of_cell y11
          have hTc : T < wc.heap.size := block_lt_of_cell e0
          have hS5 : ∀ w' : World, W4.grownBy w' u3.ownBlock → w'.cell? ⟨R, 10, none⟩ = some (.slice (some ⟨B, 0, none⟩) n n) ∧ w'.cell? ⟨B, j * 3 + 1, none⟩ = some (.int .i64 nx) ∧ w'.cell? ⟨T, 0, none⟩ = some (.int .u8 k0.toNat) ∧ w'.cell? ⟨T, 1, none⟩ = some (.int .u8 k1.toNat) ∧ w'.cell? ⟨T, 2, none⟩ = some (.int .u8 k2.toNat) ∧ w'.cell? ⟨T, 3, none⟩ = some (.int .u8 k3.toNat) ∧ w'.cell? ⟨T, 4, none⟩ = some (.int .u8 k4.toNat) ∧ w'.cell? ⟨T, 5, none⟩ = some (.int .u8 k5.toNat) ∧ w'.cell? ⟨T, 6, none⟩ = some (.int .u8 k6.toNat) ∧ w'.cell? ⟨T, 7, none⟩ = some (.int .u8 k7.toNat) := fun w' hg => by
            have hfar : ∀ (b o : Nat) (v : Value), b < wc.heap.size → some b ≠ u3.ownBlock → wc.cell? ⟨b, o, none⟩ = some v → w'.cell? ⟨b, o, none⟩ = some v := fun b o v hb hne hv => by
              rw [hg.cell_far ⟨b, o, none⟩ (by have := HbW4.out.size; show b < _; omega) hne, World.cell?_of_block (a := ⟨b, o, none⟩) (HbW4.out.block b hb)]
              exact hv
            have hnR : some R ≠ u3.ownBlock := fun e => by have := (Hown.out.lt R e.symm).1; have := Hlow.out; omega
            have hnB : some B ≠ u3.ownBlock := fun e => by have := (Hown.out.lt B e.symm).1; have := Hlow.out; omega
            have hnT : some T ≠ u3.ownBlock := fun e => by
              obtain ⟨cs, hc⟩ := row_cells Hownc.out e.symm
              have h2 := HTq.out
              rw [h2] at hc; injection hc with hc; injection hc with _ hc; exact absurd hc (by decide)
            exact ⟨hfar R 10 _ hRc hnR y10, hfar B _ _ hBc hnB y11, hfar T 0 _ hTc hnT e0, hfar T 1 _ hTc hnT e1, hfar T 2 _ hTc hnT e2, hfar T 3 _ hTc hnT e3, hfar T 4 _ hTc hnT e4, hfar T 5 _ hTc hnT e5, hfar T 6 _ hTc hnT e6, hfar T 7 _ hTc hnT e7⟩
          have HS5 := Lib.hid hS5
          clear hS5
          go_upto_region 9 with (fail)
          have hwr : IntKind.i64.wrap ((j : Int) + 1) = (j : Int) + 1 := IntWalk.i64_in _ (by omega)
          go_region_held3 (fun w' => w'.cell? ⟨R, 10, none⟩ = some (.slice (some ⟨B, 0, none⟩) n n) ∧ w'.cell? ⟨B, j * 3 + 1, none⟩ = some (.int .i64 nx) ∧ w'.cell? ⟨T, 0, none⟩ = some (.int .u8 k0.toNat) ∧ w'.cell? ⟨T, 1, none⟩ = some (.int .u8 k1.toNat) ∧ w'.cell? ⟨T, 2, none⟩ = some (.int .u8 k2.toNat) ∧ w'.cell? ⟨T, 3, none⟩ = some (.int .u8 k3.toNat) ∧ w'.cell? ⟨T, 4, none⟩ = some (.int .u8 k4.toNat) ∧ w'.cell? ⟨T, 5, none⟩ = some (.int .u8 k5.toNat) ∧ w'.cell? ⟨T, 6, none⟩ = some (.int .u8 k6.toNat) ∧ w'.cell? ⟨T, 7, none⟩ = some (.int .u8 k7.toNat)) (first | exact HS5.out _ hg5 | (refine ⟨?_, ?_, ?_, ?_, ?_, ?_, ?_, ?_, ?_, ?_⟩ <;> (first | with_reducible assumption | (simp only [World.cell?_drew]; with_reducible assumption) | ((try simp only [World.cell?_drew]); rw [World.cell?_alloc_past _ _ _ hRc]; assumption) | ((try simp only [World.cell?_drew]); rw [World.cell?_alloc_past _ _ _ hBc]; assumption) | ((try simp only [World.cell?_drew]); rw [World.cell?_alloc_past _ _ _ hTc]; assumption)))) (first | (rw [← HW4.out]; refine step_append_at _ (by rfl) (.tmp 65) (.tmp 79) 84 (by rfl) w.heap.size 88 i0 _ 12 40 Tryz.underlying84 hi.out hz0.out hz1.out hz2.out rfl (by decide) u3 (TL ++ headsTo s j).length (itemsV (TL ++ headsTo s j)) (by rfl) (ownsRow_below Hownc.out HbW4.out) ⟨wc.heap.size, 0, none⟩ 1 1 ic.toList (by rfl) Hicl.out Hnew.out Hone.out Hle.out.1 Hle.out.2.1 Hle.out.2.2 ?_; intro v' W5 hown5 hg5))
          clear hwr
          go_wp2
          go_roundw
          case rel =>
            have hh : headI s j = ⟨1, j, j + 1, nx, [k0, k1, k2, k3, k4, k5, k6, k7]⟩ := by
              rw [headI, ← Hx.out, ratS, if_pos (by omega), ← Hq.out]
            refine ⟨j + 1, by omega, by go_num, ?_, (bnext Hbc.out HbW4.out).grown hg5 (Nat.le_trans Hbc.out.size HbW4.out.size) (fun k e => (Hownc.out.lt k e).1)⟩
            rw [headsTo_yes Hbj.out, ← List.append_assoc, itemsV_append, List.length_append, hh, show itemsV [(⟨1, j, j + 1, nx, [k0, k1, k2, k3, k4, k5, k6, k7]⟩ : DItem)] = ic.toList by rw [Hice.out, ← encI_eq _ Hql.out]; simp [itemsV]]
            exact hown5
          case measure => simp only [intOf]; omega
      · have hbf : headB s j = false := by simpa using hbj
        have hno : headsTo s (j + 1) = headsTo s j := headsTo_no hbf
        have Hno := Lib.hid hno
        cases bg with
        | false =>
          clear hbj hbf hno
          go_upto_region 7 with (fail)
          go_wp2
          go_roundw
          case rel => exact ⟨j + 1, by omega, by go_num, by rw [Hno.out]; exact Hown.out, Hb.out⟩
          case measure => simp only [intOf]; omega
        | true =>
          have h65 : ¬ (nx : Int) ≤ 65535 := by
            intro h
            refine hbj (headB_iff.2 ⟨Hbg.out.symm, ?_⟩)
            rw [← Hx.out]; omega
          clear hbj hbf hno
          go_upto_region 7 with (fail)
          go_wp2
          go_roundw
          case rel => exact ⟨j + 1, by omega, by go_num, by rw [Hno.out]; exact Hown.out, Hb.out⟩
          case measure => simp only [intOf]; omega
    · obtain rfl : n = j := by omega
      have hnI : ¬ (n : Int) < (n : Nat) := by omega
      obtain ⟨_, y8, _, _, _, _, _⟩ := Hwr.out.fields
      rw [← Hn.out] at y8
      clear hjn hj
      obtain ⟨HL, hHL⟩ : ∃ HL, HL = TL ++ headsTo s n := ⟨_, rfl⟩
      rw [← hHL] at Hown
      have hHl : HL.length ≤ 32 := by have := headsTo_len s n; rw [hHL, List.length_append]; omega
      have HHL := Lib.hid hHL
      clear hHL
      go_upto_region 11 with (fail)
      go_loopw [3, 6, 7, 8, 9] (fun lv iv _ _ _ wq => ∃ j : Nat, j ≤ n ∧ iv = .int .i64 j ∧ wq.ownsRow w.heap.size 88 12 lv (HL ++ keptsTo s j).length (itemsV (HL ++ keptsTo s j)) ∧ Below w.heap.size w wq) (fun _ iv _ _ _ _ => n - (intOf iv).toNat)
      case atStart => exact ⟨0, Nat.zero_le _, rfl, by simpa [keptsTo] using Hown.out, Hb.out⟩
      case round =>
        clear Hown Hwr Hb
        obtain ⟨j, hjn, rfl, hown, hb⟩ := hrel
        have Hown := Lib.hid hown
        have Hb := Lib.hid hb
        have Hwr := Lib.hid (Hh.out.below hb)
        clear hown hb
        obtain ⟨_, q8, _, q10, _, _, _⟩ := Hwr.out.fields
        rw [← Hn.out] at q8 q10
        by_cases hj : j < n
        · have hj' : j < s.n := by rw [← Hn.out]; exact hj
          have hjI : (j : Int) < (n : Nat) := by omega
          have hj0 : (0 : Int) ≤ (j : Nat) := by omega
          obtain ⟨nn, hnn⟩ : ∃ nn, nn = (s.M j).over.length := ⟨_, rfl⟩
          have hn4 : nn ≤ 4 := by rw [hnn]; exact HI.out.four j
          have hkl : (keptsTo s j).length ≤ 64 := by have := keptsTo_len HI.out j; omega
          have Hnn := Lib.hid hnn
          have Hj := Lib.hid hj'
          clear hnn hj'
          go_upto_region 14 with (fail)
          clear q8 q10
          go_loopw [3, 7, 8, 9] (fun lv kv _ _ wq => ∃ k : Nat, k ≤ nn ∧ kv = .int .i64 k ∧ wq.ownsRow w.heap.size 88 12 lv (HL ++ keptsTo s j ++ ((s.M j).over.take k).map (keptI s j)).length (itemsV (HL ++ keptsTo s j ++ ((s.M j).over.take k).map (keptI s j))) ∧ Below w.heap.size w wq) (fun _ kv _ _ _ => nn - (intOf kv).toNat)
          case atStart => exact ⟨0, Nat.zero_le _, rfl, by simpa using Hown.out, Hb.out⟩
          case round =>
            clear Hown Hwr Hb
            obtain ⟨k, hkn, rfl, hown, hb⟩ := hrel
            have Hown := Lib.hid hown
            have Hb := Lib.hid hb
            have Hwr := Lib.hid (Hh.out.below hb)
            clear hown hb
            obtain ⟨_, _, ⟨ov, m2, hov⟩, _⟩ := Hwr.out.member j Hj.out
            obtain ⟨_, q8, _, q10, _, _, _⟩ := Hwr.out.fields
            rw [← Hn.out] at q8 q10
            obtain ⟨ao, c, rfl, hc, hnone, hnews⟩ := overAt_form hov
            rw [← Hnn.out] at m2 hc hnone
            by_cases hk : k < nn
            · obtain ⟨ad, rfl⟩ : ∃ ad, ao = some ad := by
                cases ao with
                | none => have := (hnone rfl).1; omega
                | some ad => exact ⟨ad, rfl⟩
              obtain ⟨⟨b, o, rfl⟩, hcs⟩ := hnews _ rfl
              obtain ⟨g, hg⟩ : ∃ g, g = (s.M j).over.getD k 0 := ⟨_, rfl⟩
              have hkl' : k < (s.M j).over.length := by rw [← Hnn.out]; exact hk
              have mg := hcs k _ (natV_get _ k hkl')
              rw [Addr.add_lit, ← hg] at mg
              have hgm : g ∈ (s.M j).over := by rw [hg, List.getD_eq_getElem?_getD, List.getElem?_eq_getElem hkl']; exact List.getElem_mem _
              have hg5 : g ≤ 65535 := by have := HI.out.over j g hgm; have := HI.out.next j; omega
              have htk : ((s.M j).over.take (k + 1)).map (keptI s j) = ((s.M j).over.take k).map (keptI s j) ++ [keptI s j g] := by
                rw [List.take_succ_eq_append_getElem hkl', List.map_append, hg, List.getD_eq_getElem?_getD, List.getElem?_eq_getElem hkl']; rfl
              have hkI : (k : Int) < (nn : Nat) := by omega
              have hk0 : (0 : Int) ≤ (k : Nat) := by omega
              obtain ⟨z0, z1, z2, z3, z4, z5, z6, z7, z8⟩ := Hwr.out.root_cells Hr.out Hn.out
              obtain ⟨q, hq⟩ : ∃ q, q = keyL (leafL s.root s.n j) g := ⟨_, rfl⟩
              have hql : q.length = 8 := by rw [hq]; exact kd_length _ _ _
              have hkey := fun W => refKey_yes W s.root s.n j g HI.out.root Hj.out HI.out.n16 hg5
              rw [← hq, ← Hn.out, Hr.out] at hkey
              have hstA := fun w => run_storeCells_fresh (P := Tryz.prog) q hql w 36
              have hqs : (cells q).size = 8 := by rw [cells_size, hql]
              have hRw : R < wr.heap.size := block_lt_of_cell z0
              have hBw : B < wr.heap.size := block_lt_of_cell m2
              have hbw : b < wr.heap.size := block_lt_of_cell mg
              have hRT : R ≠ wr.heap.size := by omega
              have hBT : B ≠ wr.heap.size := by omega
              have hbT : b ≠ wr.heap.size := by omega
              have hS : ∀ w' : World, Below wr.heap.size wr w' → w'.cell? ⟨R, 0, none⟩ = some (.int .u8 a0.toNat) ∧ w'.cell? ⟨R, 1, none⟩ = some (.int .u8 a1.toNat) ∧ w'.cell? ⟨R, 2, none⟩ = some (.int .u8 a2.toNat) ∧ w'.cell? ⟨R, 3, none⟩ = some (.int .u8 a3.toNat) ∧ w'.cell? ⟨R, 4, none⟩ = some (.int .u8 a4.toNat) ∧ w'.cell? ⟨R, 5, none⟩ = some (.int .u8 a5.toNat) ∧ w'.cell? ⟨R, 6, none⟩ = some (.int .u8 a6.toNat) ∧ w'.cell? ⟨R, 7, none⟩ = some (.int .u8 a7.toNat) ∧ w'.cell? ⟨R, 8, none⟩ = some (.int .i64 n) ∧ w'.cell? ⟨R, 10, none⟩ = some (.slice (some ⟨B, 0, none⟩) n n) ∧ w'.cell? ⟨B, j * 3 + 2, none⟩ = some (.slice (some ⟨b, o, none⟩) nn c) ∧ w'.cell? ⟨b, o + k, none⟩ = some (.int .i64 g) := fun w' hb =>
                ⟨(hb.cell hRw).trans z0, (hb.cell hRw).trans z1, (hb.cell hRw).trans z2, (hb.cell hRw).trans z3, (hb.cell hRw).trans z4, (hb.cell hRw).trans z5, (hb.cell hRw).trans z6, (hb.cell hRw).trans z7, (hb.cell hRw).trans z8, (hb.cell hRw).trans q10, (hb.cell hBw).trans m2, (hb.cell hbw).trans mg⟩
              have HS := Lib.hid hS
              have Hkey := Lib.hid hkey
              have Hq := Lib.hid hq
              have Hql := Lib.hid hql
              have Htk := Lib.hid htk
              have Hhc := Lib.hid hc
              clear hS hkey hq hql htk hc hnone hnews hcs hov hkl' hgm hg q8
              go_upto_region 16 with (fail)
              go_cut [8, 9] from 89 to 144 (fun s8 _ wx => ∃ T, s8 = .pointer (some ⟨T, 0, none⟩) ∧ wr.heap.size ≤ T ∧ wx.heap[T]? = some (.cells (cells q) 36 (0, 0)) ∧ Below wr.heap.size wr wx)
              case first =>
                go_region_held3 (fun w' => w'.cell? ⟨R, 0, none⟩ = some (.int .u8 a0.toNat) ∧ w'.cell? ⟨R, 1, none⟩ = some (.int .u8 a1.toNat) ∧ w'.cell? ⟨R, 2, none⟩ = some (.int .u8 a2.toNat) ∧ w'.cell? ⟨R, 3, none⟩ = some (.int .u8 a3.toNat) ∧ w'.cell? ⟨R, 4, none⟩ = some (.int .u8 a4.toNat) ∧ w'.cell? ⟨R, 5, none⟩ = some (.int .u8 a5.toNat) ∧ w'.cell? ⟨R, 6, none⟩ = some (.int .u8 a6.toNat) ∧ w'.cell? ⟨R, 7, none⟩ = some (.int .u8 a7.toNat) ∧ w'.cell? ⟨R, 8, none⟩ = some (.int .i64 n) ∧ w'.cell? ⟨R, 10, none⟩ = some (.slice (some ⟨B, 0, none⟩) n n) ∧ w'.cell? ⟨B, j * 3 + 2, none⟩ = some (.slice (some ⟨b, o, none⟩) nn c) ∧ w'.cell? ⟨b, o + k, none⟩ = some (.int .i64 g)) (refine ⟨?_, ?_, ?_, ?_, ?_, ?_, ?_, ?_, ?_, ?_, ?_, ?_⟩ <;> (first | with_reducible assumption | (simp only [World.cell?_drew]; with_reducible assumption) | ((try simp only [World.cell?_drew]); rw [World.cell?_alloc_past _ _ _ hR2]; assumption) | ((try simp only [World.cell?_drew]); rw [World.cell?_alloc_past _ _ _ hB2]; assumption) | ((try simp only [World.cell?_drew]); rw [World.cell?_alloc_past _ _ _ hb2']; assumption) | ((try simp only [World.cell?_drew]); rw [World.cell?_alloc_past _ _ _ hRw]; assumption) | ((try simp only [World.cell?_drew]); rw [World.cell?_alloc_past _ _ _ hBw]; assumption) | ((try simp only [World.cell?_drew]); rw [World.cell?_alloc_past _ _ _ hbw]; assumption) | ((try simp only [World.cell?_drew]); rw [World.cell?_of_block (setRow_other _ _ _ _ hRT)]; assumption) | ((try simp only [World.cell?_drew]); rw [World.cell?_of_block (setRow_other _ _ _ _ hBT)]; assumption) | ((try simp only [World.cell?_drew]); rw [World.cell?_of_block (setRow_other _ _ _ _ hbT)]; assumption))) (first | (go_at_call 36; refine (Hkey.out _).mono ?_; rintro e w2 ⟨rfl, hb2⟩; obtain ⟨z0, z1, z2, z3, z4, z5, z6, z7, z8, q10, m2, mg⟩ := HS.out w2 (by first | exact bnext (Below.refl _ _).drew hb2 | exact bnext (balloc (Below.refl _ _) _).drew hb2); have hR2 := block_lt_of_cell z0; have hB2 := block_lt_of_cell m2; have hb2' := block_lt_of_cell mg; (first | (have zr := (hb2.block wr.heap.size (by simp)).trans (heap_alloc_new wr _); have hstB := run_storeCells_row (P := Tryz.prog) zr q (by rw [Hql.out]; rfl); have Zr := Lib.hid zr; clear zr) | skip)))
                · go_wp2_with fail
                  go_meet
                  exact ⟨w2.heap.size, rfl, hb2.size, heap_alloc_new _ _, balloc (bnext (Below.refl _ _).drew hb2) _⟩
                · go_wp2_with fail
                  go_meet
                  exact ⟨wr.heap.size, rfl, Nat.le_refl _, setRow_heap _ _ _ _ _ _ Zr.out, below_setRow (bnext (balloc (Below.refl _ _) _).drew hb2) (Nat.le_refl _) _⟩
              case rest =>
                obtain ⟨T, rfl, hT, hTq, hb⟩ := hcut
                clear z0 z1 z2 z3 z4 z5 z6 z7 z8 hRw hBw hbw hRT hBT hbT hstA q10 m2 mg
                have hbc := bnext Hb.out hb
                have hownc := ownsRow_below Hown.out hb
                obtain ⟨_, _, _, _, _, _, _, _, _, q10, m2, mg⟩ := HS.out wc hb
                obtain ⟨k0, k1, k2, k3, k4, k5, k6, k7, rfl⟩ := eight Hql.out
                obtain ⟨e0, e1, e2, e3, e4, e5, e6, e7⟩ := eight_cells' rfl hTq
                obtain ⟨LL, hLL⟩ : ∃ LL, LL = HL ++ keptsTo s j ++ ((s.M j).over.take k).map (keptI s j) := ⟨_, rfl⟩
                obtain ⟨ic, hice⟩ : ∃ ic, ic = icells (⟨2, j, j + 1, g, [k0, k1, k2, k3, k4, k5, k6, k7]⟩ : DItem) := ⟨_, rfl⟩
                have hic : ic.size = 12 := by rw [hice]; exact icells_size _ Hql.out
                have hone : ∀ u ∈ ic.toList, u.oneCell' = true := fun u hu => by rw [hice, ← encI_eq _ Hql.out] at hu; exact encI_one _ u hu
                have hlen : LL.length ≤ 1000 := by rw [hLL, List.length_append, List.length_append, List.length_map, List.length_take]; omega
                rw [← hLL] at hownc
                obtain ⟨W4, hW4⟩ : ∃ W4, W4 = (wc.alloc (.cells ic 88)).drew := ⟨_, rfl⟩
                have hnew : ∀ (i : Nat) (u : Value), ic.toList[i]? = some u → W4.cell? ((⟨wc.heap.size, 0, none⟩ : Addr).add i) = some u := by rw [hW4]; exact cell_new_row wc ic _
                have hbW4 : Below wc.heap.size wc W4 := by rw [hW4]; exact (balloc (Below.refl _ _) _).drew
                have hW4e : W4 = (wc.alloc (.cells #[.int .i64 2, .int .i64 j, .int .i64 ((j : Int) + 1), .int .i64 g, .int .u8 k0.toNat, .int .u8 k1.toNat, .int .u8 k2.toNat, .int .u8 k3.toNat, .int .u8 k4.toNat, .int .u8 k5.toNat, .int .u8 k6.toNat, .int .u8 k7.toNat] 88)).drew := by rw [hW4, hice]; rfl
                have hicl : ic.toList.length = 1 * 12 := by rw [Array.length_toList, hic]
                have hle : LL.length + 1 ≤ maxLen ∧ (LL.length + 1) * 40 ≤ 140737488355328 ∧ w.heap.size ≤ W4.heap.size := ⟨by unfold maxLen; omega, by omega, Nat.le_trans hbc.size hbW4.size⟩
                have hRc : R < wc.heap.size := block_lt_of_cell q10
                have hBc : B < wc.heap.size := block_lt_of_cell m2
                have hbc' : b < wc.heap.size := block_lt_of_cell mg
                have hTc : T < wc.heap.size := block_lt_of_cell e0
                have hbint : ∃ cs, wc.heap[b]? = some (.cells cs 3 (0, 0)) := by
                  obtain ⟨_, _, ⟨ov2, m22, hov2⟩, _⟩ := ((Hwr.out.below hb)).member j Hj.out
                  rw [m2] at m22
                  obtain rfl := (Option.some.inj m22).symm
                  rcases hov2 with ⟨e, _⟩ | ⟨b', o', cap', e, _, _, _, hcs, _⟩
                  · cases e
                  · cases e; exact hcs
                have hS5 : ∀ w' : World, W4.grownBy w' u3.ownBlock → w'.cell? ⟨R, 10, none⟩ = some (.slice (some ⟨B, 0, none⟩) n n) ∧ w'.cell? ⟨B, j * 3 + 2, none⟩ = some (.slice (some ⟨b, o, none⟩) nn c) ∧ w'.cell? ⟨b, o + k, none⟩ = some (.int .i64 g) ∧ w'.cell? ⟨T, 0, none⟩ = some (.int .u8 k0.toNat) ∧ w'.cell? ⟨T, 1, none⟩ = some (.int .u8 k1.toNat) ∧ w'.cell? ⟨T, 2, none⟩ = some (.int .u8 k2.toNat) ∧ w'.cell? ⟨T, 3, none⟩ = some (.int .u8 k3.toNat) ∧ w'.cell? ⟨T, 4, none⟩ = some (.int .u8 k4.toNat) ∧ w'.cell? ⟨T, 5, none⟩ = some (.int .u8 k5.toNat) ∧ w'.cell? ⟨T, 6, none⟩ = some (.int .u8 k6.toNat) ∧ w'.cell? ⟨T, 7, none⟩ = some (.int .u8 k7.toNat) := fun w' hg => by
                  have hfar : ∀ (b o : Nat) (v : Value), b < wc.heap.size → some b ≠ u3.ownBlock → wc.cell? ⟨b, o, none⟩ = some v → w'.cell? ⟨b, o, none⟩ = some v := fun b o v hb hne hv => by
                    rw [hg.cell_far ⟨b, o, none⟩ (by have := hbW4.size; show b < _; omega) hne, World.cell?_of_block (a := ⟨b, o, none⟩) (hbW4.block b hb)]
                    exact hv
                  have hnR : some R ≠ u3.ownBlock := fun e => by have := (hownc.lt R e.symm).1; have := Hlow.out; omega
                  have hnB : some B ≠ u3.ownBlock := fun e => by have := (hownc.lt B e.symm).1; have := Hlow.out; omega
                  have hnT : some T ≠ u3.ownBlock := fun e => by
                    obtain ⟨cs, hc⟩ := row_cells hownc e.symm
                    rw [hTq] at hc; injection hc with hc; injection hc with _ hc; exact absurd hc (by decide)
                  have hnb : some b ≠ u3.ownBlock := fun e => by
                    obtain ⟨cs, hc⟩ := row_cells hownc e.symm
                    obtain ⟨cs2, hc2⟩ := hbint
                    rw [hc2] at hc; injection hc with hc; injection hc with _ hc; exact absurd hc (by decide)
                  exact ⟨hfar R 10 _ hRc hnR q10, hfar B _ _ hBc hnB m2, hfar b _ _ hbc' hnb mg, hfar T 0 _ hTc hnT e0, hfar T 1 _ hTc hnT e1, hfar T 2 _ hTc hnT e2, hfar T 3 _ hTc hnT e3, hfar T 4 _ hTc hnT e4, hfar T 5 _ hTc hnT e5, hfar T 6 _ hTc hnT e6, hfar T 7 _ hTc hnT e7⟩
                have Hice := Lib.hid hice
                have HW4 := Lib.hid hW4e
                have HbW4 := Lib.hid hbW4
                have Hnew := Lib.hid hnew
                have Hone := Lib.hid hone
                have Hbc := Lib.hid hbc
                have Hownc := Lib.hid hownc
                have HLL := Lib.hid hLL
                have Hicl := Lib.hid hicl
                have Hle := Lib.hid hle
                have HS5 := Lib.hid hS5
                clear hbc hownc hb hTq hic hlen hice hW4 hW4e hbW4 hnew hone hqs hicl hle hS5 hbint hLL
                go_upto_region 17 with (fail)
                have hwr : IntKind.i64.wrap ((j : Int) + 1) = (j : Int) + 1 := IntWalk.i64_in _ (by omega)
                go_region_held3 (fun w' => w'.cell? ⟨R, 10, none⟩ = some (.slice (some ⟨B, 0, none⟩) n n) ∧ w'.cell? ⟨B, j * 3 + 2, none⟩ = some (.slice (some ⟨b, o, none⟩) nn c) ∧ w'.cell? ⟨b, o + k, none⟩ = some (.int .i64 g) ∧ w'.cell? ⟨T, 0, none⟩ = some (.int .u8 k0.toNat) ∧ w'.cell? ⟨T, 1, none⟩ = some (.int .u8 k1.toNat) ∧ w'.cell? ⟨T, 2, none⟩ = some (.int .u8 k2.toNat) ∧ w'.cell? ⟨T, 3, none⟩ = some (.int .u8 k3.toNat) ∧ w'.cell? ⟨T, 4, none⟩ = some (.int .u8 k4.toNat) ∧ w'.cell? ⟨T, 5, none⟩ = some (.int .u8 k5.toNat) ∧ w'.cell? ⟨T, 6, none⟩ = some (.int .u8 k6.toNat) ∧ w'.cell? ⟨T, 7, none⟩ = some (.int .u8 k7.toNat)) (first | exact HS5.out _ hg5 | (refine ⟨?_, ?_, ?_, ?_, ?_, ?_, ?_, ?_, ?_, ?_, ?_⟩ <;> (first | with_reducible assumption | (simp only [World.cell?_drew]; with_reducible assumption) | ((try simp only [World.cell?_drew]); rw [World.cell?_alloc_past _ _ _ hRc]; assumption) | ((try simp only [World.cell?_drew]); rw [World.cell?_alloc_past _ _ _ hBc]; assumption) | ((try simp only [World.cell?_drew]); rw [World.cell?_alloc_past _ _ _ hbc']; assumption) | ((try simp only [World.cell?_drew]); rw [World.cell?_alloc_past _ _ _ hTc]; assumption)))) (first | (rw [← HW4.out]; refine step_append_at _ (by rfl) (.tmp 126) (.tmp 143) 84 (by rfl) w.heap.size 88 i0 _ 12 40 Tryz.underlying84 hi.out hz0.out hz1.out hz2.out rfl (by decide) u3 LL.length (itemsV LL) (by rfl) (ownsRow_below Hownc.out HbW4.out) ⟨wc.heap.size, 0, none⟩ 1 1 ic.toList (by rfl) Hicl.out Hnew.out Hone.out Hle.out.1 Hle.out.2.1 Hle.out.2.2 ?_; intro v' W5 hown5 hg5))
                clear hwr
                go_wp2
                go_roundw
                case rel =>
                  have hh : keptI s j g = ⟨2, j, j + 1, g, [k0, k1, k2, k3, k4, k5, k6, k7]⟩ := by rw [keptI, ← Hq.out]
                  refine ⟨k + 1, by omega, by go_num, ?_, (bnext Hbc.out HbW4.out).grown hg5 (Nat.le_trans Hbc.out.size HbW4.out.size) (fun x e => (Hownc.out.lt x e).1)⟩
                  rw [Htk.out, ← List.append_assoc, ← HLL.out, itemsV_append, List.length_append, hh, show itemsV [(⟨2, j, j + 1, g, [k0, k1, k2, k3, k4, k5, k6, k7]⟩ : DItem)] = ic.toList by rw [Hice.out, ← encI_eq _ Hql.out]; simp [itemsV]]
                  exact hown5
                case measure => simp only [intOf]; omega
            · obtain rfl : nn = k := by omega
              have hfull : (s.M j).over.take nn = (s.M j).over := List.take_of_length_le (by rw [← Hnn.out]; exact Nat.le_refl _)
              have Hfull := Lib.hid hfull
              have hkI : ¬ (nn : Int) < (nn : Nat) := by omega
              clear hfull hnone hnews hov hc
              go_wp2
              go_roundw
              case rel => exact ⟨j + 1, by omega, by go_num, by have h := Hown.out; rw [Hfull.out, List.append_assoc, ← keptsTo_succ] at h; exact h, Hb.out⟩
              case measure => simp only [intOf]; omega
        · obtain rfl : n = j := by omega
          have hnI : ¬ (n : Int) < (n : Nat) := by omega
          clear hjn hj
          go_wp2
          go_ret
          have hD : dumpL s = HL ++ keptsTo s n := by rw [dumpL, HHL.out, HTL.out, List.append_assoc, Hn.out]; rfl
          rw [hD]
          exact ⟨_, rfl, Hown.out, Hb.out⟩
end Go.Proofs.YtccidllcjaaeeabGreatDoor
