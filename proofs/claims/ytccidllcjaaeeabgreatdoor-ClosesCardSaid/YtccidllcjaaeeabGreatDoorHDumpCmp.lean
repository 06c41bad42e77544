/- The comparison of two items that are kept: cmp.Compare, cmp.Or, Dump's closure. No condition but the secrets' length. -/
import Derived.Test.YtccidllcjaaeeabGreatDoorH5
import Derived.Sort.Grow
namespace Go.Proofs.YtccidllcjaaeeabGreatDoor
set_option maxRecDepth 100000
open Go Go.Maps Go.RowKit
open Go.Shelf Go.Lib Go.Sort Go.MuLone
/-- Something that is kept. -/
structure DItem where
  kind : Nat
  a : Nat
  b : Nat
  g : Nat
  s : List UInt8
def icells (d : DItem) : Array Value := #[.int .i64 d.kind, .int .i64 d.a, .int .i64 d.b, .int .i64 d.g] ++ cells d.s
theorem icells_size (d : DItem) (h : d.s.length = 8) : (icells d).size = 12 := by rw [icells, Array.size_append, cells_size, h]; rfl
def cmpI (x y : Int) : Int := if x < y then -1 else if y < x then 1 else 0
theorem cmpKind_any (x y : Int) (w : World) : Calls Tryz.prog 32 #[.int .i64 x, .int .i64 y] w fun e w' => e = .returned (.int .i64 (cmpI x y)) ∧ w' = w := by
  unfold cmpI
  by_cases h1 : x < y
  · go_enter Tryz.func32, Tryz.ntmps32
    go_wp2
    go_ret
    exact ⟨rfl, rfl⟩
  · by_cases h2 : y < x
    · go_enter Tryz.func32, Tryz.ntmps32
      go_wp2
      go_ret
      exact ⟨rfl, rfl⟩
    · go_enter Tryz.func32, Tryz.ntmps32
      go_wp2
      go_ret
      exact ⟨rfl, rfl⟩
theorem cmpInt_any (x y : Int) (w : World) : Calls Tryz.prog 33 #[.int .i64 x, .int .i64 y] w fun e w' => e = .returned (.int .i64 (cmpI x y)) ∧ w' = w := by
  unfold cmpI
  by_cases h1 : x < y
  · go_enter Tryz.func33, Tryz.ntmps33
    go_wp2
    go_ret
    exact ⟨rfl, rfl⟩
  · by_cases h2 : y < x
    · go_enter Tryz.func33, Tryz.ntmps33
      go_wp2
      go_ret
      exact ⟨rfl, rfl⟩
    · go_enter Tryz.func33, Tryz.ntmps33
      go_wp2
      go_ret
      exact ⟨rfl, rfl⟩
def or3 (a b c : Int) : Int := if a ≠ 0 then a else if b ≠ 0 then b else c
theorem or_any (W : World) (B : Nat) (a b c : Int) (h0 : W.cell? ⟨B, 0, none⟩ = some (.int .i64 a)) (h1 : W.cell? ⟨B, 1, none⟩ = some (.int .i64 b)) (h2 : W.cell? ⟨B, 2, none⟩ = some (.int .i64 c)) :
    Calls Tryz.prog 31 #[.slice (some ⟨B, 0, none⟩) 3 3] W fun e w' => e = .returned (.int .i64 (or3 a b c)) ∧ w' = W := by
  by_cases ha : a = 0
  · subst ha
    by_cases hb : b = 0
    · subst hb
      by_cases hc : c = 0
      · subst hc
        go_enter Tryz.func31, Tryz.ntmps31
        go_upto_region 3 with (fail)
        refine wp_loop_rounds 4 ?_
        rw [rounds_succ]
        go_wp2
        rw [rounds_succ]
        go_wp2
        rw [rounds_succ]
        go_wp2
        rw [rounds_succ]
        go_wp2
        go_ret
        exact ⟨rfl, rfl⟩
      · go_enter Tryz.func31, Tryz.ntmps31
        go_upto_region 3 with (fail)
        refine wp_loop_rounds 3 ?_
        rw [rounds_succ]
        go_wp2
        rw [rounds_succ]
        go_wp2
        rw [rounds_succ]
        go_wp2
        go_ret
        exact ⟨rfl, rfl⟩
    · go_enter Tryz.func31, Tryz.ntmps31
      go_upto_region 3 with (fail)
      refine wp_loop_rounds 2 ?_
      rw [rounds_succ]
      go_wp2
      rw [rounds_succ]
      go_wp2
      go_ret
      refine ⟨?_, rfl⟩
      simp [or3, hb]
  · go_enter Tryz.func31, Tryz.ntmps31
    go_upto_region 3 with (fail)
    refine wp_loop_rounds 1 ?_
    rw [rounds_succ]
    go_wp2
    go_ret
    refine ⟨?_, rfl⟩
    simp [or3, ha]
/-- The comparison of two items. -/
def cfI (d e : DItem) : Int := or3 (cmpI d.kind e.kind) (cmpI d.a e.a) (cmpI d.g e.g)
theorem item_cells {W : World} {B : Nat} {d : DItem} (h : W.heap[B]? = some (.cells (icells d) 88 (0, 0))) :
    W.cell? ⟨B, 0, none⟩ = some (.int .i64 d.kind) ∧ W.cell? ⟨B, 1, none⟩ = some (.int .i64 d.a) ∧ W.cell? ⟨B, 3, none⟩ = some (.int .i64 d.g) := by
  refine ⟨?_, ?_, ?_⟩ <;> (rw [cell_of_row _ _ _ _ _ _ h, icells, Array.getElem?_append_left (by simp)]; rfl)
theorem grown_three {W V : World} {a b : Obj} (h : V = Go.Sort.grow W #[a, b]) (c : Obj) : (V.alloc c).drew = Go.Sort.grow (W.drewN 1) #[a, b, c] := by
  subst h
  have e : ((W.heap ++ #[a, b]).push c) = W.heap ++ #[a, b, c] := by
    apply Array.ext'
    simp
  show ({ Go.Sort.grow W #[a, b] with heap := (W.heap ++ #[a, b]).push c } : World).drew = _
  rw [e]; rfl
set_option maxHeartbeats 2000000 in
theorem closure_any (W : World) (d e : DItem) :
    Calls Tryz.prog 30 #[.agg (icells d), .agg (icells e)] W fun x w' => x = .returned (.int .i64 (cfI d e)) ∧ ∃ q os', w' = Go.Sort.grow (W.drewN q) os' := by
  go_enter Tryz.func30, Tryz.ntmps30
  go_upto_region 1 with (fail)
  generalize hV : World.alloc (World.alloc W _) _ = V
  have hA : V.heap[W.heap.size]? = some (.cells (icells d) 88 (0, 0)) := by rw [← hV]; exact heap_alloc2_old W _ _
  have hB : V.heap[W.heap.size + 1]? = some (.cells (icells e) 88 (0, 0)) := by rw [← hV]; exact heap_alloc2_new W _ _
  obtain ⟨a0, a1, a3⟩ := item_cells hA
  obtain ⟨b0, b1, b3⟩ := item_cells hB
  have hVg : V = Go.Sort.grow W #[.cells (icells d) 88 (0, 0), .cells (icells e) 88 (0, 0)] := by rw [← hV]; rfl
  have HVg := Lib.hid hVg
  clear hV hA hB hVg
  go_region_held3 (fun w' => w'.cell? ⟨W.heap.size, 0, none⟩ = some (.int .i64 d.kind) ∧ w'.cell? ⟨W.heap.size, 1, none⟩ = some (.int .i64 d.a) ∧ w'.cell? ⟨W.heap.size, 3, none⟩ = some (.int .i64 d.g) ∧ w'.cell? ⟨W.heap.size + 1, 0, none⟩ = some (.int .i64 e.kind) ∧ w'.cell? ⟨W.heap.size + 1, 1, none⟩ = some (.int .i64 e.a) ∧ w'.cell? ⟨W.heap.size + 1, 3, none⟩ = some (.int .i64 e.g)) (first | (refine ⟨?_, ?_, ?_, ?_, ?_, ?_⟩ <;> (first | with_reducible assumption | (simp only [World.cell?_drew]; with_reducible assumption))) | go_keep) (first | (go_at_call 32; refine (cmpKind_any _ _ _).mono ?_; rintro x w1 ⟨rfl, rfl⟩) | (go_at_call 33; refine (cmpInt_any _ _ _).mono ?_; rintro x w1 ⟨rfl, rfl⟩) | (go_at_call 31; refine (or_any _ _ _ _ _ (cell_of_row _ _ _ _ _ _ (heap_alloc_new _ _)) (cell_of_row _ _ _ _ _ _ (heap_alloc_new _ _)) (cell_of_row _ _ _ _ _ _ (heap_alloc_new _ _))).mono ?_; rintro x w1 ⟨rfl, rfl⟩))
  go_wp2
  go_ret
  exact ⟨rfl, 1, _, grown_three HVg.out _⟩
end Go.Proofs.YtccidllcjaaeeabGreatDoor
