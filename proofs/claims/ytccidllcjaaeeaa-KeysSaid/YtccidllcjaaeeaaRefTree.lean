/- The walks of the reference's split, Part, Ratchet, fits, Leaf and Key: they compute what the plain law tells. Conditions: a group of at most 16 members, a part that there is, generations up to 4096. -/
import Derived.Test.YtccidllcjaaeeaaTreeFns
import Derived.Test.YtccidllcjaaeeaaDerives
namespace Go.Proofs.Ytccidllcjaaeeaa
open Go.RowKit
set_option maxHeartbeats 400000 in
theorem split_any (w : World) (n : Nat) (hn : n ≤ 16) :
    Calls Try.prog 41 #[.int .i64 n] w fun e w' => e = .returned (.int .i64 (splitN n)) ∧ w' = w := by
  go_enter Try.func41, Try.ntmps41
  go_wp2
  go_loop [3] (fun x => ∃ k : Nat, x = .int .i64 k ∧ (k = 1 ∨ k = 2 ∨ k = 4 ∨ k = 8) ∧ (k = 1 ∨ k < n)) (fun x => 16 - (intOf x).toNat)
  case atStart => exact ⟨1, rfl, .inl rfl, .inl rfl⟩
  case round =>
    obtain ⟨k, rfl, h1, h2⟩ := hrel
    by_cases hlt : k * 2 < n
    · go_wp2
      go_round
      case rel => exact ⟨2 * k, by go_num, by omega, by omega⟩
      case measure => simp [intOf]; omega
    · have hk := splitN_of n k h1 h2 (by omega)
      have Hk := Lib.hid hk
      clear hk
      go_wp2
      go_ret
      exact ⟨ret_int (by rw [← Hk.out]), rfl⟩

theorem lLeft_eq : (⟨#[108, 101, 102, 116]⟩ : ByteArray).data.toList = lLeft := rfl
theorem lRight_eq : (⟨#[114, 105, 103, 104, 116]⟩ : ByteArray).data.toList = lRight := rfl
theorem lRatchet_eq : (⟨#[114, 97, 116, 99, 104, 101, 116]⟩ : ByteArray).data.toList = lRatchet := rfl
theorem lNext_eq : (⟨#[110, 101, 120, 116]⟩ : ByteArray).data.toList = lNext := rfl
theorem lKey_eq : (⟨#[107, 101, 121]⟩ : ByteArray).data.toList = lKey := rfl

set_option maxHeartbeats 400000 in
theorem part_here (w : World) (s : List UInt8) (f t : Nat) (hs : s.length = 8) :
    Calls Try.prog 27 #[.agg (cells s), .int .i64 f, .int .i64 t, .int .i64 f, .int .i64 t] w fun e w' => e = .returned (.agg (cells s)) ∧ Below w.heap.size w w' := by
  have Hs := Lib.hid hs
  clear hs
  go_enter Try.func27, Try.ntmps27
  go_upto_region 1 with (fail)
  generalize hW : World.alloc (World.alloc _ _) _ = W
  have hS : W.heap[w.heap.size]? = some (.cells (cells s) 26 (0, 0)) := by rw [← hW]; exact heap_alloc2_old w _ _
  have hR : W.heap[w.heap.size + 1]? = some (.cells (cells [0, 0, 0, 0, 0, 0, 0, 0]) 26 (0, 0)) := by rw [← hW]; exact heap_alloc2_new w _ _
  have hWb : Below w.heap.size w W := by rw [← hW]; exact balloc (balloc (Below.refl _ _) _) _
  have HS := Lib.hid hS
  have HR := Lib.hid hR
  clear hS hR hW
  go_wp2_with (first | (refine wpList_load_row rfl 26 _ rfl w.heap.size rfl _ _ _ _ HS.out Try.underlying26 rfl (by rw [infoSecret, cells_size, Hs.out]) ?_) | (refine wpList_store_row rfl 26 _ _ rfl (w.heap.size + 1) _ rfl rfl _ _ HR.out (by rw [infoSecret, cells_size, Hs.out]) (by rw [cells_size, cells_size, Hs.out]; rfl) (cells_one _) ?_))
  refine bodyPost_ret (results_cell_row rfl _ _ (w.heap.size + 1) _ _ _ _ rfl (setRow_heap _ _ _ _ _ _ HR.out) Try.underlying26 rfl (by rw [infoSecret, cells_size, Hs.out])) rfl ⟨rfl, below_setRow hWb (by simp) _⟩

set_option maxHeartbeats 2000000 in
theorem part_any : ∀ (d : Nat) (w : World) (s : List UInt8) (f t a b : Nat), s.length = 8 → t ≤ 16 → nodeP d f t a b →
    Calls Try.prog 27 #[.agg (cells s), .int .i64 f, .int .i64 t, .int .i64 a, .int .i64 b] w fun e w' => e = .returned (.agg (cells (partL d s f t a b))) ∧ Below w.heap.size w w'
  | 0, w, s, f, t, a, b, hs, ht, hn => by
    obtain ⟨rfl, rfl⟩ := hn
    exact part_here w s f t hs
  | d + 1, w, s, f, t, a, b, hs, ht, hn => by
    rcases hn with ⟨rfl, rfl⟩ | ⟨hne, h2, hn⟩
    · rw [partL, if_pos ⟨rfl, rfl⟩]
      exact part_here w s f t hs
    · have ih := part_any d
      have IH := Lib.hid ih
      have Hs := Lib.hid hs
      have Hne := Lib.hid hne
      have hsp := splitN_lt (t - f) h2
      have hsub : ((t : Int) - (f : Int)) = ((t - f : Nat) : Int) := by omega
      generalize hk : splitN (t - f) = kk at *
      have Hk := Lib.hid hk
      have Hn := Lib.hid hn
      have hfk : f + kk ≤ 16 := by omega
      clear ih hs hne hk hn
      have hguard : (f ≠ a ∧ ((f : Int) == (a : Int)) = false) ∨ (((f : Int) == (a : Int)) = true ∧ ((t : Int) == (b : Int)) = false) := by
        by_cases h : f = a
        · refine .inr ⟨beq_iff_eq.2 (by omega), beq_eq_false_iff_ne.2 ?_⟩
          have : t ≠ b := fun h' => Hne.out ⟨h, h'⟩
          omega
        · exact .inl ⟨h, beq_eq_false_iff_ne.2 (by omega)⟩
      have hpart : partL (d + 1) s f t a b = if a < f + kk then partL d (kd s lLeft 0) f (f + kk) a b else partL d (kd s lRight 0) (f + kk) t a b := by
        rw [partL, if_neg Hne.out, Hk.out]
      obtain ⟨m, hm⟩ : ∃ m, m = f + kk := ⟨_, rfl⟩
      rw [← hm] at Hn hpart
      have hmi : (f : Int) + (kk : Int) = (m : Int) := by omega
      have hm16 : m ≤ 16 := by omega
      have Hpart := Lib.hid hpart
      have Hhm := Lib.hid hm
      clear hpart hm hfk
      rcases hguard with ⟨_, hg1⟩ | ⟨hg1, hg2⟩
      all_goals
        go_enter Try.func27, Try.ntmps27
        go_upto_region 1 with (fail)
        generalize hW : World.alloc (World.alloc _ _) _ = W
        have hS : W.heap[w.heap.size]? = some (.cells (cells s) 26 (0, 0)) := by rw [← hW]; exact heap_alloc2_old w _ _
        have hR : W.heap[w.heap.size + 1]? = some (.cells (cells [0, 0, 0, 0, 0, 0, 0, 0]) 26 (0, 0)) := by rw [← hW]; exact heap_alloc2_new w _ _
        have hWb : Below w.heap.size w W := by rw [← hW]; exact balloc (balloc (Below.refl _ _) _) _
        have HS := Lib.hid hS
        have HR := Lib.hid hR
        clear hS hR hW
        go_wp2_with fail
        refine (split_any _ (t - f) (by omega)).mono ?_
        rintro e w' ⟨rfl, rfl⟩
        rw [Hk.out]
        rcases Hn.out with ⟨hlt, hnode⟩ | ⟨hlt, hnode⟩
        all_goals
          have Hnode := Lib.hid hnode
          clear hnode
          go_wp2_with (first | (refine wpList_load_row rfl 26 _ rfl w.heap.size rfl _ _ _ _ HS.out Try.underlying26 rfl (by rw [infoSecret, cells_size, Hs.out]) ?_))
          refine (refDerive_any _ s _ _ Hs.out (by decide)).mono ?_
          rintro e w2 ⟨rfl, hb2⟩
          first
            | rw [lLeft_eq]
            | rw [lRight_eq]
          go_wp2_with (first | (refine wpList_store_row rfl 26 _ _ rfl _ _ rfl rfl _ _ (heap_alloc_new _ _) (by rw [infoSecret, cells_size, kd_length]) (by rw [cells_size, kd_length]; rfl) (cells_one _) ?_; rw [World.setRow_alloc_new]) | (refine wpList_load_row rfl 26 _ rfl w2.heap.size rfl _ _ _ _ (heap_alloc_new _ _) Try.underlying26 rfl (by rw [infoSecret, cells_size, kd_length]) ?_))
          refine (IH.out _ _ _ _ _ _ (kd_length _ _ _) (by omega) Hnode.out).mono ?_
          rintro e w3 ⟨rfl, hb3⟩
          have hsz : w.heap.size + 1 < w'.heap.size := (Array.getElem?_eq_some_iff.1 HR.out).1
          have hR3 : w3.heap[w.heap.size + 1]? = some (.cells (cells [0, 0, 0, 0, 0, 0, 0, 0]) 26 (0, 0)) := by
            rw [hb3.block _ (Nat.lt_of_lt_of_le hsz (Nat.le_trans hb2.size (by simp))), Below.heap_alloc _ _ _ (Nat.lt_of_lt_of_le hsz hb2.size), hb2.block _ hsz]
            exact HR.out
          have HR3 := Lib.hid hR3
          clear hR3
          have hlen := partL_length d (kd s lLeft 0) f m a b (kd_length _ _ _)
          have hlen2 := partL_length d (kd s lRight 0) m t a b (kd_length _ _ _)
          have Hlen := Lib.hid hlen
          have Hlen2 := Lib.hid hlen2
          clear hlen hlen2
          have hBf : Below w.heap.size w w3 := bnext (balloc (bnext hWb hb2) _) hb3
          first
            | (go_wp2_with (first | (refine wpList_store_row rfl 26 _ _ rfl (w.heap.size + 1) _ rfl rfl _ _ HR3.out (by rw [infoSecret, cells_size, Hlen.out]) (by rw [cells_size, cells_size, Hlen.out]; rfl) (cells_one _) ?_))
               refine bodyPost_ret (results_cell_row rfl _ _ (w.heap.size + 1) _ _ _ _ rfl (setRow_heap _ _ _ _ _ _ HR3.out) Try.underlying26 rfl (by rw [infoSecret, cells_size, Hlen.out])) rfl ⟨?_, below_setRow hBf (by simp) _⟩
               rw [Hpart.out, if_pos hlt])
            | (go_wp2_with (first | (refine wpList_store_row rfl 26 _ _ rfl (w.heap.size + 1) _ rfl rfl _ _ HR3.out (by rw [infoSecret, cells_size, Hlen2.out]) (by rw [cells_size, cells_size, Hlen2.out]; rfl) (cells_one _) ?_))
               refine bodyPost_ret (results_cell_row rfl _ _ (w.heap.size + 1) _ _ _ _ rfl (setRow_heap _ _ _ _ _ _ HR3.out) Try.underlying26 rfl (by rw [infoSecret, cells_size, Hlen2.out])) rfl ⟨?_, below_setRow hBf (by simp) _⟩
               rw [Hpart.out, if_neg hlt])

set_option maxHeartbeats 400000 in
theorem refFits_yes (w : World) (n m : Int) (h1 : 1 ≤ n) (h2 : n ≤ 16) (h3 : 0 ≤ m) (h4 : m < n) :
    Calls Try.prog 26 #[.int .i64 n, .int .i64 m] w fun e w' => e = .returned (.bool true) ∧ w' = w := by
  go_enter Try.func26, Try.ntmps26
  go_wp2
  go_ret
  exact ⟨rfl, rfl⟩
set_option maxHeartbeats 400000 in
theorem refFits_no (w : World) (n m : Int) (h : ¬ (1 ≤ n ∧ n ≤ 16 ∧ 0 ≤ m ∧ m < n)) :
    Calls Try.prog 26 #[.int .i64 n, .int .i64 m] w fun e w' => e = .returned (.bool false) ∧ w' = w := by
  by_cases h1 : 1 ≤ n
  · by_cases h2 : n ≤ 16
    · by_cases h3 : 0 ≤ m
      · have h4 : ¬ m < n := fun h4 => h ⟨h1, h2, h3, h4⟩
        clear h
        go_enter Try.func26, Try.ntmps26
        go_wp2
        go_ret
        exact ⟨rfl, rfl⟩
      · clear h
        go_enter Try.func26, Try.ntmps26
        go_wp2
        go_ret
        exact ⟨rfl, rfl⟩
    · clear h
      go_enter Try.func26, Try.ntmps26
      go_wp2
      go_ret
      exact ⟨rfl, rfl⟩
  · clear h
    go_enter Try.func26, Try.ntmps26
    go_wp2
    go_ret
    exact ⟨rfl, rfl⟩

set_option maxHeartbeats 2000000 in
theorem refRatchet_any (w : World) (root : List UInt8) (n m g : Nat) (hk : root.length = 8) (hm : m < n) (hn : n ≤ 16) (hg : g ≤ 65536) :
    Calls Try.prog 30 #[.agg (cells root), .int .i64 n, .int .i64 m, .int .i64 g] w fun e w' => e = .returned (.agg (cells (ratL (leafL root n m) g))) ∧ Below w.heap.size w w' := by
  have Hk := Lib.hid hk
  clear hk
  obtain ⟨m1, hm1e⟩ : ∃ m1, m1 = m + 1 := ⟨_, rfl⟩
  have hm1 : (m : Int) + 1 = (m1 : Int) := by omega
  have Hm1 := Lib.hid hm1e
  clear hm1e
  go_enter Try.func30, Try.ntmps30
  go_upto_region 1 with (fail)
  generalize hW : World.alloc (World.alloc _ _) _ = W
  have hS : W.heap[w.heap.size]? = some (.cells (cells root) 26 (0, 0)) := by rw [← hW]; exact heap_alloc2_old w _ _
  have hR : W.heap[w.heap.size + 1]? = some (.cells (cells [0, 0, 0, 0, 0, 0, 0, 0]) 26 (0, 0)) := by rw [← hW]; exact heap_alloc2_new w _ _
  have hWb : Below w.heap.size w W := by rw [← hW]; exact balloc (balloc (Below.refl _ _) _) _
  have hRs : w.heap.size + 1 < W.heap.size := (Array.getElem?_eq_some_iff.1 hR).1
  have HS := Lib.hid hS
  have HR := Lib.hid hR
  clear hS hR hW
  go_wp2_with (first | (refine wpList_load_row rfl 26 _ rfl w.heap.size rfl _ _ _ _ HS.out Try.underlying26 rfl (by rw [infoSecret, cells_size, Hk.out]) ?_))
  refine (part_any 16 W root 0 n m m1 Hk.out hn (by rw [Hm1.out]; exact leaf_node 16 0 n m (Nat.zero_le _) hm (by omega))).mono ?_
  rintro e w1 ⟨rfl, hb1⟩
  rw [Hm1.out, ← leafL]
  have hll : (leafL root n m).length = 8 := partL_length _ _ _ _ _ _ Hk.out
  generalize hlf : leafL root n m = leaf at *
  have Hlf := Lib.hid hlf
  clear hlf
  have Hll := Lib.hid hll
  clear hll
  have r1 := bnext hWb hb1
  go_wp2_with (first | (refine wpList_store_row rfl 26 _ _ rfl _ _ rfl rfl _ _ (heap_alloc_new _ _) (by rw [infoSecret, cells_size, Hll.out]) (by rw [cells_size, Hll.out]; rfl) (cells_one _) ?_; rw [World.setRow_alloc_new]) | (refine wpList_load_row rfl 26 _ rfl w1.heap.size rfl _ _ _ _ (heap_alloc_new _ _) Try.underlying26 rfl (by rw [infoSecret, cells_size, Hll.out]) ?_))
  refine (refDerive_any _ leaf _ _ Hll.out (by decide)).mono ?_
  rintro e w2 ⟨rfl, hb2⟩
  rw [lRatchet_eq, ← ratL]
  have hrl := ratL_length leaf
  have Hrl := Lib.hid hrl
  clear hrl
  have r2 := bnext (balloc r1 _) hb2
  have hR2 : w2.heap[w.heap.size + 1]? = some (.cells (cells [0, 0, 0, 0, 0, 0, 0, 0]) 26 (0, 0)) := by
    rw [hb2.block _ (Nat.lt_of_lt_of_le hRs (Nat.le_trans hb1.size (by simp))), Below.heap_alloc _ _ _ (Nat.lt_of_lt_of_le hRs hb1.size), hb1.block _ hRs]
    exact HR.out
  have hRs2 : w.heap.size + 1 < w2.heap.size := (Array.getElem?_eq_some_iff.1 hR2).1
  have HR2 := Lib.hid hR2
  clear hR2
  go_wp2_with (first | (refine wpList_store_row rfl 26 _ _ rfl _ _ rfl rfl _ _ (heap_alloc_new _ _) (by rw [infoSecret, cells_size, Hrl.out]) (by rw [cells_size, Hrl.out]; rfl) (cells_one _) ?_; rw [World.setRow_alloc_new]))
  go_loopw [11] (fun i wr => ∃ j : Nat, j ≤ g ∧ i = .int .i64 j ∧ wr.heap[w2.heap.size]? = some (.cells (cells (ratL leaf j)) 26 (0, 0)) ∧ wr.heap[w.heap.size + 1]? = some (.cells (cells [0, 0, 0, 0, 0, 0, 0, 0]) 26 (0, 0)) ∧ Below w.heap.size w wr) (fun i _ => g - (intOf i).toNat)
  case atStart => exact ⟨0, Nat.zero_le _, rfl, heap_alloc_new _ _, (Below.heap_alloc _ _ _ hRs2).trans HR2.out, balloc r2 _⟩
  case round =>
    obtain ⟨j, hj, rfl, hro, hrR, hrb⟩ := hrel
    have Hro := Lib.hid hro
    have HrR := Lib.hid hrR
    have hs1 := (Array.getElem?_eq_some_iff.1 hro).1
    have hs2 := (Array.getElem?_eq_some_iff.1 hrR).1
    clear hro hrR
    by_cases hlt : j < g
    · go_wp2_with (first | (refine wpList_load_row rfl 26 _ rfl w2.heap.size rfl _ _ _ _ Hro.out Try.underlying26 rfl (by rw [infoSecret, cells_size, Hrl.out]) ?_))
      refine (refDerive_any _ (ratL leaf j) _ _ (Hrl.out _) (by decide)).mono ?_
      rintro e w3 ⟨rfl, hb3⟩
      rw [lNext_eq, ← ratL]
      have hro3 : w3.heap[w2.heap.size]? = some (.cells (cells (ratL leaf j)) 26 (0, 0)) := (hb3.block _ hs1).trans Hro.out
      have hrR3 : w3.heap[w.heap.size + 1]? = some (.cells (cells [0, 0, 0, 0, 0, 0, 0, 0]) 26 (0, 0)) := (hb3.block _ hs2).trans HrR.out
      have Hro3 := Lib.hid hro3
      have HrR3 := Lib.hid hrR3
      clear hro3 hrR3
      go_wp2_with (first | (refine wpList_store_row rfl 26 _ _ rfl w2.heap.size _ rfl rfl _ _ Hro3.out (by rw [infoSecret, cells_size, Hrl.out]) (by rw [cells_size, cells_size, Hrl.out, Hrl.out]) (cells_one _) ?_))
      go_roundw
      case rel => exact ⟨j + 1, by omega, by go_num, setRow_heap _ _ _ _ _ _ Hro3.out, (setRow_other _ _ _ _ (by omega)).trans HrR3.out, below_setRow (bnext hrb hb3) (by omega) _⟩
      case measure => simp [intOf]; omega
    · obtain rfl : j = g := by omega
      clear hlt
      go_wp2_with (first | (refine wpList_load_row rfl 26 _ rfl w2.heap.size rfl _ _ _ _ Hro.out Try.underlying26 rfl (by rw [infoSecret, cells_size, Hrl.out]) ?_) | (refine wpList_store_row rfl 26 _ _ rfl (w.heap.size + 1) _ rfl rfl _ _ HrR.out (by rw [infoSecret, cells_size, Hrl.out]) (by rw [cells_size, cells_size, Hrl.out]; rfl) (cells_one _) ?_))
      refine bodyPost_ret (results_cell_row rfl _ _ (w.heap.size + 1) _ _ _ _ rfl (setRow_heap _ _ _ _ _ _ HrR.out) Try.underlying26 rfl (by rw [infoSecret, cells_size, Hrl.out])) rfl ⟨by rw [Hlf.out], below_setRow hrb (by simp) _⟩

/-- The answer of a call that gives a secret and an error's number. -/
def zeroS : List UInt8 := [0, 0, 0, 0, 0, 0, 0, 0]
set_option maxHeartbeats 1000000 in
theorem refLeaf_no (w : World) (root : List UInt8) (n m : Int) (h : ¬ (1 ≤ n ∧ n ≤ 16 ∧ 0 ≤ m ∧ m < n)) :
    Calls Try.prog 16 #[.agg (cells root), .int .i64 n, .int .i64 m] w fun e w' => e = .returned (.tuple #[.agg (cells zeroS), .int .i64 1]) ∧ Below w.heap.size w w' := by
  have H := Lib.hid h
  clear h
  go_enter Try.func16, Try.ntmps16
  go_upto_region 1 with (fail)
  generalize hW : World.alloc (World.alloc _ _) _ = W
  have hR : W.heap[w.heap.size + 1]? = some (.cells (cells zeroS) 26 (0, 0)) := by rw [← hW]; exact heap_alloc2_new w _ _
  have hWb : Below w.heap.size w W := by rw [← hW]; exact balloc (balloc (Below.refl _ _) _) _
  have HR := Lib.hid hR
  clear hR hW
  go_wp2_with fail
  refine (refFits_no _ n m H.out).mono ?_
  rintro e w' ⟨rfl, rfl⟩
  go_wp2_with (refine wpList_store_row rfl 26 _ _ rfl (w.heap.size + 1) (cells zeroS) rfl rfl _ _ HR.out (by rw [infoSecret, cells_size]; rfl) rfl (cells_one _) ?_)
  refine bodyPost_ret (results_cell_row2 rfl _ _ (w.heap.size + 1) _ _ _ _ rfl (setRow_heap _ _ _ _ _ _ HR.out) Try.underlying26 rfl (by rw [infoSecret, cells_size]; rfl)) rfl ⟨rfl, below_setRow hWb (by simp) _⟩
set_option maxHeartbeats 1000000 in
theorem refLeaf_yes (w : World) (root : List UInt8) (n m : Nat) (hk : root.length = 8) (hm : m < n) (hn : n ≤ 16) :
    Calls Try.prog 16 #[.agg (cells root), .int .i64 n, .int .i64 m] w fun e w' => e = .returned (.tuple #[.agg (cells (leafL root n m)), .int .i64 0]) ∧ Below w.heap.size w w' := by
  have Hk := Lib.hid hk
  clear hk
  obtain ⟨m1, hm1e⟩ : ∃ m1, m1 = m + 1 := ⟨_, rfl⟩
  have hm1 : (m : Int) + 1 = (m1 : Int) := by omega
  have Hm1 := Lib.hid hm1e
  clear hm1e
  go_enter Try.func16, Try.ntmps16
  go_upto_region 1 with (fail)
  generalize hW : World.alloc (World.alloc _ _) _ = W
  have hS : W.heap[w.heap.size]? = some (.cells (cells root) 26 (0, 0)) := by rw [← hW]; exact heap_alloc2_old w _ _
  have hR : W.heap[w.heap.size + 1]? = some (.cells (cells zeroS) 26 (0, 0)) := by rw [← hW]; exact heap_alloc2_new w _ _
  have hWb : Below w.heap.size w W := by rw [← hW]; exact balloc (balloc (Below.refl _ _) _) _
  have hRs : w.heap.size + 1 < W.heap.size := (Array.getElem?_eq_some_iff.1 hR).1
  have HS := Lib.hid hS
  have HR := Lib.hid hR
  clear hS hR hW
  go_wp2_with fail
  refine (refFits_yes _ n m (by omega) (by omega) (by omega) (by omega)).mono ?_
  rintro e w' ⟨rfl, rfl⟩
  go_wp2_with (first | (refine wpList_load_row rfl 26 _ rfl w.heap.size rfl _ _ _ _ HS.out Try.underlying26 rfl (by rw [infoSecret, cells_size, Hk.out]) ?_))
  refine (part_any 16 _ root 0 n m m1 Hk.out hn (by rw [Hm1.out]; exact leaf_node 16 0 n m (Nat.zero_le _) hm (by omega))).mono ?_
  rintro e w1 ⟨rfl, hb1⟩
  rw [Hm1.out, ← leafL]
  have hll : (leafL root n m).length = 8 := partL_length _ _ _ _ _ _ Hk.out
  generalize hlf : leafL root n m = leaf at *
  have Hlf := Lib.hid hlf
  have Hll := Lib.hid hll
  clear hlf hll
  have hR1 : (w1.alloc (.cells (cells leaf) 26)).heap[w.heap.size + 1]? = some (.cells (cells zeroS) 26 (0, 0)) := by
    rw [Below.heap_alloc _ _ _ (Nat.lt_of_lt_of_le hRs hb1.size), hb1.block _ hRs]; exact HR.out
  have HR1 := Lib.hid hR1
  clear hR1
  go_wp2_with (first | (refine wpList_store_row rfl 26 _ _ rfl w1.heap.size _ rfl rfl _ _ (heap_alloc_new _ _) (by rw [infoSecret, cells_size, Hll.out]) (by rw [cells_size, Hll.out]; rfl) (cells_one _) ?_; rw [World.setRow_alloc_new]) | (refine wpList_load_row rfl 26 _ rfl w1.heap.size rfl _ _ _ _ (heap_alloc_new _ _) Try.underlying26 rfl (by rw [infoSecret, cells_size, Hll.out]) ?_) | (refine wpList_store_row rfl 26 _ _ rfl (w.heap.size + 1) _ rfl rfl _ _ HR1.out (by rw [infoSecret, cells_size, Hll.out]) (by rw [cells_size, cells_size, Hll.out]; rfl) (cells_one _) ?_))
  refine bodyPost_ret (results_cell_row2 rfl _ _ (w.heap.size + 1) _ _ _ _ rfl (setRow_heap _ _ _ _ _ _ HR1.out) Try.underlying26 rfl (by rw [infoSecret, cells_size, Hll.out])) rfl ⟨by rw [Hlf.out]; rfl, below_setRow (balloc (bnext hWb hb1) _) (by simp) _⟩
set_option maxHeartbeats 1000000 in
theorem refKey_no (w : World) (root : List UInt8) (n m g : Int) (h : ¬ (1 ≤ n ∧ n ≤ 16 ∧ 0 ≤ m ∧ m < n)) :
    Calls Try.prog 18 #[.agg (cells root), .int .i64 n, .int .i64 m, .int .i64 g] w fun e w' => e = .returned (.tuple #[.agg (cells zeroS), .int .i64 1]) ∧ Below w.heap.size w w' := by
  have H := Lib.hid h
  clear h
  go_enter Try.func18, Try.ntmps18
  go_upto_region 1 with (fail)
  generalize hW : World.alloc (World.alloc _ _) _ = W
  have hR : W.heap[w.heap.size + 1]? = some (.cells (cells zeroS) 26 (0, 0)) := by rw [← hW]; exact heap_alloc2_new w _ _
  have hWb : Below w.heap.size w W := by rw [← hW]; exact balloc (balloc (Below.refl _ _) _) _
  have HR := Lib.hid hR
  clear hR hW
  go_wp2_with fail
  refine (refFits_no _ n m H.out).mono ?_
  rintro e w' ⟨rfl, rfl⟩
  go_wp2_with (refine wpList_store_row rfl 26 _ _ rfl (w.heap.size + 1) (cells zeroS) rfl rfl _ _ HR.out (by rw [infoSecret, cells_size]; rfl) rfl (cells_one _) ?_)
  refine bodyPost_ret (results_cell_row2 rfl _ _ (w.heap.size + 1) _ _ _ _ rfl (setRow_heap _ _ _ _ _ _ HR.out) Try.underlying26 rfl (by rw [infoSecret, cells_size]; rfl)) rfl ⟨rfl, below_setRow hWb (by simp) _⟩
set_option maxHeartbeats 1000000 in
theorem refKey_spent (w : World) (root : List UInt8) (n m : Nat) (g : Int) (hm : m < n) (hn : n ≤ 16) (hg : g < 0 ∨ 65535 < g) :
    Calls Try.prog 18 #[.agg (cells root), .int .i64 n, .int .i64 m, .int .i64 g] w fun e w' => e = .returned (.tuple #[.agg (cells zeroS), .int .i64 8]) ∧ Below w.heap.size w w' := by
  have hgg : (decide (g < 0) = true) ∨ (decide (g < 0) = false ∧ decide (65535 < g) = true) := by
    rcases hg with h | h
    · exact .inl (by simpa using h)
    · exact .inr ⟨by simp; omega, by simpa using h⟩
  clear hg
  rcases hgg with hg1 | ⟨hg1, hg2⟩
  all_goals
    go_enter Try.func18, Try.ntmps18
    go_upto_region 1 with (fail)
    generalize hW : World.alloc (World.alloc _ _) _ = W
    have hR : W.heap[w.heap.size + 1]? = some (.cells (cells zeroS) 26 (0, 0)) := by rw [← hW]; exact heap_alloc2_new w _ _
    have hWb : Below w.heap.size w W := by rw [← hW]; exact balloc (balloc (Below.refl _ _) _) _
    have HR := Lib.hid hR
    clear hR hW
    go_wp2_with fail
    refine (refFits_yes _ n m (by omega) (by omega) (by omega) (by omega)).mono ?_
    rintro e w' ⟨rfl, rfl⟩
    go_wp2_with (refine wpList_store_row rfl 26 _ _ rfl (w.heap.size + 1) (cells zeroS) rfl rfl _ _ HR.out (by rw [infoSecret, cells_size]; rfl) rfl (cells_one _) ?_)
    refine bodyPost_ret (results_cell_row2 rfl _ _ (w.heap.size + 1) _ _ _ _ rfl (setRow_heap _ _ _ _ _ _ HR.out) Try.underlying26 rfl (by rw [infoSecret, cells_size]; rfl)) rfl ⟨rfl, below_setRow hWb (by simp) _⟩
set_option maxHeartbeats 1000000 in
theorem refKey_yes (w : World) (root : List UInt8) (n m g : Nat) (hk : root.length = 8) (hm : m < n) (hn : n ≤ 16) (hg : g ≤ 65535) :
    Calls Try.prog 18 #[.agg (cells root), .int .i64 n, .int .i64 m, .int .i64 g] w fun e w' => e = .returned (.tuple #[.agg (cells (keyL (leafL root n m) g)), .int .i64 0]) ∧ Below w.heap.size w w' := by
  have Hk := Lib.hid hk
  clear hk
  have hg1 : decide ((g : Int) < 0) = false := by simp
  have hg2 : decide ((65535 : Int) < (g : Int)) = false := by simp; omega
  go_enter Try.func18, Try.ntmps18
  go_upto_region 1 with (fail)
  generalize hW : World.alloc (World.alloc _ _) _ = W
  have hS : W.heap[w.heap.size]? = some (.cells (cells root) 26 (0, 0)) := by rw [← hW]; exact heap_alloc2_old w _ _
  have hR : W.heap[w.heap.size + 1]? = some (.cells (cells zeroS) 26 (0, 0)) := by rw [← hW]; exact heap_alloc2_new w _ _
  have hWb : Below w.heap.size w W := by rw [← hW]; exact balloc (balloc (Below.refl _ _) _) _
  have hRs : w.heap.size + 1 < W.heap.size := (Array.getElem?_eq_some_iff.1 hR).1
  have HS := Lib.hid hS
  have HR := Lib.hid hR
  clear hS hR hW
  go_wp2_with fail
  refine (refFits_yes _ n m (by omega) (by omega) (by omega) (by omega)).mono ?_
  rintro e w' ⟨rfl, rfl⟩
  go_wp2_with (first | (refine wpList_load_row rfl 26 _ rfl w.heap.size rfl _ _ _ _ HS.out Try.underlying26 rfl (by rw [infoSecret, cells_size, Hk.out]) ?_))
  refine (refRatchet_any _ root n m g Hk.out hm hn (by omega)).mono ?_
  rintro e w1 ⟨rfl, hb1⟩
  have hll := ratL_length (leafL root n m) g
  have hke : keyL (leafL root n m) g = kd (ratL (leafL root n m) g) lKey g := rfl
  generalize ratL (leafL root n m) g = rt at *
  have Hll := Lib.hid hll
  have Hke := Lib.hid hke
  clear hll hke
  go_wp2_with (first | (refine wpList_store_row rfl 26 _ _ rfl w1.heap.size _ rfl rfl _ _ (heap_alloc_new _ _) (by rw [infoSecret, cells_size, Hll.out]) (by rw [cells_size, Hll.out]; rfl) (cells_one _) ?_; rw [World.setRow_alloc_new]) | (refine wpList_load_row rfl 26 _ rfl w1.heap.size rfl _ _ _ _ (heap_alloc_new _ _) Try.underlying26 rfl (by rw [infoSecret, cells_size, Hll.out]) ?_))
  refine (refDerive_any _ rt _ _ Hll.out (by decide)).mono ?_
  rintro e w2 ⟨rfl, hb2⟩
  rw [lKey_eq, ← Hke.out]
  have hkl : (keyL (leafL root n m) g).length = 8 := kd_length _ _ _
  generalize hkk : keyL (leafL root n m) g = key at *
  have Hkk := Lib.hid hkk
  clear hkk
  have Hkl := Lib.hid hkl
  have hR1 : (w2.alloc (.cells (cells key) 26)).heap[w.heap.size + 1]? = some (.cells (cells zeroS) 26 (0, 0)) := by
    have h1 := Nat.lt_of_lt_of_le hRs hb1.size
    rw [Below.heap_alloc _ _ _ (Nat.lt_of_lt_of_le h1 (Nat.le_trans (by simp) hb2.size)), hb2.block _ (Nat.lt_of_lt_of_le h1 (by simp)), Below.heap_alloc _ _ _ h1, hb1.block _ hRs]; exact HR.out
  have HR1 := Lib.hid hR1
  clear hR1 hkl
  go_wp2_with (first | (refine wpList_store_row rfl 26 _ _ rfl w2.heap.size _ rfl rfl _ _ (heap_alloc_new _ _) (by rw [infoSecret, cells_size, Hkl.out]) (by rw [cells_size, Hkl.out]; rfl) (cells_one _) ?_; rw [World.setRow_alloc_new]) | (refine wpList_load_row rfl 26 _ rfl w2.heap.size rfl _ _ _ _ (heap_alloc_new _ _) Try.underlying26 rfl (by rw [infoSecret, cells_size, Hkl.out]) ?_) | (refine wpList_store_row rfl 26 _ _ rfl (w.heap.size + 1) _ rfl rfl _ _ HR1.out (by rw [infoSecret, cells_size, Hkl.out]) (by rw [cells_size, cells_size, Hkl.out]; rfl) (cells_one _) ?_))
  refine bodyPost_ret (results_cell_row2 rfl _ _ (w.heap.size + 1) _ _ _ _ rfl (setRow_heap _ _ _ _ _ _ HR1.out) Try.underlying26 rfl (by rw [infoSecret, cells_size, Hkl.out])) rfl ⟨by rw [Hkk.out]; rfl, below_setRow (balloc (bnext (balloc (bnext hWb hb1) _) hb2) _) (by simp) _⟩
end Go.Proofs.Ytccidllcjaaeeaa
