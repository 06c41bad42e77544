/- Several texts of this claim in one file (a claim has at most 60): TreeFns, RefTree, Ratchet, Lay, TreeHas, Laws, Parts, TreeIdx, Split, EpochLeaf. No condition of its own. -/
import Derived.Test.YtccidllcjaaeeabGreatDoorH1
import Derived.Test.YtccidllcjaaeeabGreatDoorChecked
import Derived.Shelf.Small.Bits
import Derived.Shelf.SlicesQ.IndexFunc
import Derived.Shelf.SlicesQ.Reverse
import Derived.Shelf.Spec.SlicesGrow
import Derived.Ground.SlgfProg
import Derived.Ground.SlgnProg
import Derived.Ground.Names8Prog
import Derived.BigQuiet
import Derived.Deep.QuietTactic
import Derived.Great.BuildSlice
import Derived.Deep.MidRow
import Derived.Laws.AppendOwnNone
import Derived.Maps.AppendAt
import Derived.IntWalk
/- Plain law, no program: the tree's halves, the secret of a part, a leaf, the ratchet and its keys. No condition. -/
namespace Go.Proofs.YtccidllcjaaeeabGreatDoor
set_option maxRecDepth 100000
def splitN (n : Nat) : Nat := if n ≤ 2 then 1 else if n ≤ 4 then 2 else if n ≤ 8 then 4 else 8
theorem splitN_pos (n : Nat) : 0 < splitN n := by unfold splitN; split <;> (try split) <;> (try split) <;> omega
theorem splitN_lt (n : Nat) (h : 2 ≤ n) : splitN n < n := by unfold splitN; split <;> (try split) <;> (try split) <;> omega
theorem splitN_of (n k : Nat) (hk : k = 1 ∨ k = 2 ∨ k = 4 ∨ k = 8) (h1 : k = 1 ∨ k < n) (h2 : n ≤ 2 * k) : k = splitN n := by
  unfold splitN; split <;> (try split) <;> (try split) <;> omega
def lLeft : List UInt8 := [108, 101, 102, 116]
def lRight : List UInt8 := [114, 105, 103, 104, 116]
def lRatchet : List UInt8 := [114, 97, 116, 99, 104, 101, 116]
def lNext : List UInt8 := [110, 101, 120, 116]
def lKey : List UInt8 := [107, 101, 121]
/-- The secret of the part from a to b, within the part from f to t whose secret is s. -/
def partL : Nat → List UInt8 → Nat → Nat → Nat → Nat → List UInt8
  | 0, s, _, _, _, _ => s
  | d + 1, s, f, t, a, b =>
    if f = a ∧ t = b then s
    else if a < f + splitN (t - f) then partL d (kd s lLeft 0) f (f + splitN (t - f)) a b
    else partL d (kd s lRight 0) (f + splitN (t - f)) t a b
/-- Is there such a part? -/
def nodeP : Nat → Nat → Nat → Nat → Nat → Prop
  | 0, f, t, a, b => f = a ∧ t = b
  | d + 1, f, t, a, b => (f = a ∧ t = b) ∨ (¬ (f = a ∧ t = b) ∧ 2 ≤ t - f ∧ ((a < f + splitN (t - f) ∧ nodeP d f (f + splitN (t - f)) a b) ∨ (¬ a < f + splitN (t - f) ∧ nodeP d (f + splitN (t - f)) t a b)))
theorem leaf_node : ∀ (d f t m : Nat), f ≤ m → m < t → t - f ≤ d + 1 → nodeP d f t m (m + 1)
  | 0, f, t, m, h1, h2, h3 => ⟨by omega, by omega⟩
  | d + 1, f, t, m, h1, h2, h3 => by
    by_cases h : f = m ∧ t = m + 1
    · exact .inl h
    · have h4 : 2 ≤ t - f := by omega
      have hp := splitN_pos (t - f)
      have hl := splitN_lt (t - f) h4
      refine .inr ⟨h, h4, ?_⟩
      by_cases hm : m < f + splitN (t - f)
      · exact .inl ⟨hm, leaf_node d _ _ _ h1 hm (by omega)⟩
      · exact .inr ⟨hm, leaf_node d _ _ _ (by omega) h2 (by omega)⟩
theorem partL_length : ∀ (d : Nat) (s : List UInt8) (f t a b : Nat), s.length = 8 → (partL d s f t a b).length = 8
  | 0, s, _, _, _, _, h => h
  | d + 1, s, f, t, a, b, h => by
    rw [partL]
    split
    · exact h
    · split
      · exact partL_length d _ _ _ _ _ (kd_length _ _ _)
      · exact partL_length d _ _ _ _ _ (kd_length _ _ _)
def leafL (root : List UInt8) (n m : Nat) : List UInt8 := partL 16 root 0 n m (m + 1)
def ratL (leaf : List UInt8) : Nat → List UInt8
  | 0 => kd leaf lRatchet 0
  | g + 1 => kd (ratL leaf g) lNext (g : Int)
theorem ratL_length (leaf : List UInt8) (g : Nat) : (ratL leaf g).length = 8 := by cases g <;> exact kd_length _ _ _
def keyL (leaf : List UInt8) (g : Nat) : List UInt8 := kd (ratL leaf g) lKey (g : Int)
end Go.Proofs.YtccidllcjaaeeabGreatDoor
/- The walks of the reference's split, Part, Ratchet, fits, Leaf and Key: they compute what the plain law tells. Conditions: a group of at most 16 members, a part that there is, generations up to 4096. -/
namespace Go.Proofs.YtccidllcjaaeeabGreatDoor
set_option maxRecDepth 100000
open Go.RowKit
set_option maxRecDepth 100000 in
set_option maxHeartbeats 400000 in
theorem split_any (w : World) (n : Nat) (hn : n ≤ 16) :
    Calls Tryz.prog 54 #[.int .i64 n] w fun e w' => e = .returned (.int .i64 (splitN n)) ∧ w' = w := by
  go_enter Tryz.func54, Tryz.ntmps54
  go_wp2
  go_loop [3] (fun x => ∃ k : Nat, x = .int .i64 k ∧ (k = 1 ∨ k = 2 ∨ k = 4 ∨ k = 8) ∧ (k = 1 ∨ k < n)) (fun x => 16 - (intOf x).toNat)
  case atStart => exact ⟨1, rfl, .inl rfl, .inl rfl⟩
  case round =>
    obtain ⟨k, rfl, h1, h2⟩ := hrel
    by_cases hlt : k * 2 < n
    · go_wp2
      go_round
      case rel => exact ⟨2 * k, by go_num, by omega, by omega⟩
      case measure => simp [intOf]; omega
    · have hk := splitN_of n k h1 h2 (by omega)
      have Hk := Lib.hid hk
      clear hk
      go_wp2
      go_ret
      exact ⟨ret_int (by rw [← Hk.out]), rfl⟩

theorem lLeft_eq : (⟨#[108, 101, 102, 116]⟩ : ByteArray).data.toList = lLeft := rfl
theorem lRight_eq : (⟨#[114, 105, 103, 104, 116]⟩ : ByteArray).data.toList = lRight := rfl
theorem lRatchet_eq : (⟨#[114, 97, 116, 99, 104, 101, 116]⟩ : ByteArray).data.toList = lRatchet := rfl
theorem lNext_eq : (⟨#[110, 101, 120, 116]⟩ : ByteArray).data.toList = lNext := rfl
theorem lKey_eq : (⟨#[107, 101, 121]⟩ : ByteArray).data.toList = lKey := rfl

set_option maxRecDepth 100000 in
set_option maxHeartbeats 400000 in
theorem part_here (w : World) (s : List UInt8) (f t : Nat) (hs : s.length = 8) :
    Calls Tryz.prog 53 #[.agg (cells s), .int .i64 f, .int .i64 t, .int .i64 f, .int .i64 t] w fun e w' => e = .returned (.agg (cells s)) ∧ Below w.heap.size w w' := by
  have Hs := Lib.hid hs
  clear hs
  go_enter Tryz.func53, Tryz.ntmps53
  go_upto_region 1 with (fail)
  generalize hW : World.alloc (World.alloc _ _) _ = W
  have hS : W.heap[w.heap.size]? = some (.cells (cells s) 36 (0, 0)) := by rw [← hW]; exact heap_alloc2_old w _ _
  have hR : W.heap[w.heap.size + 1]? = some (.cells (cells [0, 0, 0, 0, 0, 0, 0, 0]) 36 (0, 0)) := by rw [← hW]; exact heap_alloc2_new w _ _
  have hWb : Below w.heap.size w W := by rw [← hW]; exact balloc (balloc (Below.refl _ _) _) _
  have HS := Lib.hid hS
  have HR := Lib.hid hR
  clear hS hR hW
  go_wp2_with (first | (refine wpList_load_row rfl 36 _ rfl w.heap.size rfl _ _ _ _ HS.out Tryz.underlying36 rfl (by rw [infoSecret, cells_size, Hs.out]) ?_) | (refine wpList_store_row rfl 36 _ _ rfl (w.heap.size + 1) _ rfl rfl _ _ HR.out (by rw [infoSecret, cells_size, Hs.out]) (by rw [cells_size, cells_size, Hs.out]; rfl) (cells_one _) ?_))
  refine bodyPost_ret (results_cell_row rfl _ _ (w.heap.size + 1) _ _ _ _ rfl (setRow_heap _ _ _ _ _ _ HR.out) Tryz.underlying36 rfl (by rw [infoSecret, cells_size, Hs.out])) rfl ⟨rfl, below_setRow hWb (by simp) _⟩

set_option maxRecDepth 100000 in
set_option maxHeartbeats 2000000 in
theorem part_any : ∀ (d : Nat) (w : World) (s : List UInt8) (f t a b : Nat), s.length = 8 → t ≤ 16 → nodeP d f t a b →
    Calls Tryz.prog 53 #[.agg (cells s), .int .i64 f, .int .i64 t, .int .i64 a, .int .i64 b] w fun e w' => e = .returned (.agg (cells (partL d s f t a b))) ∧ Below w.heap.size w w'
  | 0, w, s, f, t, a, b, hs, ht, hn => by
    obtain ⟨rfl, rfl⟩ := hn
    exact part_here w s f t hs
  | d + 1, w, s, f, t, a, b, hs, ht, hn => by
    rcases hn with ⟨rfl, rfl⟩ | ⟨hne, h2, hn⟩
    · rw [partL, if_pos ⟨rfl, rfl⟩]
      exact part_here w s f t hs
    · have ih := part_any d
      have IH := Lib.hid ih
      have Hs := Lib.hid hs
      have Hne := Lib.hid hne
      have hsp := splitN_lt (t - f) h2
      have hsub : ((t : Int) - (f : Int)) = ((t - f : Nat) : Int) := by omega
      generalize hk : splitN (t - f) = kk at *
      have Hk := Lib.hid hk
      have Hn := Lib.hid hn
      have hfk : f + kk ≤ 16 := by omega
      clear ih hs hne hk hn
      have hguard : (f ≠ a ∧ ((f : Int) == (a : Int)) = false) ∨ (((f : Int) == (a : Int)) = true ∧ ((t : Int) == (b : Int)) = false) := by
        by_cases h : f = a
        · refine .inr ⟨beq_iff_eq.2 (by omega), beq_eq_false_iff_ne.2 ?_⟩
          have : t ≠ b := fun h' => Hne.out ⟨h, h'⟩
          omega
        · exact .inl ⟨h, beq_eq_false_iff_ne.2 (by omega)⟩
      have hpart : partL (d + 1) s f t a b = if a < f + kk then partL d (kd s lLeft 0) f (f + kk) a b else partL d (kd s lRight 0) (f + kk) t a b := by
        rw [partL, if_neg Hne.out, Hk.out]
      obtain ⟨m, hm⟩ : ∃ m, m = f + kk := ⟨_, rfl⟩
      rw [← hm] at Hn hpart
      have hmi : (f : Int) + (kk : Int) = (m : Int) := by omega
      have hm16 : m ≤ 16 := by omega
      have Hpart := Lib.hid hpart
      have Hhm := Lib.hid hm
      clear hpart hm hfk
      rcases hguard with ⟨_, hg1⟩ | ⟨hg1, hg2⟩
      all_goals
        go_enter Tryz.func53, Tryz.ntmps53
        go_upto_region 1 with (fail)
        generalize hW : World.alloc (World.alloc _ _) _ = W
        have hS : W.heap[w.heap.size]? = some (.cells (cells s) 36 (0, 0)) := by rw [← hW]; exact heap_alloc2_old w _ _
        have hR : W.heap[w.heap.size + 1]? = some (.cells (cells [0, 0, 0, 0, 0, 0, 0, 0]) 36 (0, 0)) := by rw [← hW]; exact heap_alloc2_new w _ _
        have hWb : Below w.heap.size w W := by rw [← hW]; exact balloc (balloc (Below.refl _ _) _) _
        have HS := Lib.hid hS
        have HR := Lib.hid hR
        clear hS hR hW
        go_wp2_with fail
        refine (split_any _ (t - f) (by omega)).mono ?_
        rintro e w' ⟨rfl, rfl⟩
        rw [Hk.out]
        rcases Hn.out with ⟨hlt, hnode⟩ | ⟨hlt, hnode⟩
        all_goals
          have Hnode := Lib.hid hnode
          clear hnode
          go_wp2_with (first | (refine wpList_load_row rfl 36 _ rfl w.heap.size rfl _ _ _ _ HS.out Tryz.underlying36 rfl (by rw [infoSecret, cells_size, Hs.out]) ?_))
          refine (refDerive_any _ s _ _ Hs.out (by decide)).mono ?_
          rintro e w2 ⟨rfl, hb2⟩
          first
            | rw [lLeft_eq]
            | rw [lRight_eq]
          go_wp2_with (first | (refine wpList_store_row rfl 36 _ _ rfl _ _ rfl rfl _ _ (heap_alloc_new _ _) (by rw [infoSecret, cells_size, kd_length]) (by rw [cells_size, kd_length]; rfl) (cells_one _) ?_; rw [World.setRow_alloc_new]) | (refine wpList_load_row rfl 36 _ rfl w2.heap.size rfl _ _ _ _ (heap_alloc_new _ _) Tryz.underlying36 rfl (by rw [infoSecret, cells_size, kd_length]) ?_))
          refine (IH.out _ _ _ _ _ _ (kd_length _ _ _) (by omega) Hnode.out).mono ?_
          rintro e w3 ⟨rfl, hb3⟩
          have hsz : w.heap.size + 1 < w'.heap.size := (Array.getElem?_eq_some_iff.1 HR.out).1
          have hR3 : w3.heap[w.heap.size + 1]? = some (.cells (cells [0, 0, 0, 0, 0, 0, 0, 0]) 36 (0, 0)) := by
            rw [hb3.block _ (Nat.lt_of_lt_of_le hsz (Nat.le_trans hb2.size (by simp))), Below.heap_alloc _ _ _ (Nat.lt_of_lt_of_le hsz hb2.size), hb2.block _ hsz]
            exact HR.out
          have HR3 := Lib.hid hR3
          clear hR3
          have hlen := partL_length d (kd s lLeft 0) f m a b (kd_length _ _ _)
          have hlen2 := partL_length d (kd s lRight 0) m t a b (kd_length _ _ _)
          have Hlen := Lib.hid hlen
          have Hlen2 := Lib.hid hlen2
          clear hlen hlen2
          have hBf : Below w.heap.size w w3 := bnext (balloc (bnext hWb hb2) _) hb3
          first
            | (go_wp2_with (first | (refine wpList_store_row rfl 36 _ _ rfl (w.heap.size + 1) _ rfl rfl _ _ HR3.out (by rw [infoSecret, cells_size, Hlen.out]) (by rw [cells_size, cells_size, Hlen.out]; rfl) (cells_one _) ?_))
               refine bodyPost_ret (results_cell_row rfl _ _ (w.heap.size + 1) _ _ _ _ rfl (setRow_heap _ _ _ _ _ _ HR3.out) Tryz.underlying36 rfl (by rw [infoSecret, cells_size, Hlen.out])) rfl ⟨?_, below_setRow hBf (by simp) _⟩
               rw [Hpart.out, if_pos hlt])
            | (go_wp2_with (first | (refine wpList_store_row rfl 36 _ _ rfl (w.heap.size + 1) _ rfl rfl _ _ HR3.out (by rw [infoSecret, cells_size, Hlen2.out]) (by rw [cells_size, cells_size, Hlen2.out]; rfl) (cells_one _) ?_))
               refine bodyPost_ret (results_cell_row rfl _ _ (w.heap.size + 1) _ _ _ _ rfl (setRow_heap _ _ _ _ _ _ HR3.out) Tryz.underlying36 rfl (by rw [infoSecret, cells_size, Hlen2.out])) rfl ⟨?_, below_setRow hBf (by simp) _⟩
               rw [Hpart.out, if_neg hlt])

set_option maxRecDepth 100000 in
set_option maxHeartbeats 400000 in
theorem refFits_yes (w : World) (n m : Int) (h1 : 1 ≤ n) (h2 : n ≤ 16) (h3 : 0 ≤ m) (h4 : m < n) :
    Calls Tryz.prog 11 #[.int .i64 n, .int .i64 m] w fun e w' => e = .returned (.bool true) ∧ w' = w := by
  go_enter Tryz.func11, Tryz.ntmps11
  go_wp2
  go_ret
  exact ⟨rfl, rfl⟩
set_option maxRecDepth 100000 in
set_option maxHeartbeats 400000 in
theorem refFits_no (w : World) (n m : Int) (h : ¬ (1 ≤ n ∧ n ≤ 16 ∧ 0 ≤ m ∧ m < n)) :
    Calls Tryz.prog 11 #[.int .i64 n, .int .i64 m] w fun e w' => e = .returned (.bool false) ∧ w' = w := by
  by_cases h1 : 1 ≤ n
  · by_cases h2 : n ≤ 16
    · by_cases h3 : 0 ≤ m
      · have h4 : ¬ m < n := fun h4 => h ⟨h1, h2, h3, h4⟩
        clear h
        go_enter Tryz.func11, Tryz.ntmps11
        go_wp2
        go_ret
        exact ⟨rfl, rfl⟩
      · clear h
        go_enter Tryz.func11, Tryz.ntmps11
        go_wp2
        go_ret
        exact ⟨rfl, rfl⟩
    · clear h
      go_enter Tryz.func11, Tryz.ntmps11
      go_wp2
      go_ret
      exact ⟨rfl, rfl⟩
  · clear h
    go_enter Tryz.func11, Tryz.ntmps11
    go_wp2
    go_ret
    exact ⟨rfl, rfl⟩

set_option maxRecDepth 100000 in
set_option maxHeartbeats 2000000 in
theorem refRatchet_any (w : World) (root : List UInt8) (n m g : Nat) (hk : root.length = 8) (hm : m < n) (hn : n ≤ 16) (hg : g ≤ 65536) :
    Calls Tryz.prog 35 #[.agg (cells root), .int .i64 n, .int .i64 m, .int .i64 g] w fun e w' => e = .returned (.agg (cells (ratL (leafL root n m) g))) ∧ Below w.heap.size w w' := by
  have Hk := Lib.hid hk
  clear hk
  obtain ⟨m1, hm1e⟩ : ∃ m1, m1 = m + 1 := ⟨_, rfl⟩
  have hm1 : (m : Int) + 1 = (m1 : Int) := by omega
  have Hm1 := Lib.hid hm1e
  clear hm1e
  go_enter Tryz.func35, Tryz.ntmps35
  go_upto_region 1 with (fail)
  generalize hW : World.alloc (World.alloc _ _) _ = W
  have hS : W.heap[w.heap.size]? = some (.cells (cells root) 36 (0, 0)) := by rw [← hW]; exact heap_alloc2_old w _ _
  have hR : W.heap[w.heap.size + 1]? = some (.cells (cells [0, 0, 0, 0, 0, 0, 0, 0]) 36 (0, 0)) := by rw [← hW]; exact heap_alloc2_new w _ _
  have hWb : Below w.heap.size w W := by rw [← hW]; exact balloc (balloc (Below.refl _ _) _) _
  have hRs : w.heap.size + 1 < W.heap.size := (Array.getElem?_eq_some_iff.1 hR).1
  have HS := Lib.hid hS
  have HR := Lib.hid hR
  clear hS hR hW
  go_wp2_with (first | (refine wpList_load_row rfl 36 _ rfl w.heap.size rfl _ _ _ _ HS.out Tryz.underlying36 rfl (by rw [infoSecret, cells_size, Hk.out]) ?_))
  refine (part_any 16 W root 0 n m m1 Hk.out hn (by rw [Hm1.out]; exact leaf_node 16 0 n m (Nat.zero_le _) hm (by omega))).mono ?_
  rintro e w1 ⟨rfl, hb1⟩
  rw [Hm1.out, ← leafL]
  have hll : (leafL root n m).length = 8 := partL_length _ _ _ _ _ _ Hk.out
  generalize hlf : leafL root n m = leaf at *
  have Hlf := Lib.hid hlf
  clear hlf
  have Hll := Lib.hid hll
  clear hll
  have r1 := bnext hWb hb1
  go_wp2_with (first | (refine wpList_store_row rfl 36 _ _ rfl _ _ rfl rfl _ _ (heap_alloc_new _ _) (by rw [infoSecret, cells_size, Hll.out]) (by rw [cells_size, Hll.out]; rfl) (cells_one _) ?_; rw [World.setRow_alloc_new]) | (refine wpList_load_row rfl 36 _ rfl w1.heap.size rfl _ _ _ _ (heap_alloc_new _ _) Tryz.underlying36 rfl (by rw [infoSecret, cells_size, Hll.out]) ?_))
  refine (refDerive_any _ leaf _ _ Hll.out (by decide)).mono ?_
  rintro e w2 ⟨rfl, hb2⟩
  rw [lRatchet_eq, ← ratL]
  have hrl := ratL_length leaf
  have Hrl := Lib.hid hrl
  clear hrl
  have r2 := bnext (balloc r1 _) hb2
  have hR2 : w2.heap[w.heap.size + 1]? = some (.cells (cells [0, 0, 0, 0, 0, 0, 0, 0]) 36 (0, 0)) := by
    rw [hb2.block _ (Nat.lt_of_lt_of_le hRs (Nat.le_trans hb1.size (by simp))), Below.heap_alloc _ _ _ (Nat.lt_of_lt_of_le hRs hb1.size), hb1.block _ hRs]
    exact HR.out
  have hRs2 : w.heap.size + 1 < w2.heap.size := (Array.getElem?_eq_some_iff.1 hR2).1
  have HR2 := Lib.hid hR2
  clear hR2
  go_wp2_with (first | (refine wpList_store_row rfl 36 _ _ rfl _ _ rfl rfl _ _ (heap_alloc_new _ _) (by rw [infoSecret, cells_size, Hrl.out]) (by rw [cells_size, Hrl.out]; rfl) (cells_one _) ?_; rw [World.setRow_alloc_new]))
  go_loopw [11] (fun i wr => ∃ j : Nat, j ≤ g ∧ i = .int .i64 j ∧ wr.heap[w2.heap.size]? = some (.cells (cells (ratL leaf j)) 36 (0, 0)) ∧ wr.heap[w.heap.size + 1]? = some (.cells (cells [0, 0, 0, 0, 0, 0, 0, 0]) 36 (0, 0)) ∧ Below w.heap.size w wr) (fun i _ => g - (intOf i).toNat)
  case atStart => exact ⟨0, Nat.zero_le _, rfl, heap_alloc_new _ _, (Below.heap_alloc _ _ _ hRs2).trans HR2.out, balloc r2 _⟩
  case round =>
    obtain ⟨j, hj, rfl, hro, hrR, hrb⟩ := hrel
    have Hro := Lib.hid hro
    have HrR := Lib.hid hrR
    have hs1 := (Array.getElem?_eq_some_iff.1 hro).1
    have hs2 := (Array.getElem?_eq_some_iff.1 hrR).1
    clear hro hrR
    by_cases hlt : j < g
    · go_wp2_with (first | (refine wpList_load_row rfl 36 _ rfl w2.heap.size rfl _ _ _ _ Hro.out Tryz.underlying36 rfl (by rw [infoSecret, cells_size, Hrl.out]) ?_))
      refine (refDerive_any _ (ratL leaf j) _ _ (Hrl.out _) (by decide)).mono ?_
      rintro e w3 ⟨rfl, hb3⟩
      rw [lNext_eq, ← ratL]
      have hro3 : w3.heap[w2.heap.size]? = some (.cells (cells (ratL leaf j)) 36 (0, 0)) := (hb3.block _ hs1).trans Hro.out
      have hrR3 : w3.heap[w.heap.size + 1]? = some (.cells (cells [0, 0, 0, 0, 0, 0, 0, 0]) 36 (0, 0)) := (hb3.block _ hs2).trans HrR.out
      have Hro3 := Lib.hid hro3
      have HrR3 := Lib.hid hrR3
      clear hro3 hrR3
      go_wp2_with (first | (refine wpList_store_row rfl 36 _ _ rfl w2.heap.size _ rfl rfl _ _ Hro3.out (by rw [infoSecret, cells_size, Hrl.out]) (by rw [cells_size, cells_size, Hrl.out, Hrl.out]) (cells_one _) ?_))
      go_roundw
      case rel => exact ⟨j + 1, by omega, by go_num, setRow_heap _ _ _ _ _ _ Hro3.out, (setRow_other _ _ _ _ (by omega)).trans HrR3.out, below_setRow (bnext hrb hb3) (by omega) _⟩
      case measure => simp [intOf]; omega
    · obtain rfl : j = g := by omega
      clear hlt
      go_wp2_with (first | (refine wpList_load_row rfl 36 _ rfl w2.heap.size rfl _ _ _ _ Hro.out Tryz.underlying36 rfl (by rw [infoSecret, cells_size, Hrl.out]) ?_) | (refine wpList_store_row rfl 36 _ _ rfl (w.heap.size + 1) _ rfl rfl _ _ HrR.out (by rw [infoSecret, cells_size, Hrl.out]) (by rw [cells_size, cells_size, Hrl.out]; rfl) (cells_one _) ?_))
      refine bodyPost_ret (results_cell_row rfl _ _ (w.heap.size + 1) _ _ _ _ rfl (setRow_heap _ _ _ _ _ _ HrR.out) Tryz.underlying36 rfl (by rw [infoSecret, cells_size, Hrl.out])) rfl ⟨by rw [Hlf.out], below_setRow hrb (by simp) _⟩

/-- The answer of a call that gives a secret and an error's number. -/
def zeroS : List UInt8 := [0, 0, 0, 0, 0, 0, 0, 0]
set_option maxRecDepth 100000 in
set_option maxHeartbeats 1000000 in
theorem refKey_no (w : World) (root : List UInt8) (n m g : Int) (h : ¬ (1 ≤ n ∧ n ≤ 16 ∧ 0 ≤ m ∧ m < n)) :
    Calls Tryz.prog 36 #[.agg (cells root), .int .i64 n, .int .i64 m, .int .i64 g] w fun e w' => e = .returned (.tuple #[.agg (cells zeroS), .int .i64 1]) ∧ Below w.heap.size w w' := by
  have H := Lib.hid h
  clear h
  go_enter Tryz.func36, Tryz.ntmps36
  go_upto_region 1 with (fail)
  generalize hW : World.alloc (World.alloc _ _) _ = W
  have hR : W.heap[w.heap.size + 1]? = some (.cells (cells zeroS) 36 (0, 0)) := by rw [← hW]; exact heap_alloc2_new w _ _
  have hWb : Below w.heap.size w W := by rw [← hW]; exact balloc (balloc (Below.refl _ _) _) _
  have HR := Lib.hid hR
  clear hR hW
  go_wp2_with fail
  refine (refFits_no _ n m H.out).mono ?_
  rintro e w' ⟨rfl, rfl⟩
  go_wp2_with (refine wpList_store_row rfl 36 _ _ rfl (w.heap.size + 1) (cells zeroS) rfl rfl _ _ HR.out (by rw [infoSecret, cells_size]; rfl) rfl (cells_one _) ?_)
  refine bodyPost_ret (results_cell_row2 rfl _ _ (w.heap.size + 1) _ _ _ _ rfl (setRow_heap _ _ _ _ _ _ HR.out) Tryz.underlying36 rfl (by rw [infoSecret, cells_size]; rfl)) rfl ⟨rfl, below_setRow hWb (by simp) _⟩
set_option maxRecDepth 100000 in
set_option maxHeartbeats 1000000 in
theorem refKey_spent (w : World) (root : List UInt8) (n m : Nat) (g : Int) (hm : m < n) (hn : n ≤ 16) (hg : g < 0 ∨ 65535 < g) :
    Calls Tryz.prog 36 #[.agg (cells root), .int .i64 n, .int .i64 m, .int .i64 g] w fun e w' => e = .returned (.tuple #[.agg (cells zeroS), .int .i64 8]) ∧ Below w.heap.size w w' := by
  have hgg : (decide (g < 0) = true) ∨ (decide (g < 0) = false ∧ decide (65535 < g) = true) := by
    rcases hg with h | h
    · exact .inl (by simpa using h)
    · exact .inr ⟨by simp; omega, by simpa using h⟩
  clear hg
  rcases hgg with hg1 | ⟨hg1, hg2⟩
  all_goals
    go_enter Tryz.func36, Tryz.ntmps36
    go_upto_region 1 with (fail)
    generalize hW : World.alloc (World.alloc _ _) _ = W
    have hR : W.heap[w.heap.size + 1]? = some (.cells (cells zeroS) 36 (0, 0)) := by rw [← hW]; exact heap_alloc2_new w _ _
    have hWb : Below w.heap.size w W := by rw [← hW]; exact balloc (balloc (Below.refl _ _) _) _
    have HR := Lib.hid hR
    clear hR hW
    go_wp2_with fail
    refine (refFits_yes _ n m (by omega) (by omega) (by omega) (by omega)).mono ?_
    rintro e w' ⟨rfl, rfl⟩
    go_wp2_with (refine wpList_store_row rfl 36 _ _ rfl (w.heap.size + 1) (cells zeroS) rfl rfl _ _ HR.out (by rw [infoSecret, cells_size]; rfl) rfl (cells_one _) ?_)
    refine bodyPost_ret (results_cell_row2 rfl _ _ (w.heap.size + 1) _ _ _ _ rfl (setRow_heap _ _ _ _ _ _ HR.out) Tryz.underlying36 rfl (by rw [infoSecret, cells_size]; rfl)) rfl ⟨rfl, below_setRow hWb (by simp) _⟩
set_option maxRecDepth 100000 in
set_option maxHeartbeats 1000000 in
theorem refKey_yes (w : World) (root : List UInt8) (n m g : Nat) (hk : root.length = 8) (hm : m < n) (hn : n ≤ 16) (hg : g ≤ 65535) :
    Calls Tryz.prog 36 #[.agg (cells root), .int .i64 n, .int .i64 m, .int .i64 g] w fun e w' => e = .returned (.tuple #[.agg (cells (keyL (leafL root n m) g)), .int .i64 0]) ∧ Below w.heap.size w w' := by
  have Hk := Lib.hid hk
  clear hk
  have hg1 : decide ((g : Int) < 0) = false := by simp
  have hg2 : decide ((65535 : Int) < (g : Int)) = false := by simp; omega
  go_enter Tryz.func36, Tryz.ntmps36
  go_upto_region 1 with (fail)
  generalize hW : World.alloc (World.alloc _ _) _ = W
  have hS : W.heap[w.heap.size]? = some (.cells (cells root) 36 (0, 0)) := by rw [← hW]; exact heap_alloc2_old w _ _
  have hR : W.heap[w.heap.size + 1]? = some (.cells (cells zeroS) 36 (0, 0)) := by rw [← hW]; exact heap_alloc2_new w _ _
  have hWb : Below w.heap.size w W := by rw [← hW]; exact balloc (balloc (Below.refl _ _) _) _
  have hRs : w.heap.size + 1 < W.heap.size := (Array.getElem?_eq_some_iff.1 hR).1
  have HS := Lib.hid hS
  have HR := Lib.hid hR
  clear hS hR hW
  go_wp2_with fail
  refine (refFits_yes _ n m (by omega) (by omega) (by omega) (by omega)).mono ?_
  rintro e w' ⟨rfl, rfl⟩
  go_wp2_with (first | (refine wpList_load_row rfl 36 _ rfl w.heap.size rfl _ _ _ _ HS.out Tryz.underlying36 rfl (by rw [infoSecret, cells_size, Hk.out]) ?_))
  refine (refRatchet_any _ root n m g Hk.out hm hn (by omega)).mono ?_
  rintro e w1 ⟨rfl, hb1⟩
  have hll := ratL_length (leafL root n m) g
  have hke : keyL (leafL root n m) g = kd (ratL (leafL root n m) g) lKey g := rfl
  generalize ratL (leafL root n m) g = rt at *
  have Hll := Lib.hid hll
  have Hke := Lib.hid hke
  clear hll hke
  go_wp2_with (first | (refine wpList_store_row rfl 36 _ _ rfl w1.heap.size _ rfl rfl _ _ (heap_alloc_new _ _) (by rw [infoSecret, cells_size, Hll.out]) (by rw [cells_size, Hll.out]; rfl) (cells_one _) ?_; rw [World.setRow_alloc_new]) | (refine wpList_load_row rfl 36 _ rfl w1.heap.size rfl _ _ _ _ (heap_alloc_new _ _) Tryz.underlying36 rfl (by rw [infoSecret, cells_size, Hll.out]) ?_))
  refine (refDerive_any _ rt _ _ Hll.out (by decide)).mono ?_
  rintro e w2 ⟨rfl, hb2⟩
  rw [lKey_eq, ← Hke.out]
  have hkl : (keyL (leafL root n m) g).length = 8 := kd_length _ _ _
  generalize hkk : keyL (leafL root n m) g = key at *
  have Hkk := Lib.hid hkk
  clear hkk
  have Hkl := Lib.hid hkl
  have hR1 : (w2.alloc (.cells (cells key) 36)).heap[w.heap.size + 1]? = some (.cells (cells zeroS) 36 (0, 0)) := by
    have h1 := Nat.lt_of_lt_of_le hRs hb1.size
    rw [Below.heap_alloc _ _ _ (Nat.lt_of_lt_of_le h1 (Nat.le_trans (by simp) hb2.size)), hb2.block _ (Nat.lt_of_lt_of_le h1 (by simp)), Below.heap_alloc _ _ _ h1, hb1.block _ hRs]; exact HR.out
  have HR1 := Lib.hid hR1
  clear hR1 hkl
  go_wp2_with (first | (refine wpList_store_row rfl 36 _ _ rfl w2.heap.size _ rfl rfl _ _ (heap_alloc_new _ _) (by rw [infoSecret, cells_size, Hkl.out]) (by rw [cells_size, Hkl.out]; rfl) (cells_one _) ?_; rw [World.setRow_alloc_new]) | (refine wpList_load_row rfl 36 _ rfl w2.heap.size rfl _ _ _ _ (heap_alloc_new _ _) Tryz.underlying36 rfl (by rw [infoSecret, cells_size, Hkl.out]) ?_) | (refine wpList_store_row rfl 36 _ _ rfl (w.heap.size + 1) _ rfl rfl _ _ HR1.out (by rw [infoSecret, cells_size, Hkl.out]) (by rw [cells_size, cells_size, Hkl.out]; rfl) (cells_one _) ?_))
  refine bodyPost_ret (results_cell_row2 rfl _ _ (w.heap.size + 1) _ _ _ _ rfl (setRow_heap _ _ _ _ _ _ HR1.out) Tryz.underlying36 rfl (by rw [infoSecret, cells_size, Hkl.out])) rfl ⟨by rw [Hkk.out]; rfl, below_setRow (balloc (bnext (balloc (bnext hWb hb1) _) hb2) _) (by simp) _⟩
end Go.Proofs.YtccidllcjaaeeabGreatDoor
/- The walks of package ratchet: New and Next. Conditions: the secret has eight bytes, the ratchet's block and the counter are apart, the generation is from 0 to 65535. -/
namespace Go.Proofs.YtccidllcjaaeeabGreatDoor
set_option maxRecDepth 100000
open Go.RowKit
/-- A ratchet's cells. -/
def rcells (s : List UInt8) (g : Int) : Array Value := cells s ++ #[Value.int .i64 g]
theorem rcells_size (s : List UInt8) (g : Int) (hs : s.length = 8) : (rcells s g).size = 9 := by rw [rcells, Array.size_append, cells_size, hs]; rfl
theorem rcells_zero : rcells zeroS 0 = #[.int .u8 0, .int .u8 0, .int .u8 0, .int .u8 0, .int .u8 0, .int .u8 0, .int .u8 0, .int .u8 0, .int .i64 0] := by simp [rcells, cells, zeroS]
theorem infoRatchet : (Tryz.prog.info? 102).map (·.size) = some 9 := by kernel_rfl
theorem built_ratchet (k : List UInt8) (hk : k.length = 8) : Tryz.prog.built 102 [(0, .agg (cells k))] = some (rcells k 0) := by
  obtain ⟨a0, a1, a2, a3, a4, a5, a6, a7, rfl⟩ := eight hk
  kernel_rfl
theorem rcells_one (k : List UInt8) (g : Int) : (rcells k g).all (·.oneCell') = true := by
  refine Array.all_eq_true_iff_forall_mem.2 fun v hv => ?_
  rw [rcells, Array.mem_append] at hv
  rcases hv with hv | hv
  · exact cells_oneCell k v (by simpa using hv)
  · simp only [List.mem_toArray, List.mem_singleton] at hv
    subst hv
    rfl
theorem wpList_build_rat {w : World} {ops : Array Oper} {rest : List Oper} {o : Oper} {a : Act} {Q : Exit → Act → World → Prop} (hgd : o.guard = none) (x : Operand) (ho : o.op = .build 102 #[(0, x)])
    (k : List UInt8) (hk : k.length = 8) (hx : a.eval x = .agg (cells k)) (h : wpList Tryz.prog ops Q rest (a.put o.dst (.agg (rcells k 0))) w) : wpList Tryz.prog ops Q (o :: rest) a w := by
  have hb := built_ratchet k hk
  refine wpList_build hgd 102 _ ho ?_ ?_
  · simp only [List.map_toArray, List.map_cons, List.map_nil, hx, hb]; rfl
  · simp only [List.map_toArray, List.map_cons, List.map_nil, hx, hb]; exact h
set_option maxRecDepth 100000 in
set_option maxHeartbeats 400000 in
theorem ratNew_any (D o : Nat) (v : Int) (w : World) (leaf : List UInt8) (hk : leaf.length = 8)
    (hx : w.cell? ⟨D, o, none⟩ = some (.int .i64 v)) (hf : w.frozen? ⟨D, o, none⟩ = false) (hb0 : 0 ≤ v) (hb1 : v ≤ 4611686018427000000) :
    Calls Tryz.prog 87 #[.pointer (some ⟨D, o, none⟩), .agg (cells leaf)] w fun e w' => e = .returned (.agg (rcells (kd leaf lRatchet 0) 0)) ∧ Below w.heap.size (w.setCell ⟨D, o, none⟩ (.int .i64 (v + 1))) w' := by
  have hD : D < w.heap.size := block_lt_of_cell hx
  have Hk := Lib.hid hk
  clear hk
  go_enter Tryz.func87, Tryz.ntmps87
  go_upto_region 1 with (fail)
  generalize hW : World.alloc (World.alloc _ _) _ = W
  have hS : W.heap[w.heap.size]? = some (.cells (cells leaf) 36 (0, 0)) := by rw [← hW]; exact heap_alloc2_old w _ _
  have hR : W.heap[w.heap.size + 1]? = some (.cells (rcells zeroS 0) 102 (0, 0)) := by rw [← hW, rcells_zero]; exact heap_alloc2_new w _ _
  have hWb : Below w.heap.size w W := by rw [← hW]; exact balloc (balloc (Below.refl _ _) _) _
  have hRs : w.heap.size + 1 < W.heap.size := (Array.getElem?_eq_some_iff.1 hR).1
  have HS := Lib.hid hS
  have HR := Lib.hid hR
  clear hS hR hW
  go_wp2_with (first | (refine wpList_load_row rfl 36 _ rfl w.heap.size rfl _ _ _ _ HS.out Tryz.underlying36 rfl (by rw [infoSecret, cells_size, Hk.out]) ?_))
  refine (derive_any D o v _ leaf _ _ Hk.out (by decide) (by rw [hWb.cell hD]; exact hx) (by rw [hWb.frozen hD]; exact hf) hb0 (by omega)).mono ?_
  rintro e w1 ⟨rfl, hb1⟩
  rw [lRatchet_eq]
  have hr := cnt_base hWb hb1
  have hR1 : w1.heap[w.heap.size + 1]? = some (.cells (rcells zeroS 0) 102 (0, 0)) := by rw [cnt_other hb1 hRs (by omega)]; exact HR.out
  have HR1 := Lib.hid hR1
  clear hR1
  go_wp2_with (first | (refine wpList_build_rat rfl _ rfl _ (kd_length _ _ _) rfl ?_) | (refine wpList_store_row rfl 102 _ _ rfl (w.heap.size + 1) _ rfl rfl _ _ HR1.out (by rw [infoRatchet, rcells_size _ _ (kd_length _ _ _)]) (by rw [rcells_size _ _ (kd_length _ _ _), rcells_size _ _ rfl]) (rcells_one _ _) ?_))
  refine bodyPost_ret (results_cell_row rfl _ _ (w.heap.size + 1) _ _ _ _ rfl (setRow_heap _ _ _ _ _ _ HR1.out) Tryz.underlying102 rfl (by rw [infoRatchet, rcells_size _ _ (kd_length _ _ _)])) rfl ⟨rfl, below_setRow hr (by simp) _⟩

theorem nine_cells {w : World} {b t : Nat} {fr : Nat × Nat} {k : List UInt8} {g : Int} {a0 a1 a2 a3 a4 a5 a6 a7 : UInt8} (hk : k = [a0, a1, a2, a3, a4, a5, a6, a7]) (h : w.heap[b]? = some (.cells (rcells k g) t fr)) :
    w.cell? ⟨b, 0, none⟩ = some (.int .u8 a0.toNat) ∧ w.cell? ⟨b, 1, none⟩ = some (.int .u8 a1.toNat) ∧ w.cell? ⟨b, 2, none⟩ = some (.int .u8 a2.toNat) ∧ w.cell? ⟨b, 3, none⟩ = some (.int .u8 a3.toNat) ∧ w.cell? ⟨b, 4, none⟩ = some (.int .u8 a4.toNat) ∧ w.cell? ⟨b, 5, none⟩ = some (.int .u8 a5.toNat) ∧ w.cell? ⟨b, 6, none⟩ = some (.int .u8 a6.toNat) ∧ w.cell? ⟨b, 7, none⟩ = some (.int .u8 a7.toNat) ∧ w.cell? ⟨b, 8, none⟩ = some (.int .i64 g) := by
  subst hk
  have e : rcells [a0, a1, a2, a3, a4, a5, a6, a7] g = #[.int .u8 a0.toNat, .int .u8 a1.toNat, .int .u8 a2.toNat, .int .u8 a3.toNat, .int .u8 a4.toNat, .int .u8 a5.toNat, .int .u8 a6.toNat, .int .u8 a7.toNat, .int .i64 g] := by simp [rcells, cells]
  rw [e] at h
  refine ⟨?_, ?_, ?_, ?_, ?_, ?_, ?_, ?_, ?_⟩ <;> (rw [cell_of_row _ _ _ _ _ _ h]; rfl)
theorem row_frozen {w : World} {b t : Nat} {cs : Array Value} (h : w.heap[b]? = some (.cells cs t (0, 0))) : ∀ j, w.frozen? ⟨b, j, none⟩ = false := fun _ => frozen_of_row _ _ _ _ _ h
theorem cnt_row {w w' : World} {D o g : Nat} {x : Value} {ob : Obj} (h : Below w.heap.size (w.setCell ⟨D, o, none⟩ x) w') (hg : w.heap[g]? = some ob) (hD : g ≠ D) : w'.heap[g]? = some ob :=
  (cnt_other h (Array.getElem?_eq_some_iff.1 hg).1 hD).trans hg
/-- Eight stores into the first eight cells of a row. -/
def store8 (w : World) (b : Nat) (v0 v1 v2 v3 v4 v5 v6 v7 : Value) : World :=
  (((((((w.setCell ⟨b, 0, none⟩ v0).setCell ⟨b, 1, none⟩ v1).setCell ⟨b, 2, none⟩ v2).setCell ⟨b, 3, none⟩ v3).setCell ⟨b, 4, none⟩ v4).setCell ⟨b, 5, none⟩ v5).setCell ⟨b, 6, none⟩ v6).setCell ⟨b, 7, none⟩ v7
theorem store8_eq {w : World} {b t : Nat} {cs : Array Value} (h : w.heap[b]? = some (.cells cs t (0, 0))) (v0 v1 v2 v3 v4 v5 v6 v7 : Value) :
    store8 w b v0 v1 v2 v3 v4 v5 v6 v7 = w.setRow b (((((((cs.setIfInBounds 0 v0).setIfInBounds 1 v1).setIfInBounds 2 v2).setIfInBounds 3 v3).setIfInBounds 4 v4).setIfInBounds 5 v5).setIfInBounds 6 v6 |>.setIfInBounds 7 v7) := by
  have h0 := heap_setCell_same w b 0 cs t v0 h
  have h1 := heap_setCell_same _ b 1 _ t v1 h0
  have h2 := heap_setCell_same _ b 2 _ t v2 h1
  have h3 := heap_setCell_same _ b 3 _ t v3 h2
  have h4 := heap_setCell_same _ b 4 _ t v4 h3
  have h5 := heap_setCell_same _ b 5 _ t v5 h4
  have h6 := heap_setCell_same _ b 6 _ t v6 h5
  unfold store8
  rw [setCell_eq_setRow _ _ _ _ _ _ _ h6, setCell_eq_setRow _ _ _ _ _ _ _ h5, setRow_setRow, setCell_eq_setRow _ _ _ _ _ _ _ h4, setRow_setRow, setCell_eq_setRow _ _ _ _ _ _ _ h3, setRow_setRow, setCell_eq_setRow _ _ _ _ _ _ _ h2, setRow_setRow, setCell_eq_setRow _ _ _ _ _ _ _ h1, setRow_setRow, setCell_eq_setRow _ _ _ _ _ _ _ h0, setRow_setRow, setCell_eq_setRow _ _ _ _ _ _ _ h, setRow_setRow]
theorem set8_secret (k : List UInt8) (hk : k.length = 8) (v0 v1 v2 v3 v4 v5 v6 v7 : Value) :
    (((((((((cells k).setIfInBounds 0 v0).setIfInBounds 1 v1).setIfInBounds 2 v2).setIfInBounds 3 v3).setIfInBounds 4 v4).setIfInBounds 5 v5).setIfInBounds 6 v6).setIfInBounds 7 v7) = #[v0, v1, v2, v3, v4, v5, v6, v7] := by
  obtain ⟨a0, a1, a2, a3, a4, a5, a6, a7, rfl⟩ := eight hk
  simp [cells]
theorem set8_ratchet (k : List UInt8) (hk : k.length = 8) (g : Int) (v0 v1 v2 v3 v4 v5 v6 v7 : Value) :
    (((((((((rcells k g).setIfInBounds 0 v0).setIfInBounds 1 v1).setIfInBounds 2 v2).setIfInBounds 3 v3).setIfInBounds 4 v4).setIfInBounds 5 v5).setIfInBounds 6 v6).setIfInBounds 7 v7) = #[v0, v1, v2, v3, v4, v5, v6, v7] ++ #[Value.int .i64 g] := by
  obtain ⟨a0, a1, a2, a3, a4, a5, a6, a7, rfl⟩ := eight hk
  simp [rcells, cells]
theorem setRow_heap_of {a b : World} (g : Nat) (cs : Array Value) (k : Nat) (h : a.heap[k]? = b.heap[k]?) : (a.setRow g cs).heap[k]? = (b.setRow g cs).heap[k]? := by
  simp only [World.setRow, Array.getElem?_modify, h]
theorem below_setRow_both {B : Nat} {a w : World} (h : Below B a w) (g : Nat) (cs : Array Value) : Below B (a.setRow g cs) (w.setRow g cs) :=
  ⟨h.os, h.tape, h.output, by simpa using h.size, fun k hk => setRow_heap_of g cs k (h.block k hk)⟩
theorem below_store8 {B : Nat} {a w : World} (h : Below B a w) {b : Nat} (hb : B ≤ b) (v0 v1 v2 v3 v4 v5 v6 v7 : Value) : Below B a (store8 w b v0 v1 v2 v3 v4 v5 v6 v7) :=
  (((((((h.setCell (p := ⟨b, 0, none⟩) hb v0).setCell (p := ⟨b, 1, none⟩) hb v1).setCell (p := ⟨b, 2, none⟩) hb v2).setCell (p := ⟨b, 3, none⟩) hb v3).setCell (p := ⟨b, 4, none⟩) hb v4).setCell (p := ⟨b, 5, none⟩) hb v5).setCell (p := ⟨b, 6, none⟩) hb v6).setCell (p := ⟨b, 7, none⟩) hb v7
/-- What Next leaves of the secret. -/
def nextS (s : List UInt8) (g : Nat) : List UInt8 := if g < 65535 then kd s lNext (g : Int) else zeroS
theorem nextS_length (s : List UInt8) (g : Nat) : (nextS s g).length = 8 := by unfold nextS; split <;> rfl
def nextN (g : Nat) : Int := if g < 65535 then 2 else 1

theorem run_storeCells_row {P : Program} {w : World} {g t : Nat} {cur : Array Value} (h : w.heap[g]? = some (.cells cur t (0, 0))) (k : List UInt8) (hs : cur.size = k.length) :
    (storeCells ⟨g, 0, none⟩ (cells k).toList).run P w = .ok () (w.setRow g (cells k)) := by
  have hst := run_storeCells_at P g 0 t (cells k).toList 0 cur w h (by rw [cells_len]; omega) (cells_oneCell k)
  have hd : cur.toList.drop (cells k).toList.length = [] := List.drop_eq_nil_of_le (by rw [cells_len, Array.length_toList]; omega)
  simp only [Nat.add_zero, Nat.zero_add, List.take_zero, List.nil_append, hd, List.append_nil, Array.toArray_toList] at hst
  exact hst
theorem run_storeCells_fresh {P : Program} (k : List UInt8) (hk : k.length = 8) (w : World) (t : TypeId) :
    (storeCells ⟨w.heap.size, 0, none⟩ (cells k).toList).run P (w.alloc (.cells #[.int .u8 0, .int .u8 0, .int .u8 0, .int .u8 0, .int .u8 0, .int .u8 0, .int .u8 0, .int .u8 0] t)) = .ok () (w.alloc (.cells (cells k) t)) := by
  rw [run_storeCells_row (heap_alloc_new w _) k (by rw [hk]; rfl), World.setRow_alloc_new]
theorem run_storeCells_rat {P : Program} {w : World} {R t : Nat} {s : List UInt8} {g : Int} (h : w.heap[R]? = some (.cells (rcells s g) t (0, 0))) (hs : s.length = 8) (k : List UInt8) (hk : k.length = 8) :
    (storeCells ⟨R, 0, none⟩ (cells k).toList).run P w = .ok () (w.setRow R (rcells k g)) := by
  have hst := run_storeCells_at P R 0 t (cells k).toList 0 (rcells s g) w h (by rw [cells_len, rcells_size _ _ hs, hk]; decide) (cells_oneCell k)
  have hd : (rcells s g).toList.drop (cells k).toList.length = [Value.int .i64 g] := by
    obtain ⟨a0, a1, a2, a3, a4, a5, a6, a7, rfl⟩ := eight hs
    rw [cells_len, hk]
    simp [rcells, cells]
  simp only [Nat.add_zero, Nat.zero_add, List.take_zero, List.nil_append, hd] at hst
  rw [hst]
  congr 2
  apply Array.ext'
  simp [rcells]
theorem rcells_set8 (k : List UInt8) (hk : k.length = 8) (g x : Int) : (rcells k g).setIfInBounds 8 (.int .i64 x) = rcells k x := by
  obtain ⟨a0, a1, a2, a3, a4, a5, a6, a7, rfl⟩ := eight hk
  simp [rcells, cells]
theorem zeroU8 (w : World) : (zeroValue 5).run Tryz.prog w = .ok (.int .u8 0) w := by kernel_rfl
theorem run_clear_rat {P : Program} {w : World} {R t0 : Nat} {s : List UInt8} {g : Int} (h : w.heap[R]? = some (.cells (rcells s g) t0 (0, 0))) (hs : s.length = 8) (t e ty : TypeId) (ht : P.underlying t = some (.slice e)) (hz : ∀ w : World, (zeroValue e).run P w = .ok (.int .u8 0) w) :
    (Builtin.clear_ #[t] ty #[.slice (some ⟨R, 0, none⟩) 8 8]).run P w = .ok (.tuple #[]) (w.setRow R (rcells zeroS g)) := by
  have h1 := run_storeCells_rat (P := P) h hs zeroS rfl
  have h2 : (Builtin.zeroCells (Value.int .u8 0).cells 8).toList = (cells zeroS).toList := by kernel_rfl
  simp [Builtin.clear_, run_underlying ht, hz, h2, h1]
set_option maxRecDepth 100000 in
set_option maxHeartbeats 2000000 in
theorem next_any (D o R : Nat) (v : Int) (w : World) (s : List UInt8) (g : Nat) (hk : s.length = 8) (hg : g ≤ 65535)
    (hx : w.cell? ⟨D, o, none⟩ = some (.int .i64 v)) (hf : w.frozen? ⟨D, o, none⟩ = false) (hb0 : 0 ≤ v) (hb1 : v ≤ 4611686018427000000)
    (hR : w.heap[R]? = some (.cells (rcells s g) 102 (0, 0))) (hRD : R ≠ D) :
    Calls Tryz.prog 57 #[.pointer (some ⟨R, 0, none⟩), .pointer (some ⟨D, o, none⟩)] w fun e w' =>
      e = .returned (.agg (cells (kd s lKey g))) ∧ Below w.heap.size ((w.setCell ⟨D, o, none⟩ (.int .i64 (v + nextN g))).setRow R (rcells (nextS s g) (g + 1))) w' := by
  have hD : D < w.heap.size := block_lt_of_cell hx
  have hRs : R < w.heap.size := (Array.getElem?_eq_some_iff.1 hR).1
  have Hk := Lib.hid hk
  have HR := Lib.hid hR
  clear hk hR
  obtain ⟨a0, a1, a2, a3, a4, a5, a6, a7, hk8⟩ := eight Hk.out
  have Hk8 := Lib.hid hk8
  clear hk8
  have Hc : Hid (#[Value.int .u8 a0.toNat, .int .u8 a1.toNat, .int .u8 a2.toNat, .int .u8 a3.toNat, .int .u8 a4.toNat, .int .u8 a5.toNat, .int .u8 a6.toNat, .int .u8 a7.toNat] = cells s) := Lib.hid (by rw [Hk8.out]; rfl)
  go_enter Tryz.func57, Tryz.ntmps57
  go_upto_region 1 with (fail)
  generalize hW : World.alloc _ _ = W
  have hWr : W.heap[R]? = some (.cells (rcells s g) 102 (0, 0)) := by rw [← hW, Below.heap_alloc _ _ _ hRs]; exact HR.out
  have hWq : W.heap[w.heap.size]? = some (.cells (cells zeroS) 36 (0, 0)) := by rw [← hW]; exact heap_alloc_new _ _
  have hWb : Below w.heap.size w W := by rw [← hW]; exact balloc (Below.refl _ _) _
  have hWs : w.heap.size < W.heap.size := by rw [← hW]; simp
  clear hW
  obtain ⟨e0, e1, e2, e3, e4, e5, e6, e7, e8⟩ := nine_cells Hk8.out hWr
  have HWr := Lib.hid hWr
  have HWq := Lib.hid hWq
  clear hWr hWq
  have hql := kd_length s lKey g
  obtain ⟨q, hq⟩ : ∃ q, q = kd s lKey g := ⟨_, rfl⟩
  rw [← hq] at hql
  have Hq := Lib.hid hq
  have Hql := Lib.hid hql
  clear hq hql
  have hqs : (cells q).size = 8 := by rw [cells_size, Hql.out]
  have hstA := fun w => run_storeCells_fresh (P := Tryz.prog) q Hql.out w 36
  have Q0 : W.cell? ⟨D, o, none⟩ = some (.int .i64 v) := by rw [hWb.cell hD]; exact hx
  have Q0f : W.frozen? ⟨D, o, none⟩ = false := by rw [hWb.frozen hD]; exact hf
  have hDW : D < W.heap.size := block_lt_of_cell Q0
  have hRW : R < W.heap.size := Nat.lt_of_lt_of_le hRs hWb.size
  have hv1 : v ≤ 4611686018427387904 := by omega
  have hRT : R ≠ W.heap.size := by omega
  go_cut [5] (fun s5 wx => ∃ T, s5 = .pointer (some ⟨T, 0, none⟩) ∧ w.heap.size < T ∧ wx.heap[T]? = some (.cells (cells q) 36 (0, 0)) ∧ wx.heap[R]? = some (.cells (rcells s g) 102 (0, 0)) ∧ wx.heap[w.heap.size]? = some (.cells (cells zeroS) 36 (0, 0)) ∧ Below w.heap.size (w.setCell ⟨D, o, none⟩ (.int .i64 (v + 1))) wx)
  case first =>
    go_region_held3 (fun w' => w'.cell? ⟨R, 0, none⟩ = some (.int .u8 a0.toNat) ∧ w'.cell? ⟨R, 1, none⟩ = some (.int .u8 a1.toNat) ∧ w'.cell? ⟨R, 2, none⟩ = some (.int .u8 a2.toNat) ∧ w'.cell? ⟨R, 3, none⟩ = some (.int .u8 a3.toNat) ∧ w'.cell? ⟨R, 4, none⟩ = some (.int .u8 a4.toNat) ∧ w'.cell? ⟨R, 5, none⟩ = some (.int .u8 a5.toNat) ∧ w'.cell? ⟨R, 6, none⟩ = some (.int .u8 a6.toNat) ∧ w'.cell? ⟨R, 7, none⟩ = some (.int .u8 a7.toNat) ∧ w'.cell? ⟨R, 8, none⟩ = some (.int .i64 g)) (refine ⟨?_, ?_, ?_, ?_, ?_, ?_, ?_, ?_, ?_⟩ <;> (first | assumption | (simp only [World.cell?_drew]; assumption) | ((try simp only [World.cell?_drew]); rw [World.cell?_alloc_past _ _ _ hRw2]; assumption) | ((try simp only [World.cell?_drew]); rw [World.cell?_alloc_past _ _ _ hRW]; assumption) | ((try simp only [World.cell?_drew]); rw [World.cell?_of_block (setRow_other _ _ _ _ hRT)]; assumption))) (first | (go_at_call 88; rw [Hc.out]; refine (derive_any D o v _ s _ _ Hk.out (by decide) ?_ ?_ hb0 hv1).mono ?_; (first | exact Q0 | (simp only [World.cell?_drew]; rw [World.cell?_alloc_past _ _ _ hDW]; exact Q0)); (first | exact Q0f | (simp only [World.frozen?_drew]; rw [World.frozen?_alloc_old _ _ _ (Nat.ne_of_lt hDW)]; exact Q0f)); rintro e w2 ⟨rfl, hb2⟩; rw [lKey_eq, ← Hq.out]; have hrowR : w2.heap[R]? = some (.cells (rcells s g) 102 (0, 0)) := cnt_row hb2 (by first | exact HWr.out | exact (Below.heap_alloc _ _ _ hRW).trans HWr.out) hRD; have hRw2 := (Array.getElem?_eq_some_iff.1 hrowR).1; have HrowR := Lib.hid hrowR; clear hrowR; obtain ⟨k0, k1, k2, k3, k4, k5, k6, k7, k8⟩ := nine_cells Hk8.out HrowR.out; (first | (have zr := cnt_row hb2 (heap_alloc_new W _) (Nat.ne_of_gt hDW); have hstB := run_storeCells_row (P := Tryz.prog) zr q (by rw [Hql.out]; rfl); have Zr := Lib.hid zr; clear zr) | skip)))
    · go_wp2_with fail
      go_meet
      exact ⟨w2.heap.size, rfl, Nat.lt_of_lt_of_le hWs (cnt_size (w := W.drew) hb2), heap_alloc_new _ _, (Below.heap_alloc _ _ _ hRw2).trans HrowR.out, (Below.heap_alloc _ _ _ (Nat.lt_of_lt_of_le hWs (cnt_size (w := W.drew) hb2))).trans (cnt_row (w := W.drew) hb2 HWq.out (by omega)), (cnt_base hWb.drew hb2).alloc (by have := cnt_size (w := W.drew) hb2; have h3 : W.drew.heap.size = W.heap.size := rfl; omega) _⟩
    · go_wp2_with fail
      go_meet
      exact ⟨W.heap.size, rfl, hWs, setRow_heap _ _ _ _ _ _ Zr.out, (setRow_other _ _ _ _ hRT).trans HrowR.out, (setRow_other _ _ _ _ (Nat.ne_of_lt hWs)).trans (cnt_row hb2 ((Below.heap_alloc W _ _ hWs).trans HWq.out) (by omega)), below_setRow (cnt_base (balloc hWb _).drew hb2) (by omega) _⟩
  case rest =>
    obtain ⟨T, rfl, hT, hTq, hRr, hqq, hbb⟩ := hcut
    clear e0 e1 e2 e3 e4 e5 e6 e7 e8 Q0 Q0f hDW hRW hRT
    obtain ⟨e0, e1, e2, e3, e4, e5, e6, e7, e8⟩ := nine_cells Hk8.out hRr
    have Q0 : wc.cell? ⟨D, o, none⟩ = some (.int .i64 (v + 1)) := cnt_cell hbb hx
    have Q0f : wc.frozen? ⟨D, o, none⟩ = false := cnt_frozen hbb hx hf
    have hTs := (Array.getElem?_eq_some_iff.1 hTq).1
    have HTq := Lib.hid hTq
    have HRr := Lib.hid hRr
    have Hqq := Lib.hid hqq
    clear hTq hRr hqq
    by_cases hlt : g < 65535
    · have hv2 : v + 1 ≤ 4611686018427387904 := by omega
      have hv0 : 0 ≤ v + 1 := by omega
      have hql2 := kd_length s lNext g
      obtain ⟨q2, hq2⟩ : ∃ q2, q2 = kd s lNext g := ⟨_, rfl⟩
      rw [← hq2] at hql2
      have Hq2 := Lib.hid hq2
      have Hql2 := Lib.hid hql2
      clear hq2 hql2
      have hqs2 : (cells q2).size = 8 := by rw [cells_size, Hql2.out]
      have hgi : (g : Int) < 65535 := by omega
      have Hlt := Lib.hid hlt
      clear hlt hg
      go_upto_region 3 with (fail)
      clear hgi
      go_cut [6] (fun _ wx => wx.heap[R]? = some (.cells (rcells q2 g) 102 (0, 0)) ∧ wx.heap[T]? = some (.cells (cells q) 36 (0, 0)) ∧ wx.heap[w.heap.size]? = some (.cells (cells zeroS) 36 (0, 0)) ∧ Below w.heap.size ((w.setCell ⟨D, o, none⟩ (.int .i64 (v + 2))).setRow R (rcells q2 g)) wx)
      case first =>
        go_region_with (first | (go_at_call 88; rw [Hc.out]; refine (derive_any D o (v + 1) _ s _ _ Hk.out (by decide) ?_ ?_ hv0 hv2).mono ?_; (first | exact Q0 | (simp only [World.cell?_drew]; exact Q0)); (first | exact Q0f | (simp only [World.frozen?_drew]; exact Q0f)); rintro e w3 ⟨rfl, hb3⟩; rw [lNext_eq, ← Hq2.out]; have hrowR := cnt_row hb3 (show wc.drew.heap[R]? = _ from HRr.out) hRD; have hst := run_storeCells_rat (P := Tryz.prog) hrowR Hk.out q2 Hql2.out; have HrowR := Lib.hid hrowR; clear hrowR))
        all_goals
          go_wp2_with fail
          go_meet
          refine ⟨setRow_heap _ _ _ _ _ _ HrowR.out, (setRow_other _ _ _ _ (by omega)).trans (cnt_row (w := wc.drew) hb3 HTq.out (by omega)), (setRow_other _ _ _ _ (by omega)).trans (cnt_row (w := wc.drew) hb3 Hqq.out (by omega)), below_setRow_both ?_ _ _⟩
          rw [show v + 2 = v + 1 + 1 from by omega]
          exact cnt_next hbb.drew hb3
      case rest =>
        obtain ⟨hr2, ht2, hq2, hbb2⟩ := hcut
        have hns : nextS s g = q2 := by rw [nextS, if_pos Hlt.out, Hq2.out]
        have hnn : nextN g = 2 := by rw [nextN, if_pos Hlt.out]
        rw [← hns] at hr2 hbb2
        rw [← hnn] at hbb2
        have hnl := nextS_length s g
        have Hns := Lib.hid hns
        clear hns hnn e0 e1 e2 e3 e4 e5 e6 e7 e8
        generalize hN : nextS s g = q3 at *
        have HN := Lib.hid hN
        have Hnl := Lib.hid hnl
        clear hN hnl
        obtain ⟨c0, c1, c2, c3, c4, c5, c6, c7, hk9⟩ := eight Hnl.out
        obtain ⟨_, _, _, _, _, _, _, _, e8⟩ := nine_cells hk9 hr2
        have hfr := row_frozen hr2
        have Hr2 := Lib.hid hr2
        have Ht2 := Lib.hid ht2
        have Hq3 := Lib.hid hq2
        clear hr2 ht2 hq2 hk9
        have hTR : T ≠ R := by omega
        have hwR : w.heap.size ≠ R := by omega
        have hgi : (g : Int) < 65536 := by have := Hlt.out; omega
        go_wp2_with (first | (refine wpList_load_row rfl 36 _ rfl T rfl _ _ _ _ ((heap_setCell_other _ _ _ _ hTR).trans Ht2.out) Tryz.underlying36 rfl (by rw [infoSecret, cells_size, Hql.out]) ?_) | (refine wpList_store_row rfl 36 _ _ rfl w.heap.size _ rfl rfl _ _ ((heap_setCell_other _ _ _ _ hwR).trans Hq3.out) (by rw [infoSecret, cells_size, Hql.out]) (by rw [cells_size, cells_size, Hql.out]; rfl) (cells_one _) ?_))
        refine bodyPost_ret (results_cell_row rfl _ _ w.heap.size _ _ _ _ rfl (setRow_heap _ _ _ _ _ _ ((heap_setCell_other _ _ _ _ hwR).trans Hq3.out)) Tryz.underlying36 rfl (by rw [infoSecret, cells_size, Hql.out])) rfl ⟨by rw [Hq.out], ?_⟩
        rw [HN.out, setCell_eq_setRow _ _ _ _ _ _ _ Hr2.out, rcells_set8 _ Hnl.out]
        have hfin := below_setRow_both hbb2 R (rcells q3 ((g : Int) + 1))
        rw [setRow_setRow] at hfin
        exact below_setRow hfin (Nat.le_refl _) _
    · have hge : g = 65535 := by omega
      have hgi : ¬ (g : Int) < 65535 := by omega
      have hgi2 : (g : Int) < 65536 := by omega
      have Hge := Lib.hid hge
      clear hge hlt hg
      have hclr := run_clear_rat (P := Tryz.prog) HRr.out Hk.out 73 5 0 Tryz.underlying73 (fun _ => zeroU8 _)
      have hrz := setRow_heap wc R _ (rcells zeroS g) _ _ HRr.out
      have hz8 := nine_cells (k := zeroS) rfl hrz
      have e8' := hz8.2.2.2.2.2.2.2.2
      have hfr := row_frozen hrz
      have Hrz := Lib.hid hrz
      have hTR : T ≠ R := by omega
      have hwR : w.heap.size ≠ R := by omega
      have Ht3 : Hid ((wc.setRow R (rcells zeroS g)).heap[T]? = some (.cells (cells q) 36 (0, 0))) := Lib.hid ((setRow_other _ _ _ _ hTR).trans HTq.out)
      have Hq3 : Hid ((wc.setRow R (rcells zeroS g)).heap[w.heap.size]? = some (.cells (cells zeroS) 36 (0, 0))) := Lib.hid ((setRow_other _ _ _ _ hwR).trans Hqq.out)
      have hbz := below_setRow_both hbb R (rcells zeroS g)
      clear hrz hz8
      go_upto_region 5 with (fail)
      generalize wc.setRow R (rcells zeroS g) = W5 at *
      go_wp2_with (first | (refine wpList_load_row rfl 36 _ rfl T rfl _ _ _ _ ((heap_setCell_other _ _ _ _ hTR).trans Ht3.out) Tryz.underlying36 rfl (by rw [infoSecret, cells_size, Hql.out]) ?_) | (refine wpList_store_row rfl 36 _ _ rfl w.heap.size _ rfl rfl _ _ ((heap_setCell_other _ _ _ _ hwR).trans Hq3.out) (by rw [infoSecret, cells_size, Hql.out]) (by rw [cells_size, cells_size, Hql.out]; rfl) (cells_one _) ?_))
      refine bodyPost_ret (results_cell_row rfl _ _ w.heap.size _ _ _ _ rfl (setRow_heap _ _ _ _ _ _ ((heap_setCell_other _ _ _ _ hwR).trans Hq3.out)) Tryz.underlying36 rfl (by rw [infoSecret, cells_size, Hql.out])) rfl ⟨by rw [Hq.out], ?_⟩
      rw [setCell_eq_setRow _ _ _ _ _ _ _ Hrz.out, rcells_set8 _ rfl]
      have hfin := below_setRow_both hbz R (rcells zeroS ((g : Int) + 1))
      rw [setRow_setRow] at hfin
      have hns : nextS s g = zeroS := by rw [nextS, if_neg (by rw [Hge.out]; decide)]
      have hnn : nextN g = 1 := by rw [nextN, if_neg (by rw [Hge.out]; decide)]
      rw [hns, hnn]
      exact below_setRow hfin (Nat.le_refl _) _
end Go.Proofs.YtccidllcjaaeeabGreatDoor
/- The shelf's contracts laid at this program: math/bits.Len, slices.IndexFunc, slices.Reverse, slices.Grow. No condition. -/
namespace Go.Proofs.YtccidllcjaaeeabGreatDoor
open Go.Shelf
def Tryz.lays125_ren : Go.Shelf.Ren := ⟨fun | 125 => 50 | 128 => 84 | 129 => 85 | n => n, fun | 46 => 122 | 3 => 3 | 51 => 56 | 53 => 175 | 4 => 4 | 5 => 5 | 9 => 9 | n => n, fun | n => n⟩
theorem Tryz.lays125 : Go.Proofs.Lays.n125 Tryz.prog Tryz.lays125_ren := {
  mixed := by kernel_rfl
  f125 := Tryz.func50.trans (congrArg some (by kernel_rfl))
  f128 := Tryz.func84.trans (congrArg some (by kernel_rfl))
  f129 := Tryz.func85.trans (congrArg some (by kernel_rfl))
  t3 := Tryz.underlying3
  a3 := Tryz.isAgg3
  z3 := Tryz.sizeOf3
  v3 := Tryz.zeroValue3
  t4 := Tryz.underlying4
  a4 := Tryz.isAgg4
  z4 := Tryz.sizeOf4
  v4 := Tryz.zeroValue4
  t5 := Tryz.underlying5
  a5 := Tryz.isAgg5
  z5 := Tryz.sizeOf5
  v5 := Tryz.zeroValue5
  t9 := Tryz.underlying9
  a9 := Tryz.isAgg9
  z9 := Tryz.sizeOf9
  v9 := Tryz.zeroValue9
  t46 := Tryz.underlying122
  a46 := Tryz.isAgg122
  z46 := Tryz.sizeOf122
  v46 := Tryz.zeroValue122
  t51 := Tryz.underlying56
  a51 := Tryz.isAgg56
  z51 := Tryz.sizeOf56
  v51 := Tryz.zeroValue56
  t53 := Tryz.underlying175
  a53 := Tryz.isAgg175
  z53 := Tryz.sizeOf175
  v53 := Tryz.zeroValue175 }
def Tryz.layIdx_ren : Go.Shelf.Ren := ⟨fun | 6 => 113 | n => n, fun | 22 => 51 | 23 => 49 | 25 => 212 | 3 => 3 | 0 => 0 | 4 => 4 | n => n, fun | n => n⟩
theorem Tryz.layIdx : Go.Proofs.SlLaysH0.n6 Tryz.prog Tryz.layIdx_ren := {
  mixed := by kernel_rfl
  f6 := ⟨Tryz.f113.name, by decide, Tryz.func113.trans (congrArg some (by kernel_rfl))⟩
  t0 := Tryz.underlying0
  a0 := Tryz.isAgg0
  z0 := Tryz.sizeOf0
  v0 := Tryz.zeroValue0
  t3 := Tryz.underlying3
  a3 := Tryz.isAgg3
  z3 := Tryz.sizeOf3
  v3 := Tryz.zeroValue3
  t4 := Tryz.underlying4
  a4 := Tryz.isAgg4
  z4 := Tryz.sizeOf4
  v4 := Tryz.zeroValue4
  t22 := Tryz.underlying51
  a22 := Tryz.isAgg51
  z22 := Tryz.sizeOf51
  v22 := Tryz.zeroValue51
  t25 := Tryz.underlying212
  a25 := Tryz.isAgg212
  z25 := Tryz.sizeOf212
  v25 := Tryz.zeroValue212 }
def Tryz.layRev_ren : Go.Shelf.Ren := ⟨fun | 35 => 117 | n => n, fun | 22 => 51 | 23 => 49 | 3 => 3 | 4 => 4 | 0 => 0 | n => n, fun | n => n⟩
theorem Tryz.layRev : Go.Proofs.SlLaysE0.n35 Tryz.prog Tryz.layRev_ren := {
  mixed := by kernel_rfl
  f35 := ⟨Tryz.f117.name, by decide, Tryz.func117.trans (congrArg some (by kernel_rfl))⟩
  t0 := Tryz.underlying0
  a0 := Tryz.isAgg0
  z0 := Tryz.sizeOf0
  v0 := Tryz.zeroValue0
  t3 := Tryz.underlying3
  a3 := Tryz.isAgg3
  z3 := Tryz.sizeOf3
  v3 := Tryz.zeroValue3
  t4 := Tryz.underlying4
  a4 := Tryz.isAgg4
  z4 := Tryz.sizeOf4
  v4 := Tryz.zeroValue4
  t22 := Tryz.underlying51
  a22 := Tryz.isAgg51
  z22 := Tryz.sizeOf51
  v22 := Tryz.zeroValue51 }
def Tryz.layGrow_ren : Go.Shelf.Ren := ⟨fun | 4 => 128 | n => n, fun | 22 => 51 | 25 => 49 | 3 => 3 | 4 => 4 | 9 => 9 | 20 => 20 | 0 => 0 | n => n, fun | n => n⟩
theorem Tryz.layGrow : Go.Proofs.Lays8.n4 Tryz.prog Tryz.layGrow_ren := {
  mixed := by kernel_rfl
  f4 := ⟨Tryz.f128.name, by decide, Tryz.func128.trans (congrArg some (by kernel_rfl))⟩
  t0 := Tryz.underlying0
  a0 := Tryz.isAgg0
  z0 := Tryz.sizeOf0
  v0 := Tryz.zeroValue0
  t3 := Tryz.underlying3
  a3 := Tryz.isAgg3
  z3 := Tryz.sizeOf3
  v3 := Tryz.zeroValue3
  t4 := Tryz.underlying4
  a4 := Tryz.isAgg4
  z4 := Tryz.sizeOf4
  v4 := Tryz.zeroValue4
  t9 := Tryz.underlying9
  a9 := Tryz.isAgg9
  z9 := Tryz.sizeOf9
  v9 := Tryz.zeroValue9
  t20 := Tryz.underlying20
  a20 := Tryz.isAgg20
  z20 := Tryz.sizeOf20
  v20 := Tryz.zeroValue20
  t22 := Tryz.underlying51
  a22 := Tryz.isAgg51
  z22 := Tryz.sizeOf51
  v22 := Tryz.zeroValue51 }
end Go.Proofs.YtccidllcjaaeeabGreatDoor
/- The walks of package tree's small functions: Has, bits.Len by its contract off the shelf. Conditions: the part's block holds ten cells; members and bounds are small. -/
namespace Go.Proofs.YtccidllcjaaeeabGreatDoor
set_option maxRecDepth 100000
open Go.RowKit
open Go.Shelf
/-- A part: from, to and its secret. -/
structure TPart where
  a : Nat
  b : Nat
  s : List UInt8
def pcells (p : TPart) : Array Value := #[Value.int .i64 p.a, Value.int .i64 p.b] ++ cells p.s
theorem pcells_size (p : TPart) (h : p.s.length = 8) : (pcells p).size = 10 := by rw [pcells, Array.size_append, cells_size, h]; rfl
theorem len_any (w : World) (x : Int) (h0 : 0 ≤ x) (h1 : x ≤ 18446744073709551615) : Calls Tryz.prog 50 #[.int .u64 x] w fun e w' => e = .returned (.int .i64 (Lib.bitLen x.toNat)) ∧ w' = w := Any.bits_Len Tryz.lays125 x w h0 h1
theorem has_any (w : World) (R o : Nat) (a b m : Nat) (ha : w.cell? ⟨R, o, none⟩ = some (.int .i64 a)) (hb : w.cell? ⟨R, o + 1, none⟩ = some (.int .i64 b)) :
    Calls Tryz.prog 115 #[.pointer (some ⟨R, o, none⟩), .int .i64 m] w fun e w' => e = .returned (.bool (decide (a ≤ m ∧ m < b))) ∧ w' = w := by
  go_enter Tryz.func115, Tryz.ntmps115
  go_wp2
  all_goals (go_ret; refine ⟨?_, rfl⟩; first | (simp; omega) | simp [*])
theorem bitLen_tree : ∀ n : Fin 17, 2 ≤ n.val → (Lib.bitLen (n.val - 1) = 1 ∧ splitN n.val = 1) ∨ (Lib.bitLen (n.val - 1) = 2 ∧ splitN n.val = 2) ∨ (Lib.bitLen (n.val - 1) = 3 ∧ splitN n.val = 4) ∨ (Lib.bitLen (n.val - 1) = 4 ∧ splitN n.val = 8) := by decide
theorem len_tree (n : Nat) (h2 : 2 ≤ n) (h : n ≤ 16) : ∃ c : Int, (∀ w, Calls Tryz.prog 50 #[.int .u64 ((n : Int) - 1)] w fun e w' => e = .returned (.int .i64 c) ∧ w' = w) ∧ ((c = 1 ∧ splitN n = 1) ∨ (c = 2 ∧ splitN n = 2) ∨ (c = 3 ∧ splitN n = 4) ∨ (c = 4 ∧ splitN n = 8)) := by
  have hb := bitLen_tree ⟨n, by omega⟩ h2
  refine ⟨(Lib.bitLen (n - 1) : Nat), fun w => ?_, by simp only at hb; omega⟩
  have := len_any w ((n : Int) - 1) (by omega) (by omega)
  rw [show ((n : Int) - 1).toNat = n - 1 by omega] at this
  exact this
theorem ten_cells {w : World} {b t : Nat} {fr : Nat × Nat} {p : TPart} {a0 a1 a2 a3 a4 a5 a6 a7 : UInt8} (hk : p.s = [a0, a1, a2, a3, a4, a5, a6, a7]) (h : w.heap[b]? = some (.cells (pcells p) t fr)) :
    w.cell? ⟨b, 0, none⟩ = some (.int .i64 p.a) ∧ w.cell? ⟨b, 1, none⟩ = some (.int .i64 p.b) ∧ w.cell? ⟨b, 2, none⟩ = some (.int .u8 a0.toNat) ∧ w.cell? ⟨b, 3, none⟩ = some (.int .u8 a1.toNat) ∧ w.cell? ⟨b, 4, none⟩ = some (.int .u8 a2.toNat) ∧ w.cell? ⟨b, 5, none⟩ = some (.int .u8 a3.toNat) ∧ w.cell? ⟨b, 6, none⟩ = some (.int .u8 a4.toNat) ∧ w.cell? ⟨b, 7, none⟩ = some (.int .u8 a5.toNat) ∧ w.cell? ⟨b, 8, none⟩ = some (.int .u8 a6.toNat) ∧ w.cell? ⟨b, 9, none⟩ = some (.int .u8 a7.toNat) := by
  have e : pcells p = #[.int .i64 p.a, .int .i64 p.b, .int .u8 a0.toNat, .int .u8 a1.toNat, .int .u8 a2.toNat, .int .u8 a3.toNat, .int .u8 a4.toNat, .int .u8 a5.toNat, .int .u8 a6.toNat, .int .u8 a7.toNat] := by simp [pcells, cells, hk]
  rw [e] at h
  refine ⟨?_, ?_, ?_, ?_, ?_, ?_, ?_, ?_, ?_, ?_⟩ <;> (rw [cell_of_row _ _ _ _ _ _ h]; rfl)
def pZero : TPart := ⟨0, 0, zeroS⟩
theorem infoPart : (Tryz.prog.info? 49).map (·.size) = some 10 := by kernel_rfl
theorem built_part (a b : Int) (k : List UInt8) (hk : k.length = 8) : Tryz.prog.built 49 [(0, .int .i64 a), (1, .int .i64 b), (2, .agg (cells k))] = some (#[.int .i64 a, .int .i64 b] ++ cells k) := by
  obtain ⟨a0, a1, a2, a3, a4, a5, a6, a7, rfl⟩ := eight hk
  kernel_rfl
theorem fold_part (a b : Int) (k : List UInt8) (hk : k.length = 8) : Array.foldl (fun (cs : Array Value) (x : Value × Nat) => cs.setIfInBounds (2 + x.snd) x.fst) #[.int .i64 a, .int .i64 b, .int .u8 0, .int .u8 0, .int .u8 0, .int .u8 0, .int .u8 0, .int .u8 0, .int .u8 0, .int .u8 0] (cells k).zipIdx 0 8 = #[.int .i64 a, .int .i64 b] ++ cells k := by
  obtain ⟨a0, a1, a2, a3, a4, a5, a6, a7, rfl⟩ := eight hk
  kernel_rfl
theorem run_storeCells_arr {P : Program} {w : World} {g t : Nat} {cur : Array Value} (h : w.heap[g]? = some (.cells cur t (0, 0))) (xs : Array Value) (hone : xs.all (·.oneCell') = true) (hs : cur.size = xs.size) :
    (storeCells ⟨g, 0, none⟩ xs.toList).run P w = .ok () (w.setRow g xs) := by
  have hst := run_storeCells_at P g 0 t xs.toList 0 cur w h (by rw [Array.length_toList]; omega) (fun v hv => Array.all_eq_true_iff_forall_mem.1 hone v (by simpa using hv))
  have hd : cur.toList.drop xs.toList.length = [] := List.drop_eq_nil_of_le (by rw [Array.length_toList, Array.length_toList]; omega)
  simp only [Nat.add_zero, Nat.zero_add, List.take_zero, List.nil_append, hd, List.append_nil, Array.toArray_toList] at hst
  exact hst
theorem pcells_one (p : TPart) : (pcells p).all (·.oneCell') = true := by
  refine Array.all_eq_true_iff_forall_mem.2 fun v hv => ?_
  rw [pcells, Array.mem_append] at hv
  rcases hv with hv | hv
  · simp only [List.mem_toArray, List.mem_cons, List.not_mem_nil, or_false] at hv
    rcases hv with rfl | rfl <;> rfl
  · exact cells_oneCell p.s v (by simpa using hv)
theorem results_cells {P : Program} {fn : Func} {p q : Tmp} {ty : TypeId} (h : fn.results = #[.cell p ty, .cell q ty]) (tmps : Array Value) (w : World) (g g2 : Nat) (t t2 : TypeId) (cs cs2 : Array Value) (fr : Nat × Nat) (d : TypeDesc)
    (hp : tmps.getD p undef = .pointer (some ⟨g, 0, none⟩)) (hq : tmps.getD q undef = .pointer (some ⟨g2, 0, none⟩)) (hg : w.heap[g]? = some (.cells cs t fr)) (hg2 : w.heap[g2]? = some (.cells cs2 t2 fr))
    (hu : P.underlying ty = some d) (hd : (match d with | .struct _ | .array _ _ => true | _ => false) = true) (hi : (P.info? ty).map (·.size) = some cs.size) (hi2 : (P.info? ty).map (·.size) = some cs2.size) :
    (results fn tmps).run P w = .ok (.tuple #[.agg cs, .agg cs2]) w := by
  have hp' : tmps[p]?.getD undef = .pointer (some ⟨g, 0, none⟩) := by simpa using hp
  have hq' : tmps[q]?.getD undef = .pointer (some ⟨g2, 0, none⟩) := by simpa using hq
  simp [results, h, hp', hq', asAddr, run_loadVar_row w g t ty cs fr d hg hu hd hi, run_loadVar_row w g2 t2 ty cs2 fr d hg2 hu hd hi2]
def pL (p : TPart) : TPart := ⟨p.a, p.a + splitN (p.b - p.a), kd p.s lLeft 0⟩
def pR (p : TPart) : TPart := ⟨p.a + splitN (p.b - p.a), p.b, kd p.s lRight 0⟩
set_option maxRecDepth 100000 in
set_option maxHeartbeats 2000000 in
theorem halves_any (D o R : Nat) (v : Int) (w : World) (p : TPart) (hk : p.s.length = 8) (h2 : 2 ≤ p.b - p.a) (h16 : p.b ≤ 16)
    (hx : w.cell? ⟨D, o, none⟩ = some (.int .i64 v)) (hf : w.frozen? ⟨D, o, none⟩ = false) (hb0 : 0 ≤ v) (hb1 : v ≤ 4611686018427000000)
    (hR : w.heap[R]? = some (.cells (pcells p) 49 (0, 0))) (hRD : R ≠ D) :
    Calls Tryz.prog 116 #[.pointer (some ⟨R, 0, none⟩), .pointer (some ⟨D, o, none⟩)] w fun e w' =>
      e = .returned (.tuple #[.agg (pcells (pL p)), .agg (pcells (pR p))]) ∧ Below w.heap.size (w.setCell ⟨D, o, none⟩ (.int .i64 (v + 2))) w' := by
  have hD : D < w.heap.size := block_lt_of_cell hx
  have hRs : R < w.heap.size := (Array.getElem?_eq_some_iff.1 hR).1
  have Hk := Lib.hid hk
  have HR := Lib.hid hR
  clear hk hR
  obtain ⟨a0, a1, a2, a3, a4, a5, a6, a7, hk8⟩ := eight Hk.out
  have Hk8 := Lib.hid hk8
  clear hk8
  obtain ⟨c, hc, hcs⟩ := len_tree (p.b - p.a) h2 (by omega)
  go_enter Tryz.func116, Tryz.ntmps116
  go_upto_region 1 with (fail)
  generalize hW : World.alloc (World.alloc _ _) _ = W
  have hWr : W.heap[R]? = some (.cells (pcells p) 49 (0, 0)) := by rw [← hW, Below.heap_alloc _ _ _ (by simp; omega), Below.heap_alloc _ _ _ hRs]; exact HR.out
  have hL : W.heap[w.heap.size]? = some (.cells (pcells pZero) 49 (0, 0)) := by rw [← hW]; exact heap_alloc2_old w _ _
  have hRt : W.heap[w.heap.size + 1]? = some (.cells (pcells pZero) 49 (0, 0)) := by rw [← hW]; exact heap_alloc2_new w _ _
  have hWb : Below w.heap.size w W := by rw [← hW]; exact balloc (balloc (Below.refl _ _) _) _
  clear hW
  obtain ⟨n, hn⟩ : ∃ n, n = p.b - p.a := ⟨_, rfl⟩
  have hbn : (p.b : Int) = p.a + n := by omega
  rw [← hn] at hc hcs
  obtain ⟨e0, e1, e2, e3, e4, e5, e6, e7, e8, e9⟩ := ten_cells Hk8.out hWr
  have HWr := Lib.hid hWr
  have HL := Lib.hid hL
  have HRt := Lib.hid hRt
  have Hn := Lib.hid hn
  clear hWr hL hRt hn
  rw [hbn] at e1
  have hsub : (p.a : Int) + n - p.a - 1 = n - 1 := by omega
  have Hsub := Lib.hid hsub
  clear hsub
  go_cut [6] (fun s6 wx => s6 = .int .i64 ((p.a : Int) + splitN n) ∧ wx.heap = W.heap ∧ Below w.heap.size w wx)
  case first =>
    rcases hcs with ⟨rfl, hs⟩ | ⟨rfl, hs⟩ | ⟨rfl, hs⟩ | ⟨rfl, hs⟩
    all_goals
      have Hs := Lib.hid hs
      clear hs
      go_quiet (first | (go_at_call 50; rw [Hsub.out]; exact Calls.quiet_of_same (hc _)))
      go_wp2_with fail
      go_meet
      rw [Hs.out]
      exact ⟨rfl, rfl, ⟨hWb.os, hWb.tape, hWb.output, hWb.size, hWb.block⟩⟩
  case rest =>
    obtain ⟨rfl, hh, hbb⟩ := hcut
    have hWr : wc.heap[R]? = some (.cells (pcells p) 49 (0, 0)) := by rw [hh]; exact HWr.out
    have hL : wc.heap[w.heap.size]? = some (.cells (pcells pZero) 49 (0, 0)) := by rw [hh]; exact HL.out
    have hRt : wc.heap[w.heap.size + 1]? = some (.cells (pcells pZero) 49 (0, 0)) := by rw [hh]; exact HRt.out
    clear e0 e1 e2 e3 e4 e5 e6 e7 e8 e9 hc hcs hWb HWr HL HRt hh
    obtain ⟨e0, e1, e2, e3, e4, e5, e6, e7, e8, e9⟩ := ten_cells Hk8.out hWr
    have Q0 : Hid (wc.cell? ⟨D, o, none⟩ = some (.int .i64 v)) := Lib.hid (by rw [hbb.cell hD]; exact hx)
    have Q0f : Hid (wc.frozen? ⟨D, o, none⟩ = false) := Lib.hid (by rw [hbb.frozen hD]; exact hf)
    have ZR := Lib.hid hWr
    have ZL := Lib.hid hL
    have ZT := Lib.hid hRt
    clear hWr hL hRt
    have hqL := kd_length p.s lLeft 0
    obtain ⟨qL, hqLe⟩ : ∃ q, q = kd p.s lLeft 0 := ⟨_, rfl⟩
    rw [← hqLe] at hqL
    have hqR := kd_length p.s lRight 0
    obtain ⟨qR, hqRe⟩ : ∃ q, q = kd p.s lRight 0 := ⟨_, rfl⟩
    rw [← hqRe] at hqR
    have HqL := Lib.hid hqLe
    have HqR := Lib.hid hqRe
    have HlL := Lib.hid hqL
    have HlR := Lib.hid hqR
    clear hqL hqR hqLe hqRe
    have hsL : (cells qL).size = 8 := by rw [cells_size, HlL.out]
    have hsR : (cells qR).size = 8 := by rw [cells_size, HlR.out]
    have Hc : Hid (#[Value.int .u8 a0.toNat, .int .u8 a1.toNat, .int .u8 a2.toNat, .int .u8 a3.toNat, .int .u8 a4.toNat, .int .u8 a5.toNat, .int .u8 a6.toNat, .int .u8 a7.toNat] = cells p.s) := Lib.hid (by rw [Hk8.out]; rfl)
    have hv0 : 0 ≤ v + 1 := by omega
    have hv1 : v ≤ 4611686018427387904 := by omega
    have hv2 : v + 1 ≤ 4611686018427387904 := by omega
    obtain ⟨PL, hPL⟩ : ∃ x, x = pcells (pL p) := ⟨_, rfl⟩
    obtain ⟨PR, hPR⟩ : ∃ x, x = pcells (pR p) := ⟨_, rfl⟩
    have hbl : Array.foldl (fun (cs : Array Value) (x : Value × Nat) => cs.setIfInBounds (2 + x.snd) x.fst) #[.int .i64 p.a, .int .i64 ((p.a : Int) + splitN n), .int .u8 0, .int .u8 0, .int .u8 0, .int .u8 0, .int .u8 0, .int .u8 0, .int .u8 0, .int .u8 0] (cells qL).zipIdx 0 8 = PL := by rw [hPL, pL, HqL.out, Hn.out]; exact fold_part _ _ _ (kd_length _ _ _)
    have hbr : Array.foldl (fun (cs : Array Value) (x : Value × Nat) => cs.setIfInBounds (2 + x.snd) x.fst) #[.int .i64 ((p.a : Int) + splitN n), .int .i64 ((p.a : Int) + n), .int .u8 0, .int .u8 0, .int .u8 0, .int .u8 0, .int .u8 0, .int .u8 0, .int .u8 0, .int .u8 0] (cells qR).zipIdx 0 8 = PR := by rw [hPR, pR, HqR.out, ← hbn, Hn.out]; exact fold_part _ _ _ (kd_length _ _ _)
    have hoL : PL.all (·.oneCell') = true := by rw [hPL]; exact pcells_one _
    have hoR : PR.all (·.oneCell') = true := by rw [hPR]; exact pcells_one _
    have hsPL : PL.size = 10 := by rw [hPL]; exact pcells_size _ (kd_length _ _ _)
    have hsPR : PR.size = 10 := by rw [hPR]; exact pcells_size _ (kd_length _ _ _)
    have hzL : (pcells pZero).size = PL.size := by rw [hsPL]; exact pcells_size _ rfl
    have hzR : (pcells pZero).size = PR.size := by rw [hsPR]; exact pcells_size _ rfl
    have hRL : R ≠ w.heap.size := by omega
    have hRT1 : R ≠ w.heap.size + 1 := by omega
    have hLT : w.heap.size + 1 ≠ w.heap.size := by omega
    have HB := Lib.hid hbb
    have HPL := Lib.hid hPL
    have HPR := Lib.hid hPR
    rw [hbn] at e1
    clear hbb hPL hPR
    go_wp2_with fail
    go_region_held3 (fun w' => w'.cell? ⟨R, 0, none⟩ = some (.int .i64 p.a) ∧ w'.cell? ⟨R, 1, none⟩ = some (.int .i64 ((p.a : Int) + n)) ∧ w'.cell? ⟨R, 2, none⟩ = some (.int .u8 a0.toNat) ∧ w'.cell? ⟨R, 3, none⟩ = some (.int .u8 a1.toNat) ∧ w'.cell? ⟨R, 4, none⟩ = some (.int .u8 a2.toNat) ∧ w'.cell? ⟨R, 5, none⟩ = some (.int .u8 a3.toNat) ∧ w'.cell? ⟨R, 6, none⟩ = some (.int .u8 a4.toNat) ∧ w'.cell? ⟨R, 7, none⟩ = some (.int .u8 a5.toNat) ∧ w'.cell? ⟨R, 8, none⟩ = some (.int .u8 a6.toNat) ∧ w'.cell? ⟨R, 9, none⟩ = some (.int .u8 a7.toNat)) (refine ⟨?_, ?_, ?_, ?_, ?_, ?_, ?_, ?_, ?_, ?_⟩ <;> (first | assumption | (simp only [World.cell?_drew]; assumption) | ((try simp only [World.cell?_drew]); rw [World.cell?_of_block (setRow_other _ _ _ _ hRL)]; assumption) | ((try simp only [World.cell?_drew]); rw [World.cell?_of_block (setRow_other _ _ _ _ hRT1), World.cell?_of_block (setRow_other _ _ _ _ hRL)]; assumption))) (first
      | (go_at_call 88; (try rw [Hc.out]); refine (derive_any D o (v + 1) _ p.s _ _ Hk.out (by decide) ?_ ?_ hv0 hv2).mono ?_; (exact Q0.out); (exact Q0f.out); go_must (rintro e w2 ⟨rfl, hb2⟩); go_must ((first | rw [lLeft_eq, ← HqL.out] | rw [lRight_eq, ← HqR.out])); go_must (have HB : Hid (Below w.heap.size (w.setCell ⟨D, o, none⟩ (.int .i64 (v + 1 + 1))) w2) := Lib.hid (by first | exact cnt_next HB.out hb2 | exact cnt_next HB.out.drew hb2 | exact cnt_next HB.out.drew.drew hb2 | exact cnt_next HB.out.drew.drew.drew hb2)); go_must (have ZL := Lib.hid (cnt_row hb2 ZL.out (by omega))); go_must (have ZT := Lib.hid (cnt_row hb2 ZT.out (by omega))); go_must (have ZR := Lib.hid (cnt_row hb2 ZR.out hRD)); go_must (have Q0f := Lib.hid (cnt_frozen hb2 Q0.out Q0f.out)); go_must (have Q0 := Lib.hid (cnt_cell hb2 Q0.out)); go_must (obtain ⟨k0, k1, k2, k3, k4, k5, k6, k7, k8, k9⟩ := ten_cells Hk8.out ZR.out); go_must (rw [hbn] at k1); go_must (have hst1 := run_storeCells_arr (P := Tryz.prog) ZL.out PL hoL hzL); go_must (have hst2 := run_storeCells_arr (P := Tryz.prog) (w := w2.setRow w.heap.size PL) ((setRow_other _ _ _ _ hLT).trans ZT.out) PR hoR hzR))
      | (go_at_call 88; (try rw [Hc.out]); go_must (refine (derive_any D o v _ p.s _ _ Hk.out (by decide) ?_ ?_ hb0 hv1).mono ?_); go_must ((exact Q0.out)); go_must ((exact Q0f.out)); go_must (rintro e w2 ⟨rfl, hb2⟩); go_must ((first | rw [lLeft_eq, ← HqL.out] | rw [lRight_eq, ← HqR.out])); go_must (have HB : Hid (Below w.heap.size (w.setCell ⟨D, o, none⟩ (.int .i64 (v + 1))) w2) := Lib.hid (by first | exact cnt_base HB.out hb2 | exact cnt_base HB.out.drew hb2 | exact cnt_base HB.out.drew.drew hb2 | exact cnt_base HB.out.drew.drew.drew hb2)); go_must (have ZL := Lib.hid (cnt_row hb2 ZL.out (by omega))); go_must (have ZT := Lib.hid (cnt_row hb2 ZT.out (by omega))); go_must (have ZR := Lib.hid (cnt_row hb2 ZR.out hRD)); go_must (have Q0f := Lib.hid (cnt_frozen hb2 Q0.out Q0f.out)); go_must (have Q0 := Lib.hid (cnt_cell hb2 Q0.out)); go_must (obtain ⟨k0, k1, k2, k3, k4, k5, k6, k7, k8, k9⟩ := ten_cells Hk8.out ZR.out); go_must (rw [hbn] at k1)))
    all_goals
      have hTL : w.heap.size ≠ w.heap.size + 1 := by omega
      have hr1 := Lib.hid ((setRow_other _ _ _ PR hTL).trans (setRow_heap _ _ _ PL _ _ ZL.out))
      have hr2 := Lib.hid (setRow_heap _ _ _ PR _ _ ((setRow_other _ _ _ PL hLT).trans ZT.out))
      clear hst1 hst2
      go_wp2_with fail
      refine bodyPost_ret (results_cells rfl _ _ w.heap.size (w.heap.size + 1) _ _ _ _ _ _ rfl rfl hr1.out hr2.out Tryz.underlying49 rfl (by rw [infoPart, hsPL]) (by rw [infoPart, hsPR])) rfl ⟨by rw [HPL.out, HPR.out], ?_⟩
      rw [show v + 2 = v + 1 + 1 by omega]
      exact below_setRow (below_setRow HB.out (Nat.le_refl _) _) (by omega) _
end Go.Proofs.YtccidllcjaaeeabGreatDoor
/- Laws of no program: a slice literal of one element that is an aggregate of whatever cells. No condition of its own. -/
namespace Go.Proofs.YtccidllcjaaeeabGreatDoor
set_option maxRecDepth 100000
open Go.RowKit
theorem foldl_set : ∀ (l : List Value) (k : Nat) (acc : Array Value), k + l.length ≤ acc.size → (l.zipIdx k).foldl (fun (cs : Array Value) (x : Value × Nat) => cs.setIfInBounds x.2 x.1) acc = (acc.toList.take k ++ l ++ acc.toList.drop (k + l.length)).toArray
  | [], k, acc, h => by simp
  | v :: l, k, acc, h => by
    have h' : k + 1 + l.length ≤ (acc.setIfInBounds k v).size := by simp at h ⊢; omega
    rw [List.zipIdx_cons, List.foldl_cons, foldl_set l (k + 1) _ h']
    simp only [List.length_cons] at h
    have hk : k < acc.toList.length := by simp; omega
    congr 1
    rw [Array.toList_setIfInBounds, List.take_succ_eq_append_getElem (by simpa using hk), List.take_set_of_le (Nat.le_refl _), List.getElem_set_self, List.drop_set_of_lt (by omega)]
    simp [Nat.add_comm, Nat.add_left_comm]
theorem fill_one (n : Nat) (Z cs : Array Value) (hZ : Z.size = n) (hc : cs.size = n) : Instr.fill (fun i => some (i * n, n)) Z [(0, Value.agg cs)] = some cs := by
  have h := foldl_set cs.toList 0 Z (by simp; omega)
  simp only [Instr.fill, Value.cells, Nat.zero_mul, Nat.zero_add, hc, hZ, ne_eq, not_true, Nat.lt_irrefl, decide_false, Bool.or_false, if_false, Bool.false_eq_true]
  congr 1
  rw [← Array.foldl_toList, Array.toList_zipIdx]
  refine h.trans ?_
  rw [List.drop_eq_nil_of_le (by simp; omega)]
  simp
theorem wpList_slice_one {P : Program} {ops : Array Oper} {rest : List Oper} {o : Oper} {a : Act} {w : World} {Q : Exit → Act → World → Prop} (hg : o.guard = none) (t e : TypeId) (x : Operand) (ho : o.op = .buildSlice t 1 #[(0, x)])
    (cells : Array Value) (hx : a.eval x = .agg cells) (ie : TypeInfo) (z : Value)
    (hu : P.underlying t = some (.slice e)) (hie : P.info? e = some ie) (hz : ie.zero = some z) (hsz : ie.size = cells.size) (hpos : 0 < cells.size) (hsmall : cells.size ≤ 1000)
    (h : wpList P ops Q rest (a.put o.dst (.slice (some ⟨w.heap.size, 0, none⟩) 1 1)) (w.alloc (.cells cells e))) : wpList P ops Q (o :: rest) a w :=
  wpList_buildSlice hg t e 1 _ ho cells ie z hu hie hz (by omega) (by omega) (by
    have := fill_one ie.size ((Array.range (1 * ie.size)).map (z.cells[· % z.cells.size]!)) cells (by simp) hsz.symm
    simpa [hx] using this) h
theorem cell_ne {w : World} {b o g j : Nat} {v : Value} (h : b ≠ g) : (w.setCell ⟨b, o, none⟩ v).cell? ⟨g, j, none⟩ = w.cell? ⟨g, j, none⟩ := World.cell?_setCell_other _ _ _ _ (fun e => h (congrArg Addr.block e))
theorem heap_ne {w : World} {b o g : Nat} {v : Value} (h : b ≠ g) : (w.setCell ⟨b, o, none⟩ v).heap[g]? = w.heap[g]? := heap_setCell_other _ _ _ _ (Ne.symm h)
theorem cell_row_ne {w : World} {b g j : Nat} {cs : Array Value} (h : b ≠ g) : (w.setRow b cs).cell? ⟨g, j, none⟩ = w.cell? ⟨g, j, none⟩ := World.cell?_of_block (a := ⟨g, j, none⟩) (setRow_other _ _ _ _ (Ne.symm h))
theorem heap_row_ne {w : World} {b g : Nat} {cs : Array Value} (h : b ≠ g) : (w.setRow b cs).heap[g]? = w.heap[g]? := setRow_other _ _ _ _ (Ne.symm h)
theorem size_setRow (w : World) (b : Nat) (cs : Array Value) : (w.setRow b cs).heap.size = w.heap.size := by simp
theorem step_store_row {P : Program} {ops : Array Oper} {o : Oper} {a : Act} {w : World} {K : Act → World → Prop} {Q : Exit → Act → World → Prop} {E : Prop} (hgd : o.guard = none) (ty : TypeId) (x y : Operand) (ho : o.op = .store ty x y)
    (g : Nat) (cells : Array Value) (hx : a.eval x = .pointer (some ⟨g, 0, none⟩)) (hy : a.eval y = .agg cells)
    (t : TypeId) (old : Array Value) (hg : w.heap[g]? = some (.cells old t (0, 0))) (hi : (P.info? ty).map (·.size) = some cells.size)
    (hold : old.size = cells.size) (h1 : cells.all (·.oneCell') = true)
    (h : K (a.put o.dst undef) (w.setRow g cells)) : if Region.wanted o (yielded ops a.tmps) = true then Oper.wp P o a w K Q else E := by
  have hw : Region.wanted o (yielded ops a.tmps) = true := by simp [Region.wanted, hgd]
  rw [if_pos hw]
  exact wp_store_row ty x y ho g cells hx hy t old hg hi hold h1 h
theorem results_tct {P : Program} {fn : Func} {p q r : Tmp} {ty : TypeId} (h : fn.results = #[.tmp p, .cell q ty, .tmp r]) (tmps : Array Value) (w : World) (g : Nat) (t : TypeId) (cs : Array Value) (fr : Nat × Nat) (d : TypeDesc)
    (hq : tmps.getD q undef = .pointer (some ⟨g, 0, none⟩)) (hg : w.heap[g]? = some (.cells cs t fr)) (hu : P.underlying ty = some d) (hd : (match d with | .struct _ | .array _ _ => true | _ => false) = true) (hi : (P.info? ty).map (·.size) = some cs.size) :
    (results fn tmps).run P w = .ok (.tuple #[tmps.getD p undef, .agg cs, tmps.getD r undef]) w := by
  have hq' : tmps[q]?.getD undef = .pointer (some ⟨g, 0, none⟩) := by simpa using hq
  simp [results, h, hq', asAddr, run_loadVar_row w g t ty cs fr d hg hu hd hi]
theorem heap_drew (w : World) : w.drew.heap = w.heap := rfl
end Go.Proofs.YtccidllcjaaeeabGreatDoor
/- Laws of no program: parts of a tree as rows of ten cells, slices that read as rows, what Split comes to. No condition of its own. -/
namespace Go.Proofs.YtccidllcjaaeeabGreatDoor
set_option maxRecDepth 100000
open Go.RowKit
open Go.Shelf Go.Lib Go.Sort
instance : Inhabited TPart := ⟨⟨0, 0, []⟩⟩
/-- Has a part the member? -/
def hasB (p : TPart) (m : Nat) : Bool := decide (p.a ≤ m ∧ m < p.b)
/-- A part's ten cells, whatever its secret's length. -/
def encP (p : TPart) : List Value := (pcells ⟨p.a, p.b, (p.s ++ [0, 0, 0, 0, 0, 0, 0, 0]).take 8⟩).toList
theorem encP_len (p : TPart) : (encP p).length = 10 := by
  have h : ((p.s ++ [0, 0, 0, 0, 0, 0, 0, 0]).take 8).length = 8 := by simp
  rw [encP, Array.length_toList]; exact pcells_size _ h
theorem encP_one (p : TPart) : ∀ v ∈ encP p, v.oneCell' = true := fun v hv => Array.all_eq_true_iff_forall_mem.1 (pcells_one _) v (by simpa [encP] using hv)
theorem encP_eq (p : TPart) (h : p.s.length = 8) : encP p = (pcells p).toList := by
  have : (p.s ++ [0, 0, 0, 0, 0, 0, 0, 0]).take 8 = p.s := by rw [← h]; simp
  rw [encP, this]
def lcells (l : List TPart) : List Value := l.flatMap encP
theorem lcells_length (l : List TPart) : (lcells l).length = l.length * 10 := by
  induction l with
  | nil => rfl
  | cons p l ih => simp only [lcells, List.flatMap_cons, List.length_append, encP_len, List.length_cons] at *; omega
theorem lcells_append (l k : List TPart) : lcells (l ++ k) = lcells l ++ lcells k := by simp [lcells]
theorem lcells_one (l : List TPart) : ∀ v ∈ lcells l, v.oneCell' = true := by
  intro v hv
  rw [lcells, List.mem_flatMap] at hv
  obtain ⟨p, _, hp⟩ := hv
  exact encP_one p v hp
theorem lcells_get : ∀ (l : List TPart) (j i : Nat), j < l.length → i < 10 → (lcells l)[j * 10 + i]? = (encP l[j]!)[i]?
  | [], _, _, h, _ => absurd h (Nat.not_lt_zero _)
  | p :: l, 0, i, _, hi => by
    simp only [lcells, List.flatMap_cons]
    rw [List.getElem?_append_left (by rw [encP_len]; omega)]
    simp
  | p :: l, j + 1, i, h, hi => by
    have ih := lcells_get l j i (by simpa using h) hi
    simp only [lcells, List.flatMap_cons] at ih ⊢
    rw [List.getElem?_append_right (by rw [encP_len]; omega), encP_len, show (j + 1) * 10 + i - 10 = j * 10 + i by omega, ih]
    simp
theorem flatK_parts (l : List TPart) : (flatK encP 10 l.toArray).toList = lcells l := by
  apply List.ext_getElem?
  intro t
  by_cases ht : t < l.length * 10
  · have h1 := get_flatK encP 10 l.toArray t (by simpa using ht)
    have hs : t < (flatK encP 10 l.toArray).size := by simpa using ht
    rw [getElem!_pos (flatK encP 10 l.toArray) t hs] at h1
    rw [Array.getElem?_toList, Array.getElem?_eq_getElem hs, h1]
    have h2 := lcells_get l (t / 10) (t % 10) (by omega) (by omega)
    rw [show t / 10 * 10 + t % 10 = t by omega] at h2
    rw [h2]
    have h3 : t % 10 < (encP l.toArray[t / 10]!).length := by rw [encP_len]; omega
    rw [getElem!_pos (encP l.toArray[t / 10]!) (t % 10) h3]
    have h4 : l.toArray[t / 10]! = l[t / 10]! := by simp
    simp only [h4] at h3 ⊢
    rw [List.getElem?_eq_getElem h3]
  · rw [List.getElem?_eq_none (by simp; omega), List.getElem?_eq_none (by rw [lcells_length]; omega)]
/-- A slice value of n elements that reads as the cells xs. -/
def SliceR (w : World) (sv : Value) (n : Nat) (xs : List Value) : Prop :=
  (sv = .slice none 0 0 ∧ n = 0 ∧ xs = []) ∨ ∃ b o cap, sv = .slice (some ⟨b, o, none⟩) n cap ∧ n ≤ cap ∧ cap ≤ maxLen ∧ b < w.heap.size ∧ w.rangeAt b o xs
theorem SliceR.of_own {w : World} {base E size : Nat} {sv : Value} {n : Nat} {xs : List Value} (h : w.ownsRow base E size sv n xs) : SliceR w sv n xs := by
  obtain ⟨h1, h2⟩ := h
  rcases h2 with ⟨rfl, rfl⟩ | ⟨g, cap, cur, rfl, a2, a3, a4, a5, a6, a7⟩
  · exact .inl ⟨rfl, rfl, List.eq_nil_of_length_eq_zero (by simpa using h1)⟩
  · refine .inr ⟨g, 0, cap, rfl, a4, a5, (Array.getElem?_eq_some_iff.1 a3).1, fun j v hj => ?_⟩
    rw [Nat.zero_add, cell_of_row _ _ _ _ _ _ a3, ← Array.getElem?_toList]
    rw [← a7] at hj
    by_cases hjn : j < n * size
    · rw [List.getElem?_take_of_lt hjn] at hj; exact hj
    · rw [List.getElem?_take_eq_none (by omega)] at hj; cases hj
theorem SliceR.same {w w' : World} {sv : Value} {n : Nat} {xs : List Value} (h : SliceR w sv n xs) (hk : ∀ b, sv.ownBlock = some b → w'.heap[b]? = w.heap[b]?) (hs : w.heap.size ≤ w'.heap.size) : SliceR w' sv n xs := by
  rcases h with h | ⟨b, o, cap, rfl, h1, h2, h3, h4⟩
  · exact .inl h
  · exact .inr ⟨b, o, cap, rfl, h1, h2, Nat.lt_of_lt_of_le h3 hs, fun j v hj => by rw [World.cell?_of_block (hk b rfl)]; exact h4 j v hj⟩
theorem SliceR.below {w w' : World} {sv : Value} {n : Nat} {xs : List Value} (h : SliceR w sv n xs) (hb : Below w.heap.size w w') : SliceR w' sv n xs := by
  refine h.same (fun b hb' => ?_) hb.size
  rcases h with ⟨rfl, _⟩ | ⟨b', o, cap, rfl, h1, h2, h3, h4⟩
  · cases hb'
  · cases hb'; exact hb.block _ h3
theorem holdsK_own {w : World} {g t : Nat} {cur : Array Value} {l : List TPart} (hg : w.heap[g]? = some (.cells cur t (0, 0))) (ht : cur.toList.take (l.length * 10) = lcells l) : HoldsK encP 10 w g 0 l.toArray := by
  intro j hj
  have hj' : j < l.length * 10 := by simpa using hj
  refine ⟨?_, by simp [World.frozen?, hg]⟩
  rw [Nat.zero_add, cell_of_row _ _ _ _ _ _ hg, ← Array.getElem?_toList, ← List.getElem?_take_of_lt hj', ht, ← flatK_parts l, Array.getElem?_toList, Array.getElem?_eq_getElem hj, getElem!_pos (flatK encP 10 l.toArray) j hj]
  rfl
theorem heap_putRowK {w : World} {g q : Nat} {cur : Array Value} {e : TypeId} (d : Array TPart) (hb : w.heap[g]? = some (.cells cur e (0, 0))) :
    (putRowK encP 10 (Go.Sort.ahead w q) g 0 d).heap[g]? = some (.cells (putCells id 0 (flatK encP 10 d) cur) e (0, 0)) := by
  simp [putRowK, putRow, mapBlock, Go.Sort.ahead, Array.getElem?_modify, hb, onCells]
theorem grownBy_putRowK {w : World} {g q : Nat} (d : Array TPart) : w.grownBy (putRowK encP 10 (Go.Sort.ahead w q) g 0 d) (some g) := by
  refine ⟨rfl, rfl, rfl, by simp [putRowK, putRow, mapBlock, Go.Sort.ahead], fun k hk hne => ?_⟩
  have : g ≠ k := fun e => hne (by rw [e])
  simp [putRowK, putRow, mapBlock, Go.Sort.ahead, Array.getElem?_modify, this]
theorem take_putCellsK (cur : Array Value) (F : Array Value) (h : F.size ≤ cur.size) : (putCells id 0 F cur).toList.take F.size = F.toList := by
  apply List.ext_getElem?
  intro j
  by_cases hj : j < F.size
  · rw [List.getElem?_take_of_lt hj, Array.getElem?_toList]
    simp [putCells, hj, show j < cur.size by omega]
  · rw [List.getElem?_take_eq_none (by omega), List.getElem?_eq_none (by simp; omega)]
theorem ownsRow_putRowK {w : World} {base g cap q E : Nat} {cur : Array Value} {l k : List TPart} (hl : k.length = l.length) (hbase : base ≤ g) (hb : w.heap[g]? = some (.cells cur E (0, 0)))
    (h1 : l.length ≤ cap) (h2 : cap ≤ maxLen) (h3 : cur.size = cap * 10) :
    (putRowK encP 10 (Go.Sort.ahead w q) g 0 k.toArray).ownsRow base E 10 (.slice (some ⟨g, 0, none⟩) l.length cap) l.length (lcells k) := by
  refine ⟨by rw [lcells_length, hl], .inr ⟨g, cap, _, rfl, hbase, heap_putRowK _ hb, h1, h2, by simp [putCells, h3], ?_⟩⟩
  have hsz : (flatK encP 10 k.toArray).size = l.length * 10 := by simp [hl]
  rw [← hsz, take_putCellsK _ _ (by rw [hsz, h3]; omega), flatK_parts]
end Go.Proofs.YtccidllcjaaeeabGreatDoor
/- The walks of Split's closure, of slices.IndexFunc, Reverse and Grow at the parts. Conditions: the slice reads as the parts, each secret has eight bytes; the member's variable holds the member. -/
namespace Go.Proofs.YtccidllcjaaeeabGreatDoor
set_option maxRecDepth 100000
open Go.RowKit
open Go.Shelf Go.Lib Go.Sort
theorem clos_any (w : World) (p : TPart) (hk : p.s.length = 8) (M m : Nat) (hm : w.cell? ⟨M, 0, none⟩ = some (.int .i64 m)) :
    Calls Tryz.prog 114 #[.agg (pcells p), .pointer (some ⟨M, 0, none⟩)] w fun e w' => e = .returned (.bool (hasB p m)) ∧ Below w.heap.size w w' := by
  have hM : M < w.heap.size := block_lt_of_cell hm
  obtain ⟨a0, a1, a2, a3, a4, a5, a6, a7, hk8⟩ := eight hk
  have Hk8 := Lib.hid hk8
  clear hk8
  go_enter Tryz.func114, Tryz.ntmps114
  go_upto_region 1 with (fail)
  generalize hW : World.alloc _ _ = W
  have hWp : W.heap[w.heap.size]? = some (.cells (pcells p) 49 (0, 0)) := by rw [← hW]; exact heap_alloc_new _ _
  have hWb : Below w.heap.size w W := by rw [← hW]; exact balloc (Below.refl _ _) _
  have Q0 : W.cell? ⟨M, 0, none⟩ = some (.int .i64 m) := by rw [hWb.cell hM]; exact hm
  clear hW
  obtain ⟨e0, e1, _⟩ := ten_cells Hk8.out hWp
  have He0 := Lib.hid e0
  have He1 := Lib.hid e1
  clear hWp e0 e1
  go_wp2_with (first | (go_at_call 115; refine (has_any _ w.heap.size 0 p.a p.b m He0.out He1.out).mono ?_; rintro e w1 ⟨rfl, rfl⟩))
  go_ret
  exact ⟨by simp [hasB], hWb⟩
theorem enters_clos : ∀ args w, (callFunc 114 args).run Tryz.prog w = .ok (.enter 114 args) w := enters_of Tryz.func114 (by kernel_rfl) rfl
theorem idx_any (w : World) (M m : Nat) (l : List TPart) (sv : Value) (hl : l.length ≤ 16) (ht : SliceR w sv l.length (lcells l)) (hm : w.cell? ⟨M, 0, none⟩ = some (.int .i64 m)) :
    Calls Tryz.prog 113 #[sv, .func (.func 114) #[] #[.pointer (some ⟨M, 0, none⟩)]] w fun e w' =>
      e = .returned (.int .i64 (Lib.idxBy (fun _ y => hasB y m) l default)) ∧ Below w.heap.size w w' := by
  have hM : M < w.heap.size := block_lt_of_cell hm
  have hp : PredBelow Tryz.prog 114 #[.pointer (some ⟨M, 0, none⟩)] (fun x => .agg (encP x).toArray) (fun x => hasB x m) w := fun W x hb => by
    have h8 : ((x.s ++ [0, 0, 0, 0, 0, 0, 0, 0]).take 8).length = 8 := by simp
    have h := clos_any W ⟨x.a, x.b, (x.s ++ [0, 0, 0, 0, 0, 0, 0, 0]).take 8⟩ h8 M m ((hb.cell (p := ⟨M, 0, none⟩) hM).trans hm)
    have he : (encP x).toArray = pcells ⟨x.a, x.b, (x.s ++ [0, 0, 0, 0, 0, 0, 0, 0]).take 8⟩ := by rw [encP, Array.toArray_toList]
    show Calls _ _ #[.agg (encP x).toArray, .pointer (some ⟨M, 0, none⟩)] _ _
    rw [he]
    exact h.mono fun e w' ⟨he, hw⟩ => ⟨he, hb.trans (hw.mono hb.size)⟩
  rcases ht with ⟨rfl, h0, _⟩ | ⟨b, o, cap, rfl, h1, h2, h3, h4⟩
  · obtain rfl : l = [] := List.eq_nil_of_length_eq_zero h0
    go_enter Tryz.func113, Tryz.ntmps113
    go_wp2
    refine wp_loop_rounds 1 ?_
    rw [rounds_succ]
    go_wp2
    go_ret
    exact ⟨rfl, Below.refl _ _⟩
  · have h := AnyQ.slices_IndexFunc Tryz.layIdx 10 Tryz.isAgg49 Tryz.sizeOf49 encP encP_len (fun x => hasB x m) 114 #[.pointer (some ⟨M, 0, none⟩)] enters_clos b o l.length cap l w hp (Nat.le_refl _) (by omega) h3
      (fun j hj i v hi => by
        have hi10 : i < 10 := by rw [← encP_len l[j]!]; exact (List.getElem?_eq_some_iff.1 hi).1
        rw [Nat.add_assoc]
        exact h4 (j * 10 + i) v (by rw [lcells_get l j i hj hi10]; exact hi))
    rw [List.take_length] at h
    exact h
theorem rev_any (w : World) (base : Nat) (l : List TPart) (sv : Value) (hown : w.ownsRow base 49 10 sv l.length (lcells l)) (hl : l.length ≤ 1000) :
    Calls Tryz.prog 117 #[sv] w fun e w' =>
      e = .returned (.tuple #[]) ∧ w'.ownsRow base 49 10 sv l.length (lcells l.reverse) ∧ w.grownBy w' sv.ownBlock := by
  have hown' := hown
  obtain ⟨_, h2⟩ := hown
  rcases h2 with ⟨rfl, h0⟩ | ⟨g, cap, cur, rfl, h2, h3, h4, h5, h6, h7⟩
  · obtain rfl : l = [] := List.eq_nil_of_length_eq_zero h0
    refine (AnyQ.slices_Reverse_empty Tryz.layRev none 0 w).mono fun e w' ⟨he, hw⟩ => ⟨he, ?_, ?_⟩
    · rw [hw]; exact hown'
    · rw [hw]; exact ⟨rfl, rfl, rfl, Nat.le_refl _, fun _ _ _ => rfl⟩
  · have h := AnyQ.slices_Reverse Tryz.layRev 10 Tryz.isAgg49 Tryz.sizeOf49 encP encP_len encP_one g 0 cap l.toArray w (holdsK_own h3 h7) (by simp; omega)
    rw [List.size_toArray] at h
    refine h.mono fun e w' ⟨he, q, hw⟩ => ⟨he, ?_, ?_⟩
    · rw [hw, List.reverse_toArray]; exact ownsRow_putRowK (by simp) h2 h3 h4 h5 h6
    · rw [hw]; exact grownBy_putRowK _
theorem infoPartI : (Tryz.prog.info? 49).map (fun i => (i.zero, i.size, i.bytes)) = some (some (.agg (pcells pZero)), 10, 24) := by kernel_rfl
theorem grow_any (w : World) (n : Nat) (hn : n ≤ 1000) :
    Calls Tryz.prog 128 #[.slice none 0 0, .int .i64 n] w fun e w' =>
      ∃ v, e = .returned v ∧ w'.ownsRow w.heap.size 49 10 v 0 [] ∧ Below w.heap.size w w' := by
  by_cases h0 : n = 0
  · subst h0
    exact (Any8.slices_Grow_room Tryz.layGrow none 0 0 0 w (by omega) (by omega) (by omega) (by omega)).mono fun e w' ⟨he, hw⟩ => ⟨_, he, World.ownsRow_nil _ _ _ _, hw ▸ Below.refl _ _⟩
  · obtain ⟨i0, hi, hz0, hz1, hz2⟩ := info_parts infoPartI
    have h := Any8.slices_Grow_grow Tryz.layGrow i0 _ hi hz0 (by omega) none 0 0 n [] w (by omega) (by omega) (by rw [hz2]; omega) (by omega) (by simp) (fun _ => rfl) (fun a ha => by cases ha)
    refine h.mono fun e w' ⟨he, hw⟩ => ⟨_, he, ?_, ?_⟩
    · rw [hw]
      refine ⟨rfl, .inr ⟨_, _, _, rfl, Nat.le_refl _, heap_alloc_new w.drew _, Nat.zero_le _, grownCap_le_maxLen _ _ _ _ (by unfold maxLen; omega), ?_, rfl⟩⟩
      have hge := grownCap_ge w (0 + n) 0 49
      have hp : (Value.agg (pcells pZero)).cells.size = 10 := rfl
      simp only [Array.size_append, size_zeroCells, hp, List.size_toArray, List.length_nil]
      show _ = grownCap w (0 + n) 0 49 * 10
      have : (Tryz.layGrow_ren.t 25) = 49 := rfl
      rw [this]
      omega
    · rw [hw]; exact ⟨rfl, rfl, rfl, by simp, fun k hk => Below.heap_alloc w.drew _ k hk⟩
theorem SliceR.form {w : World} {sv : Value} {n : Nat} {xs : List Value} (h : SliceR w sv n xs) : ∃ a cap, sv = .slice a n cap := by
  rcases h with ⟨rfl, rfl, _⟩ | ⟨b, o, cap, rfl, _⟩
  · exact ⟨_, _, rfl⟩
  · exact ⟨_, _, rfl⟩
def flatP (l : List (Value × List TPart)) : List TPart := l.flatMap (·.2)
def sumLen : List (Value × List TPart) → Nat
  | [] => 0
  | p :: l => p.2.length + sumLen l
theorem sumLen_eq (l : List (Value × List TPart)) : sumLen l = (flatP l).length := by
  induction l with
  | nil => rfl
  | cons p l ih => simp [sumLen, ih, flatP]
theorem flat_take (l : List (Value × List TPart)) (k : Nat) (h : k < l.length) : flatP (l.take (k + 1)) = flatP (l.take k) ++ l[k].2 := by
  unfold flatP
  rw [List.take_succ_eq_append_getElem h, List.flatMap_append]
  simp
theorem sum_take (l : List (Value × List TPart)) (k : Nat) (h : k < l.length) : sumLen (l.take (k + 1)) = sumLen (l.take k) + l[k].2.length := by
  rw [sumLen_eq, sumLen_eq, flat_take l k h, List.length_append]
theorem sum_le (l : List (Value × List TPart)) (k : Nat) : sumLen (l.take k) ≤ sumLen l := by
  induction l generalizing k with
  | nil => simp
  | cons p l ih =>
    cases k with
    | zero => simp [sumLen]
    | succ k => have := ih k; simp only [List.take_succ_cons, sumLen]; omega
set_option maxRecDepth 100000 in
set_option maxHeartbeats 1000000 in
theorem concat_any (w : World) (b : Nat) (l : List (Value × List TPart)) (h4 : l.length ≤ 4) (hs : sumLen l ≤ 1000)
    (hc : ∀ j (h : j < l.length), w.cell? ⟨b, j, none⟩ = some l[j].1) (hl : ∀ j (h : j < l.length), SliceR w l[j].1 l[j].2.length (lcells l[j].2)) :
    Calls Tryz.prog 118 #[.slice (some ⟨b, 0, none⟩) l.length l.length] w fun e w' =>
      ∃ v, e = .returned v ∧ w'.ownsRow w.heap.size 49 10 v (flatP l).length (lcells (flatP l)) ∧ Below w.heap.size w w' := by
  have Hc := Lib.hid hc
  have Hl := Lib.hid hl
  clear hc hl
  go_enter Tryz.func118, Tryz.ntmps118
  go_wp2
  go_loop [3, 11] (fun s i => ∃ k : Nat, k ≤ l.length ∧ i = .int .i64 k ∧ s = .int .i64 (sumLen (l.take k))) (fun _ i => l.length - (intOf i).toNat)
  case atStart => exact ⟨0, Nat.zero_le _, rfl, rfl⟩
  case round =>
    obtain ⟨k, hk, rfl, rfl⟩ := hrel
    have hle := sum_le l k
    by_cases hlt : k < l.length
    · have hst := sum_take l k hlt
      have hle' := sum_le l (k + 1)
      have hcell := Hc.out k hlt
      obtain ⟨a, cap, hform⟩ := (Hl.out k hlt).form
      rw [hform] at hcell
      have Hst := Lib.hid hst
      have Hform := Lib.hid hform
      rw [hst] at hle'
      clear hst hform
      generalize hq : (l[k].2).length = q at *
      clear hq
      generalize hp : sumLen (l.take k) = p at *
      clear hp
      go_wp2
      all_goals go_round
      case rel => exact ⟨k + 1, by omega, by go_num, by rw [Hst.out]; go_num⟩
      case measure => simp [intOf]; omega
    · obtain rfl : k = l.length := by omega
      rw [List.take_length]
      generalize hp : sumLen l = p at *
      have Hp := Lib.hid hp
      clear hp
      go_wp2_with (first | (go_at_call 128; refine (grow_any _ p hs).mono ?_; rintro e w1 ⟨v, rfl, hown, hb⟩))
      clear hk hlt hle
      obtain ⟨i0, hi, hz0, hz1, hz2⟩ := info_parts infoPartI
      go_loopw [6, 27] (fun v i wr => ∃ k : Nat, k ≤ l.length ∧ i = .int .i64 k ∧ wr.ownsRow w.heap.size 49 10 v (flatP (l.take k)).length (lcells (flatP (l.take k))) ∧ Below w.heap.size w wr) (fun _ i _ => l.length - (intOf i).toNat)
      case atStart => exact ⟨0, Nat.zero_le _, rfl, hown, hb⟩
      case round =>
        clear hown hb
        obtain ⟨k, hk, rfl, hown, hb⟩ := hrel
        by_cases hlt : k < l.length
        · have hcell := Hc.out k hlt
          have hbl := block_lt_of_cell hcell
          rw [← hb.cell hbl] at hcell
          have Hft := Lib.hid (flat_take l k hlt)
          have hle' := sum_le l (k + 1)
          rw [Hp.out, sumLen_eq, Hft.out, List.length_append] at hle'
          have hsl := (Hl.out k hlt).below hb
          rcases hsl with ⟨hform, h0, hx⟩ | ⟨b2, o2, cap2, hform, h1, h2, h3, h5⟩
          · rw [hform] at hcell
            have hnil : l[k].2 = [] := List.eq_nil_of_length_eq_zero h0
            rw [hnil, List.append_nil] at Hft
            clear hle' h0 hx hform hnil
            generalize flatP (l.take k) = L at *
            go_wp2_with (first | (at_builtin; go_must (refine wpList_append_own_none rfl _ _ 51 rfl w.heap.size 49 i0 10 Tryz.underlying51 hi _ _ _ rfl hown rfl ?_)))
            go_roundw
            case rel => exact ⟨k + 1, by omega, by go_num, by rw [Hft.out]; exact hown, hb⟩
            case measure => simp [intOf]; omega
          · rw [hform] at hcell
            have Hform := Lib.hid hform
            clear hform
            generalize hn : l[k].2.length = n at *
            generalize flatP (l.take k) = L at *
            have hlen : (lcells l[k].2).length = n * 10 := by rw [lcells_length, hn]
            have Hlen := Lib.hid hlen
            have Hn := Lib.hid hn
            clear hlen hn
            go_wp2_with (first | (at_builtin; refine wpList_append_own _ rfl _ _ 51 rfl w.heap.size 49 i0 (.agg (pcells pZero)) 10 24 Tryz.underlying51 hi hz0 hz1 hz2 rfl (by decide) _ _ _ rfl hown ⟨b2, o2, none⟩ n cap2 (lcells l[k].2) rfl Hlen.out (fun j u hj => (by rw [Addr.add_mid]; exact h5 j u hj)) (lcells_one _) (by unfold maxLen; omega) (by omega) hb.size ?_; intro v' w2 hown' hgrow _))
            go_roundw
            case rel =>
              refine ⟨k + 1, by omega, by go_num, ?_, hb.grown hgrow hb.size (fun j hj => (hown.lt j hj).1)⟩
              rw [Hft.out, lcells_append, List.length_append, Hn.out]
              exact hown'
            case measure => simp [intOf]; omega
        · obtain rfl : k = l.length := by omega
          rw [List.take_length] at hown
          go_wp2
          go_ret
          exact ⟨_, rfl, hown, hb⟩
end Go.Proofs.YtccidllcjaaeeabGreatDoor
/- The walk of (tree.Tree).Split: the tree without a member's leaf, and the leaf. Conditions: the slice reads as at most 16 parts of at most 16 members, each secret has eight bytes, the counter is not frozen. -/
namespace Go.Proofs.YtccidllcjaaeeabGreatDoor
set_option maxRecDepth 100000
open Go.RowKit
open Go.Shelf Go.Lib Go.Sort
structure Desc where
  p : TPart
  bf : List TPart
  bh : List TPart
  n : Nat
def descF : Nat → TPart → Nat → List TPart → List TPart → Nat → Desc
  | 0, p, _, bf, bh, n => ⟨p, bf, bh, n⟩
  | d + 1, p, m, bf, bh, n => if p.b - p.a ≤ 1 then ⟨p, bf, bh, n⟩ else if hasB (pL p) m then descF d (pL p) m bf (bh ++ [pR p]) (n + 1) else descF d (pR p) m (bf ++ [pL p]) bh (n + 1)
def desc (p : TPart) (m : Nat) : Desc := descF 16 p m [] [] 0
theorem descF_stop (d : Nat) (p : TPart) (m : Nat) (bf bh : List TPart) (n : Nat) (h : p.b - p.a ≤ 1) : descF d p m bf bh n = ⟨p, bf, bh, n⟩ := by
  cases d with
  | zero => rfl
  | succ d => rw [descF, if_pos h]
theorem descF_left (d : Nat) (p : TPart) (m : Nat) (bf bh : List TPart) (n : Nat) (h : ¬ p.b - p.a ≤ 1) (hl : hasB (pL p) m = true) : descF (d + 1) p m bf bh n = descF d (pL p) m bf (bh ++ [pR p]) (n + 1) := by
  rw [descF, if_neg h, if_pos hl]
theorem descF_right (d : Nat) (p : TPart) (m : Nat) (bf bh : List TPart) (n : Nat) (h : ¬ p.b - p.a ≤ 1) (hl : hasB (pL p) m = false) : descF (d + 1) p m bf bh n = descF d (pR p) m (bf ++ [pL p]) bh (n + 1) := by
  rw [descF, if_neg h, if_neg (by rw [hl]; exact Bool.false_ne_true)]
/-- What Split leaves of the tree. -/
def restL (l : List TPart) (k : Nat) (D : Desc) : List TPart := l.take k ++ D.bf ++ D.bh.reverse ++ l.drop (k + 1)
theorem cnt_grown {w w' : World} {D o : Nat} {x : Value} (h : Below w.heap.size (w.setCell ⟨D, o, none⟩ x) w') : w.grownBy w' (some D) :=
  ⟨h.os, h.tape, h.output, cnt_size h, fun k hk hne => cnt_other h hk (fun e => hne (by rw [e]))⟩
theorem own_ne {w : World} {base e size n D : Nat} {v : Value} {xs : List Value} (h : w.ownsRow base e size v n xs) (hD : D < base) : v.ownBlock ≠ some D := fun hv => by
  have := (h.lt D hv).1
  omega
/-- What holds at the head of Split's loop. -/
def SpRel (w : World) (D o : Nat) (v : Int) (m P : Nat) (R : Desc) (g : Nat) (s11 s12 : Value) (wr : World) : Prop :=
  ∃ (p : TPart) (bf bh : List TPart) (n : Nat), p.b - p.a ≤ g + 1 ∧ p.a ≤ m ∧ m < p.b ∧ p.b ≤ 16 ∧ p.s.length = 8 ∧ n + g ≤ 16 ∧ bf.length ≤ n ∧ bh.length ≤ n ∧ R = descF g p m bf bh n ∧
    wr.heap[P]? = some (.cells (pcells p) 49 (0, 0)) ∧ wr.cell? ⟨w.heap.size, 0, none⟩ = some (.int .i64 m) ∧ wr.heap[w.heap.size + 1]? = some (.cells (cells zeroS) 36 (0, 0)) ∧
    wr.ownsRow (P + 1) 49 10 s11 bf.length (lcells bf) ∧ wr.ownsRow (P + 1) 49 10 s12 bh.length (lcells bh) ∧ (∀ g, s11.ownBlock = some g → s12.ownBlock ≠ some g) ∧
    Below w.heap.size (w.setCell ⟨D, o, none⟩ (.int .i64 (v + 2 * n))) wr
theorem part_cells2 {w : World} {P t : Nat} {p : TPart} (h : w.heap[P]? = some (.cells (pcells p) t (0, 0))) : w.cell? ⟨P, 0, none⟩ = some (.int .i64 p.a) ∧ w.cell? ⟨P, 1, none⟩ = some (.int .i64 p.b) := by
  refine ⟨?_, ?_⟩ <;> (rw [cell_of_row _ _ _ _ _ _ h, pcells, Array.getElem?_append_left (by simp)]; rfl)
theorem has_at (w : World) (P t m : Nat) (p : TPart) (h : w.heap[P]? = some (.cells (pcells p) t (0, 0))) :
    Calls Tryz.prog 115 #[.pointer (some ⟨P, 0, none⟩), .int .i64 m] w fun e w' => e = .returned (.bool (hasB p m)) ∧ w = w' :=
  (has_any w P 0 p.a p.b m (part_cells2 h).1 (part_cells2 h).2).mono fun _ _ ⟨he, hw⟩ => ⟨he, hw.symm⟩
theorem concat4 (w5 Wc : World) (T Bk : Nat) (v0 v1 v2 v3 : Value) (l0 l1 l2 l3 : List TPart) (h0 : SliceR w5 v0 l0.length (lcells l0)) (h1 : SliceR w5 v1 l1.length (lcells l1)) (h2 : SliceR w5 v2 l2.length (lcells l2)) (h3 : SliceR w5 v3 l3.length (lcells l3))
    (n0 : v0.ownBlock ≠ some T) (n1 : v1.ownBlock ≠ some T) (n2 : v2.ownBlock ≠ some T) (n3 : v3.ownBlock ≠ some T) (hs : l0.length + l1.length + l2.length + l3.length ≤ 1000)
    (hTs : T < w5.heap.size) (hgr : w5.grownBy Wc (some T)) (hB : Wc.heap[Bk]? = some (.cells #[v0, v1, v2, v3] 51 (0, 0))) :
    Calls Tryz.prog 118 #[.slice (some ⟨Bk, 0, none⟩) 4 4] Wc fun e w' =>
      ∃ v, e = .returned v ∧ w'.ownsRow w5.heap.size 49 10 v (l0 ++ l1 ++ l2 ++ l3).length (lcells (l0 ++ l1 ++ l2 ++ l3)) ∧ w5.grownBy w' (some T) ∧ w'.heap[T]? = Wc.heap[T]? := by
  have hsz := hgr.size
  have hk : ∀ g, g < w5.heap.size → g ≠ T → Wc.heap[g]? = w5.heap[g]? := fun g hg hn => hgr.block g hg (fun e => hn (by injection e))
  have hlt : ∀ v n xs, SliceR w5 v n xs → ∀ b, v.ownBlock = some b → b < w5.heap.size := fun v n xs h b hb => by
    rcases h with ⟨rfl, _⟩ | ⟨b', o, cap, rfl, _, _, h3, _⟩
    · cases hb
    · cases hb; exact h3
  have hsame : ∀ v n xs, SliceR w5 v n xs → v.ownBlock ≠ some T → SliceR Wc v n xs := fun v n xs h hn =>
    h.same (fun b hb => hk b (hlt v n xs h b hb) (fun e => hn (by rw [hb, e]))) hsz
  have h := concat_any Wc Bk [(v0, l0), (v1, l1), (v2, l2), (v3, l3)] (by simp) (by simp [sumLen]; omega)
    (fun j hj => by
      rw [cell_of_row _ _ _ _ _ _ hB]
      have : j = 0 ∨ j = 1 ∨ j = 2 ∨ j = 3 := by simp at hj; omega
      rcases this with rfl | rfl | rfl | rfl <;> rfl)
    (fun j hj => by
      have : j = 0 ∨ j = 1 ∨ j = 2 ∨ j = 3 := by simp at hj; omega
      rcases this with rfl | rfl | rfl | rfl
      · exact hsame _ _ _ h0 n0
      · exact hsame _ _ _ h1 n1
      · exact hsame _ _ _ h2 n2
      · exact hsame _ _ _ h3 n3)
  have e : flatP [(v0, l0), (v1, l1), (v2, l2), (v3, l3)] = l0 ++ l1 ++ l2 ++ l3 := by simp [flatP]
  rw [e] at h
  refine h.mono fun e w' ⟨v, h1, h2, h3⟩ => ⟨v, h1, ownsRow_mono h2 hsz, ⟨h3.os.trans hgr.os, h3.tape.trans hgr.tape, h3.output.trans hgr.output, Nat.le_trans hsz h3.size, fun g hg hn => (h3.block g (by omega)).trans (hgr.block g hg hn)⟩, h3.block T (by omega)⟩
theorem sliceR_take {w : World} {b o cap : Nat} {l : List TPart} (k : Nat) (hk : k ≤ l.length) (hc : l.length ≤ cap) (hm : cap ≤ maxLen) (hb : b < w.heap.size) (hr : w.rangeAt b o (lcells l)) :
    SliceR w (.slice (some ⟨b, o, none⟩) k cap) (l.take k).length (lcells (l.take k)) := by
  rw [List.length_take, Nat.min_eq_left hk]
  refine .inr ⟨b, o, cap, rfl, by omega, hm, hb, fun j u hj => hr j u ?_⟩
  have e : lcells l = lcells (l.take k) ++ lcells (l.drop k) := by rw [← lcells_append, List.take_append_drop]
  rw [e, List.getElem?_append_left (List.getElem?_eq_some_iff.1 hj).1]
  exact hj
theorem sliceR_drop {w : World} {b o cap : Nat} {l : List TPart} (k : Nat) (hk : k ≤ l.length) (hc : l.length ≤ cap) (hm : cap ≤ maxLen) (hb : b < w.heap.size) (hr : w.rangeAt b o (lcells l)) :
    SliceR w (.slice (some ⟨b, o + k * 10, none⟩) (l.length - k) (cap - k)) (l.drop k).length (lcells (l.drop k)) := by
  rw [List.length_drop]
  refine .inr ⟨b, o + k * 10, cap - k, rfl, by omega, by omega, hb, fun j u hj => ?_⟩
  rw [Nat.add_assoc]
  refine hr (k * 10 + j) u ?_
  have e : lcells l = lcells (l.take k) ++ lcells (l.drop k) := by rw [← lcells_append, List.take_append_drop]
  have hl : (lcells (l.take k)).length = k * 10 := by rw [lcells_length, List.length_take, Nat.min_eq_left hk]
  rw [e, List.getElem?_append_right (by omega), hl, Nat.add_sub_cancel_left]
  exact hj
theorem sliceR_none {w : World} {b o : Nat} (hb : b < w.heap.size) : SliceR w (.slice (some ⟨b, o, none⟩) 0 0) 0 [] := .inr ⟨b, o, 0, rfl, Nat.le_refl _, by unfold maxLen; omega, hb, fun j u hj => by simp at hj⟩
theorem slice_ne {b o n c T : Nat} (h : b ≠ T) : (Value.slice (some ⟨b, o, none⟩) n c).ownBlock ≠ some T := fun e => h (Option.some.inj e)
theorem below_grown {w a b : World} {p : Addr} {x : Value} {row : Option Nat} (h : Below w.heap.size (w.setCell p x) a) (hg : a.grownBy b row) (hrow : ∀ g, row = some g → w.heap.size ≤ g) : Below w.heap.size (w.setCell p x) b :=
  h.grown hg (cnt_size h) hrow
theorem sp_tail {w W4 W5 : World} {D o m P : Nat} {x : Value} {A B : TPart} {u v' other : Value} {lst olst : List TPart} {ob : Obj}
    (hP : w.heap.size + 2 ≤ P) (hP4 : P + 1 ≤ W4.heap.size) (hA : W4.heap[P]? = some (.cells (pcells A) 49 (0, 0))) (XM : W4.cell? ⟨w.heap.size, 0, none⟩ = some (.int .i64 m))
    (XT : W4.heap[w.heap.size + 1]? = some (.cells (cells zeroS) 36 (0, 0))) (Xu : W4.ownsRow (P + 1) 49 10 u lst.length (lcells lst)) (Xo : W4.ownsRow (P + 1) 49 10 other olst.length (lcells olst))
    (hB8 : B.s.length = 8) (hown5 : W5.ownsRow (P + 1) 49 10 v' (lst.length + 1) (lcells lst ++ (pcells B).toList)) (hg5 : (W4.alloc ob).grownBy W5 u.ownBlock)
    (hloc : v'.ownBlock = u.ownBlock ∨ v'.ownBlock = some (W4.alloc ob).heap.size) (XB : Below w.heap.size (w.setCell ⟨D, o, none⟩ x) W4) (hne : ∀ g, u.ownBlock = some g → other.ownBlock ≠ some g) :
    W5.heap[P]? = some (.cells (pcells A) 49 (0, 0)) ∧ W5.cell? ⟨w.heap.size, 0, none⟩ = some (.int .i64 m) ∧ W5.heap[w.heap.size + 1]? = some (.cells (cells zeroS) 36 (0, 0)) ∧
    W5.ownsRow (P + 1) 49 10 v' (lst ++ [B]).length (lcells (lst ++ [B])) ∧ W5.ownsRow (P + 1) 49 10 other olst.length (lcells olst) ∧ (∀ g, v'.ownBlock = some g → other.ownBlock ≠ some g) ∧
    Below w.heap.size (w.setCell ⟨D, o, none⟩ x) W5 := by
  have hk : ∀ g, g ≤ P → W5.heap[g]? = W4.heap[g]? := fun g hg => by
    rw [hg5.block g (by simp; omega) (fun e => by have := (Xu.lt g e.symm).1; omega), Below.heap_alloc _ _ _ (by omega)]
  have hfull : W4.grownBy W5 u.ownBlock := (World.grownBy_alloc W4 ob _).trans hg5
  refine ⟨(hk P (Nat.le_refl _)).trans hA, (World.cell?_of_block (a := ⟨w.heap.size, 0, none⟩) (hk w.heap.size (by omega))).trans XM, (hk _ (by omega)).trans XT, ?_, ?_, ?_, ?_⟩
  · rw [lcells_append, List.length_append]
    have e : lcells [B] = (pcells B).toList := by rw [← encP_eq B hB8]; simp [lcells]
    rw [e]; exact hown5
  · refine Xo.kept hfull ?_
    cases hu : other.ownBlock with
    | none => exact .inl rfl
    | some g => exact .inr (fun e => hne g e.symm hu)
  · intro g hg ho
    rcases hloc with h | h
    · exact hne g (h ▸ hg) ho
    · rw [h] at hg
      have := (Xo.lt g ho).2
      have h2 : (W4.alloc ob).heap.size = W4.heap.size + 1 := by simp
      injection hg with hg
      omega
  · exact below_grown XB hfull (fun g hg => by have := (Xu.lt g hg).1; omega)
theorem hasB_pL {p : TPart} {m : Nat} (h : hasB (pL p) m = true) : m < (pL p).b := by
  simp [hasB] at h; exact h.2
theorem hasB_pR {p : TPart} {m : Nat} (ha : p.a ≤ m) (h : hasB (pL p) m = false) : (pR p).a ≤ m := by
  have h2 : ¬ ((pL p).a ≤ m ∧ m < (pL p).b) := by simpa [hasB] using h
  have e1 : (pL p).a = p.a := rfl
  have e2 : (pL p).b = (pR p).a := rfl
  omega
theorem pL_size {p : TPart} (h : 1 < p.b - p.a) : (pL p).b = p.a + splitN (p.b - p.a) ∧ splitN (p.b - p.a) < p.b - p.a ∧ 0 < splitN (p.b - p.a) := ⟨rfl, splitN_lt _ h, splitN_pos _⟩
set_option maxRecDepth 100000 in
set_option maxHeartbeats 20000000 in
theorem split_any' (D o : Nat) (v : Int) (w : World) (l : List TPart) (sv : Value) (m k : Nat) (hx : w.cell? ⟨D, o, none⟩ = some (.int .i64 v)) (hf : w.frozen? ⟨D, o, none⟩ = false) (hb0 : 0 ≤ v) (hb1 : v ≤ 4611686018426000000)
    (hl : l.length ≤ 16) (h8 : ∀ p ∈ l, p.s.length = 8) (h16 : ∀ p ∈ l, p.b ≤ 16) (ht : SliceR w sv l.length (lcells l)) (hsD : sv.ownBlock ≠ some D) (hk : k < l.length) (hidx : Lib.idxBy (fun _ y => hasB y m) l default = k) (hhas : hasB l[k] m = true) :
    Calls Tryz.prog 86 #[sv, .pointer (some ⟨D, o, none⟩), .int .i64 m] w fun e w' =>
      ∃ t, e = .returned (.tuple #[t, .agg (cells (desc l[k] m).p.s), .bool true]) ∧ w'.ownsRow w.heap.size 49 10 t (restL l k (desc l[k] m)).length (lcells (restL l k (desc l[k] m))) ∧
        Below w.heap.size (w.setCell ⟨D, o, none⟩ (.int .i64 (v + 2 * (desc l[k] m).n))) w' := by
  have hD : D < w.heap.size := block_lt_of_cell hx
  obtain ⟨p0, hp0⟩ : ∃ p0, p0 = l[k] := ⟨_, rfl⟩
  rw [← hp0] at hhas ⊢
  obtain ⟨R, hR⟩ : ∃ R, R = desc p0 m := ⟨_, rfl⟩
  rw [← hR]
  have HR := Lib.hid hR
  clear hR
  obtain ⟨b, o2, cap, rfl, hlc, hcm, hbs, hrg⟩ : ∃ b o cap, sv = .slice (some ⟨b, o, none⟩) l.length cap ∧ l.length ≤ cap ∧ cap ≤ maxLen ∧ b < w.heap.size ∧ w.rangeAt b o (lcells l) := by
    rcases ht with ⟨_, h0, _⟩ | h
    · omega
    · exact h
  have Ht := Lib.hid ht
  have Hrg := Lib.hid hrg
  clear hrg
  have Hx := Lib.hid hx
  have Hf := Lib.hid hf
  have H8 := Lib.hid h8
  have H16 := Lib.hid h16
  have Hidx := Lib.hid hidx
  have Hhas := Lib.hid hhas
  clear ht hx hf h8 h16 hidx hhas
  go_enter Tryz.func86, Tryz.ntmps86
  go_upto_region 1 with (fail)
  generalize hW : World.alloc _ _ = W
  have hWM : W.cell? ⟨w.heap.size, 0, none⟩ = some (.int .i64 m) := by rw [← hW]; exact cell_of_row _ _ _ _ _ _ (heap_alloc2_old w _ _)
  have hWT : W.heap[w.heap.size + 1]? = some (.cells (cells zeroS) 36 (0, 0)) := by rw [← hW]; exact heap_alloc2_new w _ _
  have hWb : Below w.heap.size w W := by rw [← hW]; exact balloc (balloc (Below.refl _ _) _) _
  have hWs : w.heap.size + 2 ≤ W.heap.size := by rw [← hW]; simp
  clear hW
  have HWM := Lib.hid hWM
  have HWT := Lib.hid hWT
  clear hWM hWT
  have hkI : (k : Int) < l.length := by omega
  have hk0 : ¬ (k : Int) < 0 := by omega
  have hp8 : p0.s.length = 8 := by rw [hp0]; exact H8.out _ (List.getElem_mem hk)
  have hp16 : p0.b ≤ 16 := by rw [hp0]; exact H16.out _ (List.getElem_mem hk)
  have hrow : ∀ w1, Below W.heap.size W w1 → w1.rangeAt b (o2 + k * 10) (pcells p0).toList := fun w1 hb1 i u hi => by
    have hi10 : i < 10 := by
      have := (List.getElem?_eq_some_iff.1 hi).1
      rwa [Array.length_toList, pcells_size _ hp8] at this
    rw [hb1.cell (p := ⟨b, o2 + k * 10 + i, none⟩) (Nat.lt_of_lt_of_le hbs hWb.size), hWb.cell (p := ⟨b, o2 + k * 10 + i, none⟩) hbs, Nat.add_assoc]
    refine Hrg.out (k * 10 + i) u ?_
    rw [lcells_get l k i hk hi10, getElem!_pos l k hk, ← hp0, encP_eq _ hp8]
    exact hi
  have Hrow := Lib.hid hrow
  have hpi : (pcells p0).size = 10 := pcells_size _ hp8
  have hz10 : (pcells pZero).size = 10 := pcells_size _ rfl
  have Hp0 := Lib.hid hp0
  have Hpi := Lib.hid hpi
  have Hp8 := Lib.hid hp8
  have Hz10 := Lib.hid hz10
  clear hrow hp0 hpi hp8 hz10
  go_wp2_with (first
    | (go_at_call 113; refine (idx_any W w.heap.size m l _ hl (Ht.out.below hWb) HWM.out).mono ?_; rintro e w1 ⟨rfl, hb1⟩; rw [Hidx.out])
    | (refine wpList_load_mid rfl 49 _ rfl b (o2 + k * 10) rfl (pcells p0).toList _ (Hrow.out w1 hb1) Tryz.underlying49 rfl (by rw [infoPart, Array.length_toList, Hpi.out]) ?_)
    | (refine wpList_store_row rfl 49 _ _ rfl w1.heap.size (pcells p0) rfl rfl 49 (pcells pZero) (heap_alloc_new w1 _) (by rw [infoPart, Hpi.out]) (by rw [Hz10.out, Hpi.out]) (pcells_one _) ?_))
  have hlow : p0.a ≤ m ∧ m < p0.b := by have := Hhas.out; simpa [hasB] using this
  obtain ⟨hlo, hhi⟩ := hlow
  obtain ⟨P, hP⟩ : ∃ P, P = w1.heap.size := ⟨_, rfl⟩
  have hPs : w.heap.size + 2 ≤ P := by rw [hP]; exact Nat.le_trans hWs hb1.size
  rw [← hP]
  have HP := Lib.hid hP
  clear hP
  go_loopg [11, 12] 16 (fun g s11 s12 wr => SpRel w D o v m P R g s11 s12 wr)
  case atStart =>
    refine ⟨p0, [], [], 0, by omega, hlo, hhi, hp16, Hp8.out, by omega, Nat.le_refl _, Nat.le_refl _, HR.out, ?_, ?_, ?_, World.ownsRow_nil _ _ _ _, World.ownsRow_nil _ _ _ _, (fun _ h => by cases h), ?_⟩
    · rw [HP.out]; exact setRow_heap _ _ _ _ _ _ (heap_alloc_new _ _)
    · have hne : P ≠ w.heap.size := by omega
      have hlt1 : w.heap.size < w1.heap.size := by rw [← HP.out]; omega
      rw [World.cell?_of_block (a := ⟨w.heap.size, 0, none⟩) (setRow_other _ P w.heap.size _ (Ne.symm hne)), World.cell?_alloc_past _ _ _ hlt1, hb1.cell (p := ⟨w.heap.size, 0, none⟩) (by show w.heap.size < _; omega)]; exact HWM.out
    · rw [setRow_other _ _ _ _ (by omega), Below.heap_alloc _ _ _ (by rw [← HP.out]; omega), hb1.block _ (by omega)]; exact HWT.out
    · rw [Int.natCast_zero, Int.mul_zero, Int.add_zero, setCell_self Hx.out]
      exact below_setRow (balloc (bnext hWb hb1) _) (by omega) _
  case round =>
    clear hb1 Hrow Hhas
    obtain ⟨p, bf, bh, n, r1, r2, r3, r4, r5, r6, r7, r8, r9, rP, rM, rT, r10, r11, r12, r13⟩ := hrel
    obtain ⟨c0, c1⟩ := part_cells2 rP
    have R9 := Lib.hid r9
    have RP := Lib.hid rP
    have RM := Lib.hid rM
    have RT := Lib.hid rT
    have R10 := Lib.hid r10
    have R11 := Lib.hid r11
    have R12 := Lib.hid r12
    have R13 := Lib.hid r13
    have R5 := Lib.hid r5
    clear r5 r9 rP rM rT r10 r11 r12 r13
    have hcnt : wr.cell? ⟨D, o, none⟩ = some (.int .i64 (v + 2 * n)) := cnt_cell R13.out Hx.out
    have hcf : wr.frozen? ⟨D, o, none⟩ = false := cnt_frozen R13.out Hx.out Hf.out
    have Hcnt := Lib.hid hcnt
    have Hcf := Lib.hid hcf
    clear hcnt hcf
    by_cases hgt : 1 < p.b - p.a
    · have hgtI : (1 : Int) < (p.b : Int) - p.a := by omega
      have hPD : P ≠ D := by omega
      have hq1 : (pcells (pL p)).size = 10 := pcells_size _ (kd_length _ _ _)
      have hq2 : (pcells (pR p)).size = 10 := pcells_size _ (kd_length _ _ _)
      have Hq1 := Lib.hid hq1
      have Hq2 := Lib.hid hq2
      clear hq1 hq2
      go_wp2_with fail
      refine (halves_any D o P (v + 2 * n) wr p R5.out (by omega) r4 Hcnt.out Hcf.out (by omega) (by omega) RP.out hPD).mono ?_
      rintro e w2 ⟨rfl, hb2⟩
      clear c0 c1
      have hPw : P < wr.heap.size := (Array.getElem?_eq_some_iff.1 RP.out).1
      have hw2 : wr.heap.size ≤ w2.heap.size := cnt_size hb2
      have Zp := Lib.hid (cnt_row hb2 RP.out hPD)
      have Zt := Lib.hid (cnt_row hb2 RT.out (by omega))
      have Zm : Hid (w2.cell? ⟨w.heap.size, 0, none⟩ = some (.int .i64 m)) := Lib.hid (by
        rw [hb2.cell (p := ⟨w.heap.size, 0, none⟩) (by show w.heap.size < _; omega), World.cell?_setCell_other _ _ _ _ (fun e => by injection e with e; omega)]; exact RM.out)
      have Z10 := Lib.hid (R10.out.kept (cnt_grown hb2) (.inr (own_ne R10.out (by omega))))
      have Z11 := Lib.hid (R11.out.kept (cnt_grown hb2) (.inr (own_ne R11.out (by omega))))
      have ZB : Hid (Below w.heap.size (w.setCell ⟨D, o, none⟩ (.int .i64 (v + 2 * (n + 1 : Nat)))) w2) := Lib.hid (by
        have := cnt_next R13.out hb2
        rwa [show v + 2 * (n : Int) + 2 = v + 2 * ((n + 1 : Nat) : Int) by omega] at this)
      clear RP RM RT R10 R11 R13 Hcnt Hcf hb2
      obtain ⟨Q, hQ⟩ : ∃ Q, Q = w2.heap.size := ⟨_, rfl⟩
      go_upto_region 8 with (first
        | (refine wpList_store_row rfl 49 (.tmp 13) _ rfl w2.heap.size (pcells (pL p)) rfl rfl 49 (pcells pZero) (heap_alloc2_old w2 _ _) (by rw [infoPart, Hq1.out]) (by rw [Hz10.out, Hq1.out]) (pcells_one _) ?_)
        | (refine wpList_store_row rfl 49 (.tmp 14) _ rfl (w2.heap.size + 1) (pcells (pR p)) rfl rfl 49 (pcells pZero) ((setRow_other _ _ _ _ (by omega)).trans (heap_alloc2_new w2 _ _)) (by rw [infoPart, Hq2.out]) (by rw [Hz10.out, Hq2.out]) (pcells_one _) ?_))
      rw [← hQ]
      generalize hW3 : World.setRow _ (Q + 1) _ = W3
      have hs3 : Q + 2 = W3.heap.size := by rw [← hW3, hQ]; simp
      have hold : ∀ g, g < Q → W3.heap[g]? = w2.heap[g]? := fun g hg => by
        rw [← hW3, setRow_other _ _ _ _ (by omega), setRow_other _ _ _ _ (by omega), Below.heap_alloc _ _ _ (by simp; omega), Below.heap_alloc _ _ _ (by omega)]
      have hL3 : W3.heap[Q]? = some (.cells (pcells (pL p)) 49 (0, 0)) := by
        rw [← hW3, setRow_other _ _ _ _ (by omega), hQ]; exact setRow_heap _ _ _ _ _ _ (heap_alloc2_old w2 _ _)
      have hR3 : W3.heap[Q + 1]? = some (.cells (pcells (pR p)) 49 (0, 0)) := by
        rw [← hW3]; refine setRow_heap _ _ (pcells pZero) _ _ _ ?_; rw [setRow_other _ _ _ _ (by omega), hQ]; exact heap_alloc2_new w2 _ _
      have hg3 : w2.grownBy W3 none := ⟨by rw [← hW3]; rfl, by rw [← hW3]; rfl, by rw [← hW3]; rfl, by omega, fun g hg _ => hold g (by omega)⟩
      have hP2 : P < w2.heap.size := by omega
      clear hW3
      have Y10 := Lib.hid (Z10.out.kept hg3 (by cases u11.ownBlock <;> simp))
      have Y11 := Lib.hid (Z11.out.kept hg3 (by cases u12.ownBlock <;> simp))
      have Yp : Hid (W3.heap[P]? = some (.cells (pcells p) 49 (0, 0))) := Lib.hid ((hold P (by omega)).trans Zp.out)
      have Yt : Hid (W3.heap[w.heap.size + 1]? = some (.cells (cells zeroS) 36 (0, 0))) := Lib.hid ((hold _ (by omega)).trans Zt.out)
      have ym : W3.cell? ⟨w.heap.size, 0, none⟩ = some (.int .i64 m) := (World.cell?_of_block (a := ⟨w.heap.size, 0, none⟩) (hold w.heap.size (by omega))).trans Zm.out
      have YB := Lib.hid (below_grown ZB.out hg3 (fun g hg => by cases hg))
      have hL3' := Lib.hid hL3
      have hR3' := Lib.hid hR3
      have HQ := Lib.hid hQ
      have hPQ : P + 1 ≤ Q := by omega
      have hQ3 : Q + 2 ≤ W3.heap.size := by omega
      have hpz : (pcells p).size = 10 := pcells_size _ R5.out
      have Hpz := Lib.hid hpz
      have Ym := Lib.hid ym
      clear Z10 Z11 Zp Zt Zm ZB hQ hs3 hold hL3 hR3 hg3 hpz
      have hL3 := hL3'
      have hR3 := hR3'
      clear hL3' hR3'
      obtain ⟨i0, hi', hz0', hz1', hz2'⟩ := info_parts infoPartI
      have hi := Lib.hid hi'
      have hz0 := Lib.hid hz0'
      have hz1 := Lib.hid hz1'
      have hz2 := Lib.hid hz2'
      clear hi' hz0' hz1' hz2'
      cases hb : hasB (pL p) m with
      | true =>
        have Hb := Lib.hid hb
        clear hb
        go_upto_region 10 with (first
          | (go_at_call 115; refine (has_at W3 Q _ m (pL p) hL3.out).mono ?_; rintro e w' ⟨rfl, rfl⟩; rw [Hb.out])
          | (refine wpList_load_row rfl 49 (.tmp 13) rfl Q rfl _ (pcells (pL p)) _ _ hL3.out Tryz.underlying49 rfl (by rw [infoPart, Hq1.out]) ?_)
          | (refine wpList_store_row rfl 49 (.tmp 10) _ rfl P (pcells (pL p)) rfl rfl 49 (pcells p) Yp.out (by rw [infoPart, Hq1.out]) (by rw [Hpz.out, Hq1.out]) (pcells_one _) ?_))
        generalize hW4 : World.setRow _ P _ = W4
        have hP4 : W4.heap[P]? = some (.cells (pcells (pL p)) 49 (0, 0)) := by rw [← hW4]; exact setRow_heap _ _ _ _ _ _ Yp.out
        have hB4 : W4.heap[(Q + 1)]? = some (.cells (pcells (pR p)) 49 (0, 0)) := by rw [← hW4, setRow_other _ _ _ _ (by omega)]; exact hR3.out
        have hg4 : W3.grownBy W4 (some P) := by rw [← hW4]; exact ⟨rfl, rfl, rfl, by simp, fun g _ hne => setRow_other _ _ _ _ (fun e => hne (by rw [e]))⟩
        have hs4 : W3.heap.size ≤ W4.heap.size := hg4.size
        clear hW4
        have X10 := Lib.hid (Y10.out.kept hg4 (.inr (own_ne Y10.out (Nat.lt_succ_self P))))
        have X11 := Lib.hid (Y11.out.kept hg4 (.inr (own_ne Y11.out (Nat.lt_succ_self P))))
        have XT : Hid (W4.heap[w.heap.size + 1]? = some (.cells (cells zeroS) 36 (0, 0))) := Lib.hid ((hg4.block _ (by omega) (fun e => by injection e with e; omega)).trans Yt.out)
        have XM : Hid (W4.cell? ⟨w.heap.size, 0, none⟩ = some (.int .i64 m)) := Lib.hid ((World.cell?_of_block (a := ⟨w.heap.size, 0, none⟩) (hg4.block w.heap.size (by omega) (fun e => by injection e with e; omega))).trans Ym.out)
        have XB := Lib.hid (below_grown YB.out hg4 (fun g hg => by injection hg with hg; omega))
        have hP4s : P + 1 ≤ W4.heap.size := by omega
        have HP4 := Lib.hid hP4
        have HB4 := Lib.hid hB4
        clear hP4 hB4 hg4
        go_wp2_with (first
          | (refine wpList_load_row rfl 49 (.tmp 14) rfl (Q + 1) rfl _ (pcells (pR p)) _ _ HB4.out Tryz.underlying49 rfl (by rw [infoPart, Hq2.out]) ?_)
          | (refine wpList_slice_one rfl 51 49 (.tmp 40) (by rfl) (pcells (pR p)) (by rfl) i0 _ Tryz.underlying51 hi.out hz0.out (hz1.out.trans Hq2.out.symm) (by rw [Hq2.out]; decide) (by rw [Hq2.out]; decide) ?_)
          | (at_builtin; go_must (refine wpList_append_own_at _ rfl (.tmp 39) (.tmp 41) 51 (by rfl) (P + 1) 49 i0 _ 10 24 Tryz.underlying51 hi.out hz0.out hz1.out hz2.out rfl (by decide) u12 bh.length (lcells bh) (by rfl) (X11.out.alloc _) ⟨W4.heap.size, 0, none⟩ 1 1 (pcells (pR p)).toList (by rfl) (by rw [Array.length_toList, Hq2.out]) (cell_new_row _ _ _) (fun u hu => Array.all_eq_true_iff_forall_mem.1 (pcells_one _) u (by simpa using hu)) (by unfold maxLen; omega) (by omega) (by simp; omega) ?_); intro v' W5 hown5 hg5 _ hloc))
        go_roundg (gk - 1)
        case measure => omega
        case rel =>
          obtain ⟨t1, t2, t3, t4, t5, t6, t7⟩ := sp_tail hPs hP4s HP4.out XM.out XT.out X11.out X10.out (kd_length _ _ _) hown5 hg5 hloc XB.out (fun g hg ho => R12.out g ho hg)
          obtain ⟨q1, q2, q3⟩ := pL_size hgt
          have hlt' := hasB_pL Hb.out
          obtain ⟨g', rfl⟩ : ∃ g', gk = g' + 1 := ⟨gk - 1, by omega⟩
          exact ⟨pL p, bf, bh ++ [pR p], n + 1, by rw [q1]; show _ - p.a ≤ _; omega, r2, hlt', by rw [q1]; omega, kd_length _ _ _, by omega, by omega, by simp; omega, R9.out.trans (descF_left _ _ _ _ _ _ (by omega) Hb.out), t1, t2, t3, t5, t4, fun g hg ho => t6 g ho hg, t7⟩
      | false =>
        have Hb := Lib.hid hb
        clear hb
        go_upto_region 12 with (first
          | (go_at_call 115; refine (has_at W3 Q _ m (pL p) hL3.out).mono ?_; rintro e w' ⟨rfl, rfl⟩; rw [Hb.out])
          | (refine wpList_load_row rfl 49 (.tmp 14) rfl (Q + 1) rfl _ (pcells (pR p)) _ _ hR3.out Tryz.underlying49 rfl (by rw [infoPart, Hq2.out]) ?_)
          | (refine wpList_store_row rfl 49 (.tmp 10) _ rfl P (pcells (pR p)) rfl rfl 49 (pcells p) Yp.out (by rw [infoPart, Hq2.out]) (by rw [Hpz.out, Hq2.out]) (pcells_one _) ?_))
        generalize hW4 : World.setRow _ P _ = W4
        have hP4 : W4.heap[P]? = some (.cells (pcells (pR p)) 49 (0, 0)) := by rw [← hW4]; exact setRow_heap _ _ _ _ _ _ Yp.out
        have hB4 : W4.heap[Q]? = some (.cells (pcells (pL p)) 49 (0, 0)) := by rw [← hW4, setRow_other _ _ _ _ (by omega)]; exact hL3.out
        have hg4 : W3.grownBy W4 (some P) := by rw [← hW4]; exact ⟨rfl, rfl, rfl, by simp, fun g _ hne => setRow_other _ _ _ _ (fun e => hne (by rw [e]))⟩
        have hs4 : W3.heap.size ≤ W4.heap.size := hg4.size
        clear hW4
        have X10 := Lib.hid (Y10.out.kept hg4 (.inr (own_ne Y10.out (Nat.lt_succ_self P))))
        have X11 := Lib.hid (Y11.out.kept hg4 (.inr (own_ne Y11.out (Nat.lt_succ_self P))))
        have XT : Hid (W4.heap[w.heap.size + 1]? = some (.cells (cells zeroS) 36 (0, 0))) := Lib.hid ((hg4.block _ (by omega) (fun e => by injection e with e; omega)).trans Yt.out)
        have XM : Hid (W4.cell? ⟨w.heap.size, 0, none⟩ = some (.int .i64 m)) := Lib.hid ((World.cell?_of_block (a := ⟨w.heap.size, 0, none⟩) (hg4.block w.heap.size (by omega) (fun e => by injection e with e; omega))).trans Ym.out)
        have XB := Lib.hid (below_grown YB.out hg4 (fun g hg => by injection hg with hg; omega))
        have hP4s : P + 1 ≤ W4.heap.size := by omega
        have HP4 := Lib.hid hP4
        have HB4 := Lib.hid hB4
        clear hP4 hB4 hg4
        go_wp2_with (first
          | (refine wpList_load_row rfl 49 (.tmp 13) rfl Q rfl _ (pcells (pL p)) _ _ HB4.out Tryz.underlying49 rfl (by rw [infoPart, Hq1.out]) ?_)
          | (refine wpList_slice_one rfl 51 49 (.tmp 45) (by rfl) (pcells (pL p)) (by rfl) i0 _ Tryz.underlying51 hi.out hz0.out (hz1.out.trans Hq1.out.symm) (by rw [Hq1.out]; decide) (by rw [Hq1.out]; decide) ?_)
          | (at_builtin; go_must (refine wpList_append_own_at _ rfl (.tmp 44) (.tmp 46) 51 (by rfl) (P + 1) 49 i0 _ 10 24 Tryz.underlying51 hi.out hz0.out hz1.out hz2.out rfl (by decide) u11 bf.length (lcells bf) (by rfl) (X10.out.alloc _) ⟨W4.heap.size, 0, none⟩ 1 1 (pcells (pL p)).toList (by rfl) (by rw [Array.length_toList, Hq1.out]) (cell_new_row _ _ _) (fun u hu => Array.all_eq_true_iff_forall_mem.1 (pcells_one _) u (by simpa using hu)) (by unfold maxLen; omega) (by omega) (by simp; omega) ?_); intro v' W5 hown5 hg5 _ hloc))
        go_roundg (gk - 1)
        case measure => omega
        case rel =>
          obtain ⟨t1, t2, t3, t4, t5, t6, t7⟩ := sp_tail hPs hP4s HP4.out XM.out XT.out X10.out X11.out (kd_length _ _ _) hown5 hg5 hloc XB.out R12.out
          obtain ⟨q1, q2, q3⟩ := pL_size hgt
          have hge' := hasB_pR r2 Hb.out
          have q4 : (pR p).a = p.a + splitN (p.b - p.a) := rfl
          have q5 : (pR p).b = p.b := rfl
          obtain ⟨g', rfl⟩ : ∃ g', gk = g' + 1 := ⟨gk - 1, by omega⟩
          exact ⟨pR p, bf ++ [pL p], bh, n + 1, by rw [q4, q5]; omega, hge', r3, r4, kd_length _ _ _, by omega, by simp; omega, by omega, R9.out.trans (descF_right _ _ _ _ _ _ (by omega) Hb.out), t1, t2, t3, t4, t5, t6, t7⟩
    · have hgtI : ¬ (1 : Int) < (p.b : Int) - p.a := by omega
      have HR9 : Hid (R = ⟨p, bf, bh, n⟩) := Lib.hid (R9.out.trans (descF_stop _ _ _ _ _ _ (by omega)))
      go_wp2_with (fail)
      refine (rev_any wr (P + 1) bh _ R11.out (by omega)).mono ?_
      rintro e w5 ⟨rfl, ho6, hg6⟩
      have hrs : wr.heap.size ≤ w5.heap.size := hg6.size
      have hPr : P < wr.heap.size := (Array.getElem?_eq_some_iff.1 RP.out).1
      have hk5 : ∀ g, g ≤ P → w5.heap[g]? = wr.heap[g]? := fun g hg => hg6.block g (by omega) (fun e => by have := (R11.out.lt g e.symm).1; omega)
      have ZP := Lib.hid ((hk5 P (Nat.le_refl _)).trans RP.out)
      have ZT := Lib.hid ((hk5 _ (by omega)).trans RT.out)
      have ZB := Lib.hid (below_grown R13.out hg6 (fun g hg => by have := (R11.out.lt g hg).1; omega))
      have Z10 : Hid (w5.ownsRow (P + 1) 49 10 u11 bf.length (lcells bf)) := Lib.hid (R10.out.kept hg6 (by
        cases hu : u11.ownBlock with
        | none => exact .inl rfl
        | some g => exact .inr (fun e => R12.out g hu e.symm)))
      have Z12 := Lib.hid ho6
      have hbD : b ≠ D := fun e => hsD (by rw [e]; rfl)
      have hbk : w5.heap[b]? = w.heap[b]? := (hk5 b (by omega)).trans ((R13.out.block b hbs).trans (heap_setCell_other _ _ _ _ hbD))
      have hr5 : w5.rangeAt b o2 (lcells l) := fun j u hj => by rw [World.cell?_of_block (a := ⟨b, o2 + j, none⟩) hbk]; exact Hrg.out j u hj
      have ZR := Lib.hid hr5
      clear c0 c1 R10 R11 R12 R13 RP RM RT Hcnt Hcf ho6 hg6 hk5 hbk hr5 hgtI
      have hP5 : P < w5.heap.size := by omega
      have hk1 : (k : Int) + 1 ≤ l.length := by omega
      have hkc : (k : Int) ≤ cap := by omega
      obtain ⟨a0, a1, a2, a3, a4, a5, a6, a7, hk8⟩ := eight R5.out
      have Hk8 := Lib.hid hk8
      clear hk8
      have hwr1 : IntKind.i64.wrap ((k : Int) + 1) = (k : Int) + 1 := IntWalk.i64_in _ (by omega)
      have hwt1 : ((k : Int) + 1).toNat = k + 1 := by omega
      have hwp1 : (0 : Int) ≤ (k : Int) + 1 := by omega
      have A0 := Lib.hid (sliceR_take k (by omega) hlc hcm (by omega) ZR.out)
      have A1 := Lib.hid (SliceR.of_own Z10.out)
      have A2 := Lib.hid (SliceR.of_own Z12.out)
      obtain ⟨q1, c1, rfl⟩ := A1.out.form
      obtain ⟨q2, c2, hq2⟩ := A2.out.form
      subst hq2
      by_cases hce : cap = k + 1
      · have hce2 := hce.symm
        clear hce
        have A3 : Hid (SliceR w5 (.slice (some ⟨b, o2, none⟩) 0 0) (l.drop (k + 1)).length (lcells (l.drop (k + 1)))) := Lib.hid (by
          have e : l.drop (k + 1) = [] := List.drop_eq_nil_of_le (by omega)
          rw [e]
          exact sliceR_none (by omega))
        obtain ⟨k0, k1, e2, e3, e4, e5, e6, e7, e8, e9⟩ := ten_cells Hk8.out ZP.out
        clear k0 k1
        have hsT : w.heap.size + 1 < w5.heap.size := by omega
        obtain ⟨t0, t1, t2, t3, t4, t5, t6, t7⟩ := eight_cells' (k := zeroS) rfl ZT.out
        have tf := row_frozen ZT.out
        have hcA : ∀ ob j, (w5.alloc ob).cell? ⟨w.heap.size + 1, j, none⟩ = w5.cell? ⟨w.heap.size + 1, j, none⟩ := fun ob j => World.cell?_alloc_past _ _ _ hsT
        have hfA : ∀ ob j, (w5.alloc ob).frozen? ⟨w.heap.size + 1, j, none⟩ = w5.frozen? ⟨w.heap.size + 1, j, none⟩ := fun ob j => World.frozen?_alloc_past _ _ _ hsT
        have hTP : w.heap.size + 1 ≠ P := by omega
        have hn0 : (Value.slice (some ⟨b, o2, none⟩) k cap).ownBlock ≠ some (w.heap.size + 1) := slice_ne (by omega)
        have hn1 := own_ne (D := w.heap.size + 1) Z10.out (by omega)
        have hn2 := own_ne (D := w.heap.size + 1) Z12.out (by omega)
        have hn3 : (Value.slice (some ⟨b, o2, none⟩) 0 0).ownBlock ≠ some (w.heap.size + 1) := slice_ne (by omega)
        go_wp2_with (fail)
        go_region_held3 (fun w' => w'.cell? ⟨P, 2, none⟩ = some (.int .u8 a0.toNat) ∧ w'.cell? ⟨P, 3, none⟩ = some (.int .u8 a1.toNat) ∧ w'.cell? ⟨P, 4, none⟩ = some (.int .u8 a2.toNat) ∧ w'.cell? ⟨P, 5, none⟩ = some (.int .u8 a3.toNat) ∧ w'.cell? ⟨P, 6, none⟩ = some (.int .u8 a4.toNat) ∧ w'.cell? ⟨P, 7, none⟩ = some (.int .u8 a5.toNat) ∧ w'.cell? ⟨P, 8, none⟩ = some (.int .u8 a6.toNat) ∧ w'.cell? ⟨P, 9, none⟩ = some (.int .u8 a7.toNat)) (refine ⟨?_, ?_, ?_, ?_, ?_, ?_, ?_, ?_⟩ <;> (first | with_reducible assumption | (simp only [World.cell?_drew, cell_ne hTP, World.cell?_alloc_past _ _ _ hP5]; with_reducible assumption)))
          ((go_at_call 118; go_must (refine (concat4 w5 _ (w.heap.size + 1) _ _ _ _ _ (l.take k) bf bh.reverse (l.drop (k + 1)) (by simpa using A0.out) A1.out (by simpa using A2.out) (by simpa using A3.out) hn0 hn1 hn2 hn3 (by simp; omega) hsT ?_ ?_).mono ?_); (refine ⟨rfl, rfl, rfl, by simp, fun g hg _ => ?_⟩; rw [heap_drew, Below.heap_alloc w5 _ g hg]); (rw [heap_drew]; exact heap_alloc_at _ _ _ rfl); rintro e w6 ⟨v6, rfl, ho7, hg7, hT7⟩; go_must (obtain ⟨z0, z1, k2, k3, k4, k5, k6, k7, k8, k9⟩ := ten_cells Hk8.out ((hg7.block P hP5 (fun e => hTP (Option.some.inj e).symm)).trans ZP.out)); clear z0 z1; (try (have hz7 : w6.heap[w.heap.size + 1]? = some (.cells (cells zeroS) 36 (0, 0)) := hT7.trans (by simp only [heap_drew]; rw [Below.heap_alloc w5 _ _ hsT]; exact ZT.out); obtain ⟨y0, y1, y2, y3, y4, y5, y6, y7⟩ := eight_cells' (k := zeroS) rfl hz7; have yf := row_frozen hz7; have Hz7 := Lib.hid hz7; clear hz7)); have HT7 := Lib.hid hT7; have H7 := Lib.hid ho7; have G7 := Lib.hid hg7; clear hT7 ho7 hg7))
        show Exit.then _ _ Exit.normal _ (store8 w6 (w.heap.size + 1) (.int .u8 a0.toNat) (.int .u8 a1.toNat) (.int .u8 a2.toNat) (.int .u8 a3.toNat) (.int .u8 a4.toNat) (.int .u8 a5.toNat) (.int .u8 a6.toNat) (.int .u8 a7.toNat))
        have hfin : Hid (store8 w6 (w.heap.size + 1) (.int .u8 a0.toNat) (.int .u8 a1.toNat) (.int .u8 a2.toNat) (.int .u8 a3.toNat) (.int .u8 a4.toNat) (.int .u8 a5.toNat) (.int .u8 a6.toNat) (.int .u8 a7.toNat) = w6.setRow (w.heap.size + 1) (cells p.s)) := Lib.hid (by
          rw [store8_eq Hz7.out, set8_secret _ rfl, Hk8.out]; rfl)
        rw [hfin.out]
        clear y0 y1 y2 y3 y4 y5 y6 y7 yf k2 k3 k4 k5 k6 k7 k8 k9 t0 t1 t2 t3 t4 t5 t6 t7 tf hcA hfA e2 e3 e4 e5 e6 e7 e8 e9
        go_wp2_with (fail)
        refine bodyPost_ret (results_tct rfl _ _ (w.heap.size + 1) _ _ _ _ rfl (setRow_heap _ _ _ _ _ _ Hz7.out) Tryz.underlying36 rfl (by rw [infoSecret, cells_size, R5.out])) rfl ?_
        rw [HR9.out]
        have hgf : w6.grownBy (w6.setRow (w.heap.size + 1) (cells p.s)) (some (w.heap.size + 1)) := ⟨rfl, rfl, rfl, by simp, fun g _ hne => setRow_other _ _ _ _ (fun e => hne (by rw [e]))⟩
        exact ⟨_, rfl, ownsRow_mono (H7.out.kept hgf (.inr (own_ne H7.out hsT))) (by omega), below_setRow (below_grown ZB.out G7.out (fun g hg => by injection hg with hg; omega)) (by omega) _⟩
      · have A3 := Lib.hid (sliceR_drop (k + 1) (by omega) hlc hcm (by omega) ZR.out)
        obtain ⟨k0, k1, e2, e3, e4, e5, e6, e7, e8, e9⟩ := ten_cells Hk8.out ZP.out
        clear k0 k1
        have hsT : w.heap.size + 1 < w5.heap.size := by omega
        obtain ⟨t0, t1, t2, t3, t4, t5, t6, t7⟩ := eight_cells' (k := zeroS) rfl ZT.out
        have tf := row_frozen ZT.out
        have hcA : ∀ ob j, (w5.alloc ob).cell? ⟨w.heap.size + 1, j, none⟩ = w5.cell? ⟨w.heap.size + 1, j, none⟩ := fun ob j => World.cell?_alloc_past _ _ _ hsT
        have hfA : ∀ ob j, (w5.alloc ob).frozen? ⟨w.heap.size + 1, j, none⟩ = w5.frozen? ⟨w.heap.size + 1, j, none⟩ := fun ob j => World.frozen?_alloc_past _ _ _ hsT
        have hTP : w.heap.size + 1 ≠ P := by omega
        have hn0 : (Value.slice (some ⟨b, o2, none⟩) k cap).ownBlock ≠ some (w.heap.size + 1) := slice_ne (by omega)
        have hn1 := own_ne (D := w.heap.size + 1) Z10.out (by omega)
        have hn2 := own_ne (D := w.heap.size + 1) Z12.out (by omega)
        have hn3 : (Value.slice (some ⟨b, o2 + (k + 1) * 10, none⟩) (l.length - (k + 1)) (cap - (k + 1))).ownBlock ≠ some (w.heap.size + 1) := slice_ne (by omega)
        go_wp2_with (fail)
        go_region_held3 (fun w' => w'.cell? ⟨P, 2, none⟩ = some (.int .u8 a0.toNat) ∧ w'.cell? ⟨P, 3, none⟩ = some (.int .u8 a1.toNat) ∧ w'.cell? ⟨P, 4, none⟩ = some (.int .u8 a2.toNat) ∧ w'.cell? ⟨P, 5, none⟩ = some (.int .u8 a3.toNat) ∧ w'.cell? ⟨P, 6, none⟩ = some (.int .u8 a4.toNat) ∧ w'.cell? ⟨P, 7, none⟩ = some (.int .u8 a5.toNat) ∧ w'.cell? ⟨P, 8, none⟩ = some (.int .u8 a6.toNat) ∧ w'.cell? ⟨P, 9, none⟩ = some (.int .u8 a7.toNat)) (refine ⟨?_, ?_, ?_, ?_, ?_, ?_, ?_, ?_⟩ <;> (first | with_reducible assumption | (simp only [World.cell?_drew, cell_ne hTP, World.cell?_alloc_past _ _ _ hP5]; with_reducible assumption)))
          ((go_at_call 118; go_must (refine (concat4 w5 _ (w.heap.size + 1) _ _ _ _ _ (l.take k) bf bh.reverse (l.drop (k + 1)) (by simpa using A0.out) A1.out (by simpa using A2.out) (by simpa using A3.out) hn0 hn1 hn2 hn3 (by simp; omega) hsT ?_ ?_).mono ?_); (refine ⟨rfl, rfl, rfl, by simp, fun g hg _ => ?_⟩; rw [heap_drew, Below.heap_alloc w5 _ g hg]); (rw [heap_drew]; exact heap_alloc_at _ _ _ rfl); rintro e w6 ⟨v6, rfl, ho7, hg7, hT7⟩; go_must (obtain ⟨z0, z1, k2, k3, k4, k5, k6, k7, k8, k9⟩ := ten_cells Hk8.out ((hg7.block P hP5 (fun e => hTP (Option.some.inj e).symm)).trans ZP.out)); clear z0 z1; (try (have hz7 : w6.heap[w.heap.size + 1]? = some (.cells (cells zeroS) 36 (0, 0)) := hT7.trans (by simp only [heap_drew]; rw [Below.heap_alloc w5 _ _ hsT]; exact ZT.out); obtain ⟨y0, y1, y2, y3, y4, y5, y6, y7⟩ := eight_cells' (k := zeroS) rfl hz7; have yf := row_frozen hz7; have Hz7 := Lib.hid hz7; clear hz7)); have HT7 := Lib.hid hT7; have H7 := Lib.hid ho7; have G7 := Lib.hid hg7; clear hT7 ho7 hg7))
        show Exit.then _ _ Exit.normal _ (store8 w6 (w.heap.size + 1) (.int .u8 a0.toNat) (.int .u8 a1.toNat) (.int .u8 a2.toNat) (.int .u8 a3.toNat) (.int .u8 a4.toNat) (.int .u8 a5.toNat) (.int .u8 a6.toNat) (.int .u8 a7.toNat))
        have hfin : Hid (store8 w6 (w.heap.size + 1) (.int .u8 a0.toNat) (.int .u8 a1.toNat) (.int .u8 a2.toNat) (.int .u8 a3.toNat) (.int .u8 a4.toNat) (.int .u8 a5.toNat) (.int .u8 a6.toNat) (.int .u8 a7.toNat) = w6.setRow (w.heap.size + 1) (cells p.s)) := Lib.hid (by
          rw [store8_eq Hz7.out, set8_secret _ rfl, Hk8.out]; rfl)
        rw [hfin.out]
        clear y0 y1 y2 y3 y4 y5 y6 y7 yf k2 k3 k4 k5 k6 k7 k8 k9 t0 t1 t2 t3 t4 t5 t6 t7 tf hcA hfA e2 e3 e4 e5 e6 e7 e8 e9
        go_wp2_with (fail)
        refine bodyPost_ret (results_tct rfl _ _ (w.heap.size + 1) _ _ _ _ rfl (setRow_heap _ _ _ _ _ _ Hz7.out) Tryz.underlying36 rfl (by rw [infoSecret, cells_size, R5.out])) rfl ?_
        rw [HR9.out]
        have hgf : w6.grownBy (w6.setRow (w.heap.size + 1) (cells p.s)) (some (w.heap.size + 1)) := ⟨rfl, rfl, rfl, by simp, fun g _ hne => setRow_other _ _ _ _ (fun e => hne (by rw [e]))⟩
        exact ⟨_, rfl, ownsRow_mono (H7.out.kept hgf (.inr (own_ne H7.out hsT))) (by omega), below_setRow (below_grown ZB.out G7.out (fun g hg => by injection hg with hg; omega)) (by omega) _⟩
end Go.Proofs.YtccidllcjaaeeabGreatDoor
/- The walks of package epoch's fits and Leaf, and the law that the leaf that Split takes is the document's. Conditions: the root has eight bytes. -/
namespace Go.Proofs.YtccidllcjaaeeabGreatDoor
set_option maxRecDepth 100000
open Go.RowKit
open Go.Shelf Go.Lib Go.Sort
theorem descF_partL : ∀ (d : Nat) (p : TPart) (m : Nat) (bf bh : List TPart) (n : Nat), p.a ≤ m → m < p.b → p.b - p.a ≤ d + 1 → (descF d p m bf bh n).p.s = partL d p.s p.a p.b m (m + 1)
  | 0, p, m, bf, bh, n, _, _, _ => rfl
  | d + 1, p, m, bf, bh, n, h1, h2, h3 => by
    by_cases h : p.b - p.a ≤ 1
    · rw [descF_stop _ _ _ _ _ _ h, partL, if_pos ⟨by omega, by omega⟩]
    · have hne : ¬ (p.a = m ∧ p.b = m + 1) := by omega
      have hp := splitN_pos (p.b - p.a)
      have hl := splitN_lt (p.b - p.a) (by omega)
      rw [partL, if_neg hne]
      cases hb : hasB (pL p) m with
      | true =>
        have h4 := hasB_pL hb
        have h5 : (pL p).b = p.a + splitN (p.b - p.a) := rfl
        have h6 : (pL p).a = p.a := rfl
        rw [descF_left _ _ _ _ _ _ h hb, descF_partL d (pL p) m _ _ _ (by omega) h4 (by omega), if_pos (by omega)]
        rfl
      | false =>
        have h4 := hasB_pR h1 hb
        have h5 : (pR p).b = p.b := rfl
        have h6 : (pR p).a = p.a + splitN (p.b - p.a) := rfl
        rw [descF_right _ _ _ _ _ _ h hb, descF_partL d (pR p) m _ _ _ h4 (by omega) (by omega), if_neg (by omega)]
        rfl
theorem desc_leaf (root : List UInt8) (n m : Nat) (hm : m < n) (hn : n ≤ 16) : (desc ⟨0, n, root⟩ m).p.s = leafL root n m :=
  descF_partL 16 ⟨0, n, root⟩ m [] [] 0 (Nat.zero_le _) hm (by show n - 0 ≤ _; omega)
theorem descF_n : ∀ (d : Nat) (p : TPart) (m : Nat) (bf bh : List TPart) (n : Nat), (descF d p m bf bh n).n ≤ n + d
  | 0, p, m, bf, bh, n => Nat.le_refl _
  | d + 1, p, m, bf, bh, n => by
    rw [descF]
    split
    · show n ≤ _; omega
    · split
      · have := descF_n d (pL p) m bf (bh ++ [pR p]) (n + 1); omega
      · have := descF_n d (pR p) m (bf ++ [pL p]) bh (n + 1); omega
set_option maxRecDepth 100000 in
set_option maxHeartbeats 400000 in
theorem fits_yes (w : World) (n m : Int) (h1 : 1 ≤ n) (h2 : n ≤ 16) (h3 : 0 ≤ m) (h4 : m < n) :
    Calls Tryz.prog 10 #[.int .i64 n, .int .i64 m] w fun e w' => e = .returned (.bool true) ∧ w' = w := by
  go_enter Tryz.func10, Tryz.ntmps10
  go_wp2
  go_ret
  exact ⟨rfl, rfl⟩
set_option maxRecDepth 100000 in
set_option maxHeartbeats 400000 in
theorem fits_no (w : World) (n m : Int) (h : ¬ (1 ≤ n ∧ n ≤ 16 ∧ 0 ≤ m ∧ m < n)) :
    Calls Tryz.prog 10 #[.int .i64 n, .int .i64 m] w fun e w' => e = .returned (.bool false) ∧ w' = w := by
  by_cases h1 : 1 ≤ n
  · by_cases h2 : n ≤ 16
    · by_cases h3 : 0 ≤ m
      · have h4 : ¬ m < n := fun h4 => h ⟨h1, h2, h3, h4⟩
        clear h
        go_enter Tryz.func10, Tryz.ntmps10
        go_wp2
        go_ret
        exact ⟨rfl, rfl⟩
      · clear h
        go_enter Tryz.func10, Tryz.ntmps10
        go_wp2
        go_ret
        exact ⟨rfl, rfl⟩
    · clear h
      go_enter Tryz.func10, Tryz.ntmps10
      go_wp2
      go_ret
      exact ⟨rfl, rfl⟩
  · clear h
    go_enter Tryz.func10, Tryz.ntmps10
    go_wp2
    go_ret
    exact ⟨rfl, rfl⟩
theorem wpList_build_part {ops : Array Oper} {rest : List Oper} {o : Oper} {ac : Act} {w : World} {Q : Exit → Act → World → Prop} (hgd : o.guard = none) (x y z : Operand) (ho : o.op = .build 49 #[(0, x), (1, y), (2, z)]) (a b : Nat) (k : List UInt8) (hk : k.length = 8)
    (hx : ac.eval x = .int .i64 a) (hy : ac.eval y = .int .i64 b) (hz : ac.eval z = .agg (cells k)) (h : wpList Tryz.prog ops Q rest (ac.put o.dst (.agg (pcells ⟨a, b, k⟩))) w) : wpList Tryz.prog ops Q (o :: rest) ac w := by
  have hb := built_part a b k hk
  refine wpList_build hgd 49 _ ho ?_ ?_
  · simp only [List.map_toArray, List.map_cons, List.map_nil, hx, hy, hz, hb]; rfl
  · simp only [List.map_toArray, List.map_cons, List.map_nil, hx, hy, hz, hb]; exact h
end Go.Proofs.YtccidllcjaaeeabGreatDoor
