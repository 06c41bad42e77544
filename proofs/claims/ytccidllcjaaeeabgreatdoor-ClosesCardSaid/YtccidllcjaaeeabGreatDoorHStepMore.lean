/- The walks of a step that opens a frame, one that was bent, any bytes, that looks at what is kept, and of one that does nothing. Conditions: the plays' world lies and reads; the numbers are ints; the text is of a bounded length. -/
import Derived.Test.YtccidllcjaaeeabGreatDoorHSideDump
import Derived.Test.YtccidllcjaaeeabGreatDoorHSideUn
import Derived.Test.YtccidllcjaaeeabGreatDoorHBent
import Derived.BigQuiet
import Derived.Deep.QuietTactic
namespace Go.Proofs.YtccidllcjaaeeabGreatDoor
set_option maxRecDepth 100000
open Go Go.Maps Go.RowKit
open Go.Shelf Go.Lib Go.Sort Go.MuLone
set_option maxHeartbeats 8000000 in
theorem step_forge (w : World) (base W m u : Nat) (d : Nat → SPl) (s : Nat → GSt) (P : Nat → Nat → Prop) (lv bv : Value) (bag : List ByteArray) (a b : Int) (str : ByteArray) (h : PlayAt w base W m d s P u lv bv bag) (hm : 0 < m) (hm16 : m ≤ 16) (hb0 : 0 < base) (hbs : base ≤ w.heap.size) (hu : u ≤ 90000) (ha : -9223372036854775808 ≤ a ∧ a ≤ 9223372036854775807) (hs : str.size ≤ 65536) :
    Calls Tryz.prog 8 #[.pointer (some ⟨W, 0, none⟩), .agg #[.int .i64 3, .int .i64 a, .int .i64 b, .string str]] w fun e w' => e = .returned (.bool true) ∧ PlayGo w w' base W m (u + 1) := by
  obtain ⟨V, hV⟩ : ∃ V, V = w.alloc (.cells #[.int .i64 3, .int .i64 a, .int .i64 b, .string str] 44) := ⟨_, rfl⟩
  have hVb : Below w.heap.size w V := by rw [hV]; exact balloc (Below.refl _ _) _
  have hVO : V.heap[w.heap.size]? = some (.cells #[.int .i64 3, .int .i64 a, .int .i64 b, .string str] 44 (0, 0)) := by rw [hV]; exact heap_alloc_new _ _
  have hplay := h.below hVb
  obtain ⟨k, hk⟩ : ∃ k, k = pickN a m := ⟨_, rfl⟩
  have hkm : k < m := by rw [hk]; exact pickN_lt a m hm
  have hpick := fun X => lpick_any X a m ha.1 ha.2 hm (by omega)
  rw [← hk] at hpick
  obtain ⟨gl, cl, rfl, hgl, _⟩ := ownsRow_pos hplay.row hm
  have l0 : V.cell? ⟨gl, k, none⟩ = some (.pointer (some ⟨(d k).S, 0, none⟩)) := by rw [hplay.row.cellAt k (by omega), sidesV_get d hkm]
  have wl : V.cell? ⟨W, 0, none⟩ = some (.slice (some ⟨gl, 0, none⟩) m cl) := cell_of_row _ _ _ _ _ _ hplay.blk
  have o0 : V.cell? ⟨w.heap.size, 0, none⟩ = some (.int .i64 3) := cell_of_row _ _ _ _ _ _ hVO
  have o1 : V.cell? ⟨w.heap.size, 1, none⟩ = some (.int .i64 a) := cell_of_row _ _ _ _ _ _ hVO
  have k0 : (0 : Int) ≤ (k : Nat) := by omega
  have k1 : (k : Int) < (m : Nat) := by omega
  have hlow : ∀ j, j < m → ¬ P j 0 := fun j hj hp => by have := h.low j hj 0 hp; omega
  have HV := Lib.hid hV
  have HVb := Lib.hid hVb
  have HVO := Lib.hid hVO
  have Hplay := Lib.hid hplay
  have Hpick := Lib.hid hpick
  have Hlow := Lib.hid hlow
  have Hkm := Lib.hid hkm
  clear hV hVb hVO hplay hpick hlow hk h hgl hkm
  go_enter Tryz.func8, Tryz.ntmps8
  go_upto_region 1 with (fail)
  rw [← HV.out]
  go_quiet ((go_at_call 12; exact Calls.quiet_of_same (Hpick.out _)))
  have hVq : Below w.heap.size w (V.drewN nq) := bdrewN HVb.out _
  have hPq : PlayAt (V.drewN nq) base W m d s P u (.slice (some ⟨gl, 0, none⟩) m cl) bv bag := Hplay.out.below (bdrewN (Below.refl _ _) _)
  have hOq : (V.drewN nq).heap[w.heap.size]? = some (.cells #[.int .i64 3, .int .i64 a, .int .i64 b, .string str] 44 (0, 0)) := HVO.out
  generalize V.drewN nq = X at hVq hPq hOq ⊢
  clear l0 wl o0 o1 Hplay HVO HVb HV
  have o0 : X.cell? ⟨w.heap.size, 0, none⟩ = some (.int .i64 3) := cell_of_row _ _ _ _ _ _ hOq
  have o2 : X.cell? ⟨w.heap.size, 2, none⟩ = some (.int .i64 b) := cell_of_row _ _ _ _ _ _ hOq
  have o3 : X.cell? ⟨w.heap.size, 3, none⟩ = some (.string str) := cell_of_row _ _ _ _ _ _ hOq
  have hXs : base ≤ X.heap.size := Nat.le_trans hbs hVq.size
  have hside := hPq.sides.side k Hkm.out
  have hE := hPq.eg
  have hn0 := Hlow.out k Hkm.out
  have hcall := side_unprotect X (P k) (d k) (s k) u str hside hE hn0 (by omega) hs
  have Hcall := Lib.hid hcall
  have HVq := Lib.hid hVq
  have HPq := Lib.hid hPq
  clear hcall hVq hPq hside hOq hE hn0
  go_wp2_with (first | (go_at_call 15; refine Hcall.out.mono ?_; rintro e w2 ⟨rfl, hgo⟩; have Hgo := Lib.hid hgo; clear hgo; go_frame))
  go_ret
  obtain ⟨d', s', P', hplay2, hbel, _⟩ := HPq.out.step Hkm.out Hgo.out hXs
  exact ⟨rfl, _, _, _, _, _, _, hplay2, (HVq.out.mono hbs).trans hbel⟩
set_option maxHeartbeats 8000000 in
theorem step_dump (w : World) (base W m u : Nat) (d : Nat → SPl) (s : Nat → GSt) (P : Nat → Nat → Prop) (lv bv : Value) (bag : List ByteArray) (a b : Int) (str : ByteArray) (h : PlayAt w base W m d s P u lv bv bag) (hm : 0 < m) (hm16 : m ≤ 16) (hb0 : 0 < base) (hbs : base ≤ w.heap.size) (hu : u ≤ 90000) (ha : -9223372036854775808 ≤ a ∧ a ≤ 9223372036854775807) :
    Calls Tryz.prog 8 #[.pointer (some ⟨W, 0, none⟩), .agg #[.int .i64 5, .int .i64 a, .int .i64 b, .string str]] w fun e w' => e = .returned (.bool true) ∧ PlayGo w w' base W m (u + 1) := by
  obtain ⟨V, hV⟩ : ∃ V, V = w.alloc (.cells #[.int .i64 5, .int .i64 a, .int .i64 b, .string str] 44) := ⟨_, rfl⟩
  have hVb : Below w.heap.size w V := by rw [hV]; exact balloc (Below.refl _ _) _
  have hVO : V.heap[w.heap.size]? = some (.cells #[.int .i64 5, .int .i64 a, .int .i64 b, .string str] 44 (0, 0)) := by rw [hV]; exact heap_alloc_new _ _
  have hplay := h.below hVb
  obtain ⟨k, hk⟩ : ∃ k, k = pickN a m := ⟨_, rfl⟩
  have hkm : k < m := by rw [hk]; exact pickN_lt a m hm
  have hpick := fun X => lpick_any X a m ha.1 ha.2 hm (by omega)
  rw [← hk] at hpick
  obtain ⟨gl, cl, rfl, hgl, _⟩ := ownsRow_pos hplay.row hm
  have l0 : V.cell? ⟨gl, k, none⟩ = some (.pointer (some ⟨(d k).S, 0, none⟩)) := by rw [hplay.row.cellAt k (by omega), sidesV_get d hkm]
  have wl : V.cell? ⟨W, 0, none⟩ = some (.slice (some ⟨gl, 0, none⟩) m cl) := cell_of_row _ _ _ _ _ _ hplay.blk
  have o0 : V.cell? ⟨w.heap.size, 0, none⟩ = some (.int .i64 5) := cell_of_row _ _ _ _ _ _ hVO
  have o1 : V.cell? ⟨w.heap.size, 1, none⟩ = some (.int .i64 a) := cell_of_row _ _ _ _ _ _ hVO
  have k0 : (0 : Int) ≤ (k : Nat) := by omega
  have k1 : (k : Int) < (m : Nat) := by omega
  have hlow : ∀ j, j < m → ¬ P j 0 := fun j hj hp => by have := h.low j hj 0 hp; omega
  have HV := Lib.hid hV
  have HVb := Lib.hid hVb
  have HVO := Lib.hid hVO
  have Hplay := Lib.hid hplay
  have Hpick := Lib.hid hpick
  have Hlow := Lib.hid hlow
  have Hkm := Lib.hid hkm
  clear hV hVb hVO hplay hpick hlow hk h hgl hkm
  go_enter Tryz.func8, Tryz.ntmps8
  go_upto_region 1 with (fail)
  rw [← HV.out]
  go_quiet ((go_at_call 12; exact Calls.quiet_of_same (Hpick.out _)))
  have hVq : Below w.heap.size w (V.drewN nq) := bdrewN HVb.out _
  have hPq : PlayAt (V.drewN nq) base W m d s P u (.slice (some ⟨gl, 0, none⟩) m cl) bv bag := Hplay.out.below (bdrewN (Below.refl _ _) _)
  have hOq : (V.drewN nq).heap[w.heap.size]? = some (.cells #[.int .i64 5, .int .i64 a, .int .i64 b, .string str] 44 (0, 0)) := HVO.out
  generalize V.drewN nq = X at hVq hPq hOq ⊢
  clear l0 wl o0 o1 Hplay HVO HVb HV
  have o0 : X.cell? ⟨w.heap.size, 0, none⟩ = some (.int .i64 5) := cell_of_row _ _ _ _ _ _ hOq
  have o2 : X.cell? ⟨w.heap.size, 2, none⟩ = some (.int .i64 b) := cell_of_row _ _ _ _ _ _ hOq
  have o3 : X.cell? ⟨w.heap.size, 3, none⟩ = some (.string str) := cell_of_row _ _ _ _ _ _ hOq
  have hXs : base ≤ X.heap.size := Nat.le_trans hbs hVq.size
  have hside := hPq.sides.side k Hkm.out
  have hE := hPq.eg
  have hn0 := Hlow.out k Hkm.out
  have hcall := side_dump X (P k) (d k) (s k) u hside hE hn0 (by omega)
  have Hcall := Lib.hid hcall
  have HVq := Lib.hid hVq
  have HPq := Lib.hid hPq
  clear hcall hVq hPq hside hOq hE hn0
  go_wp2_with (first | (go_at_call 9; refine Hcall.out.mono ?_; rintro e w2 ⟨rfl, hgo⟩; have Hgo := Lib.hid hgo; clear hgo; go_frame))
  go_ret
  obtain ⟨d', s', P', hplay2, hbel, _⟩ := HPq.out.step Hkm.out Hgo.out hXs
  exact ⟨rfl, _, _, _, _, _, _, hplay2, (HVq.out.mono hbs).trans hbel⟩
set_option maxHeartbeats 8000000 in
theorem step_none (w : World) (base W m u : Nat) (d : Nat → SPl) (s : Nat → GSt) (P : Nat → Nat → Prop) (lv bv : Value) (bag : List ByteArray) (a b : Int) (kind : Int) (str : ByteArray) (h : PlayAt w base W m d s P u lv bv bag) (hm : 0 < m) (hm16 : m ≤ 16) (hb0 : 0 < base) (hbs : base ≤ w.heap.size) (ha : -9223372036854775808 ≤ a ∧ a ≤ 9223372036854775807) (hk : kind ≠ 1 ∧ kind ≠ 2 ∧ kind ≠ 3 ∧ kind ≠ 4 ∧ kind ≠ 5 ∧ kind ≠ 6) :
    Calls Tryz.prog 8 #[.pointer (some ⟨W, 0, none⟩), .agg #[.int .i64 kind, .int .i64 a, .int .i64 b, .string str]] w fun e w' => e = .returned (.bool true) ∧ PlayGo w w' base W m (u + 1) := by
  obtain ⟨V, hV⟩ : ∃ V, V = w.alloc (.cells #[.int .i64 kind, .int .i64 a, .int .i64 b, .string str] 44) := ⟨_, rfl⟩
  have hVb : Below w.heap.size w V := by rw [hV]; exact balloc (Below.refl _ _) _
  have hVO : V.heap[w.heap.size]? = some (.cells #[.int .i64 kind, .int .i64 a, .int .i64 b, .string str] 44 (0, 0)) := by rw [hV]; exact heap_alloc_new _ _
  have hplay := h.below hVb
  obtain ⟨k, hk⟩ : ∃ k, k = pickN a m := ⟨_, rfl⟩
  have hkm : k < m := by rw [hk]; exact pickN_lt a m hm
  have hpick := fun X => lpick_any X a m ha.1 ha.2 hm (by omega)
  rw [← hk] at hpick
  obtain ⟨gl, cl, rfl, hgl, _⟩ := ownsRow_pos hplay.row hm
  have l0 : V.cell? ⟨gl, k, none⟩ = some (.pointer (some ⟨(d k).S, 0, none⟩)) := by rw [hplay.row.cellAt k (by omega), sidesV_get d hkm]
  have wl : V.cell? ⟨W, 0, none⟩ = some (.slice (some ⟨gl, 0, none⟩) m cl) := cell_of_row _ _ _ _ _ _ hplay.blk
  have o0 : V.cell? ⟨w.heap.size, 0, none⟩ = some (.int .i64 kind) := cell_of_row _ _ _ _ _ _ hVO
  have o1 : V.cell? ⟨w.heap.size, 1, none⟩ = some (.int .i64 a) := cell_of_row _ _ _ _ _ _ hVO
  have k0 : (0 : Int) ≤ (k : Nat) := by omega
  have k1 : (k : Int) < (m : Nat) := by omega
  have hlow : ∀ j, j < m → ¬ P j 0 := fun j hj hp => by have := h.low j hj 0 hp; omega
  have HV := Lib.hid hV
  have HVb := Lib.hid hVb
  have HVO := Lib.hid hVO
  have Hplay := Lib.hid hplay
  have Hpick := Lib.hid hpick
  have Hlow := Lib.hid hlow
  have Hkm := Lib.hid hkm
  clear hV hVb hVO hplay hpick hlow hk h hgl hkm
  go_enter Tryz.func8, Tryz.ntmps8
  go_upto_region 1 with (fail)
  rw [← HV.out]
  go_quiet ((go_at_call 12; exact Calls.quiet_of_same (Hpick.out _)))
  have hVq : Below w.heap.size w (V.drewN nq) := bdrewN HVb.out _
  have hPq : PlayAt (V.drewN nq) base W m d s P u (.slice (some ⟨gl, 0, none⟩) m cl) bv bag := Hplay.out.below (bdrewN (Below.refl _ _) _)
  have hOq : (V.drewN nq).heap[w.heap.size]? = some (.cells #[.int .i64 kind, .int .i64 a, .int .i64 b, .string str] 44 (0, 0)) := HVO.out
  generalize V.drewN nq = X at hVq hPq hOq ⊢
  clear l0 wl o0 o1 Hplay HVO HVb HV
  have o0 : X.cell? ⟨w.heap.size, 0, none⟩ = some (.int .i64 kind) := cell_of_row _ _ _ _ _ _ hOq
  have o2 : X.cell? ⟨w.heap.size, 2, none⟩ = some (.int .i64 b) := cell_of_row _ _ _ _ _ _ hOq
  have o3 : X.cell? ⟨w.heap.size, 3, none⟩ = some (.string str) := cell_of_row _ _ _ _ _ _ hOq
  have hXs : base ≤ X.heap.size := Nat.le_trans hbs hVq.size
  have hside := hPq.sides.side k Hkm.out
  have hE := hPq.eg
  have hn0 := Hlow.out k Hkm.out
  have n1 : (kind == 1) = false := by simp; exact hk.1
  have n2 : (kind == 2) = false := by simp; exact hk.2.1
  have n3 : (kind == 3) = false := by simp; exact hk.2.2.1
  have n4 : (kind == 4) = false := by simp; exact hk.2.2.2.1
  have n5 : (kind == 5) = false := by simp; exact hk.2.2.2.2.1
  have n6 : (kind == 6) = false := by simp; exact hk.2.2.2.2.2
  have HVq := Lib.hid hVq
  have HPq := Lib.hid hPq
  clear hVq hPq hside hOq hE hn0 hk
  go_wp2
  go_ret
  exact ⟨rfl, _, _, _, _, _, _, HPq.out.more (Nat.le_succ u), HVq.out.mono hbs⟩
set_option maxHeartbeats 8000000 in
theorem step_un (w : World) (base W m u : Nat) (d : Nat → SPl) (s : Nat → GSt) (P : Nat → Nat → Prop) (lv bv : Value) (bag : List ByteArray) (a b : Int) (str : ByteArray) (h : PlayAt w base W m d s P u lv bv bag) (hm : 0 < m) (hm16 : m ≤ 16) (hb0 : 0 < base) (hbs : base ≤ w.heap.size) (hu : u ≤ 90000) (ha : -9223372036854775808 ≤ a ∧ a ≤ 9223372036854775807) (hb : -9223372036854775808 ≤ b ∧ b ≤ 9223372036854775807) :
    Calls Tryz.prog 8 #[.pointer (some ⟨W, 0, none⟩), .agg #[.int .i64 2, .int .i64 a, .int .i64 b, .string str]] w fun e w' => e = .returned (.bool true) ∧ PlayGo w w' base W m (u + 1) := by
  obtain ⟨V, hV⟩ : ∃ V, V = w.alloc (.cells #[.int .i64 2, .int .i64 a, .int .i64 b, .string str] 44) := ⟨_, rfl⟩
  have hVb : Below w.heap.size w V := by rw [hV]; exact balloc (Below.refl _ _) _
  have hVO : V.heap[w.heap.size]? = some (.cells #[.int .i64 2, .int .i64 a, .int .i64 b, .string str] 44 (0, 0)) := by rw [hV]; exact heap_alloc_new _ _
  have hplay := h.below hVb
  obtain ⟨k, hk⟩ : ∃ k, k = pickN a m := ⟨_, rfl⟩
  have hkm : k < m := by rw [hk]; exact pickN_lt a m hm
  have hpick := fun X => lpick_any X a m ha.1 ha.2 hm (by omega)
  rw [← hk] at hpick
  obtain ⟨gl, cl, rfl, hgl, _⟩ := ownsRow_pos hplay.row hm
  have l0 : V.cell? ⟨gl, k, none⟩ = some (.pointer (some ⟨(d k).S, 0, none⟩)) := by rw [hplay.row.cellAt k (by omega), sidesV_get d hkm]
  have wl : V.cell? ⟨W, 0, none⟩ = some (.slice (some ⟨gl, 0, none⟩) m cl) := cell_of_row _ _ _ _ _ _ hplay.blk
  have o0 : V.cell? ⟨w.heap.size, 0, none⟩ = some (.int .i64 2) := cell_of_row _ _ _ _ _ _ hVO
  have o1 : V.cell? ⟨w.heap.size, 1, none⟩ = some (.int .i64 a) := cell_of_row _ _ _ _ _ _ hVO
  have k0 : (0 : Int) ≤ (k : Nat) := by omega
  have k1 : (k : Int) < (m : Nat) := by omega
  have hlow : ∀ j, j < m → ¬ P j 0 := fun j hj hp => by have := h.low j hj 0 hp; omega
  have HV := Lib.hid hV
  have HVb := Lib.hid hVb
  have HVO := Lib.hid hVO
  have Hplay := Lib.hid hplay
  have Hpick := Lib.hid hpick
  have Hlow := Lib.hid hlow
  have Hkm := Lib.hid hkm
  clear hV hVb hVO hplay hpick hlow hk h hgl hkm
  go_enter Tryz.func8, Tryz.ntmps8
  go_upto_region 1 with (fail)
  rw [← HV.out]
  go_quiet ((go_at_call 12; exact Calls.quiet_of_same (Hpick.out _)))
  have hVq : Below w.heap.size w (V.drewN nq) := bdrewN HVb.out _
  have hPq : PlayAt (V.drewN nq) base W m d s P u (.slice (some ⟨gl, 0, none⟩) m cl) bv bag := Hplay.out.below (bdrewN (Below.refl _ _) _)
  have hOq : (V.drewN nq).heap[w.heap.size]? = some (.cells #[.int .i64 2, .int .i64 a, .int .i64 b, .string str] 44 (0, 0)) := HVO.out
  generalize V.drewN nq = X at hVq hPq hOq ⊢
  clear l0 wl o0 o1 Hplay HVO HVb HV
  have o0 : X.cell? ⟨w.heap.size, 0, none⟩ = some (.int .i64 2) := cell_of_row _ _ _ _ _ _ hOq
  have o2 : X.cell? ⟨w.heap.size, 2, none⟩ = some (.int .i64 b) := cell_of_row _ _ _ _ _ _ hOq
  have o3 : X.cell? ⟨w.heap.size, 3, none⟩ = some (.string str) := cell_of_row _ _ _ _ _ _ hOq
  have hXs : base ≤ X.heap.size := Nat.le_trans hbs hVq.size
  have hside := hPq.sides.side k Hkm.out
  have hE := hPq.eg
  have hn0 := Hlow.out k Hkm.out
  obtain ⟨nb, hnb⟩ : ∃ nb, nb = bag.length := ⟨_, rfl⟩
  have hfew := hPq.few
  rw [← hnb] at hfew
  have Hnb := Lib.hid hnb
  cases bag with
  | nil =>
    obtain rfl : nb = 0 := hnb
    obtain ⟨pb, cb, rfl⟩ := row_form hPq.bagrow
    have wb : X.cell? ⟨W, 1, none⟩ = some (.slice pb 0 cb) := cell_of_row _ _ _ _ _ _ hPq.blk
    have HVq := Lib.hid hVq
    have HPq := Lib.hid hPq
    clear hVq hPq hside hOq hE hn0
    go_wp2
    go_ret
    exact ⟨rfl, _, _, _, _, _, _, HPq.out.more (Nat.le_succ u), HVq.out.mono hbs⟩
  | cons f0 fs =>
    have hpos : 0 < nb := by rw [hnb]; simp
    obtain ⟨i, hi⟩ : ∃ i, i = pickN b nb := ⟨_, rfl⟩
    have hin : i < nb := by rw [hi]; exact pickN_lt b nb hpos
    have hpick2 := fun Y => lpick_any Y b nb hb.1 hb.2 hpos (by omega)
    rw [← hi] at hpick2
    obtain ⟨gb, cb, rfl, hgb, _⟩ := ownsRow_pos hPq.bagrow (by rw [← hnb]; exact hpos)
    obtain ⟨f, hf⟩ : ∃ f, (f0 :: fs)[i]? = some f := ⟨_, List.getElem?_eq_getElem (by rw [← hnb]; exact hin)⟩
    have bcell : X.cell? ⟨gb, i, none⟩ = some (.string f) := by
      rw [hPq.bagrow.cellAt i (by rw [← hnb]; omega), strsV, List.getElem?_map, hf]; rfl
    have hf47 : f.size ≤ 47 := hPq.short f (List.mem_of_getElem? hf)
    have wb : X.cell? ⟨W, 1, none⟩ = some (.slice (some ⟨gb, 0, none⟩) (f0 :: fs).length cb) := cell_of_row _ _ _ _ _ _ hPq.blk
    rw [← hnb] at wb
    have i0 : (0 : Int) ≤ (i : Nat) := by omega
    have i1 : (i : Int) < (nb : Nat) := by omega
    have nz : ((nb : Int) == 0) = false := by simp; omega
    have HVq := Lib.hid hVq
    have HPq := Lib.hid hPq
    have HOq := Lib.hid hOq
    have Hpick2 := Lib.hid hpick2
    clear hVq hPq hside hOq hE hn0 hnb hf hgb hpick2 hi
    go_upto_region 12 with (fail)
    go_quiet ((go_at_call 12; exact Calls.quiet_of_same (Hpick2.out _)))
    have hXq : Below X.heap.size X (X.drewN nq) := bdrewN (Below.refl _ _) _
    generalize X.drewN nq = Y at hXq ⊢
    have hPy := HPq.out.below hXq
    have hVy := HVq.out.trans (hXq.mono HVq.out.size)
    have hOy : Y.heap[w.heap.size]? = _ := (hXq.block _ (Array.getElem?_eq_some_iff.1 HOq.out).1).trans HOq.out
    have p0 : Y.cell? ⟨w.heap.size, 0, none⟩ = some (.int .i64 2) := cell_of_row _ _ _ _ _ _ hOy
    have p3 : Y.cell? ⟨w.heap.size, 3, none⟩ = some (.string str) := cell_of_row _ _ _ _ _ _ hOy
    clear o0 o2 o3 wb bcell
    have hcall := side_unprotect Y (P k) (d k) (s k) u f (hPy.sides.side k Hkm.out) hPy.eg (Hlow.out k Hkm.out) (by omega) (by omega)
    have Hcall := Lib.hid hcall
    have HPy := Lib.hid hPy
    have HVy := Lib.hid hVy
    have HYs := Lib.hid (show base ≤ Y.heap.size from Nat.le_trans hXs hXq.size)
    clear hcall hPy hVy hOy hXq
    go_wp2_with (first | (go_at_call 15; refine Hcall.out.mono ?_; rintro e w2 ⟨rfl, hgo⟩; have Hgo := Lib.hid hgo; clear hgo; go_frame))
    go_ret
    obtain ⟨d', s', P', hplay2, hbel, _⟩ := HPy.out.step Hkm.out Hgo.out HYs.out
    exact ⟨rfl, _, _, _, _, _, _, hplay2, (HVy.out.mono hbs).trans hbel⟩
set_option maxHeartbeats 8000000 in
theorem step_bent (w : World) (base W m u : Nat) (d : Nat → SPl) (s : Nat → GSt) (P : Nat → Nat → Prop) (lv bv : Value) (bag : List ByteArray) (a b : Int) (str : ByteArray) (h : PlayAt w base W m d s P u lv bv bag) (hm : 0 < m) (hm16 : m ≤ 16) (hb0 : 0 < base) (hbs : base ≤ w.heap.size) (hu : u ≤ 90000) (ha : -9223372036854775808 ≤ a ∧ a ≤ 9223372036854775807) (hb : -9223372036854775808 ≤ b ∧ b ≤ 9223372036854775807) (hs : str.size ≤ 65536) :
    Calls Tryz.prog 8 #[.pointer (some ⟨W, 0, none⟩), .agg #[.int .i64 4, .int .i64 a, .int .i64 b, .string str]] w fun e w' => e = .returned (.bool true) ∧ PlayGo w w' base W m (u + 1) := by
  obtain ⟨V, hV⟩ : ∃ V, V = w.alloc (.cells #[.int .i64 4, .int .i64 a, .int .i64 b, .string str] 44) := ⟨_, rfl⟩
  have hVb : Below w.heap.size w V := by rw [hV]; exact balloc (Below.refl _ _) _
  have hVO : V.heap[w.heap.size]? = some (.cells #[.int .i64 4, .int .i64 a, .int .i64 b, .string str] 44 (0, 0)) := by rw [hV]; exact heap_alloc_new _ _
  have hplay := h.below hVb
  obtain ⟨k, hk⟩ : ∃ k, k = pickN a m := ⟨_, rfl⟩
  have hkm : k < m := by rw [hk]; exact pickN_lt a m hm
  have hpick := fun X => lpick_any X a m ha.1 ha.2 hm (by omega)
  rw [← hk] at hpick
  obtain ⟨gl, cl, rfl, hgl, _⟩ := ownsRow_pos hplay.row hm
  have l0 : V.cell? ⟨gl, k, none⟩ = some (.pointer (some ⟨(d k).S, 0, none⟩)) := by rw [hplay.row.cellAt k (by omega), sidesV_get d hkm]
  have wl : V.cell? ⟨W, 0, none⟩ = some (.slice (some ⟨gl, 0, none⟩) m cl) := cell_of_row _ _ _ _ _ _ hplay.blk
  have o0 : V.cell? ⟨w.heap.size, 0, none⟩ = some (.int .i64 4) := cell_of_row _ _ _ _ _ _ hVO
  have o1 : V.cell? ⟨w.heap.size, 1, none⟩ = some (.int .i64 a) := cell_of_row _ _ _ _ _ _ hVO
  have k0 : (0 : Int) ≤ (k : Nat) := by omega
  have k1 : (k : Int) < (m : Nat) := by omega
  have hlow : ∀ j, j < m → ¬ P j 0 := fun j hj hp => by have := h.low j hj 0 hp; omega
  have HV := Lib.hid hV
  have HVb := Lib.hid hVb
  have HVO := Lib.hid hVO
  have Hplay := Lib.hid hplay
  have Hpick := Lib.hid hpick
  have Hlow := Lib.hid hlow
  have Hkm := Lib.hid hkm
  clear hV hVb hVO hplay hpick hlow hk h hgl hkm
  go_enter Tryz.func8, Tryz.ntmps8
  go_upto_region 1 with (fail)
  rw [← HV.out]
  go_quiet ((go_at_call 12; exact Calls.quiet_of_same (Hpick.out _)))
  have hVq : Below w.heap.size w (V.drewN nq) := bdrewN HVb.out _
  have hPq : PlayAt (V.drewN nq) base W m d s P u (.slice (some ⟨gl, 0, none⟩) m cl) bv bag := Hplay.out.below (bdrewN (Below.refl _ _) _)
  have hOq : (V.drewN nq).heap[w.heap.size]? = some (.cells #[.int .i64 4, .int .i64 a, .int .i64 b, .string str] 44 (0, 0)) := HVO.out
  generalize V.drewN nq = X at hVq hPq hOq ⊢
  clear l0 wl o0 o1 Hplay HVO HVb HV
  have o0 : X.cell? ⟨w.heap.size, 0, none⟩ = some (.int .i64 4) := cell_of_row _ _ _ _ _ _ hOq
  have o2 : X.cell? ⟨w.heap.size, 2, none⟩ = some (.int .i64 b) := cell_of_row _ _ _ _ _ _ hOq
  have o3 : X.cell? ⟨w.heap.size, 3, none⟩ = some (.string str) := cell_of_row _ _ _ _ _ _ hOq
  have hXs : base ≤ X.heap.size := Nat.le_trans hbs hVq.size
  have hside := hPq.sides.side k Hkm.out
  have hE := hPq.eg
  have hn0 := Hlow.out k Hkm.out
  obtain ⟨nb, hnb⟩ : ∃ nb, nb = bag.length := ⟨_, rfl⟩
  have hfew := hPq.few
  rw [← hnb] at hfew
  have Hnb := Lib.hid hnb
  cases bag with
  | nil =>
    obtain rfl : nb = 0 := hnb
    obtain ⟨pb, cb, rfl⟩ := row_form hPq.bagrow
    have wb : X.cell? ⟨W, 1, none⟩ = some (.slice pb 0 cb) := cell_of_row _ _ _ _ _ _ hPq.blk
    have HVq := Lib.hid hVq
    have HPq := Lib.hid hPq
    clear hVq hPq hside hOq hE hn0
    go_wp2
    go_ret
    exact ⟨rfl, _, _, _, _, _, _, HPq.out.more (Nat.le_succ u), HVq.out.mono hbs⟩
  | cons f0 fs =>
    have hpos : 0 < nb := by rw [hnb]; simp
    obtain ⟨i, hi⟩ : ∃ i, i = pickN b nb := ⟨_, rfl⟩
    have hin : i < nb := by rw [hi]; exact pickN_lt b nb hpos
    have hpick2 := fun Y => lpick_any Y b nb hb.1 hb.2 hpos (by omega)
    rw [← hi] at hpick2
    obtain ⟨gb, cb, rfl, hgb, _⟩ := ownsRow_pos hPq.bagrow (by rw [← hnb]; exact hpos)
    obtain ⟨f, hf⟩ : ∃ f, (f0 :: fs)[i]? = some f := ⟨_, List.getElem?_eq_getElem (by rw [← hnb]; exact hin)⟩
    have bcell : X.cell? ⟨gb, i, none⟩ = some (.string f) := by
      rw [hPq.bagrow.cellAt i (by rw [← hnb]; omega), strsV, List.getElem?_map, hf]; rfl
    have hf47 : f.size ≤ 47 := hPq.short f (List.mem_of_getElem? hf)
    have wb : X.cell? ⟨W, 1, none⟩ = some (.slice (some ⟨gb, 0, none⟩) (f0 :: fs).length cb) := cell_of_row _ _ _ _ _ _ hPq.blk
    rw [← hnb] at wb
    have i0 : (0 : Int) ≤ (i : Nat) := by omega
    have i1 : (i : Int) < (nb : Nat) := by omega
    have nz : ((nb : Int) == 0) = false := by simp; omega
    have HVq := Lib.hid hVq
    have HPq := Lib.hid hPq
    have HOq := Lib.hid hOq
    have Hpick2 := Lib.hid hpick2
    clear hVq hPq hside hOq hE hn0 hnb hf hgb hpick2 hi
    go_upto_region 12 with (fail)
    go_quiet ((go_at_call 12; exact Calls.quiet_of_same (Hpick2.out _)))
    have hXq : Below X.heap.size X (X.drewN nq) := bdrewN (Below.refl _ _) _
    generalize X.drewN nq = Y at hXq ⊢
    have hPy := HPq.out.below hXq
    have hVy := HVq.out.trans (hXq.mono HVq.out.size)
    have hOy : Y.heap[w.heap.size]? = _ := (hXq.block _ (Array.getElem?_eq_some_iff.1 HOq.out).1).trans HOq.out
    have p0 : Y.cell? ⟨w.heap.size, 0, none⟩ = some (.int .i64 4) := cell_of_row _ _ _ _ _ _ hOy
    have p3 : Y.cell? ⟨w.heap.size, 3, none⟩ = some (.string str) := cell_of_row _ _ _ _ _ _ hOy
    clear o0 o2 o3 wb bcell
    have hbent := bent_any Y f str (by omega) hs
    have hcall := fun (Z : World) (g : ByteArray) (hz : Below Y.heap.size Y Z) (hg : g.size = f.size) => side_unprotect Z (P k) (d k) (s k) u g ((hPy.below hz).sides.side k Hkm.out) (hPy.below hz).eg (Hlow.out k Hkm.out) (by omega) (by omega)
    have Hcall := Lib.hid hcall
    have Hbent := Lib.hid hbent
    have HPy := Lib.hid hPy
    have HVy := Lib.hid hVy
    have HYs := Lib.hid (show base ≤ Y.heap.size from Nat.le_trans hXs hXq.size)
    clear hcall hbent hPy hVy hOy hXq
    go_wp2_with (first
      | (go_at_call 14; refine Hbent.out.mono ?_; rintro e w1 ⟨g, rfl, hg, hz⟩; have Hg := Lib.hid hg; have Hz := Lib.hid hz; clear hg hz; go_frame)
      | (go_at_call 15; refine (Hcall.out _ _ Hz.out Hg.out).mono ?_; rintro e w2 ⟨rfl, hgo⟩; have Hgo := Lib.hid hgo; clear hgo; go_frame))
    go_ret
    obtain ⟨d', s', P', hplay2, hbel, _⟩ := (HPy.out.below Hz.out).step Hkm.out Hgo.out (Nat.le_trans HYs.out Hz.out.size)
    exact ⟨rfl, _, _, _, _, _, _, hplay2, ((HVy.out.mono hbs).trans (Hz.out.mono HYs.out)).trans hbel⟩
end Go.Proofs.YtccidllcjaaeeabGreatDoor
