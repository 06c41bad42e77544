/- The walk of a step that protects. Conditions: the plays' world lies and reads; the numbers are ints; the text is of a bounded length. -/
import Derived.Test.YtccidllcjaaeeabGreatDoorHSideDump
import Derived.Test.YtccidllcjaaeeabGreatDoorHSideUn
import Derived.Test.YtccidllcjaaeeabGreatDoorHBent
import Derived.BigQuiet
import Derived.Deep.QuietTactic
namespace Go.Proofs.YtccidllcjaaeeabGreatDoor
set_option maxRecDepth 100000
open Go Go.Maps Go.RowKit
open Go.Shelf Go.Lib Go.Sort Go.MuLone
theorem infoStr2 : (Tryz.prog.info? 9).map (fun i => (i.zero, i.size, i.bytes)) = some (some (.string ⟨#[]⟩), 1, 16) := by kernel_rfl
set_option maxHeartbeats 8000000 in
theorem step_protect (w : World) (base W m u : Nat) (d : Nat → SPl) (s : Nat → GSt) (P : Nat → Nat → Prop) (lv bv : Value) (bag : List ByteArray) (a b : Int) (str : ByteArray) (h : PlayAt w base W m d s P u lv bv bag) (hm : 0 < m) (hm16 : m ≤ 16) (hb0 : 0 < base) (hbs : base ≤ w.heap.size) (hu : u ≤ 90000) (ha : -9223372036854775808 ≤ a ∧ a ≤ 9223372036854775807) (hs : str.size ≤ 65536) :
    Calls Tryz.prog 8 #[.pointer (some ⟨W, 0, none⟩), .agg #[.int .i64 1, .int .i64 a, .int .i64 b, .string str]] w fun e w' => e = .returned (.bool true) ∧ PlayGo w w' base W m (u + 1) := by
  obtain ⟨V, hV⟩ : ∃ V, V = w.alloc (.cells #[.int .i64 1, .int .i64 a, .int .i64 b, .string str] 44) := ⟨_, rfl⟩
  have hVb : Below w.heap.size w V := by rw [hV]; exact balloc (Below.refl _ _) _
  have hVO : V.heap[w.heap.size]? = some (.cells #[.int .i64 1, .int .i64 a, .int .i64 b, .string str] 44 (0, 0)) := by rw [hV]; exact heap_alloc_new _ _
  have hplay := h.below hVb
  obtain ⟨k, hk⟩ : ∃ k, k = pickN a m := ⟨_, rfl⟩
  have hkm : k < m := by rw [hk]; exact pickN_lt a m hm
  have hpick := fun X => lpick_any X a m ha.1 ha.2 hm (by omega)
  rw [← hk] at hpick
  obtain ⟨gl, cl, rfl, hgl, _⟩ := ownsRow_pos hplay.row hm
  have l0 : V.cell? ⟨gl, k, none⟩ = some (.pointer (some ⟨(d k).S, 0, none⟩)) := by rw [hplay.row.cellAt k (by omega), sidesV_get d hkm]
  have wl : V.cell? ⟨W, 0, none⟩ = some (.slice (some ⟨gl, 0, none⟩) m cl) := cell_of_row _ _ _ _ _ _ hplay.blk
  have o0 : V.cell? ⟨w.heap.size, 0, none⟩ = some (.int .i64 1) := cell_of_row _ _ _ _ _ _ hVO
  have o1 : V.cell? ⟨w.heap.size, 1, none⟩ = some (.int .i64 a) := cell_of_row _ _ _ _ _ _ hVO
  have k0 : (0 : Int) ≤ (k : Nat) := by omega
  have k1 : (k : Int) < (m : Nat) := by omega
  have hlow : ∀ j, j < m → ¬ P j 0 := fun j hj hp => by have := h.low j hj 0 hp; omega
  have HV := Lib.hid hV
  have HVb := Lib.hid hVb
  have HVO := Lib.hid hVO
  have Hplay := Lib.hid hplay
  have Hpick := Lib.hid hpick
  have Hlow := Lib.hid hlow
  have Hkm := Lib.hid hkm
  clear hV hVb hVO hplay hpick hlow hk h hgl hkm
  go_enter Tryz.func8, Tryz.ntmps8
  go_upto_region 1 with (fail)
  rw [← HV.out]
  go_quiet ((go_at_call 12; exact Calls.quiet_of_same (Hpick.out _)))
  have hVq : Below w.heap.size w (V.drewN nq) := bdrewN HVb.out _
  have hPq : PlayAt (V.drewN nq) base W m d s P u (.slice (some ⟨gl, 0, none⟩) m cl) bv bag := Hplay.out.below (bdrewN (Below.refl _ _) _)
  have hOq : (V.drewN nq).heap[w.heap.size]? = some (.cells #[.int .i64 1, .int .i64 a, .int .i64 b, .string str] 44 (0, 0)) := HVO.out
  generalize V.drewN nq = X at hVq hPq hOq ⊢
  clear l0 wl o0 o1 Hplay HVO HVb HV
  have o0 : X.cell? ⟨w.heap.size, 0, none⟩ = some (.int .i64 1) := cell_of_row _ _ _ _ _ _ hOq
  have o2 : X.cell? ⟨w.heap.size, 2, none⟩ = some (.int .i64 b) := cell_of_row _ _ _ _ _ _ hOq
  have o3 : X.cell? ⟨w.heap.size, 3, none⟩ = some (.string str) := cell_of_row _ _ _ _ _ _ hOq
  have hXs : base ≤ X.heap.size := Nat.le_trans hbs hVq.size
  have hside := hPq.sides.side k Hkm.out
  have hE := hPq.eg
  have hn0 := Hlow.out k Hkm.out
  have hcall := side_protect X (P k) (d k) (s k) u str hside hE hn0 (by omega) hs
  have Hcall := Lib.hid hcall
  have HVq := Lib.hid hVq
  have HPq := Lib.hid hPq
  clear hcall hVq hPq hside hOq hE hn0
  go_upto_region 5 with (first | (go_at_call 13; refine Hcall.out.mono ?_; rintro e w2 ⟨fr, rfl, hf47, hgo⟩; have Hgo := Lib.hid hgo; clear hgo; go_frame))
  obtain ⟨d', s', P', hplay2, hbel, hS⟩ := HPq.out.step Hkm.out Hgo.out hXs
  have hb2 : Below base w w2 := (HVq.out.mono hbs).trans hbel
  obtain ⟨pb, cb, rfl⟩ := row_form hplay2.bagrow
  have wb : w2.cell? ⟨W, 1, none⟩ = some (.slice pb bag.length cb) := cell_of_row _ _ _ _ _ _ hplay2.blk
  have hfew := hplay2.few
  obtain ⟨nb, hnb⟩ : ∃ nb, nb = bag.length := ⟨_, rfl⟩
  rw [← hnb] at wb hfew
  have Hplay2 := Lib.hid hplay2
  have Hb2 := Lib.hid hb2
  have Hnb := Lib.hid hnb
  clear hplay2 hbel hS hb2 hnb o0 o2 o3
  cases hq : fr.toList with
  | nil =>
    go_wp2
    go_ret
    exact ⟨rfl, _, _, _, _, _, _, Hplay2.out, Hb2.out⟩
  | cons y0 ys =>
    by_cases h64 : nb < 64
    · have h64I : (nb : Int) < 64 := by omega
      obtain ⟨i0, hi', hz0', hz1', hz2'⟩ := info_parts infoStr2
      have hi := Lib.hid hi'
      have hz0 := Lib.hid hz0'
      have hz1 := Lib.hid hz1'
      have hz2 := Lib.hid hz2'
      obtain ⟨w3, hw3⟩ : ∃ w3, w3 = w2.alloc (.cells #[.string fr] 9) := ⟨_, rfl⟩
      have hb3 : Below w2.heap.size w2 w3 := by rw [hw3]; exact balloc (Below.refl _ _) _
      have hplay3 := Hplay2.out.below hb3
      have hbs2 : base ≤ w2.heap.size := Nat.le_trans hbs (show w.heap.size ≤ w2.heap.size from Hb2.out.size)
      have hnew : ∀ (j : Nat) (v : Value), [Value.string fr][j]? = some v → w3.cell? ((⟨w2.heap.size, 0, none⟩ : Addr).add j) = some v := by rw [hw3]; exact made_one _ _ _ _ rfl
      have hown3 := hplay3.bagrow
      rw [← Hnb.out] at hown3
      have hW3 : ∀ w5 : World, w3.grownBy w5 (Value.slice pb nb cb).ownBlock → w5.cell? ⟨W, 1, none⟩ = some (.slice pb nb cb) ∧ w5.frozen? ⟨W, 1, none⟩ = false := fun w5 hg => by
        have hne : some W ≠ (Value.slice pb nb cb).ownBlock := fun e => by
          obtain ⟨cs, hc⟩ := row_cells hown3 e.symm
          have h2 := hplay3.blk
          rw [hc] at h2; injection h2 with h2; injection h2 with _ h2; exact absurd h2 (by decide)
        have hc := hplay3.blk
        rw [← Hnb.out] at hc
        exact ⟨(hg.cell_far ⟨W, 1, none⟩ (Array.getElem?_eq_some_iff.1 hc).1 hne).trans (cell_of_row _ _ _ _ _ _ hc), (hg.frozen_far ⟨W, 1, none⟩ (Array.getElem?_eq_some_iff.1 hc).1 hne).trans (frozen_of_row _ _ _ _ _ hc)⟩
      have Hw3 := Lib.hid hw3
      have Hb3 := Lib.hid hb3
      have Hplay3 := Lib.hid hplay3
      have Hnew := Lib.hid hnew
      have Hown3 := Lib.hid hown3
      have HW3 := Lib.hid hW3
      have Hbs3 := Lib.hid (show base ≤ w3.heap.size from Nat.le_trans hbs2 hb3.size)
      clear hw3 hb3 hplay3 hnew hown3 hW3 hbs2 hi' hz0' hz1' hz2'
      go_wp2_with (at_builtin; go_must (rw [← Hw3.out]; refine wpList_append_own_at _ rfl (.tmp 50) (.tmp 52) 28 (by rfl) base 9 i0 (.string ⟨#[]⟩) 1 16 Tryz.underlying28 hi.out hz0.out hz1.out hz2.out rfl (by decide) (.slice pb nb cb) nb (strsV bag) (by rfl) Hown3.out ⟨w2.heap.size, 0, none⟩ 1 1 [.string fr] (by rfl) rfl Hnew.out (fun u hu => by rw [List.mem_singleton.1 hu]; rfl) (by unfold maxLen; omega) (by omega) Hbs3.out ?_); intro v5 w5 ho5 hg5 _ hloc5; obtain ⟨c5, f5⟩ := HW3.out _ hg5; obtain ⟨p5, q5, rfl⟩ := row_form ho5; have Ho5 := Lib.hid ho5; have Hg5 := Lib.hid hg5; have Hloc5 := Lib.hid hloc5; clear ho5 hg5 hloc5; go_frame)
      go_ret
      have ho : w5.ownsRow base 9 1 (.slice p5 (nb + 1) q5) (bag ++ [fr]).length (strsV (bag ++ [fr])) := by
        have h := Ho5.out
        rw [show strsV (bag ++ [fr]) = strsV bag ++ [.string fr] by simp [strsV], List.length_append, ← Hnb.out]
        exact h
      have hg := Hg5.out
      rw [Hnb.out] at hg
      obtain ⟨hplay6, hb6⟩ := Hplay3.out.bagged hg ho (by
        rcases Hloc5.out with e | e
        · left; rw [e, Hnb.out]
        · right; intro x hx; rw [e] at hx; cases hx; exact Nat.le_refl _) Hbs3.out (by rw [List.length_append, ← Hnb.out]; exact h64) (fun f hf => by
          rcases List.mem_append.1 hf with hf | hf
          · exact Hplay3.out.short f hf
          · rw [List.mem_singleton.1 hf]; exact hf47) hb0
      exact ⟨rfl, _, _, _, _, _, _, hplay6, (Hb2.out.trans (Hb3.out.mono (Nat.le_trans hbs (show w.heap.size ≤ w2.heap.size from Hb2.out.size)))).trans hb6⟩
    · have h64I : ¬ (nb : Int) < 64 := by omega
      go_wp2
      go_ret
      exact ⟨rfl, _, _, _, _, _, _, Hplay2.out, Hb2.out⟩
end Go.Proofs.YtccidllcjaaeeabGreatDoor
