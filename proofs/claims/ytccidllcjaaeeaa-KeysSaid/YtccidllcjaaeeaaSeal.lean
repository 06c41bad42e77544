/- The walks of kdf's Seal and Open, and of the calls Seal and Open: they compute what the plain law tells. Conditions: the key has eight bytes, text and head at most 65540, the counter is far from its end. -/
import Derived.Test.YtccidllcjaaeeaaTag
import Derived.Deep.QuietTactic
import Derived.BigQuiet
import Derived.Deep.RegionWith
import Derived.Deep.RegionHeld3
import Derived.Deep.DeepMust
namespace Go.Proofs.Ytccidllcjaaeeaa
open Go.RowKit
theorem ownsRow_keep {w w' : World} {b : Nat} {e size : Nat} {v : Value} {n : Nat} {xs : List Value} (h : w.ownsRow b e size v n xs) (hk : ∀ g, b ≤ g → g < w.heap.size → w'.heap[g]? = w.heap[g]?) : w'.ownsRow b e size v n xs := by
  obtain ⟨h1, h2⟩ := h
  refine ⟨h1, ?_⟩
  rcases h2 with h2 | ⟨g, cap, cur, a1, a2, a3, a4⟩
  · exact .inl h2
  · exact .inr ⟨g, cap, cur, a1, a2, (hk g a2 (Array.getElem?_eq_some_iff.1 a3).1).trans a3, a4⟩
theorem bdrewN {B : Nat} {a w : World} (h : Below B a w) (n : Nat) : Below B a (w.drewN n) := ⟨h.os, h.tape, h.output, h.size, h.block⟩
theorem range_row {w : World} {b t : Nat} {fr : Nat × Nat} {l : List UInt8} (h : w.heap[b]? = some (.cells (cells l) t fr)) : w.rangeAt b 0 (cells l).toList := by
  intro j v hv
  rw [Nat.zero_add, cell_of_row _ _ _ _ _ _ h]
  simpa using hv
theorem eight {k : List UInt8} (h : k.length = 8) : ∃ a0 a1 a2 a3 a4 a5 a6 a7, k = [a0, a1, a2, a3, a4, a5, a6, a7] := by
  match k, h with
  | [a, b, c, d, e, f, g, h], _ => exact ⟨a, b, c, d, e, f, g, h, rfl⟩
theorem eight_cells {w : World} {b t : Nat} {fr : Nat × Nat} {a0 a1 a2 a3 a4 a5 a6 a7 : UInt8} (h : w.heap[b]? = some (.cells (cells [a0, a1, a2, a3, a4, a5, a6, a7]) t fr)) :
    w.cell? ⟨b, 0, none⟩ = some (.int .u8 a0.toNat) ∧ w.cell? ⟨b, 1, none⟩ = some (.int .u8 a1.toNat) ∧ w.cell? ⟨b, 2, none⟩ = some (.int .u8 a2.toNat) ∧ w.cell? ⟨b, 3, none⟩ = some (.int .u8 a3.toNat) ∧ w.cell? ⟨b, 4, none⟩ = some (.int .u8 a4.toNat) ∧ w.cell? ⟨b, 5, none⟩ = some (.int .u8 a5.toNat) ∧ w.cell? ⟨b, 6, none⟩ = some (.int .u8 a6.toNat) ∧ w.cell? ⟨b, 7, none⟩ = some (.int .u8 a7.toNat) := by
  refine ⟨?_, ?_, ?_, ?_, ?_, ?_, ?_, ?_⟩ <;> (rw [cell_of_row _ _ _ _ _ _ h]; rfl)
/-- One thing or the other, by a Bool. -/
def Either (b : Bool) (A B : Prop) : Prop := match b with
  | true => A
  | false => B
theorem cnt_other {w w' : World} {D o g : Nat} {x : Value} (h : Below w.heap.size (w.setCell ⟨D, o, none⟩ x) w') (hg : g < w.heap.size) (hD : g ≠ D) : w'.heap[g]? = w.heap[g]? := by
  rw [h.block g hg, heap_setCell_other _ _ _ _ hD]
theorem cnt_size {w w' : World} {p : Addr} {x : Value} (h : Below w.heap.size (w.setCell p x) w') : w.heap.size ≤ w'.heap.size := by
  have := h.size; rwa [size_setCell] at this
theorem cnt_base {w a w' : World} {p : Addr} {x : Value} (hb : Below w.heap.size w a) (h : Below a.heap.size (a.setCell p x) w') : Below w.heap.size (w.setCell p x) w' :=
  (below_setCell hb p x).trans (h.mono hb.size)

set_option maxHeartbeats 1000000 in
theorem seal_any (D o : Nat) (v : Int) (w : World) (k : List UInt8) (p1 p2 : Option Addr) (c1 c2 : Nat) (head l : List UInt8) (hk : k.length = 8)
    (hx : w.cell? ⟨D, o, none⟩ = some (.int .i64 v)) (hf : w.frozen? ⟨D, o, none⟩ = false) (hb0 : 0 ≤ v) (hb1 : v ≤ 4611686018426000000)
    (hl1 : head.length ≤ 9223372036854775807) (hr1 : Rd w p1 head)
    (hp : p2 = none → c2 = 0 ∧ l = []) (hs : p2 ≠ none → ∃ b o, p2 = some ⟨b, o, none⟩) (hl2 : l.length ≤ 65540) (hr2 : Rd w p2 l) :
    Calls Try.prog 20 #[.pointer (some ⟨D, o, none⟩), .agg (cells k), .slice p1 head.length c1, .slice p2 l.length c2] w fun e w' =>
      ∃ r, e = .returned r ∧ w'.ownsRow w.heap.size 5 1 r (l.length + 4) (cells (sealL k head l)).toList ∧ Below w.heap.size (w.setCell ⟨D, o, none⟩ (.int .i64 (v + ((l.length + 7) / 8 : Nat) + 1))) w' := by
  obtain ⟨i0, hi, hz0, hz1, hz2⟩ := info_parts infoU8
  have hD : D < w.heap.size := block_lt_of_cell hx
  have Hk := Lib.hid hk
  clear hk
  go_enter Try.func20, Try.ntmps20
  go_wp2_with (first | (refine wpList_load_row rfl 26 _ rfl w.heap.size rfl _ _ _ _ (heap_alloc_new _ _) Try.underlying26 rfl (by rw [infoSecret, cells_size, Hk.out]) ?_))
  have hB0 : Below w.heap.size w (w.alloc (.cells (cells k) 26)) := balloc (Below.refl _ _) _
  refine (mix_any D o v _ k p2 c2 l Hk.out (by rw [hB0.cell hD]; exact hx) (by rw [hB0.frozen hD]; exact hf) hb0 (by omega) hp hs hl2 (hr2.alloc _)).mono ?_
  rintro e w1 ⟨r, rfl, hown, hbel⟩
  have hb1' := cnt_base hB0 hbel
  have hK1 : w1.heap[w.heap.size]? = some (.cells (cells k) 26 (0, 0)) := by
    rw [cnt_other hbel (by simp) (by omega)]; exact heap_alloc_new _ _
  have hown : w1.ownsRow (w.heap.size + 1) 5 1 r l.length (cells (mixL k l)).toList := by simpa using hown
  obtain ⟨q, c, rfl, hq⟩ := ownsRow_slice hown
  have HK1 := Lib.hid hK1
  have Hq := Lib.hid hq
  have Hown := Lib.hid hown
  have hml := mixL_length k l
  have Hml := Lib.hid hml
  clear hK1 hq hown hml
  go_wp2_with (first | (refine wpList_load_row rfl 26 _ rfl w.heap.size rfl _ _ _ _ HK1.out Try.underlying26 rfl (by rw [infoSecret, cells_size, Hk.out]) ?_))
  have hrm : Rd w1 q (mixL k l) := by
    have := Hown.out
    rw [← Hml.out] at this
    exact Rd.own this
  rw [← Hml.out]
  refine (tag_any D o _ w1 k p1 q c1 c head (mixL k l) Hk.out (cnt_cell hb1' hx) (cnt_frozen hb1' hx hf) (by omega) (by omega) hl1 (by rw [Hml.out]; omega) (hr1.count hx hb1') hrm).mono ?_
  rintro e w2 ⟨T, rfl, hT, hTr, hb2⟩
  rw [Hml.out]
  have hB2 := cnt_next hb1' hb2
  have ho2 : w2.ownsRow (w.heap.size + 1) 5 1 (.slice q l.length c) l.length (cells (mixL k l)).toList :=
    ownsRow_keep Hown.out fun g h1 h2 => cnt_other hb2 h2 (by omega)
  have htg := (Rd.row hTr).take 4
  have hsz := cnt_size hB2
  have hs1 : w.heap.size + 1 ≤ w1.heap.size := by have := cnt_size hbel; simpa using this
  have hs2 := cnt_size hb2
  clear hTr
  go_wp2_with (at_builtin; go_must (refine wpList_append_own _ rfl _ _ 30 rfl (w.heap.size + 1) 5 i0 (.int .u8 0) 1 1 Try.underlying30 hi hz0 hz1 hz2 rfl (by decide) _ l.length (cells (mixL k l)).toList rfl ho2 ⟨T, 0, none⟩ 4 8 (cells (tagL k head (mixL k l))).toList rfl rfl htg.news (cells_oneCell _) (by unfold maxLen; omega) (by omega) (Nat.le_trans hs1 hs2) ?_); intro v3 w3 hown3 hg3 _)
  go_ret
  refine ⟨_, rfl, ?_, ?_⟩
  · rw [cells_append] at hown3
    exact ownsRow_mono hown3 (by omega)
  · exact hB2.grown hg3 hsz fun g hg => by have := (ho2.lt g hg).1; omega

set_option maxHeartbeats 1000000 in
theorem open_short (D o : Nat) (w : World) (k : List UInt8) (v1 v3 : Option Addr) (c1 n1 c3 n : Nat) (hn : n < 4) :
    Calls Try.prog 23 #[.pointer (some ⟨D, o, none⟩), .agg (cells k), .slice v1 n1 c1, .slice v3 n c3] w fun e w' =>
      e = .returned (.tuple #[.slice none 0 0, .bool false]) ∧ Below w.heap.size w w' := by
  have h1 : (n : Int) < 4 := by omega
  have h0 : (0 : Int) ≤ n := by omega
  go_enter Try.func23, Try.ntmps23
  have hd : decide ((n : Int) - 4 < 0) = true := by simp; omega
  go_wp2
  go_quiet (fail)
  go_wp2
  go_ret2
  exact ⟨rfl, bdrewN (balloc (Below.refl _ _) _) _⟩

theorem tag_read {w : World} {T t : Nat} {fr : Nat × Nat} {k head l : List UInt8} (h : w.heap[T]? = some (.cells (cells (kd k lTag (sumL head l))) t fr)) : Rd w (some ⟨T, 0, none⟩) (tagL k head l) := by
  unfold tagL
  exact (Rd.row h).take 4
theorem eight_cells' {w : World} {b t : Nat} {fr : Nat × Nat} {k : List UInt8} {a0 a1 a2 a3 a4 a5 a6 a7 : UInt8} (hk : k = [a0, a1, a2, a3, a4, a5, a6, a7]) (h : w.heap[b]? = some (.cells (cells k) t fr)) :
    w.cell? ⟨b, 0, none⟩ = some (.int .u8 a0.toNat) ∧ w.cell? ⟨b, 1, none⟩ = some (.int .u8 a1.toNat) ∧ w.cell? ⟨b, 2, none⟩ = some (.int .u8 a2.toNat) ∧ w.cell? ⟨b, 3, none⟩ = some (.int .u8 a3.toNat) ∧ w.cell? ⟨b, 4, none⟩ = some (.int .u8 a4.toNat) ∧ w.cell? ⟨b, 5, none⟩ = some (.int .u8 a5.toNat) ∧ w.cell? ⟨b, 6, none⟩ = some (.int .u8 a6.toNat) ∧ w.cell? ⟨b, 7, none⟩ = some (.int .u8 a7.toNat) := by
  subst hk
  exact eight_cells h
theorem tag_at (D o : Nat) (v : Int) (w : World) (k : List UInt8) (p1 p2 : Option Addr) (c1 c2 n1 n2 : Nat) (head l : List UInt8) (hn1 : head.length = n1) (hn2 : l.length = n2) (hk : k.length = 8)
    (hx : w.cell? ⟨D, o, none⟩ = some (.int .i64 v)) (hf : w.frozen? ⟨D, o, none⟩ = false) (hb0 : 0 ≤ v) (hb1 : v ≤ 4611686018427000000)
    (hl1 : n1 ≤ 9223372036854775807) (hl2 : n2 ≤ 9223372036854775807) (hr1 : Rd w p1 head) (hr2 : Rd w p2 l) :
    Calls Try.prog 33 #[.pointer (some ⟨D, o, none⟩), .agg (cells k), .slice p1 n1 c1, .slice p2 n2 c2] w fun e w' =>
      ∃ T, e = .returned (.slice (some ⟨T, 0, none⟩) 4 8) ∧ w.heap.size ≤ T ∧ Rd w' (some ⟨T, 0, none⟩) (tagL k head l) ∧ Below w.heap.size (w.setCell ⟨D, o, none⟩ (.int .i64 (v + 1))) w' := by
  subst hn1 hn2
  exact (tag_any D o v w k p1 p2 c1 c2 head l hk hx hf hb0 hb1 hl1 hl2 hr1 hr2).mono fun e w' ⟨T, h1, h2, h3, h4⟩ => ⟨T, h1, h2, tag_read h3, h4⟩
theorem mix_at (D o : Nat) (v : Int) (w : World) (k : List UInt8) (p : Option Addr) (cap n : Nat) (l : List UInt8) (hn : l.length = n) (hk : k.length = 8)
    (hx : w.cell? ⟨D, o, none⟩ = some (.int .i64 v)) (hf : w.frozen? ⟨D, o, none⟩ = false) (hb0 : 0 ≤ v) (hb1 : v ≤ 4611686018427000000)
    (hp : p = none → cap = 0 ∧ l = []) (hs : p ≠ none → ∃ b o, p = some ⟨b, o, none⟩) (hl : n ≤ 65540) (hr : Rd w p l) :
    Calls Try.prog 32 #[.pointer (some ⟨D, o, none⟩), .agg (cells k), .slice p n cap] w fun e w' =>
      ∃ r, e = .returned r ∧ w'.ownsRow w.heap.size 5 1 r n (cells (mixL k l)).toList ∧ Below w.heap.size (w.setCell ⟨D, o, none⟩ (.int .i64 (v + ((n + 7) / 8 : Nat)))) w' := by
  subst hn
  exact mix_any D o v w k p cap l hk hx hf hb0 hb1 hp hs hl hr
theorem equal_at (w : World) (p q : Option Addr) (c d n1 n2 : Nat) (l m : List UInt8) (hn1 : l.length = n1) (hn2 : m.length = n2) (hl : Rd w p l) (hm : Rd w q m) :
    Calls Try.prog 34 #[.slice p n1 c, .slice q n2 d] w fun e w' => e = .returned (.bool (l == m)) ∧ w' = w := by
  subst hn1 hn2
  exact equal_any w p q c d l m hl hm
set_option maxRecDepth 100000 in
set_option maxHeartbeats 1000000 in
theorem open_any (D o : Nat) (v : Int) (w : World) (k : List UInt8) (p1 : Option Addr) (b3 o3 c1 c3 : Nat) (head s : List UInt8) (hk : k.length = 8)
    (hx : w.cell? ⟨D, o, none⟩ = some (.int .i64 v)) (hf : w.frozen? ⟨D, o, none⟩ = false) (hb0 : 0 ≤ v) (hb1 : v ≤ 4611686018426000000)
    (hl1 : head.length ≤ 9223372036854775807) (hr1 : Rd w p1 head)
    (hl2 : s.length ≤ 65540) (h4 : 4 ≤ s.length) (hc3 : s.length ≤ c3) (hr2 : Rd w (some ⟨b3, o3, none⟩) s) :
    Calls Try.prog 23 #[.pointer (some ⟨D, o, none⟩), .agg (cells k), .slice p1 head.length c1, .slice (some ⟨b3, o3, none⟩) s.length c3] w fun e w' =>
      Either (opensB k head s) (∃ r, e = .returned (.tuple #[r, .bool true]) ∧ w'.ownsRow w.heap.size 5 1 r (s.length - 4) (cells (openT k s)).toList ∧ Below w.heap.size (w.setCell ⟨D, o, none⟩ (.int .i64 (v + 1 + ((s.length - 4 + 7) / 8 : Nat)))) w')
      (e = .returned (.tuple #[.slice none 0 0, .bool false]) ∧ Below w.heap.size (w.setCell ⟨D, o, none⟩ (.int .i64 (v + 1))) w') := by
  have hD : D < w.heap.size := block_lt_of_cell hx
  have Hk := Lib.hid hk
  clear hk
  have Hs1 : Hid ((s.take (s.length - 4)).length = s.length - 4) := Lib.hid (by rw [List.length_take]; omega)
  have Hs2 : Hid ((s.drop (s.length - 4)).length = s.length - (s.length - 4)) := Lib.hid (by rw [List.length_drop])
  have hd : decide ((s.length : Int) - 4 < 0) = false := by simp; omega
  generalize hN : s.length = N at *
  have HN := Lib.hid hN
  clear hN
  have hc4 : ¬ c3 = N - 4 := by omega
  have hi0 : (0 : Int) ≤ (N : Int) - 4 := by omega
  have hi3 : (4 : Int) ≤ (N : Int) := by omega
  have hi4 : (N : Int) ≤ (c3 : Int) + 4 := by omega
  have hi5 : (N : Int) ≤ (c3 : Int) := by omega
  have hi6 : ((N : Int) - 4).toNat = N - 4 := by omega
  have hi7 : IntKind.i64.wrap ((N : Int) - 4) = (N : Int) - 4 := IntWalk.i64_in _ (by omega)
  have hi1 : (N : Int) - 4 ≤ (N : Int) := by omega
  have hi2 : (N : Int) - 4 ≤ (c3 : Int) := by omega
  go_enter Try.func23, Try.ntmps23
  go_upto_region 2 with (fail)
  generalize hW : World.alloc _ _ = W
  have hKW : W.heap[w.heap.size]? = some (.cells (cells k) 26 (0, 0)) := by rw [← hW]; exact heap_alloc_new _ _
  have hBW : Below w.heap.size w W := by rw [← hW]; exact balloc (Below.refl _ _) _
  have hsW : w.heap.size < W.heap.size := by rw [← hW]; simp
  clear hW
  obtain ⟨a0, a1, a2, a3, a4, a5, a6, a7, hk8⟩ := eight Hk.out
  have Hk8 := Lib.hid hk8
  clear hk8
  have Hc : Hid (#[Value.int .u8 a0.toNat, .int .u8 a1.toNat, .int .u8 a2.toNat, .int .u8 a3.toNat, .int .u8 a4.toNat, .int .u8 a5.toNat, .int .u8 a6.toNat, .int .u8 a7.toNat] = cells k) := Lib.hid (by rw [Hk8.out]; rfl)
  obtain ⟨e0, e1, e2, e3, e4, e5, e6, e7⟩ := eight_cells' Hk8.out hKW
  have HKW := Lib.hid hKW
  clear hKW
  obtain ⟨bq, Hbq⟩ : ∃ bq : Bool, Hid ((tagL k head (s.take (N - 4)) == s.drop (N - 4)) = bq) := ⟨_, Lib.hid rfl⟩
  go_cut [29] (fun s29 wx => s29 = .bool (!bq) ∧ wx.heap[w.heap.size]? = some (.cells (cells k) 26 (0, 0)) ∧ Below w.heap.size (w.setCell ⟨D, o, none⟩ (.int .i64 (v + 1))) wx ∧ w.heap.size < wx.heap.size)
  case first =>
    have Q1 : W.drew.cell? ⟨D, o, none⟩ = some (.int .i64 v) := by rw [World.cell?_drew, hBW.cell hD]; exact hx
    have Q2 : W.drew.frozen? ⟨D, o, none⟩ = false := by rw [World.frozen?_drew, hBW.frozen hD]; exact hf
    have Q3 : v ≤ 4611686018427000000 := by omega
    have Q4 : N - 4 ≤ 9223372036854775807 := by omega
    have Q5 : Rd W.drew p1 head := hr1.below hBW.drew
    have Q6 : Rd W.drew (some ⟨b3, o3, none⟩) (s.take (N - 4)) := (hr2.below hBW.drew).take _
    have Q7' : ∀ w2, Below W.drew.heap.size (W.drew.setCell ⟨D, o, none⟩ (.int .i64 (v + 1))) w2 → w2.heap[w.heap.size]? = some (.cells (cells k) 26 (0, 0)) := fun w2 h => by
      rw [cnt_other h hsW (by omega)]; exact HKW.out
    have Q8' : ∀ w2, Below W.drew.heap.size (W.drew.setCell ⟨D, o, none⟩ (.int .i64 (v + 1))) w2 → Rd w2 (some ⟨b3, o3 + (N - 4), none⟩) (s.drop (N - 4)) := fun w2 h => by
      have := (hr2.below hBW.drew).count Q1 h
      exact this.drop _
    have Q7 := Lib.hid Q7'
    have Q8 := Lib.hid Q8'
    clear Q7' Q8'
    go_region_held3 (fun w' => w'.cell? ⟨w.heap.size, 0, none⟩ = some (.int .u8 a0.toNat) ∧ w'.cell? ⟨w.heap.size, 1, none⟩ = some (.int .u8 a1.toNat) ∧ w'.cell? ⟨w.heap.size, 2, none⟩ = some (.int .u8 a2.toNat) ∧ w'.cell? ⟨w.heap.size, 3, none⟩ = some (.int .u8 a3.toNat) ∧ w'.cell? ⟨w.heap.size, 4, none⟩ = some (.int .u8 a4.toNat) ∧ w'.cell? ⟨w.heap.size, 5, none⟩ = some (.int .u8 a5.toNat) ∧ w'.cell? ⟨w.heap.size, 6, none⟩ = some (.int .u8 a6.toNat) ∧ w'.cell? ⟨w.heap.size, 7, none⟩ = some (.int .u8 a7.toNat)) (refine ⟨?_, ?_, ?_, ?_, ?_, ?_, ?_, ?_⟩ <;> (first | assumption | (simp only [World.cell?_drew]; assumption))) (first | (go_at_call 33; (rw [Hc.out]; refine (tag_at D o v _ k p1 _ c1 _ _ _ head (s.take (N - 4)) rfl Hs1.out Hk.out ?_ ?_ hb0 ?_ hl1 ?_ ?_ ?_).mono ?_); exact Q1; exact Q2; exact Q3; exact Q4; exact Q5; exact Q6; rintro e w2 ⟨T, rfl, hT, hTr, hb2⟩; have hrow2 := Lib.hid (Q7.out _ hb2); obtain ⟨k0, k1, k2, k3, k4, k5, k6, k7⟩ := eight_cells' Hk8.out hrow2.out) | (go_at_call 34; go_must (refine (equal_at _ _ _ _ _ _ _ (tagL k head (s.take (N - 4))) (s.drop (N - 4)) (tagL_length _ _ _) Hs2.out ?_ ?_).mono ?_; exact hTr; exact Q8.out _ hb2; rintro e w3 ⟨rfl, rfl⟩; rw [Hbq.out])))
    go_wp2_with fail
    go_meet
    exact ⟨rfl, hrow2.out, cnt_base hBW.drew hb2, Nat.lt_of_lt_of_le (show w.heap.size < W.drew.heap.size from hsW) (cnt_size hb2)⟩
  case rest =>
    obtain ⟨rfl, hkr, hbb, hsc⟩ := hcut
    have hop : opensB k head s = bq := by
      rw [opensB, HN.out, Hbq.out]
      simp [h4]
    have Hop := Lib.hid hop
    clear hop e0 e1 e2 e3 e4 e5 e6 e7
    have Hkr := Lib.hid hkr
    clear hkr
    cases bq with
    | false =>
      go_wp2
      go_ret2
      rw [Hop.out]
      exact ⟨rfl, hbb⟩
    | true =>
      obtain ⟨e0, e1, e2, e3, e4, e5, e6, e7⟩ := eight_cells' Hk8.out Hkr.out
      have Q1 : wc.drew.cell? ⟨D, o, none⟩ = some (.int .i64 (v + 1)) := by rw [World.cell?_drew]; exact cnt_cell hbb hx
      have Q2 : wc.drew.frozen? ⟨D, o, none⟩ = false := by rw [World.frozen?_drew]; exact cnt_frozen hbb hx hf
      have Q3 : v + 1 ≤ 4611686018427000000 := by omega
      have Q6 : Rd wc.drew (some ⟨b3, o3, none⟩) (s.take (N - 4)) := by
        have h := (hr2.count hx hbb).take (N - 4)
        exact h.below (Below.refl _ _).drew
      have Q7' : ∀ w2, Below wc.drew.heap.size (wc.drew.setCell ⟨D, o, none⟩ (.int .i64 (v + 1 + ((N - 4 + 7) / 8 : Nat)))) w2 → w2.heap[w.heap.size]? = some (.cells (cells k) 26 (0, 0)) := fun w2 h => by
        rw [cnt_other h hsc (by omega)]; exact Hkr.out
      have Q7 := Lib.hid Q7'
      clear Q7'
      have Q8 : some (⟨b3, o3, none⟩ : Addr) = none → c3 = 0 ∧ s.take (N - 4) = [] := fun h => by cases h
      have Q9 : some (⟨b3, o3, none⟩ : Addr) ≠ none → ∃ b o, some (⟨b3, o3, none⟩ : Addr) = some ⟨b, o, none⟩ := fun _ => ⟨_, _, rfl⟩
      have Q8h := Lib.hid Q8
      have Q9h := Lib.hid Q9
      clear Q8 Q9
      have hv1 : 0 ≤ v + 1 := by omega
      have hn65 : N - 4 ≤ 65540 := by omega
      simp only [Bool.not_true]
      go_upto_region 4 with (fail)
      go_region_held3 (fun w' => w'.cell? ⟨w.heap.size, 0, none⟩ = some (.int .u8 a0.toNat) ∧ w'.cell? ⟨w.heap.size, 1, none⟩ = some (.int .u8 a1.toNat) ∧ w'.cell? ⟨w.heap.size, 2, none⟩ = some (.int .u8 a2.toNat) ∧ w'.cell? ⟨w.heap.size, 3, none⟩ = some (.int .u8 a3.toNat) ∧ w'.cell? ⟨w.heap.size, 4, none⟩ = some (.int .u8 a4.toNat) ∧ w'.cell? ⟨w.heap.size, 5, none⟩ = some (.int .u8 a5.toNat) ∧ w'.cell? ⟨w.heap.size, 6, none⟩ = some (.int .u8 a6.toNat) ∧ w'.cell? ⟨w.heap.size, 7, none⟩ = some (.int .u8 a7.toNat)) (refine ⟨?_, ?_, ?_, ?_, ?_, ?_, ?_, ?_⟩ <;> (first | assumption | (simp only [World.cell?_drew]; assumption))) (first | (go_at_call 32; rw [Hc.out]; refine (mix_at D o (v + 1) _ k _ c3 _ (s.take (N - 4)) Hs1.out Hk.out ?_ ?_ hv1 ?_ Q8h.out Q9h.out hn65 ?_).mono ?_; exact Q1; exact Q2; exact Q3; exact Q6; rintro e w2 ⟨r, rfl, hro, hb2⟩; have hrow2 := Lib.hid (Q7.out _ hb2); obtain ⟨k0, k1, k2, k3, k4, k5, k6, k7⟩ := eight_cells' Hk8.out hrow2.out))
      go_wp2_with fail
      go_ret2
      rw [Hop.out]
      refine ⟨r, rfl, ?_, cnt_next hbb.drew hb2⟩
      rw [openT, HN.out]
      exact ownsRow_mono hro (cnt_size hbb.drew)
end Go.Proofs.Ytccidllcjaaeeaa
