/- How a slice of bytes reads in memory, and how the reading is carried on; the walk of bytes.Clone. No condition. -/
import Derived.Test.YtccidllcjaaeeaaDerives
import Derived.Test.YtccidllcjaaeeaaSealFns
namespace Go.Proofs.Ytccidllcjaaeeaa
open Go.RowKit
def Rd (w : World) (p : Option Addr) (l : List UInt8) : Prop :=
  0 < l.length → ∃ b o, p = some ⟨b, o, none⟩ ∧ ∀ j, j < l.length → w.cell? ⟨b, o + j, none⟩ = some (.int .u8 (l.getD j 0).toNat)
theorem Rd.empty (w : World) (p : Option Addr) : Rd w p [] := fun h => absurd h (by simp)
theorem Rd.keep {w w' : World} {p : Option Addr} {l : List UInt8} (h : Rd w p l) (hk : ∀ a u, w.cell? a = some (.int .u8 u) → w'.cell? a = some (.int .u8 u)) : Rd w' p l := by
  intro hl
  obtain ⟨b, o, rfl, hc⟩ := h hl
  exact ⟨b, o, rfl, fun j hj => hk _ _ (hc j hj)⟩
theorem Rd.below {w w' : World} {p : Option Addr} {l : List UInt8} (h : Rd w p l) (hb : Below w.heap.size w w') : Rd w' p l :=
  h.keep fun a u hc => by rw [hb.cell (block_lt_of_cell hc)]; exact hc
theorem Rd.alloc {w : World} {p : Option Addr} {l : List UInt8} (h : Rd w p l) (o : Obj) : Rd (w.alloc o) p l :=
  h.below (balloc (Below.refl _ _) o)
theorem size_setCell (w : World) (a : Addr) (u : Value) : (w.setCell a u).heap.size = w.heap.size := by simp [World.setCell]
theorem Rd.count {w w' : World} {p : Option Addr} {l : List UInt8} (h : Rd w p l) {D o : Nat} {v x : Int} (hx : w.cell? ⟨D, o, none⟩ = some (.int .i64 v)) (hb : Below w.heap.size (w.setCell ⟨D, o, none⟩ (.int .i64 x)) w') : Rd w' p l :=
  h.keep fun a u hc => by
    have hlt := block_lt_of_cell hc
    rw [hb.cell hlt, World.cell?_setCell_other]
    · exact hc
    · intro e
      rw [← e, hx] at hc
      cases hc
theorem Rd.own {w : World} {base e : Nat} {p : Option Addr} {c : Nat} {l : List UInt8} (h : w.ownsRow base e 1 (.slice p l.length c) l.length (cells l).toList) : Rd w p l := by
  intro hl
  obtain ⟨g, cap, e1, _, _⟩ := ownsRow_pos h hl
  cases e1
  refine ⟨g, 0, rfl, fun j hj => ?_⟩
  rw [Nat.zero_add, h.cellAt j (by omega), cells_get _ _ hj, List.getD_eq_getElem?_getD, List.getElem?_eq_getElem hj]
  rfl
theorem Rd.take {w : World} {p : Option Addr} {l : List UInt8} (h : Rd w p l) (n : Nat) : Rd w p (l.take n) := by
  intro hl
  rw [List.length_take] at hl
  obtain ⟨b, o, e, hc⟩ := h (by omega)
  refine ⟨b, o, e, fun j hj => ?_⟩
  rw [List.length_take] at hj
  rw [hc j (by omega), List.getD_eq_getElem?_getD, List.getD_eq_getElem?_getD, List.getElem?_take, if_pos (by omega)]
theorem Rd.drop {w : World} {b o : Nat} {l : List UInt8} (h : Rd w (some ⟨b, o, none⟩) l) (n : Nat) : Rd w (some ⟨b, o + n, none⟩) (l.drop n) := by
  intro hl
  rw [List.length_drop] at hl
  obtain ⟨b', o', e, hc⟩ := h (by omega)
  cases e
  refine ⟨b, o + n, rfl, fun j hj => ?_⟩
  rw [List.length_drop] at hj
  rw [Nat.add_assoc, hc (n + j) (by omega), List.getD_eq_getElem?_getD, List.getD_eq_getElem?_getD, List.getElem?_drop]
theorem Rd.row {w : World} {b t : Nat} {fr : Nat × Nat} {l : List UInt8} (h : w.heap[b]? = some (.cells (cells l) t fr)) : Rd w (some ⟨b, 0, none⟩) l := by
  intro hl
  refine ⟨b, 0, rfl, fun j hj => ?_⟩
  have := cells_get l j hj
  rw [Array.getElem?_toList] at this
  rw [Nat.zero_add, cell_of_row _ _ _ _ _ _ h, this, List.getD_eq_getElem?_getD, List.getElem?_eq_getElem hj]
  rfl
/-- What an append reads. -/
theorem Rd.news {w : World} {b o : Nat} {l : List UInt8} (h : Rd w (some ⟨b, o, none⟩) l) : ∀ j u, (cells l).toList[j]? = some u → w.cell? ((⟨b, o, none⟩ : Addr).add j) = some u := by
  intro j u hj
  have hlt : j < l.length := by
    have := (List.getElem?_eq_some_iff.1 hj).1
    simpa [cells] using this
  obtain ⟨b', o', e, hc⟩ := h (by omega)
  cases e
  rw [Addr.add_lit, hc j hlt, ← hj, cells_get _ _ hlt, List.getD_eq_getElem?_getD, List.getElem?_eq_getElem hlt]
  rfl
theorem cells_oneCell (l : List UInt8) : ∀ u ∈ (cells l).toList, u.oneCell' = true := by
  intro u hu
  simp only [cells, List.mem_map] at hu
  obtain ⟨b, _, rfl⟩ := hu
  rfl
theorem cells_len (l : List UInt8) : (cells l).toList.length = l.length := by simp [cells]

theorem eql_nil (w : World) (a : Option Addr) (n c : Nat) : (binOp .eql 30 (.slice a n c) (.slice none 0 0)).run Try.prog w = .ok (.bool a.isNone) w := Lib.run_eql_slice_nil w 30 5 a n c 0 0 Try.underlying30
set_option maxHeartbeats 400000 in
theorem clone_any (w : World) (p : Option Addr) (cap : Nat) (l : List UInt8) (hp : p = none → cap = 0 ∧ l = []) (hs : p ≠ none → ∃ b o, p = some ⟨b, o, none⟩) (hl : l.length ≤ 140737488355328) (hr : Rd w p l) :
    Calls Try.prog 43 #[.slice p l.length cap] w fun e w' => ∃ v, e = .returned v ∧ w'.ownsRow w.heap.size 5 1 v l.length (cells l).toList ∧ Below w.heap.size w w' := by
  obtain ⟨i0, hi, hz0, hz1, hz2⟩ := info_parts infoU8
  cases p with
  | none =>
    obtain ⟨rfl, rfl⟩ := hp rfl
    have he := eql_nil w none 0 0
    go_enter Try.func43, Try.ntmps43
    go_wp2
    go_ret
    exact ⟨_, rfl, World.ownsRow_nil _ _ _ _, Below.refl _ _⟩
  | some a =>
    obtain ⟨b, o, e⟩ := hs (by simp)
    cases e
    have he := eql_nil w (some ⟨b, o, none⟩) l.length cap
    simp only [Option.isNone] at he
    go_enter Try.func43, Try.ntmps43
    go_wp2_with (at_builtin; go_must (refine wpList_append_own _ rfl _ _ 30 rfl w.heap.size 5 i0 (.int .u8 0) 1 1 Try.underlying30 hi hz0 hz1 hz2 rfl (by decide) _ 0 [] rfl (World.ownsRow_made w #[] 0 (Nat.le_refl _) (by decide) rfl) ⟨b, o, none⟩ l.length cap (cells l).toList rfl (by rw [cells_len, Nat.mul_one]) (cell_old_row hr.news _) (cells_oneCell l) (by unfold maxLen; omega) (by omega) (by simp) ?_); intro v1 w1 hown hg hz)
    go_ret
    rw [Nat.zero_add, List.nil_append] at hown
    exact ⟨_, rfl, hown, (balloc (Below.refl _ _) _).grown hg (by simp) (fun k hk => by cases hk; exact Nat.le_refl _)⟩
/-- 'string(b)'. -/
theorem conv_str (w : World) (p : Option Addr) (c : Nat) (l : List UInt8) (h : Rd w p l) : (convert 30 9 (.slice p l.length c)).run Try.prog w = .ok (.string ⟨l.toArray⟩) w := by
  rcases Nat.eq_zero_or_pos l.length with hn | hn
  · obtain rfl : l = [] := List.eq_nil_of_length_eq_zero hn
    rw [List.length_nil, run_convert_bytes_string w 30 9 5 _ 0 c Try.underlying30 Try.underlying5 Try.underlying9]
    cases p <;> simp [Conv.bytesToString, loadCells, loadCellsFrom] <;> rfl
  · obtain ⟨b, o, rfl, hc⟩ := h hn
    have := run_convert_bytes_arg (P := Try.prog) w 30 5 Try.underlying30 Try.underlying5 b o l.length c (l.map fun b => (b.toNat : Int)) (by simp) (fun i hi => by
      rw [hc i hi]
      simp [List.getD, hi]) 9 Try.underlying9
    rw [this]
    congr 3
    simp [strOfNums, Function.comp_def]
set_option maxHeartbeats 400000 in
theorem equal_any (w : World) (p q : Option Addr) (c d : Nat) (l m : List UInt8) (hl : Rd w p l) (hm : Rd w q m) :
    Calls Try.prog 34 #[.slice p l.length c, .slice q m.length d] w fun e w' => e = .returned (.bool (l == m)) ∧ w' = w := by
  have h1 := conv_str w p c l hl
  have h2 := conv_str w q d m hm
  go_enter Try.func34, Try.ntmps34
  go_wp2
  go_ret
  exact ⟨rfl, rfl⟩
end Go.Proofs.Ytccidllcjaaeeaa