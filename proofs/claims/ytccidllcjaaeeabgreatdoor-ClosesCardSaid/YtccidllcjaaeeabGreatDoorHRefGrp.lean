/- The document's group (package epochref): its state in memory; depth, bound, New. Conditions: stated in each. -/
import Derived.Test.YtccidllcjaaeeabGreatDoorHComesMid
import Derived.Test.YtccidllcjaaeeabGreatDoorHRefSeal
namespace Go.Proofs.YtccidllcjaaeeabGreatDoor
set_option maxRecDepth 100000
open Go Go.Maps Go.RowKit
open Go.Shelf Go.Lib Go.Sort Go.MuLone
/-- A slice of generations. -/
def OverAt (w : World) (lo : Nat) (v : Value) (l : List Nat) : Prop :=
  (v = .slice none 0 0 ∧ l = []) ∨ ∃ b o cap, v = .slice (some ⟨b, o, none⟩) l.length cap ∧ l.length ≤ cap ∧ cap ≤ maxLen ∧ lo ≤ b ∧ (∃ cs, w.heap[b]? = some (.cells cs 3 (0, 0))) ∧ ∀ j, j < l.length → w.cell? ⟨b, o + j, none⟩ = some (.int .i64 (l.getD j 0 : Nat))
/-- The document's group at R, its members at B, reads as s; it may derive st secrets. -/
structure RefAt (w : World) (lo R B : Nat) (s : GSt) (st : Int) : Prop where
  grp : ∃ cs : Array Value, w.heap[R]? = some (.cells cs 76 (0, 0)) ∧ (∀ (j : Nat) (v : Value), (cells s.root).toList[j]? = some v → cs[j]? = some v) ∧ cs[8]? = some (.int .i64 s.n) ∧ cs[9]? = some (.int .i64 s.own) ∧ cs[10]? = some (.slice (some ⟨B, 0, none⟩) s.n s.n) ∧ cs[11]? = some (.bool s.closed) ∧ cs[12]? = some (.int .i64 st)
  mem : ∃ ms : Array Value, w.heap[B]? = some (.cells ms 111 (0, 0)) ∧ ∀ m, m < s.n → ms[m * 3]? = some (.bool (s.M m).begun) ∧ ms[m * 3 + 1]? = some (.int .i64 (s.M m).next) ∧ ∃ ov, ms[m * 3 + 2]? = some ov ∧ OverAt w lo ov (s.M m).over
  loR : lo ≤ R
  loB : lo ≤ B
theorem OverAt.keep {w w' : World} {lo : Nat} {v : Value} {l : List Nat} (h : OverAt w lo v l) (hk : ∀ (b : Nat) (cs : Array Value), w.heap[b]? = some (.cells cs 3 (0, 0)) → w'.heap[b]? = w.heap[b]?) : OverAt w' lo v l := by
  rcases h with h | ⟨b, o, cap, h1, h2, h3, h4, ⟨cs, h5⟩, h6⟩
  · exact .inl h
  · exact .inr ⟨b, o, cap, h1, h2, h3, h4, ⟨cs, (hk b cs h5).trans h5⟩, fun j hj => (World.cell?_of_block (a := ⟨b, o + j, none⟩) (hk b cs h5)).trans (h6 j hj)⟩
theorem RefAt.keep {w w' : World} {lo R B : Nat} {s : GSt} {st : Int} (h : RefAt w lo R B s st) (hk : ∀ (b : Nat) (cs : Array Value) (ty : TypeId), w.heap[b]? = some (.cells cs ty (0, 0)) → ty = 3 ∨ ty = 76 ∨ ty = 111 → w'.heap[b]? = w.heap[b]?) : RefAt w' lo R B s st := by
  obtain ⟨⟨cs, h1, h2⟩, ⟨ms, h3, h4⟩, h5, h6⟩ := h
  refine ⟨⟨cs, (hk R cs _ h1 (.inr (.inl rfl))).trans h1, h2⟩, ⟨ms, (hk B ms _ h3 (.inr (.inr rfl))).trans h3, fun m hm => ?_⟩, h5, h6⟩
  obtain ⟨a, b, ov, c, d⟩ := h4 m hm
  exact ⟨a, b, ov, c, d.keep fun b cs hb => hk b cs _ hb (.inl rfl)⟩
theorem RefAt.below {w w' : World} {lo R B : Nat} {s : GSt} {st : Int} (h : RefAt w lo R B s st) (hb : Below w.heap.size w w') : RefAt w' lo R B s st :=
  h.keep fun b _ _ hc _ => hb.block b (Array.getElem?_eq_some_iff.1 hc).1
theorem RefAt.stay {w w' : World} {lo R B : Nat} {s : GSt} {st : Int} (h : RefAt w lo R B s st) (hs : Stay w w') : RefAt w' lo R B s st :=
  h.keep fun b cs ty hc ht => hs b cs ty _ hc (by rcases ht with rfl | rfl | rfl <;> decide) (by rcases ht with rfl | rfl | rfl <;> decide)
theorem RefAt.ne {w : World} {lo R B : Nat} {s : GSt} {st : Int} (h : RefAt w lo R B s st) : R ≠ B := fun e => by
  obtain ⟨⟨cs, h1, _⟩, ⟨ms, h3, _⟩, _, _⟩ := h
  rw [e, h3] at h1
  injection h1 with h1
  injection h1 with _ h1
  exact absurd h1 (by decide)
/-- The group's own cells. -/
theorem RefAt.fields {w : World} {lo R B : Nat} {s : GSt} {st : Int} (h : RefAt w lo R B s st) : w.rangeAt R 0 (cells s.root).toList ∧ w.cell? ⟨R, 8, none⟩ = some (.int .i64 s.n) ∧ w.cell? ⟨R, 9, none⟩ = some (.int .i64 s.own) ∧ w.cell? ⟨R, 10, none⟩ = some (.slice (some ⟨B, 0, none⟩) s.n s.n) ∧ w.cell? ⟨R, 11, none⟩ = some (.bool s.closed) ∧ w.cell? ⟨R, 12, none⟩ = some (.int .i64 st) ∧ (∀ j, w.frozen? ⟨R, j, none⟩ = false) := by
  obtain ⟨⟨cs, h1, h2, h3, h4, h5, h6, h7⟩, _, _, _⟩ := h
  refine ⟨fun j v hv => ?_, ?_, ?_, ?_, ?_, ?_, fun j => frozen_of_row _ _ _ _ _ h1⟩
  · rw [cell_of_row _ _ _ _ _ _ h1, Nat.zero_add]; exact h2 j v hv
  all_goals
    rw [cell_of_row _ _ _ _ _ _ h1]; assumption
theorem RefAt.member {w : World} {lo R B : Nat} {s : GSt} {st : Int} (h : RefAt w lo R B s st) (m : Nat) (hm : m < s.n) : w.cell? ⟨B, m * 3, none⟩ = some (.bool (s.M m).begun) ∧ w.cell? ⟨B, m * 3 + 1, none⟩ = some (.int .i64 (s.M m).next) ∧ (∃ ov, w.cell? ⟨B, m * 3 + 2, none⟩ = some ov ∧ OverAt w lo ov (s.M m).over) ∧ ∀ j, w.frozen? ⟨B, j, none⟩ = false := by
  obtain ⟨_, ⟨ms, h3, h4⟩, _, _⟩ := h
  obtain ⟨a, b, ov, c, d⟩ := h4 m hm
  refine ⟨?_, ?_, ⟨ov, ?_, d⟩, fun j => frozen_of_row _ _ _ _ _ h3⟩
  all_goals
    rw [cell_of_row _ _ _ _ _ _ h3]; assumption
theorem depth_any : ∀ (d n m : Nat) (w : World), 1 ≤ n → n ≤ d + 1 → n ≤ 16 → m < n → d ≤ 16 → Calls Tryz.prog 61 #[.int .i64 n, .int .i64 m] w fun e w' => e = .returned (.int .i64 (depthF d n m)) ∧ w' = w
  | 0, n, m, w, h1, h2, h3, h4, h5 => by
    obtain rfl : n = 1 := by omega
    go_enter Tryz.func61, Tryz.ntmps61
    go_wp2
    go_ret
    exact ⟨rfl, rfl⟩
  | d + 1, n, m, w, h1, h2, h3, h4, h5 => by
    by_cases hn1 : n = 1
    · subst hn1
      go_enter Tryz.func61, Tryz.ntmps61
      go_wp2
      go_ret
      exact ⟨rfl, rfl⟩
    · have hsp := splitN_pos n
      have hsl := splitN_lt n (by omega)
      obtain ⟨k, hk⟩ : ∃ k, k = splitN n := ⟨_, rfl⟩
      rw [← hk] at hsp hsl
      have hnI : ((n : Int) == 1) = false := by simp; omega
      by_cases hm : m < k
      · have ih := depth_any d k m w hsp (by omega) (by omega) hm (by omega)
        have e : depthF (d + 1) n m = 1 + depthF d k m := by rw [depthF, if_neg (by omega), ← hk, if_pos hm]
        have hd := depthF_le d k m
        obtain ⟨x, hx⟩ : ∃ x, x = depthF d k m := ⟨_, rfl⟩
        rw [← hx] at ih e hd
        have hmI : (m : Int) < (k : Nat) := by omega
        have Hk := Lib.hid hk
        have Ih := Lib.hid ih
        rw [e]
        clear hk ih e hx
        go_enter Tryz.func61, Tryz.ntmps61
        go_wp2_with (first
          | (go_at_call 54; refine (split_any _ n h3).mono ?_; rintro e w1 ⟨rfl, h1⟩; obtain rfl := h1.symm; rw [← Hk.out])
          | (go_at_call 61; refine Ih.out.mono ?_; rintro e w1 ⟨rfl, h1⟩; obtain rfl := h1.symm))
        go_ret
        exact ⟨rfl, rfl⟩
      · have ih := depth_any d (n - k) (m - k) w (by omega) (by omega) (by omega) (by omega) (by omega)
        have e : depthF (d + 1) n m = 1 + depthF d (n - k) (m - k) := by rw [depthF, if_neg (by omega), ← hk, if_neg hm]
        have hd := depthF_le d (n - k) (m - k)
        obtain ⟨x, hx⟩ : ∃ x, x = depthF d (n - k) (m - k) := ⟨_, rfl⟩
        rw [← hx] at ih e hd
        have hmI : ¬ (m : Int) < (k : Nat) := by omega
        have e1 : (n : Int) - (k : Nat) = ((n - k : Nat) : Int) := by omega
        have e2 : (m : Int) - (k : Nat) = ((m - k : Nat) : Int) := by omega
        have Hk := Lib.hid hk
        have Ih := Lib.hid ih
        rw [e]
        clear hk ih e hx
        go_enter Tryz.func61, Tryz.ntmps61
        go_wp2_with (first
          | (go_at_call 54; refine (split_any _ n h3).mono ?_; rintro e w1 ⟨rfl, h1⟩; obtain rfl := h1.symm; rw [← Hk.out])
          | (go_at_call 61; refine Ih.out.mono ?_; rintro e w1 ⟨rfl, h1⟩; obtain rfl := h1.symm))
        go_ret
        exact ⟨rfl, rfl⟩
end Go.Proofs.YtccidllcjaaeeabGreatDoor
