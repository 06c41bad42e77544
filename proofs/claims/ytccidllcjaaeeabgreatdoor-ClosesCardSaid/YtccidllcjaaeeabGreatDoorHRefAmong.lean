/- The document's list of generations: where one lies in it, how it reads, and what is left without it. Conditions: the list reads. -/
import Derived.Test.YtccidllcjaaeeabGreatDoorHRefProtect
import Derived.Test.YtccidllcjaaeeabGreatDoorHUnSpec
namespace Go.Proofs.YtccidllcjaaeeabGreatDoor
set_option maxRecDepth 100000
open Go Go.Maps Go.RowKit
open Go.Shelf Go.Lib Go.Sort Go.MuLone
def natV (l : List Nat) : List Value := l.map fun g : Nat => .int .i64 g
theorem natV_len (l : List Nat) : (natV l).length = l.length := by simp [natV]
theorem natV_one (l : List Nat) : ∀ u ∈ natV l, u.oneCell' = true := fun u hu => by obtain ⟨_, _, rfl⟩ := List.mem_map.1 hu; rfl
theorem natV_get (l : List Nat) (j : Nat) (h : j < l.length) : (natV l)[j]? = some (.int .i64 (l.getD j 0 : Nat)) := by
  rw [natV, List.getElem?_map, List.getD_eq_getElem?_getD, List.getElem?_eq_getElem h]; rfl
theorem overAt_form {w : World} {lo : Nat} {v : Value} {l : List Nat} (h : OverAt w lo v l) : ∃ ao c, v = .slice ao l.length c ∧ l.length ≤ c ∧ (ao = none → l.length = 0 ∧ c = 0) ∧ ∀ ad, ao = some ad → (∃ b o, ad = ⟨b, o, none⟩) ∧ ∀ (j : Nat) (u : Value), (natV l)[j]? = some u → w.cell? (ad.add j) = some u := by
  rcases h with ⟨rfl, rfl⟩ | ⟨b, o, cap, rfl, h2, _, _, _, h6⟩
  · exact ⟨none, 0, rfl, Nat.le_refl _, fun _ => ⟨rfl, rfl⟩, fun _ e => by cases e⟩
  · refine ⟨_, cap, rfl, h2, fun e => (by cases e), fun ad e => ?_⟩
    cases e
    refine ⟨⟨_, _, rfl⟩, fun j u hu => ?_⟩
    have hj : j < l.length := by have := (List.getElem?_eq_some_iff.1 hu).1; rwa [natV_len] at this
    rw [natV_get _ _ hj] at hu
    cases hu
    rw [Addr.add_lit]
    exact h6 j hj
theorem overAt_row {w : World} {lo base : Nat} {v : Value} {l : List Nat} (h : w.ownsRow base 3 1 v l.length (natV l)) (hb : lo ≤ base) : OverAt w lo v l := by
  rcases h.2 with ⟨rfl, h0⟩ | ⟨g, cap, cur, rfl, h2, h3, h4, h5, _, h7⟩
  · exact .inl ⟨rfl, List.eq_nil_of_length_eq_zero h0⟩
  · refine .inr ⟨g, 0, cap, rfl, h4, h5, by omega, ⟨cur, h3⟩, fun j hj => ?_⟩
    have h8 := natV_get l j hj
    rw [← h7, List.getElem?_take_of_lt (by omega), Array.getElem?_toList] at h8
    rw [Nat.zero_add, cell_of_row _ _ _ _ _ _ h3]
    exact h8
theorem overAt_drop {w : World} {lo base g c k : Nat} {l : List Nat} (h : w.ownsRow base 3 1 (.slice (some ⟨g, 0, none⟩) l.length c) l.length (natV l)) (hb : lo ≤ base) (hk : k < l.length) : OverAt w lo (.slice (some ⟨g, k, none⟩) (l.length - k) (c - k)) (l.drop k) := by
  rcases h.2 with ⟨e, h0⟩ | ⟨g', cap, cur, e, h2, h3, h4, h5, _, h7⟩
  · cases e
  · cases e
    refine .inr ⟨g, k, c - k, by rw [List.length_drop], by rw [List.length_drop]; omega, by omega, by omega, ⟨cur, h3⟩, fun j hj => ?_⟩
    rw [List.length_drop] at hj
    have h8 := natV_get l (k + j) (by omega)
    rw [← h7, List.getElem?_take_of_lt (by omega), Array.getElem?_toList] at h8
    rw [cell_of_row _ _ _ _ _ _ h3, h8, List.getD_eq_getElem?_getD, List.getD_eq_getElem?_getD, List.getElem?_drop]
/-- What is left of a rising list without one of it. -/
theorem rise_less : ∀ (l : List Nat) (i : Nat), l.Pairwise (· < ·) → i < l.length → l.take i ++ l.drop (i + 1) = l.filter (fun g => g != l.getD i 0)
  | [], i, _, h => absurd h (Nat.not_lt_zero _)
  | x :: l, 0, hr, _ => by
    rw [List.pairwise_cons] at hr
    have : l.filter (fun g => g != x) = l := List.filter_eq_self.2 fun g hg => by have := hr.1 g hg; simp; omega
    simp [this]
  | x :: l, i + 1, hr, h => by
    have hr2 := List.pairwise_cons.1 hr
    have hi : i < l.length := by simpa using h
    have hm : l.getD i 0 ∈ l := by rw [List.getD_eq_getElem?_getD, List.getElem?_eq_getElem hi]; exact List.getElem_mem _
    have hx : (x != l.getD i 0) = true := bne_iff_ne.2 (Nat.ne_of_lt (hr2.1 _ hm))
    have ih := rise_less l i hr2.2 hi
    rw [List.getD_cons_succ, List.filter_cons, if_pos hx, ← ih]
    simp
theorem among_no (w : World) (lo x : Nat) (v : Value) (l : List Nat) (h : OverAt w lo v l) (hx : x ∉ l) (hl : l.length ≤ 1000) :
    Calls Tryz.prog 42 #[v, .int .i64 x] w fun e w' => e = .returned (.int .i64 (-1)) ∧ w' = w := by
  obtain ⟨n, hn⟩ : ∃ n, n = l.length := ⟨_, rfl⟩
  obtain ⟨ao, c, rfl, hc, h0, h1⟩ := overAt_form h
  rw [← hn] at hl hc h0 ⊢
  have hcell : ∀ i, i < n → ∃ b o y, ao = some ⟨b, o, none⟩ ∧ w.cell? ⟨b, o + i, none⟩ = some (.int .i64 (y : Nat)) ∧ y ≠ x := fun i hi => by
    cases ao with
    | none => have := (h0 rfl).1; omega
    | some ad =>
      obtain ⟨⟨b, o, rfl⟩, hcs⟩ := h1 ad rfl
      have := hcs i _ (natV_get l i (by omega))
      rw [Addr.add_lit] at this
      refine ⟨b, o, l.getD i 0, rfl, this, fun e => hx ?_⟩
      rw [← e, List.getD_eq_getElem?_getD, List.getElem?_eq_getElem (by omega)]
      exact List.getElem_mem _
  have Hcell := Lib.hid hcell
  clear hcell h0 h1 h hx hn
  go_enter Tryz.func42, Tryz.ntmps42
  go_upto_region 2 with (fail)
  go_loop [5] (fun iv => ∃ i : Nat, i ≤ n ∧ iv = .int .i64 i) (fun iv => n - (intOf iv).toNat)
  case atStart => exact ⟨0, Nat.zero_le _, rfl⟩
  case round =>
    obtain ⟨i, hi, rfl⟩ := hrel
    by_cases hlt : i < n
    · obtain ⟨b, o, y, rfl, hcy, hne⟩ := Hcell.out i hlt
      have e1 : (i : Int) < (n : Nat) := by omega
      have e2 : (0 : Int) ≤ (i : Nat) := by omega
      have e3 : ((y : Int) == (x : Nat)) = false := by simp; omega
      go_wp2
      go_round
      case rel => exact ⟨i + 1, by omega, by go_num⟩
      case measure => simp [intOf]; omega
    · have e1 : ¬ (i : Int) < (n : Nat) := by omega
      go_wp2
      go_ret
      exact ⟨rfl, rfl⟩
theorem among_yes (w : World) (lo x : Nat) (v : Value) (l : List Nat) (k : Nat) (h : OverAt w lo v l) (hr : l.Pairwise (· < ·)) (hk : k < l.length) (hx : l.getD k 0 = x) (hl : l.length ≤ 1000) :
    Calls Tryz.prog 42 #[v, .int .i64 x] w fun e w' => e = .returned (.int .i64 k) ∧ w' = w := by
  obtain ⟨n, hn⟩ : ∃ n, n = l.length := ⟨_, rfl⟩
  obtain ⟨ao, c, rfl, hc, h0, h1⟩ := overAt_form h
  rw [← hn] at hl hc h0 hk ⊢
  have hcell : ∀ i, i ≤ k → ∃ b o y, ao = some ⟨b, o, none⟩ ∧ w.cell? ⟨b, o + i, none⟩ = some (.int .i64 (y : Nat)) ∧ (i < k → y ≠ x) ∧ (i = k → y = x) := fun i hi => by
    cases ao with
    | none => have := (h0 rfl).1; omega
    | some ad =>
      obtain ⟨⟨b, o, rfl⟩, hcs⟩ := h1 ad rfl
      have := hcs i _ (natV_get l i (by omega))
      rw [Addr.add_lit] at this
      refine ⟨b, o, l.getD i 0, rfl, this, fun hik e => ?_, fun e => by rw [e]; exact hx⟩
      have := List.pairwise_iff_getElem.1 hr i k (by omega) (by omega) hik
      rw [List.getD_eq_getElem?_getD, List.getElem?_eq_getElem (by omega)] at e hx
      simp at e hx
      omega
  have Hcell := Lib.hid hcell
  have hkn := hk
  clear hcell h0 h1 h hx hn hr
  go_enter Tryz.func42, Tryz.ntmps42
  go_upto_region 2 with (fail)
  go_loop [5] (fun iv => ∃ i : Nat, i ≤ k ∧ iv = .int .i64 i) (fun iv => n - (intOf iv).toNat)
  case atStart => exact ⟨0, Nat.zero_le _, rfl⟩
  case round =>
    obtain ⟨i, hi, rfl⟩ := hrel
    obtain ⟨b, o, y, rfl, hcy, hne, heq⟩ := Hcell.out i hi
    have e1 : (i : Int) < (n : Nat) := by omega
    have e2 : (0 : Int) ≤ (i : Nat) := by omega
    by_cases hlt : i < k
    · have e3 : ((y : Int) == (x : Nat)) = false := by have := hne hlt; simp; omega
      clear hne heq
      go_wp2
      go_round
      case rel => exact ⟨i + 1, by omega, by go_num⟩
      case measure => simp [intOf]; omega
    · obtain rfl : i = k := by omega
      have e3 := heq rfl
      subst e3
      clear hne heq
      go_wp2
      go_ret
      exact ⟨rfl, rfl⟩
end Go.Proofs.YtccidllcjaaeeabGreatDoor
