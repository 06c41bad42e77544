/- The walks of Split's closure, of slices.IndexFunc, Reverse and Grow at the parts. Conditions: the slice reads as the parts, each secret has eight bytes; the member's variable holds the member. -/
import Derived.Test.YtccidllcjaaeeaaParts
import Derived.Laws.AppendOwnNone
namespace Go.Proofs.Ytccidllcjaaeeaa
open Go.RowKit
open Go.Shelf Go.Lib Go.Sort
theorem clos_any (w : World) (p : TPart) (hk : p.s.length = 8) (M m : Nat) (hm : w.cell? ⟨M, 0, none⟩ = some (.int .i64 m)) :
    Calls Try.prog 36 #[.agg (pcells p), .pointer (some ⟨M, 0, none⟩)] w fun e w' => e = .returned (.bool (hasB p m)) ∧ Below w.heap.size w w' := by
  have hM : M < w.heap.size := block_lt_of_cell hm
  obtain ⟨a0, a1, a2, a3, a4, a5, a6, a7, hk8⟩ := eight hk
  have Hk8 := Lib.hid hk8
  clear hk8
  go_enter Try.func36, Try.ntmps36
  go_upto_region 1 with (fail)
  generalize hW : World.alloc _ _ = W
  have hWp : W.heap[w.heap.size]? = some (.cells (pcells p) 59 (0, 0)) := by rw [← hW]; exact heap_alloc_new _ _
  have hWb : Below w.heap.size w W := by rw [← hW]; exact balloc (Below.refl _ _) _
  have Q0 : W.cell? ⟨M, 0, none⟩ = some (.int .i64 m) := by rw [hWb.cell hM]; exact hm
  clear hW
  obtain ⟨e0, e1, _⟩ := ten_cells Hk8.out hWp
  have He0 := Lib.hid e0
  have He1 := Lib.hid e1
  clear hWp e0 e1
  go_wp2_with (first | (go_at_call 37; refine (has_any _ w.heap.size 0 p.a p.b m He0.out He1.out).mono ?_; rintro e w1 ⟨rfl, rfl⟩))
  go_ret
  exact ⟨by simp [hasB], hWb⟩
theorem enters_clos : ∀ args w, (callFunc 36 args).run Try.prog w = .ok (.enter 36 args) w := enters_of Try.func36 (by kernel_rfl) rfl
theorem idx_any (w : World) (M m : Nat) (l : List TPart) (sv : Value) (hl : l.length ≤ 16) (ht : SliceR w sv l.length (lcells l)) (hm : w.cell? ⟨M, 0, none⟩ = some (.int .i64 m)) :
    Calls Try.prog 35 #[sv, .func (.func 36) #[] #[.pointer (some ⟨M, 0, none⟩)]] w fun e w' =>
      e = .returned (.int .i64 (Lib.idxBy (fun _ y => hasB y m) l default)) ∧ Below w.heap.size w w' := by
  have hM : M < w.heap.size := block_lt_of_cell hm
  have hp : PredBelow Try.prog 36 #[.pointer (some ⟨M, 0, none⟩)] (fun x => .agg (encP x).toArray) (fun x => hasB x m) w := fun W x hb => by
    have h8 : ((x.s ++ [0, 0, 0, 0, 0, 0, 0, 0]).take 8).length = 8 := by simp
    have h := clos_any W ⟨x.a, x.b, (x.s ++ [0, 0, 0, 0, 0, 0, 0, 0]).take 8⟩ h8 M m ((hb.cell (p := ⟨M, 0, none⟩) hM).trans hm)
    have he : (encP x).toArray = pcells ⟨x.a, x.b, (x.s ++ [0, 0, 0, 0, 0, 0, 0, 0]).take 8⟩ := by rw [encP, Array.toArray_toList]
    show Calls _ _ #[.agg (encP x).toArray, .pointer (some ⟨M, 0, none⟩)] _ _
    rw [he]
    exact h.mono fun e w' ⟨he, hw⟩ => ⟨he, hb.trans (hw.mono hb.size)⟩
  rcases ht with ⟨rfl, h0, _⟩ | ⟨b, o, cap, rfl, h1, h2, h3, h4⟩
  · obtain rfl : l = [] := List.eq_nil_of_length_eq_zero h0
    go_enter Try.func35, Try.ntmps35
    go_wp2
    refine wp_loop_rounds 1 ?_
    rw [rounds_succ]
    go_wp2
    go_ret
    exact ⟨rfl, Below.refl _ _⟩
  · have h := AnyQ.slices_IndexFunc Try.layIdx 10 Try.isAgg59 Try.sizeOf59 encP encP_len (fun x => hasB x m) 36 #[.pointer (some ⟨M, 0, none⟩)] enters_clos b o l.length cap l w hp (Nat.le_refl _) (by omega) h3
      (fun j hj i v hi => by
        have hi10 : i < 10 := by rw [← encP_len l[j]!]; exact (List.getElem?_eq_some_iff.1 hi).1
        rw [Nat.add_assoc]
        exact h4 (j * 10 + i) v (by rw [lcells_get l j i hj hi10]; exact hi))
    rw [List.take_length] at h
    exact h
theorem rev_any (w : World) (base : Nat) (l : List TPart) (sv : Value) (hown : w.ownsRow base 59 10 sv l.length (lcells l)) (hl : l.length ≤ 1000) :
    Calls Try.prog 39 #[sv] w fun e w' =>
      e = .returned (.tuple #[]) ∧ w'.ownsRow base 59 10 sv l.length (lcells l.reverse) ∧ w.grownBy w' sv.ownBlock := by
  have hown' := hown
  obtain ⟨_, h2⟩ := hown
  rcases h2 with ⟨rfl, h0⟩ | ⟨g, cap, cur, rfl, h2, h3, h4, h5, h6, h7⟩
  · obtain rfl : l = [] := List.eq_nil_of_length_eq_zero h0
    refine (AnyQ.slices_Reverse_empty Try.layRev none 0 w).mono fun e w' ⟨he, hw⟩ => ⟨he, ?_, ?_⟩
    · rw [hw]; exact hown'
    · rw [hw]; exact ⟨rfl, rfl, rfl, Nat.le_refl _, fun _ _ _ => rfl⟩
  · have h := AnyQ.slices_Reverse Try.layRev 10 Try.isAgg59 Try.sizeOf59 encP encP_len encP_one g 0 cap l.toArray w (holdsK_own h3 h7) (by simp; omega)
    rw [List.size_toArray] at h
    refine h.mono fun e w' ⟨he, q, hw⟩ => ⟨he, ?_, ?_⟩
    · rw [hw, List.reverse_toArray]; exact ownsRow_putRowK (by simp) h2 h3 h4 h5 h6
    · rw [hw]; exact grownBy_putRowK _
theorem infoPartI : (Try.prog.info? 59).map (fun i => (i.zero, i.size, i.bytes)) = some (some (.agg (pcells pZero)), 10, 24) := by kernel_rfl
theorem grow_any (w : World) (n : Nat) (hn : n ≤ 1000) :
    Calls Try.prog 46 #[.slice none 0 0, .int .i64 n] w fun e w' =>
      ∃ v, e = .returned v ∧ w'.ownsRow w.heap.size 59 10 v 0 [] ∧ Below w.heap.size w w' := by
  by_cases h0 : n = 0
  · subst h0
    exact (Any8.slices_Grow_room Try.layGrow none 0 0 0 w (by omega) (by omega) (by omega) (by omega)).mono fun e w' ⟨he, hw⟩ => ⟨_, he, World.ownsRow_nil _ _ _ _, hw ▸ Below.refl _ _⟩
  · obtain ⟨i0, hi, hz0, hz1, hz2⟩ := info_parts infoPartI
    have h := Any8.slices_Grow_grow Try.layGrow i0 _ hi hz0 (by omega) none 0 0 n [] w (by omega) (by omega) (by rw [hz2]; omega) (by omega) (by simp) (fun _ => rfl) (fun a ha => by cases ha)
    refine h.mono fun e w' ⟨he, hw⟩ => ⟨_, he, ?_, ?_⟩
    · rw [hw]
      refine ⟨rfl, .inr ⟨_, _, _, rfl, Nat.le_refl _, heap_alloc_new w.drew _, Nat.zero_le _, grownCap_le_maxLen _ _ _ _ (by unfold maxLen; omega), ?_, rfl⟩⟩
      have hge := grownCap_ge w (0 + n) 0 59
      have hp : (Value.agg (pcells pZero)).cells.size = 10 := rfl
      simp only [Array.size_append, size_zeroCells, hp, List.size_toArray, List.length_nil]
      show _ = grownCap w (0 + n) 0 59 * 10
      have : (Try.layGrow_ren.t 25) = 59 := rfl
      rw [this]
      omega
    · rw [hw]; exact ⟨rfl, rfl, rfl, by simp, fun k hk => Below.heap_alloc w.drew _ k hk⟩
theorem SliceR.form {w : World} {sv : Value} {n : Nat} {xs : List Value} (h : SliceR w sv n xs) : ∃ a cap, sv = .slice a n cap := by
  rcases h with ⟨rfl, rfl, _⟩ | ⟨b, o, cap, rfl, _⟩
  · exact ⟨_, _, rfl⟩
  · exact ⟨_, _, rfl⟩
def flatP (l : List (Value × List TPart)) : List TPart := l.flatMap (·.2)
def sumLen : List (Value × List TPart) → Nat
  | [] => 0
  | p :: l => p.2.length + sumLen l
theorem sumLen_eq (l : List (Value × List TPart)) : sumLen l = (flatP l).length := by
  induction l with
  | nil => rfl
  | cons p l ih => simp [sumLen, ih, flatP]
theorem flat_take (l : List (Value × List TPart)) (k : Nat) (h : k < l.length) : flatP (l.take (k + 1)) = flatP (l.take k) ++ l[k].2 := by
  unfold flatP
  rw [List.take_succ_eq_append_getElem h, List.flatMap_append]
  simp
theorem sum_take (l : List (Value × List TPart)) (k : Nat) (h : k < l.length) : sumLen (l.take (k + 1)) = sumLen (l.take k) + l[k].2.length := by
  rw [sumLen_eq, sumLen_eq, flat_take l k h, List.length_append]
theorem sum_le (l : List (Value × List TPart)) (k : Nat) : sumLen (l.take k) ≤ sumLen l := by
  induction l generalizing k with
  | nil => simp
  | cons p l ih =>
    cases k with
    | zero => simp [sumLen]
    | succ k => have := ih k; simp only [List.take_succ_cons, sumLen]; omega
set_option maxRecDepth 100000 in
set_option maxHeartbeats 1000000 in
theorem concat_any (w : World) (b : Nat) (l : List (Value × List TPart)) (h4 : l.length ≤ 4) (hs : sumLen l ≤ 1000)
    (hc : ∀ j (h : j < l.length), w.cell? ⟨b, j, none⟩ = some l[j].1) (hl : ∀ j (h : j < l.length), SliceR w l[j].1 l[j].2.length (lcells l[j].2)) :
    Calls Try.prog 40 #[.slice (some ⟨b, 0, none⟩) l.length l.length] w fun e w' =>
      ∃ v, e = .returned v ∧ w'.ownsRow w.heap.size 59 10 v (flatP l).length (lcells (flatP l)) ∧ Below w.heap.size w w' := by
  have Hc := Lib.hid hc
  have Hl := Lib.hid hl
  clear hc hl
  go_enter Try.func40, Try.ntmps40
  go_wp2
  go_loop [3, 11] (fun s i => ∃ k : Nat, k ≤ l.length ∧ i = .int .i64 k ∧ s = .int .i64 (sumLen (l.take k))) (fun _ i => l.length - (intOf i).toNat)
  case atStart => exact ⟨0, Nat.zero_le _, rfl, rfl⟩
  case round =>
    obtain ⟨k, hk, rfl, rfl⟩ := hrel
    have hle := sum_le l k
    by_cases hlt : k < l.length
    · have hst := sum_take l k hlt
      have hle' := sum_le l (k + 1)
      have hcell := Hc.out k hlt
      obtain ⟨a, cap, hform⟩ := (Hl.out k hlt).form
      rw [hform] at hcell
      have Hst := Lib.hid hst
      have Hform := Lib.hid hform
      rw [hst] at hle'
      clear hst hform
      generalize hq : (l[k].2).length = q at *
      clear hq
      generalize hp : sumLen (l.take k) = p at *
      clear hp
      go_wp2
      all_goals go_round
      case rel => exact ⟨k + 1, by omega, by go_num, by rw [Hst.out]; go_num⟩
      case measure => simp [intOf]; omega
    · obtain rfl : k = l.length := by omega
      rw [List.take_length]
      generalize hp : sumLen l = p at *
      have Hp := Lib.hid hp
      clear hp
      go_wp2_with (first | (go_at_call 46; refine (grow_any _ p hs).mono ?_; rintro e w1 ⟨v, rfl, hown, hb⟩))
      clear hk hlt hle
      obtain ⟨i0, hi, hz0, hz1, hz2⟩ := info_parts infoPartI
      go_loopw [6, 27] (fun v i wr => ∃ k : Nat, k ≤ l.length ∧ i = .int .i64 k ∧ wr.ownsRow w.heap.size 59 10 v (flatP (l.take k)).length (lcells (flatP (l.take k))) ∧ Below w.heap.size w wr) (fun _ i _ => l.length - (intOf i).toNat)
      case atStart => exact ⟨0, Nat.zero_le _, rfl, hown, hb⟩
      case round =>
        clear hown hb
        obtain ⟨k, hk, rfl, hown, hb⟩ := hrel
        by_cases hlt : k < l.length
        · have hcell := Hc.out k hlt
          have hbl := block_lt_of_cell hcell
          rw [← hb.cell hbl] at hcell
          have Hft := Lib.hid (flat_take l k hlt)
          have hle' := sum_le l (k + 1)
          rw [Hp.out, sumLen_eq, Hft.out, List.length_append] at hle'
          have hsl := (Hl.out k hlt).below hb
          rcases hsl with ⟨hform, h0, hx⟩ | ⟨b2, o2, cap2, hform, h1, h2, h3, h5⟩
          · rw [hform] at hcell
            have hnil : l[k].2 = [] := List.eq_nil_of_length_eq_zero h0
            rw [hnil, List.append_nil] at Hft
            clear hle' h0 hx hform hnil
            generalize flatP (l.take k) = L at *
            go_wp2_with (first | (at_builtin; go_must (refine wpList_append_own_none rfl _ _ 56 rfl w.heap.size 59 i0 10 Try.underlying56 hi _ _ _ rfl hown rfl ?_)))
            go_roundw
            case rel => exact ⟨k + 1, by omega, by go_num, by rw [Hft.out]; exact hown, hb⟩
            case measure => simp [intOf]; omega
          · rw [hform] at hcell
            have Hform := Lib.hid hform
            clear hform
            generalize hn : l[k].2.length = n at *
            generalize flatP (l.take k) = L at *
            have hlen : (lcells l[k].2).length = n * 10 := by rw [lcells_length, hn]
            have Hlen := Lib.hid hlen
            have Hn := Lib.hid hn
            clear hlen hn
            go_wp2_with (first | (at_builtin; refine wpList_append_own _ rfl _ _ 56 rfl w.heap.size 59 i0 (.agg (pcells pZero)) 10 24 Try.underlying56 hi hz0 hz1 hz2 rfl (by decide) _ _ _ rfl hown ⟨b2, o2, none⟩ n cap2 (lcells l[k].2) rfl Hlen.out (fun j u hj => (by rw [Addr.add_mid]; exact h5 j u hj)) (lcells_one _) (by unfold maxLen; omega) (by omega) hb.size ?_; intro v' w2 hown' hgrow _))
            go_roundw
            case rel =>
              refine ⟨k + 1, by omega, by go_num, ?_, hb.grown hgrow hb.size (fun j hj => (hown.lt j hj).1)⟩
              rw [Hft.out, lcells_append, List.length_append, Hn.out]
              exact hown'
            case measure => simp [intOf]; omega
        · obtain rfl : k = l.length := by omega
          rw [List.take_length] at hown
          go_wp2
          go_ret
          exact ⟨_, rfl, hown, hb⟩
end Go.Proofs.Ytccidllcjaaeeaa
