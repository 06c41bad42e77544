/- The walks of the calls Seal and Open (package epoch) and of the reference's mixed, sum, Seal and Open: both sides compute what the plain law tells. Conditions: the key has eight bytes, the texts at most 65540. -/
import Derived.Test.YtccidllcjaaeeaaSeal
import Derived.Lib.ConvBytes
namespace Go.Proofs.Ytccidllcjaaeeaa
open Go.RowKit
set_option maxHeartbeats 1000000 in
theorem epochSeal_any (w : World) (k : List UInt8) (p1 p2 : Option Addr) (c1 c2 n1 n2 : Nat) (head l : List UInt8) (hn1 : head.length = n1) (hn2 : l.length = n2) (hk : k.length = 8)
    (hl1 : n1 ≤ 9223372036854775807) (hr1 : Rd w p1 head) (hp : p2 = none → c2 = 0 ∧ l = []) (hs : p2 ≠ none → ∃ b o, p2 = some ⟨b, o, none⟩) (hl2 : n2 ≤ 65540) (hr2 : Rd w p2 l) :
    Calls Try.prog 11 #[.agg (cells k), .slice p1 n1 c1, .slice p2 n2 c2] w fun e w' =>
      ∃ r, e = .returned r ∧ w'.ownsRow w.heap.size 5 1 r (n2 + 4) (cells (sealL k head l)).toList ∧ Below w.heap.size w w' := by
  subst hn1 hn2
  have Hk := Lib.hid hk
  clear hk
  go_enter Try.func11, Try.ntmps11
  go_upto_region 2 with (fail)
  generalize hW : World.alloc (World.alloc _ _) _ = W
  have hS : W.heap[w.heap.size]? = some (.cells (cells k) 26 (0, 0)) := by rw [← hW]; exact heap_alloc2_old w _ _
  have hD : W.heap[w.heap.size + 1]? = some (.cells #[.int .i64 0] 48 (0, 0)) := by rw [← hW]; exact heap_alloc2_new w _ _
  have hWb : Below w.heap.size w W := by rw [← hW]; exact balloc (balloc (Below.refl _ _) _) _
  have hWs : W.heap.size = w.heap.size + 2 := by rw [← hW]; simp
  have HS := Lib.hid hS
  have HD := Lib.hid hD
  have HWs := Lib.hid hWs
  clear hS hD hWs hW
  go_wp2_with (first | (refine wpList_load_row rfl 26 _ rfl w.heap.size rfl _ _ _ _ HS.out Try.underlying26 rfl (by rw [infoSecret, cells_size, Hk.out]) ?_))
  refine (seal_any (w.heap.size + 1) 0 0 W k p1 p2 c1 c2 head l Hk.out (by rw [cell_of_row _ _ _ _ _ _ HD.out]; rfl) (frozen_of_row _ _ _ _ _ HD.out) (by decide) (by decide) hl1 (hr1.below hWb) hp hs hl2 (hr2.below hWb)).mono ?_
  rintro e w1 ⟨r, rfl, hro, hb1⟩
  go_wp2_with fail
  go_ret
  refine ⟨r, rfl, ownsRow_mono hro (by rw [HWs.out]; omega), (hWb.setCell (by simp) _).trans (hb1.mono (by rw [HWs.out]; omega))⟩

set_option maxHeartbeats 1000000 in
theorem epochOpen_any (w : World) (k : List UInt8) (p1 p3 : Option Addr) (c1 c3 n1 n3 : Nat) (head s : List UInt8) (hn1 : head.length = n1) (hn3 : s.length = n3) (hk : k.length = 8)
    (hl1 : n1 ≤ 9223372036854775807) (hr1 : Rd w p1 head) (hl3 : n3 ≤ 65540) (hc3 : n3 ≤ c3) (hr3 : Rd w p3 s) :
    Calls Try.prog 13 #[.agg (cells k), .slice p1 n1 c1, .slice p3 n3 c3] w fun e w' =>
      Either (opensB k head s) (∃ r, e = .returned (.tuple #[r, .bool true]) ∧ w'.ownsRow w.heap.size 5 1 r (n3 - 4) (cells (openT k s)).toList ∧ Below w.heap.size w w')
      (e = .returned (.tuple #[.slice none 0 0, .bool false]) ∧ Below w.heap.size w w') := by
  subst hn1 hn3
  have Hk := Lib.hid hk
  clear hk
  go_enter Try.func13, Try.ntmps13
  go_upto_region 2 with (fail)
  generalize hW : World.alloc (World.alloc _ _) _ = W
  have hS : W.heap[w.heap.size]? = some (.cells (cells k) 26 (0, 0)) := by rw [← hW]; exact heap_alloc2_old w _ _
  have hD : W.heap[w.heap.size + 1]? = some (.cells #[.int .i64 0] 48 (0, 0)) := by rw [← hW]; exact heap_alloc2_new w _ _
  have hWb : Below w.heap.size w W := by rw [← hW]; exact balloc (balloc (Below.refl _ _) _) _
  have hWs : W.heap.size = w.heap.size + 2 := by rw [← hW]; simp
  have HS := Lib.hid hS
  have HD := Lib.hid hD
  have HWs := Lib.hid hWs
  clear hS hD hWs hW
  go_wp2_with (first | (refine wpList_load_row rfl 26 _ rfl w.heap.size rfl _ _ _ _ HS.out Try.underlying26 rfl (by rw [infoSecret, cells_size, Hk.out]) ?_))
  by_cases h4 : s.length < 4
  · have hop : opensB k head s = false := by rw [opensB]; simp; omega
    refine (open_short (w.heap.size + 1) 0 W k p1 p3 c1 head.length c3 s.length h4).mono ?_
    rintro e w1 ⟨rfl, hb1⟩
    have Hop := Lib.hid hop
    clear hop
    go_wp2_with fail
    go_ret2
    rw [Hop.out]
    exact ⟨rfl, hWb.trans (hb1.mono (by rw [HWs.out]; omega))⟩
  · obtain ⟨b, o, rfl, _⟩ := hr3 (by omega)
    refine (open_any (w.heap.size + 1) 0 0 W k p1 b o c1 c3 head s Hk.out (by rw [cell_of_row _ _ _ _ _ _ HD.out]; rfl) (frozen_of_row _ _ _ _ _ HD.out) (by decide) (by decide) hl1 (hr1.below hWb) hl3 (by omega) hc3 (hr3.below hWb)).mono ?_
    intro e w1 hE
    have base : ∀ (x : Value) (w' : World), Below W.heap.size (W.setCell ⟨w.heap.size + 1, 0, none⟩ x) w' → Below w.heap.size w w' := fun x w' h => (hWb.setCell (by simp) _).trans (h.mono (by rw [HWs.out]; omega))
    cases hop : opensB k head s with
    | true =>
      have Hop := Lib.hid hop
      rw [hop] at hE
      clear hop
      obtain ⟨r, rfl, hro, hb1⟩ := hE
      have Hro := Lib.hid hro
      clear hro
      go_wp2_with fail
      go_ret2
      rw [Hop.out]
      exact ⟨r, rfl, ownsRow_mono Hro.out (by rw [HWs.out]; omega), base _ _ hb1⟩
    | false =>
      have Hop := Lib.hid hop
      rw [hop] at hE
      clear hop
      obtain ⟨rfl, hb1⟩ := hE
      go_wp2_with fail
      go_ret2
      rw [Hop.out]
      exact ⟨rfl, base _ _ hb1⟩

/-- A block that begins with these bytes, none of which is frozen. -/
def BufAt (w : World) (B : Nat) (L : List UInt8) : Prop :=
  ∃ cs lo hi, w.heap[B]? = some (.cells cs 5 (lo, hi)) ∧ cs.size ≤ lo ∧ L.length ≤ cs.size ∧ ∀ j, j < L.length → cs[j]? = some (.int .u8 (L.getD j 0).toNat)
theorem BufAt.cell {w : World} {B : Nat} {L : List UInt8} (h : BufAt w B L) (j : Nat) (hj : j < L.length) : w.cell? ⟨B, j, none⟩ = some (.int .u8 (L.getD j 0).toNat) := by
  obtain ⟨cs, lo, hi, h1, _, _, h4⟩ := h
  rw [cell_of_row _ _ _ _ _ _ h1]
  exact h4 j hj
theorem BufAt.frozen {w : World} {B : Nat} {L : List UInt8} (h : BufAt w B L) (j : Nat) (hj : j < L.length) : w.frozen? ⟨B, j, none⟩ = false := by
  obtain ⟨cs, lo, hi, h1, h2, h3, _⟩ := h
  simp [World.frozen?, h1]
  omega
theorem BufAt.rd {w : World} {B : Nat} {L : List UInt8} (h : BufAt w B L) : Rd w (some ⟨B, 0, none⟩) L :=
  fun _ => ⟨B, 0, rfl, fun j hj => by rw [Nat.zero_add]; exact h.cell j hj⟩
theorem BufAt.keep {w w' : World} {B : Nat} {L : List UInt8} (h : BufAt w B L) (hb : w'.heap[B]? = w.heap[B]?) : BufAt w' B L := by
  obtain ⟨cs, lo, hi, h1, h2⟩ := h
  exact ⟨cs, lo, hi, hb.trans h1, h2⟩
theorem BufAt.set {w : World} {B : Nat} {L : List UInt8} (h : BufAt w B L) (i : Nat) (b : UInt8) (hi : i < L.length) : BufAt (w.setCell ⟨B, i, none⟩ (.int .u8 b.toNat)) B (L.set i b) := by
  obtain ⟨cs, lo, hi', h1, h2, h3, h4⟩ := h
  refine ⟨cs.setIfInBounds i (.int .u8 b.toNat), lo, hi', ?_, by simpa using h2, by simpa using h3, ?_⟩
  · rw [setCell_eq_setRow w B i cs _ _ _ h1]
    exact setRow_heap _ _ _ _ _ _ h1
  · intro j hj
    rw [List.length_set] at hj
    rw [Array.getElem?_setIfInBounds, List.getD_eq_getElem?_getD, List.getElem?_set]
    by_cases e : i = j
    · subst e
      rw [if_pos rfl, if_pos rfl, if_pos (by omega), if_pos hj]; rfl
    · rw [if_neg e, if_neg e, ← List.getD_eq_getElem?_getD]
      exact h4 j hj
theorem bytes_below (w : World) (s : ByteArray) : Below w.heap.size w (Lib.bytesWorld w 5 s) :=
  ⟨rfl, rfl, rfl, by rw [Lib.bytesWorld_size]; omega, fun k hk => Lib.bytesWorld_at_old w _ s k hk⟩
theorem bytes_buf (w : World) (s : ByteArray) : BufAt (Lib.bytesWorld w 5 s) w.heap.size s.data.toList := by
  refine ⟨_, _, _, Lib.bytesWorld_at_new w _ s, Nat.le_refl _, by simp [Lib.bytesCells], fun j hj => ?_⟩
  have := Lib.bytesWorld_cell w 5 s j (by simpa using hj)
  rwa [cell_of_row _ _ _ _ _ _ (Lib.bytesWorld_at_new w _ s)] at this
theorem conv_bytes (w : World) (s : ByteArray) : (convert 9 30 (.string s)).run Try.prog w = .ok (.slice (some ⟨w.heap.size, 0, none⟩) s.size (grownCap w s.size 0 5)) (Lib.bytesWorld w 5 s) :=
  Lib.run_convert_string_bytes w 9 30 5 s Try.underlying9 Try.underlying30 Try.underlying5

set_option maxHeartbeats 1000000 in
theorem mixed_any (w : World) (k : List UInt8) (s : ByteArray) (hk : k.length = 8) (hl : s.size ≤ 65540) :
    Calls Try.prog 21 #[.agg (cells k), .string s] w fun e w' =>
      e = .returned (.string ⟨(mixL k s.data.toList).toArray⟩) ∧ Below w.heap.size w w' := by
  have Hk := Lib.hid hk
  clear hk
  go_enter Try.func21, Try.ntmps21
  go_upto_region 1 with (fail)
  generalize hW : World.alloc _ _ = W
  have hS : W.heap[w.heap.size]? = some (.cells (cells k) 26 (0, 0)) := by rw [← hW]; exact heap_alloc_new w _
  have hWb : Below w.heap.size w W := by rw [← hW]; exact balloc (Below.refl _ _) _
  have hWs : W.heap.size = w.heap.size + 1 := by rw [← hW]; simp
  clear hW
  have hconv := conv_bytes W s
  have hbb := bytes_below W s
  have hbuf := bytes_buf W s
  have hsz := Lib.bytesWorld_size W 5 s
  generalize Lib.bytesWorld W 5 s = W2 at *
  generalize grownCap W s.size 0 5 = cap at *
  have hk2 : W2.heap[w.heap.size]? = some (.cells (cells k) 26 (0, 0)) := by rw [hbb.block _ (by omega)]; exact hS
  have hW2 : Below w.heap.size w W2 := bnext hWb hbb
  have Hk2 := Lib.hid hk2
  have Hbuf := Lib.hid hbuf
  have Hsz := Lib.hid hsz
  have HWs := Lib.hid hWs
  clear hk2 hbuf hsz hS hWs
  have hlen : s.data.toList.length = s.size := by simp
  generalize hL : s.data.toList = L at *
  have HL := Lib.hid hL
  have Hlen := Lib.hid hlen
  clear hL hlen
  go_wp2
  generalize hN : s.size = N at *
  have HN := Lib.hid hN
  clear hN
  clear hconv
  have hlt0 : W.heap.size < W2.heap.size := by rw [Hsz.out]; omega
  go_loopw [6, 7] (fun i _ wr => ∃ j : Nat, j ≤ N ∧ i = .int .i64 j ∧ BufAt wr W.heap.size (mixP k j L) ∧ Below w.heap.size w wr ∧ wr.heap[w.heap.size]? = some (.cells (cells k) 26 (0, 0)) ∧ W.heap.size < wr.heap.size) (fun i _ _ => N - (intOf i).toNat)
  case atStart => exact ⟨0, Nat.zero_le _, rfl, Hbuf.out, hW2, Hk2.out, hlt0⟩
  case round =>
    obtain ⟨j, hj, rfl, hbuf, hrb, hrk, hrs⟩ := hrel
    have Hbf := Lib.hid hbuf
    have Hrk := Lib.hid hrk
    clear hbuf hrk
    have hml : (mixP k j L).length = N := by rw [mixP_length, Hlen.out]
    have Hml := Lib.hid hml
    clear hml
    by_cases hlt : j < N
    · go_wp2_with (first | (refine wpList_load_row rfl 26 _ rfl w.heap.size rfl _ _ _ _ Hrk.out Try.underlying26 rfl (by rw [infoSecret, cells_size, Hk.out]) ?_))
      refine (refDerive_any _ k _ _ Hk.out (by decide)).mono ?_
      rintro e w3 ⟨rfl, hb3⟩
      rw [lStream_eq]
      have hdv : ((j : Int) / 8) = ((j / 8 : Nat) : Int) := by omega
      have hbuf3 : BufAt w3 W.heap.size (mixP k j L) := Hbf.out.keep (hb3.block _ hrs)
      have hk3 : w3.heap[w.heap.size]? = some (.cells (cells k) 26 (0, 0)) := by rw [hb3.block _ (by rw [HWs.out] at hrs; omega)]; exact Hrk.out
      have hs3 : W.heap.size < w3.heap.size := Nat.lt_of_lt_of_le hrs hb3.size
      rw [hdv]
      generalize hq : kd k lStream ((j / 8 : Nat) : Int) = q
      have hql : q.length = 8 := by rw [← hq]; exact kd_length _ _ _
      have Hq := Lib.hid hq
      have Hql := Lib.hid hql
      have Hb3 := Lib.hid hbuf3
      have Hk3 := Lib.hid hk3
      clear hq hql hbuf3 hk3 hdv
      go_wp2_with (first | (refine wpList_store_row rfl 26 _ _ rfl _ _ rfl rfl _ _ (heap_alloc_new _ _) (by rw [infoSecret, cells_size, Hql.out]) (by rw [cells_size, Hql.out]; rfl) (cells_one _) ?_; rw [World.setRow_alloc_new]))
      have hcb : (w3.alloc (.cells (cells q) 26)).cell? ⟨W.heap.size, j, none⟩ = some (.int .u8 (L.getD j 0).toNat) := by
        rw [World.cell?_alloc_past _ _ _ hs3, Hb3.out.cell j (by rw [Hml.out]; exact hlt), mixP_at _ _ _ (by rw [Hlen.out]; exact hlt)]
      have hcs : (w3.alloc (.cells (cells q) 26)).cell? ⟨w3.heap.size, j % 8, none⟩ = some (.int .u8 (q.getD (j % 8) 0).toNat) := row_cell (heap_alloc_new _ _) _ (by rw [Hql.out]; omega)
      have hfb : (w3.alloc (.cells (cells q) 26)).frozen? ⟨W.heap.size, j, none⟩ = false := by
        rw [World.frozen?_alloc_old _ _ _ (by simp; omega)]
        exact Hb3.out.frozen j (by rw [Hml.out]; exact hlt)
      have htm : ((j : Int)).tmod 8 = ((j % 8 : Nat) : Int) := by rw [Int.tmod_eq_emod_of_nonneg (by omega)]; omega
      have hst : strm k j = q.getD (j % 8) 0 := by rw [strm, Hq.out]
      have hj8 : j % 8 < 8 := by omega
      generalize hr : j % 8 = r at *
      have Hst := Lib.hid hst
      clear hr hst
      have hr8 : (r : Int) < 8 := by omega
      go_region
      all_goals
        clear htm
        go_wp2
        go_roundw
        case rel =>
          refine ⟨j + 1, by omega, by go_num, ?_, ?_, ?_, ?_⟩
          · have hb := Hb3.out.set j ((L.getD j 0) ^^^ strm k j) (by rw [Hml.out]; exact hlt)
            rw [← u8_xor8, Hst.out] at hb
            rw [mixP, Hst.out]
            exact hb.keep (Below.heap_alloc _ _ _ (by rw [size_setCell]; exact hs3))
          · exact (balloc (bnext hrb hb3 |>.setCell (p := ⟨W.heap.size, j, none⟩) (by show w.heap.size ≤ W.heap.size; rw [HWs.out]; omega) _) _).drew
          · rw [heap_drew, Below.heap_alloc _ _ _ (by rw [size_setCell]; rw [HWs.out] at hs3; omega), heap_setCell_other _ _ _ _ (by rw [HWs.out]; simp)]; exact Hk3.out
          · simp; omega
        case measure => simp [intOf]; omega
    · obtain rfl : j = N := by omega
      clear hlt
      have hcs := conv_str wr (some ⟨W.heap.size, 0, none⟩) cap (mixP k j L) Hbf.out.rd
      rw [Hml.out] at hcs
      go_wp2
      go_ret
      refine ⟨?_, hrb⟩
      rw [HL.out, mixL, Hlen.out]
      rfl
end Go.Proofs.Ytccidllcjaaeeaa