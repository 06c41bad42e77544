/- Several texts of this claim in one file (a claim has at most 60): GroupUnprotect, GroupUnprotect2, GroupUnprotect3, GroupClose, GroupOnce, GroupClose2, Lay3, GroupDump0. No condition of its own. -/
import Derived.Test.YtccidllcjaaeeabGreatDoorH4
import Derived.BigQuiet
import Derived.Laws.ResultCell
import Derived.Test.YtccidllcjaaeeabGreatDoorH1
import Derived.Test.YtccidllcjaaeeabGreatDoorChecked
import Derived.Shelf.SlSortCmp.NoneTotal
import Derived.Ground.SlsfProg
/- The walk of a group's unprotect. Conditions: the group lies and reads as its state; the frame reads, apart from the group. -/
namespace Go.Proofs.YtccidllcjaaeeabGreatDoor
set_option maxRecDepth 100000
open Go Go.Maps Go.RowKit
open Go.Shelf Go.Lib Go.Sort
/-- The faults that meet a frame before it is opened. -/
def unprotNo (s : GSt) (l : List UInt8) : Option Int :=
  if s.closed = true then some 9 else match l with
  | x0 :: _ => if l.length < 7 ∨ 47 < l.length ∨ s.n ≤ x0.toNat then some 3 else if x0.toNat = s.own then some 4 else none
  | [] => some 3
theorem infoMsg : (Tryz.prog.info? 94).map (·.size) = some 3 := by kernel_rfl
def msg0 : Value := .agg #[.int .i64 0, .int .i64 0, .slice none 0 0]
theorem msg_store {X : World} {M t : Nat} (h : X.heap[M]? = some (.cells #[.int .i64 0, .int .i64 0, .slice none 0 0] t (0, 0))) : ((X.setCell ⟨M, 0, none⟩ (.int .i64 0)).setCell ⟨M, 1, none⟩ (.int .i64 0)).setCell ⟨M, 2, none⟩ (.slice none 0 0) = X := by
  have e0 := setCell_self (w := X) (a := ⟨M, 0, none⟩) (u := .int .i64 0) (cell_of_row _ _ _ _ _ _ h)
  have e1 := setCell_self (w := X) (a := ⟨M, 1, none⟩) (u := .int .i64 0) (cell_of_row _ _ _ _ _ _ h)
  have e2 := setCell_self (w := X) (a := ⟨M, 2, none⟩) (u := .slice none 0 0) (cell_of_row _ _ _ _ _ _ h)
  rw [e0, e1, e2]
set_option maxHeartbeats 8000000 in
theorem unprotect_no (w : World) (lo t : Nat) (p : GPl) (s : GSt) (pt : Option Addr) (cap : Nat) (l : List UInt8) (c : Int) (hA : GroupAt w lo p s t) (hI : GInv s) (hl : l.length ≤ 9223372036854775807) (hs : pt ≠ none → ∃ b o, pt = some ⟨b, o, none⟩) (hr : Rd w pt l) (hc : unprotNo s l = some c) :
    Calls Tryz.prog 41 #[.pointer (some ⟨p.G, 0, none⟩), .slice pt l.length cap] w fun e w' => e = .returned (.tuple #[msg0, .iface 138 (.agg #[.int .i64 c])]) ∧ Below w.heap.size w w' := by
  obtain ⟨hG, _⟩ := hA
  have hGs := (Array.getElem?_eq_some_iff.1 hG).1
  have h16 := hI.n16
  have hown := hI.own
  obtain ⟨W, hW⟩ : ∃ W, W = w.alloc (.cells #[.int .i64 0, .int .i64 0, .slice none 0 0] 94) := ⟨_, rfl⟩
  have hb : Below w.heap.size w W := by rw [hW]; exact balloc (Below.refl _ _) _
  have hWG : W.heap[p.G]? = some (.cells (gcells p s) 72 (0, 0)) := (hb.block _ hGs).trans hG
  obtain ⟨_, c5, _, c7, c8, _, _, _⟩ := g_cells hWG
  have hWM : W.heap[w.heap.size]? = some (.cells #[.int .i64 0, .int .i64 0, .slice none 0 0] 94 (0, 0)) := by rw [hW]; exact heap_alloc_new _ _
  have s0 : W.cell? ⟨w.heap.size, 0, none⟩ = some (.int .i64 0) := cell_of_row _ _ _ _ _ _ hWM
  have s1 : W.cell? ⟨w.heap.size, 1, none⟩ = some (.int .i64 0) := cell_of_row _ _ _ _ _ _ hWM
  have s2 : W.cell? ⟨w.heap.size, 2, none⟩ = some (.slice none 0 0) := cell_of_row _ _ _ _ _ _ hWM
  have f0 := frozen_of_row _ _ 0 _ _ hWM
  have f1 := frozen_of_row _ _ 1 _ _ hWM
  have f2 := frozen_of_row _ _ 2 _ _ hWM
  have HW := Lib.hid hW
  have Hb := Lib.hid hb
  have HWM := Lib.hid hWM
  have HrW : Hid (Rd W pt l) := Lib.hid (hr.below hb)
  have Hs := Lib.hid hs
  unfold unprotNo at hc
  clear hG hWG hW hb hWM hr hs
  cases hcl : s.closed with
  | true =>
    rw [hcl] at c5
    rw [if_pos hcl] at hc
    cases hc
    go_enter Tryz.func41, Tryz.ntmps41
    go_upto_region 1 with (fail)
    rw [← HW.out]
    go_wp2_with fail
    rw [msg_store HWM.out]
    refine bodyPost_ret (results_ct rfl _ _ w.heap.size _ _ _ _ rfl HWM.out Tryz.underlying94 rfl (by rw [infoMsg]; rfl)) rfl ⟨rfl, Hb.out⟩
  | false =>
    rw [hcl] at c5
    rw [if_neg (by rw [hcl]; simp)] at hc
    obtain ⟨n, hn⟩ : ∃ n, n = l.length := ⟨_, rfl⟩
    rw [← hn] at hl ⊢
    have Hn := Lib.hid hn
    clear hn
    by_cases h7 : n < 7
    · have d7 : decide ((n : Int) < 7) = true := by simp; omega
      have hc3 : c = 3 := by
        cases l with
        | nil => cases hc; rfl
        | cons x0 tl =>
          have h := Hn.out
          simp only at hc
          rw [if_pos (Or.inl (by omega))] at hc
          cases hc; rfl
      subst hc3
      clear hc
      go_enter Tryz.func41, Tryz.ntmps41
      go_upto_region 1 with (fail)
      rw [← HW.out]
      go_upto_region 3 with (fail)
      go_quiet (fail)
      go_wp2_with fail
      rw [msg_store (X := W.drewN _) HWM.out]
      refine bodyPost_ret (results_ct rfl _ (W.drewN _) w.heap.size _ _ _ _ rfl HWM.out Tryz.underlying94 rfl (by rw [infoMsg]; rfl)) rfl ⟨rfl, bdrewN Hb.out _⟩
    · obtain ⟨x0, tl, rfl⟩ : ∃ x0 tl, l = x0 :: tl := by
        cases l with
        | nil => exact absurd Hn.out (by simp; omega)
        | cons x0 tl => exact ⟨x0, tl, rfl⟩
      have d7 : decide ((n : Int) < 7) = false := by simp; omega
      simp only at hc
      rw [← Hn.out] at hc
      by_cases h47 : 47 < n
      · have d47 : decide ((47 : Int) < n) = true := by simp; omega
        rw [if_pos (Or.inr (Or.inl h47))] at hc
        cases hc
        go_enter Tryz.func41, Tryz.ntmps41
        go_upto_region 1 with (fail)
        rw [← HW.out]
        go_upto_region 3 with (fail)
        go_quiet (fail)
        go_wp2_with fail
        rw [msg_store (X := W.drewN _) HWM.out]
        refine bodyPost_ret (results_ct rfl _ (W.drewN _) w.heap.size _ _ _ _ rfl HWM.out Tryz.underlying94 rfl (by rw [infoMsg]; rfl)) rfl ⟨rfl, bdrewN Hb.out _⟩
      · have d47 : decide ((47 : Int) < n) = false := by simp; omega
        have hpt : pt ≠ none := fun e => by
          obtain ⟨b, o, e2, _⟩ := HrW.out (by simp)
          rw [e] at e2; cases e2
        obtain ⟨b, o, rfl⟩ := Hs.out hpt
        have hx0 : W.cell? ⟨b, o, none⟩ = some (.int .u8 x0.toNat) := by
          obtain ⟨b', o', e2, h2⟩ := HrW.out (by simp)
          cases e2
          simpa using h2 0 (by simp)
        have hn0 : 0 < n := by omega
        obtain ⟨v0, hv0⟩ : ∃ v0, v0 = x0.toNat := ⟨_, rfl⟩
        have hv1 : v0 < 256 := by rw [hv0]; exact x0.toNat_lt
        rw [← hv0] at hc hx0
        have Hc := Lib.hid hc
        clear hc hv0
        by_cases hx : s.n ≤ v0
        · have dx : decide ((s.n : Int) ≤ (v0 : Int)) = true := by simp; omega
          have hc := Hc.out
          rw [if_pos (Or.inr (Or.inr hx))] at hc
          cases hc
          clear Hc
          go_enter Tryz.func41, Tryz.ntmps41
          go_upto_region 1 with (fail)
          rw [← HW.out]
          go_upto_region 3 with (fail)
          go_quiet (fail)
          go_wp2_with fail
          rw [msg_store (X := W.drewN _) HWM.out]
          refine bodyPost_ret (results_ct rfl _ (W.drewN _) w.heap.size _ _ _ _ rfl HWM.out Tryz.underlying94 rfl (by rw [infoMsg]; rfl)) rfl ⟨rfl, bdrewN Hb.out _⟩
        · have dx : decide ((s.n : Int) ≤ (v0 : Int)) = false := by simp; omega
          have hc := Hc.out
          rw [if_neg (by omega)] at hc
          clear Hc
          by_cases ho : v0 = s.own
          · rw [if_pos ho] at hc
            cases hc
            have dxo : ((v0 : Int) == (s.own : Int)) = true := by simp; omega
            clear ho
            go_enter Tryz.func41, Tryz.ntmps41
            go_upto_region 1 with (fail)
            rw [← HW.out]
            go_upto_region 3 with (fail)
            go_quiet (fail)
            go_upto_region 5 with (fail)
            go_quiet (fail)
            go_wp2_with fail
            rw [msg_store (X := W.drewN _) HWM.out]
            refine bodyPost_ret (results_ct rfl _ (W.drewN _) w.heap.size _ _ _ _ rfl HWM.out Tryz.underlying94 rfl (by rw [infoMsg]; rfl)) rfl ⟨rfl, bdrewN Hb.out _⟩
          · rw [if_neg ho] at hc; cases hc
theorem or_byte (a b : Nat) (hb : b < 256) : a * 256 ||| b = 256 * a + b := by
  have h := Nat.two_pow_add_eq_or_of_lt (i := 8) (b := b) (by omega) a
  rw [show a * 256 = 2 ^ 8 * a by omega]
  exact h.symm
theorem or_i64 (a b : Nat) (ha : a < 256) (hb : b < 256) : bits BinOp.or IntKind.i64 ((a : Int) * 256) (b : Int) = ((256 * a + b : Nat) : Int) := by
  have e1 : BitVec.ofInt IntKind.i64.bits ((a : Int) * 256) = BitVec.ofNat 64 (a * 256) := by
    rw [show (a : Int) * 256 = ((a * 256 : Nat) : Int) by simp]; exact BitVec.ofInt_natCast _ _
  have e2 : BitVec.ofInt IntKind.i64.bits (b : Int) = BitVec.ofNat 64 b := BitVec.ofInt_natCast _ _
  show IntKind.i64.wrap ((BitVec.ofInt IntKind.i64.bits ((a : Int) * 256) ||| BitVec.ofInt IntKind.i64.bits (b : Int)).toNat : Nat) = _
  rw [e1, e2]
  have e3 : (BitVec.ofNat 64 (a * 256) ||| BitVec.ofNat 64 b).toNat = 256 * a + b := by
    rw [BitVec.toNat_or, BitVec.toNat_ofNat, BitVec.toNat_ofNat, Nat.mod_eq_of_lt (by omega), Nat.mod_eq_of_lt (by omega), or_byte a b hb]
  have e4 : ∀ x : BitVec 64, x.toNat = 256 * a + b → IntKind.i64.wrap (x.toNat : Nat) = ((256 * a + b : Nat) : Int) := fun x h => by
    rw [h]; simp [IntKind.wrap, IntKind.bits, IntKind.signed]; omega
  exact e4 _ e3
theorem msg_store3 {X : World} {M t : Nat} {a b c : Value} (h : X.heap[M]? = some (.cells #[a, b, c] t (0, 0))) : ((X.setCell ⟨M, 0, none⟩ a).setCell ⟨M, 1, none⟩ b).setCell ⟨M, 2, none⟩ c = X := by
  have e0 := setCell_self (w := X) (a := ⟨M, 0, none⟩) (u := a) (cell_of_row _ _ _ _ _ _ h)
  have e1 := setCell_self (w := X) (a := ⟨M, 1, none⟩) (u := b) (cell_of_row _ _ _ _ _ _ h)
  have e2 := setCell_self (w := X) (a := ⟨M, 2, none⟩) (u := c) (cell_of_row _ _ _ _ _ _ h)
  rw [e0, e1, e2]
theorem Rd.front3 {w : World} {b o : Nat} {x0 x1 x2 : UInt8} {sl : List UInt8} (h : Rd w (some ⟨b, o, none⟩) (x0 :: x1 :: x2 :: sl)) : Rd w (some ⟨b, o, none⟩) [x0, x1, x2] := fun _ => by
  obtain ⟨b', o', e, hc⟩ := h (by simp)
  refine ⟨b', o', e, fun j hj => ?_⟩
  have hj3 : j < 3 := hj
  have := hc j (by simp; omega)
  rw [this]
  match j, hj3 with
  | 0, _ => rfl
  | 1, _ => rfl
  | 2, _ => rfl
theorem Rd.back3 {w : World} {b o : Nat} {x0 x1 x2 : UInt8} {sl : List UInt8} (h : Rd w (some ⟨b, o, none⟩) (x0 :: x1 :: x2 :: sl)) : Rd w (some ⟨b, o + 3, none⟩) sl := fun _ => by
  obtain ⟨b', o', e, hc⟩ := h (by simp)
  cases e
  refine ⟨b, o + 3, rfl, fun j hj => ?_⟩
  have := hc (3 + j) (by simp; omega)
  rw [show o + 3 + j = o + (3 + j) by omega, this]
  simp [show 3 + j = j + 3 by omega]
theorem elem_bytes : Tryz.prog.underlying 73 = some (.slice (Tryz.prog.elem 73)) := by kernel_rfl
theorem size_byte (W : World) : (sizeOf (Tryz.prog.elem 73)).run Tryz.prog W = .ok 1 W := by kernel_rfl
theorem slice_front (W : World) (b o n cap : Nat) (h : 3 ≤ cap) : (Instr.sliceAt 73 (.slice (some ⟨b, o, none⟩) n cap) none (some (.int .i64 3)) (some (.int .i64 3))).run Tryz.prog W = .ok (.slice (some ⟨b, o, none⟩) 3 3) W := by
  rw [run_sliceAt_slice _ _ _ _ _ _ elem_bytes, run_slice_hm _ _ _ _ _ elem_bytes _ _ _ _ (by omega) (by omega) (by omega), size_byte]
  simp [Result.andThen, sliced, Addr.add]
theorem slice_back (W : World) (b o n cap : Nat) (h : 3 ≤ n) (h7 : 4 ≤ cap) : (Instr.sliceAt 73 (.slice (some ⟨b, o, none⟩) n cap) (some (.int .i64 3)) none none).run Tryz.prog W = .ok (.slice (some ⟨b, o + 3, none⟩) (n - 3) (cap - 3)) W := by
  rw [run_sliceAt_slice _ _ _ _ _ _ elem_bytes, run_slice_l _ _ _ _ _ elem_bytes _ _ (by omega) (by omega), size_byte]
  have : ¬ cap = 3 := by omega
  simp [Result.andThen, sliced, Addr.add, this]
set_option maxHeartbeats 8000000 in
theorem unprotect_go (w : World) (lo t m g1 g2 : Nat) (p : GPl) (s : GSt) (b o cap n : Nat) (x0 x1 x2 : UInt8) (sl : List UInt8) (hA : GroupAt w lo p s t) (hI : GInv s) (hc : s.closed = false) (hm0 : m = x0.toNat) (hg1 : g1 = x1.toNat) (hg2 : g2 = x2.toNat) (hm : m < s.n) (hmo : m ≠ s.own) (hn : n = sl.length + 3) (hn7 : 7 ≤ n) (hn47 : n ≤ 47) (hcap : n ≤ cap)
    (hb0 : 0 ≤ s.cnt) (hb1 : s.cnt ≤ 4611686010000000000) (ht : t < 1000000000000) (hr : Rd w (some ⟨b, o, none⟩) (x0 :: x1 :: x2 :: sl)) (hap : b < w.heap.size ∧ Apart p b) :
    Calls Tryz.prog 41 #[.pointer (some ⟨p.G, 0, none⟩), .slice (some ⟨b, o, none⟩) n cap] w fun e w' => ∃ c' : Int, s.cnt ≤ c' ∧ (c' ≤ s.cnt + 2 * depthF 16 s.n m + 15 + ((n - 7 + 7) / 8 : Nat) ∧ Tight s m (256 * g1 + g2) (n - 7) (openC s m (256 * g1 + g2) [x0, x1, x2] sl) c') ∧ OpenE (openC s m (256 * g1 + g2) [x0, x1, x2] sl)
      (∃ r, e = .returned (.tuple #[.agg #[.int .i64 m, .int .i64 ((256 * g1 + g2 : Nat) : Int), r], .nilIface]) ∧ w'.ownsRow w.heap.size 5 1 r (n - 7) (cells (openT (keyS s m (256 * g1 + g2)) sl)).toList ∧ ∃ T', GroupAt w' lo { p with T := T' } (openN s m (256 * g1 + g2) c') (t + 5) ∧ Frm w w' p ∧ TreeNew w p.T T')
      (fun c => (∃ er, e = .returned (.tuple #[msg0, er]) ∧ ErrIs w' er c) ∧ GroupAt w' lo p { s with cnt := c' } t ∧ Frm w w' p) := by
  have hA0 := Lib.hid hA
  obtain ⟨hG, _⟩ := hA
  have hGs := (Array.getElem?_eq_some_iff.1 hG).1
  have h16 := hI.n16
  have hown := hI.own
  have hv0 : m < 256 := by omega
  have hv1 : g1 < 256 := by rw [hg1]; exact x1.toNat_lt
  have hv2 : g2 < 256 := by rw [hg2]; exact x2.toNat_lt
  obtain ⟨W, hW⟩ : ∃ W, W = w.alloc (.cells #[.int .i64 0, .int .i64 0, .slice none 0 0] 94) := ⟨_, rfl⟩
  have hb : Below w.heap.size w W := by rw [hW]; exact balloc (Below.refl _ _) _
  have hWG : W.heap[p.G]? = some (.cells (gcells p s) 72 (0, 0)) := (hb.block _ hGs).trans hG
  obtain ⟨_, c5, _, c7, c8, _, _, _⟩ := g_cells hWG
  rw [hc] at c5
  have hWM : W.heap[w.heap.size]? = some (.cells #[.int .i64 0, .int .i64 0, .slice none 0 0] 94 (0, 0)) := by rw [hW]; exact heap_alloc_new _ _
  have s0 : W.cell? ⟨w.heap.size, 0, none⟩ = some (.int .i64 0) := cell_of_row _ _ _ _ _ _ hWM
  have s1 : W.cell? ⟨w.heap.size, 1, none⟩ = some (.int .i64 0) := cell_of_row _ _ _ _ _ _ hWM
  have s2 : W.cell? ⟨w.heap.size, 2, none⟩ = some (.slice none 0 0) := cell_of_row _ _ _ _ _ _ hWM
  have f0 := frozen_of_row _ _ 0 _ _ hWM
  have f1 := frozen_of_row _ _ 1 _ _ hWM
  have f2 := frozen_of_row _ _ 2 _ _ hWM
  have hrW : Rd W (some ⟨b, o, none⟩) (x0 :: x1 :: x2 :: sl) := hr.below hb
  have hcl : W.cell? ⟨b, o, none⟩ = some (.int .u8 m) ∧ W.cell? ⟨b, o + 1, none⟩ = some (.int .u8 g1) ∧ W.cell? ⟨b, o + 2, none⟩ = some (.int .u8 g2) := by
    obtain ⟨b', o', e2, h2⟩ := hrW (by simp)
    cases e2
    refine ⟨?_, ?_, ?_⟩
    · rw [hm0]; simpa using h2 0 (by simp)
    · rw [hg1]; simpa using h2 1 (by simp)
    · rw [hg2]; simpa using h2 2 (by simp)
  obtain ⟨x0c, x1c, x2c⟩ := hcl
  have d7 : decide ((n : Int) < 7) = false := by simp; omega
  have d47 : decide ((47 : Int) < n) = false := by simp; omega
  have dx : decide ((s.n : Int) ≤ (m : Int)) = false := by simp; omega
  have dxo : ((m : Int) == (s.own : Int)) = false := by simp; omega
  have hn0 : 0 < n := by omega
  have hn1 : 1 < n := by omega
  have hn2 : 2 < n := by omega
  have h3n : (3 : Int) ≤ n := by omega
  have h3c : (3 : Int) ≤ cap := by omega
  have hcn : ¬ cap = 3 := by omega
  have hsA := fun W => slice_front W b o n cap (by omega)
  have hsB := fun W => slice_back W b o n cap (by omega) (by omega)
  have HW := Lib.hid hW
  have Hb := Lib.hid hb
  have HWM := Lib.hid hWM
  have HG := Lib.hid hG
  have Hr := Lib.hid hr
  have HrW := Lib.hid hrW
  have Hap := Lib.hid hap
  have Hx := Lib.hid (And.intro hm0 (And.intro hg1 hg2))
  have Hn := Lib.hid hn
  clear hG hWG hW hb hWM hr hrW hap hm0 hg1 hg2 hn
  go_enter Tryz.func41, Tryz.ntmps41
  go_upto_region 1 with (fail)
  rw [← HW.out]
  go_upto_region 3 with (fail)
  go_quiet (fail)
  go_upto_region 5 with (fail)
  go_quiet (fail)
  go_upto_region 7 with (fail)
  generalize hX : World.drewN (World.drewN _ _) _ = X
  have hXb : Below w.heap.size w X := by rw [← hX]; exact bdrewN (bdrewN Hb.out _) _
  have hXM : X.heap[w.heap.size]? = some (.cells #[.int .i64 0, .int .i64 0, .slice none 0 0] 94 (0, 0)) := by rw [← hX]; exact HWM.out
  have hXG : X.heap[p.G]? = some (.cells (gcells p s) 72 (0, 0)) := (hXb.block _ hGs).trans HG.out
  have y0 : X.cell? ⟨b, o, none⟩ = some (.int .u8 m) := by rw [← hX]; exact x0c
  have y1 : X.cell? ⟨b, o + 1, none⟩ = some (.int .u8 g1) := by rw [← hX]; exact x1c
  have y2 : X.cell? ⟨b, o + 2, none⟩ = some (.int .u8 g2) := by rw [← hX]; exact x2c
  have t0 : X.cell? ⟨w.heap.size, 0, none⟩ = some (.int .i64 0) := cell_of_row _ _ _ _ _ _ hXM
  have t1 : X.cell? ⟨w.heap.size, 1, none⟩ = some (.int .i64 0) := cell_of_row _ _ _ _ _ _ hXM
  have e0 := frozen_of_row _ _ 0 _ _ hXM
  have e1 := frozen_of_row _ _ 1 _ _ hXM
  have HXb := Lib.hid hXb
  have HXM := Lib.hid hXM
  have HXG := Lib.hid hXG
  clear hX hXb hXM hXG x0c x1c x2c s0 s1 s2 f0 f1 f2 c5 c7 c8
  go_region
  rw [or_i64 g1 g2 hv1 hv2]
  obtain ⟨gen, hgen⟩ : ∃ gen, gen = 256 * g1 + g2 := ⟨_, rfl⟩
  rw [← hgen]
  have hgt : gen ≤ 65535 := by omega
  have Hgen := Lib.hid hgen
  clear hgen
  generalize hY : World.drew _ = Y
  have hYM : Y.heap[w.heap.size]? = some (.cells #[.int .i64 m, .int .i64 gen, .slice none 0 0] 94 (0, 0)) := by
    rw [← hY]
    show ((X.setCell _ _).setCell _ _).heap[w.heap.size]? = _
    rw [heap_setCell_same _ _ _ _ _ _ (heap_setCell_same _ _ _ _ _ _ HXM.out)]; rfl
  have hYb : Below w.heap.size w Y := by rw [← hY]; exact ((HXb.out.setCell (p := ⟨w.heap.size, 0, none⟩) (Nat.le_refl _) _).setCell (p := ⟨w.heap.size, 1, none⟩) (Nat.le_refl _) _).drew
  have hMY : w.heap.size < Y.heap.size := (Array.getElem?_eq_some_iff.1 hYM).1
  have hlt := group_lt hA0.out
  have hAM : Apart p w.heap.size := ⟨fun e => by have := (hlt p.G (.inl rfl)).2; omega, fun e => by have := (hlt p.H (.inr (.inl rfl))).2; omega, fun e => by have := (hlt p.K (.inr (.inr (.inl rfl)))).2; omega, fun e => by have := (hlt w.heap.size (.inr (.inr (.inr e)))).2; omega⟩
  have hopen := open_all Y.drew lo t m gen p s (some ⟨b, o, none⟩) b (o + 3) 3 3 (n - 3) (cap - 3) [x0, x1, x2] sl (group_below hA0.out hYb.drew) hI hc hm hgt hb0 hb1 ht rfl (by have := Hn.out; omega) (by omega) (by omega) (by omega) (by omega) ((Hr.out.below hYb.drew).front3) ((Hr.out.below hYb.drew).back3) (fun b' o' e _ => by cases e; exact ⟨Nat.lt_of_lt_of_le Hap.out.1 hYb.size, Hap.out.2⟩) ⟨Nat.lt_of_lt_of_le Hap.out.1 hYb.size, Hap.out.2⟩
  have q0 : Y.cell? ⟨w.heap.size, 0, none⟩ = some (.int .i64 m) := cell_of_row _ _ _ _ _ _ hYM
  have q1 : Y.cell? ⟨w.heap.size, 1, none⟩ = some (.int .i64 gen) := cell_of_row _ _ _ _ _ _ hYM
  have hkeepM : ∀ w6, Frm Y.drew w6 p → w6.heap[w.heap.size]? = some (.cells #[.int .i64 m, .int .i64 gen, .slice none 0 0] 94 (0, 0)) := fun w6 hF => (hF.block _ hMY hAM.1 hAM.2.1 hAM.2.2.1 hAM.2.2.2).trans hYM
  have Hopen := Lib.hid hopen
  have HYM := Lib.hid hYM
  have HYb := Lib.hid hYb
  have HkeepM := Lib.hid hkeepM
  have HAM := Lib.hid hAM
  have Hlt := Lib.hid hlt
  clear hopen hY hYM hYb hkeepM hAM hlt y0 y1 y2 t0 t1 e0 e1 HXb HXM HXG HWM HW Hb HrW
  go_upto_region 8 with (fail)
  cases hoc : openC s m gen [x0, x1, x2] sl with
  | none =>
    rw [hoc] at Hopen
    have Hoc := Lib.hid hoc
    clear hoc
    go_region_held3 (fun w' => w'.cell? ⟨w.heap.size, 0, none⟩ = some (.int .i64 m) ∧ w'.cell? ⟨w.heap.size, 1, none⟩ = some (.int .i64 gen))
      (refine ⟨?_, ?_⟩ <;> (first | with_reducible assumption | (simp only [World.cell?_drew]; with_reducible assumption) | (rw [World.cell?_setCell_other _ _ _ _ (by simp)]; with_reducible assumption)))
      (first | (go_at_call 64; go_must (refine Hopen.out.mono ?_); rintro e w6 ⟨c', hc1, ⟨hc2, hct⟩, r, rfl, ho6, T', hA6, hF6, hT6⟩; have Hct := Lib.hid hct; clear hct; obtain ⟨ra, rc, rfl⟩ := (SliceR.of_own ho6).form; have hM6 := HkeepM.out w6 hF6; have u0 : w6.cell? ⟨w.heap.size, 0, none⟩ = some (.int .i64 m) := cell_of_row _ _ _ _ _ _ hM6; have u1 : w6.cell? ⟨w.heap.size, 1, none⟩ = some (.int .i64 gen) := cell_of_row _ _ _ _ _ _ hM6; have u2 : w6.cell? ⟨w.heap.size, 2, none⟩ = some (.slice none 0 0) := cell_of_row _ _ _ _ _ _ hM6; have u2f := frozen_of_row _ _ 2 _ _ hM6; have HM6 := Lib.hid hM6; have HA6 := Lib.hid hA6; have HF6 := Lib.hid hF6; have HT6 := Lib.hid hT6; have Ho6 := Lib.hid ho6; clear hM6 hA6 hF6 hT6 ho6))
    generalize hV : World.setCell _ _ _ = V
    have hVM : V.heap[w.heap.size]? = some (.cells #[.int .i64 m, .int .i64 gen, .slice ra (n - 3 - 4) rc] 94 (0, 0)) := by rw [← hV, heap_setCell_same _ _ _ _ _ _ HM6.out]; rfl
    have hVk : ∀ b, b ≠ w.heap.size → V.heap[b]? = w6.heap[b]? := fun b hb => by rw [← hV]; exact heap_ne (Ne.symm hb)
    have hVo : V.os = w6.os ∧ V.tape = w6.tape ∧ V.output = w6.output ∧ V.heap.size = w6.heap.size := by rw [← hV]; exact ⟨rfl, rfl, rfl, size_setCell _ _ _⟩
    have v0 : V.cell? ⟨w.heap.size, 0, none⟩ = some (.int .i64 m) := cell_of_row _ _ _ _ _ _ hVM
    have v1 : V.cell? ⟨w.heap.size, 1, none⟩ = some (.int .i64 gen) := cell_of_row _ _ _ _ _ _ hVM
    have v2 : V.cell? ⟨w.heap.size, 2, none⟩ = some (.slice ra (n - 3 - 4) rc) := cell_of_row _ _ _ _ _ _ hVM
    have vf0 := frozen_of_row _ _ 0 _ _ hVM
    have vf1 := frozen_of_row _ _ 1 _ _ hVM
    have vf2 := frozen_of_row _ _ 2 _ _ hVM
    have HVM := Lib.hid hVM
    have HVk := Lib.hid hVk
    have HVo := Lib.hid hVo
    clear hV hVM hVk hVo u0 u1 u2 u2f
    go_wp2_with fail
    rw [msg_store3 HVM.out]
    refine bodyPost_ret (results_ct rfl _ V w.heap.size _ _ _ _ rfl HVM.out Tryz.underlying94 rfl (by rw [infoMsg]; rfl)) rfl ?_
    have e7 : n - 7 = n - 3 - 4 := by omega
    rw [← Hgen.out, Hoc.out]
    have hlt := Hlt.out
    have h6s : Y.heap.size ≤ w6.heap.size := HF6.out.size
    obtain ⟨o1, o2, o3, o4⟩ := HVo.out
    refine ⟨c', hc1, ⟨by omega, by rw [e7]; exact Hct.out⟩, .slice ra (n - 3 - 4) rc, rfl, ?_, T', ?_, ⟨o1.trans (HF6.out.os.trans HYb.out.os), o2.trans (HF6.out.tape.trans HYb.out.tape), o3.trans (HF6.out.output.trans HYb.out.output), by omega, fun b hb h1 h2 h3 h4 => ?_⟩, ?_⟩
    · rw [e7]
      have h6 : w6.ownsRow Y.heap.size 5 1 (.slice ra (n - 3 - 4) rc) (n - 3 - 4) (cells (openT (keyS s m gen) sl)).toList := Ho6.out
      exact ownsRow_mono (ownsRow_blk h6 fun b hb => HVk.out b (by have := (h6.lt b hb).1; omega)) (by omega)
    · refine group_keep HA6.out fun b hb => HVk.out b ?_
      rcases hb with h | h | h | h
      · have := (hlt p.G (.inl rfl)).2; rw [h]; show p.G ≠ _; omega
      · have := (hlt p.H (.inr (.inl rfl))).2; rw [h]; show p.H ≠ _; omega
      · have := (hlt p.K (.inr (.inr (.inl rfl)))).2; rw [h]; show p.K ≠ _; omega
      · have h' : T'.ownBlock = some b := h
        rcases HT6.out with e | e
        · have := (hlt b (.inr (.inr (.inr (by rw [← e]; exact h'))))).2; omega
        · have : Y.heap.size ≤ b := e b h'; omega
    · rw [HVk.out b (by omega), HF6.out.block b (show b < Y.heap.size by omega) h1 h2 h3 h4]
      exact HYb.out.block b hb
    · rcases HT6.out with e | e
      · exact .inl e
      · exact .inr fun b hb => by have : Y.heap.size ≤ b := e b hb; omega
  | some c =>
    rw [hoc] at Hopen
    have Hoc := Lib.hid hoc
    clear hoc
    go_region_held3 (fun w' => w'.cell? ⟨w.heap.size, 0, none⟩ = some (.int .i64 m) ∧ w'.cell? ⟨w.heap.size, 1, none⟩ = some (.int .i64 gen))
      (refine ⟨?_, ?_⟩ <;> (first | with_reducible assumption | (simp only [World.cell?_drew]; with_reducible assumption) | (rw [World.cell?_setCell_other _ _ _ _ (by simp)]; with_reducible assumption)))
      (first | (go_at_call 64; go_must (refine Hopen.out.mono ?_); rintro e w6 ⟨c', hc1, ⟨hc2, hct⟩, rfl, hA6, hF6⟩; have Hct := Lib.hid hct; clear hct; have hM6 := HkeepM.out w6 hF6; have u0 : w6.cell? ⟨w.heap.size, 0, none⟩ = some (.int .i64 m) := cell_of_row _ _ _ _ _ _ hM6; have u1 : w6.cell? ⟨w.heap.size, 1, none⟩ = some (.int .i64 gen) := cell_of_row _ _ _ _ _ _ hM6; have u2 : w6.cell? ⟨w.heap.size, 2, none⟩ = some (.slice none 0 0) := cell_of_row _ _ _ _ _ _ hM6; have u2f := frozen_of_row _ _ 2 _ _ hM6; have HM6 := Lib.hid hM6; have HA6 := Lib.hid hA6; have HF6 := Lib.hid hF6; clear hM6 hA6 hF6))
    generalize hV : World.setCell _ _ _ = V
    have hVM : V.heap[w.heap.size]? = some (.cells #[.int .i64 m, .int .i64 gen, .slice none 0 0] 94 (0, 0)) := by rw [← hV, heap_setCell_same _ _ _ _ _ _ HM6.out]; rfl
    have hVk : ∀ b, b ≠ w.heap.size → V.heap[b]? = w6.heap[b]? := fun b hb => by rw [← hV]; exact heap_ne (Ne.symm hb)
    have hVo : V.os = w6.os ∧ V.tape = w6.tape ∧ V.output = w6.output ∧ V.heap.size = w6.heap.size := by rw [← hV]; exact ⟨rfl, rfl, rfl, size_setCell _ _ _⟩
    have h6s : Y.heap.size ≤ w6.heap.size := HF6.out.size
    have hbb : V.heap[b]? = w.heap[b]? := by
      rw [hVk b (by have := Hap.out.1; omega), HF6.out.block b (show b < Y.heap.size by have := Hap.out.1; omega) Hap.out.2.1 Hap.out.2.2.1 Hap.out.2.2.2.1 Hap.out.2.2.2.2]
      exact HYb.out.block b Hap.out.1
    have vb : V.cell? ⟨b, o, none⟩ = some (.int .u8 m) := by
      obtain ⟨b', o', e2, h2⟩ := Hr.out (by simp)
      cases e2
      rw [World.cell?_of_block (a := ⟨b, o, none⟩) hbb, Hx.out.1]
      simpa using h2 0 (by simp)
    have v0 : V.cell? ⟨w.heap.size, 0, none⟩ = some (.int .i64 m) := cell_of_row _ _ _ _ _ _ hVM
    have v1 : V.cell? ⟨w.heap.size, 1, none⟩ = some (.int .i64 gen) := cell_of_row _ _ _ _ _ _ hVM
    have v2 : V.cell? ⟨w.heap.size, 2, none⟩ = some (.slice none 0 0) := cell_of_row _ _ _ _ _ _ hVM
    have vf0 := frozen_of_row _ _ 0 _ _ hVM
    have vf1 := frozen_of_row _ _ 1 _ _ hVM
    have vf2 := frozen_of_row _ _ 2 _ _ hVM
    have hVs : w.heap.size < V.heap.size := block_lt_of_cell v0
    have HVM := Lib.hid hVM
    have HVk := Lib.hid hVk
    have HVo := Lib.hid hVo
    have hMb : w.heap.size ≠ b := by have := Hap.out.1; omega
    have vbs : (((V.setCell ⟨w.heap.size, 0, none⟩ (.int .i64 0)).setCell ⟨w.heap.size, 1, none⟩ (.int .i64 0)).setCell ⟨w.heap.size, 2, none⟩ (.slice none 0 0)).cell? ⟨b, o, none⟩ = some (.int .u8 m) := by
      rw [World.cell?_setCell_other _ _ _ _ (fun e => hMb (congrArg Addr.block e)), World.cell?_setCell_other _ _ _ _ (fun e => hMb (congrArg Addr.block e)), World.cell?_setCell_other _ _ _ _ (fun e => hMb (congrArg Addr.block e))]
      exact vb
    clear hV hVM hVk hVo u0 u1 u2 u2f hbb
    go_upto_region 10 with (fail)
    go_region
    generalize hZ : World.setCell (World.setCell (World.setCell _ _ _) _ _) _ _ = Z
    have hZM : Z.heap[w.heap.size]? = some (.cells #[.int .i64 0, .int .i64 0, .slice none 0 0] 94 (0, 0)) := by
      rw [← hZ, heap_setCell_same _ _ _ _ _ _ (heap_setCell_same _ _ _ _ _ _ (heap_setCell_same _ _ _ _ _ _ HVM.out))]; rfl
    have hZk : ∀ b, b ≠ w.heap.size → Z.heap[b]? = w6.heap[b]? := fun b hb => by
      rw [← hZ, heap_ne (Ne.symm hb), heap_ne (Ne.symm hb), heap_ne (Ne.symm hb)]; exact HVk.out b hb
    have hZs : Z.heap.size = V.heap.size := by rw [← hZ, size_setCell, size_setCell, size_setCell]
    have hZo : Z.os = V.os ∧ Z.tape = V.tape ∧ Z.output = V.output := by rw [← hZ]; exact ⟨rfl, rfl, rfl⟩
    obtain ⟨o1, o2, o3, o4⟩ := HVo.out
    have HZM := Lib.hid hZM
    have HZk := Lib.hid hZk
    have HZo := Lib.hid hZo
    have hMZ : w.heap.size < Z.heap.size := by omega
    clear hZ hZM hZk hZo vbs
    have HoldE : Hid ((Z.alloc (.cells #[.int .i64 m, .iface 138 (.agg #[.int .i64 c])] 152)).cell? ⟨V.heap.size, 1, none⟩ = some (.iface 138 (.agg #[.int .i64 c]))) := Lib.hid (by
      rw [← hZs]; exact cell_of_row _ _ _ _ _ _ (heap_alloc_new _ _))
    go_wp2
    refine bodyPost_ret (results_ct rfl _ (World.drew (Z.alloc _)) w.heap.size _ _ _ _ rfl ((Below.heap_alloc Z _ _ hMZ).trans HZM.out) Tryz.underlying94 rfl (by rw [infoMsg]; rfl)) rfl ?_
    rw [← Hgen.out, Hoc.out]
    have hlt := Hlt.out
    obtain ⟨z1, z2, z3⟩ := HZo.out
    have hkk : ∀ b', b' < w6.heap.size → b' ≠ w.heap.size → (World.drew (Z.alloc (.cells #[.int .i64 m, .iface 138 (.agg #[.int .i64 c])] 152))).heap[b']? = w6.heap[b']? := fun b' hb hne => (Below.heap_alloc Z _ b' (by omega)).trans (HZk.out b' hne)
    have hl6 := group_lt HA6.out
    refine ⟨c', hc1, ⟨by omega, by rw [show n - 7 = n - 3 - 4 from by omega]; exact Hct.out⟩, ⟨_, rfl, ErrIs.about c V.heap.size HoldE.out⟩, group_keep HA6.out fun b' hb => hkk b' (hl6 b' hb).2 ?_, ⟨z1.trans (o1.trans (HF6.out.os.trans HYb.out.os)), z2.trans (o2.trans (HF6.out.tape.trans HYb.out.tape)), z3.trans (o3.trans (HF6.out.output.trans HYb.out.output)), ?_, fun b' hb h1 h2 h3 h4 => ?_⟩⟩
    · have := (hlt b' hb).2; omega
    · show w.heap.size ≤ (Z.alloc _).heap.size
      have := World.size_alloc Z (.cells #[.int .i64 m, .iface 138 (.agg #[.int .i64 c])] 152)
      omega
    · rw [hkk b' (by omega) (by omega), HF6.out.block b' (show b' < Y.heap.size by omega) h1 h2 h3 h4]
      exact HYb.out.block b' hb
end Go.Proofs.YtccidllcjaaeeabGreatDoor
/- The walk of a group's Unprotect: the lock, unprotect, the error's code. Conditions: the group lies and reads as its state; its lock is free; the errors' type word lies. -/
namespace Go.Proofs.YtccidllcjaaeeabGreatDoor
set_option maxRecDepth 100000
open Go Go.Maps Go.RowKit
open Go.Shelf Go.Lib Go.Sort Go.MuLone
theorem Frm.remu {w w' : World} {p : GPl} (x : Int) (h : Frm w w' p) : Frm w w' { p with mu := x } := ⟨h.os, h.tape, h.output, h.size, h.block⟩
theorem ErrIs.below {w w' : World} {v : Value} {c : Int} (h : ErrIs w v c) (hb : Below w.heap.size w w') : ErrIs w' v c := by
  cases h with
  | ok => exact .ok
  | fault c => exact .fault c
  | about c E h => exact .about c E ((World.cell?_of_block (a := ⟨E, 1, none⟩) (hb.block _ (block_lt_of_cell h))).trans h)
theorem cell3 {w : World} {M B : Nat} (h : M ≠ B) (a b c : Value) (j : Nat) : (((w.setCell ⟨M, 0, none⟩ a).setCell ⟨M, 1, none⟩ b).setCell ⟨M, 2, none⟩ c).cell? ⟨B, j, none⟩ = w.cell? ⟨B, j, none⟩ := by
  rw [World.cell?_setCell_other _ _ _ _ (fun e => h (congrArg Addr.block e)), World.cell?_setCell_other _ _ _ _ (fun e => h (congrArg Addr.block e)), World.cell?_setCell_other _ _ _ _ (fun e => h (congrArg Addr.block e))]
def msgW (w : World) (p : GPl) : World := (w.alloc (.cells #[.int .i64 0, .int .i64 0, .slice none 0 0] 94)).setCell ⟨p.G, 0, none⟩ (.int .i32 1)
set_option maxHeartbeats 8000000 in
theorem Unprotect_any (w : World) (lo t n cap : Nat) (p : GPl) (s : GSt) (pt : Option Addr) (hA : GroupAt w lo p s t) (hmu : p.mu = 0) (hlo : 0 < lo) (hEG : EG w) (R : World → Int → Int → Option Addr → Nat → Nat → Int → Prop)
    (hin : Calls Tryz.prog 41 #[.pointer (some ⟨p.G, 0, none⟩), .slice pt n cap] (msgW w p) fun e w1 => ∃ i j a k c er co, e = .returned (.tuple #[.agg #[.int .i64 i, .int .i64 j, .slice a k c], er]) ∧ ErrIs w1 er co ∧ Frm (msgW w p) w1 p ∧ (∃ lo' p' s' t', GroupAt w1 lo' p' s' t' ∧ p'.G = p.G ∧ p'.mu = 1) ∧ R w1 i j a k c co) :
    Calls Tryz.prog 22 #[.pointer (some ⟨p.G, 0, none⟩), .slice pt n cap] w fun e w' => ∃ i j a k c co w1 w2, e = .returned (.tuple #[.agg #[.int .i64 i, .int .i64 j, .slice a k c], .int .i64 co]) ∧ R w1 i j a k c co ∧ Frm (msgW w p) w1 p ∧ w1.grownBy w2 (some w.heap.size) ∧ w' = w2.setCell ⟨p.G, 0, none⟩ (.int .i32 0) := by
  obtain ⟨W, hW⟩ : ∃ W, W = w.alloc (.cells #[.int .i64 0, .int .i64 0, .slice none 0 0] 94) := ⟨_, rfl⟩
  have hb : Below w.heap.size w W := by rw [hW]; exact balloc (Below.refl _ _) _
  have hAW := group_below hA hb
  obtain ⟨c0, _⟩ := g_cells hAW.1
  rw [hmu] at c0
  have f0 := frozen_of_row _ _ 0 _ _ hAW.1
  have hWM : W.heap[w.heap.size]? = some (.cells #[.int .i64 0, .int .i64 0, .slice none 0 0] 94 (0, 0)) := by rw [hW]; exact heap_alloc_new _ _
  have hmsg : msgW w p = W.setCell ⟨p.G, 0, none⟩ (.int .i32 1) := by rw [hW]; rfl
  rw [hmsg] at hin ⊢
  have hEL : EG (W.setCell ⟨p.G, 0, none⟩ (.int .i32 1)) := eg_frm (hEG.below hb) hAW hlo (frm_setCell W p 0 _)
  have hlt := group_lt hA
  have hMG : w.heap.size ≠ p.G := fun e => by have := (hlt p.G (.inl rfl)).2; omega
  have hAM : Apart p w.heap.size := ⟨hMG, fun e => by have := (hlt p.H (.inr (.inl rfl))).2; omega, fun e => by have := (hlt p.K (.inr (.inr (.inl rfl)))).2; omega, fun e => by have := (hlt w.heap.size (.inr (.inr (.inr e)))).2; omega⟩
  have hLM : (W.setCell ⟨p.G, 0, none⟩ (.int .i32 1)).heap[w.heap.size]? = some (.cells #[.int .i64 0, .int .i64 0, .slice none 0 0] 94 (0, 0)) := (heap_ne (Ne.symm hMG)).trans hWM
  have hLs := (Array.getElem?_eq_some_iff.1 hLM).1
  have HL := Lib.hid (group_mu hAW 1)
  have Hin := Lib.hid hin
  have HEL := Lib.hid hEL
  have HAM := Lib.hid hAM
  have HLM := Lib.hid hLM
  have HW := Lib.hid hW
  clear hin hEL hA hAM hLM hWM hAW hb hlt hmsg hW
  go_enter_defers Tryz.func22, Tryz.ntmps22
  go_upto_region 1 with (fail)
  rw [← HW.out]
  go_upto_region 4 with (first
    | (go_at_call 24; go_loud (refine (lock_free muLib ⟨p.G, 0, none⟩ _ c0 f0).mono ?_; rintro e w2 ⟨rfl, rfl⟩))
    | (go_at_call 41; refine Hin.out.mono ?_; rintro e w1 ⟨i, j, a, k, c, er, co, rfl, he1, hF1, hG1, hR1⟩; have hE1 := eg_frm HEL.out HL.out hlo (hF1.remu 1); have HE1 := Lib.hid hE1; have He1 := Lib.hid he1; have HF1 := Lib.hid hF1; have HG1 := Lib.hid hG1; have HR1 := Lib.hid hR1; clear he1 hF1 hG1 hR1 hE1))
  generalize hX : World.alloc _ _ = X
  have hX6 : X.heap[w1.heap.size]? = some (.cells #[.int .i64 i, .int .i64 j, .slice a k c] 94 (0, 0)) := by rw [← hX]; exact heap_alloc_new _ _
  have hXb : Below w1.heap.size w1 X := by rw [← hX]; exact balloc (Below.refl _ _) _
  have hM1 : w1.heap[w.heap.size]? = some (.cells #[.int .i64 0, .int .i64 0, .slice none 0 0] 94 (0, 0)) := (HF1.out.block _ hLs HAM.out.1 HAM.out.2.1 HAM.out.2.2.1 HAM.out.2.2.2).trans HLM.out
  have hM1s := (Array.getElem?_eq_some_iff.1 hM1).1
  have hXs : w1.heap.size < X.heap.size := (Array.getElem?_eq_some_iff.1 hX6).1
  have hXM := (hXb.block _ hM1s).trans hM1
  have x0 : X.cell? ⟨w1.heap.size, 0, none⟩ = some (.int .i64 i) := cell_of_row _ _ _ _ _ _ hX6
  have x1 : X.cell? ⟨w1.heap.size, 1, none⟩ = some (.int .i64 j) := cell_of_row _ _ _ _ _ _ hX6
  have x2 : X.cell? ⟨w1.heap.size, 2, none⟩ = some (.slice a k c) := cell_of_row _ _ _ _ _ _ hX6
  have HEX : Hid (EG X.drew) := Lib.hid (HE1.out.keep (hXb.block 0 (block_lt_of_cell HE1.out)))
  have HerX : Hid (ErrIs X.drew er co) := Lib.hid (He1.out.below (w' := X.drew) ⟨hXb.drew.os, hXb.drew.tape, hXb.drew.output, hXb.drew.size, hXb.drew.block⟩)
  have HXb := Lib.hid hXb
  have HX6 := Lib.hid hX6
  have HXM := Lib.hid hXM
  have hM16 : w.heap.size ≠ w1.heap.size := by omega
  clear hX hXb hX6 hXM hM1 c0 f0
  go_region_held3 (fun w' => w'.cell? ⟨w1.heap.size, 0, none⟩ = some (.int .i64 i) ∧ w'.cell? ⟨w1.heap.size, 1, none⟩ = some (.int .i64 j) ∧ w'.cell? ⟨w1.heap.size, 2, none⟩ = some (.slice a k c))
    (refine ⟨?_, ?_, ?_⟩ <;> (first | with_reducible assumption | (simp only [World.cell?_drew]; with_reducible assumption) | (rw [cell3 hM16]; with_reducible assumption)))
    (first | (go_at_call 38; go_must (refine (code_any X.drew er co HEX.out HerX.out).mono ?_); rintro e w2 ⟨rfl, hb2⟩; have h6 := (hb2.block w1.heap.size (show _ < X.heap.size from hXs)).trans HX6.out; have hm2 := (hb2.block w.heap.size (show _ < X.heap.size by omega)).trans HXM.out; have u0 : w2.cell? ⟨w1.heap.size, 0, none⟩ = some (.int .i64 i) := cell_of_row _ _ _ _ _ _ h6; have u1 : w2.cell? ⟨w1.heap.size, 1, none⟩ = some (.int .i64 j) := cell_of_row _ _ _ _ _ _ h6; have u2 : w2.cell? ⟨w1.heap.size, 2, none⟩ = some (.slice a k c) := cell_of_row _ _ _ _ _ _ h6; have m0 : w2.cell? ⟨w.heap.size, 0, none⟩ = some (.int .i64 0) := cell_of_row _ _ _ _ _ _ hm2; have m1 : w2.cell? ⟨w.heap.size, 1, none⟩ = some (.int .i64 0) := cell_of_row _ _ _ _ _ _ hm2; have m2 : w2.cell? ⟨w.heap.size, 2, none⟩ = some (.slice none 0 0) := cell_of_row _ _ _ _ _ _ hm2; have mf0 := frozen_of_row _ _ 0 _ _ hm2; have mf1 := frozen_of_row _ _ 1 _ _ hm2; have mf2 := frozen_of_row _ _ 2 _ _ hm2; have Hb2 := Lib.hid hb2; have H6 := Lib.hid h6; have Hm2 := Lib.hid hm2; clear hb2 h6 hm2))
  generalize hV : World.setCell (World.setCell (World.setCell _ _ _) _ _) _ _ = V
  have hVM : V.heap[w.heap.size]? = some (.cells #[.int .i64 i, .int .i64 j, .slice a k c] 94 (0, 0)) := by
    rw [← hV, heap_setCell_same _ _ _ _ _ _ (heap_setCell_same _ _ _ _ _ _ (heap_setCell_same _ _ _ _ _ _ Hm2.out))]; rfl
  have hVg : w1.grownBy V (some w.heap.size) := by
    rw [← hV]
    refine ⟨Hb2.out.os.trans HXb.out.os, Hb2.out.tape.trans HXb.out.tape, Hb2.out.output.trans HXb.out.output, ?_, fun b hb hne => ?_⟩
    · rw [size_setCell, size_setCell, size_setCell]
      have h1 := HXb.out.size
      have h2 : X.heap.size ≤ w2.heap.size := Hb2.out.size
      omega
    · have hbM : w.heap.size ≠ b := fun e => hne (by rw [e])
      rw [heap_ne hbM, heap_ne hbM, heap_ne hbM, Hb2.out.block b (show b < X.heap.size by omega)]
      exact HXb.out.block b hb
  have HVM := Lib.hid hVM
  have HVg := Lib.hid hVg
  have hGV : ∃ p' s', V.heap[p.G]? = some (.cells (gcells p' s') 72 (0, 0)) ∧ p'.mu = 1 := by
    obtain ⟨lo', p', s', t', h1, h2, h3⟩ := HG1.out
    have h4 := h1.1
    rw [h2] at h4
    exact ⟨p', s', (hVg.block _ (Array.getElem?_eq_some_iff.1 h4).1 (fun e => hMG (Option.some.inj e).symm)).trans h4, h3⟩
  have HGV := Lib.hid hGV
  clear hV hVM hVg hGV u0 u1 u2 m0 m1 m2 mf0 mf1 mf2
  go_wp2_with fail
  obtain ⟨p', s', hg1, hg2⟩ := HGV.out
  have hc1 : V.cell? ⟨p.G, 0, none⟩ = some (.int .i32 p'.mu) := cell_of_row _ _ _ _ _ _ hg1
  rw [hg2] at hc1
  refine leaves_cons (f := 25) (args := #[.pointer (some ⟨p.G, 0, none⟩)]) (by simp) (by simp [go_sem]) ?_
  refine (unlock_deferred muLib ⟨p.G, 0, none⟩ .returning _ hc1 (frozen_of_row _ _ 0 _ _ hg1)).mono ?_
  rintro e u' w3 ⟨rfl, rfl, rfl⟩
  exact ⟨_, results_ct rfl _ _ w.heap.size _ _ _ _ rfl ((heap_ne (Ne.symm hMG)).trans HVM.out) Tryz.underlying94 rfl (by rw [infoMsg]; rfl), i, j, a, k, c, co, w1, V, rfl, HR1.out, HF1.out, HVg.out, rfl⟩
end Go.Proofs.YtccidllcjaaeeabGreatDoor
/- A group's Unprotect, whichever way it goes. Conditions: the group lies and reads as its state; its lock is free; the errors' type word lies; the frame reads, apart from the group. -/
namespace Go.Proofs.YtccidllcjaaeeabGreatDoor
set_option maxRecDepth 100000
open Go Go.Maps Go.RowKit
open Go.Shelf Go.Lib Go.Sort Go.MuLone
theorem back_unlock {w1 w2 : World} {lo t M : Nat} {p : GPl} {s : GSt} (h : GroupAt w1 lo p s t) (hg : w1.grownBy w2 (some M)) (hM : ∀ b, b = p.G ∨ b = p.H ∨ b = p.K ∨ p.T.ownBlock = some b → b ≠ M) : GroupAt (w2.setCell ⟨p.G, 0, none⟩ (.int .i32 0)) lo { p with mu := 0 } s t :=
  group_mu (group_keep h fun b hb => hg.block b (group_lt h b hb).2 (fun e => hM b hb (Option.some.inj e))) 0
theorem back_frm {w w1 w2 : World} {p : GPl} (h : Frm (msgW w p) w1 p) (hg : w1.grownBy w2 (some w.heap.size)) : Frm w (w2.setCell ⟨p.G, 0, none⟩ (.int .i32 0)) p := by
  have hs : w.heap.size < w1.heap.size := by
    have h1 := h.size
    rw [msgW, size_setCell, World.size_alloc] at h1
    omega
  refine ⟨hg.os.trans h.os, hg.tape.trans h.tape, hg.output.trans h.output, ?_, fun b hb h1 h2 h3 h4 => ?_⟩
  · rw [size_setCell]; have := hg.size; omega
  · rw [heap_ne (Ne.symm h1), hg.block b (by omega) (fun e => by have := Option.some.inj e; omega), h.block b (by rw [msgW, size_setCell, World.size_alloc]; omega) h1 h2 h3 h4, msgW, heap_ne (Ne.symm h1)]
    exact Below.heap_alloc _ _ _ hb
theorem msgW_frm {w : World} {p : GPl} : Frm w (msgW w p) p := ⟨rfl, rfl, rfl, by rw [msgW, size_setCell, World.size_alloc]; omega, fun b hb h1 _ _ _ => by rw [msgW, heap_ne (Ne.symm h1)]; exact Below.heap_alloc _ _ _ hb⟩
theorem msgW_group {w : World} {lo t : Nat} {p : GPl} {s : GSt} (h : GroupAt w lo p s t) : GroupAt (msgW w p) lo { p with mu := 1 } s t := group_mu (group_below h (balloc (Below.refl _ _) _)) 1
theorem p_mu {p : GPl} (h : p.mu = 0) (x : Int) : ({ ({ p with mu := x } : GPl) with mu := 0 } : GPl) = p := by
  obtain ⟨G, H, K, T, mu⟩ := p
  have hm : mu = 0 := h
  subst hm
  rfl
theorem Unprotect_no (w : World) (lo t cap : Nat) (p : GPl) (s : GSt) (pt : Option Addr) (l : List UInt8) (c : Int) (hA : GroupAt w lo p s t) (hmu : p.mu = 0) (hlo : 0 < lo) (hEG : EG w) (hI : GInv s) (hl : l.length ≤ 9223372036854775807) (hs : pt ≠ none → ∃ b o, pt = some ⟨b, o, none⟩) (hr : Rd w pt l) (hap : ∀ b o, pt = some ⟨b, o, none⟩ → 0 < l.length → b < w.heap.size ∧ Apart p b) (hc : unprotNo s l = some c) :
    Calls Tryz.prog 22 #[.pointer (some ⟨p.G, 0, none⟩), .slice pt l.length cap] w fun e w' => e = .returned (.tuple #[msg0, .int .i64 c]) ∧ GroupAt w' lo p s t ∧ Frm w w' p := by
  have hL := msgW_group hA
  have hin := unprotect_no (msgW w p) lo t { p with mu := 1 } s pt cap l c hL hI hl hs (hr.apart fun b o hb hl => msgW_frm.block b (hap b o hb hl).1 (hap b o hb hl).2.1 (hap b o hb hl).2.2.1 (hap b o hb hl).2.2.2.1 (hap b o hb hl).2.2.2.2) hc
  refine (Unprotect_any w lo t l.length cap p s pt hA hmu hlo hEG (fun w1 i j a k c' co => (i = 0 ∧ j = 0 ∧ a = none ∧ k = 0 ∧ c' = 0) ∧ co = c ∧ Below (msgW w p).heap.size (msgW w p) w1) (hin.mono ?_)).mono ?_
  · rintro e w1 ⟨rfl, hb⟩
    exact ⟨0, 0, none, 0, 0, _, c, rfl, .fault c, Frm.of_below hb, ⟨lo, _, s, t, group_below hL hb, rfl, rfl⟩, ⟨rfl, rfl, rfl, rfl, rfl⟩, rfl, hb⟩
  · rintro e w' ⟨i, j, a, k, c', co, w1, w2, rfl, ⟨⟨rfl, rfl, rfl, rfl, rfl⟩, rfl, hb⟩, hF, hg, rfl⟩
    refine ⟨rfl, ?_, back_frm hF hg⟩
    have h1 := back_unlock (group_below hL hb) hg (fun b hb => by have := (group_lt hA b hb).2; omega)
    rw [p_mu hmu] at h1
    exact h1
theorem Unprotect_go (w : World) (lo t m g1 g2 : Nat) (p : GPl) (s : GSt) (b o cap n : Nat) (x0 x1 x2 : UInt8) (sl : List UInt8) (hA : GroupAt w lo p s t) (hmu : p.mu = 0) (hlo : 0 < lo) (hEG : EG w) (hI : GInv s) (hc : s.closed = false) (hm0 : m = x0.toNat) (hg1 : g1 = x1.toNat) (hg2 : g2 = x2.toNat) (hm : m < s.n) (hmo : m ≠ s.own) (hn : n = sl.length + 3) (hn7 : 7 ≤ n) (hn47 : n ≤ 47) (hcap : n ≤ cap)
    (hb0 : 0 ≤ s.cnt) (hb1 : s.cnt ≤ 4611686010000000000) (ht : t < 1000000000000) (hr : Rd w (some ⟨b, o, none⟩) (x0 :: x1 :: x2 :: sl)) (hap : b < w.heap.size ∧ Apart p b) :
    Calls Tryz.prog 22 #[.pointer (some ⟨p.G, 0, none⟩), .slice (some ⟨b, o, none⟩) n cap] w fun e w' => ∃ c' : Int, s.cnt ≤ c' ∧ (c' ≤ s.cnt + 2 * depthF 16 s.n m + 15 + ((n - 7 + 7) / 8 : Nat) ∧ Tight s m (256 * g1 + g2) (n - 7) (openC s m (256 * g1 + g2) [x0, x1, x2] sl) c') ∧ OpenE (openC s m (256 * g1 + g2) [x0, x1, x2] sl)
      (∃ r, e = .returned (.tuple #[.agg #[.int .i64 m, .int .i64 ((256 * g1 + g2 : Nat) : Int), r], .int .i64 0]) ∧ w'.ownsRow w.heap.size 5 1 r (n - 7) (cells (openT (keyS s m (256 * g1 + g2)) sl)).toList ∧ ∃ T', GroupAt w' lo { p with T := T' } (openN s m (256 * g1 + g2) c') (t + 5) ∧ Frm w w' p ∧ TreeNew w p.T T')
      (fun c => e = .returned (.tuple #[msg0, .int .i64 c]) ∧ GroupAt w' lo p { s with cnt := c' } t ∧ Frm w w' p) := by
  have hL := msgW_group hA
  have hsz : (msgW w p).heap.size = w.heap.size + 1 := by rw [msgW, size_setCell, World.size_alloc]
  have hin := unprotect_go (msgW w p) lo t m g1 g2 { p with mu := 1 } s b o cap n x0 x1 x2 sl hL hI hc hm0 hg1 hg2 hm hmo hn hn7 hn47 hcap hb0 hb1 ht (hr.apart fun b' o' hb hl => by cases hb; exact msgW_frm.block b hap.1 hap.2.1 hap.2.2.1 hap.2.2.2.1 hap.2.2.2.2) ⟨by omega, hap.2⟩
  have hlt := group_lt hA
  refine (Unprotect_any w lo t n cap p s (some ⟨b, o, none⟩) hA hmu hlo hEG (fun w1 i j a k c co => ∃ c' : Int, s.cnt ≤ c' ∧ (c' ≤ s.cnt + 2 * depthF 16 s.n m + 15 + ((n - 7 + 7) / 8 : Nat) ∧ Tight s m (256 * g1 + g2) (n - 7) (openC s m (256 * g1 + g2) [x0, x1, x2] sl) c') ∧ OpenE (openC s m (256 * g1 + g2) [x0, x1, x2] sl)
      (co = 0 ∧ i = m ∧ j = ((256 * g1 + g2 : Nat) : Int) ∧ w1.ownsRow (w.heap.size + 1) 5 1 (.slice a k c) (n - 7) (cells (openT (keyS s m (256 * g1 + g2)) sl)).toList ∧ ∃ T', GroupAt w1 lo { p with T := T', mu := 1 } (openN s m (256 * g1 + g2) c') (t + 5) ∧ TreeNew (msgW w p) p.T T')
      (fun cc => co = cc ∧ (i = 0 ∧ j = 0 ∧ a = none ∧ k = 0 ∧ c = 0) ∧ GroupAt w1 lo { p with mu := 1 } { s with cnt := c' } t)) (hin.mono ?_)).mono ?_
  · rintro e w1 ⟨c', h1, h2, h⟩
    cases hoc : openC s m (256 * g1 + g2) [x0, x1, x2] sl with
    | none =>
      rw [hoc] at h h2
      obtain ⟨r, rfl, ho, T', hA', hF, hT⟩ := h
      obtain ⟨ra, rc, rfl⟩ := (SliceR.of_own ho).form
      rw [hsz] at ho
      exact ⟨m, _, ra, _, rc, _, 0, rfl, .ok, ⟨hF.os, hF.tape, hF.output, hF.size, hF.block⟩, ⟨lo, _, _, _, hA', rfl, rfl⟩, c', h1, h2, rfl, rfl, rfl, ho, T', hA', hT⟩
    | some cc =>
      rw [hoc] at h h2
      obtain ⟨⟨er, rfl, he⟩, hA', hF⟩ := h
      exact ⟨0, 0, none, 0, 0, er, cc, rfl, he, ⟨hF.os, hF.tape, hF.output, hF.size, hF.block⟩, ⟨lo, _, _, _, hA', rfl, rfl⟩, c', h1, h2, rfl, ⟨rfl, rfl, rfl, rfl, rfl⟩, hA'⟩
  · rintro e w' ⟨i, j, a, k, c, co, w1, w2, rfl, ⟨c', h1, h2, h⟩, hF, hg, rfl⟩
    refine ⟨c', h1, h2, ?_⟩
    cases hoc : openC s m (256 * g1 + g2) [x0, x1, x2] sl with
    | none =>
      rw [hoc] at h
      obtain ⟨rfl, rfl, rfl, ho, T', hA', hT⟩ := h
      have hT2 : TreeNew w p.T T' := by
        rcases hT with e | e
        · exact .inl e
        · exact .inr fun b' hb => by have := e b' hb; omega
      have hb1' := back_unlock hA' hg (fun b' hb' => by
        rcases hb' with h | h | h | h
        · have := (hlt p.G (.inl rfl)).2; rw [h]; show p.G ≠ _; omega
        · have := (hlt p.H (.inr (.inl rfl))).2; rw [h]; show p.H ≠ _; omega
        · have := (hlt p.K (.inr (.inr (.inl rfl)))).2; rw [h]; show p.K ≠ _; omega
        · have h' : T'.ownBlock = some b' := h
          rcases hT with e | e
          · have := (hlt b' (.inr (.inr (.inr (by rw [← e]; exact h'))))).2; omega
          · have := e b' h'; omega)
      refine ⟨_, rfl, ?_, T', ?_, back_frm hF hg, hT2⟩
      · refine ownsRow_mono (ownsRow_blk ho fun b' hb' => ?_) (Nat.le_succ _)
        have hbb := ho.lt b' hb'
        rw [heap_ne (fun e => by have := (hlt p.G (.inl rfl)).2; have e2 : p.G = b' := e; omega)]
        exact hg.block b' hbb.2 (fun e => by have := Option.some.inj e; omega)
      · obtain ⟨G, H, K, T, mu⟩ := p
        have hm' : mu = 0 := hmu
        subst hm'
        exact hb1'
    | some cc =>
      rw [hoc] at h
      obtain ⟨rfl, ⟨rfl, rfl, rfl, rfl, rfl⟩, hA'⟩ := h
      have hb1' := back_unlock hA' hg (fun b' hb' => by have := (hlt b' hb').2; omega)
      rw [p_mu hmu] at hb1'
      exact ⟨rfl, hb1', back_frm hF hg⟩
end Go.Proofs.YtccidllcjaaeeabGreatDoor
/- The walk of what a group's Close does once. Conditions: the group's row, its maps and its tree lie; the two captured variables lie apart from them. -/
namespace Go.Proofs.YtccidllcjaaeeabGreatDoor
set_option maxRecDepth 100000
open Go Go.Maps Go.RowKit
open Go.Shelf Go.Lib Go.Sort Go.MuLone
/-- A group's row, whatever its lock and its Once. -/
def grow (mu dn ms : Int) (cl : Bool) (c : Int) (n o : Nat) (T : Value) (H K : Nat) : Array Value := #[.int .i32 mu, .int .u32 0, .int .u32 dn, .int .i32 ms, .int .u32 0, .bool cl, .int .i64 c, .int .i64 n, .int .i64 o, T, .map (some H), .map (some K)]
theorem grow_g (p : GPl) (s : GSt) : gcells p s = grow p.mu (if s.closed then 1 else 0) 0 s.closed s.cnt s.n s.own p.T p.H p.K := by
  unfold gcells grow
  cases s.closed <;> rfl
set_option maxHeartbeats 4000000 in
theorem shut_any (w : World) (lo t k G H K B1 B2 : Nat) (mu dn ms c : Int) (cl : Bool) (n o : Nat) (T : Value) (xs : List Value) (f f2 : Lit → Option Value) (hG : w.heap[G]? = some (.cells (grow mu dn ms cl c n o T H K) 72 (0, 0)))
    (hT : w.ownsRow lo 49 10 T k xs) (hH : mapAt w Tryz.prog 3 H t f) (hK : mapAt w Tryz.prog 104 K t f2) (hHK : H ≠ K) (hTG : T.ownBlock ≠ some G) (hTH : T.ownBlock ≠ some H) (hTK : T.ownBlock ≠ some K) (hGH : G ≠ H) (hGK : G ≠ K)
    (h1 : w.heap[B1]? = some (.cells #[.pointer (some ⟨G, 0, none⟩)] 31 (0, 0))) (h2 : w.heap[B2]? = some (.cells #[.int .i64 9] 32 (0, 0))) (hB1 : B1 ≠ G ∧ B1 ≠ H ∧ B1 ≠ K ∧ T.ownBlock ≠ some B1) (hB2 : B2 ≠ G ∧ B2 ≠ H ∧ B2 ≠ K ∧ T.ownBlock ≠ some B2 ∧ B2 ≠ B1) :
    Calls Tryz.prog 27 #[.pointer (some ⟨B1, 0, none⟩), .pointer (some ⟨B2, 0, none⟩)] w fun e w' => e = .returned (.tuple #[]) ∧
      w'.heap[G]? = some (.cells (grow mu dn ms true c n o (.slice none 0 0) H K) 72 (0, 0)) ∧ mapAt w' Tryz.prog 3 H 0 (fun _ => none) ∧ mapAt w' Tryz.prog 104 K 0 (fun _ => none) ∧ w'.heap[B2]? = some (.cells #[.int .i64 0] 32 (0, 0)) ∧
      w'.os = w.os ∧ w'.tape = w.tape ∧ w'.output = w.output ∧ w.heap.size ≤ w'.heap.size ∧ ∀ b, b < w.heap.size → b ≠ G → b ≠ H → b ≠ K → T.ownBlock ≠ some b → b ≠ B2 → w'.heap[b]? = w.heap[b]? := by
  have hGs := (Array.getElem?_eq_some_iff.1 hG).1
  have h1s := (Array.getElem?_eq_some_iff.1 h1).1
  have h2s := (Array.getElem?_eq_some_iff.1 h2).1
  have hHs := mapAt_lt hH
  have hKs := mapAt_lt hK
  have b1 : w.cell? ⟨B1, 0, none⟩ = some (.pointer (some ⟨G, 0, none⟩)) := cell_of_row _ _ _ _ _ _ h1
  have c9 : w.cell? ⟨G, 9, none⟩ = some T := cell_of_row _ _ _ _ _ _ hG
  obtain ⟨wA, hclrA, hgA⟩ := clear_parts hT 0
  have hAG := (hgA.block _ hGs (fun e => hTG e.symm)).trans hG
  have hAH := mapAt_kept hH hgA (fun e => hTH e.symm)
  have hAK := mapAt_kept hK hgA (fun e => hTK e.symm)
  have hA1 := (hgA.block _ h1s (fun e => hB1.2.2.2 e.symm)).trans h1
  have hA2 := (hgA.block _ h2s (fun e => hB2.2.2.2.1 e.symm)).trans h2
  have bA : wA.cell? ⟨B1, 0, none⟩ = some (.pointer (some ⟨G, 0, none⟩)) := cell_of_row _ _ _ _ _ _ hA1
  have cA : wA.cell? ⟨G, 10, none⟩ = some (.map (some H)) := cell_of_row _ _ _ _ _ _ hAG
  obtain ⟨wB, hclrB, hBH, htB⟩ := mapAt_clear hAH Tryz.underlying52 0
  have hgB := htB.grown
  have hsA := hgA.size
  have hBG := (hgB.block G (by omega) (fun e => hGH (Option.some.inj e))).trans hAG
  have hBK := mapAt_kept hAK hgB (fun e => hHK (Option.some.inj e).symm)
  have hBB1 := (hgB.block B1 (by omega) (fun e => hB1.2.1 (Option.some.inj e))).trans hA1
  have hBB2 := (hgB.block B2 (by omega) (fun e => hB2.2.1 (Option.some.inj e))).trans hA2
  have bB : wB.cell? ⟨B1, 0, none⟩ = some (.pointer (some ⟨G, 0, none⟩)) := cell_of_row _ _ _ _ _ _ hBB1
  have cB : wB.cell? ⟨G, 11, none⟩ = some (.map (some K)) := cell_of_row _ _ _ _ _ _ hBG
  obtain ⟨wC, hclrC, hCK, htC⟩ := mapAt_clear hBK Tryz.underlying53 0
  have hgC := htC.grown
  have hsB := hgB.size
  have hsC := hgC.size
  have hCG := (hgC.block G (by omega) (fun e => hGK (Option.some.inj e))).trans hBG
  have hCH := mapAt_kept hBH hgC (fun e => hHK (Option.some.inj e))
  have hCB1 := (hgC.block B1 (by omega) (fun e => hB1.2.2.1 (Option.some.inj e))).trans hBB1
  have hCB2 := (hgC.block B2 (by omega) (fun e => hB2.2.2.1 (Option.some.inj e))).trans hBB2
  have bC : wC.cell? ⟨B1, 0, none⟩ = some (.pointer (some ⟨G, 0, none⟩)) := cell_of_row _ _ _ _ _ _ hCB1
  have dC : wC.cell? ⟨B2, 0, none⟩ = some (.int .i64 9) := cell_of_row _ _ _ _ _ _ hCB2
  have gC9 : wC.cell? ⟨G, 9, none⟩ = some T := cell_of_row _ _ _ _ _ _ hCG
  have gC5 : wC.cell? ⟨G, 5, none⟩ = some (.bool cl) := cell_of_row _ _ _ _ _ _ hCG
  have f9 := frozen_of_row _ _ 9 _ _ hCG
  have f5 := frozen_of_row _ _ 5 _ _ hCG
  have fB := frozen_of_row _ _ 0 _ _ hCB2
  have hBG1 : B2 ≠ G := hB2.1
  have hBG2 : G ≠ B2 := Ne.symm hB2.1
  have hk : Hid (∀ b, b < w.heap.size → b ≠ G → b ≠ H → b ≠ K → T.ownBlock ≠ some b → wC.heap[b]? = w.heap[b]?) := Lib.hid fun b hb _ e2 e3 e4 => by
    rw [hgC.block b (by omega) (fun e => e3 (Option.some.inj e)), hgB.block b (by omega) (fun e => e2 (Option.some.inj e)), hgA.block b hb (fun e => e4 e.symm)]
  have Ho : Hid (wC.os = w.os ∧ wC.tape = w.tape ∧ wC.output = w.output) := Lib.hid ⟨hgC.os.trans (hgB.os.trans hgA.os), hgC.tape.trans (hgB.tape.trans hgA.tape), hgC.output.trans (hgB.output.trans hgA.output)⟩
  have HCG := Lib.hid hCG
  have HCH := Lib.hid hCH
  have HCK := Lib.hid hCK
  have HC2 := Lib.hid hCB2
  clear hG hT hH hK h1 h2 hAG hAH hAK hA1 hA2 hBH hBG hBK hBB1 hBB2 hCG hCH hCB1 hCB2 hCK htB htC hgA hgB hgC
  go_enter Tryz.func27, Tryz.ntmps27
  go_upto_region 3 with (fail)
  go_region
  go_end0
  refine ⟨rfl, ?_, mapAt_same HCH.out ?_, mapAt_same HCK.out ?_, ?_, Ho.out.1, Ho.out.2.1, Ho.out.2.2, ?_, fun b hb e1 e2 e3 e4 e5 => ?_⟩
  · show ((((wC.setCell ⟨G, 9, none⟩ _).setCell ⟨G, 5, none⟩ _).setCell ⟨B2, 0, none⟩ _)).heap[G]? = _
    rw [heap_ne hBG1, heap_setCell_same _ _ _ _ _ _ (heap_setCell_same _ _ _ _ _ _ HCG.out)]; rfl
  · show ((((wC.setCell ⟨G, 9, none⟩ _).setCell ⟨G, 5, none⟩ _).setCell ⟨B2, 0, none⟩ _)).heap[H]? = _
    rw [heap_ne hB2.2.1, heap_ne hGH, heap_ne hGH]
  · show ((((wC.setCell ⟨G, 9, none⟩ _).setCell ⟨G, 5, none⟩ _).setCell ⟨B2, 0, none⟩ _)).heap[K]? = _
    rw [heap_ne hB2.2.2.1, heap_ne hGK, heap_ne hGK]
  · show ((((wC.setCell ⟨G, 9, none⟩ _).setCell ⟨G, 5, none⟩ _).setCell ⟨B2, 0, none⟩ _)).heap[B2]? = _
    rw [heap_setCell_same _ _ _ _ _ _ ((heap_ne hBG2).trans ((heap_ne hBG2).trans HC2.out))]; rfl
  · show w.heap.size ≤ ((((wC.setCell ⟨G, 9, none⟩ _).setCell ⟨G, 5, none⟩ _).setCell ⟨B2, 0, none⟩ _)).heap.size
    rw [size_setCell, size_setCell, size_setCell]; omega
  · show ((((wC.setCell ⟨G, 9, none⟩ _).setCell ⟨G, 5, none⟩ _).setCell ⟨B2, 0, none⟩ _)).heap[b]? = _
    rw [heap_ne (Ne.symm e5), heap_ne (Ne.symm e1), heap_ne (Ne.symm e1)]
    exact hk.out b hb e1 e2 e3 e4
end Go.Proofs.YtccidllcjaaeeabGreatDoor
/- The walk of sync.Once's Do at a group's Close: not yet done, and done. Conditions: as the closure's; the Once's own lock is free. -/
namespace Go.Proofs.YtccidllcjaaeeabGreatDoor
set_option maxRecDepth 100000
open Go Go.Maps Go.RowKit
open Go.Shelf Go.Lib Go.Sort Go.MuLone
theorem store_deferred (a : Addr) (x : Value) (u : FrameMode) (w : World) (hc : w.cell? a = some x) (hz : w.frozen? a = false) :
    CallsD Tryz.prog 74 #[.pointer (some a), .bool true] u w fun e u' w' => u' = u ∧ (e = .returned (.tuple #[]) ∧ w' = w.drew.setCell a (.int .u32 1)) := by
  have hc' : w.drew.cell? a = some x := by go_simp
  have hz' : w.drew.frozen? a = false := by go_simp
  have hst := run_call_store (P := Tryz.prog) Tryz.func105 (by kernel_rfl) (by kernel_rfl) (by kernel_rfl) (by kernel_rfl) (k := .u32) (y := 1) hc' hz'
  go_enter_d Tryz.func74, Tryz.ntmps74
  go_wp2
  go_region_calls
  all_goals (go_end0; exact ⟨rfl, rfl⟩)
/-- What Do leaves behind. -/
def Shut (w w' : World) (G H K B2 : Nat) (mu c : Int) (n o : Nat) (T : Value) : Prop :=
  w'.heap[G]? = some (.cells (grow mu 1 0 true c n o (.slice none 0 0) H K) 72 (0, 0)) ∧ mapAt w' Tryz.prog 3 H 0 (fun _ => none) ∧ mapAt w' Tryz.prog 104 K 0 (fun _ => none) ∧ w'.heap[B2]? = some (.cells #[.int .i64 0] 32 (0, 0)) ∧
      w'.os = w.os ∧ w'.tape = w.tape ∧ w'.output = w.output ∧ w.heap.size ≤ w'.heap.size ∧ ∀ b, b < w.heap.size → b ≠ G → b ≠ H → b ≠ K → T.ownBlock ≠ some b → b ≠ B2 → w'.heap[b]? = w.heap[b]?
set_option maxHeartbeats 4000000 in
theorem slow_any (w : World) (lo t k G H K B1 B2 : Nat) (mu c : Int) (n o : Nat) (T : Value) (xs : List Value) (f f2 : Lit → Option Value) (hG : w.heap[G]? = some (.cells (grow mu 0 0 false c n o T H K) 72 (0, 0)))
    (hT : w.ownsRow lo 49 10 T k xs) (hH : mapAt w Tryz.prog 3 H t f) (hK : mapAt w Tryz.prog 104 K t f2) (hHK : H ≠ K) (hTG : T.ownBlock ≠ some G) (hTH : T.ownBlock ≠ some H) (hTK : T.ownBlock ≠ some K) (hGH : G ≠ H) (hGK : G ≠ K)
    (h1 : w.heap[B1]? = some (.cells #[.pointer (some ⟨G, 0, none⟩)] 31 (0, 0))) (h2 : w.heap[B2]? = some (.cells #[.int .i64 9] 32 (0, 0))) (hB1 : B1 ≠ G ∧ B1 ≠ H ∧ B1 ≠ K ∧ T.ownBlock ≠ some B1) (hB2 : B2 ≠ G ∧ B2 ≠ H ∧ B2 ≠ K ∧ T.ownBlock ≠ some B2 ∧ B2 ≠ B1) :
    Calls Tryz.prog 47 #[.pointer (some ⟨G, 2, none⟩), .func (.func 27) #[] #[.pointer (some ⟨B1, 0, none⟩), .pointer (some ⟨B2, 0, none⟩)]] w fun e w' => e = .returned (.tuple #[]) ∧ Shut w w' G H K B2 mu c n o T := by
  have hk : ∀ b, b ≠ G → (w.setCell ⟨G, 3, none⟩ (.int .i32 1)).heap[b]? = w.heap[b]? := fun b hb => heap_ne (Ne.symm hb)
  have hG1 : (w.setCell ⟨G, 3, none⟩ (.int .i32 1)).heap[G]? = some (.cells (grow mu 0 1 false c n o T H K) 72 (0, 0)) := by rw [heap_setCell_same _ _ _ _ _ _ hG]; rfl
  have hshut := shut_any (w.setCell ⟨G, 3, none⟩ (.int .i32 1)) lo t k G H K B1 B2 mu 0 1 c false n o T xs f f2 hG1 (ownsRow_blk hT fun b hb => hk b (fun e => hTG (by rw [hb, e]))) (mapAt_same hH (hk _ (Ne.symm hGH))) (mapAt_same hK (hk _ (Ne.symm hGK))) hHK hTG hTH hTK hGH hGK ((hk _ hB1.1).trans h1) ((hk _ hB2.1).trans h2) hB1 hB2
  have c3 : w.cell? ⟨G, 3, none⟩ = some (.int .i32 0) := cell_of_row _ _ _ _ _ _ hG
  have f3 := frozen_of_row _ _ 3 _ _ hG
  have d2 : (w.setCell ⟨G, 3, none⟩ (.int .i32 1)).cell? ⟨G, 2, none⟩ = some (.int .u32 0) := cell_of_row _ _ _ _ _ _ hG1
  have hl := run_call_load (P := Tryz.prog) Tryz.func73 (by kernel_rfl) (by kernel_rfl) (by kernel_rfl) .u32 (by kernel_rfl) d2
  have hnot : ∀ (x : Bool) (w : World), (Op.unary .not (.bool x)).run Tryz.prog w = .ok (.bool (!x)) w := fun _ _ => rfl
  have Hshut := Lib.hid hshut
  have Hk := Lib.hid hk
  clear hshut hG hG1 hT hH hK h1 h2 hk
  go_enter_defers Tryz.func47, Tryz.ntmps47
  go_wp2_with (first
    | (go_at_call 24; refine (lock_free muLib ⟨G, 3, none⟩ _ c3 f3).mono ?_; rintro e w' ⟨rfl, rfl⟩)
    | (go_at_call 46; go_in)
    | (go_at_call 27; refine Hshut.out.mono ?_; rintro e w2 ⟨rfl, hx⟩; have Hx := Lib.hid hx; clear hx))
  obtain ⟨x1, x2, x3, x4, x5, x6, x7, x8, x9⟩ := Hx.out
  refine leaves_cons (f := 74) (args := #[.pointer (some ⟨G, 2, none⟩), .bool true]) (by simp) (by simp [go_sem]) ?_
  refine (store_deferred ⟨G, 2, none⟩ (.int .u32 0) .returning _ (cell_of_row _ _ _ _ _ _ x1) (frozen_of_row _ _ 2 _ _ x1)).mono ?_
  rintro e u' w3 ⟨rfl, rfl, rfl⟩
  have hG3 : (w2.drew.setCell ⟨G, 2, none⟩ (.int .u32 1)).heap[G]? = some (.cells (grow mu 1 1 true c n o (.slice none 0 0) H K) 72 (0, 0)) := by rw [heap_setCell_same _ _ _ _ _ _ (show w2.drew.heap[G]? = _ from x1)]; rfl
  refine leaves_cons (f := 25) (args := #[.pointer (some ⟨G, 3, none⟩)]) (by simp [settle]) (by simp [go_sem]) ?_
  refine (unlock_deferred muLib ⟨G, 3, none⟩ _ _ (cell_of_row _ _ _ _ _ _ hG3) (frozen_of_row _ _ 3 _ _ hG3)).mono ?_
  rintro e u' w3 ⟨rfl, rfl, rfl⟩
  refine ⟨_, results_none rfl _ _ _, rfl, ?_, mapAt_same x2 ?_, mapAt_same x3 ?_, ?_, x5, x6, x7, ?_, fun b hb e1 e2 e3 e4 e5 => ?_⟩
  · rw [heap_setCell_same _ _ _ _ _ _ hG3]; rfl
  · rw [heap_ne hGH, heap_ne hGH]; rfl
  · rw [heap_ne hGK, heap_ne hGK]; rfl
  · rw [heap_ne (Ne.symm hB2.1), heap_ne (Ne.symm hB2.1)]; exact x4
  · rw [size_setCell, size_setCell]
    rw [size_setCell] at x8
    exact x8
  · rw [heap_ne (Ne.symm e1), heap_ne (Ne.symm e1)]
    exact (x9 b (by rw [size_setCell]; exact hb) e1 e2 e3 e4 e5).trans (Hk.out b e1)
set_option maxHeartbeats 4000000 in
/-- Do, not yet done. -/
theorem do_first (w : World) (lo t k G H K B1 B2 : Nat) (mu c : Int) (n o : Nat) (T : Value) (xs : List Value) (f f2 : Lit → Option Value) (hG : w.heap[G]? = some (.cells (grow mu 0 0 false c n o T H K) 72 (0, 0)))
    (hT : w.ownsRow lo 49 10 T k xs) (hH : mapAt w Tryz.prog 3 H t f) (hK : mapAt w Tryz.prog 104 K t f2) (hHK : H ≠ K) (hTG : T.ownBlock ≠ some G) (hTH : T.ownBlock ≠ some H) (hTK : T.ownBlock ≠ some K) (hGH : G ≠ H) (hGK : G ≠ K)
    (h1 : w.heap[B1]? = some (.cells #[.pointer (some ⟨G, 0, none⟩)] 31 (0, 0))) (h2 : w.heap[B2]? = some (.cells #[.int .i64 9] 32 (0, 0))) (hB1 : B1 ≠ G ∧ B1 ≠ H ∧ B1 ≠ K ∧ T.ownBlock ≠ some B1) (hB2 : B2 ≠ G ∧ B2 ≠ H ∧ B2 ≠ K ∧ T.ownBlock ≠ some B2 ∧ B2 ≠ B1) :
    Calls Tryz.prog 26 #[.pointer (some ⟨G, 2, none⟩), .func (.func 27) #[] #[.pointer (some ⟨B1, 0, none⟩), .pointer (some ⟨B2, 0, none⟩)]] w fun e w' => e = .returned (.tuple #[]) ∧ Shut w w' G H K B2 mu c n o T := by
  have d2 : w.cell? ⟨G, 2, none⟩ = some (.int .u32 0) := cell_of_row _ _ _ _ _ _ hG
  have hl := run_call_load (P := Tryz.prog) Tryz.func73 (by kernel_rfl) (by kernel_rfl) (by kernel_rfl) .u32 (by kernel_rfl) d2
  have hnot : ∀ (x : Bool) (w : World), (Op.unary .not (.bool x)).run Tryz.prog w = .ok (.bool (!x)) w := fun _ _ => rfl
  have hslow := slow_any w lo t k G H K B1 B2 mu c n o T xs f f2 hG hT hH hK hHK hTG hTH hTK hGH hGK h1 h2 hB1 hB2
  have Hslow := Lib.hid hslow
  clear hslow hG hT hH hK h1 h2
  go_enter Tryz.func26, Tryz.ntmps26
  go_wp2_with (first
    | (go_at_call 46; go_in)
    | (go_at_call 47; refine Hslow.out.mono ?_; rintro e w2 ⟨rfl, hx⟩; have Hx := Lib.hid hx; clear hx))
  go_end0
  exact ⟨rfl, Hx.out⟩
/-- Do, done already. -/
theorem do_done (w : World) (G H K : Nat) (mu c : Int) (n o : Nat) (T fv : Value) (hG : w.heap[G]? = some (.cells (grow mu 1 0 true c n o T H K) 72 (0, 0))) :
    Calls Tryz.prog 26 #[.pointer (some ⟨G, 2, none⟩), fv] w fun e w' => e = .returned (.tuple #[]) ∧ w' = w := by
  have d2 : w.cell? ⟨G, 2, none⟩ = some (.int .u32 1) := cell_of_row _ _ _ _ _ _ hG
  have hl := run_call_load (P := Tryz.prog) Tryz.func73 (by kernel_rfl) (by kernel_rfl) (by kernel_rfl) .u32 (by kernel_rfl) d2
  have hnot : ∀ (x : Bool) (w : World), (Op.unary .not (.bool x)).run Tryz.prog w = .ok (.bool (!x)) w := fun _ _ => rfl
  clear hG
  go_enter Tryz.func26, Tryz.ntmps26
  go_wp2_with (go_at_call 46; go_in)
  go_end0
  exact ⟨rfl, rfl⟩
end Go.Proofs.YtccidllcjaaeeabGreatDoor
/- The walk of a group's Close: the first, and each later one. Conditions: the group lies and reads as its state; its lock is free. -/
namespace Go.Proofs.YtccidllcjaaeeabGreatDoor
set_option maxRecDepth 100000
open Go Go.Maps Go.RowKit
open Go.Shelf Go.Lib Go.Sort Go.MuLone
/-- The state behind Close. -/
def shutS (s : GSt) : GSt := { s with closed := true }
theorem run_loadVar_errno (w : World) (g : Nat) (v : Value) (h : w.cell? ⟨g, 0, none⟩ = some v) : (loadVar 32 ⟨g, 0, none⟩).run Tryz.prog w = .ok v w := by
  simp [h, go_sem]
theorem results_errno {fn : Func} {q : Tmp} (h : fn.results = #[.cell q 32]) (tmps : Array Value) (w : World) (g : Nat) (v : Value) (hq : tmps.getD q undef = .pointer (some ⟨g, 0, none⟩)) (hc : w.cell? ⟨g, 0, none⟩ = some v) : (results fn tmps).run Tryz.prog w = .ok v w := by
  have hq' : tmps[q]?.getD undef = .pointer (some ⟨g, 0, none⟩) := by simpa using hq
  simp [results, h, hq', asAddr, run_loadVar_errno w g v hc]
theorem head_shut (s : GSt) : HeadOk (shutS s) (fun _ => none) := ⟨fun m _ => by rw [headV, if_neg (fun h => by cases h.1)], fun _ h => absurd rfl h⟩
theorem kept_shut (s : GSt) : KeptOk (shutS s) (fun _ => none) := ⟨fun m g _ _ => by rw [keptV, if_neg (fun h => by cases h.1)], fun _ h => absurd rfl h⟩
theorem inv_shut {s : GSt} (hI : GInv s) : GInv (shutS s) := ⟨hI.n16, hI.own, hI.root, hI.next, hI.over, hI.rise, hI.four, hI.none⟩
set_option maxHeartbeats 4000000 in
theorem Close_first (w : World) (lo t : Nat) (p : GPl) (s : GSt) (hA : GroupAt w lo p s t) (hmu : p.mu = 0) (hc : s.closed = false) :
    Calls Tryz.prog 16 #[.pointer (some ⟨p.G, 0, none⟩)] w fun e w' => e = .returned (.int .i64 0) ∧ GroupAt w' lo { p with T := .slice none 0 0 } (shutS s) 0 ∧ Frm w w' p := by
  have hlt := group_lt hA
  obtain ⟨hG, hT, ⟨f, hH, hf⟩, ⟨f2, hK, hf2⟩, hlG, hlH, hlK, hHK⟩ := hA
  have hG' : w.heap[p.G]? = some (.cells (grow 0 0 0 false s.cnt s.n s.own p.T p.H p.K) 72 (0, 0)) := by
    rw [hG, grow_g, hmu, hc]; rfl
  obtain ⟨W, hW⟩ : ∃ W, W = (w.alloc (.cells #[.pointer (some ⟨p.G, 0, none⟩)] 31)).alloc (.cells #[.int .i64 0] 32) := ⟨_, rfl⟩
  have hb : Below w.heap.size w W := by rw [hW]; exact balloc (balloc (Below.refl _ _) _) _
  have hGs := (hlt p.G (.inl rfl)).2
  have hHs := (hlt p.H (.inr (.inl rfl))).2
  have hKs := (hlt p.K (.inr (.inr (.inl rfl)))).2
  have hTs : ∀ b, p.T.ownBlock = some b → b < w.heap.size := fun b h => (hlt b (.inr (.inr (.inr h)))).2
  have hWG := (hb.block _ hGs).trans hG'
  have hW1 : W.heap[w.heap.size]? = some (.cells #[.pointer (some ⟨p.G, 0, none⟩)] 31 (0, 0)) := by rw [hW]; exact heap_alloc2_old w _ _
  have hW2 : W.heap[w.heap.size + 1]? = some (.cells #[.int .i64 0] 32 (0, 0)) := by rw [hW]; exact heap_alloc2_new w _ _
  have hGH := g_ne_map hG hH
  have hGK := g_ne_map hG hK
  have hTG : p.T.ownBlock ≠ some p.G := tree_ne hT hG
  have hTH : p.T.ownBlock ≠ some p.H := tree_ne_map hT hH
  have hTK : p.T.ownBlock ≠ some p.K := tree_ne_map hT hK
  have hB1 : w.heap.size ≠ p.G ∧ w.heap.size ≠ p.H ∧ w.heap.size ≠ p.K ∧ p.T.ownBlock ≠ some w.heap.size := ⟨by omega, by omega, by omega, fun e => by have := hTs _ e; omega⟩
  have hB2 : w.heap.size + 1 ≠ p.G ∧ w.heap.size + 1 ≠ p.H ∧ w.heap.size + 1 ≠ p.K ∧ p.T.ownBlock ≠ some (w.heap.size + 1) ∧ w.heap.size + 1 ≠ w.heap.size := ⟨by omega, by omega, by omega, fun e => by have := hTs _ e; omega, by omega⟩
  obtain ⟨B1, hB1e⟩ : ∃ B1, B1 = w.heap.size := ⟨_, rfl⟩
  obtain ⟨B2, hB2e⟩ : ∃ B2, B2 = w.heap.size + 1 := ⟨_, rfl⟩
  obtain ⟨L, hL⟩ : ∃ L, L = (W.setCell ⟨p.G, 0, none⟩ (.int .i32 1)).setCell ⟨w.heap.size + 1, 0, none⟩ (.int .i64 9) := ⟨_, rfl⟩
  have hLk : ∀ b, b ≠ p.G → b ≠ w.heap.size + 1 → L.heap[b]? = W.heap[b]? := fun b e1 e2 => by rw [hL, heap_ne (Ne.symm e2), heap_ne (Ne.symm e1)]
  have hLw : ∀ b, b < w.heap.size → b ≠ p.G → L.heap[b]? = w.heap[b]? := fun b hbs e1 => (hLk b e1 (by omega)).trans (hb.block b hbs)
  have hLG : L.heap[p.G]? = some (.cells (grow 1 0 0 false s.cnt s.n s.own p.T p.H p.K) 72 (0, 0)) := by rw [hL, heap_ne (by omega), heap_setCell_same _ _ _ _ _ _ hWG]; rfl
  have hL2 : L.heap[w.heap.size + 1]? = some (.cells #[.int .i64 9] 32 (0, 0)) := by rw [hL, heap_setCell_same _ _ _ _ _ _ ((heap_ne (by omega)).trans hW2)]; rfl
  have hdo := do_first L lo t (treeL s).length p.G p.H p.K w.heap.size (w.heap.size + 1) 1 s.cnt s.n s.own p.T (lcells (treeL s)) f f2 hLG (ownsRow_blk hT fun b hb => hLw b (hTs b hb) (fun e => hTG (by rw [hb, e]))) (mapAt_same hH (hLw _ hHs (Ne.symm hGH))) (mapAt_same hK (hLw _ hKs (Ne.symm hGK))) hHK hTG hTH hTK hGH hGK ((hLk _ hB1.1 (by omega)).trans hW1) hL2 hB1 hB2
  have hLs : L.heap.size = W.heap.size := by rw [hL, size_setCell, size_setCell]
  have hWs : W.heap.size = w.heap.size + 2 := by rw [hW, World.size_alloc, World.size_alloc]
  have hLo : L.os = w.os ∧ L.tape = w.tape ∧ L.output = w.output := by rw [hL]; exact ⟨hb.os, hb.tape, hb.output⟩
  have c0 : W.cell? ⟨p.G, 0, none⟩ = some (.int .i32 0) := cell_of_row _ _ _ _ _ _ hWG
  have f0 := frozen_of_row _ _ 0 _ _ hWG
  have b1 : W.cell? ⟨w.heap.size, 0, none⟩ = some (.pointer (some ⟨p.G, 0, none⟩)) := cell_of_row _ _ _ _ _ _ hW1
  have g1 : (W.setCell ⟨p.G, 0, none⟩ (.int .i32 1)).heap[w.heap.size]? = _ := (heap_ne (Ne.symm hB1.1)).trans hW1
  have g2 : (W.setCell ⟨p.G, 0, none⟩ (.int .i32 1)).heap[w.heap.size + 1]? = _ := (heap_ne (Ne.symm hB2.1)).trans hW2
  have k1 : (W.setCell ⟨p.G, 0, none⟩ (.int .i32 1)).cell? ⟨w.heap.size, 0, none⟩ = some (.pointer (some ⟨p.G, 0, none⟩)) := cell_of_row _ _ _ _ _ _ g1
  have k2 : (W.setCell ⟨p.G, 0, none⟩ (.int .i32 1)).cell? ⟨w.heap.size + 1, 0, none⟩ = some (.int .i64 0) := cell_of_row _ _ _ _ _ _ g2
  have k2f := frozen_of_row _ _ 0 _ _ g2
  have l1 : L.cell? ⟨w.heap.size, 0, none⟩ = some (.pointer (some ⟨p.G, 0, none⟩)) := cell_of_row _ _ _ _ _ _ ((hLk _ hB1.1 (by omega)).trans hW1)
  have Hdo := Lib.hid hdo
  have HW := Lib.hid hW
  have HL := Lib.hid hL
  have Hlw := Lib.hid hLw
  have HLo := Lib.hid hLo
  clear hdo hW hL hLw hLk hLG hL2 hWG hW1 hW2 hG hG' hT hH hK hf hf2 hb g1 g2 hLo
  have hmf : ∀ (fn : Fn) (first cap : Array Value) (w : World), (Instr.makeFunc fn first cap).run Tryz.prog w = .ok (.func fn first cap) w := fun _ _ _ _ => rfl
  go_enter_defers Tryz.func16, Tryz.ntmps16
  go_upto_region 1 with (fail)
  rw [← HW.out]
  go_upto_region 4 with (go_at_call 24; refine (lock_free muLib ⟨p.G, 0, none⟩ _ c0 f0).mono ?_; rintro e w' ⟨rfl, rfl⟩)
  rw [← HL.out]
  go_wp2_with (go_at_call 26; refine Hdo.out.mono ?_; rintro e w2 ⟨rfl, hx⟩; have m2 : w2.cell? ⟨w.heap.size + 1, 0, none⟩ = some (.int .i64 0) := cell_of_row _ _ _ _ _ _ hx.2.2.2.1; have m2f := frozen_of_row _ _ 0 _ _ hx.2.2.2.1; have Hx := Lib.hid hx; clear hx)
  rw [setCell_self m2]
  obtain ⟨x1, x2, x3, x4, x5, x6, x7, x8, x9⟩ := Hx.out
  refine leaves_cons (f := 25) (args := #[.pointer (some ⟨p.G, 0, none⟩)]) (by simp) (by simp [go_sem]) ?_
  refine (unlock_deferred muLib ⟨p.G, 0, none⟩ .returning _ (cell_of_row _ _ _ _ _ _ x1) (frozen_of_row _ _ 0 _ _ x1)).mono ?_
  rintro e u' w3 ⟨rfl, rfl, rfl⟩
  refine ⟨_, results_errno rfl _ _ (w.heap.size + 1) (.int .i64 0) rfl ((World.cell?_of_block (a := ⟨w.heap.size + 1, 0, none⟩) (heap_ne (Ne.symm hB2.1))).trans m2), rfl, ⟨?_, World.ownsRow_nil _ _ _ _, ⟨_, mapAt_same x2 (heap_ne hGH), head_shut s⟩, ⟨_, mapAt_same x3 (heap_ne hGK), kept_shut s⟩, hlG, hlH, hlK, hHK⟩, ⟨x5.trans HLo.out.1, x6.trans HLo.out.2.1, x7.trans HLo.out.2.2, ?_, fun b hb e1 e2 e3 e4 => ?_⟩⟩
  · rw [heap_setCell_same _ _ _ _ _ _ x1, grow_g]
    obtain ⟨G, H, K, T, mu⟩ := p
    have hm : mu = 0 := hmu
    subst hm
    rfl
  · rw [size_setCell]; omega
  · rw [heap_ne (Ne.symm e1), x9 b (by omega) e1 e2 e3 e4 (by omega)]
    exact Hlw.out b hb e1
set_option maxHeartbeats 4000000 in
theorem Close_again (w : World) (lo t : Nat) (p : GPl) (s : GSt) (hA : GroupAt w lo p s t) (hmu : p.mu = 0) (hc : s.closed = true) :
    Calls Tryz.prog 16 #[.pointer (some ⟨p.G, 0, none⟩)] w fun e w' => e = .returned (.int .i64 9) ∧ GroupAt w' lo p s t ∧ Frm w w' p := by
  have hlt := group_lt hA
  have hG' : w.heap[p.G]? = some (.cells (grow 0 1 0 true s.cnt s.n s.own p.T p.H p.K) 72 (0, 0)) := by
    rw [hA.1, grow_g, hmu, hc]; rfl
  obtain ⟨W, hW⟩ : ∃ W, W = (w.alloc (.cells #[.pointer (some ⟨p.G, 0, none⟩)] 31)).alloc (.cells #[.int .i64 0] 32) := ⟨_, rfl⟩
  have hb : Below w.heap.size w W := by rw [hW]; exact balloc (balloc (Below.refl _ _) _) _
  have hGs := (hlt p.G (.inl rfl)).2
  have hWG := (hb.block _ hGs).trans hG'
  have hW1 : W.heap[w.heap.size]? = some (.cells #[.pointer (some ⟨p.G, 0, none⟩)] 31 (0, 0)) := by rw [hW]; exact heap_alloc2_old w _ _
  have hW2 : W.heap[w.heap.size + 1]? = some (.cells #[.int .i64 0] 32 (0, 0)) := by rw [hW]; exact heap_alloc2_new w _ _
  have hB1 : w.heap.size ≠ p.G := by omega
  have hB2 : w.heap.size + 1 ≠ p.G := by omega
  obtain ⟨L, hL⟩ : ∃ L, L = (W.setCell ⟨p.G, 0, none⟩ (.int .i32 1)).setCell ⟨w.heap.size + 1, 0, none⟩ (.int .i64 9) := ⟨_, rfl⟩
  have hLG : L.heap[p.G]? = some (.cells (grow 1 1 0 true s.cnt s.n s.own p.T p.H p.K) 72 (0, 0)) := by rw [hL, heap_ne (by omega), heap_setCell_same _ _ _ _ _ _ hWG]; rfl
  have hL2 : L.heap[w.heap.size + 1]? = some (.cells #[.int .i64 9] 32 (0, 0)) := by rw [hL, heap_setCell_same _ _ _ _ _ _ ((heap_ne (by omega)).trans hW2)]; rfl
  have hL1 : L.heap[w.heap.size]? = some (.cells #[.pointer (some ⟨p.G, 0, none⟩)] 31 (0, 0)) := by rw [hL, heap_ne (by omega), heap_ne (Ne.symm hB1)]; exact hW1
  have hdo := fun fv => do_done L p.G p.H p.K 1 s.cnt s.n s.own p.T fv hLG
  have hLs : L.heap.size = w.heap.size + 2 := by rw [hL, size_setCell, size_setCell, hW, World.size_alloc, World.size_alloc]
  have hLo : L.os = w.os ∧ L.tape = w.tape ∧ L.output = w.output := by rw [hL]; exact ⟨hb.os, hb.tape, hb.output⟩
  have hLw : ∀ b, b < w.heap.size → b ≠ p.G → L.heap[b]? = w.heap[b]? := fun b hbs e1 => by rw [hL, heap_ne (by omega), heap_ne (Ne.symm e1)]; exact hb.block b hbs
  have c0 : W.cell? ⟨p.G, 0, none⟩ = some (.int .i32 0) := cell_of_row _ _ _ _ _ _ hWG
  have f0 := frozen_of_row _ _ 0 _ _ hWG
  have b1 : W.cell? ⟨w.heap.size, 0, none⟩ = some (.pointer (some ⟨p.G, 0, none⟩)) := cell_of_row _ _ _ _ _ _ hW1
  have g1 : (W.setCell ⟨p.G, 0, none⟩ (.int .i32 1)).heap[w.heap.size]? = _ := (heap_ne (Ne.symm hB1)).trans hW1
  have g2 : (W.setCell ⟨p.G, 0, none⟩ (.int .i32 1)).heap[w.heap.size + 1]? = _ := (heap_ne (Ne.symm hB2)).trans hW2
  have k1 : (W.setCell ⟨p.G, 0, none⟩ (.int .i32 1)).cell? ⟨w.heap.size, 0, none⟩ = some (.pointer (some ⟨p.G, 0, none⟩)) := cell_of_row _ _ _ _ _ _ g1
  have k2 : (W.setCell ⟨p.G, 0, none⟩ (.int .i32 1)).cell? ⟨w.heap.size + 1, 0, none⟩ = some (.int .i64 0) := cell_of_row _ _ _ _ _ _ g2
  have k2f := frozen_of_row _ _ 0 _ _ g2
  have l1 : L.cell? ⟨w.heap.size, 0, none⟩ = some (.pointer (some ⟨p.G, 0, none⟩)) := cell_of_row _ _ _ _ _ _ hL1
  have l2 : L.cell? ⟨w.heap.size + 1, 0, none⟩ = some (.int .i64 9) := cell_of_row _ _ _ _ _ _ hL2
  have l2f := frozen_of_row _ _ 0 _ _ hL2
  have Hdo := Lib.hid hdo
  have HW := Lib.hid hW
  have HL := Lib.hid hL
  have HLw := Lib.hid hLw
  have HLo := Lib.hid hLo
  have HLG := Lib.hid hLG
  have HA := Lib.hid hA
  clear hdo hW hL hLw hLG hL1 hL2 hWG hW1 hW2 hG' hb g1 g2 hLo hA
  have hmf : ∀ (fn : Fn) (first cap : Array Value) (w : World), (Instr.makeFunc fn first cap).run Tryz.prog w = .ok (.func fn first cap) w := fun _ _ _ _ => rfl
  go_enter_defers Tryz.func16, Tryz.ntmps16
  go_upto_region 1 with (fail)
  rw [← HW.out]
  go_upto_region 4 with (go_at_call 24; refine (lock_free muLib ⟨p.G, 0, none⟩ _ c0 f0).mono ?_; rintro e w' ⟨rfl, rfl⟩)
  rw [← HL.out]
  go_wp2_with (go_at_call 26; refine (Hdo.out _).mono ?_; rintro e w2 ⟨rfl, rfl⟩)
  rw [setCell_self l2]
  refine leaves_cons (f := 25) (args := #[.pointer (some ⟨p.G, 0, none⟩)]) (by simp) (by simp [go_sem]) ?_
  refine (unlock_deferred muLib ⟨p.G, 0, none⟩ .returning _ (cell_of_row _ _ _ _ _ _ HLG.out) (frozen_of_row _ _ 0 _ _ HLG.out)).mono ?_
  rintro e u' w3 ⟨rfl, rfl, rfl⟩
  have hkk : ∀ b, b < w.heap.size → b ≠ p.G → (w2.setCell ⟨p.G, 0, none⟩ (.int .i32 0)).heap[b]? = w.heap[b]? := fun b hb e1 => (heap_ne (Ne.symm e1)).trans (HLw.out b hb e1)
  have hGk : (w2.setCell ⟨p.G, 0, none⟩ (.int .i32 0)).heap[p.G]? = w.heap[p.G]? := by
    rw [heap_setCell_same _ _ _ _ _ _ HLG.out, HA.out.1, grow_g, hmu, hc]; rfl
  refine ⟨_, results_errno rfl _ _ (w.heap.size + 1) (.int .i64 9) rfl ((World.cell?_of_block (a := ⟨w.heap.size + 1, 0, none⟩) (heap_ne (Ne.symm hB2))).trans l2), rfl, group_keep HA.out fun b hb => ?_, ⟨HLo.out.1, HLo.out.2.1, HLo.out.2.2, by rw [size_setCell]; omega, fun b hb e1 _ _ _ => hkk b hb e1⟩⟩
  by_cases e : b = p.G
  · rw [e]; exact hGk
  · exact hkk b (hlt b hb).2 e
end Go.Proofs.YtccidllcjaaeeabGreatDoor
/- The shelf's contracts laid at this program: slices.SortFunc of items. No condition. -/
namespace Go.Proofs.YtccidllcjaaeeabGreatDoor
open Go.Shelf
def Tryz.lays35_ren : Go.Shelf.Ren := ⟨fun | 6 => 29 | 15 => 50 | 14 => 49 | 28 => 84 | 29 => 85 | 20 => 76 | 21 => 77 | 22 => 78 | 23 => 79 | 24 => 80 | 25 => 81 | 26 => 82 | 27 => 83 | 46 => 108 | 47 => 109 | 48 => 110 | 49 => 111 | 50 => 112 | 57 => 127 | n => n, fun | 22 => 84 | 24 => 88 | 25 => 108 | 3 => 3 | 39 => 122 | 0 => 0 | 53 => 56 | 55 => 175 | 4 => 4 | 46 => 167 | 45 => 166 | 50 => 171 | 5 => 5 | 9 => 9 | 66 => 205 | 70 => 209 | 76 => 236 | 77 => 237 | n => n, fun | n => n⟩
theorem Tryz.lays35 : Go.Proofs.SlLaysF0.n6 Tryz.prog Tryz.lays35_ren := {
  mixed := by kernel_rfl
  f6 := ⟨Tryz.f29.name, by decide, Tryz.func29.trans (congrArg some (by kernel_rfl))⟩
  f14 := ⟨Tryz.f49.name, by decide, Tryz.func49.trans (congrArg some (by kernel_rfl))⟩
  f15 := Tryz.func50.trans (congrArg some (by kernel_rfl))
  f20 := ⟨Tryz.f76.name, by decide, Tryz.func76.trans (congrArg some (by kernel_rfl))⟩
  f21 := ⟨Tryz.f77.name, by decide, Tryz.func77.trans (congrArg some (by kernel_rfl))⟩
  f22 := ⟨Tryz.f78.name, by decide, Tryz.func78.trans (congrArg some (by kernel_rfl))⟩
  f23 := ⟨Tryz.f79.name, by decide, Tryz.func79.trans (congrArg some (by kernel_rfl))⟩
  f24 := ⟨Tryz.f80.name, by decide, Tryz.func80.trans (congrArg some (by kernel_rfl))⟩
  f25 := ⟨Tryz.f81.name, by decide, Tryz.func81.trans (congrArg some (by kernel_rfl))⟩
  f26 := ⟨Tryz.f82.name, by decide, Tryz.func82.trans (congrArg some (by kernel_rfl))⟩
  f27 := ⟨Tryz.f83.name, by decide, Tryz.func83.trans (congrArg some (by kernel_rfl))⟩
  f28 := Tryz.func84.trans (congrArg some (by kernel_rfl))
  f29 := Tryz.func85.trans (congrArg some (by kernel_rfl))
  f46 := ⟨Tryz.f108.name, by decide, Tryz.func108.trans (congrArg some (by kernel_rfl))⟩
  f47 := Tryz.func109.trans (congrArg some (by kernel_rfl))
  f48 := Tryz.func110.trans (congrArg some (by kernel_rfl))
  f49 := ⟨Tryz.f111.name, by decide, Tryz.func111.trans (congrArg some (by kernel_rfl))⟩
  f50 := ⟨Tryz.f112.name, by decide, Tryz.func112.trans (congrArg some (by kernel_rfl))⟩
  f57 := ⟨Tryz.f127.name, by decide, Tryz.func127.trans (congrArg some (by kernel_rfl))⟩
  t0 := Tryz.underlying0
  a0 := Tryz.isAgg0
  z0 := Tryz.sizeOf0
  v0 := Tryz.zeroValue0
  t3 := Tryz.underlying3
  a3 := Tryz.isAgg3
  z3 := Tryz.sizeOf3
  v3 := Tryz.zeroValue3
  t4 := Tryz.underlying4
  a4 := Tryz.isAgg4
  z4 := Tryz.sizeOf4
  v4 := Tryz.zeroValue4
  t5 := Tryz.underlying5
  a5 := Tryz.isAgg5
  z5 := Tryz.sizeOf5
  v5 := Tryz.zeroValue5
  t9 := Tryz.underlying9
  a9 := Tryz.isAgg9
  z9 := Tryz.sizeOf9
  v9 := Tryz.zeroValue9
  t22 := Tryz.underlying84
  a22 := Tryz.isAgg84
  z22 := Tryz.sizeOf84
  v22 := Tryz.zeroValue84
  t25 := Tryz.underlying108
  a25 := Tryz.isAgg108
  z25 := Tryz.sizeOf108
  v25 := Tryz.zeroValue108
  t39 := Tryz.underlying122
  a39 := Tryz.isAgg122
  z39 := Tryz.sizeOf122
  v39 := Tryz.zeroValue122
  t45 := Tryz.underlying166
  a45 := Tryz.isAgg166
  z45 := Tryz.sizeOf166
  v45 := Tryz.zeroValue166
  t46 := Tryz.underlying167
  a46 := Tryz.isAgg167
  z46 := Tryz.sizeOf167
  v46 := Tryz.zeroValue167
  t50 := Tryz.underlying171
  a50 := Tryz.isAgg171
  z50 := Tryz.sizeOf171
  v50 := Tryz.zeroValue171
  t53 := Tryz.underlying56
  a53 := Tryz.isAgg56
  z53 := Tryz.sizeOf56
  v53 := Tryz.zeroValue56
  t55 := Tryz.underlying175
  a55 := Tryz.isAgg175
  z55 := Tryz.sizeOf175
  v55 := Tryz.zeroValue175
  t66 := Tryz.underlying205
  a66 := Tryz.isAgg205
  z66 := Tryz.sizeOf205
  v66 := Tryz.zeroValue205
  t70 := Tryz.underlying209
  a70 := Tryz.isAgg209
  z70 := Tryz.sizeOf209
  v70 := Tryz.zeroValue209
  t76 := Tryz.underlying236
  a76 := Tryz.isAgg236
  z76 := Tryz.sizeOf236
  v76 := Tryz.zeroValue236
  t77 := Tryz.underlying237
  a77 := Tryz.isAgg237
  z77 := Tryz.sizeOf237
  v77 := Tryz.zeroValue237 }
end Go.Proofs.YtccidllcjaaeeabGreatDoor
/- The walk of a group's Dump behind Close. Conditions: the group lies and reads as its state; its lock is free; it is closed. -/
namespace Go.Proofs.YtccidllcjaaeeabGreatDoor
set_option maxRecDepth 100000
open Go Go.Maps Go.RowKit
open Go.Shelf Go.Lib Go.Sort Go.MuLone
theorem head_none {s : GSt} {f : Lit → Option Value} (hf : HeadOk s f) (hI : GInv s) (hc : s.closed = true) : f = fun _ => none := by
  funext kl
  cases h : f kl with
  | none => rfl
  | some v =>
    obtain ⟨m, hm, rfl⟩ := hf.2 kl (by rw [h]; simp)
    rw [hf.1 m (by have := hI.n16; omega), headV, if_neg (fun h => by rw [hc] at h; cases h.1)] at h
    cases h
theorem kept_none {s : GSt} {f : Lit → Option Value} (hf : KeptOk s f) (hI : GInv s) (hc : s.closed = true) : f = fun _ => none := by
  funext kl
  cases h : f kl with
  | none => rfl
  | some v =>
    obtain ⟨m, g, hm, hg, rfl⟩ := hf.2 kl (by rw [h]; simp)
    rw [hf.1 m g (by have := hI.n16; omega) (by omega), keptV, if_neg (fun h => by rw [hc] at h; cases h.1)] at h
    cases h
theorem int_inv {v : Value} {kl : Lit} (h : keyOf Tryz.prog 3 v = some kl) : ∃ x : Int, v = .int .i64 x := by
  rw [keyOf_int Tryz.underlying3] at h
  cases v <;> simp [mapKey, Tryz.underlying3] at h
  obtain ⟨⟨rfl, _⟩, _⟩ := h
  exact ⟨_, rfl⟩
set_option maxHeartbeats 4000000 in
theorem Dump_shut (w : World) (lo t : Nat) (p : GPl) (s : GSt) (hA : GroupAt w lo p s t) (hI : GInv s) (hmu : p.mu = 0) (hc : s.closed = true) :
    Calls Tryz.prog 18 #[.pointer (some ⟨p.G, 0, none⟩)] w fun e w' => e = .returned (.slice none 0 0) ∧ GroupAt w' lo p s t ∧ Frm w w' p := by
  have hL := group_mu hA 1
  have hlt := group_lt hA
  obtain ⟨c0, _⟩ := g_cells hA.1
  rw [hmu] at c0
  have f0 := frozen_of_row _ _ 0 _ _ hA.1
  obtain ⟨hG, hT, ⟨f, hH, hf⟩, ⟨f2, hK, hf2⟩, _⟩ := hL
  obtain ⟨_, _, _, _, _, c9, c10, c11⟩ := g_cells hG
  have e1 := head_none hf hI hc
  have e2 := kept_none hf2 hI hc
  subst e1 e2
  have htl : treeL s = [] := by rw [treeL, if_pos hc]
  rw [htl] at hT
  obtain ⟨ta, tc, htf⟩ := (SliceR.of_own hT).form
  have htf' : p.T = .slice ta 0 tc := htf
  rw [show ({ p with mu := 1 } : GPl).T = p.T from rfl, htf'] at c9
  have HH := Lib.hid hH
  have HK := Lib.hid hK
  have HA := Lib.hid hA
  have Hlt := Lib.hid hlt
  have HG := Lib.hid hG
  clear hG hT hH hf hK hf2 hA hlt htl htf
  have hS := fun W => AnyF.slices_SortFunc_none (P := Tryz.prog) (ρ := Tryz.lays35_ren) Tryz.lays35 none 0 (.func (.func 30) #[] #[]) W
  have Hs := Lib.hid hS
  clear hS
  obtain ⟨D1, hD1, rD1⟩ := HH.out
  have HD1 := Lib.hid hD1
  have HrD1 := Lib.hid rD1
  clear hD1 rD1
  go_enter_defers Tryz.func18, Tryz.ntmps18
  go_wp2_with (first
    | (go_at_call 24; refine (lock_free muLib ⟨p.G, 0, none⟩ _ c0 f0).mono ?_; rintro e w' ⟨rfl, rfl⟩))
  refine wp_loop_rounds 1 ?_
  rw [rounds_succ]
  go_wp2_with (first
    | (at_range; refine wpList_range_own _ rfl _ 52 rfl 3 102 int_law Tryz.underlying52 _ p.H t _ rfl HD1.out ?_; intro w0 hrg0 hg0 hs0))
  go_frame
  have hK0 := mapAt_kept HK.out hg0 (by simp)
  obtain ⟨D2, hD2, rD2⟩ := hK0
  have HD2 := Lib.hid hD2
  have HrD2 := Lib.hid rD2
  have Hg0 := Lib.hid hg0
  have hw0G := (hg0.block p.G (by rw [size_setCell]; exact (Hlt.out p.G (.inl rfl)).2) (by simp)).trans HG.out
  obtain ⟨_, _, _, _, _, _, _, d11⟩ := g_cells (p := { p with mu := 1 }) hw0G
  have hl1 : ∀ kl, Maps.has D1 kl = false := fun kl => (HrD1.out kl).2 rfl
  clear hD2 rD2 hg0 hw0G
  refine wp_loop_rounds 1 ?_
  rw [rounds_succ]
  go_wp2_with (first
    | (at_next; go_must (refine wpList_next_ranges _ rfl _ rfl 3 int_law heldR (fun x : Int => .int .i64 x) (fun v : Value => v) (fun key kl hk => int_inv hk) (fun v y _ => ⟨v, rfl⟩) p.H _ t _ _ _ rfl hrg0 ?_ ?_)))
  · intro hc0
    go_wp2_with (first
      | (at_range; refine wpList_range_own _ rfl _ 53 rfl 104 36 slot_law Tryz.underlying53 _ p.K t _ rfl HD2.out ?_; intro w1 hrg1 hg1 hs1))
    go_frame
    have hl2 : ∀ kl, Maps.has D2 kl = false := fun kl => (HrD2.out kl).2 rfl
    have Hg1 := Lib.hid hg1
    clear hg1
    refine wp_loop_rounds 1 ?_
    rw [rounds_succ]
    go_wp2_with (first
      | (at_next; go_must (refine wpList_next_ranges _ rfl _ rfl 104 slot_law heldR (fun x : Int × Int => slotV x.1 x.2) (fun v : Value => v) (fun key kl hk => slot_inv hk) (fun v y _ => ⟨v, rfl⟩) p.K _ t _ _ _ rfl hrg1 ?_ ?_)))
    · intro hc1
      go_wp2_with (first
        | (go_at_call 29; refine (Hs.out _).mono ?_; rintro e w2 ⟨rfl, rfl⟩))
      have hLL := group_mu HA.out 1
      have hkk : ∀ b, b < w.heap.size → w2.heap[b]? = (w.setCell ⟨p.G, 0, none⟩ (.int .i32 1)).heap[b]? := fun b hb => by
        have h0 := Hg0.out.size
        rw [size_setCell] at h0
        rw [Hg1.out.block b (by omega) (by simp), Hg0.out.block b (by rw [size_setCell]; exact hb) (by simp)]
      have hA2 := group_keep hLL fun b hb => hkk b (Hlt.out b hb).2
      refine leaves_cons (f := 25) (args := #[.pointer (some ⟨p.G, 0, none⟩)]) (by simp) (by simp [go_sem]) ?_
      refine (unlock_deferred muLib ⟨p.G, 0, none⟩ .returning _ (g_cells hA2.1).1 (frozen_of_row _ _ 0 _ _ hA2.1)).mono ?_
      rintro e u' w3 ⟨rfl, rfl, rfl⟩
      have hA3 := group_mu hA2 0
      rw [p_mu hmu] at hA3
      refine ⟨_, results_tmp rfl _ _ _, rfl, hA3, ⟨Hg1.out.os.trans Hg0.out.os, Hg1.out.tape.trans Hg0.out.tape, Hg1.out.output.trans Hg0.out.output, ?_, fun b hb h1 _ _ _ => ?_⟩⟩
      · have h0 := Hg0.out.size
        have h1 := Hg1.out.size
        rw [size_setCell] at h0
        rw [size_setCell]; omega
      · rw [heap_ne (Ne.symm h1), hkk b hb, heap_ne (Ne.symm h1)]
end Go.Proofs.YtccidllcjaaeeabGreatDoor
