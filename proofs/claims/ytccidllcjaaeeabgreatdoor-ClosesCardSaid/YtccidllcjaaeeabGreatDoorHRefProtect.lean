/- The document's Protect. Conditions: the group reads as its state; its numbers are in bounds. -/
import Derived.Test.YtccidllcjaaeeabGreatDoorHRefProt
import Derived.StillTailTactics
namespace Go.Proofs.YtccidllcjaaeeabGreatDoor
set_option maxRecDepth 100000
open Go Go.Maps Go.RowKit
open Go.Shelf Go.Lib Go.Sort Go.MuLone
/-- Only the two blocks may have turned. -/
structure RFrm (w w' : World) (R B : Nat) : Prop where
  os : w'.os = w.os
  tape : w'.tape = w.tape
  output : w'.output = w.output
  size : w.heap.size ≤ w'.heap.size
  block : ∀ b, b < w.heap.size → b ≠ R → b ≠ B → w'.heap[b]? = w.heap[b]?
theorem RFrm.refl (w : World) (R B : Nat) : RFrm w w R B := ⟨rfl, rfl, rfl, Nat.le_refl _, fun _ _ _ _ => rfl⟩
theorem RFrm.trans {a b c : World} {R B : Nat} (h : RFrm a b R B) (k : RFrm b c R B) : RFrm a c R B :=
  ⟨k.os.trans h.os, k.tape.trans h.tape, k.output.trans h.output, Nat.le_trans h.size k.size, fun i hi h1 h2 => (k.block i (Nat.lt_of_lt_of_le hi h.size) h1 h2).trans (h.block i hi h1 h2)⟩
theorem RFrm.below {a b c : World} {R B : Nat} (h : RFrm a b R B) (k : Below b.heap.size b c) : RFrm a c R B :=
  h.trans ⟨k.os, k.tape, k.output, k.size, fun i hi _ _ => k.block i hi⟩
theorem RFrm.set {w : World} {R B : Nat} (b j : Nat) (v : Value) (hb : b = R ∨ b = B) : RFrm w (w.setCell ⟨b, j, none⟩ v) R B :=
  ⟨rfl, rfl, rfl, by simp [World.setCell], fun i _ h1 h2 => heap_ne (by rcases hb with rfl | rfl <;> omega)⟩
theorem RFrm.drew {w w' : World} {R B : Nat} (h : RFrm w w' R B) : RFrm w w'.drew R B := ⟨h.os, h.tape, h.output, h.size, h.block⟩
theorem RefAt.drew {w : World} {lo R B : Nat} {s : GSt} {st : Int} (h : RefAt w lo R B s st) : RefAt w.drew lo R B s st := h.keep fun _ _ _ _ _ => rfl
/-- Steps is set. -/
theorem RefAt.steps {w : World} {lo R B : Nat} {s : GSt} {st : Int} (h : RefAt w lo R B s st) (x : Int) : RefAt (w.setCell ⟨R, 12, none⟩ (.int .i64 x)) lo R B s x := by
  have hne := h.ne
  obtain ⟨⟨cs, h1, h2, h3, h4, h5, h6, h7⟩, ⟨ms, m1, m2⟩, l1, l2⟩ := h
  have hlt := (Array.getElem?_eq_some_iff.1 h7).1
  refine ⟨⟨_, heap_setCell_same _ _ _ _ _ _ h1, fun j v hv => ?_, ?_, ?_, ?_, ?_, ?_⟩, ⟨ms, by rw [heap_ne hne]; exact m1, fun m hm => ?_⟩, l1, l2⟩
  · have hj := (List.getElem?_eq_some_iff.1 hv).1
    have h8 := h2 j v hv
    by_cases e : j = 12
    · subst e
      rw [h7] at h8
      cases h8
      rw [cells_len] at hj
      have : (cells s.root).toList[12]? = some (.int .i64 st) := hv
      rw [cells_toList, List.getElem?_map] at this
      cases hq : s.root[12]? with
      | none => rw [hq] at this; cases this
      | some b => rw [hq] at this; simp at this
    · rw [Array.getElem?_setIfInBounds_ne (by omega)]; exact h8
  · rw [Array.getElem?_setIfInBounds_ne (by omega)]; exact h3
  · rw [Array.getElem?_setIfInBounds_ne (by omega)]; exact h4
  · rw [Array.getElem?_setIfInBounds_ne (by omega)]; exact h5
  · rw [Array.getElem?_setIfInBounds_ne (by omega)]; exact h6
  · rw [Array.getElem?_setIfInBounds_self]; simp [hlt]
  · obtain ⟨a, b, ov, c, d⟩ := m2 m hm
    exact ⟨a, b, ov, c, d.keep fun b' cs' hb' => heap_ne (fun e => by
      rw [← e, h1] at hb'
      injection hb' with hb'
      injection hb' with _ hb'
      exact absurd hb' (by decide))⟩
set_option maxHeartbeats 4000000 in
theorem refProtect_no (w : World) (lo R B : Nat) (s : GSt) (st : Int) (text : ByteArray) (c : Int) (h : RefAt w lo R B s st) (hI : GInv s) (ht : text.size ≤ 9223372036854775807) (hc : protNo s text.size = some c) :
    Calls Tryz.prog 21 #[.pointer (some ⟨R, 0, none⟩), .string text] w fun e w' => e = .returned (.tuple #[.string ⟨#[]⟩, .int .i64 c]) ∧ RefAt w' lo R B s 0 ∧ RFrm w w' R B := by
  obtain ⟨_, _, c9, c10, _, _, _⟩ := h.fields
  have hown := hI.own
  obtain ⟨own, ho⟩ : ∃ own, own = s.own := ⟨_, rfl⟩
  obtain ⟨n, hn⟩ : ∃ n, n = s.n := ⟨_, rfl⟩
  rw [← ho] at c9
  rw [← ho, ← hn] at hown
  rw [← hn] at c10
  have hoI : (own : Int) < (n : Nat) := by omega
  have ho0 : (0 : Int) ≤ (own : Nat) := by omega
  have Hh := Lib.hid h
  have Hc := Lib.hid hc
  have Ho := Lib.hid ho
  have Hn := Lib.hid hn
  clear h hc ho hn
  go_enter Tryz.func21, Tryz.ntmps21
  go_upto_region 1 with (fail)
  go_quiet (fail)
  have h0 : RefAt (w.drewN nq) lo R B s st := Hh.out.keep fun _ _ _ _ _ => rfl
  have hfr0 : RFrm w (w.drewN nq) R B := ⟨rfl, rfl, rfl, Nat.le_refl _, fun _ _ _ _ => rfl⟩
  generalize w.drewN nq = w0 at h0 hfr0 ⊢
  clear c9 c10 Hh
  obtain ⟨_, _, _, _, c11, c12, fz⟩ := h0.fields
  obtain ⟨_, m1, _, _⟩ := h0.member s.own (by rw [← Ho.out, ← Hn.out]; exact hown)
  obtain ⟨nx, hx⟩ : ∃ nx, nx = (s.M s.own).next := ⟨_, rfl⟩
  rw [← hx, ← Ho.out] at m1
  have hne := h0.ne
  have hfz := fz 12
  have hst := h0.steps 0
  have hfr := hfr0.trans (RFrm.set (w := w0) (R := R) (B := B) R 12 (.int .i64 0) (.inl rfl))
  have m1' : (w0.setCell ⟨R, 12, none⟩ (.int .i64 0)).cell? ⟨B, own * 3 + 1, none⟩ = some (.int .i64 nx) := (cell_ne hne).trans m1
  have c11' : (w0.setCell ⟨R, 12, none⟩ (.int .i64 0)).cell? ⟨R, 11, none⟩ = some (.bool s.closed) := (World.cell?_setCell_other _ _ _ _ (by simp)).trans c11
  have Hst := Lib.hid hst
  have Hfr := Lib.hid hfr
  have Hx := Lib.hid hx
  have hc := Hc.out
  unfold protNo at hc
  clear hst hfr fz hx h0 hfr0 Hc
  cases hcl : s.closed with
  | true =>
    rw [hcl] at c11 c11'
    rw [if_pos hcl] at hc
    cases hc
    go_wp2
    go_ret2
    exact ⟨rfl, Hst.out, Hfr.out⟩
  | false =>
    rw [hcl] at c11 c11'
    rw [if_neg (by rw [hcl]; simp)] at hc
    by_cases h40 : 40 < text.size
    · have hI : decide ((40 : Int) < (text.size : Nat)) = true := decide_eq_true (by omega)
      rw [if_pos h40] at hc
      cases hc
      go_wp2
      go_ret2
      exact ⟨rfl, Hst.out, Hfr.out⟩
    · have hI : ¬ (40 : Int) < (text.size : Nat) := by omega
      rw [if_neg h40, ← Hx.out] at hc
      by_cases hp : 65535 < nx
      · have hpI : (65535 : Int) < (nx : Nat) := by omega
        rw [if_pos hp] at hc
        cases hc
        clear hp
        go_wp2
        go_ret2
        exact ⟨rfl, Hst.out, Hfr.out⟩
      · rw [if_neg hp] at hc
        cases hc
theorem ref_head_cells (own nx : Nat) (ho : own < 256) (hx : nx < 65536) : (#[.int .u8 (own : Int), .int .u8 ((nx : Int) / 256), .int .u8 ((nx : Int) % 256)] : Array Value) = cells (headL own nx) := by
  have u (z : Nat) (hz : z < 256) : (z : Int) = ((UInt8.ofNat z).toNat : Int) := by simp; omega
  rw [show ((nx : Int) / 256) = ((nx / 256 : Nat) : Int) from by omega, show ((nx : Int) % 256) = ((nx % 256 : Nat) : Int) from by omega, u own ho, u (nx / 256) (by omega), u (nx % 256) (by omega)]
  rfl
/-- One member turns. -/
theorem RefAt.turn {w w' : World} {lo R B : Nat} {s : GSt} {st : Int} (h : RefAt w lo R B s st) (m : Nat) (x : Mem) (c : Int) (hk : ∀ b, b < w.heap.size → b ≠ B → w'.heap[b]? = w.heap[b]?) (hB : ∀ ms, w.heap[B]? = some (.cells ms 111 (0, 0)) → ∃ ms', w'.heap[B]? = some (.cells ms' 111 (0, 0)) ∧ (∀ j, j ≠ m * 3 → j ≠ m * 3 + 1 → j ≠ m * 3 + 2 → ms'[j]? = ms[j]?) ∧ (m < s.n → ms'[m * 3]? = some (.bool x.begun) ∧ ms'[m * 3 + 1]? = some (.int .i64 x.next) ∧ ∃ ov, ms'[m * 3 + 2]? = some ov ∧ OverAt w' lo ov x.over)) : RefAt w' lo R B { s with cnt := c, M := fun i => if i = m then x else s.M i } st := by
  have hne := h.ne
  obtain ⟨⟨cs, h1, h2⟩, ⟨ms, h3, h4⟩, h5, h6⟩ := h
  obtain ⟨ms', b1, b2, b3⟩ := hB ms h3
  refine ⟨⟨cs, (hk R (Array.getElem?_eq_some_iff.1 h1).1 hne).trans h1, h2⟩, ⟨ms', b1, fun k hk' => ?_⟩, h5, h6⟩
  by_cases e : k = m
  · subst e
    have := b3 hk'
    show _ = some (Value.bool (if k = k then x else s.M k).begun) ∧ _ = some (Value.int .i64 (if k = k then x else s.M k).next) ∧ ∃ ov, _ ∧ OverAt w' lo ov (if k = k then x else s.M k).over
    rw [if_pos rfl]
    exact this
  · show _ = some (Value.bool (if k = m then x else s.M k).begun) ∧ _ = some (Value.int .i64 (if k = m then x else s.M k).next) ∧ ∃ ov, _ ∧ OverAt w' lo ov (if k = m then x else s.M k).over
    rw [if_neg e, b2 _ (by omega) (by omega) (by omega), b2 _ (by omega) (by omega) (by omega), b2 _ (by omega) (by omega) (by omega)]
    obtain ⟨p1, p2, ov, p3, p4⟩ := h4 k hk'
    exact ⟨p1, p2, ov, p3, p4.keep fun b cs' hb' => hk b (Array.getElem?_eq_some_iff.1 hb').1 (fun e => by
      rw [e, h3] at hb'
      injection hb' with hb'
      injection hb' with _ hb'
      exact absurd hb' (by decide))⟩
/-- The own member's next and begun are set. -/
theorem RefAt.prot {w : World} {lo R B : Nat} {s : GSt} {st : Int} (h : RefAt w lo R B s st) (c : Int) :
    RefAt ((w.setCell ⟨B, s.own * 3, none⟩ (.bool true)).setCell ⟨B, s.own * 3 + 1, none⟩ (.int .i64 ((s.M s.own).next + 1 : Nat))) lo R B (protS s c) st := by
  refine h.turn s.own ⟨true, (s.M s.own).next + 1, (s.M s.own).over⟩ c (fun b _ hb => (heap_ne (Ne.symm hb)).trans (heap_ne (Ne.symm hb))) fun ms hms => ?_
  have h4 := h
  obtain ⟨_, ⟨ms2, h3, h4⟩, _, _⟩ := h4
  obtain rfl : ms2 = ms := by
    rw [h3] at hms
    injection hms with hms
    injection hms with hms _
  refine ⟨_, heap_setCell_same _ _ _ _ _ _ (heap_setCell_same _ _ _ _ _ _ hms), fun j j0 j1 _ => ?_, fun hm => ?_⟩
  · rw [Array.getElem?_setIfInBounds_ne (by omega), Array.getElem?_setIfInBounds_ne (by omega)]
  obtain ⟨p1, p2, ov, p3, p4⟩ := h4 s.own hm
  have l0 := (Array.getElem?_eq_some_iff.1 p1).1
  have l1 := (Array.getElem?_eq_some_iff.1 p2).1
  refine ⟨?_, ?_, ov, ?_, ?_⟩
  · rw [Array.getElem?_setIfInBounds_ne (by omega), Array.getElem?_setIfInBounds_self]; simp [l0]
  · rw [Array.getElem?_setIfInBounds_self]; simp [l1]
  · rw [Array.getElem?_setIfInBounds_ne (by omega), Array.getElem?_setIfInBounds_ne (by omega)]; exact p3
  · exact p4.keep fun b cs' hb' => (heap_ne (fun e => by
      rw [← e, h3] at hb'
      injection hb' with hb'
      injection hb' with _ hb'
      exact absurd hb' (by decide))).trans (heap_ne (fun e => by
      rw [← e, h3] at hb'
      injection hb' with hb'
      injection hb' with _ hb'
      exact absurd hb' (by decide)))
theorem RefAt.key_cells {w : World} {lo R B : Nat} {s : GSt} {st : Int} {own n nx : Nat} {a0 a1 a2 a3 a4 a5 a6 a7 : UInt8} (h : RefAt w lo R B s st) (hr : s.root = [a0, a1, a2, a3, a4, a5, a6, a7]) (ho : own = s.own) (hn : n = s.n) (hx : nx = (s.M s.own).next) (hlt : s.own < s.n) :
    w.cell? ⟨R, 0, none⟩ = some (.int .u8 a0.toNat) ∧ w.cell? ⟨R, 1, none⟩ = some (.int .u8 a1.toNat) ∧ w.cell? ⟨R, 2, none⟩ = some (.int .u8 a2.toNat) ∧ w.cell? ⟨R, 3, none⟩ = some (.int .u8 a3.toNat) ∧ w.cell? ⟨R, 4, none⟩ = some (.int .u8 a4.toNat) ∧ w.cell? ⟨R, 5, none⟩ = some (.int .u8 a5.toNat) ∧ w.cell? ⟨R, 6, none⟩ = some (.int .u8 a6.toNat) ∧ w.cell? ⟨R, 7, none⟩ = some (.int .u8 a7.toNat) ∧ w.cell? ⟨R, 8, none⟩ = some (.int .i64 n) ∧ w.cell? ⟨R, 9, none⟩ = some (.int .i64 own) ∧ w.cell? ⟨B, own * 3 + 1, none⟩ = some (.int .i64 nx) := by
  obtain ⟨hroot, c8, c9, _⟩ := h.fields
  obtain ⟨_, m1, _, _⟩ := h.member s.own hlt
  rw [hr] at hroot
  subst ho hn hx
  have key : ∀ (j : Nat) (v : Value), (cells [a0, a1, a2, a3, a4, a5, a6, a7]).toList[j]? = some v → w.cell? ⟨R, j, none⟩ = some v := fun j v hv => by
    have := hroot j v hv
    rwa [Nat.zero_add] at this
  exact ⟨key 0 _ rfl, key 1 _ rfl, key 2 _ rfl, key 3 _ rfl, key 4 _ rfl, key 5 _ rfl, key 6 _ rfl, key 7 _ rfl, c8, c9, m1⟩
set_option maxHeartbeats 8000000 in
theorem refProtect_ok (w : World) (lo R B : Nat) (s : GSt) (st : Int) (text : ByteArray) (h : RefAt w lo R B s st) (hI : GInv s) (hcl : s.closed = false) (ht : text.size ≤ 40) (hp : (s.M s.own).next ≤ 65535) :
    Calls Tryz.prog 21 #[.pointer (some ⟨R, 0, none⟩), .string text] w fun e w' => e = .returned (.tuple #[.string ⟨(frameL s s.own (s.M s.own).next text.data.toList).toArray⟩, .int .i64 0]) ∧ RefAt w' lo R B (protS s s.cnt) (boundR s s.own (s.M s.own).next text.size) ∧ RFrm w w' R B := by
  obtain ⟨_, _, c9, c10, _, _, _⟩ := h.fields
  have hown := hI.own
  have hn16 := hI.n16
  have hown' := hown
  obtain ⟨own, ho⟩ : ∃ own, own = s.own := ⟨_, rfl⟩
  obtain ⟨n, hn⟩ : ∃ n, n = s.n := ⟨_, rfl⟩
  rw [← ho] at c9
  rw [← ho, ← hn] at hown
  rw [← hn] at c10 hn16
  have hoI : (own : Int) < (n : Nat) := by omega
  have ho0 : (0 : Int) ≤ (own : Nat) := by omega
  have Hh := Lib.hid h
  have Ho := Lib.hid ho
  have Hn := Lib.hid hn
  have Hown := Lib.hid hown'
  clear h ho hn hown'
  go_enter Tryz.func21, Tryz.ntmps21
  go_upto_region 1 with (fail)
  go_quiet (fail)
  have h0 : RefAt (w.drewN nq) lo R B s st := Hh.out.keep fun _ _ _ _ _ => rfl
  have hfr0 : RFrm w (w.drewN nq) R B := ⟨rfl, rfl, rfl, Nat.le_refl _, fun _ _ _ _ => rfl⟩
  generalize w.drewN nq = w0 at h0 hfr0 ⊢
  clear c9 c10 Hh
  obtain ⟨_, _, _, _, c11, c12, fz⟩ := h0.fields
  obtain ⟨_, m1, _, _⟩ := h0.member s.own Hown.out
  obtain ⟨nx, hx⟩ : ∃ nx, nx = (s.M s.own).next := ⟨_, rfl⟩
  rw [← hx, ← Ho.out] at m1
  rw [← hx] at hp
  rw [hcl] at c11
  have hne := h0.ne
  have hfz := fz 12
  have hst := h0.steps 0
  have hfr := hfr0.trans (RFrm.set (w := w0) (R := R) (B := B) R 12 (.int .i64 0) (.inl rfl))
  have m1' : (w0.setCell ⟨R, 12, none⟩ (.int .i64 0)).cell? ⟨B, own * 3 + 1, none⟩ = some (.int .i64 nx) := (cell_ne hne).trans m1
  have c11' : (w0.setCell ⟨R, 12, none⟩ (.int .i64 0)).cell? ⟨R, 11, none⟩ = some (.bool false) := (World.cell?_setCell_other _ _ _ _ (by simp)).trans c11
  have hI40 : ¬ (40 : Int) < (text.size : Nat) := by omega
  have hpI : ¬ (65535 : Int) < (nx : Nat) := by omega
  have hnx0 : nx < 65536 := by omega
  have Hst := Lib.hid hst
  have Hfr := Lib.hid hfr
  have Hx := Lib.hid hx
  have Hnx := Lib.hid hnx0
  have Hp := Lib.hid hp
  clear hst hfr fz hx h0 hfr0 hp hnx0
  go_upto_region 9 with (fail)
  have hX := Hst.out
  have hfX := Hfr.out
  generalize World.setCell w0 _ _ = X at hX hfX ⊢
  clear Hst Hfr c11 c12 m1 hfz m1' c11'
  obtain ⟨_, _, x9, _, _, _, xz⟩ := hX.fields
  obtain ⟨_, xm, _, _⟩ := hX.member s.own Hown.out
  rw [← Hx.out, ← Ho.out] at xm
  rw [← Ho.out] at x9
  obtain ⟨bd, hbd⟩ : ∃ bd, bd = boundR s s.own (s.M s.own).next text.size := ⟨_, rfl⟩
  have hbnd := fun W (hW : RefAt W lo R B s 0) => bound_any W lo R B s.own (s.M s.own).next text.size s 0 hW hI.n16 Hown.out (by have := Hx.out; have := Hp.out; omega) (by have := Hx.out; have := Hp.out; omega) (by omega)
  rw [← hbd, ← Hx.out, ← Ho.out] at hbnd
  have hfz := xz 12
  have k9 : (X.setCell ⟨R, 12, none⟩ (.int .i64 bd)).cell? ⟨R, 9, none⟩ = some (.int .i64 own) := (World.cell?_setCell_other _ _ _ _ (by simp)).trans x9
  have km : (X.setCell ⟨R, 12, none⟩ (.int .i64 bd)).cell? ⟨B, own * 3 + 1, none⟩ = some (.int .i64 nx) := (cell_ne hne).trans xm
  have Hbnd := Lib.hid hbnd
  have HX := Lib.hid hX
  have HfX := Lib.hid hfX
  have Hbd := Lib.hid hbd
  clear hbnd hX hfX hbd xz
  go_region_held3 (fun w' => w'.cell? ⟨R, 9, none⟩ = some (.int .i64 own) ∧ w'.cell? ⟨B, own * 3 + 1, none⟩ = some (.int .i64 nx)) (first | (refine ⟨?_, ?_⟩ <;> (first | with_reducible assumption | (simp only [World.cell?_drew]; with_reducible assumption)))) (first | (go_at_call 39; refine (Hbnd.out _ HX.out.drew).mono ?_; rintro e w1 ⟨rfl, h1⟩; obtain rfl := h1.symm))
  have hY := (HX.out.steps (bd : Nat)).drew
  have hfY := (HfX.out.trans (RFrm.set (w := X) (R := R) (B := B) R 12 (.int .i64 bd) (.inl rfl))).drew
  rename_i hHeld1
  clear hHeld1 k9 km h1 x9 xm hfz HX HfX Hbnd
  generalize (X.setCell ⟨R, 12, none⟩ (.int .i64 bd)).drew = Y at hY hfY ⊢
  obtain ⟨a0, a1, a2, a3, a4, a5, a6, a7, hr⟩ := eight hI.root
  obtain ⟨z0, z1, z2, z3, z4, z5, z6, z7, z8, z9, z10⟩ := hY.key_cells hr Ho.out Hn.out Hx.out Hown.out
  have hRY : R < Y.heap.size := block_lt_of_cell z0
  have hBY : B < Y.heap.size := block_lt_of_cell z10
  have hRT : R ≠ Y.heap.size := by omega
  have hBT : B ≠ Y.heap.size := by omega
  obtain ⟨q, hq⟩ : ∃ q, q = keyS s s.own (s.M s.own).next := ⟨_, rfl⟩
  have hql : q.length = 8 := by rw [hq]; exact kd_length _ _ _
  have hkey := fun W => refKey_yes W s.root s.n s.own (s.M s.own).next hI.root Hown.out hI.n16 (by rw [← Hx.out]; exact Hp.out)
  have hqe : keyL (leafL s.root s.n s.own) (s.M s.own).next = q := by rw [hq]; rfl
  rw [hqe, ← Hx.out, ← Hn.out, ← Ho.out, hr] at hkey
  have hstA := fun w => run_storeCells_fresh (P := Tryz.prog) q hql w 36
  have hqs : (cells q).size = 8 := by rw [cells_size, hql]
  have HY := Lib.hid hY
  have HfY := Lib.hid hfY
  have Hkey := Lib.hid hkey
  have Hr := Lib.hid hr
  have Hq := Lib.hid hq
  have Hql := Lib.hid hql
  clear hY hfY hkey hr hq hqe hql
  go_upto_region 10 with (fail)
  go_cut [7, 8] (fun s7 s8 wx => ∃ T, s7 = .pointer (some ⟨T, 0, none⟩) ∧ s8 = .int .i64 0 ∧ Y.heap.size ≤ T ∧ wx.heap[T]? = some (.cells (cells q) 36 (0, 0)) ∧ Below Y.heap.size Y wx)
  case first =>
    go_region_held3 (fun w' => w'.cell? ⟨R, 0, none⟩ = some (.int .u8 a0.toNat) ∧ w'.cell? ⟨R, 1, none⟩ = some (.int .u8 a1.toNat) ∧ w'.cell? ⟨R, 2, none⟩ = some (.int .u8 a2.toNat) ∧ w'.cell? ⟨R, 3, none⟩ = some (.int .u8 a3.toNat) ∧ w'.cell? ⟨R, 4, none⟩ = some (.int .u8 a4.toNat) ∧ w'.cell? ⟨R, 5, none⟩ = some (.int .u8 a5.toNat) ∧ w'.cell? ⟨R, 6, none⟩ = some (.int .u8 a6.toNat) ∧ w'.cell? ⟨R, 7, none⟩ = some (.int .u8 a7.toNat) ∧ w'.cell? ⟨R, 8, none⟩ = some (.int .i64 n) ∧ w'.cell? ⟨R, 9, none⟩ = some (.int .i64 own) ∧ w'.cell? ⟨B, own * 3 + 1, none⟩ = some (.int .i64 nx)) (refine ⟨?_, ?_, ?_, ?_, ?_, ?_, ?_, ?_, ?_, ?_, ?_⟩ <;> (first | with_reducible assumption | (simp only [World.cell?_drew]; with_reducible assumption) | ((try simp only [World.cell?_drew]); rw [World.cell?_alloc_past _ _ _ hR2]; assumption) | ((try simp only [World.cell?_drew]); rw [World.cell?_alloc_past _ _ _ hB2]; assumption) | ((try simp only [World.cell?_drew]); rw [World.cell?_alloc_past _ _ _ hRY]; assumption) | ((try simp only [World.cell?_drew]); rw [World.cell?_alloc_past _ _ _ hBY]; assumption) | ((try simp only [World.cell?_drew]); rw [World.cell?_of_block (setRow_other _ _ _ _ hRT)]; assumption) | ((try simp only [World.cell?_drew]); rw [World.cell?_of_block (setRow_other _ _ _ _ hBT)]; assumption))) (first | (go_at_call 36; refine (Hkey.out _).mono ?_; rintro e w2 ⟨rfl, hb2⟩; have hw2 : RefAt w2 lo R B s bd := (by first | exact HY.out.drew.below hb2 | exact ((HY.out.below (balloc (Below.refl _ _) _)).drew).below hb2); have Hw2 := Lib.hid hw2; clear hw2; obtain ⟨z0, z1, z2, z3, z4, z5, z6, z7, z8, z9, z10⟩ := Hw2.out.key_cells Hr.out Ho.out Hn.out Hx.out Hown.out; have hR2 := block_lt_of_cell z0; have hB2 := block_lt_of_cell z10; (first | (have zr := (hb2.block Y.heap.size (by simp)).trans (heap_alloc_new Y _); have hstB := run_storeCells_row (P := Tryz.prog) zr q (by rw [Hql.out]; rfl); have Zr := Lib.hid zr; clear zr) | skip)))
    · go_wp2_with fail
      go_meet
      exact ⟨w2.heap.size, rfl, rfl, hb2.size, heap_alloc_new _ _, balloc (bnext (Below.refl _ _).drew hb2) _⟩
    · go_wp2_with fail
      go_meet
      exact ⟨Y.heap.size, rfl, rfl, Nat.le_refl _, setRow_heap _ _ _ _ _ _ Zr.out, below_setRow (bnext (balloc (Below.refl _ _) _).drew hb2) (Nat.le_refl _) _⟩
  case rest =>
    obtain ⟨T, rfl, rfl, hT, hTq, hb⟩ := hcut
    clear z0 z1 z2 z3 z4 z5 z6 z7 z8 z9 z10
    have hw := HY.out.below hb
    have hfw := HfY.out.below hb
    obtain ⟨_, _, _, _, _, _, _, _, _, z9, z10⟩ := hw.key_cells Hr.out Ho.out Hn.out Hx.out Hown.out
    have hR2 := block_lt_of_cell z9
    have hB2 := block_lt_of_cell z10
    have HTq := Lib.hid hTq
    have Hw := Lib.hid hw
    have Hfw := Lib.hid hfw
    have Hb := Lib.hid hb
    clear hTq hw hfw hb
    have hne := Hw.out.ne
    obtain ⟨hd, hhd⟩ : ∃ hd : ByteArray, hd = ⟨(headL own nx).toArray⟩ := ⟨_, rfl⟩
    have hcv : (convert 73 9 (.slice (some ⟨wc.heap.size, 0, none⟩) 3 3)).run Tryz.prog (wc.alloc (.cells #[.int .u8 own, .int .u8 ((nx : Int) / 256), .int .u8 ((nx : Int) % 256)] 5)).drew = .ok (.string hd) (wc.alloc (.cells #[.int .u8 own, .int .u8 ((nx : Int) / 256), .int .u8 ((nx : Int) % 256)] 5)).drew := by
      rw [ref_head_cells own nx (by omega) (Hnx.out), hhd]
      exact conv_str _ _ 3 (headL own nx) (Rd.row (heap_alloc_new _ _))
    have hds : hd.size ≤ 65540 := by rw [hhd]; show (headL own nx).toArray.size ≤ _; simp [headL]
    have Hhd := Lib.hid hhd
    have Hds := Lib.hid hds
    clear hhd hds
    go_upto_region 11 with (fail)
    go_still_tail 16, (by kernel_rfl)
    change wpList _ _ _ _ _ wc.drew
    go_upto_region 12 with (fail)
    generalize hV : (World.alloc wc _).drew = V
    have hb4 : Below wc.heap.size wc V := by rw [← hV]; exact (balloc (Below.refl _ _) _).drew
    clear hcv hV z9 z10
    have hTq4 : V.heap[T]? = some (.cells (cells q) 36 (0, 0)) := (hb4.block T (Array.getElem?_eq_some_iff.1 HTq.out).1).trans HTq.out
    have h4 := Hw.out.below hb4
    have hf4 := Hfw.out.below hb4
    have HTq4 := Lib.hid hTq4
    have H4 := Lib.hid h4
    have Hf4 := Lib.hid hf4
    clear hTq4 h4 hf4 hb4 hR2 hB2 HTq Hw Hfw
    go_wp2_with (first | (refine wpList_load_row rfl 36 _ rfl T rfl _ _ _ _ HTq4.out Tryz.underlying36 rfl (by rw [infoSecret, cells_size, Hql.out]) ?_))
    refine (refSeal_any _ q hd text Hql.out Hds.out (by omega)).mono ?_
    rintro e w5 ⟨rfl, hb5⟩
    have hcat : ¬ 9223372036854775807 < hd.size + (sealL q hd.data.toList text.data.toList).length := by
      rw [sealL_length, Array.length_toList]
      have := Hds.out
      have : text.data.size = text.size := rfl
      omega
    have h5 := H4.out.below hb5
    have hf5 := Hf4.out.below hb5
    obtain ⟨m0, m1, _, mz⟩ := h5.member s.own Hown.out
    rw [← Hx.out, ← Ho.out] at m1
    rw [← Ho.out] at m0
    have mz0 := mz (own * 3)
    have mz1 : (w5.setCell ⟨B, own * 3, none⟩ (.bool true)).frozen? ⟨B, own * 3 + 1, none⟩ = false := by rw [World.frozen?_setCell]; exact mz _
    have m1' : (w5.setCell ⟨B, own * 3, none⟩ (.bool true)).cell? ⟨B, own * 3 + 1, none⟩ = some (.int .i64 nx) := (World.cell?_setCell_other _ _ _ _ (by simp)).trans m1
    have H5 := Lib.hid h5
    have Hf5 := Lib.hid hf5
    clear h5 hf5 H4 Hf4 hb5 HTq4 mz
    go_wp2
    go_ret2
    refine ⟨?_, ?_, ?_⟩
    · have e1 : (hd ++ ⟨(sealL q hd.data.toList text.data.toList).toArray⟩ : ByteArray) = ⟨(frameL s s.own (s.M s.own).next text.data.toList).toArray⟩ := by
        rw [Hhd.out, Hq.out, Ho.out, Hx.out]
        exact str_append _ _
      exact congrArg (fun z => Ending.returned (Value.tuple #[.string z, .int .i64 0])) e1
    · have e2 := H5.out.prot s.cnt
      rw [← Hx.out, ← Ho.out] at e2
      rw [← Hbd.out]
      exact e2
    · exact (Hf5.out.trans (RFrm.set (w := w5) (R := R) (B := B) B _ _ (.inr rfl))).trans (RFrm.set (R := R) (B := B) B _ _ (.inr rfl))
end Go.Proofs.YtccidllcjaaeeabGreatDoor
