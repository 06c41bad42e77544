/- The walk of a side's dump. Conditions: the side lies and reads as its state; the errors' type word lies. -/
import Derived.Test.YtccidllcjaaeeabGreatDoorHRefDump
import Derived.Test.YtccidllcjaaeeabGreatDoorHSideProt
import Derived.Deep.MidRow
namespace Go.Proofs.YtccidllcjaaeeabGreatDoor
set_option maxRecDepth 100000
open Go Go.Maps Go.RowKit
open Go.Shelf Go.Lib Go.Sort Go.MuLone
def keptD (s : GSt) : List DItem := if s.closed then [] else dumpL s
theorem keptD_eight {s : GSt} (hI : GInv s) : ∀ d ∈ keptD s, d.s.length = 8 := by
  unfold keptD
  split
  · intro d hd; cases hd
  · exact dump_len8 hI
theorem keptD_len {s : GSt} (hI : GInv s) : (keptD s).length ≤ 2000 := by
  unfold keptD
  split
  · exact Nat.zero_le _
  · rw [dumpL, List.length_append, List.length_append, List.length_map]
    have h1 := (tree_in hI).2.2
    have h2 := kepts_len hI
    have h3 : (headsL s).length ≤ 16 := by
      rw [headsL, List.length_map]
      exact Nat.le_trans (List.length_filter_le _ _) (by rw [List.length_range]; exact hI.n16)
    omega
theorem gd_any (w : World) (t : Nat) (p : GPl) (s : GSt) (hA : GroupAt w 1 p s t) (hI : GInv s) (hmu : p.mu = 0) (ht : t < 1000000000000) :
    Calls Tryz.prog 18 #[.pointer (some ⟨p.G, 0, none⟩)] w fun e w' => ∃ v, e = .returned v ∧ w'.ownsRow w.heap.size 88 12 v (keptD s).length (itemsV (keptD s)) ∧ GroupAt w' 1 p s t ∧ Frm w w' p := by
  cases hc : s.closed with
  | true =>
    have e : keptD s = [] := by rw [keptD, if_pos hc]
    rw [e]
    refine (Dump_shut w 1 t p s hA hI hmu hc).mono ?_
    rintro e w' ⟨rfl, hA', hF⟩
    exact ⟨_, rfl, World.ownsRow_nil _ _ _ _, hA', hF⟩
  | false =>
    have e : keptD s = dumpL s := by rw [keptD, if_neg (by rw [hc]; simp)]
    rw [e]
    exact Dump_open w 1 t p s hA hI hmu hc ht
theorem rd_any (w : World) (R B : Nat) (s : GSt) (st : Int) (h : RefAt w 1 R B s st) (hI : GInv s) :
    Calls Tryz.prog 19 #[.pointer (some ⟨R, 0, none⟩)] w fun e w' => ∃ v, e = .returned v ∧ w'.ownsRow w.heap.size 88 12 v (keptD s).length (itemsV (keptD s)) ∧ Below w.heap.size w w' := by
  cases hc : s.closed with
  | true =>
    have e : keptD s = [] := by rw [keptD, if_pos hc]
    rw [e]
    refine (refDump_shut w 1 R B s st h hc).mono ?_
    rintro e w' ⟨rfl, rfl⟩
    exact ⟨_, rfl, World.ownsRow_nil _ _ _ _, Below.refl _ _⟩
  | false =>
    have e : keptD s = dumpL s := by rw [keptD, if_neg (by rw [hc]; simp)]
    rw [e]
    exact refDump_open w 1 R B s st h hI hc
theorem set_twelve (w : World) (g o : Nat) : ((((((((((((w.setCell ⟨g, o, none⟩ (.int .i64 0)).setCell ⟨g, o + 1, none⟩ (.int .i64 0)).setCell ⟨g, o + 2, none⟩ (.int .i64 0)).setCell ⟨g, o + 3, none⟩ (.int .i64 0)).setCell ⟨g, o + 4, none⟩ (.int .u8 0)).setCell ⟨g, o + 5, none⟩ (.int .u8 0)).setCell ⟨g, o + 6, none⟩ (.int .u8 0)).setCell ⟨g, o + 7, none⟩ (.int .u8 0)).setCell ⟨g, o + 8, none⟩ (.int .u8 0)).setCell ⟨g, o + 9, none⟩ (.int .u8 0)).setCell ⟨g, o + 10, none⟩ (.int .u8 0)).setCell ⟨g, o + 11, none⟩ (.int .u8 0)) = w.setCells g o [.int .i64 0, .int .i64 0, .int .i64 0, .int .i64 0, .int .u8 0, .int .u8 0, .int .u8 0, .int .u8 0, .int .u8 0, .int .u8 0, .int .u8 0, .int .u8 0] := rfl
/-- Many cells of one block. -/
theorem setCells_row (b : Nat) (t : TypeId) : ∀ (vs : List Value) (o : Nat) (w : World) (cs : Array Value), w.heap[b]? = some (.cells cs t (0, 0)) → RFrm w (w.setCells b o vs) b b ∧ ∃ cs' : Array Value, (w.setCells b o vs).heap[b]? = some (.cells cs' t (0, 0)) ∧ cs'.size = cs.size
  | [], _, w, cs, h => ⟨RFrm.refl _ _ _, cs, h, rfl⟩
  | v :: vs, o, w, cs, h => by
    have h1 := heap_setCell_same w b o cs t v h
    obtain ⟨a, cs', c, d⟩ := setCells_row b t vs (o + 1) _ _ h1
    exact ⟨(RFrm.set b o v (.inl rfl)).trans a, cs', c, d.trans (by simp)⟩
/-- A row of items of one's own. -/
def ItemRow (w : World) (g n : Nat) : Prop := ∃ cs : Array Value, w.heap[g]? = some (.cells cs 88 (0, 0)) ∧ n * 12 ≤ cs.size
theorem itemRow_there {w : World} {g n i : Nat} (h : ItemRow w g n) (hi : i < n) : w.there g (i * 12) 12 := fun j hj => by
  obtain ⟨cs, h1, h2⟩ := h
  have hlt : i * 12 + j < cs.size := by omega
  refine ⟨?_, frozen_of_row _ _ _ _ _ h1⟩
  rw [cell_of_row _ _ _ _ _ _ h1, Array.getElem?_eq_getElem hlt]
  rfl
/-- A row of items of one's own has turned. -/
theorem side_enditem {w w4 w6 : World} {P : Nat → Prop} {d : SPl} {s : GSt} {u g : Nat} {cs : Array Value} (h : SideAt w4 (Grown P w w4) d s u) (hP : PFrm w w4 P) (hf : RFrm w4 w6 g g) (hg : w.heap.size ≤ g) (hc : w4.heap[g]? = some (.cells cs 88 (0, 0))) :
    SideAt w6 (Grown P w w6) d s u ∧ PFrm w w6 P := by
  have hno := side_other h hc (by decide) (by decide) (by decide) (by decide) (by decide)
  have hint : ∀ (b : Nat) (cs : Array Value), w4.heap[b]? = some (.cells cs 3 (0, 0)) → w6.heap[b]? = w4.heap[b]? := fun b cs' hc' => by
    have hne : b ≠ g := fun e => by rw [e, hc] at hc'; injection hc' with hc'; injection hc' with _ hc'; exact absurd hc' (by decide)
    exact hf.block b (Array.getElem?_eq_some_iff.1 hc').1 hne hne
  refine ⟨h.turn (fun b hb => ?_) hint fun b hb => ?_, hP.over ⟨hf.os, hf.tape, hf.output, hf.size, fun x hx hn => ?_, hint⟩⟩
  · have hne : b ≠ g := fun e => hno (e ▸ hb)
    exact hf.block b (side_lt h b hb) hne hne
  · rcases h.own b hb with h1 | h1
    · exact .inl h1
    · exact .inr ⟨h1.1, Nat.lt_of_lt_of_le h1.2 hf.size⟩
  · have hne : x ≠ g := fun e => hn (e ▸ hg)
    exact hf.block x hx hne hne
set_option maxHeartbeats 16000000 in
theorem side_dump (w : World) (P : Nat → Prop) (d0 : SPl) (s : GSt) (u : Nat) (h : SideAt w P d0 s u) (hE : EG w) (h0 : ¬ P 0) (hu : u ≤ 100000) :
    Calls Tryz.prog 9 #[.pointer (some ⟨d0.S, 0, none⟩)] w fun e w' => e = .returned (.bool true) ∧ SideGo w w' P d0 u := by
  have hgd := gd_any w (5 * u) d0.p s h.grp h.inv h.mu (by omega)
  have hrd := fun W st (hr : RefAt W 1 d0.R d0.B s st) => rd_any W d0.R d0.B s st hr h.inv
  obtain ⟨D, hD⟩ : ∃ D, D = keptD s := ⟨_, rfl⟩
  have hD8 : ∀ d ∈ D, d.s.length = 8 := by rw [hD]; exact keptD_eight h.inv
  have hDl : D.length ≤ 2000 := by rw [hD]; exact keptD_len h.inv
  simp only [← hD] at hgd hrd
  obtain ⟨n, hn⟩ : ∃ n, n = D.length := ⟨_, rfl⟩
  simp only [← hn] at hgd hrd
  rw [← hn] at hDl
  obtain ⟨v0, v1, _⟩ := side_row h
  have Hgd := Lib.hid hgd
  have Hrd := Lib.hid hrd
  have HD8 := Lib.hid hD8
  have Hn := Lib.hid hn
  have Hh := Lib.hid h
  have HE := Lib.hid hE
  have H0 := Lib.hid h0
  clear hgd hrd hD8 hn hD h hE h0
  go_enter Tryz.func9, Tryz.ntmps9
  go_upto_region 2 with (first | (go_at_call 18; refine Hgd.out.mono ?_; rintro e w1 ⟨x1, rfl, ho1, hA1, hF1⟩; have Ho1 := Lib.hid ho1; have HA1 := Lib.hid hA1; have HF1 := Lib.hid hF1; clear ho1 hA1 hF1; go_frame))
  have hst := frm_stay Hh.out.grp HF1.out
  have hS1 := (hst _ _ _ _ Hh.out.blk (by decide) (by decide)).trans Hh.out.blk
  obtain ⟨st, hr0⟩ := Hh.out.ref
  have hr1 := hr0.stay hst
  have sd1 : SideAt w1 P d0 s u := ⟨hS1, Hh.out.mu, HA1.out, ⟨st, hr1⟩, Hh.out.inv, Hh.out.low, Hh.out.high, Hh.out.own⟩
  have pf1 : PFrm w w1 P := PFrm.ofGrp HF1.out Hh.out.grp fun x hx => Hh.out.own x (OwnS.grp hx)
  have y1 : w1.cell? ⟨d0.S, 1, none⟩ = some (.pointer (some ⟨d0.R, 0, none⟩)) := cell_of_row _ _ _ _ _ _ hS1
  have Hr1 := Lib.hid hr1
  have Sd1 := Lib.hid sd1
  have Pf1 := Lib.hid pf1
  clear hst hS1 hr0 hr1 sd1 pf1 v0 v1
  go_upto_region 3 with (first | (go_at_call 19; refine (Hrd.out _ _ Hr1.out).mono ?_; rintro e w2 ⟨x2, rfl, ho2, hb2⟩; have Ho2 := Lib.hid ho2; have Hb2 := Lib.hid hb2; clear ho2 hb2; go_frame))
  have ho1' := ownsRow_below Ho1.out Hb2.out
  have sd2 := (Sd1.out.below Hb2.out).more (Q := Grown P w w2) (Nat.le_succ u) fun b hb => .inl hb
  have pf2 := Pf1.out.below Hb2.out
  obtain ⟨p1, c1, rfl⟩ := row_form ho1'
  obtain ⟨p2, c2, rfl⟩ := row_form Ho2.out
  have H1 := Lib.hid ho1'
  have H2 := Lib.hid Ho2.out
  have Sd2 := Lib.hid sd2
  have Pf2 := Lib.hid pf2
  have Hw12 := Lib.hid pf2.size
  clear ho1' sd2 pf2 y1 Ho1 Ho2
  go_upto_region 6 with (fail)
  go_loopw [5] (fun iv wr => ∃ i : Nat, i ≤ n ∧ iv = .int .i64 i ∧ Below w2.heap.size w2 wr) (fun iv _ => n - (intOf iv).toNat)
  case atStart => exact ⟨0, Nat.zero_le _, rfl, Below.refl _ _⟩
  case round =>
    obtain ⟨i, hin, rfl, hb⟩ := hrel
    have Hb := Lib.hid hb
    clear hb
    by_cases hi : i < n
    · have hiI : (i : Int) < (n : Nat) := by omega
      have hi0 : (0 : Int) ≤ (i : Nat) := by omega
      have hiD : i < D.length := by have := Hn.out; omega
      obtain ⟨d, hd⟩ : ∃ d, d = D[i] := ⟨_, rfl⟩
      have r1 := ownsRow_below H1.out Hb.out
      have r2 := ownsRow_below H2.out Hb.out
      obtain ⟨g1, rfl⟩ : ∃ g1, p1 = some ⟨g1, 0, none⟩ := by
        rcases r1.2 with ⟨_, h0⟩ | ⟨g1, cap, cur, e, _⟩
        · omega
        · cases e; exact ⟨g1, rfl⟩
      obtain ⟨g2, rfl⟩ : ∃ g2, p2 = some ⟨g2, 0, none⟩ := by
        rcases r2.2 with ⟨_, h0⟩ | ⟨g2, cap, cur, e, _⟩
        · omega
        · cases e; exact ⟨g2, rfl⟩
      have q1 : wr.rangeAt g1 (i * 12) (icells d).toList := by
        rw [hd]; exact item_range (by rw [← Hn.out]; exact r1) HD8.out i hiD
      have q2 : wr.rangeAt g2 (i * 12) (icells d).toList := by
        rw [hd]; exact item_range (by rw [← Hn.out]; exact r2) HD8.out i hiD
      have hd8 : d.s.length = 8 := by rw [hd]; exact HD8.out _ (List.getElem_mem _)
      obtain ⟨b, hbe, hrun⟩ := neq_items d d hd8 hd8
      obtain rfl : b = false := hbe rfl
      have hg := eqGuardItem
      obtain ⟨x0, x1, x2, x3, x4, x5, x6, x7, xs⟩ := eight hd8
      have k0 : wr.drew.cell? ⟨g1, i * 12, none⟩ = some (.int .i64 d.kind) := q1 0 _ (by rw [Array.getElem?_toList, icells, cells, xs]; rfl)
      have k1 : wr.drew.cell? ⟨g1, i * 12 + 1, none⟩ = some (.int .i64 d.a) := q1 1 _ (by rw [Array.getElem?_toList, icells, cells, xs]; rfl)
      have k2 : wr.drew.cell? ⟨g1, i * 12 + 2, none⟩ = some (.int .i64 d.b) := q1 2 _ (by rw [Array.getElem?_toList, icells, cells, xs]; rfl)
      have k3 : wr.drew.cell? ⟨g1, i * 12 + 3, none⟩ = some (.int .i64 d.g) := q1 3 _ (by rw [Array.getElem?_toList, icells, cells, xs]; rfl)
      have k4 : wr.drew.cell? ⟨g1, i * 12 + 4, none⟩ = some (.int .u8 x0.toNat) := q1 4 _ (by rw [Array.getElem?_toList, icells, cells, xs]; rfl)
      have k5 : wr.drew.cell? ⟨g1, i * 12 + 5, none⟩ = some (.int .u8 x1.toNat) := q1 5 _ (by rw [Array.getElem?_toList, icells, cells, xs]; rfl)
      have k6 : wr.drew.cell? ⟨g1, i * 12 + 6, none⟩ = some (.int .u8 x2.toNat) := q1 6 _ (by rw [Array.getElem?_toList, icells, cells, xs]; rfl)
      have k7 : wr.drew.cell? ⟨g1, i * 12 + 7, none⟩ = some (.int .u8 x3.toNat) := q1 7 _ (by rw [Array.getElem?_toList, icells, cells, xs]; rfl)
      have k8 : wr.drew.cell? ⟨g1, i * 12 + 8, none⟩ = some (.int .u8 x4.toNat) := q1 8 _ (by rw [Array.getElem?_toList, icells, cells, xs]; rfl)
      have k9 : wr.drew.cell? ⟨g1, i * 12 + 9, none⟩ = some (.int .u8 x5.toNat) := q1 9 _ (by rw [Array.getElem?_toList, icells, cells, xs]; rfl)
      have k10 : wr.drew.cell? ⟨g1, i * 12 + 10, none⟩ = some (.int .u8 x6.toNat) := q1 10 _ (by rw [Array.getElem?_toList, icells, cells, xs]; rfl)
      have k11 : wr.drew.cell? ⟨g1, i * 12 + 11, none⟩ = some (.int .u8 x7.toNat) := q1 11 _ (by rw [Array.getElem?_toList, icells, cells, xs]; rfl)
      have l0 : wr.drew.cell? ⟨g2, i * 12, none⟩ = some (.int .i64 d.kind) := q2 0 _ (by rw [Array.getElem?_toList, icells, cells, xs]; rfl)
      have l1 : wr.drew.cell? ⟨g2, i * 12 + 1, none⟩ = some (.int .i64 d.a) := q2 1 _ (by rw [Array.getElem?_toList, icells, cells, xs]; rfl)
      have l2 : wr.drew.cell? ⟨g2, i * 12 + 2, none⟩ = some (.int .i64 d.b) := q2 2 _ (by rw [Array.getElem?_toList, icells, cells, xs]; rfl)
      have l3 : wr.drew.cell? ⟨g2, i * 12 + 3, none⟩ = some (.int .i64 d.g) := q2 3 _ (by rw [Array.getElem?_toList, icells, cells, xs]; rfl)
      have l4 : wr.drew.cell? ⟨g2, i * 12 + 4, none⟩ = some (.int .u8 x0.toNat) := q2 4 _ (by rw [Array.getElem?_toList, icells, cells, xs]; rfl)
      have l5 : wr.drew.cell? ⟨g2, i * 12 + 5, none⟩ = some (.int .u8 x1.toNat) := q2 5 _ (by rw [Array.getElem?_toList, icells, cells, xs]; rfl)
      have l6 : wr.drew.cell? ⟨g2, i * 12 + 6, none⟩ = some (.int .u8 x2.toNat) := q2 6 _ (by rw [Array.getElem?_toList, icells, cells, xs]; rfl)
      have l7 : wr.drew.cell? ⟨g2, i * 12 + 7, none⟩ = some (.int .u8 x3.toNat) := q2 7 _ (by rw [Array.getElem?_toList, icells, cells, xs]; rfl)
      have l8 : wr.drew.cell? ⟨g2, i * 12 + 8, none⟩ = some (.int .u8 x4.toNat) := q2 8 _ (by rw [Array.getElem?_toList, icells, cells, xs]; rfl)
      have l9 : wr.drew.cell? ⟨g2, i * 12 + 9, none⟩ = some (.int .u8 x5.toNat) := q2 9 _ (by rw [Array.getElem?_toList, icells, cells, xs]; rfl)
      have l10 : wr.drew.cell? ⟨g2, i * 12 + 10, none⟩ = some (.int .u8 x6.toNat) := q2 10 _ (by rw [Array.getElem?_toList, icells, cells, xs]; rfl)
      have l11 : wr.drew.cell? ⟨g2, i * 12 + 11, none⟩ = some (.int .u8 x7.toNat) := q2 11 _ (by rw [Array.getElem?_toList, icells, cells, xs]; rfl)
      have hrun' : ∀ w, (binOp .neq 88 (.agg #[.int .i64 d.kind, .int .i64 d.a, .int .i64 d.b, .int .i64 d.g, .int .u8 x0.toNat, .int .u8 x1.toNat, .int .u8 x2.toNat, .int .u8 x3.toNat, .int .u8 x4.toNat, .int .u8 x5.toNat, .int .u8 x6.toNat, .int .u8 x7.toNat]) (.agg #[.int .i64 d.kind, .int .i64 d.a, .int .i64 d.b, .int .i64 d.g, .int .u8 x0.toNat, .int .u8 x1.toNat, .int .u8 x2.toNat, .int .u8 x3.toNat, .int .u8 x4.toNat, .int .u8 x5.toNat, .int .u8 x6.toNat, .int .u8 x7.toNat])).run Tryz.prog w = .ok (.bool false) w := fun w => by
        have h := hrun w
        rw [icells, cells, xs] at h
        exact h
      clear hd hbe r1 r2 q1 q2 hrun hd8 xs
      go_upto_region 8 with (fail)
      go_region_held3 (fun w' => w'.cell? ⟨g1, i * 12, none⟩ = some (.int .i64 d.kind) ∧ w'.cell? ⟨g1, i * 12 + 1, none⟩ = some (.int .i64 d.a) ∧ w'.cell? ⟨g1, i * 12 + 2, none⟩ = some (.int .i64 d.b) ∧ w'.cell? ⟨g1, i * 12 + 3, none⟩ = some (.int .i64 d.g) ∧ w'.cell? ⟨g1, i * 12 + 4, none⟩ = some (.int .u8 x0.toNat) ∧ w'.cell? ⟨g1, i * 12 + 5, none⟩ = some (.int .u8 x1.toNat) ∧ w'.cell? ⟨g1, i * 12 + 6, none⟩ = some (.int .u8 x2.toNat) ∧ w'.cell? ⟨g1, i * 12 + 7, none⟩ = some (.int .u8 x3.toNat) ∧ w'.cell? ⟨g1, i * 12 + 8, none⟩ = some (.int .u8 x4.toNat) ∧ w'.cell? ⟨g1, i * 12 + 9, none⟩ = some (.int .u8 x5.toNat) ∧ w'.cell? ⟨g1, i * 12 + 10, none⟩ = some (.int .u8 x6.toNat) ∧ w'.cell? ⟨g1, i * 12 + 11, none⟩ = some (.int .u8 x7.toNat) ∧ w'.cell? ⟨g2, i * 12, none⟩ = some (.int .i64 d.kind) ∧ w'.cell? ⟨g2, i * 12 + 1, none⟩ = some (.int .i64 d.a) ∧ w'.cell? ⟨g2, i * 12 + 2, none⟩ = some (.int .i64 d.b) ∧ w'.cell? ⟨g2, i * 12 + 3, none⟩ = some (.int .i64 d.g) ∧ w'.cell? ⟨g2, i * 12 + 4, none⟩ = some (.int .u8 x0.toNat) ∧ w'.cell? ⟨g2, i * 12 + 5, none⟩ = some (.int .u8 x1.toNat) ∧ w'.cell? ⟨g2, i * 12 + 6, none⟩ = some (.int .u8 x2.toNat) ∧ w'.cell? ⟨g2, i * 12 + 7, none⟩ = some (.int .u8 x3.toNat) ∧ w'.cell? ⟨g2, i * 12 + 8, none⟩ = some (.int .u8 x4.toNat) ∧ w'.cell? ⟨g2, i * 12 + 9, none⟩ = some (.int .u8 x5.toNat) ∧ w'.cell? ⟨g2, i * 12 + 10, none⟩ = some (.int .u8 x6.toNat) ∧ w'.cell? ⟨g2, i * 12 + 11, none⟩ = some (.int .u8 x7.toNat)) (first | (refine ⟨?_, ?_, ?_, ?_, ?_, ?_, ?_, ?_, ?_, ?_, ?_, ?_, ?_, ?_, ?_, ?_, ?_, ?_, ?_, ?_, ?_, ?_, ?_, ?_⟩ <;> with_reducible assumption) | go_keep) (fail)
      go_wp2_with fail
      go_roundw
      case rel => exact ⟨i + 1, by omega, by simp, Hb.out.drew⟩
      case measure => simp only [intOf]; omega
    · have hiI : ¬ (i : Int) < (n : Nat) := by omega
      obtain rfl : i = n := by omega
      have sd3 := side_end0 Sd2.out Pf2.out Hb.out
      have hrow : ∀ g, p1 = some ⟨g, 0, none⟩ → w.heap.size ≤ g ∧ ItemRow wr g i := fun g e => by
        have h := ownsRow_below H1.out Hb.out
        rw [e] at h
        rcases h.2 with ⟨e2, _⟩ | ⟨g', cap, cur, e2, h2, h3, h4, h5, h6, _⟩
        · cases e2
        · cases e2
          exact ⟨h2, cur, h3, by omega⟩
      have hform : i = 0 ∨ ∃ g, p1 = some ⟨g, 0, none⟩ := by
        rcases H1.out.2 with ⟨_, h⟩ | ⟨g, cap, cur, e, _⟩
        · exact .inl h
        · cases e; exact .inr ⟨g, rfl⟩
      have Sd3 := Lib.hid sd3
      have Hrow := Lib.hid hrow
      have Hform := Lib.hid hform
      clear sd3 hrow hform hin hi
      go_upto_region 11 with (fail)
      go_loopw [6] (fun iv wq => ∃ k : Nat, k ≤ i ∧ iv = .int .i64 k ∧ (SideAt wq (Grown P w wq) d0 s (u + 1) ∧ PFrm w wq P) ∧ ∀ g, p1 = some ⟨g, 0, none⟩ → w.heap.size ≤ g ∧ ItemRow wq g i) (fun iv _ => i - (intOf iv).toNat)
      case atStart => exact ⟨0, Nat.zero_le _, rfl, Sd3.out, Hrow.out⟩
      case round =>
        clear Sd3 Hrow Hb
        obtain ⟨k, hkn, rfl, hsg, hby⟩ := hrel
        by_cases hk : k < i
        · have hkI : (k : Int) < (i : Nat) := by omega
          have hk0 : (0 : Int) ≤ (k : Nat) := by omega
          obtain ⟨g, rfl⟩ : ∃ g, p1 = some ⟨g, 0, none⟩ := by
            rcases Hform.out with h | h
            · omega
            · exact h
          obtain ⟨hg, hrow⟩ := hby g rfl
          have hth := itemRow_there hrow hk
          obtain ⟨x0, hx0⟩ := Option.isSome_iff_exists.1 (hth 0 (by decide)).1
          have hf0 := (hth 0 (by decide)).2
          obtain ⟨x1, hx1⟩ := Option.isSome_iff_exists.1 (hth 1 (by decide)).1
          have hf1 := (hth 1 (by decide)).2
          obtain ⟨x2, hx2⟩ := Option.isSome_iff_exists.1 (hth 2 (by decide)).1
          have hf2 := (hth 2 (by decide)).2
          obtain ⟨x3, hx3⟩ := Option.isSome_iff_exists.1 (hth 3 (by decide)).1
          have hf3 := (hth 3 (by decide)).2
          obtain ⟨x4, hx4⟩ := Option.isSome_iff_exists.1 (hth 4 (by decide)).1
          have hf4 := (hth 4 (by decide)).2
          obtain ⟨x5, hx5⟩ := Option.isSome_iff_exists.1 (hth 5 (by decide)).1
          have hf5 := (hth 5 (by decide)).2
          obtain ⟨x6, hx6⟩ := Option.isSome_iff_exists.1 (hth 6 (by decide)).1
          have hf6 := (hth 6 (by decide)).2
          obtain ⟨x7, hx7⟩ := Option.isSome_iff_exists.1 (hth 7 (by decide)).1
          have hf7 := (hth 7 (by decide)).2
          obtain ⟨x8, hx8⟩ := Option.isSome_iff_exists.1 (hth 8 (by decide)).1
          have hf8 := (hth 8 (by decide)).2
          obtain ⟨x9, hx9⟩ := Option.isSome_iff_exists.1 (hth 9 (by decide)).1
          have hf9 := (hth 9 (by decide)).2
          obtain ⟨x10, hx10⟩ := Option.isSome_iff_exists.1 (hth 10 (by decide)).1
          have hf10 := (hth 10 (by decide)).2
          obtain ⟨x11, hx11⟩ := Option.isSome_iff_exists.1 (hth 11 (by decide)).1
          have hf11 := (hth 11 (by decide)).2
          simp only [Nat.add_zero] at hx0 hf0
          have Hsg := Lib.hid hsg
          have Hrow := Lib.hid hrow
          clear hth hsg hrow hby
          go_wp2
          go_roundw
          case rel =>
            obtain ⟨cs, hcs, hsz⟩ := Hrow.out
            obtain ⟨a, cs', hb', hc'⟩ := setCells_row g _ [.int .i64 0, .int .i64 0, .int .i64 0, .int .i64 0, .int .u8 0, .int .u8 0, .int .u8 0, .int .u8 0, .int .u8 0, .int .u8 0, .int .u8 0, .int .u8 0] (k * 12) _ _ hcs
            rw [set_twelve]
            exact ⟨k + 1, by omega, by simp, side_enditem Hsg.out.1 Hsg.out.2 a hg hcs, fun g' e => by cases e; exact ⟨hg, cs', hb', by omega⟩⟩
          case measure => simp only [intOf]; omega
        · have hkI : ¬ (k : Int) < (i : Nat) := by omega
          have Hsg := Lib.hid hsg
          clear hsg hby
          go_wp2
          go_ret
          exact ⟨rfl, sideGo_mk (d' := d0) rfl Hsg.out.1 Hsg.out.2 HE.out H0.out⟩
end Go.Proofs.YtccidllcjaaeeabGreatDoor
