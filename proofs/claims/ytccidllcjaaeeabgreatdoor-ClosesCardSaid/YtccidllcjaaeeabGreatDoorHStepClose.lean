/- The walk of a step that closes. Conditions: the plays' world lies and reads; the numbers are ints; the text is of a bounded length. -/
import Derived.Test.YtccidllcjaaeeabGreatDoorHSideDump
import Derived.Test.YtccidllcjaaeeabGreatDoorHSideUn
import Derived.Test.YtccidllcjaaeeabGreatDoorHBent
import Derived.BigQuiet
import Derived.Deep.QuietTactic
namespace Go.Proofs.YtccidllcjaaeeabGreatDoor
set_option maxRecDepth 100000
open Go Go.Maps Go.RowKit
open Go.Shelf Go.Lib Go.Sort Go.MuLone
/-- The document's group is closed. -/
theorem RefAt.shut {w : World} {lo R B : Nat} {s : GSt} {st : Int} (h : RefAt w lo R B s st) : RefAt (w.setCell ⟨R, 11, none⟩ (.bool true)) lo R B (shutS s) st := by
  have hne := h.ne
  obtain ⟨⟨cs, h1, h2, h3, h4, h5, h6, h7⟩, ⟨ms, m1, m2⟩, l1, l2⟩ := h
  have hlt := (Array.getElem?_eq_some_iff.1 h6).1
  refine ⟨⟨_, heap_setCell_same _ _ _ _ _ _ h1, fun j v hv => ?_, ?_, ?_, ?_, ?_, ?_⟩, ⟨ms, by rw [heap_ne hne]; exact m1, fun m hm => ?_⟩, l1, l2⟩
  · have hv' : (cells s.root).toList[j]? = some v := hv
    have h8 := h2 j v hv'
    by_cases e : j = 11
    · subst e
      rw [h6] at h8
      cases h8
      rw [cells_toList, List.getElem?_map] at hv'
      cases hq : s.root[11]? with
      | none => rw [hq] at hv'; cases hv'
      | some b => rw [hq] at hv'; simp at hv'
    · rw [Array.getElem?_setIfInBounds_ne (by omega)]; exact h8
  · rw [Array.getElem?_setIfInBounds_ne (by omega)]; exact h3
  · rw [Array.getElem?_setIfInBounds_ne (by omega)]; exact h4
  · rw [Array.getElem?_setIfInBounds_ne (by omega)]; exact h5
  · rw [Array.getElem?_setIfInBounds_self]; simp [hlt]; rfl
  · rw [Array.getElem?_setIfInBounds_ne (by omega)]; exact h7
  · obtain ⟨a, b, ov, c, d⟩ := m2 m hm
    exact ⟨a, b, ov, c, d.keep fun b' cs' hb' => heap_ne (fun e => by
      rw [← e, h1] at hb'
      injection hb' with hb'
      injection hb' with _ hb'
      exact absurd hb' (by decide))⟩
set_option maxHeartbeats 8000000 in
theorem step_close (w : World) (base W m u : Nat) (d : Nat → SPl) (s : Nat → GSt) (P : Nat → Nat → Prop) (lv bv : Value) (bag : List ByteArray) (a b : Int) (str : ByteArray) (h : PlayAt w base W m d s P u lv bv bag) (hm : 0 < m) (hm16 : m ≤ 16) (hb0 : 0 < base) (hbs : base ≤ w.heap.size) (hu : u ≤ 90000) (ha : -9223372036854775808 ≤ a ∧ a ≤ 9223372036854775807) :
    Calls Tryz.prog 8 #[.pointer (some ⟨W, 0, none⟩), .agg #[.int .i64 6, .int .i64 a, .int .i64 b, .string str]] w fun e w' => e = .returned (.bool true) ∧ PlayGo w w' base W m (u + 1) := by
  obtain ⟨V, hV⟩ : ∃ V, V = w.alloc (.cells #[.int .i64 6, .int .i64 a, .int .i64 b, .string str] 44) := ⟨_, rfl⟩
  have hVb : Below w.heap.size w V := by rw [hV]; exact balloc (Below.refl _ _) _
  have hVO : V.heap[w.heap.size]? = some (.cells #[.int .i64 6, .int .i64 a, .int .i64 b, .string str] 44 (0, 0)) := by rw [hV]; exact heap_alloc_new _ _
  have hplay := h.below hVb
  obtain ⟨k, hk⟩ : ∃ k, k = pickN a m := ⟨_, rfl⟩
  have hkm : k < m := by rw [hk]; exact pickN_lt a m hm
  have hpick := fun X => lpick_any X a m ha.1 ha.2 hm (by omega)
  rw [← hk] at hpick
  obtain ⟨gl, cl, rfl, hgl, _⟩ := ownsRow_pos hplay.row hm
  have l0 : V.cell? ⟨gl, k, none⟩ = some (.pointer (some ⟨(d k).S, 0, none⟩)) := by rw [hplay.row.cellAt k (by omega), sidesV_get d hkm]
  have wl : V.cell? ⟨W, 0, none⟩ = some (.slice (some ⟨gl, 0, none⟩) m cl) := cell_of_row _ _ _ _ _ _ hplay.blk
  have o0 : V.cell? ⟨w.heap.size, 0, none⟩ = some (.int .i64 6) := cell_of_row _ _ _ _ _ _ hVO
  have o1 : V.cell? ⟨w.heap.size, 1, none⟩ = some (.int .i64 a) := cell_of_row _ _ _ _ _ _ hVO
  have k0 : (0 : Int) ≤ (k : Nat) := by omega
  have k1 : (k : Int) < (m : Nat) := by omega
  have hlow : ∀ j, j < m → ¬ P j 0 := fun j hj hp => by have := h.low j hj 0 hp; omega
  have HV := Lib.hid hV
  have HVb := Lib.hid hVb
  have HVO := Lib.hid hVO
  have Hplay := Lib.hid hplay
  have Hpick := Lib.hid hpick
  have Hlow := Lib.hid hlow
  have Hkm := Lib.hid hkm
  clear hV hVb hVO hplay hpick hlow hk h hgl hkm
  go_enter Tryz.func8, Tryz.ntmps8
  go_upto_region 1 with (fail)
  rw [← HV.out]
  go_quiet ((go_at_call 12; exact Calls.quiet_of_same (Hpick.out _)))
  have hVq : Below w.heap.size w (V.drewN nq) := bdrewN HVb.out _
  have hPq : PlayAt (V.drewN nq) base W m d s P u (.slice (some ⟨gl, 0, none⟩) m cl) bv bag := Hplay.out.below (bdrewN (Below.refl _ _) _)
  have hOq : (V.drewN nq).heap[w.heap.size]? = some (.cells #[.int .i64 6, .int .i64 a, .int .i64 b, .string str] 44 (0, 0)) := HVO.out
  generalize V.drewN nq = X at hVq hPq hOq ⊢
  clear l0 wl o0 o1 Hplay HVO HVb HV
  have o0 : X.cell? ⟨w.heap.size, 0, none⟩ = some (.int .i64 6) := cell_of_row _ _ _ _ _ _ hOq
  have o2 : X.cell? ⟨w.heap.size, 2, none⟩ = some (.int .i64 b) := cell_of_row _ _ _ _ _ _ hOq
  have o3 : X.cell? ⟨w.heap.size, 3, none⟩ = some (.string str) := cell_of_row _ _ _ _ _ _ hOq
  have hXs : base ≤ X.heap.size := Nat.le_trans hbs hVq.size
  have hside := hPq.sides.side k Hkm.out
  have hE := hPq.eg
  have hn0 := Hlow.out k Hkm.out
  obtain ⟨dk, hdk⟩ : ∃ dk, dk = d k := ⟨_, rfl⟩
  obtain ⟨sk, hsk⟩ : ∃ sk, sk = s k := ⟨_, rfl⟩
  obtain ⟨Pk, hPk⟩ : ∃ Pk, Pk = P k := ⟨_, rfl⟩
  rw [← hdk, ← hsk, ← hPk] at hside
  rw [← hPk] at hn0
  rw [← hdk]
  obtain ⟨v0, v1, _⟩ := side_row hside
  have hlow' := hside.low
  have hhigh := hside.high
  have HVq := Lib.hid hVq
  have HPq := Lib.hid hPq
  have Hside := Lib.hid hside
  have Hdk := Lib.hid hdk
  have Hsk := Lib.hid hsk
  have HPk := Lib.hid hPk
  have HE := Lib.hid hE
  have Hn0 := Lib.hid hn0
  cases hcl : sk.closed with
  | true =>
    have hclose := Close_again X 1 (5 * u) dk.p sk hside.grp hside.mu hcl
    have Hclose := Lib.hid hclose
    have Hcl := Lib.hid hcl
    clear hclose hside hVq hPq hdk hsk hPk hE hn0 hOq hcl
    go_upto_region 22 with (first | (go_at_call 16; refine Hclose.out.mono ?_; rintro e w2 ⟨rfl, hA, hF⟩; have HA := Lib.hid hA; have HF := Lib.hid hF; clear hA hF; go_frame))
    have hst := frm_stay Hside.out.grp HF.out
    have hS1 := (hst _ _ _ _ Hside.out.blk (by decide) (by decide)).trans Hside.out.blk
    obtain ⟨st, hr0⟩ := Hside.out.ref
    have hr1 := hr0.stay hst
    have sd1 : SideAt w2 Pk dk sk u := ⟨hS1, Hside.out.mu, HA.out, ⟨st, hr1⟩, Hside.out.inv, Hside.out.low, Hside.out.high, Hside.out.own⟩
    have pf1 : PFrm X w2 Pk := PFrm.ofGrp HF.out Hside.out.grp fun x hx => Hside.out.own x (OwnS.grp hx)
    have y1 : w2.cell? ⟨dk.S, 1, none⟩ = some (.pointer (some ⟨dk.R, 0, none⟩)) := cell_of_row _ _ _ _ _ _ hS1
    obtain ⟨_, _, _, _, y11, _, _⟩ := hr1.fields
    rw [Hcl.out] at y11
    have hgo : SideGo X w2 Pk dk u := sideGo_mk (d' := dk) (s' := sk) rfl (sd1.more (Nat.le_succ u) fun b hb => .inl hb) pf1 HE.out Hn0.out
    rw [HPk.out, Hdk.out] at hgo
    obtain ⟨d', s', P', hplay2, hbel, _⟩ := HPq.out.step Hkm.out hgo hXs
    have Hplay2 := Lib.hid hplay2
    have Hbel := Lib.hid hbel
    clear hst hS1 hr0 hr1 sd1 pf1 hgo hplay2 hbel v0 v1
    go_wp2
    go_ret
    exact ⟨rfl, _, _, _, _, _, _, Hplay2.out, (HVq.out.mono hbs).trans Hbel.out⟩
  | false =>
    have hclose := Close_first X 1 (5 * u) dk.p sk hside.grp hside.mu hcl
    have Hclose := Lib.hid hclose
    have Hcl := Lib.hid hcl
    clear hclose hside hVq hPq hdk hsk hPk hE hn0 hOq hcl
    go_upto_region 22 with (first | (go_at_call 16; refine Hclose.out.mono ?_; rintro e w2 ⟨rfl, hA, hF⟩; have HA := Lib.hid hA; have HF := Lib.hid hF; clear hA hF; go_frame))
    have hst := frm_stay Hside.out.grp HF.out
    have hS1 := (hst _ _ _ _ Hside.out.blk (by decide) (by decide)).trans Hside.out.blk
    obtain ⟨st, hr0⟩ := Hside.out.ref
    have hr1 := hr0.stay hst
    have y1 : w2.cell? ⟨dk.S, 1, none⟩ = some (.pointer (some ⟨dk.R, 0, none⟩)) := cell_of_row _ _ _ _ _ _ hS1
    obtain ⟨_, _, _, _, y11, _, yz⟩ := hr1.fields
    rw [Hcl.out] at y11
    have yz11 := yz 11
    obtain ⟨w25, hw25⟩ : ∃ w25, w25 = w2.setCell ⟨dk.R, 11, none⟩ (.bool true) := ⟨_, rfl⟩
    have hr25 : RefAt w25 1 dk.R dk.B (shutS sk) st := by rw [hw25]; exact hr1.shut
    obtain ⟨w3, hw3⟩ : ∃ w3, w3 = w25.setCell ⟨dk.R, 12, none⟩ (.int .i64 0) := ⟨_, rfl⟩
    have hr3 : RefAt w3 1 dk.R dk.B (shutS sk) 0 := by rw [hw3]; exact hr25.steps 0
    obtain ⟨_, _, _, _, _, z12, zz⟩ := hr25.fields
    have zz12 := zz 12
    have hf3 : RFrm w2 w3 dk.R dk.B := by rw [hw3, hw25]; exact (RFrm.set _ _ _ (.inl rfl)).trans (RFrm.set _ _ _ (.inl rfl))
    obtain ⟨hA3, hS3⟩ := side_mid Hside.out (Below.refl _ _) HF.out HA.out hf3
    have hSR := (side_ne Hside.out).1
    have z1 : w25.cell? ⟨dk.S, 1, none⟩ = some (.pointer (some ⟨dk.R, 0, none⟩)) := by rw [hw25, cell_ne (Ne.symm hSR)]; exact y1
    have hwk := worked_any w3 dk.S dk.R 1 0 { dk.p with T := .slice none 0 0 } (shutS sk) sk.cnt 0 false hS3 hA3 (hr3.fields.2.2.2.2.2.1) hSR hlow' (Int.le_refl _) (by show sk.cnt ≤ sk.cnt + 0; omega) (fun e => by cases e) (by show sk.cnt ≤ _; omega)
    obtain ⟨w4, hw4⟩ : ∃ w4, w4 = w3.setCell ⟨dk.S, 2, none⟩ (.int .i64 sk.cnt) := ⟨_, rfl⟩
    rw [show (shutS sk).cnt = sk.cnt from rfl, ← hw4] at hwk
    have hS4 : w4.heap[dk.S]? = some (.cells #[.pointer (some ⟨dk.p.G, 0, none⟩), .pointer (some ⟨dk.R, 0, none⟩), .int .i64 sk.cnt] 42 (0, 0)) := by rw [hw4, heap_setCell_same _ _ _ _ _ _ hS3]; rfl
    have hf4 : RFrm w3 w4 dk.S dk.S := by rw [hw4]; exact RFrm.set _ _ _ (.inl rfl)
    obtain ⟨hM, hP⟩ := side_mem Hside.out (Below.refl _ _) HF.out (T' := .slice none 0 0) (.inr fun b e => by cases e) HA.out (Nat.zero_le _) hf3 hr3 hS4 hf4 (inv_shut Hside.out.inv) hlow' (by show sk.cnt ≤ _; omega)
    have hgo : SideGo X w4 Pk dk u := sideGo_mk (d' := { dk with p := { dk.p with T := .slice none 0 0 } }) rfl hM hP HE.out Hn0.out
    rw [HPk.out, Hdk.out] at hgo
    obtain ⟨d', s', P', hplay2, hbel, _⟩ := HPq.out.step Hkm.out hgo hXs
    have Hplay2 := Lib.hid hplay2
    have Hbel := Lib.hid hbel
    have Hw25 := Lib.hid hw25
    have Hw3 := Lib.hid hw3
    have Hwk := Lib.hid hwk
    clear hst hS1 hr0 hr1 hgo hplay2 hbel v0 v1 hw25 hr25 hw3 hr3 hf3 hA3 hS3 hwk hS4 hf4 hM hP hw4 yz zz hSR
    go_upto_region 25 with (fail)
    rw [← Hw25.out]
    go_upto_region 26 with (fail)
    rw [← Hw3.out]
    go_wp2_with (first | (go_at_call 17; refine Hwk.out.mono ?_; rintro e w5 ⟨rfl, e1⟩; obtain rfl := e1.symm; go_frame))
    go_ret
    exact ⟨rfl, _, _, _, _, _, _, Hplay2.out, (HVq.out.mono hbs).trans Hbel.out⟩
end Go.Proofs.YtccidllcjaaeeabGreatDoor
