/- The walk of epochlaw's plays. Conditions: the number of members is an int; the two slices read; the errors' type word lies. -/
import Derived.Test.YtccidllcjaaeeabGreatDoorHStepAll
import Derived.Test.YtccidllcjaaeeabGreatDoorHOps
import Derived.Test.YtccidllcjaaeeabGreatDoorHRefProt
namespace Go.Proofs.YtccidllcjaaeeabGreatDoor
set_option maxRecDepth 100000
open Go Go.Maps Go.RowKit
open Go.Shelf Go.Lib Go.Sort Go.MuLone
theorem wf_int {x : Int} (h : (Lit.int .i64 x).wf = true) : -9223372036854775808 ≤ x ∧ x ≤ 9223372036854775807 := by
  simpa [Lit.wf, IntKind.min, IntKind.max, IntKind.signed, IntKind.bits] using h
theorem own_form {W : World} {v : Value} {L : List Int} (h : IntsAt W v L) : ∃ ao cap, v = .slice ao L.length cap ∧ (0 < L.length → ∃ b o, ao = some ⟨b, o, none⟩ ∧ ∀ j, j < L.length → W.cell? ⟨b, o + j, none⟩ = some (.int .i64 (L.getD j 0)) ∧ -9223372036854775808 ≤ L.getD j 0 ∧ L.getD j 0 ≤ 9223372036854775807) := by
  rcases h with ⟨rfl, rfl⟩ | ⟨a, cap, rfl, _, _, hc⟩
  · exact ⟨none, 0, rfl, fun h => absurd h (by simp)⟩
  · refine ⟨some a, cap, rfl, fun h0 => ?_⟩
    obtain ⟨b, o, s⟩ := a
    have hs : s = none := by simpa [Addr.add] using World.cell?_spot (hc 0 h0).1
    subst hs
    exact ⟨b, o, rfl, fun j hj => ⟨(by have := (hc j hj).1; rwa [Addr.add_lit] at this), wf_int (hc j hj).2⟩⟩
/-- A step's cells. -/
def opCells (W : World) (b o : Nat) (x : OpV) : Prop := W.cell? ⟨b, o, none⟩ = some (.int .i64 x.kind) ∧ W.cell? ⟨b, o + 1, none⟩ = some (.int .i64 x.a) ∧ W.cell? ⟨b, o + 2, none⟩ = some (.int .i64 x.b) ∧ W.cell? ⟨b, o + 3, none⟩ = some (.string x.s)
theorem ops_form {W : World} {v : Value} {L : List OpV} (h : OpsAt W v L) : ∃ ao cap, v = .slice ao L.length cap ∧ (0 < L.length → ∃ b o, ao = some ⟨b, o, none⟩ ∧ ∀ (j : Nat) (hj : j < L.length), opCells W b (o + j * 4) L[j] ∧ (-9223372036854775808 ≤ L[j].a ∧ L[j].a ≤ 9223372036854775807) ∧ (-9223372036854775808 ≤ L[j].b ∧ L[j].b ≤ 9223372036854775807) ∧ L[j].s.size ≤ maxLen ∧ -9223372036854775808 ≤ L[j].kind ∧ L[j].kind ≤ 9223372036854775807) := by
  rcases h with ⟨rfl, rfl⟩ | ⟨a, cap, rfl, _, _, hc⟩
  · exact ⟨none, 0, rfl, fun h => absurd h (by simp)⟩
  · refine ⟨some a, cap, rfl, fun h0 => ?_⟩
    obtain ⟨b, o, s⟩ := a
    have hs : s = none := by simpa [Addr.add] using World.cell?_spot (hc 0 h0).1
    subst hs
    refine ⟨b, o, rfl, fun j hj => ?_⟩
    obtain ⟨c0, c1, c2, c3, wa, wb, hs, wk⟩ := hc j hj
    rw [Addr.add_lit] at c0 c1 c2 c3
    rw [Addr.add_lit] at c1 c2 c3
    exact ⟨⟨c0, c1, c2, c3⟩, wf_int wa, wf_int wb, hs, wf_int wk⟩
theorem opCells.below {W W' : World} {b o base : Nat} {x : OpV} (h : opCells W b o x) (hl : W.heap.size ≤ base) (hb : Below base W W') : opCells W' b o x := by
  obtain ⟨h0, h1, h2, h3⟩ := h
  have hlt : b < base := Nat.lt_of_lt_of_le (block_lt_of_cell h0) hl
  exact ⟨(hb.cell (by exact hlt)).trans h0, (hb.cell (by exact hlt)).trans h1, (hb.cell (by exact hlt)).trans h2, (hb.cell (by exact hlt)).trans h3⟩
/-- The plays' world at its beginning. -/
theorem play_zero {w : World} (hE : EG w) (d : Nat → SPl) (s : Nat → GSt) (P : Nat → Nat → Prop) : PlayAt (w.alloc (.cells #[.slice none 0 0, .slice none 0 0] 30)) w.heap.size w.heap.size 0 d s P 0 (.slice none 0 0) (.slice none 0 0) [] :=
  ⟨Sides.nil _ _ _ _ _, heap_alloc_new _ _, World.ownsRow_nil _ _ _ _, World.ownsRow_nil _ _ _ _, fun _ h => absurd h (Nat.not_lt_zero _), Nat.le_refl _, fun _ h => absurd h (Nat.not_lt_zero _), fun _ h => absurd h (Nat.not_lt_zero _), fun _ h => absurd h (Nat.not_lt_zero _), Nat.zero_le _, fun _ h => (by cases h), hE.below (balloc (Below.refl _ _) _)⟩
theorem infoPSide : (Tryz.prog.info? 40).map (fun i => (i.zero, i.size, i.bytes)) = some (some (.pointer none), 1, 8) := by kernel_rfl
/-- A new side of a member. -/
theorem side_new {w3 w4 w5 w6 w7 : World} {lo R B n y : Nat} {p : GPl} {root : List UInt8} (hr : root.length = 8) (hy : y < n) (hn : n ≤ 16) (hmu : p.mu = 0) (h1 : 1 ≤ lo) (h3 : lo ≤ w3.heap.size) (hA : GroupAt w4 w3.heap.size p (st0 root n y) 0) (hb5 : Below w4.heap.size w4 w5) (hR : RefAt w6 1 R B (st0 root n y) 0) (hb6 : Below w5.heap.size w5 w6) (h34 : w3.heap.size ≤ w4.heap.size) (hRl : w5.heap.size ≤ R) (hBl : w5.heap.size ≤ B)
    (hw7 : w7 = w6.alloc (.cells #[.pointer (some ⟨p.G, 0, none⟩), .pointer (some ⟨R, 0, none⟩), .int .i64 0] 42)) :
    SideAt w7 (fun b => lo ≤ b ∧ b < w7.heap.size) ⟨w6.heap.size, p, R, B⟩ (st0 root n y) 0 := by
  have h67 : Below w6.heap.size w6 w7 := by rw [hw7]; exact balloc (Below.refl _ _) _
  have hA7 : GroupAt w7 w3.heap.size p (st0 root n y) 0 := group_below (group_below (group_below hA hb5) hb6) h67
  have hblk : w7.heap[w6.heap.size]? = some (.cells #[.pointer (some ⟨p.G, 0, none⟩), .pointer (some ⟨R, 0, none⟩), .int .i64 0] 42 (0, 0)) := by rw [hw7]; exact heap_alloc_new _ _
  have hs5 := hb5.size
  have hs6 := hb6.size
  have hs7 := h67.size
  have hs : SideAt w7 (fun _ => True) ⟨w6.heap.size, p, R, B⟩ (st0 root n y) 0 :=
    ⟨hblk, hmu, group_mono hA7 (by omega), ⟨0, hR.below h67⟩, inv_st0 root n y hr hy hn, Int.le_refl _, Int.le_refl _, fun _ _ => trivial⟩
  have hlt := side_lt hs
  refine ⟨hs.blk, hs.mu, hs.grp, hs.ref, hs.inv, hs.low, hs.high, fun b hb => ⟨?_, hlt b hb⟩⟩
  rcases hb with e | e | e | hb
  · rw [e]; show lo ≤ w6.heap.size; omega
  · rw [e]; show lo ≤ R; omega
  · rw [e]; show lo ≤ B; omega
  · have := (group_lt hA7 b hb).1; omega
/-- What holds while the sides are made. -/
def LoopA (w wr : World) (i : Nat) : Prop := ∃ (m : Nat) (d : Nat → SPl) (s : Nat → GSt) (P : Nat → Nat → Prop) (lv : Value), m ≤ i ∧ PlayAt wr w.heap.size w.heap.size m d s P 0 lv (.slice none 0 0) [] ∧ Below w.heap.size w wr
/-- What holds through the steps. -/
def LoopB (w wr : World) (m u : Nat) : Prop := ∃ (d : Nat → SPl) (s : Nat → GSt) (P : Nat → Nat → Prop) (lv bv : Value) (bag : List ByteArray), PlayAt wr w.heap.size w.heap.size m d s P u lv bv bag ∧ Below w.heap.size w wr
set_option maxHeartbeats 16000000 in
theorem plays_any (w : World) (root : ByteArray) (n : Int) (v1 v2 : Value) (L : List Int) (O : List OpV) (upTo : Int) (hn : -9223372036854775808 ≤ n ∧ n ≤ 9223372036854775807) (h1 : IntsAt w v1 L) (h2 : OpsAt w v2 O) (hE : EG w) :
    Calls Tryz.prog 4 #[.string root, .int .i64 n, v1, v2, .int .i64 upTo] w fun e w' => e = .returned (.bool true) ∧ Below w.heap.size w w' := by
  obtain ⟨ao, ac, rfl, hown⟩ := own_form h1
  obtain ⟨bo, bc, rfl, hops⟩ := ops_form h2
  obtain ⟨nl, hnl⟩ : ∃ nl, nl = L.length := ⟨_, rfl⟩
  obtain ⟨no, hno⟩ : ∃ no, no = O.length := ⟨_, rfl⟩
  rw [← hnl] at hown ⊢
  rw [← hno]
  have hops' : 0 < no → ∃ b o, bo = some ⟨b, o, none⟩ ∧ ∀ (j : Nat) (hj : j < O.length), opCells w b (o + j * 4) O[j] ∧ (-9223372036854775808 ≤ O[j].a ∧ O[j].a ≤ 9223372036854775807) ∧ (-9223372036854775808 ≤ O[j].b ∧ O[j].b ≤ 9223372036854775807) ∧ O[j].s.size ≤ maxLen ∧ -9223372036854775808 ≤ O[j].kind ∧ O[j].kind ≤ 9223372036854775807 := fun h => hops (by rw [← hno]; exact h)
  clear h1 h2 hops
  have hw0 : 0 < w.heap.size := Nat.lt_of_le_of_lt (Nat.zero_le _) (block_lt_of_cell hE)
  by_cases hbig : 4096 < no
  · have g1 : (4096 : Int) < (no : Nat) := by omega
    clear hown hops' hnl hno
    go_enter Tryz.func4, Tryz.ntmps4
    go_wp2
    go_ret
    exact ⟨rfl, Below.refl _ _⟩
  by_cases hbig2 : 16 < nl
  · have g1 : ¬ (4096 : Int) < (no : Nat) := by omega
    have g2 : (16 : Int) < (nl : Nat) := by omega
    clear hown hops' hnl hno
    go_enter Tryz.func4, Tryz.ntmps4
    go_wp2
    go_ret
    exact ⟨rfl, Below.refl _ _⟩
  have g1 : ¬ (4096 : Int) < (no : Nat) := by omega
  have g2 : ¬ (16 : Int) < (nl : Nat) := by omega
  obtain ⟨V, hV⟩ : ∃ V, V = w.alloc (.cells #[.slice none 0 0, .slice none 0 0] 30) := ⟨_, rfl⟩
  have hplay0 : ∀ d s P, PlayAt V w.heap.size w.heap.size 0 d s P 0 (.slice none 0 0) (.slice none 0 0) [] := fun d s P => by rw [hV]; exact play_zero hE d s P
  have hVb : Below w.heap.size w V := by rw [hV]; exact balloc (Below.refl _ _) _
  have Hown := Lib.hid hown
  have Hops := Lib.hid hops'
  have Hno := Lib.hid hno
  have Hnl := Lib.hid hnl
  have HV := Lib.hid hV
  have Hplay0 := Lib.hid hplay0
  have HVb := Lib.hid hVb
  have Hn := Lib.hid hn
  clear hown hops' hno hnl hV hplay0 hVb hn
  go_enter Tryz.func4, Tryz.ntmps4
  go_upto_region 4 with (fail)
  rw [← HV.out]
  go_upto_region 5 with (fail)
  go_loopw [12, 13, 14, 15] (fun iv _ _ _ wr => ∃ i : Nat, i ≤ nl ∧ iv = .int .i64 i ∧ LoopA w wr i) (fun iv _ _ _ _ => nl - (intOf iv).toNat)
  case atStart => exact ⟨0, Nat.zero_le _, rfl, 0, fun _ => ⟨0, ⟨0, 0, 0, .slice none 0 0, 0⟩, 0, 0⟩, fun _ => st0 [] 0 0, fun _ _ => False, .slice none 0 0, Nat.le_refl _, Hplay0.out _ _ _, HVb.out⟩
  case round =>
    obtain ⟨i, hin, rfl, hA⟩ := hrel
    obtain ⟨m, d, s, P, lv, hmi, hplay, hb⟩ := hA
    have Hplay := Lib.hid hplay
    have Hb := Lib.hid hb
    clear hplay hb
    by_cases hi : i < nl
    · have hiI : (i : Int) < (nl : Nat) := by omega
      have hi0 : (0 : Int) ≤ (i : Nat) := by omega
      obtain ⟨ob, oo, rfl, hcell⟩ := Hown.out (by omega)
      obtain ⟨hx0, hx1, hx2⟩ := hcell i hi
      obtain ⟨x, hx⟩ : ∃ x, x = L.getD i 0 := ⟨_, rfl⟩
      rw [← hx] at hx0 hx1 hx2
      have hobl : ob < w.heap.size := block_lt_of_cell hx0
      have hxr : wr.cell? ⟨ob, oo + i, none⟩ = some (.int .i64 x) := (Hb.out.cell hobl).trans hx0
      have hbs := Hb.out.size
      by_cases hfit : 1 ≤ n ∧ n ≤ 16 ∧ 0 ≤ x ∧ x < n
      · obtain ⟨f1, f2, f3, f4⟩ := hfit
        obtain ⟨N, rfl⟩ : ∃ N : Nat, n = N := ⟨n.toNat, by omega⟩
        obtain ⟨y, hy⟩ : ∃ y : Nat, x = y := ⟨x.toNat, by omega⟩
        rw [hy] at hxr
        have hyN : y < N := by omega
        have hN16 : N ≤ 16 := by omega
        have hnew := fun X => new_yes X (sec root) N y (sec_length _) hyN hN16
        have href := fun (X : World) (hX : 1 ≤ X.heap.size) => refNew_yes X 1 (sec root) N y (sec_length _) hyN hN16 hX
        have Hnew := Lib.hid hnew
        have Href := Lib.hid href
        clear hnew href hx hx0 hcell hy f3 f4 hx1 hx2
        go_upto_region 7 with (fail)
        go_region_held3 (fun w' => w'.cell? ⟨ob, oo + i, none⟩ = some (.int .i64 y)) (first | with_reducible assumption | (simp only [World.cell?_drew]; with_reducible assumption)) (first
          | (go_at_call 6; refine (secret_any _ root).mono ?_; rintro e w3 ⟨rfl, hb3⟩; have hxr := (hb3.cell (block_lt_of_cell hxr)).trans hxr; have Hb3 := Lib.hid hb3; clear hb3)
          | (go_at_call 5; refine (Hnew.out _).mono ?_; rintro e w4 ⟨p, rfl, hp, hb4, hA4⟩; have hxr := (hb4.cell (block_lt_of_cell hxr)).trans hxr; have Hb4 := Lib.hid hb4; have HA4 := Lib.hid hA4; have Hp := Lib.hid hp; clear hb4 hA4 hp))
        go_upto_region 8 with (fail)
        go_region_held3 (fun w' => w'.cell? ⟨ob, oo + i, none⟩ = some (.int .i64 y)) (first | with_reducible assumption | (simp only [World.cell?_drew]; with_reducible assumption)) (first
          | (go_at_call 6; refine (secret_any _ root).mono ?_; rintro e w5 ⟨rfl, hb5⟩; have hxr := (hb5.cell (block_lt_of_cell hxr)).trans hxr; have Hb5 := Lib.hid hb5; have Hw5 := Lib.hid (Nat.lt_of_le_of_lt (Nat.zero_le _) (block_lt_of_cell hxr)); clear hb5)
          | (go_at_call 7; refine (Href.out _ Hw5.out).mono ?_; rintro e w6 ⟨R, B, rfl, hr6, hRl, hBl, hb6⟩; have hxr := (hb6.cell (block_lt_of_cell hxr)).trans hxr; have Hb6 := Lib.hid hb6; have Hr6 := Lib.hid hr6; have HRl := Lib.hid hRl; have HBl := Lib.hid hBl; clear hb6 hr6 hRl hBl))
        have hbt : Below wr.heap.size wr w6 := bnext (bnext (bnext (bnext (Below.refl _ _).drew Hb3.out) Hb4.out).drew Hb5.out) Hb6.out
        have hb45 : Below w4.heap.size w4 w5 := bnext (Below.refl _ _).drew Hb5.out
        have hwr3 : wr.heap.size ≤ w3.heap.size := Hb3.out.size
        obtain ⟨w7, hw7⟩ : ∃ w7, w7 = w6.alloc (.cells #[.pointer (some ⟨p.G, 0, none⟩), .pointer (some ⟨R, 0, none⟩), .int .i64 0] 42) := ⟨_, rfl⟩
        have hside := side_new (lo := wr.heap.size) (sec_length root) hyN hN16 Hp.out (by omega) hwr3 HA4.out hb45 Hr6.out Hb6.out Hb4.out.size HRl.out HBl.out hw7
        have h67 : Below w6.heap.size w6 w7 := by rw [hw7]; exact balloc (Below.refl _ _) _
        obtain ⟨w8, hw8⟩ : ∃ w8, w8 = w7.alloc (.cells #[.pointer (some ⟨w6.heap.size, 0, none⟩)] 40) := ⟨_, rfl⟩
        have h78 : Below w7.heap.size w7 w8 := by rw [hw8]; exact balloc (Below.refl _ _) _
        have h68 := bnext h67 h78
        have h8r := bnext hbt h68
        have hplay6 := Hplay.out.below hbt
        have hplay8 := Hplay.out.below h8r
        obtain ⟨pl, cl, rfl⟩ := row_form hplay8.row
        have wl : w6.cell? ⟨w.heap.size, 0, none⟩ = some (.slice pl m cl) := cell_of_row _ _ _ _ _ _ hplay6.blk
        have hnew8 : ∀ (j : Nat) (v : Value), [Value.pointer (some ⟨w6.heap.size, 0, none⟩)][j]? = some v → w8.cell? ((⟨w7.heap.size, 0, none⟩ : Addr).add j) = some v := by rw [hw8]; exact made_one _ _ _ _ rfl
        have hs7 : w7.heap.size = w6.heap.size + 1 := by rw [hw7, World.size_alloc]
        have hW9 : ∀ w9 : World, w8.grownBy w9 (Value.slice pl m cl).ownBlock → w9.cell? ⟨w.heap.size, 0, none⟩ = some (.slice pl m cl) ∧ w9.frozen? ⟨w.heap.size, 0, none⟩ = false := fun w9 hg => by
          have hne : some w.heap.size ≠ (Value.slice pl m cl).ownBlock := fun e => by
            obtain ⟨cs, hc⟩ := row_cells hplay8.row e.symm
            have h2 := hplay8.blk
            rw [hc] at h2; injection h2 with h2; injection h2 with _ h2; exact absurd h2 (by decide)
          have hc := hplay8.blk
          exact ⟨(hg.cell_far ⟨w.heap.size, 0, none⟩ (Array.getElem?_eq_some_iff.1 hc).1 hne).trans (cell_of_row _ _ _ _ _ _ hc), (hg.frozen_far ⟨w.heap.size, 0, none⟩ (Array.getElem?_eq_some_iff.1 hc).1 hne).trans (frozen_of_row _ _ _ _ _ hc)⟩
        obtain ⟨i0, ji, jz0, jz1, jz2⟩ := info_parts infoPSide
        have Hji := Lib.hid ji
        have Hjz0 := Lib.hid jz0
        have Hjz1 := Lib.hid jz1
        have Hjz2 := Lib.hid jz2
        have hle : m + 1 ≤ maxLen ∧ (m + 1) * 8 ≤ 140737488355328 ∧ w.heap.size ≤ w8.heap.size := ⟨by unfold maxLen; omega, by omega, by have := h8r.size; omega⟩
        have hw8e : w8 = (w6.alloc (.cells #[.pointer (some ⟨p.G, 0, none⟩), .pointer (some ⟨R, 0, none⟩), .int .i64 0] 42)).alloc (.cells #[.pointer (some ⟨w6.heap.size, 0, none⟩)] 40) := by rw [hw8, hw7]
        have Hw8 := Lib.hid hw8e
        have H78 := Lib.hid h78
        have H8r := Lib.hid h8r
        have Hside := Lib.hid hside
        have Hplay8 := Lib.hid hplay8
        have Hnew8 := Lib.hid hnew8
        have HW9 := Lib.hid hW9
        have Hle := Lib.hid hle
        have Hs7 := Lib.hid hs7
        clear hbt hb45 hwr3 hw7 hside h67 hw8 h78 h68 h8r hplay6 hplay8 hnew8 hW9 ji jz0 jz1 jz2 hle hw8e hs7
        go_wp2_with (at_builtin; go_must (rw [← Hw8.out, ← Hs7.out]; refine wpList_append_own_at _ rfl (.tmp 81) (.tmp 86) 27 (by rfl) w.heap.size 40 i0 (.pointer none) 1 8 Tryz.underlying27 Hji.out Hjz0.out Hjz1.out Hjz2.out rfl (by decide) (.slice pl m cl) m (sidesV m d) (by rfl) Hplay8.out.row ⟨w7.heap.size, 0, none⟩ 1 1 [.pointer (some ⟨w6.heap.size, 0, none⟩)] (by rfl) rfl Hnew8.out (fun u hu => by rw [List.mem_singleton.1 hu]; rfl) Hle.out.1 Hle.out.2.1 Hle.out.2.2 ?_); intro v9 w9 ho9 hg9 _ hloc9; obtain ⟨c9, f9⟩ := HW9.out _ hg9; obtain ⟨p9, q9, rfl⟩ := row_form ho9; have Ho9 := Lib.hid ho9; have Hg9 := Lib.hid hg9; have Hloc9 := Lib.hid hloc9; clear ho9 hg9 hloc9; go_frame)
        go_roundw
        case rel =>
          have hltr : ∀ j, j < m → ∀ b, P j b → b < wr.heap.size := Hplay.out.sides.lt
          have hs8 := H78.out.size
          have hWr : w.heap.size < wr.heap.size := (Array.getElem?_eq_some_iff.1 Hplay.out.blk).1
          obtain ⟨hplay9, hb9⟩ := Hplay8.out.add (dk := ⟨w6.heap.size, p, R, B⟩) (sk := st0 (sec root) N y) (Q := fun b => wr.heap.size ≤ b ∧ b < w7.heap.size)
            (Hside.out.below H78.out) (fun b hb => ⟨by omega, by omega⟩) (fun j hj b hb hq => by have := hltr j hj b hb; omega) (fun hq => by omega)
            (fun b hb hq => by have := (Hplay.out.row.lt b hb).2; omega) (fun b hb => by cases hb) Hg9.out (by rw [sidesV_succ]; exact Ho9.out)
            (by
              rcases Hloc9.out with e | e
              · exact .inl e
              · exact .inr fun b hb => by rw [e] at hb; cases hb; exact Nat.le_refl _) Hle.out.2.2 hw0
          exact ⟨i + 1, by omega, by go_num, m + 1, _, _, _, _, by omega, hplay9, (Hb.out.trans (H8r.out.mono hbs)).trans hb9⟩
        case measure => simp only [intOf]; omega
      · have hnew := fun X => new_no X (sec root) n x hfit
        have href := fun X => refNew_no X (sec root) n x hfit
        have Hnew := Lib.hid hnew
        have Href := Lib.hid href
        clear hnew href hfit hx hx0 hcell
        go_upto_region 7 with (fail)
        go_region_held3 (fun w' => w'.cell? ⟨ob, oo + i, none⟩ = some (.int .i64 x)) (first | with_reducible assumption | (simp only [World.cell?_drew]; with_reducible assumption)) (first
          | (go_at_call 6; refine (secret_any _ root).mono ?_; rintro e w3 ⟨rfl, hb3⟩; have hxr := (hb3.cell (block_lt_of_cell hxr)).trans hxr; have Hb3 := Lib.hid hb3; clear hb3)
          | (go_at_call 5; refine (Hnew.out _).mono ?_; rintro e w4 ⟨rfl, hb4⟩; have hxr := (hb4.cell (block_lt_of_cell hxr)).trans hxr; have Hb4 := Lib.hid hb4; clear hb4))
        go_upto_region 8 with (fail)
        go_region_held3 (fun w' => w'.cell? ⟨ob, oo + i, none⟩ = some (.int .i64 x)) (first | with_reducible assumption | (simp only [World.cell?_drew]; with_reducible assumption)) (first
          | (go_at_call 6; refine (secret_any _ root).mono ?_; rintro e w5 ⟨rfl, hb5⟩; have hxr := (hb5.cell (block_lt_of_cell hxr)).trans hxr; have Hb5 := Lib.hid hb5; clear hb5)
          | (go_at_call 7; refine (Href.out _).mono ?_; rintro e w6 ⟨rfl, hb6⟩; have hxr := (hb6.cell (block_lt_of_cell hxr)).trans hxr; have Hb6 := Lib.hid hb6; clear hb6))
        go_wp2
        go_roundw
        case rel =>
          have hbt : Below wr.heap.size wr w6 := bnext (bnext (bnext (bnext (Below.refl _ _).drew Hb3.out) Hb4.out).drew Hb5.out) Hb6.out
          exact ⟨i + 1, by omega, by go_num, m, d, s, P, lv, by omega, Hplay.out.below hbt, bnext Hb.out hbt⟩
        case measure => simp only [intOf]; omega
    · have hnI : ¬ (i : Int) < (nl : Nat) := by omega
      obtain ⟨pl, cl, rfl⟩ := row_form Hplay.out.row
      have wl : wr.cell? ⟨w.heap.size, 0, none⟩ = some (.slice pl m cl) := cell_of_row _ _ _ _ _ _ Hplay.out.blk
      have hm16 : m ≤ 16 := by omega
      by_cases hm0 : m = 0
      · subst hm0
        clear hin hi hmi
        go_wp2
        go_ret
        exact ⟨rfl, Hb.out⟩
      · have hm : 0 < m := by omega
        have hmz : ((m : Int) == 0) = false := by simp; omega
        clear hin hi hmi
        go_upto_region 16 with (fail)
        go_loopw [16, 17] (fun iv _ wq => ∃ i : Nat, i ≤ no ∧ iv = .int .i64 i ∧ LoopB w wq m i) (fun iv _ _ => no - (intOf iv).toNat)
        case atStart => exact ⟨0, Nat.zero_le _, rfl, _, _, _, _, _, _, Hplay.out, Hb.out⟩
        case round =>
          clear wl
          obtain ⟨i, hin, rfl, hB⟩ := hrel
          obtain ⟨d, s, P, lv, bv, bag, hplay, hb⟩ := hB
          by_cases hi : i < no
          · have hiI : (i : Int) < (no : Nat) := by omega
            have hi0 : (0 : Int) ≤ (i : Nat) := by omega
            obtain ⟨ob, oo, rfl, hcell⟩ := Hops.out (by omega)
            have hio : i < O.length := by rw [← Hno.out]; exact hi
            obtain ⟨hc, ha, hbb, hs, hk1, hk2⟩ := hcell i hio
            obtain ⟨o, ho⟩ : ∃ o, o = O[i] := ⟨_, rfl⟩
            rw [← ho] at hc ha hbb hs hk1 hk2
            obtain ⟨x0, x1, x2, x3⟩ := hc.below (Nat.le_refl _) hb
            have hsm : o.s.size ≤ 9223372036854775807 := by unfold maxLen at hs; omega
            have Hplay2 := Lib.hid hplay
            have Hb2 := Lib.hid hb
            clear hplay hb hc hcell ho hs
            by_cases hlong : 65536 < o.s.size
            · have g3 : decide ((65536 : Int) < (o.s.size : Nat)) = true := decide_eq_true (by omega)
              go_wp2
              go_roundw
              case rel => exact ⟨i + 1, by omega, by go_num, _, _, _, _, _, _, Hplay2.out.more (Nat.le_succ i), Hb2.out⟩
              case measure => simp only [intOf]; omega
            · have g3 : decide ((65536 : Int) < (o.s.size : Nat)) = false := decide_eq_false (by omega)
              by_cases hup : upTo < o.kind
              · have g4 : decide (upTo < o.kind) = true := decide_eq_true hup
                go_wp2
                go_roundw
                case rel => exact ⟨i + 1, by omega, by go_num, _, _, _, _, _, _, Hplay2.out.more (Nat.le_succ i), Hb2.out⟩
                case measure => simp only [intOf]; omega
              · have g4 : decide (upTo < o.kind) = false := decide_eq_false hup
                have hstep := step_any wr w.heap.size w.heap.size m i d s P lv bv bag o.kind o.a o.b o.s Hplay2.out hm hm16 hw0 Hb2.out.size (by omega) ha hbb (by omega)
                have Hstep := Lib.hid hstep
                clear hstep
                go_wp2_with (first | (go_at_call 8; refine Hstep.out.mono ?_; rintro e w3 ⟨rfl, hgo⟩; have Hgo := Lib.hid hgo; clear hgo; go_frame))
                go_roundw
                case rel =>
                  obtain ⟨d3, s3, P3, lv3, bv3, bag3, hp3, hb3⟩ := Hgo.out
                  exact ⟨i + 1, by omega, by go_num, _, _, _, _, _, _, hp3, Hb2.out.trans hb3⟩
                case measure => simp only [intOf]; omega
          · have hnI2 : ¬ (i : Int) < (no : Nat) := by omega
            have hi4 : i ≤ 4096 := by omega
            have Hplay2 := Lib.hid hplay
            have Hb2 := Lib.hid hb
            clear hplay hb hin hi
            go_upto_region 23 with (fail)
            go_loopw [18, 19] (fun kv _ wq => ∃ k : Nat, k ≤ m ∧ kv = .int .i64 k ∧ LoopB w wq m (i + k)) (fun kv _ _ => m - (intOf kv).toNat)
            case atStart => exact ⟨0, Nat.zero_le _, rfl, _, _, _, _, _, _, Hplay2.out, Hb2.out⟩
            case round =>
              clear Hplay2 Hb2
              obtain ⟨k, hkm, rfl, hB⟩ := hrel
              obtain ⟨d, s, P, lv, bv, bag, hplay, hb⟩ := hB
              obtain ⟨gl, cl, rfl, hgl, _⟩ := ownsRow_pos hplay.row hm
              have wl : wr.cell? ⟨w.heap.size, 0, none⟩ = some (.slice (some ⟨gl, 0, none⟩) m cl) := cell_of_row _ _ _ _ _ _ hplay.blk
              by_cases hk : k < m
              · have hkI : (k : Int) < (m : Nat) := by omega
                have hk0 : (0 : Int) ≤ (k : Nat) := by omega
                have l0 : wr.cell? ⟨gl, k, none⟩ = some (.pointer (some ⟨(d k).S, 0, none⟩)) := by rw [hplay.row.cellAt k (by omega), sidesV_get d hk]
                have hdump := side_dump wr (P k) (d k) (s k) (i + k) (hplay.sides.side k hk) hplay.eg (fun hp => by have := hplay.low k hk 0 hp; omega) (by omega)
                have Hdump := Lib.hid hdump
                have Hplay3 := Lib.hid hplay
                have Hb3 := Lib.hid hb
                clear hdump hplay hb hgl
                go_wp2_with (first | (go_at_call 9; refine Hdump.out.mono ?_; rintro e w3 ⟨rfl, hgo⟩; have Hgo := Lib.hid hgo; clear hgo; go_frame))
                go_roundw
                case rel =>
                  obtain ⟨d3, s3, P3, hp3, hb3, _⟩ := Hplay3.out.step hk Hgo.out Hb3.out.size
                  exact ⟨k + 1, by omega, by go_num, _, _, _, _, _, _, hp3, Hb3.out.trans hb3⟩
                case measure => simp only [intOf]; omega
              · have hkI : ¬ (k : Int) < (m : Nat) := by omega
                have Hb3 := Lib.hid hb
                clear hplay hb hgl
                go_wp2
                go_ret
                exact ⟨rfl, Hb3.out⟩
end Go.Proofs.YtccidllcjaaeeabGreatDoor
