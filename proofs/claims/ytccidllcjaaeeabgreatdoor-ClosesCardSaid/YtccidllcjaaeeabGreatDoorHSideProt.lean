/- The walks of a side's worked and protect. Conditions: the side lies and reads as its state; the errors' type word lies. -/
import Derived.Test.YtccidllcjaaeeabGreatDoorHSideMem
import Derived.Test.YtccidllcjaaeeabGreatDoorHPlayAt
import Derived.BigQuiet
namespace Go.Proofs.YtccidllcjaaeeabGreatDoor
set_option maxRecDepth 100000
open Go Go.Maps Go.RowKit
open Go.Shelf Go.Lib Go.Sort Go.MuLone
theorem worked_any (w : World) (S R lo t : Nat) (p : GPl) (s : GSt) (wk st : Int) (b : Bool) (hS : w.heap[S]? = some (.cells #[.pointer (some ⟨p.G, 0, none⟩), .pointer (some ⟨R, 0, none⟩), .int .i64 wk] 42 (0, 0))) (hA : GroupAt w lo p s t) (hR : w.cell? ⟨R, 12, none⟩ = some (.int .i64 st)) (hne : S ≠ R) (h0 : 0 ≤ wk) (h1 : wk ≤ s.cnt) (h2 : s.cnt ≤ wk + st) (h3 : b = true → wk < s.cnt) (h4 : s.cnt ≤ 4611686010000000000) :
    Calls Tryz.prog 17 #[.pointer (some ⟨S, 0, none⟩), .bool b] w fun e w' => e = .returned (.bool true) ∧ w' = w.setCell ⟨S, 2, none⟩ (.int .i64 s.cnt) := by
  have hwork := work_any w lo t p s hA
  obtain ⟨c, hc⟩ : ∃ c, c = s.cnt := ⟨_, rfl⟩
  rw [← hc] at hwork h1 h2 h3 h4 ⊢
  have s0 : w.cell? ⟨S, 0, none⟩ = some (.pointer (some ⟨p.G, 0, none⟩)) := cell_of_row _ _ _ _ _ _ hS
  have s1 : w.cell? ⟨S, 1, none⟩ = some (.pointer (some ⟨R, 0, none⟩)) := cell_of_row _ _ _ _ _ _ hS
  have s2 : w.cell? ⟨S, 2, none⟩ = some (.int .i64 wk) := cell_of_row _ _ _ _ _ _ hS
  have f2 := frozen_of_row _ _ 2 _ _ hS
  have k1 : (w.setCell ⟨S, 2, none⟩ (.int .i64 c)).cell? ⟨S, 1, none⟩ = some (.pointer (some ⟨R, 0, none⟩)) := (World.cell?_setCell_other _ _ _ _ (by simp)).trans s1
  have kR : (w.setCell ⟨S, 2, none⟩ (.int .i64 c)).cell? ⟨R, 12, none⟩ = some (.int .i64 st) := (cell_ne hne).trans hR
  have d0 : (0 : Int) ≤ c - wk := by omega
  have d1 : c - wk ≤ st := by omega
  have Hwork := Lib.hid hwork
  clear hwork hS hA hc hR
  cases b with
  | false =>
    clear h3
    go_enter Tryz.func17, Tryz.ntmps17
    go_wp2_with (first | (go_at_call 28; refine Hwork.out.mono ?_; rintro e w1 ⟨rfl, e1⟩; obtain rfl := e1.symm))
    go_ret
    exact ⟨rfl, rfl⟩
  | true =>
    have d2 : wk < c := h3 rfl
    clear h3
    go_enter Tryz.func17, Tryz.ntmps17
    go_wp2_with (first | (go_at_call 28; refine Hwork.out.mono ?_; rintro e w1 ⟨rfl, e1⟩; obtain rfl := e1.symm))
    go_ret
    exact ⟨rfl, rfl⟩
/-- What a step leaves of a side's memory is enough of the errors' word too. -/
theorem sideGo_mk {w w' : World} {P : Nat → Prop} {d d' : SPl} {s' : GSt} {u : Nat} (hS : d'.S = d.S) (hs : SideAt w' (Grown P w w') d' s' (u + 1)) (hP : PFrm w w' P) (hE : EG w) (h0 : ¬ P 0) : SideGo w w' P d u :=
  ⟨d', s', hS, hs, hP, hE.keep (hP.block 0 (block_lt_of_cell hE) h0)⟩
theorem side_row {w : World} {P : Nat → Prop} {d : SPl} {s : GSt} {u : Nat} (h : SideAt w P d s u) : w.cell? ⟨d.S, 0, none⟩ = some (.pointer (some ⟨d.p.G, 0, none⟩)) ∧ w.cell? ⟨d.S, 1, none⟩ = some (.pointer (some ⟨d.R, 0, none⟩)) ∧ w.cell? ⟨d.S, 2, none⟩ = some (.int .i64 s.cnt) :=
  ⟨cell_of_row _ _ _ _ _ _ h.blk, cell_of_row _ _ _ _ _ _ h.blk, cell_of_row _ _ _ _ _ _ h.blk⟩
/-- Bytes that lie in a row of their own. -/
def ByteRow (w : World) (g n : Nat) : Prop := ∃ cs : Array Value, w.heap[g]? = some (.cells cs 5 (0, 0)) ∧ ∀ j, j < n → ∃ x : Int, cs[j]? = some (.int .u8 x)
theorem byteRow_own {w : World} {base g n c : Nat} {l : List UInt8} (h : w.ownsRow base 5 1 (.slice (some ⟨g, 0, none⟩) n c) n (cells l).toList) (hl : l.length = n) : base ≤ g ∧ ByteRow w g n := by
  rcases h.2 with ⟨e, _⟩ | ⟨g', cap, cur, e, h2, h3, h4, _, _, h7⟩
  · cases e
  · cases e
    refine ⟨h2, cur, h3, fun j hj => ?_⟩
    have h8 := cells_get l j (by omega)
    rw [← h7, List.getElem?_take_of_lt (by omega), Array.getElem?_toList] at h8
    exact ⟨_, h8⟩
theorem byteRow_set {w : World} {g n i : Nat} (h : ByteRow w g n) (x : Int) : ByteRow (w.setCell ⟨g, i, none⟩ (.int .u8 x)) g n := by
  obtain ⟨cs, h1, h2⟩ := h
  refine ⟨_, heap_setCell_same _ _ _ _ _ _ h1, fun j hj => ?_⟩
  obtain ⟨y, hy⟩ := h2 j hj
  by_cases e : i = j
  · subst e
    exact ⟨x, by rw [Array.getElem?_setIfInBounds_self]; simp [(Array.getElem?_eq_some_iff.1 hy).1]⟩
  · exact ⟨y, by rw [Array.getElem?_setIfInBounds_ne (by omega)]; exact hy⟩
theorem byteRow_cell {w : World} {g n j : Nat} (h : ByteRow w g n) (hj : j < n) : ∃ x : Int, w.cell? ⟨g, j, none⟩ = some (.int .u8 x) ∧ w.frozen? ⟨g, j, none⟩ = false := by
  obtain ⟨cs, h1, h2⟩ := h
  obtain ⟨x, hx⟩ := h2 j hj
  exact ⟨x, by rw [cell_of_row _ _ _ _ _ _ h1]; exact hx, frozen_of_row _ _ _ _ _ h1⟩
theorem str_self (text : ByteArray) : (⟨text.data.toList.toArray⟩ : ByteArray) = text := by simp
set_option maxHeartbeats 8000000 in
theorem side_protect (w : World) (P : Nat → Prop) (d : SPl) (s : GSt) (u : Nat) (text : ByteArray) (h : SideAt w P d s u) (hE : EG w) (h0 : ¬ P 0) (hu : u ≤ 100000) (ht : text.size ≤ 65536) :
    Calls Tryz.prog 13 #[.pointer (some ⟨d.S, 0, none⟩), .string text] w fun e w' => ∃ fr : ByteArray, e = .returned (.tuple #[.string fr, .bool true]) ∧ fr.size ≤ 47 ∧ SideGo w w' P d u := by
  obtain ⟨l, hl⟩ : ∃ l, l = text.data.toList := ⟨_, rfl⟩
  have hll : l.length = text.size := by rw [hl]; simp
  obtain ⟨V, hV⟩ : ∃ V, V = Lib.bytesWorld w 5 text := ⟨_, rfl⟩
  obtain ⟨cp, hcp⟩ : ∃ cp, cp = grownCap w text.size 0 5 := ⟨_, rfl⟩
  have hVb : Below w.heap.size w V := by rw [hV]; exact bytes_below _ _
  have hbuf : BufAt V w.heap.size l := by rw [hV, hl]; exact bytes_buf _ _
  have hcv := conv_bytes w text
  rw [← hcp, ← hV] at hcv
  have h1 := h.below hVb
  have hE1 := hE.below hVb
  have hlow := h.low
  have hhigh := h.high
  have hgp := gp_any V (5 * u) w.heap.size cp d.p s l h1.grp h1.mu hE1 h1.inv hlow (by omega) (by omega) hbuf
  have hrp := fun W st (hr : RefAt W 1 d.R d.B s st) => rp_any W d.R d.B s st text hr h1.inv (by omega)
  obtain ⟨co, hco⟩ : ∃ co, co = protCode s text.size := ⟨_, rfl⟩
  obtain ⟨fr, hfr⟩ : ∃ fr, fr = protFrame s l := ⟨_, rfl⟩
  obtain ⟨fb, hfb⟩ : ∃ fb : ByteArray, fb = ⟨fr.toArray⟩ := ⟨_, rfl⟩
  obtain ⟨sp, hsp⟩ : ∃ sp, sp = protSteps s text.size := ⟨_, rfl⟩
  have hs400 : sp ≤ 400 := by rw [hsp, ← hll]; exact protSteps_le s l
  have hf47 : fr.length ≤ 47 := by rw [hfr]; exact protFrame_len s l
  have hInv : ∀ c, GInv (protNext s text.size c) := fun c => inv_protNext h1.inv _ c
  rw [hll, ← hco, ← hfr, ← hsp] at hgp
  simp only [← hl, ← hco, ← hfr, ← hfb, ← hsp] at hrp
  obtain ⟨v0, v1, v2⟩ := side_row h1
  have hne := side_ne h
  have Hgp := Lib.hid hgp
  have Hrp := Lib.hid hrp
  have Hh := Lib.hid h
  have HE := Lib.hid hE
  have HVb := Lib.hid hVb
  have Hbuf := Lib.hid hbuf
  have Hll := Lib.hid hll
  have Hl := Lib.hid hl
  have Hfb := Lib.hid hfb
  have Hfr := Lib.hid hfr
  have HInv := Lib.hid hInv
  have Hne := Lib.hid hne
  have H0 := Lib.hid h0
  have H1 := Lib.hid h1
  clear hgp hrp h hE hVb hbuf hll hl hfb hfr hInv hne h0 h1 hE1 hV hcp hco hsp
  go_enter Tryz.func13, Tryz.ntmps13
  go_upto_region 3 with (first
    | (go_at_call 20; refine Hgp.out.mono ?_; rintro e w2 ⟨v, T', c', rfl, ho, hA, hF, hT, hcn, hc1, hc2, hc3, hE2⟩; have Ho := Lib.hid ho; have HA := Lib.hid hA; have HF := Lib.hid hF; have HT := Lib.hid hT; have Hcn := Lib.hid hcn; have Hc3 := Lib.hid hc3; clear ho hA hF hT hcn hc3 hE2; go_frame))
  clear hcv
  obtain ⟨ra, rc, rfl⟩ := row_form Ho.out
  obtain ⟨st2, hr2⟩ := side_ref Hh.out HVb.out HF.out
  have hS2 := (frm_stay H1.out.grp HF.out _ _ _ _ H1.out.blk (by decide) (by decide)).trans H1.out.blk
  have x1 : w2.cell? ⟨d.S, 1, none⟩ = some (.pointer (some ⟨d.R, 0, none⟩)) := cell_of_row _ _ _ _ _ _ hS2
  have Hr2 := Lib.hid hr2
  clear hr2 hS2 v0 v1 v2
  go_upto_region 4 with (first
    | (go_at_call 21; refine (Hrp.out _ _ Hr2.out).mono ?_; rintro e w3 ⟨rfl, hr3, hf3⟩; have Hr3 := Lib.hid hr3; have Hf3 := Lib.hid hf3; clear hr3 hf3; go_frame))
  obtain ⟨hA3, hS3⟩ := side_mid Hh.out HVb.out HF.out HA.out Hf3.out
  have hwk := fun b hb => worked_any w3 d.S d.R 1 _ { d.p with T := T' } (protNext s text.size c') s.cnt sp b hS3 hA3 ((Hr3.out c').fields.2.2.2.2.2.1) Hne.out.1 hlow (by rw [Hcn.out]; exact hc1) (by rw [Hcn.out]; exact hc2) hb (by rw [Hcn.out]; omega)
  rw [Hcn.out] at hwk
  obtain ⟨w4, hw4⟩ : ∃ w4, w4 = w3.setCell ⟨d.S, 2, none⟩ (.int .i64 c') := ⟨_, rfl⟩
  rw [← hw4] at hwk
  have hS4 : w4.heap[d.S]? = some (.cells #[.pointer (some ⟨d.p.G, 0, none⟩), .pointer (some ⟨d.R, 0, none⟩), .int .i64 c'] 42 (0, 0)) := by rw [hw4, heap_setCell_same _ _ _ _ _ _ hS3]; rfl
  have hf4 : RFrm w3 w4 d.S d.S := by rw [hw4]; exact RFrm.set _ _ _ (.inl rfl)
  obtain ⟨hM, hP⟩ := side_mem Hh.out HVb.out HF.out HT.out HA.out (by omega) Hf3.out (Hr3.out c') (by rw [Hcn.out]; exact hS4) hf4 (HInv.out c') (by rw [Hcn.out]; omega) (by rw [Hcn.out]; omega)
  have ho4 : w4.ownsRow V.heap.size 5 1 (.slice ra fr.length rc) fr.length (cells fr).toList := ownsRow_blk Ho.out fun g hg => by
    obtain ⟨cs, hc⟩ := row_cells Ho.out hg
    have hlt := (Array.getElem?_eq_some_iff.1 hc).1
    have e3 : w3.heap[g]? = w2.heap[g]? := by
      obtain ⟨⟨cs1, r1, _⟩, ⟨ms, r3, _⟩, _, _⟩ := Hr2.out
      refine Hf3.out.block g hlt (fun e => ?_) (fun e => ?_)
      · rw [e, r1] at hc; injection hc with hc; injection hc with _ hc; exact absurd hc (by decide)
      · rw [e, r3] at hc; injection hc with hc; injection hc with _ hc; exact absurd hc (by decide)
    have hne4 : g ≠ d.S := fun e => by
      rw [← e, e3, hc] at hS3; injection hS3 with hS3; injection hS3 with _ hS3; exact absurd hS3 (by decide)
    exact (hf4.block g (by have := Hf3.out.size; omega) hne4 hne4).trans e3
  have hbuf4 : BufAt w4 w.heap.size l := Hbuf.out.keep (by
    obtain ⟨cs, lo, hi, hc, _⟩ := Hbuf.out
    have hlt := (Array.getElem?_eq_some_iff.1 hc).1
    have e2 : w2.heap[w.heap.size]? = V.heap[w.heap.size]? := frm_stay H1.out.grp HF.out _ _ _ _ hc (by decide) (by decide)
    have hl2 : w.heap.size < w2.heap.size := by have := HF.out.size; omega
    have hlo := side_lt Hh.out
    have e3 : w3.heap[w.heap.size]? = w2.heap[w.heap.size]? := Hf3.out.block _ hl2 (fun e => by have := hlo d.R (.inr (.inl rfl)); omega) (fun e => by have := hlo d.B (.inr (.inr (.inl rfl))); omega)
    have hne4 : w.heap.size ≠ d.S := fun e => by have := hlo d.S (.inl rfl); omega
    exact (hf4.block _ (by have := Hf3.out.size; omega) hne4 hne4).trans (e3.trans e2))
  have Hwk := Lib.hid hwk
  have HM := Lib.hid hM
  have HP := Lib.hid hP
  have Ho4 := Lib.hid ho4
  have Hbuf4 := Lib.hid hbuf4
  clear hwk hM hP ho4 hbuf4 hA3 hS3 hS4 hf4 hw4 x1
  obtain ⟨b, hb, hwkb⟩ : ∃ b : Bool, (co == (0 : Int)) = b ∧ Calls Tryz.prog 17 #[.pointer (some ⟨d.S, 0, none⟩), .bool b] w3 fun e w' => e = .returned (.bool true) ∧ w' = w4 :=
    ⟨_, rfl, Hwk.out _ fun e => Hc3.out (by simpa using e)⟩
  have Hwkb := Lib.hid hwkb
  clear hwkb Hwk
  have hcs1 := conv_str w4 ra rc fr (Rd.own Ho4.out)
  rw [← Hfb.out] at hcs1
  have hcs2 := conv_str w4 (some ⟨w.heap.size, 0, none⟩) cp l Hbuf4.out.rd
  rw [Hll.out, Hl.out, str_self] at hcs2
  obtain ⟨n, hn⟩ : ∃ n, n = fr.length := ⟨_, rfl⟩
  have hbytes : ∀ g, ra = some ⟨g, 0, none⟩ → w.heap.size ≤ g ∧ ByteRow w4 g n := fun g e => by
    have h := Ho4.out
    rw [e, ← hn] at h
    have := byteRow_own h hn.symm
    exact ⟨Nat.le_trans HVb.out.size this.1, this.2⟩
  have hform : n = 0 ∨ ∃ g, ra = some ⟨g, 0, none⟩ := by
    rcases Ho4.out.2 with ⟨_, h⟩ | ⟨g, cap, cur, e, _⟩
    · exact .inl (by rw [hn]; exact h)
    · cases e; exact .inr ⟨g, rfl⟩
  rw [← hn] at hcs1 hf47 ⊢
  have Hbytes := Lib.hid hbytes
  have Hform := Lib.hid hform
  have Hn := Lib.hid hn
  clear hbytes hform hn
  go_upto_region 5 with (first
    | (go_at_call 17; refine Hwkb.out.mono ?_; rintro e w5 ⟨rfl, e1⟩; obtain rfl := e1.symm; go_frame))
  go_upto_region 7 with (fail)
  clear hcs1 hcs2 hb
  go_loopw [13] (fun iv wr => ∃ i : Nat, i ≤ n ∧ iv = .int .i64 i ∧ (SideAt wr (Grown P w wr) { d with p := { d.p with T := T' } } (protNext s text.size c') (u + 1) ∧ PFrm w wr P) ∧ ∀ g, ra = some ⟨g, 0, none⟩ → w.heap.size ≤ g ∧ ByteRow wr g n) (fun iv _ => n - (intOf iv).toNat)
  case atStart => exact ⟨0, Nat.zero_le _, rfl, ⟨HM.out, HP.out⟩, Hbytes.out⟩
  case round =>
    obtain ⟨i, hin, rfl, hsg, hby⟩ := hrel
    by_cases hi : i < n
    · have hiI : (i : Int) < (n : Nat) := by omega
      have hi0 : (0 : Int) ≤ (i : Nat) := by omega
      obtain ⟨g, rfl⟩ : ∃ g, ra = some ⟨g, 0, none⟩ := by
        rcases Hform.out with h | h
        · omega
        · exact h
      obtain ⟨hg, hrow⟩ := hby g rfl
      obtain ⟨x, hx, hxf⟩ := byteRow_cell hrow hi
      have Hsg := Lib.hid hsg
      have Hrow := Lib.hid hrow
      clear hsg hrow hby
      go_wp2
      go_roundw
      case rel =>
        obtain ⟨cs, hcs, _⟩ := Hrow.out
        exact ⟨i + 1, by omega, by simp, side_end Hsg.out.1 Hsg.out.2 (RFrm.set _ _ _ (.inl rfl)) hg hcs, fun g' e => by cases e; exact ⟨hg, byteRow_set Hrow.out _⟩⟩
      case measure => simp only [intOf]; omega
    · have hiI : ¬ (i : Int) < (n : Nat) := by omega
      have Hsg := Lib.hid hsg
      clear hsg hby
      go_wp2
      go_ret2
      refine ⟨fb, rfl, ?_, sideGo_mk (d' := { d with p := { d.p with T := T' } }) rfl Hsg.out.1 Hsg.out.2 HE.out H0.out⟩
      rw [Hfb.out]
      show fr.toArray.size ≤ 47
      simpa [← Hn.out] using hf47
end Go.Proofs.YtccidllcjaaeeabGreatDoor
