/- The walk of a side's unprotect. Conditions: the side lies and reads as its state; the errors' type word lies. -/
import Derived.Test.YtccidllcjaaeeabGreatDoorHRefUnAny
import Derived.Test.YtccidllcjaaeeabGreatDoorHSideProt
namespace Go.Proofs.YtccidllcjaaeeabGreatDoor
set_option maxRecDepth 100000
open Go Go.Maps Go.RowKit
open Go.Shelf Go.Lib Go.Sort Go.MuLone
set_option maxHeartbeats 8000000 in
theorem side_unprotect (w : World) (P : Nat → Prop) (d : SPl) (s : GSt) (u : Nat) (f : ByteArray) (h : SideAt w P d s u) (hE : EG w) (h0 : ¬ P 0) (hu : u ≤ 100000) (ht : f.size ≤ 65536) :
    Calls Tryz.prog 15 #[.pointer (some ⟨d.S, 0, none⟩), .string f] w fun e w' => e = .returned (.bool true) ∧ SideGo w w' P d u := by
  obtain ⟨l, hl⟩ : ∃ l, l = f.data.toList := ⟨_, rfl⟩
  have hll : l.length = f.size := by rw [hl]; simp
  obtain ⟨V, hV⟩ : ∃ V, V = Lib.bytesWorld w 5 f := ⟨_, rfl⟩
  obtain ⟨cp, hcp⟩ : ∃ cp, cp = grownCap w f.size 0 5 := ⟨_, rfl⟩
  have hcap : f.size ≤ cp := by rw [hcp]; exact grownCap_ge _ _ _ _
  have hVb : Below w.heap.size w V := by rw [hV]; exact bytes_below _ _
  have hbuf : BufAt V w.heap.size l := by rw [hV, hl]; exact bytes_buf _ _
  have hcv := conv_bytes w f
  rw [← hcp, ← hV] at hcv
  have h1 := h.below hVb
  have hE1 := hE.below hVb
  have hlow := h.low
  have hhigh := h.high
  have hgp := gu_any V (5 * u) w.heap.size cp d.p s l h1.grp h1.mu hE1 h1.inv hlow (by omega) (by omega) hbuf (by omega) (by omega)
  have hrp := fun W st (hr : RefAt W 1 d.R d.B s st) => ru_any W d.R d.B s st f hr h1.inv (by omega)
  obtain ⟨co, hco⟩ : ∃ co, co = unCode s l := ⟨_, rfl⟩
  obtain ⟨fr, hfr⟩ : ∃ fr, fr = unText s l := ⟨_, rfl⟩
  obtain ⟨fb, hfb⟩ : ∃ fb : ByteArray, fb = ⟨fr.toArray⟩ := ⟨_, rfl⟩
  obtain ⟨sp, hsp⟩ : ∃ sp, sp = unSteps s l := ⟨_, rfl⟩
  obtain ⟨uw, huw⟩ : ∃ uw, uw = unW s l := ⟨_, rfl⟩
  obtain ⟨ug, hug⟩ : ∃ ug, ug = unG s l := ⟨_, rfl⟩
  have hs400 : sp ≤ 400 := by rw [hsp]; exact unSteps_le s l
  have hf40 : fr.length ≤ 40 := by rw [hfr]; exact unText_len s l
  have hInv : ∀ c, GInv (unNext s l c) := fun c => inv_unNext h1.inv _ c
  have hcnt := unNext_cnt s l
  rw [hll, ← hco, ← hfr, ← hsp, ← huw, ← hug] at hgp
  simp only [← hl, ← hco, ← hfr, ← hfb, ← hsp, ← huw, ← hug] at hrp
  obtain ⟨v0, v1, v2⟩ := side_row h1
  have hne := side_ne h
  have Hgp := Lib.hid hgp
  have Hrp := Lib.hid hrp
  have Hh := Lib.hid h
  have HE := Lib.hid hE
  have HVb := Lib.hid hVb
  have Hbuf := Lib.hid hbuf
  have Hll := Lib.hid hll
  have Hl := Lib.hid hl
  have Hfb := Lib.hid hfb
  have HInv := Lib.hid hInv
  have Hcnt := Lib.hid hcnt
  have Hne := Lib.hid hne
  have H0 := Lib.hid h0
  have H1 := Lib.hid h1
  clear hgp hrp h hE hVb hbuf hll hl hfb hfr hInv hcnt hne h0 h1 hE1 hV hcp hco hsp huw hug hcap
  go_enter Tryz.func15, Tryz.ntmps15
  go_upto_region 3 with (first
    | (go_at_call 22; refine Hgp.out.mono ?_; rintro e w2 ⟨v, T', c', rfl, ho, hA, hF, hT, hc1, hc2, hc3, hE2⟩; obtain ⟨ra, rc, rfl⟩ := row_form ho; have Ho := Lib.hid ho; have HA := Lib.hid hA; have HF := Lib.hid hF; have HT := Lib.hid hT; have Hc3 := Lib.hid hc3; clear ho hA hF hT hc3 hE2; go_frame))
  clear hcv
  generalize hW3 : World.alloc w2 _ = W3
  have hb3 : Below w2.heap.size w2 W3 := by rw [← hW3]; exact balloc (Below.refl _ _) _
  have hM3 : W3.heap[w2.heap.size]? = some (.cells #[.int .i64 uw, .int .i64 ug, .slice ra fr.length rc] 94 (0, 0)) := by rw [← hW3]; exact heap_alloc_new _ _
  obtain ⟨Mb, hMb⟩ : ∃ Mb, Mb = w2.heap.size := ⟨_, rfl⟩
  rw [← hMb] at hM3 ⊢
  have hF3 := HF.out.below hb3
  have hA3' := group_below HA.out hb3
  have ho3 := ownsRow_below Ho.out hb3
  have hbuf2 : BufAt W3 w.heap.size l := (Hbuf.out.keep (by
    obtain ⟨cs, lo, hi, hc, _⟩ := Hbuf.out
    exact frm_stay H1.out.grp hF3 _ _ _ _ hc (by decide) (by decide)))
  have HF3 := Lib.hid hF3
  have HA3 := Lib.hid hA3'
  have Ho3 := Lib.hid ho3
  have Hbuf3 := Lib.hid hbuf2
  have HM3 := Lib.hid hM3
  clear hW3 hb3 hM3 hMb hF3 hA3' ho3 hbuf2 HF HA Ho
  obtain ⟨st2, hr2⟩ := side_ref Hh.out HVb.out HF3.out
  have hS2 := (frm_stay H1.out.grp HF3.out _ _ _ _ H1.out.blk (by decide) (by decide)).trans H1.out.blk
  have x1 : W3.cell? ⟨d.S, 1, none⟩ = some (.pointer (some ⟨d.R, 0, none⟩)) := cell_of_row _ _ _ _ _ _ hS2
  have Hr2 := Lib.hid hr2
  clear hr2 hS2 v0 v1 v2
  go_upto_region 4 with (first
    | (go_at_call 23; refine (Hrp.out _ _ Hr2.out).mono ?_; rintro e w3 ⟨rfl, hr3, hf3⟩; have Hr3 := Lib.hid hr3; have Hf3 := Lib.hid hf3; clear hr3 hf3; go_frame))
  obtain ⟨hA3, hS3⟩ := side_mid Hh.out HVb.out HF3.out HA3.out Hf3.out
  have hcc := Hcnt.out c'
  have hwk := fun b hb => worked_any w3 d.S d.R 1 _ { d.p with T := T' } (unNext s l c') s.cnt sp b hS3 hA3 ((Hr3.out c').fields.2.2.2.2.2.1) Hne.out.1 hlow (by rw [hcc]; exact hc1) (by rw [hcc]; exact hc2) hb (by rw [hcc]; omega)
  rw [hcc] at hwk
  obtain ⟨w4, hw4⟩ : ∃ w4, w4 = w3.setCell ⟨d.S, 2, none⟩ (.int .i64 c') := ⟨_, rfl⟩
  rw [← hw4] at hwk
  have hS4 : w4.heap[d.S]? = some (.cells #[.pointer (some ⟨d.p.G, 0, none⟩), .pointer (some ⟨d.R, 0, none⟩), .int .i64 c'] 42 (0, 0)) := by rw [hw4, heap_setCell_same _ _ _ _ _ _ hS3]; rfl
  have hf4 : RFrm w3 w4 d.S d.S := by rw [hw4]; exact RFrm.set _ _ _ (.inl rfl)
  obtain ⟨hM, hP⟩ := side_mem Hh.out HVb.out HF3.out HT.out HA3.out (by omega) Hf3.out (Hr3.out c') (by rw [hcc]; exact hS4) hf4 (HInv.out c') (by rw [hcc]; omega) (by rw [hcc]; omega)
  have hkeep : ∀ (g : Nat) (cs : Array Value) (ty : TypeId) (fz : Nat × Nat), W3.heap[g]? = some (.cells cs ty fz) → ty ≠ 76 → ty ≠ 111 → ty ≠ 42 → w4.heap[g]? = W3.heap[g]? := fun g cs ty fz hc t1 t2 t3 => by
    have hlt := (Array.getElem?_eq_some_iff.1 hc).1
    have e3 : w3.heap[g]? = W3.heap[g]? := by
      obtain ⟨⟨cs1, r1, _⟩, ⟨ms, r3, _⟩, _, _⟩ := Hr2.out
      refine Hf3.out.block g hlt (fun e => ?_) (fun e => ?_)
      · rw [e, r1] at hc; injection hc with hc; injection hc with _ hc; exact t1 hc.symm
      · rw [e, r3] at hc; injection hc with hc; injection hc with _ hc; exact t2 hc.symm
    have hne4 : g ≠ d.S := fun e => by
      rw [← e, e3, hc] at hS3; injection hS3 with hS3; injection hS3 with _ hS3; exact t3 hS3
    exact (hf4.block g (by have := Hf3.out.size; omega) hne4 hne4).trans e3
  have ho4 : w4.ownsRow V.heap.size 5 1 (.slice ra fr.length rc) fr.length (cells fr).toList := ownsRow_blk Ho3.out fun g hg => by
    obtain ⟨cs, hc⟩ := row_cells Ho3.out hg
    exact hkeep g cs _ _ hc (by decide) (by decide) (by decide)
  have hbuf4 : BufAt w4 w.heap.size l := Hbuf3.out.keep (by
    obtain ⟨cs, lo, hi, hc, _⟩ := Hbuf3.out
    exact hkeep _ cs _ _ hc (by decide) (by decide) (by decide))
  have hM4 := (hkeep Mb _ _ _ HM3.out (by decide) (by decide) (by decide)).trans HM3.out
  have Hwk := Lib.hid hwk
  have HM := Lib.hid hM
  have HP := Lib.hid hP
  have Ho4 := Lib.hid ho4
  have Hbuf4 := Lib.hid hbuf4
  have HM4 := Lib.hid hM4
  clear hwk hM hP ho4 hbuf4 hM4 hA3 hS3 hS4 hf4 hw4 x1 hkeep hcc
  obtain ⟨b, hb, hwkb⟩ : ∃ b : Bool, (co == (0 : Int)) = b ∧ Calls Tryz.prog 17 #[.pointer (some ⟨d.S, 0, none⟩), .bool b] w3 fun e w' => e = .returned (.bool true) ∧ w' = w4 :=
    ⟨_, rfl, Hwk.out _ fun e => Hc3.out (by simpa using e)⟩
  have Hwkb := Lib.hid hwkb
  clear hwkb Hwk
  have hcs1 := conv_str w4 ra rc fr (Rd.own Ho4.out)
  rw [← Hfb.out] at hcs1
  have hcs2 := conv_str w4 (some ⟨w.heap.size, 0, none⟩) cp l Hbuf4.out.rd
  rw [Hll.out, Hl.out, str_self] at hcs2
  obtain ⟨n, hn⟩ : ∃ n, n = fr.length := ⟨_, rfl⟩
  have hbytes : ∀ g, ra = some ⟨g, 0, none⟩ → w.heap.size ≤ g ∧ ByteRow w4 g n := fun g e => by
    have h := Ho4.out
    rw [e, ← hn] at h
    have := byteRow_own h hn.symm
    exact ⟨Nat.le_trans HVb.out.size this.1, this.2⟩
  have hform : n = 0 ∨ ∃ g, ra = some ⟨g, 0, none⟩ := by
    rcases Ho4.out.2 with ⟨_, h⟩ | ⟨g, cap, cur, e, _⟩
    · exact .inl (by rw [hn]; exact h)
    · cases e; exact .inr ⟨g, rfl⟩
  have hm4 := HM4.out
  rw [← hn] at hcs1 hm4 hf40
  have y0 : w4.cell? ⟨Mb, 0, none⟩ = some (.int .i64 uw) := cell_of_row _ _ _ _ _ _ hm4
  have y1 : w4.cell? ⟨Mb, 1, none⟩ = some (.int .i64 ug) := cell_of_row _ _ _ _ _ _ hm4
  have y2 : w4.cell? ⟨Mb, 2, none⟩ = some (.slice ra n rc) := cell_of_row _ _ _ _ _ _ hm4
  have Hm4 := Lib.hid hm4
  have Hbytes := Lib.hid hbytes
  have Hform := Lib.hid hform
  clear hbytes hform hn hm4 HM4 HM3
  go_upto_region 5 with (first
    | (go_at_call 17; refine Hwkb.out.mono ?_; rintro e w5 ⟨rfl, e1⟩; obtain rfl := e1.symm; go_frame))
  go_upto_region 7 with (fail)
  clear hcs1 hcs2 hb y0 y1 y2
  go_loopw [14] (fun iv wr => ∃ i : Nat, i ≤ n ∧ iv = .int .i64 i ∧ (SideAt wr (Grown P w wr) { d with p := { d.p with T := T' } } (unNext s l c') (u + 1) ∧ PFrm w wr P) ∧ (∀ g, ra = some ⟨g, 0, none⟩ → w.heap.size ≤ g ∧ ByteRow wr g n) ∧ wr.heap[Mb]? = some (.cells #[.int .i64 uw, .int .i64 ug, .slice ra n rc] 94 (0, 0))) (fun iv _ => n - (intOf iv).toNat)
  case atStart => exact ⟨0, Nat.zero_le _, rfl, ⟨HM.out, HP.out⟩, Hbytes.out, Hm4.out⟩
  case round =>
    obtain ⟨i, hin, rfl, hsg, hby, hmb⟩ := hrel
    have y2 : wr.cell? ⟨Mb, 2, none⟩ = some (.slice ra n rc) := cell_of_row _ _ _ _ _ _ hmb
    have Hmb := Lib.hid hmb
    clear hmb
    by_cases hi : i < n
    · have hiI : (i : Int) < (n : Nat) := by omega
      have hi0 : (0 : Int) ≤ (i : Nat) := by omega
      obtain ⟨g, rfl⟩ : ∃ g, ra = some ⟨g, 0, none⟩ := by
        rcases Hform.out with h | h
        · omega
        · exact h
      obtain ⟨hg, hrow⟩ := hby g rfl
      obtain ⟨x, hx, hxf⟩ := byteRow_cell hrow hi
      have hgM : g ≠ Mb := fun e => by
        obtain ⟨cs, hcs, _⟩ := hrow
        have h2 := Hmb.out
        rw [← e, hcs] at h2; injection h2 with h2; injection h2 with _ h2; exact absurd h2 (by decide)
      have Hsg := Lib.hid hsg
      have Hrow := Lib.hid hrow
      clear hsg hrow hby
      go_upto_region 9 with (fail)
      go_region
      all_goals
        go_wp2
        go_roundw
        case rel =>
          obtain ⟨cs, hcs, _⟩ := Hrow.out
          have hdr : RFrm wr (wr.setCell ⟨g, i, none⟩ (.int .u8 (IntKind.u8.wrap (x + 1)))).drew g g := (RFrm.set _ _ _ (.inl rfl)).drew
          exact ⟨i + 1, by omega, by simp, side_end Hsg.out.1 Hsg.out.2 hdr hg hcs, fun g' e => by cases e; exact ⟨hg, byteRow_set Hrow.out _⟩, (heap_ne hgM).trans Hmb.out⟩
        case measure => simp only [intOf]; omega
    · have hiI : ¬ (i : Int) < (n : Nat) := by omega
      have Hsg := Lib.hid hsg
      clear hsg hby
      go_wp2
      go_ret
      exact ⟨rfl, sideGo_mk (d' := { d with p := { d.p with T := T' } }) rfl Hsg.out.1 Hsg.out.2 HE.out H0.out⟩
end Go.Proofs.YtccidllcjaaeeabGreatDoor
