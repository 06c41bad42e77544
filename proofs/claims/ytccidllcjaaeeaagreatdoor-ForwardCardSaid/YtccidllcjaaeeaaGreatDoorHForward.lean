/- The walk of epochkeep's Forward. Conditions: its numbers are ints; the errors' type word lies. -/
import Derived.Test.YtccidllcjaaeeaaGreatDoorHItems
import Derived.BigQuiet
namespace Go.Proofs.YtccidllcjaaeeaaGreatDoor
set_option maxRecDepth 100000
open Go Go.Maps Go.RowKit
open Go.Shelf Go.Lib Go.Sort Go.MuLone
set_option maxHeartbeats 8000000 in
theorem forward_any (w : World) (root words : ByteArray) (c a sk : Int) (h1 : -9223372036854775808 ≤ c) (h2 : c ≤ 9223372036854775807) (h3 : -9223372036854775808 ≤ a) (h4 : a ≤ 9223372036854775807) (h5 : -9223372036854775808 ≤ sk) (h6 : sk ≤ 9223372036854775807) (hEG : EG w) :
    Calls Tryz.prog 8 #[.string root, .int .i64 c, .int .i64 a, .int .i64 sk, .string words] w fun e w' => e = .returned (.bool true) ∧ Below w.heap.size w w' := by
  obtain ⟨n, hn⟩ : ∃ n, n = 2 + pickN c 15 := ⟨_, rfl⟩
  obtain ⟨x, hx⟩ : ∃ x, x = pickN a n := ⟨_, rfl⟩
  obtain ⟨g, hg⟩ : ∃ g, g = pickN sk 6 := ⟨_, rfl⟩
  have hg5 : g ≤ 5 := by have := pickN_lt sk 6 (by omega); omega
  have hpair := pair_any w root c a n x h1 h2 h3 h4 hn hx
  have Hpair := Lib.hid hpair
  have Hn := Lib.hid hn
  have Hx := Lib.hid hx
  have Hg := Lib.hid hg
  clear hpair hn hx hg
  go_enter Tryz.func8, Tryz.ntmps8
  go_upto_region 2 with (go_at_call 11; refine Hpair.out.mono ?_; rintro e w1 ⟨p, q, rfl, hP⟩; have HP := Lib.hid hP; clear hP; go_frame)
  obtain ⟨hp0, hq0, hb1, M, hM, hA1, hpM, hB1⟩ := HP.out
  have hr8 : (sec root).length = 8 := sec_length _
  have hxn : x < n := by rw [Hx.out]; exact pickN_lt a n (by have := Hn.out; omega)
  have hn16 : n ≤ 16 := by have := pickN_lt c 15 (by omega); have := Hn.out; omega
  have hw0 : 0 < w.heap.size := Nat.lt_of_le_of_lt (Nat.zero_le _) (block_lt_of_cell hEG)
  have hE1 := hEG.below hb1
  have hS1 : SndR w1 w1 w.heap.size p (sec root) n x 0 := snd_zero hA1 (inv_st0 _ _ _ hr8 hxn hn16) hE1
  have hB1l := group_lt hB1
  have hqp : ∀ b, b = q.G ∨ b = q.H ∨ b = q.K ∨ q.T.ownBlock = some b → b ≠ p.G ∧ b ≠ p.H ∧ b ≠ p.K ∧ p.T.ownBlock ≠ some b := fun b hb => by
    have h0 := (hB1l b hb).1
    exact ⟨fun e => by have := hpM p.G (.inl rfl); omega, fun e => by have := hpM p.H (.inr (.inl rfl)); omega, fun e => by have := hpM p.K (.inr (.inr (.inl rfl))); omega, fun e => by have := hpM b (.inr (.inr (.inr e))); omega⟩
  obtain ⟨l, hl⟩ : ∃ l, l = textL words.data.toList := ⟨_, rfl⟩
  have hl40 : l.length ≤ 40 := by rw [hl]; exact Nat.le_trans (Nat.le_of_eq List.length_take) (Nat.min_le_left _ _)
  obtain ⟨tb, htb⟩ : ∃ tb : ByteArray, tb = ⟨l.toArray⟩ := ⟨_, rfl⟩
  have htl : tb.data.toList = l := by rw [htb]
  have hts : tb.size = l.length := by rw [htb]; rfl
  have hw10 : 0 < w1.heap.size := Nat.lt_of_lt_of_le hw0 hb1.size
  have Hl := Lib.hid hl
  have Htb := Lib.hid htb
  have Htl := Lib.hid htl
  have Hts := Lib.hid hts
  have Hb1 := Lib.hid hb1
  have HA1 := Lib.hid hA1
  have HB1 := Lib.hid hB1
  have HB1l := Lib.hid hB1l
  have Hqp := Lib.hid hqp
  have HS1 := Lib.hid hS1
  clear hl htb htl hts hb1 hA1 hB1 hpM hE1 hS1 hB1l hqp HP
  go_upto_region 7 with (go_at_call 22; refine (pick_any _ sk 6 h5 h6 (by omega) (by omega)).mono ?_; rintro e w2 ⟨rfl, h2⟩; obtain rfl := h2.symm; rw [← Hg.out]; go_frame)
  go_loopw [15, 16] (fun bv iv wr => ∃ k : Nat, k ≤ g + 1 ∧ iv = .int .i64 k ∧ SndR w1 wr w.heap.size p (sec root) n x k ∧ (0 < k → wr.ownsRow w1.heap.size 5 1 bv (l.length + 7) (cells (frameL (st0 (sec root) n x) x (k - 1) l)).toList)) (fun _ iv _ => g + 1 - (intOf iv).toNat)
  case atStart => exact ⟨0, Nat.zero_le _, rfl, HS1.out, fun h => absurd h (by omega)⟩
  case round =>
    obtain ⟨k, hkg, rfl, hS, hbv⟩ := hrel
    have HS := Lib.hid hS
    have Hbv := Lib.hid hbv
    clear hS hbv
    by_cases hk : k ≤ g
    · have hkI : (k : Int) ≤ (g : Nat) := by omega
      obtain ⟨cp, hcp⟩ : ∃ cp, cp = grownCap wr tb.size 0 5 := ⟨_, rfl⟩
      obtain ⟨V, hV⟩ : ∃ V, V = Lib.bytesWorld wr 5 tb := ⟨_, rfl⟩
      have hVb : Below wr.heap.size wr V := by rw [hV]; exact bytes_below _ _
      have hcv := conv_bytes wr tb
      rw [← hcp, ← hV, Hts.out] at hcv
      have hbuf : BufAt V wr.heap.size l := by rw [hV, ← Htl.out]; exact bytes_buf _ _
      have hgo := snd_go w1 wr V w.heap.size n x k cp p (sec root) l HS.out hVb hp0 hw0 hl40 (by omega) hbuf
      have hws : w1.heap.size ≤ V.heap.size := by
        obtain ⟨_, _, _, _, _, _, _, _, _, _, _, hF, _⟩ := HS.out
        exact Nat.le_trans hF.size hVb.size
      have Hgo := Lib.hid hgo
      clear hgo hVb hbuf hV hcp
      go_upto_region 10 with (first
        | (go_at_call 13; refine (text_any _ words).mono ?_; rintro e w6 ⟨rfl, h6⟩; obtain rfl := h6.symm; rw [← Hl.out, ← Htb.out]; go_frame)
        | (go_at_call 12; refine Hgo.out.mono ?_; rintro e w7 ⟨v7, rfl, ho7, hS7, hst7⟩; have Ho7 := Lib.hid ho7; have HS7 := Lib.hid hS7; clear ho7 hS7 hst7; go_frame))
      go_wp2_with fail
      go_roundw
      case rel => exact ⟨k + 1, by omega, by simp, HS7.out, fun _ => ownsRow_mono Ho7.out hws⟩
      case measure => simp only [intOf]; omega
    · have hkI : ¬ (k : Int) ≤ (g : Nat) := by omega
      obtain rfl : k = g + 1 := by omega
      have ho := Hbv.out (by omega)
      rw [Nat.add_sub_cancel] at ho
      obtain ⟨g7, cap7, rfl, hcpA, hcpB⟩ := ho.form (by omega)
      have hfl : (frameL (st0 (sec root) n x) x g l).length = l.length + 7 := frame_size _ _ _ _
      have hcap : l.length + 7 ≤ cap7 := (row_cap ho).1
      have hrd : Rd wr (some ⟨g7, 0, none⟩) (frameL (st0 (sec root) n x) x g l) := Rd.own (c := cap7) (by rw [hfl]; exact ho)
      have hg7 := ho.lt g7 rfl
      obtain ⟨_, _, _, _, _, _, _, _, _, _, _, hF, _, hEr⟩ := HS.out
      have hAq := group_keep HB1.out fun b hb => by
        have h := Hqp.out b hb
        exact hF.block b (HB1l.out b hb).2 h.1 h.2.1 h.2.2.1 h.2.2.2
      have hbr := Hb1.out.trans (frm_lo HA1.out hF (Nat.le_refl _) Hb1.out.size)
      obtain ⟨y, hy⟩ : ∃ y, y = (x + 1) % n := ⟨_, rfl⟩
      rw [← hy] at hAq
      have hyn : y < n := by rw [hy]; exact Nat.mod_lt _ (by omega)
      have hxy : x ≠ y := by
        have hn2 : 2 ≤ n := by have := Hn.out; omega
        rw [hy]
        rcases Nat.lt_or_ge (x + 1) n with h | h
        · rw [Nat.mod_eq_of_lt h]; omega
        · have e : x + 1 = n := by omega
          rw [e, Nat.mod_self]; omega
      have hoq : openF (st0 (sec root) n y) x g = none := by
        unfold openF
        rw [if_neg (show ¬ g < ((st0 (sec root) n y).M x).next from Nat.not_lt_zero _), if_neg (show ¬ ((st0 (sec root) n y).M x).next + 5 < g by show ¬ 0 + 5 < g; omega)]
      have hI0 := inv_st0 (sec root) n y hr8 hyn hn16
      have hfr0 : frameL (st0 (sec root) n x) x g l = frameL (st0 (sec root) n y) x g l := frameL_root rfl rfl _ _ _
      rw [hfr0] at hrd
      have hap : g7 < wr.heap.size ∧ Apart q g7 := by
        obtain ⟨cs, hcs⟩ := row_cells ho rfl
        exact ⟨hg7.2, group_apart hAq hcs (by decide) (by decide)⟩
      have hfr := Unprotect_frame wr M 0 x g g7 0 cap7 (l.length + 7) q (st0 (sec root) n y) l hAq hq0 (by omega) hEr hI0 rfl hxn hxy (by omega) hl40 rfl hcap (Int.le_refl _) (by show (0 : Int) ≤ _; omega) (by omega) hrd hap
      rw [hoq] at hfr
      have Hfr := Lib.hid hfr
      have HI0 := Lib.hid hI0
      have Hbr := Lib.hid hbr
      have HAq := Lib.hid hAq
      clear hfr hoq hrd hI0 hbr hfr0 hap hF hAq hEr ho hy hfl
      go_upto_region 14 with (go_at_call 16; refine Hfr.out.mono ?_; rintro e w8 ⟨c', hq1, hq2, r, rfl, ho8, T2, hA8, hF8, hT8⟩; obtain ⟨ra, rc, rfl⟩ := (SliceR.of_own ho8).form; have HA8 := Lib.hid hA8; have HF8 := Lib.hid hF8; clear ho8 hA8 hF8 hT8; go_frame)
      generalize hY : World.alloc _ _ = Y
      have hYb : Below w8.heap.size w8 Y := by rw [← hY]; exact balloc (Below.refl _ _) _
      have hYM : Y.heap[w8.heap.size]? = some (.cells #[.int .i64 x, .int .i64 g, .slice ra l.length rc] 33 (0, 0)) := by rw [← hY]; exact heap_alloc_new _ _
      have y1 : Y.cell? ⟨w8.heap.size, 1, none⟩ = some (.int .i64 g) := cell_of_row _ _ _ _ _ _ hYM
      obtain ⟨s9, hs9⟩ : ∃ s9, s9 = openN (st0 (sec root) n y) x g c' := ⟨_, rfl⟩
      obtain ⟨o1, o2, o3, o4, o5, o6⟩ := open_M (sec root) n y x g c'
      have hI9 := inv_openN HI0.out x g c' (by omega)
      have hA8 := HA8.out
      rw [← hs9] at o1 o2 o3 o4 o5 o6 hI9 hA8
      have hdump := Dump_open Y M (0 + 5) { q with T := T2 } s9 (group_below hA8 hYb) hI9 hq0 o1 (by omega)
      have hd1 := dump_one hI9 o3 o4 o5 o6
      have hd2 := heads_count (s := s9) (x := x) (by rw [o2]; exact hxn) o3 (by rw [o4]; omega) o6
      have hd8 := dump_len8 hI9
      have hdl := dump_len hI9
      obtain ⟨D, hD⟩ : ∃ D, D = dumpL s9 := ⟨_, rfl⟩
      rw [← hD] at hdump hd1 hd2 hd8 hdl
      have hbY := bnext (Hbr.out.trans (frm_lo HAq.out HF8.out hM Hbr.out.size)) hYb
      have hgA := group_below hA8 hYb
      have Hdump := Lib.hid hdump
      have Hd1 := Lib.hid hd1
      have Hd2 := Lib.hid hd2
      have Hd8 := Lib.hid hd8
      have HbY := Lib.hid hbY
      have HgA := Lib.hid hgA
      clear hY hYb hYM hs9 o1 o2 o3 o4 o5 o6 hI9 hA8 hdump hd1 hd2 hd8 hD hbY hgA HA8 HF8
      go_upto_region 19 with (go_at_call 17; refine Hdump.out.mono ?_; rintro e w9 ⟨v, rfl, ho9, hA9, hF9⟩; have Ho9 := Lib.hid ho9; have HF9 := Lib.hid hF9; clear ho9 hA9 hF9; go_frame)
      obtain ⟨p9, c9, rfl⟩ := row_form Ho9.out
      have hb9 := HbY.out.trans (frm_lo HgA.out HF9.out hM HbY.out.size)
      have Hb9 := Lib.hid hb9
      have hcap9 := row_cap Ho9.out
      clear hb9
      go_loopw [22, 23] (fun hv iv wr => ∃ i : Nat, i ≤ D.length ∧ iv = .int .i64 i ∧ hv = .int .i64 ((D.take i).countP isHead : Nat) ∧ wr.ownsRow Y.heap.size 50 12 (.slice p9 D.length c9) D.length (itemsV D) ∧ Below w.heap.size w wr) (fun _ iv _ => D.length - (intOf iv).toNat)
      case atStart => exact ⟨0, Nat.zero_le _, rfl, rfl, Ho9.out, Hb9.out⟩
      case round =>
        obtain ⟨i, hiD, rfl, rfl, hro, hb⟩ := hrel
        have Hro := Lib.hid hro
        have Hb := Lib.hid hb
        clear hro hb
        by_cases hi : i < D.length
        · have hiI : (i : Int) < (D.length : Nat) := by omega
          have hi0 : (0 : Int) ≤ (i : Nat) := by omega
          obtain ⟨g9, rfl⟩ : ∃ g9, p9 = some ⟨g9, 0, none⟩ := by
            rcases Hro.out.2 with ⟨_, h0⟩ | ⟨g9, cap, cur, e, _⟩
            · omega
            · cases e; exact ⟨g9, rfl⟩
          obtain ⟨d, hd⟩ : ∃ d, d = D[i] := ⟨_, rfl⟩
          have hrg := item_range Hro.out Hd8.out i hi
          rw [← hd] at hrg
          have hdm : d ∈ D := by rw [hd]; exact List.getElem_mem _
          have hsz : (icells d).size = 12 := icells_size _ (Hd8.out d hdm)
          have hone := icells_one d (Hd8.out d hdm)
          have hct := count_take D i hi
          rw [← hd] at hct
          have hcl : (D.take i).countP isHead ≤ 1032 := Nat.le_trans List.countP_le_length (by rw [List.length_take]; omega)
          obtain ⟨ct, hcte⟩ : ∃ ct, ct = (D.take i).countP isHead := ⟨_, rfl⟩
          rw [← hcte] at hct hcl ⊢
          have Hrg := Lib.hid hrg
          have Hsz := Lib.hid hsz
          have Hone := Lib.hid hone
          have Hct := Lib.hid hct
          have Hd := Lib.hid hd
          clear hrg hsz hone hct hcte hd
          go_upto_region 22 with (first
            | (refine wpList_load_mid rfl 50 _ rfl g9 (i * 12) rfl (icells d).toList _ Hrg.out Tryz.underlying50 rfl (by rw [infoItemS, Array.length_toList, Hsz.out]) ?_)
            | (refine wpList_store_row rfl 50 _ _ rfl wr.heap.size (icells d) rfl rfl 50 (icells ⟨0, 0, 0, 0, zeroS⟩) (heap_alloc_new wr _) (by rw [infoItemS, Hsz.out]) (by rw [Hsz.out]; rfl) Hone.out ?_))
          generalize hW : World.setRow _ wr.heap.size _ = W
          have hWr : W.heap[wr.heap.size]? = some (.cells (icells d) 50 (0, 0)) := by rw [← hW]; exact setRow_heap _ _ (icells ⟨0, 0, 0, 0, zeroS⟩) _ _ _ (heap_alloc_new wr _)
          have hWb : Below wr.heap.size wr W := by
            rw [← hW]
            exact ⟨rfl, rfl, rfl, by simp, fun b hb => by rw [setRow_other _ _ _ _ (by omega), Below.heap_alloc _ _ _ hb]⟩
          obtain ⟨f0, f1, f2, f3⟩ := item_fields hWr
          have HWb := Lib.hid hWb
          clear hW hWr hWb
          rcases Hd1.out d hdm with ⟨hk, hno⟩ | ⟨hk, ha, hgg⟩ | ⟨hk, ha, hgg⟩
          · rw [hk] at f0
            have f0' : W.cell? ⟨wr.heap.size, 0, none⟩ = some (.int .i64 0) := f0
            have hhd : isHead d = false := by simp [isHead, hk]
            clear f0 hk
            by_cases hax : d.a ≤ x
            · have haI : (d.a : Int) ≤ (x : Nat) := by omega
              have hbI : ¬ (x : Int) < (d.b : Nat) := by omega
              go_wp2_with fail
              go_roundw
              case rel => exact ⟨i + 1, by omega, by simp, by rw [Hct.out, hhd]; rfl, ownsRow_below Hro.out HWb.out, bnext Hb.out HWb.out⟩
              case measure => simp only [intOf]; omega
            · have haI : ¬ (d.a : Int) ≤ (x : Nat) := by omega
              go_wp2_with fail
              go_roundw
              case rel => exact ⟨i + 1, by omega, by simp, by rw [Hct.out, hhd]; rfl, ownsRow_below Hro.out HWb.out, bnext Hb.out HWb.out⟩
              case measure => simp only [intOf]; omega
          · rw [hk] at f0
            rw [ha] at f1
            rw [hgg] at f3
            have f0' : W.cell? ⟨wr.heap.size, 0, none⟩ = some (.int .i64 1) := f0
            have f3' : W.cell? ⟨wr.heap.size, 3, none⟩ = some (.int .i64 ((g : Int) + 1)) := f3
            have hhd : isHead d = true := by simp [isHead, hk]
            clear f0 f3 hk ha hgg
            go_wp2_with fail
            go_roundw
            case rel => exact ⟨i + 1, by omega, by simp, by rw [Hct.out, hhd]; rfl, ownsRow_below Hro.out HWb.out, bnext Hb.out HWb.out⟩
            case measure => simp only [intOf]; omega
          · rw [hk] at f0
            rw [ha] at f1
            have f0' : W.cell? ⟨wr.heap.size, 0, none⟩ = some (.int .i64 2) := f0
            have hgI : ¬ (g : Int) ≤ (d.g : Nat) := by omega
            have hhd : isHead d = false := by simp [isHead, hk]
            clear f0 hk ha
            go_wp2_with fail
            go_roundw
            case rel => exact ⟨i + 1, by omega, by simp, by rw [Hct.out, hhd]; rfl, ownsRow_below Hro.out HWb.out, bnext Hb.out HWb.out⟩
            case measure => simp only [intOf]; omega
        · have hiI : ¬ (i : Int) < (D.length : Nat) := by omega
          have hfull : D.take i = D := List.take_of_length_le (by omega)
          rw [hfull, Hd2.out]
          clear hfull
          go_wp2_with fail
          go_ret
          exact ⟨rfl, Hb.out⟩
end Go.Proofs.YtccidllcjaaeeaaGreatDoor
