/- The walk of epochkeep's Over. Conditions: its numbers are ints; the errors' type word lies. -/
import Derived.Test.YtccidllcjaaeeaaGreatDoorH6
import Derived.BigQuiet
namespace Go.Proofs.YtccidllcjaaeeaaGreatDoor
set_option maxRecDepth 100000
open Go Go.Maps Go.RowKit
open Go.Shelf Go.Lib Go.Sort Go.MuLone
theorem rows_ne {w : World} {lo lo' k n g cap : Nat} {T : Value} {xs ys : List Value} (h : w.ownsRow lo 95 10 T k xs) (h' : w.ownsRow lo' 5 1 (.slice (some ⟨g, 0, none⟩) n cap) n ys) : T.ownBlock ≠ some g := fun e => by
  obtain ⟨_, h2⟩ := h
  obtain ⟨_, h4⟩ := h'
  rcases h2 with ⟨rfl, _⟩ | ⟨b, c1, cur, rfl, _, h3, _⟩
  · cases e
  · cases e
    rcases h4 with ⟨e4, _⟩ | ⟨b2, c2, cur2, e4, _, h5, _⟩
    · cases e4
    · cases e4
      rw [h3] at h5
      injection h5 with h5
      injection h5 with _ h6
      exact absurd h6 (by decide)
theorem frame_len (s : GSt) (m g : Nat) (l : List UInt8) : (frameL s m g l).length = l.length + 7 := by
  rw [frame_bytes]
  simp [sealL_length]
theorem st0_inv {root : List UInt8} {n m : Nat} (hr : root.length = 8) (hm : m < n) (hn : n ≤ 16) : GInv (st0 root n m) := inv_st0 root n m hr hm hn
set_option maxHeartbeats 2000000 in
theorem over_any (w : World) (root words : ByteArray) (c a : Int) (h1 : -9223372036854775808 ≤ c) (h2 : c ≤ 9223372036854775807) (h3 : -9223372036854775808 ≤ a) (h4 : a ≤ 9223372036854775807) (hEG : EG w) :
    Calls Tryz.prog 3 #[.string root, .int .i64 c, .int .i64 a, .string words] w fun e w' => e = .returned (.bool true) ∧ Below w.heap.size w w' := by
  obtain ⟨n, hn⟩ : ∃ n, n = 2 + pickN c 15 := ⟨_, rfl⟩
  obtain ⟨x, hx⟩ : ∃ x, x = pickN a n := ⟨_, rfl⟩
  have hpair := pair_any w root c a n x h1 h2 h3 h4 hn hx
  have Hpair := Lib.hid hpair
  have Hn := Lib.hid hn
  have Hx := Lib.hid hx
  clear hpair hn hx
  go_enter Tryz.func3, Tryz.ntmps3
  go_upto_region 4 with (go_at_call 11; refine Hpair.out.mono ?_; rintro e w1 ⟨p, q, rfl, hP⟩; have HP := Lib.hid hP; clear hP; go_frame)
  obtain ⟨hp0, hq0, hb1, M, hM, hA1, hpM, hB1⟩ := HP.out
  have hr8 : (sec root).length = 8 := sec_length _
  have hxn : x < n := by rw [Hx.out]; exact pickN_lt a n (by have := Hn.out; omega)
  have hn16 : n ≤ 16 := by have := pickN_lt c 15 (by omega); have := Hn.out; omega
  obtain ⟨l, hl⟩ : ∃ l, l = textL words.data.toList := ⟨_, rfl⟩
  have hl40 : l.length ≤ 40 := by rw [hl]; exact Nat.le_trans (Nat.le_of_eq List.length_take) (Nat.min_le_left _ _)
  obtain ⟨tb, htb⟩ : ∃ tb : ByteArray, tb = ⟨l.toArray⟩ := ⟨_, rfl⟩
  have htl : tb.data.toList = l := by rw [htb]
  have hts : tb.size = l.length := by rw [htb]; rfl
  have Hl := Lib.hid hl
  have Htb := Lib.hid htb
  have Htl := Lib.hid htl
  have Hts := Lib.hid hts
  have Hb1 := Lib.hid hb1
  have HA1 := Lib.hid hA1
  have HB1 := Lib.hid hB1
  have HpM := Lib.hid hpM
  clear hl htb htl hts hb1 hA1 hB1 hpM
  obtain ⟨cp, hcp⟩ : ∃ cp, cp = grownCap w1 tb.size 0 5 := ⟨_, rfl⟩
  obtain ⟨V, hV⟩ : ∃ V, V = Lib.bytesWorld w1 5 tb := ⟨_, rfl⟩
  have hVb : Below w1.heap.size w1 V := by rw [hV]; exact bytes_below _ _
  have hcv := conv_bytes w1 tb
  rw [← hcp, ← hV, Hts.out] at hcv
  have hbuf : BufAt V w1.heap.size l := by rw [hV, ← Htl.out]; exact bytes_buf _ _
  have hw0 : 0 < w.heap.size := Nat.lt_of_le_of_lt (Nat.zero_le _) (block_lt_of_cell hEG)
  have hlp := group_lt HA1.out
  have hlq := group_lt HB1.out
  have hp1 := Protect_ok V w.heap.size 0 p (st0 (sec root) n x) (some ⟨w1.heap.size, 0, none⟩) cp l (group_below HA1.out hVb) hp0 hw0 ((hEG.below Hb1.out).below hVb) (st0_inv hr8 hxn hn16) rfl hl40 (Nat.zero_le _) (Int.le_refl _) (by show (0 : Int) ≤ _; omega) (by omega) (fun h => by cases h) (fun _ => ⟨_, _, rfl⟩) hbuf.rd (fun b o e hpos => by
    cases e
    exact ⟨block_lt_of_cell (hbuf.cell 0 hpos), fun e => by have := (hlp p.G (.inl rfl)).2; omega, fun e => by have := (hlp p.H (.inr (.inl rfl))).2; omega, fun e => by have := (hlp p.K (.inr (.inr (.inl rfl)))).2; omega, fun e => by have := (hlp _ (.inr (.inr (.inr e)))).2; omega⟩)
  have Hp1 := Lib.hid hp1
  have HVb := Lib.hid hVb
  have Hbuf := Lib.hid hbuf
  clear hp1 hVb hbuf hV hcp
  go_upto_region 5 with (first
    | (go_at_call 13; refine (text_any _ words).mono ?_; rintro e w2 ⟨rfl, rfl⟩; rw [← Hl.out, ← Htb.out]; go_frame)
    | (go_at_call 12; refine Hp1.out.mono ?_; rintro e w3 ⟨v, T1, c1, rfl, ho3, hA3, hF3, hT3, hc3, hc4⟩; have Ho3 := Lib.hid ho3; have HA3 := Lib.hid hA3; have HF3 := Lib.hid hF3; have HT3 := Lib.hid hT3; clear ho3 hA3 hF3 hT3; go_frame))
  have hk3 := HA3.out
  have hwork := work_any w3 _ _ _ _ hk3
  have hcl1 := Close_first w3 _ _ _ _ hk3 hp0 rfl
  have Hwork := Lib.hid hwork
  have Hcl1 := Lib.hid hcl1
  clear hwork hcl1 hk3
  go_upto_region 7 with (first
    | (go_at_call 14; refine Hwork.out.mono ?_; rintro e w4 ⟨rfl, rfl⟩; go_frame)
    | (go_at_call 15; refine Hcl1.out.mono ?_; rintro e w5 ⟨rfl, hA5, hF5⟩; have HA5 := Lib.hid hA5; have HF5 := Lib.hid hF5; clear hA5 hF5; go_frame))
  obtain ⟨s5, hs5⟩ : ∃ s5, s5 = shutS (protS (st0 (sec root) n x) c1) := ⟨_, rfl⟩
  obtain ⟨p5, hp5⟩ : ∃ p5 : GPl, p5 = { p with T := .slice none 0 0 } := ⟨_, rfl⟩
  have hA5 : GroupAt w5 w.heap.size p5 s5 0 := by rw [hp5, hs5]; exact HA5.out
  have hcl5 : s5.closed = true := by rw [hs5]; rfl
  have hct5 : s5.cnt = c1 := by rw [hs5]; rfl
  have hmu5 : p5.mu = 0 := by rw [hp5]; exact hp0
  have hG5 : p5.G = p.G := by rw [hp5]
  have hI5 : GInv s5 := by
    have h := st0_inv hr8 hxn hn16
    rw [hs5]
    refine inv_shut ⟨h.n16, h.own, h.root, fun i => ?_, fun i => ?_, fun i => ?_, fun i => ?_, fun i => ?_⟩
    all_goals
      by_cases hi : i = x
      · subst hi
        simp [protS, st0, mem0]
      · simp [protS, st0, mem0, hi]
  have hE3 : EG w4 := eg_frm ((hEG.below Hb1.out).below HVb.out) (group_below HA1.out HVb.out) hw0 HF3.out
  have hE5 : EG w5 := eg_frm hE3 HA3.out hw0 HF5.out
  have hcl2 := Close_again w5 _ _ _ _ hA5 hmu5 hcl5
  rw [hG5] at hcl2
  have Hcl2 := Lib.hid hcl2
  have HA5' := Lib.hid hA5
  have Hp5 := Lib.hid hp5
  have HI5 := Lib.hid hI5
  clear hcl2 hA5 hs5 hp5 hI5
  go_upto_region 8 with (go_at_call 15; refine Hcl2.out.mono ?_; rintro e w6 ⟨rfl, hA6, hF6⟩; have HA6 := Lib.hid hA6; have HF6 := Lib.hid hF6; clear hA6 hF6; go_frame)
  have hE6 : EG w6 := eg_frm hE5 HA5'.out hw0 HF6.out
  have hpr := Protect_no w6 _ _ p5 s5 none 0 0 9 HA6.out hmu5 hw0 hE6 HI5.out (by rw [protNo, if_pos hcl5])
  rw [hG5] at hpr
  have Hpr := Lib.hid hpr
  clear hpr
  go_upto_region 9 with (go_at_call 12; refine Hpr.out.mono ?_; rintro e w7 ⟨rfl, hA7, hF7⟩; have HA7 := Lib.hid hA7; have HF7 := Lib.hid hF7; clear hA7 hF7; go_frame)
  have ho3 := Ho3.out
  obtain ⟨g7, cap7, rfl, hcpA, hcpB⟩ := ho3.form (by omega)
  have hfl : (frameL (st0 (sec root) n x) x 0 l).length = l.length + 7 := frame_len _ _ _ _
  have ho3' : w4.ownsRow V.heap.size 5 1 (.slice (some ⟨g7, 0, none⟩) (frameL (st0 (sec root) n x) x 0 l).length cap7) (frameL (st0 (sec root) n x) x 0 l).length (cells (frameL (st0 (sec root) n x) x 0 l)).toList := by rw [hfl]; exact ho3
  have hrd3 := Rd.own ho3'
  have hg7 := ho3.lt g7 rfl
  have hcap7 : l.length + 7 ≤ cap7 := by
    obtain ⟨_, hrow⟩ := ho3
    rcases hrow with ⟨e, _⟩ | ⟨b2, c2, cur2, e, _, _, hlc, _⟩
    · cases e
    · cases e; exact hlc
  have hA4 := HA3.out
  have hlt4 := group_lt hA4
  have hVs := HVb.out.size
  have hne : g7 ≠ p.G ∧ g7 ≠ p.H ∧ g7 ≠ p.K := ⟨by have := (hlp p.G (.inl rfl)).2; omega, by have := (hlp p.H (.inr (.inl rfl))).2; omega, by have := (hlp p.K (.inr (.inr (.inl rfl)))).2; omega⟩
  have hT7 : T1.ownBlock ≠ some g7 := rows_ne hA4.2.1 ho3
  have e5 : w5.heap[g7]? = w4.heap[g7]? := HF5.out.block g7 hg7.2 hne.1 hne.2.1 hne.2.2 hT7
  have hne5 : Apart p5 g7 := by rw [Hp5.out]; exact ⟨hne.1, hne.2.1, hne.2.2, fun e => by cases e⟩
  have s45 := HF5.out.size
  have s56 := HF6.out.size
  have s67 := HF7.out.size
  have e6 : w6.heap[g7]? = w5.heap[g7]? := HF6.out.block g7 (by omega) hne5.1 hne5.2.1 hne5.2.2.1 hne5.2.2.2
  have e7 : w7.heap[g7]? = w6.heap[g7]? := HF7.out.block g7 (by omega) hne5.1 hne5.2.1 hne5.2.2.1 hne5.2.2.2
  have hrd7 : Rd w7 (some ⟨g7, 0, none⟩) (frameL (st0 (sec root) n x) x 0 l) := hrd3.apart fun b o e _ => by
    cases e
    exact e7.trans (e6.trans e5)
  have hE7 : EG w7 := eg_frm hE6 HA6.out hw0 HF7.out
  have hun := Unprotect_no w7 _ _ cap7 p5 s5 (some ⟨g7, 0, none⟩) (frameL (st0 (sec root) n x) x 0 l) 9 HA7.out hmu5 hw0 hE7 HI5.out (by rw [hfl]; omega) (fun _ => ⟨_, _, rfl⟩) hrd7 (fun b o e _ => by cases e; exact ⟨by omega, hne5⟩) (by unfold unprotNo; rw [if_pos hcl5])
  rw [hG5, hfl] at hun
  unfold msg0 at hun
  have Hun := Lib.hid hun
  have Hrd7 := Lib.hid hrd7
  clear hun hrd7 hrd3 ho3 ho3' hA4
  go_upto_region 10 with (first
    | (go_at_call 16; refine Hun.out.mono ?_; rintro e w8 ⟨rfl, hA8, hF8⟩; have HA8 := Lib.hid hA8; have HF8 := Lib.hid hF8; clear hA8 hF8; go_frame))
  generalize hX8 : World.alloc _ _ = X8
  have hb8 : Below w8.heap.size w8 X8 := by rw [← hX8]; exact balloc (Below.refl _ _) _
  have hA8 := group_below HA8.out hb8
  have hdu := Dump_shut X8 _ _ p5 s5 hA8 HI5.out hmu5 hcl5
  rw [hG5] at hdu
  have Hdu := Lib.hid hdu
  have Hb8 := Lib.hid hb8
  clear hX8 hb8 hA8 hdu
  go_upto_region 11 with (go_at_call 17; refine Hdu.out.mono ?_; rintro e w9 ⟨rfl, hA9, hF9⟩; have HA9 := Lib.hid hA9; have HF9 := Lib.hid hF9; clear hA9 hF9; go_frame)
  have hwk := work_any w9 _ _ _ _ HA9.out
  rw [hG5] at hwk
  have Hwk := Lib.hid hwk
  clear hwk
  go_upto_region 12 with (go_at_call 14; refine Hwk.out.mono ?_; rintro e w10 ⟨rfl, rfl⟩; go_frame)
  have s8 := HF8.out.size
  have s8' := Hb8.out.size
  have s9 := HF9.out.size
  have sV := HVb.out.size
  have s34 := HF3.out.size
  have hkq : ∀ b, b = q.G ∨ b = q.H ∨ b = q.K ∨ q.T.ownBlock = some b → w10.heap[b]? = w2.heap[b]? := fun b hb => by
    have hbq := hlq b hb
    have n1 : b ≠ p.G := fun e => by have := HpM.out p.G (.inl rfl); omega
    have n2 : b ≠ p.H := fun e => by have := HpM.out p.H (.inr (.inl rfl)); omega
    have n3 : b ≠ p.K := fun e => by have := HpM.out p.K (.inr (.inr (.inl rfl))); omega
    have n4 : p.T.ownBlock ≠ some b := fun e => by have := HpM.out b (.inr (.inr (.inr e))); omega
    have n5 : T1.ownBlock ≠ some b := fun e => by
      rcases HT3.out with h | h
      · exact n4 (by rw [← h]; exact e)
      · have := h b e; omega
    have n6 : Apart p5 b := by rw [Hp5.out]; exact ⟨n1, n2, n3, fun e => by cases e⟩
    rw [HF9.out.block b (by omega) n6.1 n6.2.1 n6.2.2.1 n6.2.2.2, Hb8.out.block b (by omega), HF8.out.block b (by omega) n6.1 n6.2.1 n6.2.2.1 n6.2.2.2, HF7.out.block b (by omega) n6.1 n6.2.1 n6.2.2.1 n6.2.2.2, HF6.out.block b (by omega) n6.1 n6.2.1 n6.2.2.1 n6.2.2.2, HF5.out.block b (by omega) n1 n2 n3 n5, HF3.out.block b (by omega) n1 n2 n3 n4]
    exact HVb.out.block b hbq.2
  have hAq := group_keep HB1.out hkq
  have n7 : Apart p5 g7 := hne5
  have e10 : w10.heap[g7]? = w7.heap[g7]? := by
    rw [HF9.out.block g7 (by omega) n7.1 n7.2.1 n7.2.2.1 n7.2.2.2, Hb8.out.block g7 (by omega), HF8.out.block g7 (by omega) n7.1 n7.2.1 n7.2.2.1 n7.2.2.2]
  have hrd10 : Rd w10 (some ⟨g7, 0, none⟩) (frameL (st0 (sec root) n x) x 0 l) := Hrd7.out.apart fun b o e _ => by
    cases e
    exact e10
  have hrdq : Rd w10 (some ⟨g7, 0, none⟩) (frameL (st0 (sec root) n ((x + 1) % n)) x 0 l) := hrd10
  have hE10 : EG w10 := by
    have h7 : EG w8 := eg_frm hE7 HA7.out hw0 HF8.out
    exact eg_frm (h7.below Hb8.out) (group_below HA8.out Hb8.out) hw0 HF9.out
  have hn2 : 2 ≤ n := by have := Hn.out; omega
  have hyn : (x + 1) % n < n := Nat.mod_lt _ (by omega)
  have hxy : x ≠ (x + 1) % n := by
    rcases Nat.lt_or_ge (x + 1) n with h | h
    · rw [Nat.mod_eq_of_lt h]; omega
    · have e : x + 1 = n := by omega
      rw [e, Nat.mod_self]; omega
  have hoq : openF (st0 (sec root) n ((x + 1) % n)) x 0 = none := rfl
  have hfr := Unprotect_frame w10 M 0 x 0 g7 0 cap7 (l.length + 7) q _ l hAq hq0 (by omega) hE10 (st0_inv hr8 hyn hn16) rfl hxn hxy (by omega) hl40 rfl hcap7 (Int.le_refl _) (by show (0 : Int) ≤ _; omega) (by omega) hrdq ⟨by omega, fun e => by have := (hlq q.G (.inl rfl)).2; omega, fun e => by have := (hlq q.H (.inr (.inl rfl))).2; omega, fun e => by have := (hlq q.K (.inr (.inr (.inl rfl)))).2; omega, fun e => by have := (hlq g7 (.inr (.inr (.inr e)))).2; omega⟩
  rw [hoq] at hfr
  have Hfr := Lib.hid hfr
  clear hfr hoq hrd10 hrdq hkq
  go_upto_region 13 with (go_at_call 16; refine Hfr.out.mono ?_; rintro e w11 ⟨c', hq1, hq2, r, rfl, ho11, T2, hA11, hF11, hT11⟩; obtain ⟨ra, rc, rfl⟩ := (SliceR.of_own ho11).form; have Ho11 := Lib.hid ho11; have HF11 := Lib.hid hF11; clear ho11 hA11 hF11 hT11; go_frame)
  rw [hct5, show (protS (st0 (sec root) n x) c1).cnt = c1 from rfl]
  generalize hY : World.alloc _ _ = Y
  have hYb : Below w11.heap.size w11 Y := by rw [← hY]; exact balloc (Below.refl _ _) _
  have hYM : Y.heap[w11.heap.size]? = some (.cells #[.int .i64 x, .int .i64 0, .slice ra l.length rc] 33 (0, 0)) := by rw [← hY]; exact heap_alloc_new _ _
  have y2 : Y.cell? ⟨w11.heap.size, 2, none⟩ = some (.slice ra l.length rc) := cell_of_row _ _ _ _ _ _ hYM
  have hrdY : Rd Y ra l := (Rd.own Ho11.out).below hYb
  have hc10 : (0 : Int) < c1 := by have h : (st0 (sec root) n x).cnt < c1 := hc3; exact h
  have HrdY := Lib.hid hrdY
  have HYb := Lib.hid hYb
  clear hY hYb hYM hrdY
  have hBel : Below w.heap.size w Y.drew := by
    have c0 := bnext Hb1.out HVb.out
    have c1 := c0.trans (frm_lo (group_below HA1.out HVb.out) HF3.out (Nat.le_refl _) c0.size)
    have c2 := c1.trans (frm_lo HA3.out HF5.out (Nat.le_refl _) c1.size)
    have c3 := c2.trans (frm_lo HA5'.out HF6.out (Nat.le_refl _) c2.size)
    have c4 := c3.trans (frm_lo HA6.out HF7.out (Nat.le_refl _) c3.size)
    have c5 := c4.trans (frm_lo HA7.out HF8.out (Nat.le_refl _) c4.size)
    have c6 := bnext c5 Hb8.out
    have c7 := c6.trans (frm_lo (group_below HA8.out Hb8.out) HF9.out (Nat.le_refl _) c6.size)
    have c8 := c7.trans (frm_lo hAq HF11.out hM c7.size)
    exact (bnext c8 HYb.out).drew
  have HBel := Lib.hid hBel
  clear hBel
  have hcs : ∀ k, (convert 25 9 (.slice ra l.length rc)).run Tryz.prog (Y.drewN k) = .ok (.string tb) (Y.drewN k) := fun k => by
    rw [Htb.out]; exact conv_str (Y.drewN k) ra rc l (HrdY.out.below (bdrewN (Below.refl _ _) k))
  have hcsD : (convert 25 9 (.slice ra l.length rc)).run Tryz.prog Y.drew = .ok (.string tb) Y.drew := by
    rw [Htb.out]; exact conv_str Y.drew ra rc l (HrdY.out.below (Below.refl _ _).drew)
  have hcs0 : (convert 25 9 (.slice ra l.length rc)).run Tryz.prog Y = .ok (.string tb) Y := by
    rw [Htb.out]; exact conv_str Y ra rc l HrdY.out
  have dc : decide ((0 : Int) < c1) = true := decide_eq_true hc10
  have hlen0 : ((0 : Nat) : Int) = 0 := rfl
  go_region_held3 (fun w' => w'.cell? ⟨w11.heap.size, 2, none⟩ = some (.slice ra l.length rc) ∧ (convert 25 9 (.slice ra l.length rc)).run Tryz.prog w' = .ok (.string tb) w') (refine ⟨?_, ?_⟩ <;> (first | with_reducible assumption | (simp only [World.cell?_drew]; with_reducible assumption))) (first | (go_at_call 13; refine (text_any _ words).mono ?_; rintro e w12 ⟨rfl, rfl⟩; rw [← Hl.out, ← Htb.out]))
  all_goals
    go_wp2
    go_ret
    exact ⟨rfl, HBel.out⟩
end Go.Proofs.YtccidllcjaaeeaaGreatDoor
