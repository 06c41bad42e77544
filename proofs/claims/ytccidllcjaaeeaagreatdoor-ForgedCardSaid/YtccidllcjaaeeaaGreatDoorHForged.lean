/- The walk of epochkeep's Forged. Conditions: its numbers are ints; its strings are no longer than an int; the errors' type word lies. -/
import Derived.Test.YtccidllcjaaeeaaGreatDoorHForgedRun
import Derived.BigQuiet
namespace Go.Proofs.YtccidllcjaaeeaaGreatDoor
set_option maxRecDepth 100000
open Go Go.Maps Go.RowKit
open Go.Shelf Go.Lib Go.Sort Go.MuLone
theorem cut_bytes (W : World) (p : Option Addr) (n cap a : Nat) (h : a ≤ cap) : (Instr.sliceAt 25 (.slice p n cap) none (some (.int .i64 a)) none).run Tryz.prog W = .ok (.slice p a cap) W := by
  rw [run_sliceAt_slice _ _ _ _ _ _ elem_bytes, run_slice_h _ _ _ _ _ elem_bytes _ _ (by omega) (by omega), size_byte]
  cases p with
  | none => simp [Result.andThen, sliced]
  | some ad => simp [Result.andThen, sliced, show ad.add 0 = ad by cases ad; simp [Addr.add]]
theorem byteSl_row {w : World} {base c : Nat} {p : Option Addr} {l : List UInt8} (h : w.ownsRow base 5 1 (.slice p l.length c) l.length (cells l).toList) : ByteSl w p l c := by
  have hc := row_cap h
  refine ⟨by unfold maxLen at hc; omega, hc.1, fun hp => ?_, Rd.own h, fun b o e hpos => ?_⟩
  · rcases h.2 with ⟨e, _⟩ | ⟨g, cap, cur, e, _⟩
    · injection e with e1 _ _
      exact absurd e1 hp
    · injection e with e1 _ _
      exact ⟨g, 0, e1⟩
  · subst e
    obtain ⟨cs, hcs⟩ := row_cells h rfl
    exact ⟨cs, _, hcs⟩
theorem sameV_true {D : List DItem} {v : Value} (h : SameV D D v) : v = .bool true := by
  obtain ⟨b, rfl, hb⟩ := h
  rw [hb rfl]
theorem sameV_bool {D E : List DItem} {v : Value} (h : SameV D E v) : ∃ b : Bool, v = .bool b := let ⟨b, e, _⟩ := h; ⟨b, e⟩
set_option maxHeartbeats 8000000 in
theorem forged_any (w : World) (root words any : ByteArray) (c a at' by' cut : Int) (h1 : -9223372036854775808 ≤ c ∧ c ≤ 9223372036854775807) (h2 : -9223372036854775808 ≤ a ∧ a ≤ 9223372036854775807) (h3 : -9223372036854775808 ≤ at' ∧ at' ≤ 9223372036854775807) (h4 : -9223372036854775808 ≤ by' ∧ by' ≤ 9223372036854775807) (h5 : -9223372036854775808 ≤ cut ∧ cut ≤ 9223372036854775807) (hany : any.size ≤ 9223372036854775807) (hEG : EG w) :
    Calls Tryz.prog 7 #[.string root, .int .i64 c, .int .i64 a, .string words, .string any, .int .i64 at', .int .i64 by', .int .i64 cut] w fun e w' => e = .returned (.bool true) ∧ Below w.heap.size w w' := by
  obtain ⟨n, hn⟩ : ∃ n, n = 2 + pickN c 15 := ⟨_, rfl⟩
  obtain ⟨x, hx⟩ : ∃ x, x = pickN a n := ⟨_, rfl⟩
  have hpair := pair_any w root c a n x h1.1 h1.2 h2.1 h2.2 hn hx
  have Hpair := Lib.hid hpair
  have Hn := Lib.hid hn
  have Hx := Lib.hid hx
  have H3 := Lib.hid h3
  have H4 := Lib.hid h4
  have H5 := Lib.hid h5
  clear hpair hn hx h3 h4 h5
  go_enter Tryz.func7, Tryz.ntmps7
  go_upto_region 2 with (go_at_call 11; refine Hpair.out.mono ?_; rintro e w1 ⟨p, q, rfl, hP⟩; have HP := Lib.hid hP; clear hP; go_frame)
  obtain ⟨hp0, hq0, hb1, M, hM, hA1, hpM, hB1⟩ := HP.out
  have hr8 : (sec root).length = 8 := sec_length _
  have hxn : x < n := by rw [Hx.out]; exact pickN_lt a n (by have := Hn.out; omega)
  have hn16 : n ≤ 16 := by have := pickN_lt c 15 (by omega); have := Hn.out; omega
  have hw0 : 0 < w.heap.size := Nat.lt_of_le_of_lt (Nat.zero_le _) (block_lt_of_cell hEG)
  have hE1 := hEG.below hb1
  have hS1 : SndR w1 w1 w.heap.size p (sec root) n x 0 := snd_zero hA1 (inv_st0 _ _ _ hr8 hxn hn16) hE1
  have hB1l := group_lt hB1
  have hqp : ∀ b, b = q.G ∨ b = q.H ∨ b = q.K ∨ q.T.ownBlock = some b → b ≠ p.G ∧ b ≠ p.H ∧ b ≠ p.K ∧ p.T.ownBlock ≠ some b := fun b hb => by
    have h0 := (hB1l b hb).1
    exact ⟨fun e => by have := hpM p.G (.inl rfl); omega, fun e => by have := hpM p.H (.inr (.inl rfl)); omega, fun e => by have := hpM p.K (.inr (.inr (.inl rfl))); omega, fun e => by have := hpM b (.inr (.inr (.inr e))); omega⟩
  obtain ⟨l, hl⟩ : ∃ l, l = textL words.data.toList := ⟨_, rfl⟩
  have hl40 : l.length ≤ 40 := by rw [hl]; exact Nat.le_trans (Nat.le_of_eq List.length_take) (Nat.min_le_left _ _)
  obtain ⟨tb, htb⟩ : ∃ tb : ByteArray, tb = ⟨l.toArray⟩ := ⟨_, rfl⟩
  have htl : tb.data.toList = l := by rw [htb]
  have hts : tb.size = l.length := by rw [htb]; rfl
  obtain ⟨cp, hcp⟩ : ∃ cp, cp = grownCap w1 tb.size 0 5 := ⟨_, rfl⟩
  obtain ⟨V, hV⟩ : ∃ V, V = Lib.bytesWorld w1 5 tb := ⟨_, rfl⟩
  have hVb : Below w1.heap.size w1 V := by rw [hV]; exact bytes_below _ _
  have hcv := conv_bytes w1 tb
  rw [← hcp, ← hV, hts] at hcv
  have hbuf : BufAt V w1.heap.size l := by rw [hV, ← htl]; exact bytes_buf _ _
  have hgo := snd_go w1 w1 V w.heap.size n x 0 cp p (sec root) l hS1 hVb hp0 hw0 hl40 (by omega) hbuf
  have Hl := Lib.hid hl
  have Htb := Lib.hid htb
  have Hb1 := Lib.hid hb1
  have HA1 := Lib.hid hA1
  have HB1 := Lib.hid hB1
  have HB1l := Lib.hid hB1l
  have Hqp := Lib.hid hqp
  have HVb := Lib.hid hVb
  have Hgo := Lib.hid hgo
  clear hl htb htl hts hb1 hA1 hB1 hpM hE1 hS1 hB1l hqp HP hVb hgo hbuf hV hcp
  go_upto_region 5 with (first
    | (go_at_call 13; refine (text_any _ words).mono ?_; rintro e w6 ⟨rfl, h6⟩; obtain rfl := h6.symm; rw [← Hl.out, ← Htb.out]; go_frame)
    | (go_at_call 12; refine Hgo.out.mono ?_; rintro e w7 ⟨v7, rfl, ho7, hS7, hst7⟩; have Ho7 := Lib.hid ho7; have HS7 := Lib.hid hS7; clear ho7 hS7 hst7; go_frame))
  obtain ⟨g7, cap7, rfl, hcpA, hcpB⟩ := Ho7.out.form (by omega)
  obtain ⟨y, hy⟩ : ∃ y, y = (x + 1) % n := ⟨_, rfl⟩
  have hyn : y < n := by rw [hy]; exact Nat.mod_lt _ (by omega)
  have hxy : x ≠ y := by
    have hn2 : 2 ≤ n := by have := Hn.out; omega
    rw [hy]
    rcases Nat.lt_or_ge (x + 1) n with h | h
    · rw [Nat.mod_eq_of_lt h]; omega
    · have e : x + 1 = n := by omega
      rw [e, Nat.mod_self]; omega
  obtain ⟨N, hN⟩ : ∃ N, N = l.length + 7 := ⟨_, rfl⟩
  have hZ7 : RZ w7 M q (sec root) n y 0 := by
    obtain ⟨_, _, _, _, _, _, _, _, _, _, _, hF, _, hEr⟩ := HS7.out
    have hAq := group_keep HB1.out fun b hb => by
      have h := Hqp.out b hb
      exact hF.block b (HB1l.out b hb).2 h.1 h.2.1 h.2.2.1 h.2.2.2
    rw [← hy] at hAq
    exact ⟨0, Int.le_refl _, Int.le_refl _, hAq, inv_st0 _ _ _ hr8 hyn hn16, hEr⟩
  have hb7 : Below w.heap.size w w7 := by
    obtain ⟨_, _, _, _, _, _, _, _, _, _, _, hF, _, _⟩ := HS7.out
    exact Hb1.out.trans (frm_lo HA1.out hF (Nat.le_refl _) Hb1.out.size)
  have hMq : M ≤ w1.heap.size := by have := HB1l.out q.G (.inl rfl); omega
  have hM7 : M ≤ w7.heap.size := by
    obtain ⟨_, _, _, _, _, _, _, _, _, _, _, hF, _, _⟩ := HS7.out
    exact Nat.le_trans hMq hF.size
  have hM0 : 0 < M := by omega
  have hbo : w7.ownsRow 0 5 1 (.slice (some ⟨g7, 0, none⟩) N cap7) N (cells (frameL (st0 (sec root) n x) x 0 l)).toList := by rw [hN]; exact ownsRow_mono Ho7.out (Nat.zero_le _)
  have hN7 : ¬ ((N : Nat) : Int) < 7 := by omega
  have hN47 : N ≤ 47 := by omega
  rw [← hN]
  have HN := Lib.hid hN
  have Hbo := Lib.hid hbo
  have HZ7 := Lib.hid hZ7
  have Hb7 := Lib.hid hb7
  have hd8 := rz_dump w7 M n y 0 q (sec root) hZ7 hq0 hM0 hM7
  have Hd8 := Lib.hid hd8
  clear hN hy hZ7 hb7 hbo hd8 Ho7 HS7 Hgo Hqp HB1 HA1 Hpair
  have hcap7 := row_cap Hbo.out
  go_upto_region 8 with (go_at_call 17; refine Hd8.out.mono ?_; rintro e w8 ⟨vb, rfl, ho8, hZ8, hb8, hst8⟩; have ho8' : w8.ownsRow w7.heap.size 50 12 vb 1 (itemsV (dump0 (sec root) n)) := ho8; have Ho8 := Lib.hid ho8'; clear ho8'; have HZ8 := Lib.hid hZ8; have Hb8 := Lib.hid hb8; have Hst8 := Lib.hid hst8; clear ho8 hZ8 hb8 hst8; go_frame)
  obtain ⟨pb, cb, rfl⟩ := row_form Ho8.out
  have hM8 : M ≤ w8.heap.size := Nat.le_trans hM7 Hb8.out.size
  have hbw8 : Below w.heap.size w w8 := Hb7.out.trans (Hb8.out.mono hM)
  have hbo8 := Hst8.out.own Hbo.out (by decide) (by decide)
  obtain ⟨cp8, hcp8⟩ : ∃ cp, cp = grownCap w8 any.size 0 5 := ⟨_, rfl⟩
  obtain ⟨V8, hV8⟩ : ∃ V, V = Lib.bytesWorld w8 5 any := ⟨_, rfl⟩
  have hVb8 : Below w8.heap.size w8 V8 := by rw [hV8]; exact bytes_below _ _
  have hcv8 := conv_bytes w8 any
  rw [← hcp8, ← hV8] at hcv8
  have hbuf8 : BufAt V8 w8.heap.size any.data.toList := by rw [hV8]; exact bytes_buf _ _
  have hsz8 : any.data.toList.length = any.size := rfl
  have hcg8 := grownCap_ge w8 any.size 0 5
  have hBS : ByteSl V8 (some ⟨w8.heap.size, 0, none⟩) any.data.toList cp8 := ⟨by rw [hsz8]; exact hany, by rw [hsz8, hcp8]; exact hcg8, fun _ => ⟨_, _, rfl⟩, hbuf8.rd, fun b o e _ => by
    cases e
    obtain ⟨cs, lo', hi', hc, _⟩ := hbuf8
    exact ⟨cs, _, hc⟩⟩
  have hun8 := rz_any V8 M n y 0 cp8 q (sec root) _ _ (rz_below HZ8.out hVb8) hq0 hM0 (Nat.le_trans hM8 hVb8.size) (by omega) hBS
  rw [hsz8] at hun8
  have Hun8 := Lib.hid hun8
  have HVb8 := Lib.hid hVb8
  have Hbw8 := Lib.hid hbw8
  have Hbo8 := Lib.hid hbo8
  clear hun8 hBS hcg8 hsz8 hbuf8 hVb8 hV8 hcp8 hbw8 hbo8 Hbo Hst8 Hd8
  go_upto_region 9 with (go_at_call 16; refine Hun8.out.mono ?_; rintro e w9 ⟨co, i9, j9, a9, k9, c9, rfl, hb9, hst9, hout9⟩; have Hb9 := Lib.hid hb9; have Hst9 := Lib.hid hst9; have Hout9 := Lib.hid hout9; clear hb9 hst9 hout9; go_frame)
  generalize hY : World.alloc _ _ = Y9
  have hYb : Below w9.heap.size w9 Y9 := by rw [← hY]; exact balloc (Below.refl _ _) _
  have hM9 : M ≤ Y9.heap.size := Nat.le_trans hM8 (Nat.le_trans HVb8.out.size (Nat.le_trans Hb9.out.size hYb.size))
  have hbo9 := ownsRow_below (Hst9.out.own (ownsRow_below Hbo8.out HVb8.out) (by decide) (by decide)) hYb
  have hbe9 := ownsRow_below (Hst9.out.own (ownsRow_below Ho8.out HVb8.out) (by decide) (by decide)) hYb
  have hbw9 : Below w.heap.size w Y9 := bnext ((bnext Hbw8.out HVb8.out).trans (Hb9.out.mono hM)) hYb
  have hd08 : ∀ d ∈ dump0 (sec root) n, d.s.length = 8 := fun d hd => by
    obtain rfl := List.mem_singleton.1 hd
    exact hr8
  have Hbo9 := Lib.hid hbo9
  have Hbe9 := Lib.hid hbe9
  have Hbw9 := Lib.hid hbw9
  have HYb := Lib.hid hYb
  have Hd08 := Lib.hid hd08
  clear hY hYb hbo9 hbe9 hbw9 hd08 Hbo8 Ho8 Hst9 Hb9 HVb8 Hbw8 Hun8 HZ8 Hb8
  rcases Hout9.out with ⟨rfl, hG⟩ | ⟨hco, rfl, hZ⟩
  · obtain ⟨D, hD8, hd⟩ := rg_dump Y9 M 1 q (rg_below hG HYb.out) hq0 hM0 hM9 (by omega)
    have Hd := Lib.hid hd
    have HD8 := Lib.hid hD8
    clear hd hD8 hG Hout9
    go_upto_region 10 with (go_at_call 17; refine Hd.out.mono ?_; rintro e w10 ⟨va, rfl, ho10, hG10, hb10, hst10⟩; have Ho10 := Lib.hid ho10; have Hb10 := Lib.hid hb10; have Hst10 := Lib.hid hst10; clear ho10 hG10 hb10 hst10; go_frame)
    have hsame := same_any w10 _ _ _ _ (dump0 (sec root) n) D (Hst10.out.own Hbe9.out (by decide) (by decide)) Ho10.out Hd08.out HD8.out
    have Hsame := Lib.hid hsame
    clear hsame
    go_upto_region 11 with (go_at_call 23; refine Hsame.out.mono ?_; rintro e w11 ⟨v, rfl, hv, hb11⟩; obtain ⟨bv, rfl⟩ := sameV_bool hv; have Hb11 := Lib.hid hb11; clear hv hb11; go_frame)
    go_wp2_with fail
    go_ret
    exact ⟨rfl, bnext (Hbw9.out.trans (Hb10.out.mono hM)) Hb11.out⟩
  · have hco' : ¬ co = 0 := hco
    have hd := rz_dump Y9 M n y 1 q (sec root) (rz_below hZ HYb.out) hq0 hM0 hM9
    have Hd := Lib.hid hd
    clear hd hZ hco Hout9
    go_upto_region 10 with (go_at_call 17; refine Hd.out.mono ?_; rintro e w10 ⟨va, rfl, ho10, hZ10, hb10, hst10⟩; have Ho10 := Lib.hid ho10; have HZ10 := Lib.hid hZ10; have Hb10 := Lib.hid hb10; have Hst10 := Lib.hid hst10; clear ho10 hZ10 hb10 hst10; go_frame)
    have hsame := same_any w10 _ _ _ _ (dump0 (sec root) n) (dump0 (sec root) n) (Hst10.out.own Hbe9.out (by decide) (by decide)) Ho10.out Hd08.out Hd08.out
    have Hsame := Lib.hid hsame
    clear hsame
    go_upto_region 11 with (go_at_call 23; refine Hsame.out.mono ?_; rintro e w11 ⟨v, rfl, hv, hb11⟩; obtain rfl := sameV_true hv; have Hb11 := Lib.hid hb11; clear hv hb11; go_frame)
    have hM11 : M ≤ w11.heap.size := Nat.le_trans hM9 (Nat.le_trans Hb10.out.size Hb11.out.size)
    have hbo11 := ownsRow_below (Hst10.out.own Hbo9.out (by decide) (by decide)) Hb11.out
    have hbe11 := ownsRow_below (Hst10.out.own Hbe9.out (by decide) (by decide)) Hb11.out
    have hbw11 : Below w.heap.size w w11 := bnext (Hbw9.out.trans (Hb10.out.mono hM)) Hb11.out
    have hZ11 := rz_below HZ10.out Hb11.out
    have Hbo11 := Lib.hid hbo11
    have Hbe11 := Lib.hid hbe11
    have Hbw11 := Lib.hid hbw11
    have HZ11 := Lib.hid hZ11
    clear hbo11 hbe11 hbw11 hZ11 Hbo9 Hbe9 Hbw9 HZ10 Hb10 Hst10 Hb11 Ho10 HYb Hsame Hd
    obtain ⟨i0, hi', hz0', hz1', hz2'⟩ := info_parts infoU8
    have hi := Lib.hid hi'
    have hz0 := Lib.hid hz0'
    have hz1 := Lib.hid hz1'
    have hz2 := Lib.hid hz2'
    clear hi' hz0' hz1' hz2'
    obtain ⟨fr, hfr⟩ : ∃ fr, fr = frameL (st0 (sec root) n x) x 0 l := ⟨_, rfl⟩
    have hfrl : fr.length = N := by rw [hfr, HN.out]; exact frame_size _ _ _ _
    have hbo11 := Hbo11.out
    rw [← hfr] at hbo11
    have hrd11 : Rd w11 (some ⟨g7, 0, none⟩) fr := Rd.own (c := cap7) (by rw [hfrl]; exact hbo11)
    have Hfr := Lib.hid hfr
    have Hfrl := Lib.hid hfrl
    have Hrd11 := Lib.hid hrd11
    have Hbo := Lib.hid hbo11
    clear hfr hfrl hrd11 hbo11 Hbo11
    go_upto_region 16 with (at_builtin; go_must (refine wpList_append_own _ rfl _ _ 25 rfl w11.heap.size 5 i0 (.int .u8 0) 1 1 Tryz.underlying25 hi.out hz0.out hz1.out hz2.out rfl (by decide) _ 0 [] rfl (World.ownsRow_made w11 #[] 0 (Nat.le_refl _) (by decide) rfl) ⟨g7, 0, none⟩ N cap7 (cells fr).toList rfl (by rw [cells_len, Nat.mul_one]; exact Hfrl.out) (cell_old_row Hrd11.out.news _) (cells_oneCell fr) (by unfold maxLen; omega) (by omega) (by simp) ?_); intro v12 w12 ho12 hg12 _; have Ho12 := Lib.hid ho12; have Hg12 := Lib.hid hg12; clear ho12 hg12; go_frame)
    have hb12 : Below w11.heap.size w11 w12 := (balloc (Below.refl _ _) _).grown Hg12.out (by simp) (fun k e => by cases e; exact Nat.le_refl _)
    have ho12 : w12.ownsRow w11.heap.size 5 1 v12 N (cells fr).toList := by
      have := Ho12.out
      rwa [Nat.zero_add, List.nil_append] at this
    obtain ⟨pc, cc, rfl⟩ := row_form ho12
    obtain ⟨gc, rfl⟩ : ∃ gc, pc = some ⟨gc, 0, none⟩ := by
      rcases ho12.2 with ⟨_, h0⟩ | ⟨g9, cap, cur, e, _⟩
      · omega
      · cases e; exact ⟨g9, rfl⟩
    have hcc := row_cap ho12
    have hgc := ho12.lt gc rfl
    have Ho12' := Lib.hid ho12
    have Hb12 := Lib.hid hb12
    clear ho12 hb12 Ho12 Hg12 Hrd11
    obtain ⟨d, hd⟩ : ∃ d, d = N - 3 := ⟨_, rfl⟩
    have hdI : ((N : Nat) : Int) - 3 = (d : Nat) := by omega
    have hd0 : 0 < d := by have := HN.out; omega
    obtain ⟨pk, hpk⟩ : ∃ pk, pk = pickN at' d := ⟨_, rfl⟩
    have hpkd : pk < d := by rw [hpk]; exact pickN_lt _ _ hd0
    obtain ⟨kk, hkk⟩ : ∃ kk, kk = 3 + pk := ⟨_, rfl⟩
    have hkI : (3 : Int) + (pk : Nat) = (kk : Nat) := by omega
    have hkN : kk < N := by omega
    have Hd := Lib.hid hd
    have Hpk := Lib.hid hpk
    have Hkk := Lib.hid hkk
    clear hd hpk hkk
    go_upto_region 17 with (go_at_call 22; refine (pick_any _ at' d H3.out.1 H3.out.2 hd0 (by omega)).mono ?_; rintro e w13 ⟨rfl, h13⟩; obtain rfl := h13.symm; rw [← Hpk.out]; go_frame)
    have HdI := Lib.hid hdI
    have HkI := Lib.hid hkI
    clear hdI hkI
    obtain ⟨u0, hu0⟩ : ∃ u0 : UInt8, u0 = fr.getD kk 0 := ⟨_, rfl⟩
    obtain ⟨b2, hb2⟩ : ∃ b2, b2 = pickN by' 255 := ⟨_, rfl⟩
    have hb2l : b2 < 255 := by rw [hb2]; exact pickN_lt _ _ (by omega)
    obtain ⟨u1, hu1⟩ : ∃ u1 : UInt8, u1 = UInt8.ofNat (1 + b2) := ⟨_, rfl⟩
    obtain ⟨n0, hn0⟩ : ∃ n0, n0 = u0.toNat := ⟨_, rfl⟩
    obtain ⟨n1, hn1⟩ : ∃ n1, n1 = u1.toNat := ⟨_, rfl⟩
    have hu1n : (1 : Int) + (b2 : Nat) = (n1 : Nat) := by rw [hn1, hu1, UInt8.toNat_ofNat']; omega
    have hn1l : n1 < 256 := by rw [hn1]; exact u1.toNat_lt
    have hn0l : n0 < 256 := by rw [hn0]; exact u0.toNat_lt
    have hcell : w12.cell? ⟨gc, kk, none⟩ = some (.int .u8 n0) := by
      rw [hn0]
      obtain ⟨g', e1, e2, _⟩ := cell_of_own Ho12'.out kk (.int .u8 u0.toNat) (by
        rw [hu0, List.getD_eq_getElem?_getD]
        simp [cells, show kk < fr.length by rw [Hfrl.out]; exact hkN])
      cases e1; exact e2
    have hfz : w12.frozen? ⟨gc, kk, none⟩ = false := Ho12'.out.frozenAt _
    have hkkI : (kk : Int) < (N : Nat) := by omega
    have hkk0 : (0 : Int) ≤ (kk : Nat) := by omega
    have Hb2 := Lib.hid hb2
    have hxor : bits BinOp.xor IntKind.u8 (n0 : Int) (n1 : Int) = ((u0 ^^^ u1).toNat : Int) := by rw [hn0, hn1]; exact u8_xor8 u0 u1
    have Hxor := Lib.hid hxor
    clear hu0 hb2 hu1 hn0 hn1 hxor
    go_cut [28] (fun _ wx => ∃ l2 : List UInt8, l2.length = N ∧ wx.ownsRow w11.heap.size 5 1 (.slice (some ⟨gc, 0, none⟩) N cc) N (cells l2).toList ∧ Below w11.heap.size w11 wx)
    case first =>
      go_region_with (first | (go_at_call 22; refine (pick_any _ by' 255 H4.out.1 H4.out.2 (by omega) (by omega)).mono ?_; rintro e w13 ⟨rfl, h13⟩; obtain rfl := h13.symm; rw [← Hb2.out]))
      all_goals
        go_wp2_with fail
        go_meet
        have hwr : IntKind.u8.wrap (IntKind.i64.wrap (n1 : Int)) = n1 := by
          simp [IntKind.wrap, IntKind.bits, IntKind.signed]
          omega
        rw [hwr, Hxor.out]
        have hst := (Ho12'.out.stored kk (.int .u8 (u0 ^^^ u1).toNat)).1
        rw [cells_set] at hst
        exact ⟨fr.set kk (u0 ^^^ u1), by rw [List.length_set]; exact Hfrl.out, hst, ((Hb12.out.setCell (by exact hgc.1) _).drew)⟩
    case rest =>
      obtain ⟨l2, hl2, ho14, hb14⟩ := hcut
      have hM14 : M ≤ wc.heap.size := Nat.le_trans hM11 hb14.size
      have hBS := byteSl_row (l := l2) (w := wc) (base := w11.heap.size) (c := cc) (p := some ⟨gc, 0, none⟩) (by rw [hl2]; exact ho14)
      have hun := rg_any wc M 1 cc q _ l2 (rg_below (rz_rg HZ11.out) hb14) hq0 hM0 hM14 (by omega) hBS
      have hunz := rz_any wc M n y 1 cc q (sec root) _ l2 (rz_below HZ11.out hb14) hq0 hM0 hM14 (by omega) hBS
      rw [hl2] at hunz
      have Hunz := Lib.hid hunz
      have Hbo14 := Lib.hid (ownsRow_below Hbo.out hb14)
      have Hbe14 := Lib.hid (ownsRow_below Hbe11.out hb14)
      have Hbw14 := Lib.hid (bnext Hbw11.out hb14)
      clear hun hunz hBS ho14 hb14 hl2 Hbe11 Hbw11 HZ11 Ho12' Hb12
      go_upto_region 19 with (go_at_call 16; refine Hunz.out.mono ?_; rintro e w15 ⟨co2, i2, j2, a2, k2, c2, rfl, hb15, hst15, hout15⟩; have Hb15 := Lib.hid hb15; have Hst15 := Lib.hid hst15; have Hout15 := Lib.hid hout15; clear hb15 hst15 hout15; go_frame)
      generalize hY : World.alloc _ _ = Y
      have hYb : Below w15.heap.size w15 Y := by rw [← hY]; exact balloc (Below.refl _ _) _
      have hYM : Y.heap[w15.heap.size]? = some (.cells #[.int .i64 i2, .int .i64 j2, .slice a2 k2 c2] 33 (0, 0)) := by rw [← hY]; exact heap_alloc_new _ _
      have hM15 : M ≤ Y.heap.size := Nat.le_trans hM14 (Nat.le_trans Hb15.out.size hYb.size)
      have hMw15 : M ≤ w15.heap.size := Nat.le_trans hM14 Hb15.out.size
      have hbo15 := ownsRow_below (Hst15.out.own Hbo14.out (by decide) (by decide)) hYb
      have hbe15 := ownsRow_below (Hst15.out.own Hbe14.out (by decide) (by decide)) hYb
      have hbw15 : Below w.heap.size w Y := bnext (Hbw14.out.trans (Hb15.out.mono hM)) hYb
      have hrd15 : Rd Y (some ⟨g7, 0, none⟩) fr := Rd.own (c := cap7) (by rw [Hfrl.out]; exact hbo15)
      have Hbo15 := Lib.hid hbo15
      have Hbe15 := Lib.hid hbe15
      have Hbw15 := Lib.hid hbw15
      have HYb := Lib.hid hYb
      have HYM := Lib.hid hYM
      have Hrd15 := Lib.hid hrd15
      obtain ⟨p2, hp2⟩ : ∃ p2, p2 = pickN cut N := ⟨_, rfl⟩
      have hp2N : p2 < N := by rw [hp2]; exact pickN_lt _ _ (by have := HN.out; omega)
      have hcutE := fun W => cut_bytes W (some ⟨g7, 0, none⟩) N cap7 p2 (by omega)
      have Hp2 := Lib.hid hp2
      have hN0 : 0 < N := by omega
      clear hY hYb hYM hbo15 hbe15 hbw15 hrd15 hp2 Hbo14 Hbe14 Hbw14 Hst15 Hb15 Hunz
      have hpre : ((fr.take p2).length) = p2 := by rw [List.length_take, Hfrl.out]; omega
      have hrdp : Rd Y (some ⟨g7, 0, none⟩) (fr.take p2) := fun hpos => by
        obtain ⟨b, o, e, hc⟩ := Hrd15.out (by rw [Hfrl.out]; omega)
        refine ⟨b, o, e, fun j hj => ?_⟩
        rw [hpre] at hj
        rw [hc j (by rw [Hfrl.out]; omega), List.getD_eq_getElem?_getD, List.getD_eq_getElem?_getD, List.getElem?_take_of_lt hj]
      have Hpre := Lib.hid hpre
      have Hrdp := Lib.hid hrdp
      clear hpre hrdp Hrd15
      go_upto_region 20 with (first
        | (go_at_call 22; refine (pick_any _ cut N H5.out.1 H5.out.2 hN0 (by omega)).mono ?_; rintro e w16 ⟨rfl, h16⟩; obtain rfl := h16.symm; rw [← Hp2.out]; go_frame)
        | (at_builtin; go_must (refine wpList_append_own _ rfl _ _ 25 rfl Y.heap.size 5 i0 (.int .u8 0) 1 1 Tryz.underlying25 hi.out hz0.out hz1.out hz2.out rfl (by decide) _ 0 [] rfl (World.ownsRow_made Y #[] 0 (Nat.le_refl _) (by decide) rfl) ⟨g7, 0, none⟩ p2 cap7 (cells (fr.take p2)).toList rfl (by rw [cells_len, Nat.mul_one]; exact Hpre.out) (cell_old_row Hrdp.out.news _) (cells_oneCell _) (by unfold maxLen; omega) (by omega) (by simp) ?_); intro v16 w16 ho16 hg16 _; have Ho16 := Lib.hid ho16; have Hg16 := Lib.hid hg16; clear ho16 hg16; go_frame))
      have hg16 : (Y.alloc (.cells #[] 5)).grownBy w16 (some Y.heap.size) := Hg16.out
      have hb16 : Below Y.heap.size Y w16 := (balloc (Below.refl _ _) _).grown hg16 (by simp) (fun k e => by cases e; exact Nat.le_refl _)
      have ho16 : w16.ownsRow Y.heap.size 5 1 v16 p2 (cells (fr.take p2)).toList := by
        have := Ho16.out
        rwa [Nat.zero_add, List.nil_append] at this
      obtain ⟨pd, cd, rfl⟩ := row_form ho16
      have hBS2 := byteSl_row (l := fr.take p2) (w := w16) (base := Y.heap.size) (c := cd) (p := pd) (by rw [Hpre.out]; exact ho16)
      have hM16 : M ≤ w16.heap.size := Nat.le_trans hM15 hb16.size
      have Hbo16 := Lib.hid (ownsRow_below Hbo15.out hb16)
      have Hbe16 := Lib.hid (ownsRow_below Hbe15.out hb16)
      have Hbw16 : Hid (Below w.heap.size w w16) := Lib.hid (bnext Hbw15.out hb16)
      have HYM16 := Lib.hid ((hb16.block _ (Array.getElem?_eq_some_iff.1 HYM.out).1).trans HYM.out)
      have Hb16 := Lib.hid hb16
      clear ho16 hb16 hg16 Ho16 Hg16 Hbo15 Hbe15 Hbw15 HYM Hrdp
      rcases Hout15.out with ⟨rfl, hG⟩ | ⟨hco2, rfl, hZ⟩
      · have hun := rg_any w16 M 2 cd q _ _ (rg_below (rg_below hG HYb.out) Hb16.out) hq0 hM0 hM16 (by omega) hBS2
        rw [Hpre.out] at hun
        have Hun := Lib.hid hun
        clear hun hG Hout15 hBS2
        go_upto_region 21 with (go_at_call 16; refine Hun.out.mono ?_; rintro e w17 ⟨co3, i3, j3, a3, k3, c3, rfl, hG17, hb17, hst17, _⟩; have HG17 := Lib.hid hG17; have Hb17 := Lib.hid hb17; have Hst17 := Lib.hid hst17; clear hG17 hb17 hst17; go_frame)
        generalize hY2 : World.alloc _ _ = Y2
        have hY2b : Below w17.heap.size w17 Y2 := by rw [← hY2]; exact balloc (Below.refl _ _) _
        have hM17 : M ≤ Y2.heap.size := Nat.le_trans hM16 (Nat.le_trans Hb17.out.size hY2b.size)
        have Hbe17 := Lib.hid (ownsRow_below (Hst17.out.own Hbe16.out (by decide) (by decide)) hY2b)
        have Hbw17 : Hid (Below w.heap.size w Y2) := Lib.hid (bnext (Hbw16.out.trans (Hb17.out.mono hM)) hY2b)
        obtain ⟨D, hD8, hd⟩ := rg_dump Y2 M 3 q (rg_below HG17.out hY2b) hq0 hM0 hM17 (by omega)
        clear hY2 hY2b HG17
        have Hd := Lib.hid hd
        have HD8 := Lib.hid hD8
        clear hd hD8
        go_upto_region 22 with (go_at_call 17; refine Hd.out.mono ?_; rintro e w18 ⟨va2, rfl, ho18, hG18, hb18, hst18⟩; have Ho18 := Lib.hid ho18; have Hb18 := Lib.hid hb18; have Hst18 := Lib.hid hst18; clear ho18 hG18 hb18 hst18; go_frame)
        have hsame := same_any w18 _ _ _ _ (dump0 (sec root) n) D (Hst18.out.own Hbe17.out (by decide) (by decide)) Ho18.out Hd08.out HD8.out
        have Hsame := Lib.hid hsame
        clear hsame
        go_upto_region 23 with (go_at_call 23; refine Hsame.out.mono ?_; rintro e w19 ⟨v, rfl, hv, hb19⟩; obtain ⟨bv, rfl⟩ := sameV_bool hv; have Hb19 := Lib.hid hb19; clear hv hb19; go_frame)
        go_wp2_with fail
        go_ret
        exact ⟨rfl, bnext (Hbw17.out.trans (Hb18.out.mono hM)) Hb19.out⟩
      · have hco2' : ¬ co2 = 0 := hco2
        have hco2b : (co2 == 0) = false := beq_eq_false_iff_ne.2 hco2
        have hun := rz_any w16 M n y 2 cd q (sec root) _ _ (rz_below (rz_below hZ HYb.out) Hb16.out) hq0 hM0 hM16 (by omega) hBS2
        rw [Hpre.out] at hun
        have Hun := Lib.hid hun
        clear hun hZ Hout15 hBS2 hco2
        go_upto_region 21 with (go_at_call 16; refine Hun.out.mono ?_; rintro e w17 ⟨co3, i3, j3, a3, k3, c3, rfl, hb17, hst17, hout17⟩; have Hb17 := Lib.hid hb17; have Hst17 := Lib.hid hst17; have Hout17 := Lib.hid hout17; clear hb17 hst17 hout17; go_frame)
        generalize hY2 : World.alloc _ _ = Y2
        have hY2b : Below w17.heap.size w17 Y2 := by rw [← hY2]; exact balloc (Below.refl _ _) _
        have hM17 : M ≤ Y2.heap.size := Nat.le_trans hM16 (Nat.le_trans Hb17.out.size hY2b.size)
        have hY2M : Y2.heap[w17.heap.size]? = some (.cells #[.int .i64 i3, .int .i64 j3, .slice a3 k3 c3] 33 (0, 0)) := by rw [← hY2]; exact heap_alloc_new _ _
        have hYM17 : Y2.heap[w15.heap.size]? = some (.cells #[.int .i64 i2, .int .i64 j2, .slice a2 0 c2] 33 (0, 0)) := by
          have h17 := (Hst17.out _ _ _ _ HYM16.out (by decide) (by decide)).trans HYM16.out
          exact (hY2b.block _ (Array.getElem?_eq_some_iff.1 h17).1).trans h17
        have hbo17 := ownsRow_below (Hst17.out.own Hbo16.out (by decide) (by decide)) hY2b
        have HY2M := Lib.hid hY2M
        have HYM17 := Lib.hid hYM17
        have Hbo17 := Lib.hid hbo17
        clear hY2M hYM17 hbo17
        have Hbe17 := Lib.hid (ownsRow_below (Hst17.out.own Hbe16.out (by decide) (by decide)) hY2b)
        have Hbw17 : Hid (Below w.heap.size w Y2) := Lib.hid (bnext (Hbw16.out.trans (Hb17.out.mono hM)) hY2b)
        rcases Hout17.out with ⟨rfl, hG⟩ | ⟨hco3, rfl, hZ⟩
        · obtain ⟨D, hD8, hd⟩ := rg_dump Y2 M 3 q (rg_below hG hY2b) hq0 hM0 hM17 (by omega)
          clear hY2 hY2b hG Hout17
          have Hd := Lib.hid hd
          have HD8 := Lib.hid hD8
          clear hd hD8
          go_upto_region 22 with (go_at_call 17; refine Hd.out.mono ?_; rintro e w18 ⟨va2, rfl, ho18, hG18, hb18, hst18⟩; have Ho18 := Lib.hid ho18; have Hb18 := Lib.hid hb18; have Hst18 := Lib.hid hst18; clear ho18 hG18 hb18 hst18; go_frame)
          have hsame := same_any w18 _ _ _ _ (dump0 (sec root) n) D (Hst18.out.own Hbe17.out (by decide) (by decide)) Ho18.out Hd08.out HD8.out
          have Hsame := Lib.hid hsame
          clear hsame
          go_upto_region 23 with (go_at_call 23; refine Hsame.out.mono ?_; rintro e w19 ⟨v, rfl, hv, hb19⟩; obtain ⟨bv, rfl⟩ := sameV_bool hv; have Hb19 := Lib.hid hb19; clear hv hb19; go_frame)
          go_wp2_with fail
          go_ret
          exact ⟨rfl, bnext (Hbw17.out.trans (Hb18.out.mono hM)) Hb19.out⟩
        · have hco3' : ¬ co3 = 0 := hco3
          have hco3b : (co3 == 0) = false := beq_eq_false_iff_ne.2 hco3
          have hd := rz_dump Y2 M n y 3 q (sec root) (rz_below hZ hY2b) hq0 hM0 hM17
          have Hd := Lib.hid hd
          clear hd hZ hY2 hY2b Hout17 hco3
          go_upto_region 22 with (go_at_call 17; refine Hd.out.mono ?_; rintro e w18 ⟨va2, rfl, ho18, hZ18, hb18, hst18⟩; have Ho18 := Lib.hid ho18; have HZ18 := Lib.hid hZ18; have Hb18 := Lib.hid hb18; have Hst18 := Lib.hid hst18; clear ho18 hZ18 hb18 hst18; go_frame)
          have hsame := same_any w18 _ _ _ _ (dump0 (sec root) n) (dump0 (sec root) n) (Hst18.out.own Hbe17.out (by decide) (by decide)) Ho18.out Hd08.out Hd08.out
          have Hsame := Lib.hid hsame
          clear hsame
          go_upto_region 23 with (go_at_call 23; refine Hsame.out.mono ?_; rintro e w19 ⟨v, rfl, hv, hb19⟩; obtain rfl := sameV_true hv; have Hb19 := Lib.hid hb19; clear hv hb19; go_frame)
          have hM19 : M ≤ w19.heap.size := Nat.le_trans hM17 (Nat.le_trans Hb18.out.size Hb19.out.size)
          have hst := fun b cs ty frz (h : Y2.heap[b]? = some (.cells cs ty frz)) e1 e2 => (Hst18.out b cs ty frz h e1 e2).trans h
          have hm1 := hst _ _ _ _ HYM17.out (by decide) (by decide)
          have hm2 := hst _ _ _ _ HY2M.out (by decide) (by decide)
          have hM1 : w19.heap[w15.heap.size]? = some (.cells #[.int .i64 i2, .int .i64 j2, .slice a2 0 c2] 33 (0, 0)) := (Hb19.out.block _ (Array.getElem?_eq_some_iff.1 hm1).1).trans hm1
          have hM2 : w19.heap[w17.heap.size]? = some (.cells #[.int .i64 i3, .int .i64 j3, .slice a3 0 c3] 33 (0, 0)) := (Hb19.out.block _ (Array.getElem?_eq_some_iff.1 hm2).1).trans hm2
          have m1 : w19.cell? ⟨w15.heap.size, 2, none⟩ = some (.slice a2 0 c2) := cell_of_row _ _ _ _ _ _ hM1
          have m2 : w19.cell? ⟨w17.heap.size, 2, none⟩ = some (.slice a3 0 c3) := cell_of_row _ _ _ _ _ _ hM2
          have hbo19 := ownsRow_below (Hst18.out.own Hbo17.out (by decide) (by decide)) Hb19.out
          rw [Hfr.out, HN.out] at hbo19
          have hgood := rz_good w19 M n y x 3 g7 cap7 q (sec root) l (rz_below HZ18.out Hb19.out) hq0 hM0 hM19 (by omega) hxn hxy hl40 (by have := HN.out; omega) hbo19
          rw [← HN.out] at hgood
          have Hgood := Lib.hid hgood
          have Hbw19 := Lib.hid (bnext (Hbw17.out.trans (Hb18.out.mono hM)) Hb19.out)
          have HM1 := Lib.hid hM1
          clear hst hm1 hm2 hM1 hM2 hbo19 hgood
          go_upto_region 26 with (first | (go_at_call 16; refine Hgood.out.mono ?_; rintro e w20 ⟨a4, c4, rfl, hrd20, hb20, hst20⟩; have Hrd20 := Lib.hid hrd20; have Hb20 := Lib.hid hb20; have Hm20 := Lib.hid ((hst20 _ _ _ _ HM1.out (by decide) (by decide)).trans HM1.out); have q0 := cell_of_row w20 w15.heap.size 0 _ _ _ Hm20.out; have q1 := cell_of_row w20 w15.heap.size 1 _ _ _ Hm20.out; have q2 := cell_of_row w20 w15.heap.size 2 _ _ _ Hm20.out; have f0 := frozen_of_row w20 w15.heap.size 0 _ _ Hm20.out; have f1 := frozen_of_row w20 w15.heap.size 1 _ _ Hm20.out; have f2 := frozen_of_row w20 w15.heap.size 2 _ _ Hm20.out; clear hrd20 hb20 hst20; go_frame))
          generalize hX : World.setCell _ _ _ = X
          have hXM : X.heap[w15.heap.size]? = some (.cells #[.int .i64 x, .int .i64 0, .slice a4 l.length c4] 33 (0, 0)) := by
            rw [← hX, heap_setCell_same _ _ _ _ _ _ (heap_setCell_same _ _ _ _ _ _ (heap_setCell_same _ _ _ _ _ _ Hm20.out))]; rfl
          have hXo : ∀ b, b ≠ w15.heap.size → X.heap[b]? = w20.heap[b]? := fun b hb => by
            rw [← hX, heap_ne (Ne.symm hb), heap_ne (Ne.symm hb), heap_ne (Ne.symm hb)]
          have x2 : X.drew.cell? ⟨w15.heap.size, 2, none⟩ = some (.slice a4 l.length c4) := cell_of_row _ _ _ _ _ _ hXM
          have hrdX : Rd X.drew a4 l := Hrd20.out.keep fun ad u hu => by
            have hne : ad.block ≠ w15.heap.size := fun e => by
              have h1 := cell_of_row w20 w15.heap.size ad.off _ _ _ Hm20.out
              obtain ⟨bb, oo, ss⟩ := ad
              have hs : ss = none := by simpa using World.cell?_spot hu
              subst hs
              subst e
              rw [h1] at hu
              rcases oo with _ | _ | _ | oo <;> simp at hu
            exact (World.cell?_of_block (w := w20) (hXo _ hne)).trans hu
          have hbX : Below w.heap.size w X.drew := by
            have h1 := Hbw19.out.trans (Hb20.out.mono hM)
            have h2 := Nat.le_trans hM hMw15
            rw [← hX]
            exact (((h1.setCell (by exact h2) _).setCell (by exact h2) _).setCell (by exact h2) _).drew
          have hcsD : (convert 25 9 (.slice a4 l.length c4)).run Tryz.prog X.drew = .ok (.string tb) X.drew := by
            rw [Htb.out]; exact conv_str X.drew a4 c4 l hrdX
          have HbX := Lib.hid hbX
          clear hX hXM hXo hrdX hbX q0 q1 q2 f0 f1 f2
          go_region_held3 (fun w' => w'.cell? ⟨w15.heap.size, 2, none⟩ = some (.slice a4 l.length c4) ∧ (convert 25 9 (.slice a4 l.length c4)).run Tryz.prog w' = .ok (.string tb) w') (refine ⟨?_, ?_⟩ <;> (first | with_reducible assumption | (simp only [World.cell?_drew]; with_reducible assumption))) (first | (go_at_call 13; refine (text_any _ words).mono ?_; rintro e w22 ⟨rfl, h22⟩; obtain rfl := h22.symm; rw [← Hl.out, ← Htb.out]))
          all_goals
            go_wp2_with fail
            go_ret
            exact ⟨rfl, HbX.out⟩
end Go.Proofs.YtccidllcjaaeeaaGreatDoor
