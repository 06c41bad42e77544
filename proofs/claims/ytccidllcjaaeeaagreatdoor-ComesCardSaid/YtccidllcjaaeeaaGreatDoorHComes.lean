/- The walk of epochkeep's Comes. Conditions: its numbers are ints; its slices read; the errors' type word lies. -/
import Derived.Test.YtccidllcjaaeeaaGreatDoorHComesMid
import Derived.Test.YtccidllcjaaeeaaGreatDoorH6
import Derived.BigQuiet
namespace Go.Proofs.YtccidllcjaaeeaaGreatDoor
set_option maxRecDepth 100000
open Go Go.Maps Go.RowKit
open Go.Shelf Go.Lib Go.Sort Go.MuLone
theorem strs_form {W : World} {v : Value} {L : List ByteArray} (h : StrsAt W v L) : ∃ ao cap, v = .slice ao L.length cap ∧ (ao = none → L.length = 0 ∧ cap = 0) ∧ ∀ ad, ao = some ad → ∀ j u, (strV L)[j]? = some u → W.cell? (ad.add j) = some u := by
  rcases h with ⟨rfl, rfl⟩ | ⟨a, cap, rfl, _, _, hc⟩
  · exact ⟨none, 0, rfl, fun _ => ⟨rfl, rfl⟩, fun ad e => (by cases e)⟩
  · refine ⟨some a, cap, rfl, fun e => (by cases e), fun ad e j u hu => ?_⟩
    cases e
    have hj := (List.getElem?_eq_some_iff.1 hu).1
    have hj' : j < L.length := by simpa [strV] using hj
    rw [strV_at _ _ hj'] at hu
    rw [hc j hj', hu]
theorem cell_below {w w' : World} {a : Addr} {v : Value} (hb : Below w.heap.size w w') (h : w.cell? a = some v) : w'.cell? a = some v := (hb.cell (block_lt_of_cell h)).trans h
theorem int_wf {x : Int} (h : (Lit.int .i64 x).wf = true) : -9223372036854775808 ≤ x ∧ x ≤ 9223372036854775807 := by
  simpa [Lit.wf, IntKind.min, IntKind.max, IntKind.signed, IntKind.bits] using h
theorem ints_form {W : World} {v : Value} {L : List Int} (h : IntsAt W v L) : ∃ ao cap, v = .slice ao L.length cap ∧ (0 < L.length → ∃ b o, ao = some ⟨b, o, none⟩ ∧ ∀ j, j < L.length → W.cell? ⟨b, o + j, none⟩ = some (.int .i64 (L.getD j 0)) ∧ -9223372036854775808 ≤ L.getD j 0 ∧ L.getD j 0 ≤ 9223372036854775807) := by
  rcases h with ⟨rfl, rfl⟩ | ⟨a, cap, rfl, _, _, hc⟩
  · exact ⟨none, 0, rfl, fun h => absurd h (by simp)⟩
  · refine ⟨some a, cap, rfl, fun h0 => ?_⟩
    obtain ⟨b, o, s⟩ := a
    have hs : s = none := by simpa [Addr.add] using World.cell?_spot (hc 0 h0).1
    subst hs
    exact ⟨b, o, rfl, fun j hj => ⟨(by have := (hc j hj).1; rwa [Addr.add_lit] at this), int_wf (hc j hj).2⟩⟩
theorem made_own (w : World) (base e : Nat) (u : Value) (hb : base ≤ w.heap.size) : (w.alloc (.cells #[u] e)).ownsRow base e 1 (.slice (some ⟨w.heap.size, 0, none⟩) 1 1) 1 [u] :=
  ⟨rfl, .inr ⟨w.heap.size, 1, #[u], rfl, hb, heap_alloc_new w _, Nat.le_refl _, by decide, rfl, rfl⟩⟩
theorem made_cells (w : World) (e : Nat) (u : Value) : ∀ ad, some (⟨w.heap.size, 0, none⟩ : Addr) = some ad → ∀ j v, [u][j]? = some v → (w.alloc (.cells #[u] e)).cell? (ad.add j) = some v := fun ad h j v hv => by
  cases h
  exact cell_one_new w u e j v hv
theorem infoStr : (Tryz.prog.info? 9).map (fun i => (i.zero, i.size, i.bytes)) = some (some (.string ⟨#[]⟩), 1, 16) := by kernel_rfl
def firstB : ByteArray := ⟨#[102, 105, 114, 115, 116]⟩
set_option maxHeartbeats 8000000 in
theorem comes_any (w : World) (root : ByteArray) (c a : Int) (v3 v4 : Value) (L : List ByteArray) (O : List Int) (h1 : -9223372036854775808 ≤ c) (h2 : c ≤ 9223372036854775807) (h3 : -9223372036854775808 ≤ a) (h4 : a ≤ 9223372036854775807) (h5 : StrsAt w v3 L) (h6 : IntsAt w v4 O) (hEG : EG w) :
    Calls Tryz.prog 6 #[.string root, .int .i64 c, .int .i64 a, v3, v4] w fun e w' => e = .returned (.bool true) ∧ Below w.heap.size w w' := by
  obtain ⟨A3, c3, rfl, hn3, hc3⟩ := strs_form h5
  obtain ⟨A4, c4, rfl, hc4⟩ := ints_form h6
  obtain ⟨n, hn⟩ : ∃ n, n = 2 + pickN c 15 := ⟨_, rfl⟩
  obtain ⟨x, hx⟩ : ∃ x, x = pickN a n := ⟨_, rfl⟩
  have hpair := pair_any w root c a n x h1 h2 h3 h4 hn hx
  have Hpair := Lib.hid hpair
  have Hn := Lib.hid hn
  have Hx := Lib.hid hx
  have Hn3 := Lib.hid hn3
  have Hc3 := Lib.hid hc3
  have Hc4 := Lib.hid hc4
  clear hpair hn hx hn3 hc3 hc4 h5 h6
  by_cases hL : 400 < L.length
  · have hLI : decide ((400 : Int) < (L.length : Nat)) = true := decide_eq_true (by omega)
    go_enter Tryz.func6, Tryz.ntmps6
    go_upto_region 2 with (go_at_call 11; refine Hpair.out.mono ?_; rintro e w1 ⟨p, q, rfl, hP⟩; have HP := Lib.hid hP; clear hP; go_frame)
    go_wp2
    go_ret
    exact ⟨rfl, HP.out.2.2.1⟩
  · have hLI : ¬ ((400 : Int) < (L.length : Nat)) := by omega
    obtain ⟨i0, hi', hz0', hz1', hz2'⟩ := info_parts infoStr
    have hi := Lib.hid hi'
    have hz0 := Lib.hid hz0'
    have hz1 := Lib.hid hz1'
    have hz2 := Lib.hid hz2'
    clear hi' hz0' hz1' hz2'
    obtain ⟨m0, hmi', hmz0', hmz1', hmz2'⟩ := info_parts infoInt
    have mi := Lib.hid hmi'
    have mz0 := Lib.hid hmz0'
    have mz1 := Lib.hid hmz1'
    have mz2 := Lib.hid hmz2'
    clear hmi' hmz0' hmz1' hmz2'
    go_enter Tryz.func6, Tryz.ntmps6
    go_upto_region 2 with (go_at_call 11; refine Hpair.out.mono ?_; rintro e w1 ⟨p, q, rfl, hP⟩; have HP := Lib.hid hP; clear hP; go_frame)
    obtain ⟨hp0, hq0, hb1, M, hM, hA1, hpM, hB1⟩ := HP.out
    have hr8 : (sec root).length = 8 := sec_length _
    have hxn : x < n := by rw [Hx.out]; exact pickN_lt a n (by have := Hn.out; omega)
    have hn16 : n ≤ 16 := by have := pickN_lt c 15 (by omega); have := Hn.out; omega
    have hw0 : 0 < w.heap.size := Nat.lt_of_le_of_lt (Nat.zero_le _) (block_lt_of_cell hEG)
    have Hb1 := Lib.hid hb1
    have HA1 := Lib.hid hA1
    have HpM := Lib.hid hpM
    have HB1 := Lib.hid hB1
    clear hb1 hA1 hpM hB1 HP
    go_upto_region 4 with (fail)
    go_upto_region 5 with (at_builtin; go_must (refine wpList_append_opt _ rfl _ _ 53 rfl w.heap.size 9 i0 (.string ⟨#[]⟩) 1 16 Tryz.underlying53 hi.out hz0.out hz1.out hz2.out rfl (by decide) _ 1 [.string firstB] (by rfl) (made_own _ _ _ _ Hb1.out.size) A3 L.length c3 (strV L) (by rfl) (by simp [strV]) Hn3.out (fun ad e j u hu => cell_below (balloc Hb1.out _) (Hc3.out ad e j u hu)) (fun u hu => by obtain ⟨_, _, rfl⟩ := List.mem_map.1 hu; rfl) (by unfold maxLen; omega) (by omega) (by simp; have := Hb1.out.size; omega) ?_); intro v5 w5 ho5 hg5; have Ho5 := Lib.hid ho5; have Hg5 := Lib.hid hg5; clear ho5 hg5; go_frame)
    obtain ⟨TL, hTL⟩ : ∃ TL, TL = firstB :: L := ⟨_, rfl⟩
    obtain ⟨N, hN⟩ : ∃ N, N = TL.length := ⟨_, rfl⟩
    have hN1 : N = 1 + L.length := by rw [hN, hTL, List.length_cons]; omega
    have ho5 : w5.ownsRow w.heap.size 9 1 v5 N (strV TL) := by rw [hN1, hTL]; exact Ho5.out
    have hb5 : Below w1.heap.size w1 w5 := (balloc (Below.refl _ _) _).grown Hg5.out (by simp) (fun k e => by simp [Value.ownBlock] at e; omega)
    obtain ⟨p5, ct, rfl⟩ := row_form ho5
    obtain ⟨gt, rfl, _, _⟩ := cell_of_own ho5 0 (.string firstB) (by rw [hTL]; rfl)
    have hS5 : SndR w5 w5 w.heap.size p (sec root) n x 0 := snd_zero (group_below HA1.out hb5) (inv_st0 _ _ _ hr8 hxn hn16) ((hEG.below Hb1.out).below hb5)
    have hB5 : GroupAt w5 M q (st0 (sec root) n ((x + 1) % n)) 0 := group_below HB1.out hb5
    have hB5l := group_lt hB5
    have hqp : ∀ b, b = q.G ∨ b = q.H ∨ b = q.K ∨ q.T.ownBlock = some b → b ≠ p.G ∧ b ≠ p.H ∧ b ≠ p.K ∧ p.T.ownBlock ≠ some b := fun b hb => by
      have h0 := (hB5l b hb).1
      exact ⟨fun e => by have := HpM.out p.G (.inl rfl); omega, fun e => by have := HpM.out p.H (.inr (.inl rfl)); omega, fun e => by have := HpM.out p.K (.inr (.inr (.inl rfl))); omega, fun e => by have := HpM.out b (.inr (.inr (.inr e))); omega⟩
    have hN400 : N ≤ 401 := by omega
    have hN0 : 0 < N := by omega
    have hct := row_cap ho5
    have hb05 : Below w.heap.size w w5 := bnext Hb1.out hb5
    have hw50 : 0 < w5.heap.size := Nat.lt_of_lt_of_le hw0 hb05.size
    have hA5 := group_below HA1.out hb5
    have HA5 := Lib.hid hA5
    clear hA5
    have HTL := Lib.hid hTL
    have HN := Lib.hid hN
    have Ho5' := Lib.hid ho5
    have HS5 := Lib.hid hS5
    have HB5 := Lib.hid hB5
    have HB5l := Lib.hid hB5l
    have Hqp := Lib.hid hqp
    have Hb05 := Lib.hid hb05
    clear hTL hN hN1 ho5 hb5 hS5 hB5 hB5l hqp hb05 Ho5 Hg5
    go_upto_region 7 with (fail)
    go_loopw [14, 15] (fun fv iv wr => ∃ k : Nat, k ≤ N ∧ iv = .int .i64 k ∧ wr.ownsRow w5.heap.size 9 1 fv k (frs (sec root) n x TL k) ∧ SndR w5 wr w.heap.size p (sec root) n x k ∧ wr.ownsRow w.heap.size 9 1 (.slice (some ⟨gt, 0, none⟩) N ct) N (strV TL)) (fun _ iv _ => N - (intOf iv).toNat)
    case atStart => exact ⟨0, Nat.zero_le _, rfl, World.ownsRow_nil _ _ _ _, HS5.out, Ho5'.out⟩
    case round =>
      obtain ⟨k, hkN, rfl, hfr, hS, htx⟩ := hrel
      have Hfr := Lib.hid hfr
      have HS := Lib.hid hS
      have Htx := Lib.hid htx
      clear hfr hS htx
      by_cases hk : k < N
      · have hkI : (k : Int) < (N : Nat) := by omega
        have hk0 : (0 : Int) ≤ (k : Nat) := by omega
        obtain ⟨tk, htk⟩ : ∃ tk, tk = TL.getD k ByteArray.empty := ⟨_, rfl⟩
        have hck : wr.cell? ⟨gt, k, none⟩ = some (.string tk) := by
          obtain ⟨g, e1, e2, _⟩ := cell_of_own Htx.out k (.string tk) (by rw [htk]; exact strV_at TL k (by have := HN.out; omega))
          cases e1; exact e2
        obtain ⟨l, hl⟩ : ∃ l, l = textB TL k := ⟨_, rfl⟩
        have hlt : l = textL tk.data.toList := by rw [hl, htk]; rfl
        have hl40 : l.length ≤ 40 := by rw [hl]; exact textB_le _ _
        obtain ⟨tb, htb⟩ : ∃ tb : ByteArray, tb = ⟨l.toArray⟩ := ⟨_, rfl⟩
        have htl : tb.data.toList = l := by rw [htb]
        have hts : tb.size = l.length := by rw [htb]; rfl
        obtain ⟨cp, hcp⟩ : ∃ cp, cp = grownCap wr tb.size 0 5 := ⟨_, rfl⟩
        obtain ⟨V, hV⟩ : ∃ V, V = Lib.bytesWorld wr 5 tb := ⟨_, rfl⟩
        have hVb : Below wr.heap.size wr V := by rw [hV]; exact bytes_below _ _
        have hcv := conv_bytes wr tb
        rw [← hcp, ← hV, hts] at hcv
        have hbuf : BufAt V wr.heap.size l := by rw [hV, ← htl]; exact bytes_buf _ _
        have hgo := snd_go w5 wr V w.heap.size n x k cp p (sec root) l HS.out hVb hp0 hw0 hl40 (by omega) hbuf
        have Hgo := Lib.hid hgo
        have HVb := Lib.hid hVb
        have Hlt := Lib.hid hlt
        have Hl := Lib.hid hl
        have Htb := Lib.hid htb
        clear hgo hVb hbuf hV hcp hts htl htb hlt hl htk
        go_upto_region 10 with (first
          | (go_at_call 13; refine (text_any _ tk).mono ?_; rintro e w6 ⟨rfl, rfl⟩; rw [← Hlt.out, ← Htb.out]; go_frame)
          | (go_at_call 12; refine Hgo.out.mono ?_; rintro e w7 ⟨v7, rfl, ho7, hS7, hst7⟩; have Ho7 := Lib.hid ho7; have HS7 := Lib.hid hS7; have Hst7 := Lib.hid hst7; clear ho7 hS7 hst7; go_frame))
        obtain ⟨p7, c7, rfl⟩ := row_form Ho7.out
        obtain ⟨fb, hfb⟩ : ∃ fb, fb = frameB (sec root) n x TL k := ⟨_, rfl⟩
        have hfl : (frameL (st0 (sec root) n x) x k l).length = l.length + 7 := frame_size _ _ _ _
        have hcs := conv_str w7 p7 c7 (frameL (st0 (sec root) n x) x k l) (Rd.own (by rw [hfl]; exact Ho7.out))
        have hfe : (⟨(frameL (st0 (sec root) n x) x k l).toArray⟩ : ByteArray) = fb := by rw [hfb, Hl.out]; rfl
        rw [hfl, hfe] at hcs
        have hfr7 := Hst7.out.own (ownsRow_below Hfr.out HVb.out) (by decide) (by decide)
        have htx7 := Hst7.out.own (ownsRow_below Htx.out HVb.out) (by decide) (by decide)
        have hw5s : w5.heap.size ≤ w7.heap.size := by
          obtain ⟨_, _, _, _, _, _, _, _, _, _, _, hF, _⟩ := HS7.out
          exact hF.size
        have Hfr7 := Lib.hid hfr7
        have Htx7 := Lib.hid htx7
        have Hfb := Lib.hid hfb
        clear hfr7 htx7 hfb hfl hfe
        go_upto_region 12 with (fail)
        go_wp2_with (at_builtin; go_must (refine wpList_append_opt _ rfl _ _ 53 rfl w5.heap.size 9 i0 (.string ⟨#[]⟩) 1 16 Tryz.underlying53 hi.out hz0.out hz1.out hz2.out rfl (by decide) _ k (frs (sec root) n x TL k) (by rfl) (Hfr7.out.alloc _) (some ⟨w7.heap.size, 0, none⟩) 1 1 [.string fb] (by rfl) rfl (fun e => by cases e) (made_cells _ _ _) (fun u hu => by rw [List.mem_singleton.1 hu]; rfl) (by unfold maxLen; omega) (by omega) (by simp; omega) ?_); intro v8 w8 ho8 hg8; have Ho8 := Lib.hid ho8; have Hg8 := Lib.hid hg8; clear ho8 hg8; go_frame)
        go_roundw
        case rel =>
          have hfl := (Hfr7.out.alloc (.cells #[.string fb] 9)).lt
          refine ⟨k + 1, by omega, by simp, by rw [frs_succ, ← Hfb.out]; exact Ho8.out, snd_grow (snd_below HS7.out (balloc (Below.refl _ _) _)) Hg8.out (by omega) (fun g hg => ⟨(hfl g hg).1, ?_⟩), ownsRow_blk (Htx7.out.alloc _) fun b hb => Hg8.out.block b ((Htx7.out.alloc _).lt b hb).2 fun e => ?_⟩
          · obtain ⟨cs, hc⟩ := row_cells (Hfr7.out.alloc (.cells #[.string fb] 9)) hg
            exact ⟨cs, _, _, hc, by decide, by decide⟩
          · have h1 := (Ho5'.out.lt b hb).2
            have h2 := (hfl b e.symm).1
            omega
        case measure => simp only [intOf]; omega
      · obtain rfl : k = N := by omega
        have hkI : ¬ (k : Int) < (k : Nat) := by omega
        go_upto_region 14 with (fail)
        obtain ⟨pf, cf, rfl⟩ := row_form Hfr.out
        obtain ⟨gf, rfl, _, _⟩ := cell_of_own Hfr.out 0 (.string (frameB (sec root) n x TL 0)) (frs_at _ _ _ _ _ _ hN0)
        have hcf := row_cap Hfr.out
        have hkT := HN.out
        have hmid : MidR w wr M q (sec root) n ((x + 1) % n) x 0 0 [] (.slice (some ⟨gt, 0, none⟩) k ct) (.slice (some ⟨gf, 0, none⟩) k cf) TL := by
          obtain ⟨_, _, _, _, _, _, _, _, _, _, _, hF, _, hE⟩ := HS.out
          have hq := group_keep HB5.out fun b hb => by
            have h := Hqp.out b hb
            exact hF.block b (HB5l.out b hb).2 h.1 h.2.1 h.2.2.1 h.2.2.2
          have hyn : (x + 1) % n < n := Nat.mod_lt _ (by omega)
          have hF' := frm_lo HA5.out hF (Nat.le_refl _) Hb05.out.size
          refine ⟨rcvR_zero hq (inv_st0 _ _ _ hr8 hyn hn16) hE, ?_, ?_, Hb05.out.trans hF'⟩
          · rw [← hkT]; exact Htx.out
          · rw [← hkT]; exact ownsRow_mono Hfr.out Hb05.out.size
        obtain ⟨y, hy⟩ : ∃ y, y = (x + 1) % n := ⟨_, rfl⟩
        have hxy : x ≠ y := by
          have hn2 : 2 ≤ n := by have := Hn.out; omega
          rw [hy]
          rcases Nat.lt_or_ge (x + 1) n with h | h
          · rw [Nat.mod_eq_of_lt h]; omega
          · have e : x + 1 = n := by omega
            rw [e, Nat.mod_self]; omega
        rw [← hy] at hmid
        have Hmid := Lib.hid hmid
        have hM0 : 0 < M := by omega
        clear hy hmid Hfr Htx HS HB5 Hqp HB5l HB1 HpM HA1 HA5 Hpair hkT
        go_loopw [18] (fun fv w2 => ∃ f : Nat, fv = .int .i64 f ∧ MidR w w2 M q (sec root) n y x (min f k) (2 * min f k) [] (.slice (some ⟨gt, 0, none⟩) k ct) (.slice (some ⟨gf, 0, none⟩) k cf) TL) (fun fv _ => k - (intOf fv).toNat)
        case atStart => exact ⟨0, rfl, by rw [Nat.zero_min]; exact Hmid.out⟩
        case round =>
          obtain ⟨f, rfl, hm⟩ := hrel
          by_cases hf : f < k
          · have hfI : (f : Int) < (k : Nat) := by omega
            have hf0 : (0 : Int) ≤ (f : Nat) := by omega
            rw [Nat.min_eq_left (by omega)] at hm
            have Hm := Lib.hid hm
            clear hm
            obtain ⟨tt, hto⟩ : ∃ tt, tt = min (f + 5) k := ⟨_, rfl⟩
            have hto1 : f < tt := by omega
            have hto2 : tt ≤ f + 5 := by omega
            have hto3 : tt ≤ k := by omega
            have Hto := Lib.hid hto
            clear hto
            by_cases hbig : k < f + 5
            all_goals
              first
                | (have hbI : ((k : Nat) : Int) < (f : Int) + 5 := by omega)
                | (have hbI : ¬ ((k : Nat) : Int) < (f : Int) + 5 := by omega)
              go_upto_region 21 with (fail)
              go_loopw [20, 21] (fun lv iv w3 => ∃ (ls : List Nat) (i : Nat), f ≤ i ∧ i ≤ tt ∧ iv = .int .i64 i ∧ Blk ls f i ∧ w3.ownsRow w.heap.size 3 1 lv ls.length (ls.map fun g : Nat => Value.int .i64 g) ∧ MidR w w3 M q (sec root) n y x f (2 * f) [] (.slice (some ⟨gt, 0, none⟩) k ct) (.slice (some ⟨gf, 0, none⟩) k cf) TL) (fun _ iv _ => tt - (intOf iv).toNat)
              case atStart => exact ⟨[], f, Nat.le_refl _, by omega, rfl, blk_nil f, World.ownsRow_nil _ _ _ _, Hm.out⟩
              case round =>
                obtain ⟨ls, i, hfi, hit, rfl, hB, hl, hm⟩ := hrel
                obtain ⟨pl, cl, rfl⟩ := row_form hl
                have HB := Lib.hid hB
                have Hl := Lib.hid hl
                have Hm3 := Lib.hid hm
                have Hlen := Lib.hid hB.len
                have hlen5 : ls.length ≤ 5 := by have := hB.len; omega
                clear hB hl hm
                by_cases hi3 : i < tt
                · have hiI1 : (i : Int) < (k : Nat) := by omega
                  have hiI2 : (i : Int) < (f : Int) + 5 := by omega
                  have hi0 : (0 : Int) ≤ (i : Nat) := by omega
                  by_cases hO : 0 < O.length
                  · obtain ⟨b4, o4, rfl, hcell⟩ := Hc4.out hO
                    obtain ⟨r, hr⟩ : ∃ r, r = i % O.length := ⟨_, rfl⟩
                    have hrO : r < O.length := by rw [hr]; exact Nat.mod_lt _ hO
                    have hrI : (i : Int) % (O.length : Nat) = (r : Nat) := by rw [hr, Int.natCast_emod]
                    have hOI : (0 : Int) < (O.length : Nat) := by omega
                    have hOn : ¬ ((O.length : Nat) : Int) = 0 := by omega
                    have hr0 : (0 : Int) ≤ (r : Nat) := by omega
                    have hrI2 : (r : Int) < (O.length : Nat) := by omega
                    obtain ⟨ov, hov⟩ : ∃ ov, ov = O.getD r 0 := ⟨_, rfl⟩
                    have hcr := hcell r hrO
                    rw [← hov] at hcr
                    obtain ⟨hcr1, hcr2, hcr3⟩ := hcr
                    have hc0 : wr.cell? ⟨b4, o4 + r, none⟩ = some (.int .i64 ov) := cell_below Hm3.out.2.2.2 hcr1
                    obtain ⟨d, hd⟩ : ∃ d, d = ls.length + 1 := ⟨_, rfl⟩
                    have hdI : ((ls.length : Nat) : Int) + 1 = (d : Nat) := by omega
                    obtain ⟨aa, haa⟩ : ∃ aa, aa = pickN ov d := ⟨_, rfl⟩
                    have haL : aa ≤ ls.length := by have := pickN_lt ov d (by omega); omega
                    have Haa := Lib.hid haa
                    have Hd := Lib.hid hd
                    clear haa hd hr hov hcell hcr1
                    go_upto_region 26 with (go_at_call 22; refine (pick_any _ ov d hcr2 hcr3 (by omega) (by omega)).mono ?_; rintro e w7 ⟨rfl, h7⟩; obtain rfl := h7.symm; rw [← Haa.out]; go_frame)
                    have HdI := Lib.hid hdI
                    have HrI := Lib.hid hrI
                    clear hdI hrI
                    have hcF := fun W => cut_front W pl ls.length cl aa (by have := row_cap Hl.out; omega)
                    have hcB := fun W => cut_back W pl ls.length cl aa (by omega)
                    go_upto_region 28 with (at_builtin; go_must (refine wpList_append_opt _ rfl _ _ 39 rfl wr.heap.size 3 m0 (.int .i64 0) 1 8 Tryz.underlying39 mi.out mz0.out mz1.out mz2.out rfl (by decide) (.slice none 0 0) 0 [] (by rfl) (World.ownsRow_nil _ _ _ _) pl aa cl ((ls.take aa).map fun g : Nat => Value.int .i64 g) (by rfl) (by rw [List.length_map, List.length_take]; omega) (fun e => by subst e; have := row_none Hl.out; omega) (fun ad e j u hu => front_cells (a := aa) Hl.out ad e j u (by rwa [← List.map_take])) (fun u hu => by obtain ⟨_, _, rfl⟩ := List.mem_map.1 hu; rfl) (by unfold maxLen; omega) (by omega) (by omega) ?_); intro v9 w9 ho9 hg9; have Ho9 := Lib.hid ho9; have Hg9 := Lib.hid hg9; clear ho9 hg9; go_frame)
                    have hb9 : Below wr.heap.size wr w9 := (Below.refl _ _).grown Hg9.out (Nat.le_refl _) (fun k e => by cases e)
                    have ho9 : w9.ownsRow wr.heap.size 3 1 v9 aa ((ls.take aa).map fun g : Nat => Value.int .i64 g) := by
                      have := Ho9.out
                      rwa [Nat.zero_add, List.nil_append] at this
                    have Hb9 := Lib.hid hb9
                    have Ho9' := Lib.hid ho9
                    clear hb9 ho9 Ho9
                    have hs9 := Hb9.out.size
                    go_upto_region 29 with (at_builtin; go_must (refine wpList_append_opt _ rfl _ _ 39 rfl wr.heap.size 3 m0 (.int .i64 0) 1 8 Tryz.underlying39 mi.out mz0.out mz1.out mz2.out rfl (by decide) v9 aa ((ls.take aa).map fun g : Nat => Value.int .i64 g) (by rfl) (Ho9'.out.alloc _) (some ⟨w9.heap.size, 0, none⟩) 1 1 [.int .i64 i] (by rfl) rfl (fun e => by cases e) (made_cells _ _ _) (fun u hu => by rw [List.mem_singleton.1 hu]; rfl) (by unfold maxLen; omega) (by omega) (by simp; omega) ?_); intro v10 w10 ho10 hg10; have Ho10 := Lib.hid ho10; have Hg10 := Lib.hid hg10; clear ho10 hg10; go_frame)
                    have hb10 : Below wr.heap.size wr w10 := (balloc Hb9.out _).grown Hg10.out (by simp; omega) (fun k e => (Ho9'.out.lt k e).1)
                    have Hb10 := Lib.hid hb10
                    clear hb10
                    have hs10 := Hb10.out.size
                    go_wp2_with (at_builtin; go_must (refine wpList_append_opt _ rfl _ _ 39 rfl wr.heap.size 3 m0 (.int .i64 0) 1 8 Tryz.underlying39 mi.out mz0.out mz1.out mz2.out rfl (by decide) v10 (aa + 1) ((ls.take aa).map (fun g : Nat => Value.int .i64 g) ++ [.int .i64 i]) (by rfl) Ho10.out (backP pl cl aa) (ls.length - aa) (cl - aa) ((ls.drop aa).map fun g : Nat => Value.int .i64 g) (by rfl) (by simp) (fun e => by have e := back_none e; subst e; have := row_none Hl.out; omega) (fun ad e j u hu => back_cells (a := aa) (ownsRow_below Hl.out Hb10.out) ad e j u (by rwa [← List.map_drop])) (fun u hu => by obtain ⟨_, _, rfl⟩ := List.mem_map.1 hu; rfl) (by unfold maxLen; omega) (by omega) (by omega) ?_); intro v11 w11 ho11 hg11; have Ho11 := Lib.hid ho11; have Hg11 := Lib.hid hg11; clear ho11 hg11; go_frame)
                    go_roundw
                    case rel =>
                      refine ⟨ls.take aa ++ i :: ls.drop aa, i + 1, by omega, by omega, by simp, blk_ins HB.out hfi aa, ?_, mid_below Hm3.out (Hb10.out.grown Hg11.out hs10 fun k e => (Ho10.out.lt k e).1)⟩
                      have e1 : aa + 1 + (ls.length - aa) = (ls.take aa ++ i :: ls.drop aa).length := by simp; omega
                      have e2 : (ls.take aa).map (fun g : Nat => Value.int .i64 g) ++ [.int .i64 i] ++ (ls.drop aa).map (fun g : Nat => Value.int .i64 g) = (ls.take aa ++ i :: ls.drop aa).map fun g : Nat => Value.int .i64 g := by simp
                      have h := ownsRow_mono Ho11.out Hm3.out.2.2.2.size
                      rw [e1, e2] at h
                      exact h
                    case measure => simp only [intOf]; omega
                  · have hOI : ¬ (0 : Int) < (O.length : Nat) := by omega
                    go_upto_region 26 with (fail)
                    have hcF : ∀ W, (Instr.sliceAt 39 (.slice pl ls.length cl) none (some (.int .i64 0)) none).run Tryz.prog W = .ok (.slice pl 0 cl) W := fun W => cut_front W pl ls.length cl 0 (by omega)
                    have hcB : ∀ W, (Instr.sliceAt 39 (.slice pl ls.length cl) (some (.int .i64 0)) none none).run Tryz.prog W = .ok (.slice (backP pl cl 0) ls.length cl) W := fun W => cut_back W pl ls.length cl 0 (by omega)
                    go_upto_region 28 with (at_builtin; go_must (refine wpList_append_opt _ rfl _ _ 39 rfl wr.heap.size 3 m0 (.int .i64 0) 1 8 Tryz.underlying39 mi.out mz0.out mz1.out mz2.out rfl (by decide) (.slice none 0 0) 0 [] (by rfl) (World.ownsRow_nil _ _ _ _) pl 0 cl ((ls.take 0).map fun g : Nat => Value.int .i64 g) (by rfl) (by rw [List.length_map, List.length_take]; omega) (fun e => by subst e; have := row_none Hl.out; omega) (fun ad e j u hu => front_cells (a := 0) Hl.out ad e j u (by rwa [← List.map_take])) (fun u hu => by obtain ⟨_, _, rfl⟩ := List.mem_map.1 hu; rfl) (by unfold maxLen; omega) (by omega) (by omega) ?_); intro v9 w9 ho9 hg9; have Ho9 := Lib.hid ho9; have Hg9 := Lib.hid hg9; clear ho9 hg9; go_frame)
                    have hb9 : Below wr.heap.size wr w9 := (Below.refl _ _).grown Hg9.out (Nat.le_refl _) (fun k e => by cases e)
                    have ho9 : w9.ownsRow wr.heap.size 3 1 v9 0 ((ls.take 0).map fun g : Nat => Value.int .i64 g) := by
                      have := Ho9.out
                      rwa [Nat.zero_add, List.nil_append] at this
                    have Hb9 := Lib.hid hb9
                    have Ho9' := Lib.hid ho9
                    clear hb9 ho9 Ho9
                    have hs9 := Hb9.out.size
                    go_upto_region 29 with (at_builtin; go_must (refine wpList_append_opt _ rfl _ _ 39 rfl wr.heap.size 3 m0 (.int .i64 0) 1 8 Tryz.underlying39 mi.out mz0.out mz1.out mz2.out rfl (by decide) v9 0 ((ls.take 0).map fun g : Nat => Value.int .i64 g) (by rfl) (Ho9'.out.alloc _) (some ⟨w9.heap.size, 0, none⟩) 1 1 [.int .i64 i] (by rfl) rfl (fun e => by cases e) (made_cells _ _ _) (fun u hu => by rw [List.mem_singleton.1 hu]; rfl) (by unfold maxLen; omega) (by omega) (by simp; omega) ?_); intro v10 w10 ho10 hg10; have Ho10 := Lib.hid ho10; have Hg10 := Lib.hid hg10; clear ho10 hg10; go_frame)
                    have hb10 : Below wr.heap.size wr w10 := (balloc Hb9.out _).grown Hg10.out (by simp; omega) (fun k e => (Ho9'.out.lt k e).1)
                    have Hb10 := Lib.hid hb10
                    clear hb10
                    have hs10 := Hb10.out.size
                    go_wp2_with (at_builtin; go_must (refine wpList_append_opt _ rfl _ _ 39 rfl wr.heap.size 3 m0 (.int .i64 0) 1 8 Tryz.underlying39 mi.out mz0.out mz1.out mz2.out rfl (by decide) v10 (0 + 1) ((ls.take 0).map (fun g : Nat => Value.int .i64 g) ++ [.int .i64 i]) (by rfl) Ho10.out (backP pl cl 0) (ls.length - 0) (cl - 0) ((ls.drop 0).map fun g : Nat => Value.int .i64 g) (by rfl) (by simp) (fun e => by have e := back_none e; subst e; have := row_none Hl.out; omega) (fun ad e j u hu => back_cells (a := 0) (ownsRow_below Hl.out Hb10.out) ad e j u (by rwa [← List.map_drop])) (fun u hu => by obtain ⟨_, _, rfl⟩ := List.mem_map.1 hu; rfl) (by unfold maxLen; omega) (by omega) (by omega) ?_); intro v11 w11 ho11 hg11; have Ho11 := Lib.hid ho11; have Hg11 := Lib.hid hg11; clear ho11 hg11; go_frame)
                    go_roundw
                    case rel =>
                      refine ⟨ls.take 0 ++ i :: ls.drop 0, i + 1, by omega, by omega, by simp, blk_ins HB.out hfi 0, ?_, mid_below Hm3.out (Hb10.out.grown Hg11.out hs10 fun k e => (Ho10.out.lt k e).1)⟩
                      have e1 : 0 + 1 + (ls.length - 0) = (ls.take 0 ++ i :: ls.drop 0).length := by simp; omega
                      have e2 : (ls.take 0).map (fun g : Nat => Value.int .i64 g) ++ [.int .i64 i] ++ (ls.drop 0).map (fun g : Nat => Value.int .i64 g) = (ls.take 0 ++ i :: ls.drop 0).map fun g : Nat => Value.int .i64 g := by simp
                      have h := ownsRow_mono Ho11.out Hm3.out.2.2.2.size
                      rw [e1, e2] at h
                      exact h
                    case measure => simp only [intOf]; omega
                · obtain rfl : i = tt := by omega
                  first
                    | (have hxI : ¬ ((i : Nat) : Int) < (k : Nat) := by have := Hto.out; omega)
                    | (have hxI : ¬ ((i : Nat) : Int) < (f : Int) + 5 := by have := Hto.out; omega)
                  go_upto_region 32 with (fail)
                  go_loopw [24] (fun kv w4 => ∃ k4 : Nat, k4 ≤ ls.length ∧ kv = .int .i64 k4 ∧ w4.ownsRow w.heap.size 3 1 (.slice pl ls.length cl) ls.length (ls.map fun g : Nat => Value.int .i64 g) ∧ MidR w w4 M q (sec root) n y x f (2 * (f + k4)) (ls.take k4) (.slice (some ⟨gt, 0, none⟩) k ct) (.slice (some ⟨gf, 0, none⟩) k cf) TL) (fun kv _ => ls.length - (intOf kv).toNat)
                  case atStart => exact ⟨0, Nat.zero_le _, rfl, Hl.out, Hm3.out⟩
                  case round =>
                    obtain ⟨k4, hk4, rfl, hl4, hm4⟩ := hrel
                    have Hl4 := Lib.hid hl4
                    have Hm4 := Lib.hid hm4
                    clear hl4 hm4
                    by_cases hkl : k4 < ls.length
                    · have hk4I : (k4 : Int) < (ls.length : Nat) := by omega
                      have hk40 : (0 : Int) ≤ (k4 : Nat) := by omega
                      obtain ⟨g, hg⟩ : ∃ g, g = ls.getD k4 0 := ⟨_, rfl⟩
                      obtain ⟨b1, b2, b3, b4⟩ := blk_take HB.out k4 hkl
                      rw [← hg] at b1 b2 b3 b4
                      have hcl4 : ∃ gl, pl = some ⟨gl, 0, none⟩ ∧ wr.cell? ⟨gl, k4, none⟩ = some (.int .i64 g) ∧ ls.length ≤ cl := cell_of_own Hl4.out k4 (.int .i64 g) (by simp [hg, hkl])
                      obtain ⟨gl, rfl, hcl, hcl2⟩ := hcl4
                      have hgN : g < k := by omega
                      have hgI : (g : Int) < (k : Nat) := by omega
                      have hg0 : (0 : Int) ≤ (g : Nat) := by omega
                      have hkT := HN.out
                      obtain ⟨fb, hfb⟩ : ∃ fb, fb = frameB (sec root) n x TL g := ⟨_, rfl⟩
                      obtain ⟨_, hmt, hmf, _⟩ := Hm4.out
                      rw [← hkT] at hmt hmf
                      have hcf4 : wr.cell? ⟨gf, g, none⟩ = some (.string fb) := by
                        obtain ⟨g', e1, e2, _⟩ := cell_of_own hmf g (.string fb) (by rw [hfb]; exact frs_at _ _ _ _ _ _ hgN)
                        cases e1; exact e2
                      have hgood := mid_good w wr M n y x f (2 * (f + k4)) g q (sec root) (ls.take k4) (ls.take (k4 + 1)) _ _ TL Hm4.out hM hM0 hq0 hxn hxy (by omega) b2 (by omega) b1 b4 (by omega)
                      rw [← hfb] at hgood
                      obtain ⟨cp, V, hcv, hcall⟩ := hgood
                      have Hcall := Lib.hid hcall
                      have Hg := Lib.hid hg
                      have Hfb := Lib.hid hfb
                      have B1 := Lib.hid b1
                      have B4 := Lib.hid b4
                      clear hcall hg hfb b1 b4 hmt hmf hkT
                      go_upto_region 36 with (go_at_call 16; refine Hcall.out.mono ?_; rintro e w6 ⟨p6, c6, rfl, hrd6, hm6, hst6, hsz6⟩; have Hrd6 := Lib.hid hrd6; have Hm6 := Lib.hid hm6; have Hst6 := Lib.hid hst6; clear hrd6 hm6 hst6; go_frame)
                      generalize hY : World.alloc _ _ = Y
                      have hYb : Below w6.heap.size w6 Y := by rw [← hY]; exact balloc (Below.refl _ _) _
                      have hYM : Y.heap[w6.heap.size]? = some (.cells #[.int .i64 x, .int .i64 g, .slice p6 (textB TL g).length c6] 33 (0, 0)) := by rw [← hY]; exact heap_alloc_new _ _
                      have y0 : Y.cell? ⟨w6.heap.size, 0, none⟩ = some (.int .i64 x) := cell_of_row _ _ _ _ _ _ hYM
                      have y1 : Y.cell? ⟨w6.heap.size, 1, none⟩ = some (.int .i64 g) := cell_of_row _ _ _ _ _ _ hYM
                      have y2 : Y.cell? ⟨w6.heap.size, 2, none⟩ = some (.slice p6 (textB TL g).length c6) := cell_of_row _ _ _ _ _ _ hYM
                      obtain ⟨tb, htb⟩ : ∃ tb : ByteArray, tb = ⟨(textB TL g).toArray⟩ := ⟨_, rfl⟩
                      obtain ⟨tg, htg⟩ : ∃ tg, tg = TL.getD g ByteArray.empty := ⟨_, rfl⟩
                      have htt : (⟨(textL tg.data.toList).toArray⟩ : ByteArray) = tb := by rw [htb, htg]; rfl
                      have hmY := mid_below Hm6.out hYb.drew
                      obtain ⟨_, hmt, hmf, _⟩ := id hmY
                      rw [← HN.out] at hmt hmf
                      have y3 : Y.cell? ⟨gt, g, none⟩ = some (.string tg) := by
                        obtain ⟨g', e1, e2, _⟩ := cell_of_own hmt g (.string tg) (by rw [htg]; exact strV_at TL g (by have := HN.out; omega))
                        cases e1; exact e2
                      have y4 : Y.cell? ⟨gf, g, none⟩ = some (.string fb) := by
                        obtain ⟨g', e1, e2, _⟩ := cell_of_own hmf g (.string fb) (by rw [Hfb.out]; exact frs_at _ _ _ _ _ _ hgN)
                        cases e1; exact e2
                      have hcsD : (convert 25 9 (.slice p6 (textB TL g).length c6)).run Tryz.prog Y.drew = .ok (.string tb) Y.drew := by
                        rw [htb]; exact conv_str Y.drew p6 c6 (textB TL g) (Hrd6.out.below hYb.drew)
                      have hbad := mid_bad w Y.drew M n y x f (2 * (f + k4) + 1) g q (sec root) (ls.take (k4 + 1)) _ _ TL hmY hM hM0 hq0 hxn hxy (by omega) (.inr ((B4.out g).2 (.inl rfl))) (by omega)
                      rw [← Hfb.out] at hbad
                      obtain ⟨cp2, V2, hcv2, hcall2⟩ := hbad
                      have Hcall2 := Lib.hid hcall2
                      have Htt := Lib.hid htt
                      have HYb := Lib.hid hYb
                      clear hcall2 htt hYb hY hYM htb htg hmY hmt hmf
                      go_region_held3 (fun w' => w'.cell? ⟨w6.heap.size, 0, none⟩ = some (.int .i64 x) ∧ w'.cell? ⟨w6.heap.size, 1, none⟩ = some (.int .i64 g) ∧ w'.cell? ⟨w6.heap.size, 2, none⟩ = some (.slice p6 (textB TL g).length c6) ∧ w'.cell? ⟨gt, g, none⟩ = some (.string tg) ∧ (convert 25 9 (.slice p6 (textB TL g).length c6)).run Tryz.prog w' = .ok (.string tb) w') (refine ⟨?_, ?_, ?_, ?_, ?_⟩ <;> (first | with_reducible assumption | (simp only [World.cell?_drew]; with_reducible assumption))) (first | (go_at_call 13; refine (text_any _ tg).mono ?_; rintro e w12 ⟨rfl, rfl⟩; rw [Htt.out]))
                      all_goals
                        go_upto_region 39 with (go_at_call 16; refine Hcall2.out.mono ?_; rintro e w7 ⟨rfl, hm7, hst7, hsz7⟩; have Hm7 := Lib.hid hm7; have Hst7 := Lib.hid hst7; clear hm7 hst7; go_frame)
                        go_wp2_with fail
                        go_roundw
                        case rel =>
                          refine ⟨k4 + 1, by omega, by simp, Hst7.out.own (ownsRow_below (Hst6.out.own Hl4.out (by decide) (by decide)) HYb.out.drew) (by decide) (by decide), ?_⟩
                          have e : 2 * (f + (k4 + 1)) = 2 * (f + k4) + 1 + 1 := by omega
                          rw [e]
                          exact Hm7.out
                        case measure => simp only [intOf]; omega
                    · have hk4x : ¬ (k4 : Int) < (ls.length : Nat) := by omega
                      go_wp2_with fail
                      go_roundw
                      case rel =>
                        have e4 : k4 = ls.length := by omega
                        have hlen := Hlen.out
                        have hm := mid_next Hm4.out hfi (fun z => by rw [e4, List.take_length]; exact HB.out.mem z)
                        refine ⟨f + 5, by simp, ?_⟩
                        rw [← Hto.out]
                        have e : 2 * (f + k4) = 2 * i := by omega
                        rw [e] at hm
                        exact hm
                      case measure => simp only [intOf]; omega
          · have hfx : ¬ (f : Int) < (k : Nat) := by omega
            rw [Nat.min_eq_right (by omega)] at hm
            have Hm := Lib.hid hm
            clear hm
            go_upto_region 42 with (fail)
            go_loopw [28] (fun iv w6 => ∃ i : Nat, i ≤ k ∧ iv = .int .i64 i ∧ MidR w w6 M q (sec root) n y x k (2 * k + i) [] (.slice (some ⟨gt, 0, none⟩) k ct) (.slice (some ⟨gf, 0, none⟩) k cf) TL) (fun iv _ => k - (intOf iv).toNat)
            case atStart => exact ⟨0, Nat.zero_le _, rfl, Hm.out⟩
            case round =>
              obtain ⟨i, hik, rfl, hm5⟩ := hrel
              have Hm5 := Lib.hid hm5
              clear hm5
              by_cases hi5 : i < k
              · have hi5I : (i : Int) < (k : Nat) := by omega
                have hi50 : (0 : Int) ≤ (i : Nat) := by omega
                obtain ⟨fb, hfb⟩ : ∃ fb, fb = frameB (sec root) n x TL i := ⟨_, rfl⟩
                obtain ⟨_, _, hmf, _⟩ := Hm5.out
                rw [← HN.out] at hmf
                have hcf5 : wr.cell? ⟨gf, i, none⟩ = some (.string fb) := by
                  obtain ⟨g', e1, e2, _⟩ := cell_of_own hmf i (.string fb) (by rw [hfb]; exact frs_at _ _ _ _ _ _ hi5)
                  cases e1; exact e2
                have hbad := mid_bad w wr M n y x k (2 * k + i) i q (sec root) [] _ _ TL Hm5.out hM hM0 hq0 hxn hxy (by omega) (.inl hi5) (by omega)
                rw [← hfb] at hbad
                obtain ⟨cp, V, hcv, hcall⟩ := hbad
                have Hcall := Lib.hid hcall
                clear hcall hfb hmf
                go_upto_region 45 with (go_at_call 16; refine Hcall.out.mono ?_; rintro e w7 ⟨rfl, hm7, hst7, hsz7⟩; have Hm7 := Lib.hid hm7; clear hm7 hst7; unfold msg0; go_frame)
                go_wp2_with fail
                go_roundw
                case rel => exact ⟨i + 1, by omega, by simp, mid_below Hm7.out (balloc (Below.refl _ _) _)⟩
                case measure => simp only [intOf]; omega
              · have hi5x : ¬ (i : Int) < (k : Nat) := by omega
                go_wp2_with fail
                go_ret
                exact ⟨rfl, Hm5.out.2.2.2⟩
end Go.Proofs.YtccidllcjaaeeaaGreatDoor
