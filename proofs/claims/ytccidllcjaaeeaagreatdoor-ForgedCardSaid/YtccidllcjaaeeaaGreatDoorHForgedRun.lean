/- Any bytes at a receiver: what opens, what does not, what is kept then. Conditions: stated in each. -/
import Derived.Test.YtccidllcjaaeeaaGreatDoorHSame
namespace Go.Proofs.YtccidllcjaaeeaaGreatDoor
set_option maxRecDepth 100000
open Go Go.Maps Go.RowKit
open Go.Shelf Go.Lib Go.Sort Go.MuLone
set_option maxHeartbeats 4000000 in
theorem unprotect_long (w : World) (lo t n : Nat) (p : GPl) (s : GSt) (pt : Option Addr) (cap : Nat) (hA : GroupAt w lo p s t) (hc : s.closed = false) (hn : 47 < n) (hb : n ≤ 9223372036854775807) :
    Calls Tryz.prog 34 #[.pointer (some ⟨p.G, 0, none⟩), .slice pt n cap] w fun e w' => e = .returned (.tuple #[msg0, .iface 130 (.agg #[.int .i64 3])]) ∧ Below w.heap.size w w' := by
  obtain ⟨hG, _⟩ := hA
  have hGs := (Array.getElem?_eq_some_iff.1 hG).1
  obtain ⟨W, hW⟩ : ∃ W, W = w.alloc (.cells #[.int .i64 0, .int .i64 0, .slice none 0 0] 33) := ⟨_, rfl⟩
  have hb' : Below w.heap.size w W := by rw [hW]; exact balloc (Below.refl _ _) _
  have hWG : W.heap[p.G]? = some (.cells (gcells p s) 85 (0, 0)) := (hb'.block _ hGs).trans hG
  obtain ⟨_, c5, _, c7, c8, _, _, _⟩ := g_cells hWG
  have hWM : W.heap[w.heap.size]? = some (.cells #[.int .i64 0, .int .i64 0, .slice none 0 0] 33 (0, 0)) := by rw [hW]; exact heap_alloc_new _ _
  have s0 : W.cell? ⟨w.heap.size, 0, none⟩ = some (.int .i64 0) := cell_of_row _ _ _ _ _ _ hWM
  have s1 : W.cell? ⟨w.heap.size, 1, none⟩ = some (.int .i64 0) := cell_of_row _ _ _ _ _ _ hWM
  have s2 : W.cell? ⟨w.heap.size, 2, none⟩ = some (.slice none 0 0) := cell_of_row _ _ _ _ _ _ hWM
  have f0 := frozen_of_row _ _ 0 _ _ hWM
  have f1 := frozen_of_row _ _ 1 _ _ hWM
  have f2 := frozen_of_row _ _ 2 _ _ hWM
  have HW := Lib.hid hW
  have Hb := Lib.hid hb'
  have HWM := Lib.hid hWM
  clear hG hWG hW hb' hWM
  rw [hc] at c5
  have d7 : decide ((n : Int) < 7) = false := by simp; omega
  have d47 : decide ((47 : Int) < n) = true := by simp; omega
  go_enter Tryz.func34, Tryz.ntmps34
  go_upto_region 1 with (fail)
  rw [← HW.out]
  go_upto_region 3 with (fail)
  go_quiet (fail)
  go_wp2_with fail
  rw [msg_store (X := W.drewN _) HWM.out]
  refine bodyPost_ret (results_ct rfl _ (W.drewN _) w.heap.size _ _ _ _ rfl HWM.out Tryz.underlying33 rfl (by rw [infoMsg]; rfl)) rfl ⟨rfl, bdrewN Hb.out _⟩
theorem Unprotect_long (w : World) (lo t n cap : Nat) (p : GPl) (s : GSt) (pt : Option Addr) (hA : GroupAt w lo p s t) (hmu : p.mu = 0) (hlo : 0 < lo) (hEG : EG w) (hc : s.closed = false) (hn : 47 < n) (hb : n ≤ 9223372036854775807) :
    Calls Tryz.prog 16 #[.pointer (some ⟨p.G, 0, none⟩), .slice pt n cap] w fun e w' => e = .returned (.tuple #[msg0, .int .i64 3]) ∧ GroupAt w' lo p s t ∧ Frm w w' p := by
  have hL := msgW_group hA
  have hin := unprotect_long (msgW w p) lo t n { p with mu := 1 } s pt cap hL hc hn hb
  refine (Unprotect_any w lo t n cap p s pt hA hmu hlo hEG (fun w1 i j a k c' co => (i = 0 ∧ j = 0 ∧ a = none ∧ k = 0 ∧ c' = 0) ∧ co = 3 ∧ Below (msgW w p).heap.size (msgW w p) w1) (hin.mono ?_)).mono ?_
  · rintro e w1 ⟨rfl, hb⟩
    exact ⟨0, 0, none, 0, 0, _, 3, rfl, .fault 3, Frm.of_below hb, ⟨lo, _, s, t, group_below hL hb, rfl, rfl⟩, ⟨rfl, rfl, rfl, rfl, rfl⟩, rfl, hb⟩
  · rintro e w' ⟨i, j, a, k, c', co, w1, w2, rfl, ⟨⟨rfl, rfl, rfl, rfl, rfl⟩, rfl, hb⟩, hF, hg, rfl⟩
    refine ⟨rfl, ?_, back_frm hF hg⟩
    have h1 := back_unlock (group_below hL hb) hg (fun b hb => by have := (group_lt hA b hb).2; omega)
    rw [p_mu hmu] at h1
    exact h1
theorem openC_ne {s : GSt} {m g : Nat} {h sl : List UInt8} {c : Int} (e : openC s m g h sl = some c) : c ≠ 0 := by
  unfold openC at e
  split at e
  · split at e
    · split at e
      · cases e
      · cases e; decide
    · cases e; decide
  · split at e
    · cases e; decide
    · split at e
      · cases e
      · cases e; decide
theorem unprotNo_ne {s : GSt} {l : List UInt8} {c : Int} (e : unprotNo s l = some c) : c ≠ 0 := by
  unfold unprotNo at e
  split at e
  · cases e; decide
  · split at e
    · split at e
      · cases e; decide
      · split at e
        · cases e; decide
        · cases e
    · cases e; decide
/-- Any bytes at an open group. -/
theorem un_any (w : World) (lo t cap : Nat) (p : GPl) (s : GSt) (pt : Option Addr) (l : List UInt8) (hA : GroupAt w lo p s t) (hmu : p.mu = 0) (hlo : 0 < lo) (hEG : EG w) (hI : GInv s) (hc : s.closed = false) (hb0 : 0 ≤ s.cnt) (hb1 : s.cnt ≤ 4611686010000000000) (ht : t < 1000000000000)
    (hl : l.length ≤ 9223372036854775807) (hcap : l.length ≤ cap) (hs : pt ≠ none → ∃ b o, pt = some ⟨b, o, none⟩) (hr : Rd w pt l) (hap : ∀ b o, pt = some ⟨b, o, none⟩ → 0 < l.length → b < w.heap.size ∧ Apart p b) :
    Calls Tryz.prog 16 #[.pointer (some ⟨p.G, 0, none⟩), .slice pt l.length cap] w fun e w' => ∃ (co i j : Int) (a : Option Addr) (k c : Nat), e = .returned (.tuple #[.agg #[.int .i64 i, .int .i64 j, .slice a k c], .int .i64 co]) ∧ Frm w w' p ∧
      ∃ c' : Int, 0 ≤ c' ∧ c' ≤ s.cnt + 200 ∧ ((co ≠ 0 ∧ (i = 0 ∧ j = 0 ∧ a = none ∧ k = 0 ∧ c = 0) ∧ GroupAt w' lo p { s with cnt := c' } t) ∨ (co = 0 ∧ ∃ m g T', g ≤ 65535 ∧ GroupAt w' lo { p with T := T' } (openN s m g c') (t + 5))) := by
  by_cases h47 : 47 < l.length
  · refine (Unprotect_long w lo t l.length cap p s pt hA hmu hlo hEG hc h47 hl).mono ?_
    rintro e w' ⟨rfl, hA', hF⟩
    exact ⟨3, 0, 0, none, 0, 0, rfl, hF, s.cnt, hb0, by omega, .inl ⟨by decide, ⟨rfl, rfl, rfl, rfl, rfl⟩, hA'⟩⟩
  · cases hu : unprotNo s l with
    | some c =>
      refine (Unprotect_no w lo t cap p s pt l c hA hmu hlo hEG hI (by omega) hs hr hap hu).mono ?_
      rintro e w' ⟨rfl, hA', hF⟩
      exact ⟨c, 0, 0, none, 0, 0, rfl, hF, s.cnt, hb0, by omega, .inl ⟨unprotNo_ne hu, ⟨rfl, rfl, rfl, rfl, rfl⟩, hA'⟩⟩
    | none =>
      unfold unprotNo at hu
      rw [if_neg (by rw [hc]; simp)] at hu
      match l, hu, hl, hcap, hr, hap, h47 with
      | x0 :: tl, hu, hl, hcap, hr, hap, h47 =>
        simp only at hu
        split at hu
        · cases hu
        · rename_i hno
          split at hu
          · cases hu
          · rename_i hown
            match tl, hno, hcap, hr, hap, h47 with
            | x1 :: x2 :: sl, hno, hcap, hr, hap, h47 =>
              have hpt : pt ≠ none := fun e => by
                obtain ⟨b, o, e2, _⟩ := hr (by simp)
                rw [e] at e2; cases e2
              obtain ⟨b, o, rfl⟩ := hs hpt
              have hlen : (x0 :: x1 :: x2 :: sl).length = sl.length + 3 := by simp
              have hx1 := x1.toNat_lt
              have hx2 := x2.toNat_lt
              have hd := depthF_le 16 s.n x0.toNat
              refine (Unprotect_go w lo t x0.toNat x1.toNat x2.toNat p s b o cap (x0 :: x1 :: x2 :: sl).length x0 x1 x2 sl hA hmu hlo hEG hI hc rfl rfl rfl (by omega) hown hlen (by omega) (by omega) hcap hb0 hb1 ht hr (hap b o rfl (by simp))).mono ?_
              rintro e w' ⟨c', hc1, hc2, hO⟩
              cases ho : openC s x0.toNat (256 * x1.toNat + x2.toNat) [x0, x1, x2] sl with
              | none =>
                rw [ho] at hO
                obtain ⟨r, rfl, hor, T', hA', hF, _⟩ := hO
                obtain ⟨a, k, rfl⟩ := row_form hor
                exact ⟨0, _, _, a, _, k, rfl, hF, c', by omega, by omega, .inr ⟨rfl, x0.toNat, _, T', by omega, hA'⟩⟩
              | some c =>
                rw [ho] at hO
                obtain ⟨rfl, hA', hF⟩ := hO
                exact ⟨c, 0, 0, none, 0, 0, rfl, hF, c', by omega, by omega, .inl ⟨openC_ne ho, ⟨rfl, rfl, rfl, rfl, rfl⟩, hA'⟩⟩
            | [], hno, _, _, _, _ => exact absurd (Or.inl (by simp)) hno
            | [x1], hno, _, _, _, _ => exact absurd (Or.inl (by simp)) hno
/-- A receiver that is open, behind u calls. -/
def RG (w : World) (lo : Nat) (q : GPl) (u : Nat) : Prop :=
  ∃ (s : GSt) (T : Value), s.closed = false ∧ GInv s ∧ 0 ≤ s.cnt ∧ s.cnt ≤ 200 * u ∧ GroupAt w lo { q with T := T } s (5 * u) ∧ EG w
/-- A receiver that has opened nothing, behind u calls. -/
def RZ (w : World) (lo : Nat) (q : GPl) (rt : List UInt8) (n y u : Nat) : Prop :=
  ∃ c : Int, 0 ≤ c ∧ c ≤ 200 * u ∧ GroupAt w lo q { st0 rt n y with cnt := c } 0 ∧ GInv (st0 rt n y) ∧ EG w
theorem rz_rg {w : World} {lo n y u : Nat} {q : GPl} {rt : List UInt8} (h : RZ w lo q rt n y u) : RG w lo q u := by
  obtain ⟨c, h1, h2, h3, h4, h5⟩ := h
  exact ⟨_, q.T, rfl, inv_cnt h4 c, h1, h2, group_more h3 (Nat.zero_le _), h5⟩
theorem rz_below {w w' : World} {lo n y u : Nat} {q : GPl} {rt : List UInt8} (h : RZ w lo q rt n y u) (hb : Below w.heap.size w w') : RZ w' lo q rt n y u := by
  obtain ⟨c, h1, h2, h3, h4, h5⟩ := h
  exact ⟨c, h1, h2, group_below h3 hb, h4, h5.below hb⟩
theorem rg_below {w w' : World} {lo u : Nat} {q : GPl} (h : RG w lo q u) (hb : Below w.heap.size w w') : RG w' lo q u := by
  obtain ⟨s, T, h1, h2, h3, h4, h5, h6⟩ := h
  exact ⟨s, T, h1, h2, h3, h4, group_below h5 hb, h6.below hb⟩
/-- What is asked of a slice of bytes at a receiver: it reads; its block holds bytes. -/
def ByteSl (w : World) (pt : Option Addr) (l : List UInt8) (cap : Nat) : Prop :=
  l.length ≤ 9223372036854775807 ∧ l.length ≤ cap ∧ (pt ≠ none → ∃ b o, pt = some ⟨b, o, none⟩) ∧ Rd w pt l ∧ ∀ b o, pt = some ⟨b, o, none⟩ → 0 < l.length → ∃ cs fr, w.heap[b]? = some (.cells cs 5 fr)
theorem rg_any (w : World) (lo u cap : Nat) (q : GPl) (pt : Option Addr) (l : List UInt8) (h : RG w lo q u) (hmu : q.mu = 0) (hlo : 0 < lo) (hls : lo ≤ w.heap.size) (hu : u ≤ 1000) (hb : ByteSl w pt l cap) :
    Calls Tryz.prog 16 #[.pointer (some ⟨q.G, 0, none⟩), .slice pt l.length cap] w fun e w' => ∃ (co i j : Int) (a : Option Addr) (k c : Nat), e = .returned (.tuple #[.agg #[.int .i64 i, .int .i64 j, .slice a k c], .int .i64 co]) ∧
      RG w' lo q (u + 1) ∧ Below lo w w' ∧ Stay w w' ∧ (co = 0 ∨ (co ≠ 0 ∧ k = 0)) := by
  obtain ⟨s, T, h1, h2, h3, h4, h5, h6⟩ := h
  obtain ⟨b1, b2, b3, b4, b5⟩ := hb
  refine (un_any w lo (5 * u) cap { q with T := T } s pt l h5 hmu hlo h6 h2 h1 h3 (by omega) (by omega) b1 b2 b3 b4 (fun b o e hp => by
    obtain ⟨cs, fr, hc⟩ := b5 b o e hp
    exact ⟨(Array.getElem?_eq_some_iff.1 hc).1, group_apart h5 hc (by decide) (by decide)⟩)).mono ?_
  rintro e w' ⟨co, i, j, a, k, c, rfl, hF, c', hc1, hc2, ho⟩
  have hE := eg_frm h6 h5 hlo hF
  rcases ho with ⟨hco, ⟨rfl, rfl, rfl, rfl, rfl⟩, hA'⟩ | ⟨rfl, m, g, T', hg, hA'⟩
  · exact ⟨co, 0, 0, none, 0, 0, rfl, ⟨{ s with cnt := c' }, T, h1, inv_cnt h2 c', hc1, by show c' ≤ _; omega, group_more hA' (by omega), hE⟩, frm_lo h5 hF (Nat.le_refl _) hls, frm_stay h5 hF, .inr ⟨hco, rfl⟩⟩
  · have hN := openN_own s m g c'
    exact ⟨0, i, j, a, k, c, rfl, ⟨_, T', hN.2.2.2.1.trans h1, inv_openN h2 m g c' hg, by rw [hN.2.2.2.2]; omega, by rw [hN.2.2.2.2]; omega, group_more hA' (by omega), hE⟩, frm_lo h5 hF (Nat.le_refl _) hls, frm_stay h5 hF, .inl rfl⟩
theorem rz_any (w : World) (lo n y u cap : Nat) (q : GPl) (rt : List UInt8) (pt : Option Addr) (l : List UInt8) (h : RZ w lo q rt n y u) (hmu : q.mu = 0) (hlo : 0 < lo) (hls : lo ≤ w.heap.size) (hu : u ≤ 1000) (hb : ByteSl w pt l cap) :
    Calls Tryz.prog 16 #[.pointer (some ⟨q.G, 0, none⟩), .slice pt l.length cap] w fun e w' => ∃ (co i j : Int) (a : Option Addr) (k c : Nat), e = .returned (.tuple #[.agg #[.int .i64 i, .int .i64 j, .slice a k c], .int .i64 co]) ∧
      Below lo w w' ∧ Stay w w' ∧ ((co = 0 ∧ RG w' lo q (u + 1)) ∨ (co ≠ 0 ∧ k = 0 ∧ RZ w' lo q rt n y (u + 1))) := by
  obtain ⟨c0, h1, h2, h3, h4, h5⟩ := h
  obtain ⟨b1, b2, b3, b4, b5⟩ := hb
  refine (un_any w lo 0 cap q { st0 rt n y with cnt := c0 } pt l h3 hmu hlo h5 (inv_cnt h4 c0) rfl h1 (by show c0 ≤ _; omega) (by omega) b1 b2 b3 b4 (fun b o e hp => by
    obtain ⟨cs, fr, hc⟩ := b5 b o e hp
    exact ⟨(Array.getElem?_eq_some_iff.1 hc).1, group_apart h3 hc (by decide) (by decide)⟩)).mono ?_
  rintro e w' ⟨co, i, j, a, k, c, rfl, hF, c', hc1, hc2, ho⟩
  have hE := eg_frm h5 h3 hlo hF
  have hc2' : c' ≤ c0 + 200 := hc2
  rcases ho with ⟨hco, ⟨rfl, rfl, rfl, rfl, rfl⟩, hA'⟩ | ⟨rfl, m, g, T', hg, hA'⟩
  · exact ⟨co, 0, 0, none, 0, 0, rfl, frm_lo h3 hF (Nat.le_refl _) hls, frm_stay h3 hF, .inr ⟨hco, rfl, c', hc1, by omega, hA', h4, hE⟩⟩
  · have hN := openN_own { st0 rt n y with cnt := c0 } m g c'
    exact ⟨0, i, j, a, k, c, rfl, frm_lo h3 hF (Nat.le_refl _) hls, frm_stay h3 hF, .inl ⟨rfl, _, T', hN.2.2.2.1, inv_openN (inv_cnt h4 c0) m g c' hg, by rw [hN.2.2.2.2]; omega, by rw [hN.2.2.2.2]; omega, group_more hA' (by omega), hE⟩⟩
theorem rg_dump (w : World) (lo u : Nat) (q : GPl) (h : RG w lo q u) (hmu : q.mu = 0) (hlo : 0 < lo) (hls : lo ≤ w.heap.size) (hu : u ≤ 1000) :
    ∃ D : List DItem, (∀ d ∈ D, d.s.length = 8) ∧ Calls Tryz.prog 17 #[.pointer (some ⟨q.G, 0, none⟩)] w fun e w' => ∃ v, e = .returned v ∧ w'.ownsRow w.heap.size 50 12 v D.length (itemsV D) ∧ RG w' lo q u ∧ Below lo w w' ∧ Stay w w' := by
  obtain ⟨s, T, h1, h2, h3, h4, h5, h6⟩ := h
  refine ⟨dumpL s, dump_len8 h2, (Dump_open w lo (5 * u) { q with T := T } s h5 h2 hmu h1 (by omega)).mono ?_⟩
  rintro e w' ⟨v, rfl, ho, hA', hF⟩
  exact ⟨v, rfl, ho, ⟨s, T, h1, h2, h3, h4, hA', eg_frm h6 h5 hlo hF⟩, frm_lo h5 hF (Nat.le_refl _) hls, frm_stay h5 hF⟩
theorem kepts_nil0 {s : GSt} (h : ∀ m, (s.M m).over = []) : keptsL s = [] := by
  unfold keptsL
  rw [List.flatMap_eq_nil_iff]
  intro m _
  rw [h m]; rfl
def dump0 (rt : List UInt8) (n : Nat) : List DItem := [nodeI ⟨0, n, rt⟩]
theorem rz_dump (w : World) (lo n y u : Nat) (q : GPl) (rt : List UInt8) (h : RZ w lo q rt n y u) (hmu : q.mu = 0) (hlo : 0 < lo) (hls : lo ≤ w.heap.size) :
    Calls Tryz.prog 17 #[.pointer (some ⟨q.G, 0, none⟩)] w fun e w' => ∃ v, e = .returned v ∧ w'.ownsRow w.heap.size 50 12 v (dump0 rt n).length (itemsV (dump0 rt n)) ∧ RZ w' lo q rt n y u ∧ Below lo w w' ∧ Stay w w' := by
  obtain ⟨c, h1, h2, h3, h4, h5⟩ := h
  have e0 : dumpL { st0 rt n y with cnt := c } = dump0 rt n := by
    have e1 : treeL { st0 rt n y with cnt := c } = [⟨0, n, rt⟩] := treeL_st0 rt n y
    have e2 : keptsL { st0 rt n y with cnt := c } = [] := kepts_nil0 fun _ => rfl
    have e3 : headsL { st0 rt n y with cnt := c } = [] := by
      rw [headsL, List.map_eq_nil_iff, List.filter_eq_nil_iff]
      intro m _ h
      rw [headB_iff] at h
      cases h.1
    rw [dumpL, e1, e2, e3]; rfl
  have h := Dump_open w lo 0 q { st0 rt n y with cnt := c } h3 (inv_cnt h4 c) hmu rfl (by omega)
  rw [e0] at h
  refine h.mono ?_
  rintro e w' ⟨v, rfl, ho, hA', hF⟩
  exact ⟨v, rfl, ho, ⟨c, h1, h2, hA', h4, eg_frm h5 h3 hlo hF⟩, frm_lo h3 hF (Nat.le_refl _) hls, frm_stay h3 hF⟩
theorem rz_good (w : World) (lo n y x u b cap : Nat) (q : GPl) (rt l : List UInt8) (h : RZ w lo q rt n y u) (hmu : q.mu = 0) (hlo : 0 < lo) (hls : lo ≤ w.heap.size) (hu : u ≤ 1000) (hx : x < n) (hxy : x ≠ y) (hl : l.length ≤ 40) (hcap : l.length + 7 ≤ cap)
    (hr : w.ownsRow 0 5 1 (.slice (some ⟨b, 0, none⟩) (l.length + 7) cap) (l.length + 7) (cells (frameL (st0 rt n x) x 0 l)).toList) :
    Calls Tryz.prog 16 #[.pointer (some ⟨q.G, 0, none⟩), .slice (some ⟨b, 0, none⟩) (l.length + 7) cap] w fun e w' => ∃ a c, e = .returned (.tuple #[.agg #[.int .i64 x, .int .i64 0, .slice a l.length c], .int .i64 0]) ∧ Rd w' a l ∧ Below lo w w' ∧ Stay w w' := by
  obtain ⟨c, h1, h2, h3, h4, h5⟩ := h
  have hfl : (frameL (st0 rt n x) x 0 l).length = l.length + 7 := frame_size _ _ _ _
  have hrd : Rd w (some ⟨b, 0, none⟩) (frameL (st0 rt n x) x 0 l) := Rd.own (c := cap) (by rw [hfl]; exact hr)
  have hfr : frameL (st0 rt n x) x 0 l = frameL { st0 rt n y with cnt := c } x 0 l := frameL_root rfl rfl _ _ _
  rw [hfr] at hrd
  obtain ⟨cs, hcs⟩ := row_cells hr rfl
  have hc := Unprotect_frame w lo 0 x 0 b 0 cap (l.length + 7) q { st0 rt n y with cnt := c } l h3 hmu hlo h5 (inv_cnt h4 c) rfl hx hxy (by omega) hl rfl hcap h1 (by show c ≤ _; omega) (by omega) hrd ⟨(Array.getElem?_eq_some_iff.1 hcs).1, group_apart h3 hcs (by decide) (by decide)⟩
  rw [show openF { st0 rt n y with cnt := c } x 0 = none from rfl] at hc
  refine hc.mono ?_
  rintro e w' ⟨c', hc1, hc2, r, rfl, hor, T', hA', hF, _⟩
  obtain ⟨a, k, rfl⟩ := row_form hor
  exact ⟨a, k, rfl, Rd.own hor, frm_lo h3 hF (Nat.le_refl _) hls, frm_stay h3 hF⟩
end Go.Proofs.YtccidllcjaaeeaaGreatDoor
