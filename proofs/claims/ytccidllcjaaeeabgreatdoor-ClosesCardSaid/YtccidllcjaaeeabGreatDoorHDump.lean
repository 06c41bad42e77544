/- The walk of an open group's Dump. Conditions: the group lies and reads as its state; its lock is free; it is open. -/
import Derived.Test.YtccidllcjaaeeabGreatDoorHDumpLaw
import Derived.Test.YtccidllcjaaeeabGreatDoorHComesMid
namespace Go.Proofs.YtccidllcjaaeeabGreatDoor
set_option maxRecDepth 100000
open Go Go.Maps Go.RowKit
open Go.Shelf Go.Lib Go.Sort Go.MuLone
theorem infoItemI : (Tryz.prog.info? 88).map (fun i => (i.zero, i.size, i.bytes)) = some (some (.agg (icells ⟨0, 0, 0, 0, zeroS⟩)), 12, 40) := by kernel_rfl
theorem built_item3 (c a b : Nat) (k : List UInt8) (hk : k.length = 8) : Tryz.prog.built 88 [(0, .int .i64 c), (1, .int .i64 a), (2, .int .i64 b), (4, .agg (cells k))] = some (icells ⟨c, a, b, 0, k⟩) := by
  obtain ⟨a0, a1, a2, a3, a4, a5, a6, a7, rfl⟩ := eight hk
  kernel_rfl
theorem built_item4 (c a b g : Nat) (k : List UInt8) (hk : k.length = 8) : Tryz.prog.built 88 [(0, .int .i64 c), (1, .int .i64 a), (2, .int .i64 b), (3, .int .i64 g), (4, .agg (cells k))] = some (icells ⟨c, a, b, g, k⟩) := by
  obtain ⟨a0, a1, a2, a3, a4, a5, a6, a7, rfl⟩ := eight hk
  kernel_rfl
theorem wpList_build_item3 {ops : Array Oper} {rest : List Oper} {o : Oper} {ac : Act} {w : World} {Q : Exit → Act → World → Prop} (hgd : o.guard = none) (v x y z : Operand) (ho : o.op = .build 88 #[(0, v), (1, x), (2, y), (4, z)]) (c a b : Nat) (k : List UInt8) (hk : k.length = 8)
    (hv : ac.eval v = .int .i64 c) (hx : ac.eval x = .int .i64 a) (hy : ac.eval y = .int .i64 b) (hz : ac.eval z = .agg (cells k)) (h : wpList Tryz.prog ops Q rest (ac.put o.dst (.agg (icells ⟨c, a, b, 0, k⟩))) w) : wpList Tryz.prog ops Q (o :: rest) ac w := by
  have hb := built_item3 c a b k hk
  refine wpList_build hgd 88 _ ho ?_ ?_
  · simp only [List.map_toArray, List.map_cons, List.map_nil, hv, hx, hy, hz, hb]; rfl
  · simp only [List.map_toArray, List.map_cons, List.map_nil, hv, hx, hy, hz, hb]; exact h
theorem wpList_build_item4 {ops : Array Oper} {rest : List Oper} {o : Oper} {ac : Act} {w : World} {Q : Exit → Act → World → Prop} (hgd : o.guard = none) (v x y u z : Operand) (ho : o.op = .build 88 #[(0, v), (1, x), (2, y), (3, u), (4, z)]) (c a b g : Nat) (k : List UInt8) (hk : k.length = 8)
    (hv : ac.eval v = .int .i64 c) (hx : ac.eval x = .int .i64 a) (hy : ac.eval y = .int .i64 b) (hu : ac.eval u = .int .i64 g) (hz : ac.eval z = .agg (cells k)) (h : wpList Tryz.prog ops Q rest (ac.put o.dst (.agg (icells ⟨c, a, b, g, k⟩))) w) : wpList Tryz.prog ops Q (o :: rest) ac w := by
  have hb := built_item4 c a b g k hk
  refine wpList_build hgd 88 _ ho ?_ ?_
  · simp only [List.map_toArray, List.map_cons, List.map_nil, hv, hx, hy, hu, hz, hb]; rfl
  · simp only [List.map_toArray, List.map_cons, List.map_nil, hv, hx, hy, hu, hz, hb]; exact h
theorem kepts_len {s : GSt} (hI : GInv s) : (keptsL s).length ≤ 1000 := by
  have h : ∀ l : List Nat, (l.flatMap fun m => (s.M m).over.map (keptI s m)).length ≤ 4 * l.length := fun l => by
    induction l with
    | nil => simp
    | cons m l ih =>
      have h4 := hI.four m
      rw [List.flatMap_cons, List.length_append, List.length_map, List.length_cons]
      omega
  have := h (List.range s.n)
  rw [List.length_range] at this
  have hn := hI.n16
  unfold keptsL
  omega
set_option maxHeartbeats 8000000 in
theorem Dump_open (w : World) (lo t : Nat) (p : GPl) (s : GSt) (hA : GroupAt w lo p s t) (hI : GInv s) (hmu : p.mu = 0) (hc : s.closed = false) (ht : t < 1000000000000) :
    Calls Tryz.prog 18 #[.pointer (some ⟨p.G, 0, none⟩)] w fun e w' => ∃ v, e = .returned v ∧ w'.ownsRow w.heap.size 88 12 v (dumpL s).length (itemsV (dumpL s)) ∧ GroupAt w' lo p s t ∧ Frm w w' p := by
  obtain ⟨i0, hi', hz0', hz1', hz2'⟩ := info_parts infoItemI
  have hi := Lib.hid hi'
  have hz0 := Lib.hid hz0'
  have hz1 := Lib.hid hz1'
  have hz2 := Lib.hid hz2'
  clear hi' hz0' hz1' hz2'
  have hL := group_mu hA 1
  have hlt := group_lt hA
  obtain ⟨c0, _⟩ := g_cells hA.1
  rw [hmu] at c0
  have f0 := frozen_of_row _ _ 0 _ _ hA.1
  obtain ⟨L, hLw⟩ : ∃ L, L = w.setCell ⟨p.G, 0, none⟩ (.int .i32 1) := ⟨_, rfl⟩
  rw [← hLw] at hL
  have hLs : L.heap.size = w.heap.size := by rw [hLw, size_setCell]
  obtain ⟨hG, hT, ⟨f, hH, hf⟩, ⟨f2, hK, hf2⟩, _⟩ := id hL
  obtain ⟨_, _, _, _, _, c9, c10, c11⟩ := g_cells hG
  have hT' : L.ownsRow lo 49 10 p.T (treeL s).length (lcells (treeL s)) := hT
  obtain ⟨n, hn⟩ : ∃ n, n = (treeL s).length := ⟨_, rfl⟩
  rw [← hn] at hT'
  obtain ⟨ta, tc, htf⟩ := row_form hT'
  rw [show ({ p with mu := 1 } : GPl).T = p.T from rfl, htf] at c9
  rw [htf] at hT'
  have hn16 : n ≤ 16 := by rw [hn]; exact (tree_in hI).2.2
  have HT := Lib.hid hT'
  have Hn := Lib.hid hn
  have HH := Lib.hid hH
  have Hf := Lib.hid hf
  have HK := Lib.hid hK
  have Hf2 := Lib.hid hf2
  have HL := Lib.hid hL
  have HA := Lib.hid hA
  have Hlt := Lib.hid hlt
  have HLw := Lib.hid hLw
  have HLs := Lib.hid hLs
  have Htf := Lib.hid htf
  clear hG hT hT' hn hH hf hK hf2 hA hL hlt hLs hLw htf
  go_enter_defers Tryz.func18, Tryz.ntmps18
  go_upto_region 5 with (go_at_call 24; refine (lock_free muLib ⟨p.G, 0, none⟩ _ c0 f0).mono ?_; rintro e w' ⟨rfl, rfl⟩; rw [← HLw.out])
  go_loopw [3, 22] (fun sv iv wr => ∃ k : Nat, k ≤ n ∧ iv = .int .i64 k ∧ wr.ownsRow L.heap.size 88 12 sv k (itemsV (((treeL s).take k).map nodeI)) ∧ Below L.heap.size L wr) (fun _ iv _ => n - (intOf iv).toNat)
  case atStart => exact ⟨0, Nat.zero_le _, rfl, World.ownsRow_nil _ _ _ _, Below.refl _ _⟩
  case round =>
    obtain ⟨k, hkn, rfl, hsv, hb⟩ := hrel
    have Hsv := Lib.hid hsv
    have Hb := Lib.hid hb
    clear hsv hb
    by_cases hk : k < n
    · have hkI : (k : Int) < (n : Nat) := by omega
      have hk0 : (0 : Int) ≤ (k : Nat) := by omega
      have hkl : k < (treeL s).length := by have := Hn.out; omega
      obtain ⟨q, hq⟩ : ∃ q, q = (treeL s)[k] := ⟨_, rfl⟩
      have hq8 : q.s.length = 8 := by rw [hq]; exact ((tree_in hI).1 _ (List.getElem_mem _)).2.2.1
      obtain ⟨gT, rfl⟩ : ∃ gT, ta = some ⟨gT, 0, none⟩ := by
        rcases HT.out.2 with ⟨_, h0⟩ | ⟨g, cap, cur, e, _⟩
        · omega
        · cases e; exact ⟨g, rfl⟩
      have hrow : wr.rangeAt gT (k * 10) (pcells q).toList := fun j v hv => by
        have hj : j < 10 := by
          have := (List.getElem?_eq_some_iff.1 hv).1
          rwa [Array.length_toList, pcells_size _ hq8] at this
        have h1 : (lcells (treeL s))[k * 10 + j]? = some v := by
          rw [lcells_get _ _ _ hkl hj, ← hv]
          have e : (treeL s)[k]! = q := by rw [hq]; simp [hkl]
          rw [e, encP_eq _ hq8]
        rcases HT.out.2 with ⟨e, _⟩ | ⟨g, cap, cur, e, _, h3, h4, h5, h6, h7⟩
        · cases e
        · cases e
          have h8 : wr.heap[gT]? = some (.cells cur 49 (0, 0)) := (Hb.out.block gT (Array.getElem?_eq_some_iff.1 h3).1).trans h3
          rw [cell_of_row _ _ _ _ _ _ h8]
          have h9 := (List.getElem?_eq_some_iff.1 h1).1
          rw [lcells_length] at h9
          rw [← h7, List.getElem?_take_of_lt (by have := Hn.out; omega)] at h1
          simpa using h1
      have Hq := Lib.hid hq
      have Hrow := Lib.hid hrow
      have hpi : (pcells q).size = 10 := pcells_size _ hq8
      have hz10 : (pcells pZero).size = 10 := pcells_size _ rfl
      have Hpi := Lib.hid hpi
      have Hz10 := Lib.hid hz10
      have Hq8 := Lib.hid hq8
      clear hq hrow hpi hz10 hq8
      go_upto_region 7 with (first
        | (refine wpList_load_mid rfl 49 _ rfl gT (k * 10) rfl (pcells q).toList _ Hrow.out Tryz.underlying49 rfl (by rw [infoPart, Array.length_toList, Hpi.out]) ?_)
        | (refine wpList_store_row rfl 49 _ _ rfl wr.heap.size (pcells q) rfl rfl 49 (pcells pZero) (heap_alloc_new wr _) (by rw [infoPart, Hpi.out]) (by rw [Hz10.out, Hpi.out]) (pcells_one _) ?_))
      generalize hW : World.setRow _ wr.heap.size _ = W
      have hWr : W.heap[wr.heap.size]? = some (.cells (pcells q) 49 (0, 0)) := by rw [← hW]; exact setRow_heap _ _ (pcells pZero) _ _ _ (heap_alloc_new wr _)
      have hWg : wr.grownBy W none := by
        rw [← hW]
        exact ⟨rfl, rfl, rfl, by simp, fun b hb _ => by rw [setRow_other _ _ _ _ (by omega), Below.heap_alloc _ _ _ hb]⟩
      have q0 : W.cell? ⟨wr.heap.size, 0, none⟩ = some (.int .i64 q.a) := by rw [cell_of_row _ _ _ _ _ _ hWr, pcells, Array.getElem?_append_left (by simp)]; rfl
      have q1 : W.cell? ⟨wr.heap.size, 1, none⟩ = some (.int .i64 q.b) := by rw [cell_of_row _ _ _ _ _ _ hWr, pcells, Array.getElem?_append_left (by simp)]; rfl
      have q2 : W.rangeAt wr.heap.size 2 (cells q.s).toList := fun j v hv => by
        rw [cell_of_row _ _ _ _ _ _ hWr, pcells, Array.getElem?_append_right (by simp)]
        simpa using hv
      have hWs : wr.heap.size < W.heap.size := (Array.getElem?_eq_some_iff.1 hWr).1
      have hic : (icells (nodeI q)).size = 12 := icells_size _ Hq8.out
      have hsv := Hsv.out.kept hWg (by cases u3.ownBlock <;> simp)
      have hbW : Below L.heap.size L W := Hb.out.grown hWg Hb.out.size (fun j e => by cases e)
      have Hsv' := Lib.hid hsv
      have HbW := Lib.hid hbW
      have Hq2 := Lib.hid q2
      have Hic := Lib.hid hic
      have hLW := HbW.out.size
      clear hW hWr hWg q2 hic hsv hbW Hsv Hb
      go_wp2_with (first
        | (refine wpList_load_mid rfl 36 _ rfl wr.heap.size 2 rfl (cells q.s).toList _ Hq2.out Tryz.underlying36 rfl (by rw [infoSecret, Array.length_toList, cells_size, Hq8.out]) ?_)
        | (refine wpList_build_item3 rfl _ _ _ _ rfl 0 q.a q.b q.s Hq8.out (by rfl) (by rfl) (by rfl) (by rfl) ?_)
        | (refine wpList_slice_one rfl 84 88 (.tmp 33) (by rfl) (icells (nodeI q)) (by rfl) i0 _ Tryz.underlying84 hi.out hz0.out (hz1.out.trans Hic.out.symm) (by rw [Hic.out]; decide) (by rw [Hic.out]; decide) ?_)
        | (at_builtin; go_must (refine wpList_append_own_at _ rfl (.tmp 26) (.tmp 34) 84 (by rfl) L.heap.size 88 i0 _ 12 40 Tryz.underlying84 hi.out hz0.out hz1.out hz2.out rfl (by decide) u3 k (itemsV (((treeL s).take k).map nodeI)) (by rfl) (Hsv'.out.alloc _) ⟨W.heap.size, 0, none⟩ 1 1 (icells (nodeI q)).toList (by rfl) (by rw [Array.length_toList, Hic.out]) (cell_new_row _ _ _) (fun u hu => by rw [← encI_eq (nodeI q) Hq8.out] at hu; exact encI_one _ u hu) (by unfold maxLen; omega) (by omega) (by simp; omega) ?_); intro v' W5 hown5 hg5 _ hloc))
      go_roundw
      case rel =>
        have hkl : k < (treeL s).length := by have := Hn.out; omega
        have e : ((treeL s).take (k + 1)).map nodeI = ((treeL s).take k).map nodeI ++ [nodeI q] := by
          rw [List.take_succ_eq_append_getElem hkl, List.map_append, Hq.out]; rfl
        refine ⟨k + 1, by omega, by simp, ?_, (HbW.out.alloc hLW _).grown hg5 (by simp; omega) (fun j e => (Hsv'.out.lt j e).1)⟩
        rw [e, itemsV_append, show itemsV [nodeI q] = (icells (nodeI q)).toList by rw [← encI_eq (nodeI q) Hq8.out]; simp [itemsV]]
        exact hown5
      case measure => simp only [intOf]; omega
    · obtain rfl : k = n := by omega
      have hkI : ¬ (k : Int) < (k : Nat) := by omega
      have hall : ((treeL s).take k).map nodeI = (treeL s).map nodeI := by rw [List.take_of_length_le (by have := Hn.out; omega)]
      rw [hall] at Hsv
      clear hall
      obtain ⟨D1, hD1, rD1⟩ := mapAt_same HH.out (Hb.out.block p.H (mapAt_lt HH.out))
      have hG5 := (Hb.out.block p.G (Array.getElem?_eq_some_iff.1 HL.out.1).1).trans HL.out.1
      obtain ⟨_, _, _, _, _, _, d10, d11⟩ := g_cells (p := { p with mu := 1 }) hG5
      have HD1 := Lib.hid hD1
      have HrD1 := Lib.hid rD1
      clear hD1 rD1 hG5
      go_wp2_with (first
        | (at_range; refine wpList_range_own _ rfl _ 52 rfl 3 102 int_law Tryz.underlying52 _ p.H t _ rfl HD1.out ?_; intro w0 hrg0 hg0 hs0))
      obtain ⟨R1, hR1⟩ : ∃ R1, R1 = wr.heap.size := ⟨_, rfl⟩
      rw [← hR1] at hrg0 ⊢
      have hne0 : u3.ownBlock ≠ some R1 := fun e => by have := (Hsv.out.lt R1 e).2; omega
      have hsv0 := Hsv.out.kept hg0 (by cases u3.ownBlock <;> simp)
      have hb0 : Below L.heap.size L w0 := Hb.out.grown hg0 Hb.out.size (fun j e => by cases e)
      have hLR : L.heap.size ≤ R1 := by rw [hR1]; exact Hb.out.size
      have hcol0 : CollH s (fun kl => Maps.has D1 kl) [] := by
        refine ⟨List.nodup_nil, fun k => ⟨fun h => by simp at h, fun ⟨m, h1, h2, _, h4, _⟩ => ?_⟩⟩
        have h5 : f (intL m) = headV s m := Hf.out.1 m (by have := hI.n16; omega)
        rw [headV, if_pos ⟨hc, h1, h2⟩] at h5
        have h6 : Maps.has D1 (intL m) = false := h4
        rw [reads_has HrD1.out, h5] at h6
        cases h6
      have hsz1 := HD1.out.size_le
      have Hsv0 := Lib.hid hsv0
      have Hb0 := Lib.hid hb0
      have Hcol0 := Lib.hid hcol0
      clear hR1 hsv0 hb0 hcol0 Hsv hg0 Hb
      go_loopw [3] (fun sv w2 => ∃ (left : Lit → Bool) (cnt : Nat) (hs : List K3), w2.ranges Tryz.prog 3 heldR p.H R1 t D1 left cnt ∧ hs.length + cnt ≤ t ∧ w2.ownsRow L.heap.size 88 12 sv (k + hs.length) (itemsV ((treeL s).map nodeI ++ hs.map (getI (dumpL s)))) ∧ sv.ownBlock ≠ some R1 ∧ CollH s left hs ∧ Below L.heap.size L w2)
        (fun _ w2 => w2.rangeLeft p.H R1)
      case atStart => exact ⟨_, _, [], hrg0, by simpa using hsz1, by simpa using Hsv0.out, hne0, Hcol0.out, Hb0.out⟩
      case round =>
        obtain ⟨left, cnt, hs, hrg, hcs, hown, hne, hC, hbw⟩ := hrel
        have Hown := Lib.hid hown
        have Hne := Lib.hid hne
        have Hbw := Lib.hid hbw
        clear hown hne hbw Hsv0 Hb0 Hcol0
        go_wp2_with (first
          | (at_next; go_must (refine wpList_next_ranges _ rfl _ rfl 3 int_law heldR (fun x : Int => .int .i64 x) (fun v : Value => v) (fun key kl hk => int_inv hk) (fun v y _ => ⟨v, rfl⟩) p.H R1 t _ _ _ rfl hrg ?_ ?_)))
        · intro hc0 hl0
          have HC := Lib.hid hC
          have Hl0 := Lib.hid hl0
          obtain ⟨D2, hD2, rD2⟩ := mapAt_same HK.out (Hbw.out.block p.K (mapAt_lt HK.out))
          have hG6 := (Hbw.out.block p.G (Array.getElem?_eq_some_iff.1 HL.out.1).1).trans HL.out.1
          obtain ⟨_, _, _, _, _, _, _, d12⟩ := g_cells (p := { p with mu := 1 }) hG6
          have HD2 := Lib.hid hD2
          have HrD2 := Lib.hid rD2
          have hk16 := hrg.lt
          clear hD2 rD2 hG6 hC hl0 hrg
          go_wp2_with (first
            | (at_range; refine wpList_range_own _ rfl _ 53 rfl 104 36 slot_law Tryz.underlying53 _ p.K t _ rfl HD2.out ?_; intro w7 hrg7 hg7 hs7))
          obtain ⟨R2, hR2⟩ : ∃ R2, R2 = wr.heap.size := ⟨_, rfl⟩
          rw [← hR2] at hrg7 ⊢
          have hne7 : u3.ownBlock ≠ some R2 := fun e => by have := (Hown.out.lt R2 e).2; omega
          have hsv7 := Hown.out.kept hg7 (by cases u3.ownBlock <;> simp)
          have hb7 : Below L.heap.size L w7 := Hbw.out.grown hg7 Hbw.out.size (fun j e => by cases e)
          have hLR2 : L.heap.size ≤ R2 := by rw [hR2]; exact Hbw.out.size
          have hcol7 : CollE s (fun kl => Maps.has D2 kl) [] := by
            refine ⟨List.nodup_nil, fun k => ⟨fun h => by simp at h, fun ⟨m, g, h1, h2, h4, _⟩ => ?_⟩⟩
            have h3 := hI.over m g h2
            have h5 : f2 (slotL m g) = keptV s m g := Hf2.out.1 m g (by have := hI.n16; omega) (by have := hI.next m; omega)
            rw [keptV, if_pos ⟨hc, h1, h2⟩] at h5
            have h6 : Maps.has D2 (slotL m g) = false := h4
            rw [reads_has HrD2.out, h5] at h6
            cases h6
          have hsz2 := HD2.out.size_le
          have Hsv7 := Lib.hid hsv7
          have Hb7 := Lib.hid hb7
          have Hcol7 := Lib.hid hcol7
          clear hR2 hsv7 hb7 hcol7 Hown hg7 Hbw
          go_loopw [3] (fun sv w2 => ∃ (left : Lit → Bool) (cnt : Nat) (es : List K3), w2.ranges Tryz.prog 104 heldR p.K R2 t D2 left cnt ∧ es.length + cnt ≤ t ∧ w2.ownsRow L.heap.size 88 12 sv (k + hs.length + es.length) (itemsV ((treeL s).map nodeI ++ (hs ++ es).map (getI (dumpL s)))) ∧ sv.ownBlock ≠ some R2 ∧ CollE s left es ∧ Below L.heap.size L w2)
            (fun _ w2 => w2.rangeLeft p.K R2)
          case atStart => exact ⟨_, _, [], hrg7, by simpa using hsz2, by simpa using Hsv7.out, hne7, Hcol7.out, Hb7.out⟩
          case round =>
            obtain ⟨left2, cnt2, es, hrg, hcs2, hown, hne, hE, hbw⟩ := hrel
            have Hown := Lib.hid hown
            have Hne2 := Lib.hid hne
            have Hbw := Lib.hid hbw
            clear hown hne hbw Hsv7 Hb7 Hcol7
            go_wp2_with (first
              | (at_next; go_must (refine wpList_next_ranges _ rfl _ rfl 104 slot_law heldR (fun x : Int × Int => slotV x.1 x.2) (fun v : Value => v) (fun key kl hk => slot_inv hk) (fun v y _ => ⟨v, rfl⟩) p.K R2 t _ _ _ rfl hrg ?_ ?_)))
            · intro hc1 hl1
              have hperm := coll_perm hI HC.out hE Hl0.out hl1
              have hD := dump_rise hI
              obtain ⟨ks, hks⟩ : ∃ ks, ks = (treeL s).map (fun p => keyI (nodeI p)) ++ (hs ++ es) := ⟨_, rfl⟩
              rw [← hks] at hperm
              have hnode : ((treeL s).map (fun p => keyI (nodeI p))).map (getI (dumpL s)) = (treeL s).map nodeI := by
                rw [List.map_map]
                refine List.map_congr_left fun q hq => rise_get hD (nodeI q) ?_
                rw [dumpL, List.mem_append]
                exact .inl (List.mem_map.2 ⟨q, hq, rfl⟩)
              have hlen : ks.length = k + hs.length + es.length := by rw [hks, List.length_append, List.length_append, List.length_map, ← Hn.out]; omega
              have hrowS : wr.ownsRow L.heap.size 88 12 u3 ks.length (itemsV (ks.map (getI (dumpL s)))) := by
                rw [hlen, hks, List.map_append, hnode]
                exact Hown.out
              have hsort := sortItems_any wr L.heap.size (dumpL s) ks u3 hD hperm hrowS (by
                rw [hperm.length_eq, List.length_map, dumpL, List.length_append, List.length_append, List.length_map, ← Hn.out]
                have h1 : (headsL s).length ≤ 16 := by
                  rw [headsL, List.length_map]
                  exact Nat.le_trans (List.length_filter_le _ _) (by rw [List.length_range]; exact hI.n16)
                have h2 : (keptsL s).length ≤ 1000 := kepts_len hI
                omega)
              have Hsort := Lib.hid hsort
              have hown0 := Hown.out
              clear hsort hperm hD hks hnode hlen hrowS hE hrg
              go_wp2_with (first
                | (go_at_call 29; refine Hsort.out.mono ?_; rintro e w2 ⟨rfl, ho9, hg9⟩; have Ho9 := Lib.hid ho9; have Hg9 := Lib.hid hg9; clear ho9 hg9))
              have hlow := fun b hb => (hown0.lt b hb).1
              have hb9 : Below L.heap.size L w2 := Hbw.out.grown Hg9.out Hbw.out.size (fun j e => hlow j e)
              have hA2 := group_below HL.out hb9
              refine leaves_cons (f := 25) (args := #[.pointer (some ⟨p.G, 0, none⟩)]) (by simp) (by simp [go_sem]) ?_
              refine (unlock_deferred muLib ⟨p.G, 0, none⟩ .returning _ (g_cells hA2.1).1 (frozen_of_row _ _ 0 _ _ hA2.1)).mono ?_
              rintro e u' w3 ⟨rfl, rfl, rfl⟩
              have hA3 := group_mu hA2 0
              rw [p_mu hmu] at hA3
              have hpG : p.G < L.heap.size := by rw [HLs.out]; exact (Hlt.out p.G (.inl rfl)).2
              refine ⟨_, results_tmp rfl _ _ _, u3, rfl, ?_, hA3, ⟨?_, ?_, ?_, ?_, fun b hb h1 _ _ _ => ?_⟩⟩
              · rw [← HLs.out]
                exact ownsRow_blk Ho9.out fun b hb => heap_ne (fun e => by have := (Ho9.out.lt b hb).1; omega)
              · exact hb9.os.trans (by rw [HLw.out]; rfl)
              · exact hb9.tape.trans (by rw [HLw.out]; rfl)
              · exact hb9.output.trans (by rw [HLw.out]; rfl)
              · rw [size_setCell, ← HLs.out]; exact hb9.size
              · rw [heap_ne (Ne.symm h1), hb9.block b (by rw [HLs.out]; exact hb), HLw.out, heap_ne (Ne.symm h1)]
            · intro x1 x2 c kl yd yp w1 cnt1 hkey hlx hv hat hrg1 hlt hg1 hs1 hen
              have hcv : f2 kl = some c := by
                have h1 : yd = .held c := by simpa [heldR] using (congrArg (Option.map Prod.fst) hv).symm
                exact reads_met HrD2.out (fun zd => by rw [hat zd, h1])
              obtain ⟨m, g, hm, hg6, rfl⟩ := Hf2.out.2 kl (by rw [hcv]; simp)
              have hm16 : m < 16 := by have := hI.n16; omega
              obtain ⟨rfl, rfl⟩ := slotV_inj (slot_law.inj hkey (key_slot m g (by omega) (by omega) (by omega) (by omega)))
              rw [Hf2.out.1 m g (by omega) (by omega), keptV] at hcv
              by_cases hgo : g ∈ (s.M m).over
              · rw [if_pos ⟨hc, hm, hgo⟩] at hcv
                obtain rfl := (Option.some.inj hcv).symm
                obtain ⟨r, hr⟩ : ∃ r, r = keyL (leafL s.root s.n m) g := ⟨_, rfl⟩
                have hr8 : r.length = 8 := by rw [hr]; exact kd_length _ _ _
                rw [← hr] at hen ⊢
                have hE2 := collE_step hI hE hm hgo hlx
                have hown1 := Hown.out.kept hg1 (by right; exact Hne2.out)
                have hb1 : Below L.heap.size L w1 := Hbw.out.grown hg1 Hbw.out.size (fun j e => by have := Option.some.inj e; omega)
                have Hr8 := Lib.hid hr8
                have Hr := Lib.hid hr
                have HE2 := Lib.hid hE2
                have Hown1 := Lib.hid hown1
                have Hb1 := Lib.hid hb1
                have Hrg1 := Lib.hid hrg1
                have Hlt1 := Lib.hid hlt
                clear hcv hs1 hkey hat hv hlx hE hE2 hr8 hr hown1 hb1 hrg1 hlt
                unfold slotV at hen
                unfold slotV
                go_upto_region 17 with (first
                  | (refine wpList_store_row rfl 36 _ _ rfl (w1.heap.size + 1) (cells r) rfl rfl 36 (cells zeroS) (heap_alloc2_new w1 _ _) (by rw [infoSecret, cells_size, Hr8.out]) (by rw [cells_size, cells_size, Hr8.out]; rfl) (cells_one _) ?_))
                generalize hW : World.setRow _ (w1.heap.size + 1) _ = W
                have hWr : W.heap[w1.heap.size + 1]? = some (.cells (cells r) 36 (0, 0)) := by rw [← hW]; exact setRow_heap _ _ (cells zeroS) _ _ _ (heap_alloc2_new w1 _ _)
                have hWs' : W.heap[w1.heap.size]? = some (.cells #[.int .i64 m, .int .i64 g] 104 (0, 0)) := by rw [← hW, setRow_other _ _ _ _ (by omega)]; exact heap_alloc2_old w1 _ _
                have hWg : w1.grownBy W none := by
                  rw [← hW]
                  exact ⟨rfl, rfl, rfl, by simp; omega, fun b hb _ => by rw [setRow_other _ _ _ _ (by omega), Below.heap_alloc _ _ _ (by simp; omega), Below.heap_alloc _ _ _ hb]⟩
                have s0 : W.cell? ⟨w1.heap.size, 0, none⟩ = some (.int .i64 m) := cell_of_row _ _ _ _ _ _ hWs'
                have s1 : W.cell? ⟨w1.heap.size, 1, none⟩ = some (.int .i64 g) := cell_of_row _ _ _ _ _ _ hWs'
                have hWs : w1.heap.size + 1 < W.heap.size := (Array.getElem?_eq_some_iff.1 hWr).1
                have hR1w : R2 < w1.heap.size := Hrg1.out.lt
                have hpK : p.K < L.heap.size := mapAt_lt HK.out
                have hrgW := Hrg1.out.kept hWg (by simp) (by simp)
                have hownW := Hown1.out.kept hWg (by cases u3.ownBlock <;> simp)
                have hbW : Below L.heap.size L W := Hb1.out.grown hWg Hb1.out.size (fun j e => by cases e)
                have HrgW := Lib.hid hrgW
                have HownW := Lib.hid hownW
                have HbW := Lib.hid hbW
                have HWr := Lib.hid hWr
                have hLW := HbW.out.size
                have hic : (icells ⟨2, m, m + 1, g, r⟩).size = 12 := icells_size _ Hr8.out
                have Hic := Lib.hid hic
                clear hW hWr hWs' hWg hrgW hownW hbW hic
                go_wp2_with (first
                  | (refine wpList_load_row rfl 36 _ rfl (w1.heap.size + 1) rfl _ (cells r) _ _ HWr.out Tryz.underlying36 rfl (by rw [infoSecret, cells_size, Hr8.out]) ?_)
                  | (refine wpList_build_item4 rfl _ _ _ _ _ rfl 2 m (m + 1) g r Hr8.out (by rfl) (by rfl) (by rfl) (by rfl) (by rfl) ?_)
                  | (refine wpList_slice_one rfl 84 88 (.tmp 80) (by rfl) (icells ⟨2, m, m + 1, g, r⟩) (by rfl) i0 _ Tryz.underlying84 hi.out hz0.out (hz1.out.trans Hic.out.symm) (by rw [Hic.out]; decide) (by rw [Hic.out]; decide) ?_)
                  | (at_builtin; go_must (refine wpList_append_own_at _ rfl (.tmp 71) (.tmp 81) 84 (by rfl) L.heap.size 88 i0 _ 12 40 Tryz.underlying84 hi.out hz0.out hz1.out hz2.out rfl (by decide) u3 (k + hs.length + es.length) (itemsV ((treeL s).map nodeI ++ (hs ++ es).map (getI (dumpL s)))) (by rfl) (HownW.out.alloc _) ⟨W.heap.size, 0, none⟩ 1 1 (icells ⟨2, m, m + 1, g, r⟩).toList (by rfl) (by rw [Array.length_toList, Hic.out]) (cell_new_row _ _ _) (fun u hu => by rw [← encI_eq ⟨2, m, m + 1, g, r⟩ Hr8.out] at hu; exact encI_one _ u hu) (by unfold maxLen; omega) (by omega) (by simp; omega) ?_); intro v' W5 hown5 hg5 _ hloc))
                have hlow := fun b hb => (HownW.out.lt b hb).1
                have hrg5 := (HrgW.out.alloc (.cells (icells ⟨2, m, m + 1, g, r⟩) 88)).kept hg5 (fun e => by have := hlow _ e.symm; omega) (fun e => Hne2.out e.symm)
                go_roundw
                case rel =>
                  have hmem : keptI s m g ∈ dumpL s := by
                    rw [dumpL, List.mem_append, List.mem_append]
                    exact .inr (.inr (mem_kepts.2 ⟨m, g, hm, hgo, rfl⟩))
                  have hget : getI (dumpL s) (2, m, g) = keptI s m g := rise_get (dump_rise hI) _ hmem
                  have hcell : (icells ⟨2, m, m + 1, g, r⟩).toList = encI (keptI s m g) := by
                    rw [encI_eq _ (kd_length _ _ _), keptI, Hr.out]
                  refine ⟨_, cnt1, es ++ [(2, m, g)], hrg5, by have := Hlt1.out; simp; omega, ?_, fun e => ?_, HE2.out, (HbW.out.alloc hLW _).grown hg5 (by simp; omega) (fun j e => hlow j e)⟩
                  · have e1 : k + hs.length + (es ++ [((2, m, g) : K3)]).length = k + hs.length + es.length + 1 := by simp; omega
                    have e2 : itemsV ((treeL s).map nodeI ++ (hs ++ (es ++ [((2, m, g) : K3)])).map (getI (dumpL s))) = itemsV ((treeL s).map nodeI ++ (hs ++ es).map (getI (dumpL s))) ++ (icells ⟨2, m, m + 1, g, r⟩).toList := by
                      rw [← List.append_assoc, List.map_append (l₁ := hs ++ es), ← List.append_assoc, itemsV_append, hcell]
                      simp [itemsV, hget]
                    rw [e1, e2]
                    exact hown5
                  · rcases hloc with h | h
                    · exact Hne2.out (h.symm.trans e)
                    · rw [h] at e
                      have := Option.some.inj e
                      simp at this
                      omega
                case measure => rw [hrg5.left_eq, hrg.left_eq]; exact Hlt1.out
              · rw [if_neg (fun h => hgo h.2.2)] at hcv
                cases hcv
        · intro x1 c kl yd yp w1 cnt1 hkey hlx hv hat hrg1 hlt hg1 hs1 hen
          have hcv : f kl = some c := by
            have h1 : yd = .held c := by simpa [heldR] using (congrArg (Option.map Prod.fst) hv).symm
            exact reads_met HrD1.out (fun zd => by rw [hat zd, h1])
          obtain ⟨m, hm, rfl⟩ := Hf.out.2 kl (by rw [hcv]; simp)
          have hxm := int_law.inj hkey (key_int m (by omega) (by have := hI.n16; omega))
          injection hxm with _ hxm
          subst hxm
          rw [Hf.out.1 m (by have := hI.n16; omega), headV] at hcv
          have hm16 : m < 16 := by have := hI.n16; omega
          by_cases hbg : (s.M m).begun = true
          · rw [if_pos ⟨hc, hm, hbg⟩] at hcv
            obtain rfl := (Option.some.inj hcv).symm
            obtain ⟨g, hg⟩ : ∃ g, g = (s.M m).next := ⟨_, rfl⟩
            obtain ⟨r, hr⟩ : ∃ r, r = ratS (leafL s.root s.n m) (s.M m).next := ⟨_, rfl⟩
            have hr8 : r.length = 8 := by rw [hr]; exact ratS_length _ _
            rw [← hr, ← hg] at hen ⊢
            have hC2 := collH_step hC hm hbg hlx
            rw [← hg] at hC2
            have hrz : (rcells r g).size = 9 := rcells_size _ _ hr8
            have hown1 := Hown.out.kept hg1 (by right; exact Hne.out)
            have hb1 : Below L.heap.size L w1 := Hbw.out.grown hg1 Hbw.out.size (fun j e => by have := Option.some.inj e; omega)
            have Hrz := Lib.hid hrz
            have Hr8 := Lib.hid hr8
            have Hg := Lib.hid hg
            have Hr := Lib.hid hr
            have HC2 := Lib.hid hC2
            have Hown1 := Lib.hid hown1
            have Hb1 := Lib.hid hb1
            have Hrg1 := Lib.hid hrg1
            have Hlt1 := Lib.hid hlt
            clear hcv hs1 hkey hat hv hlx hC hC2 hrz hr8 hg hr hown1 hb1 hrg1 hlt
            go_upto_region 12 with (first
              | (refine wpList_store_row rfl 102 _ _ rfl w1.heap.size (rcells r g) rfl rfl 102 (rcells zeroS 0) (by rw [rcells_zero]; exact heap_alloc_new w1 _) (by rw [infoRatchet, Hrz.out]) (by rw [rcells_size zeroS 0 rfl, Hrz.out]) (rcells_one _ _) ?_))
            generalize hW : World.setRow _ w1.heap.size _ = W
            have hWr : W.heap[w1.heap.size]? = some (.cells (rcells r g) 102 (0, 0)) := by rw [← hW]; exact setRow_heap _ _ (rcells zeroS 0) _ _ _ (by rw [rcells_zero]; exact heap_alloc_new w1 _)
            have hWg : w1.grownBy W none := by
              rw [← hW]
              exact ⟨rfl, rfl, rfl, by simp, fun b hb _ => by rw [setRow_other _ _ _ _ (by omega), Below.heap_alloc _ _ _ hb]⟩
            have q8 : W.cell? ⟨w1.heap.size, 8, none⟩ = some (.int .i64 g) := by
              rw [cell_of_row _ _ _ _ _ _ hWr, rcells, Array.getElem?_append_right (by rw [cells_size, Hr8.out]; decide), cells_size, Hr8.out]; rfl
            have q2 : W.rangeAt w1.heap.size 0 (cells r).toList := fun j v hv => by
              have hj := (List.getElem?_eq_some_iff.1 hv).1
              rw [cell_of_row _ _ _ _ _ _ hWr, Nat.zero_add, rcells, Array.getElem?_append_left (by simpa using hj)]
              simpa using hv
            have hWs : w1.heap.size < W.heap.size := (Array.getElem?_eq_some_iff.1 hWr).1
            have hR1w : R1 < w1.heap.size := Hrg1.out.lt
            have hpH : p.H < L.heap.size := mapAt_lt HH.out
            have hrgW := Hrg1.out.kept hWg (by simp) (by simp)
            have hownW := Hown1.out.kept hWg (by cases u3.ownBlock <;> simp)
            have hbW : Below L.heap.size L W := Hb1.out.grown hWg Hb1.out.size (fun j e => by cases e)
            have HrgW := Lib.hid hrgW
            have HownW := Lib.hid hownW
            have HbW := Lib.hid hbW
            have Hq2 := Lib.hid q2
            have hLW := HbW.out.size
            clear hW hWr hWg q2 hrgW hownW hbW
            by_cases hg5 : g ≤ 65535
            · have hgI : (g : Int) ≤ 65535 := by omega
              have HC3 := HC2.out
              rw [if_pos hg5] at HC3
              have HC4 := Lib.hid HC3
              clear HC3
              have hic : (icells ⟨1, m, m + 1, g, r⟩).size = 12 := icells_size _ Hr8.out
              have Hic := Lib.hid hic
              clear hic
              go_wp2_with (first
                | (refine wpList_load_mid rfl 36 _ rfl w1.heap.size 0 rfl (cells r).toList _ Hq2.out Tryz.underlying36 rfl (by rw [infoSecret, Array.length_toList, cells_size, Hr8.out]) ?_)
                | (refine wpList_build_item4 rfl _ _ _ _ _ rfl 1 m (m + 1) g r Hr8.out (by rfl) (by rfl) (by rfl) (by rfl) (by rfl) ?_)
                | (refine wpList_slice_one rfl 84 88 (.tmp 58) (by rfl) (icells ⟨1, m, m + 1, g, r⟩) (by rfl) i0 _ Tryz.underlying84 hi.out hz0.out (hz1.out.trans Hic.out.symm) (by rw [Hic.out]; decide) (by rw [Hic.out]; decide) ?_)
                | (at_builtin; go_must (refine wpList_append_own_at _ rfl (.tmp 50) (.tmp 59) 84 (by rfl) L.heap.size 88 i0 _ 12 40 Tryz.underlying84 hi.out hz0.out hz1.out hz2.out rfl (by decide) u3 (k + hs.length) (itemsV ((treeL s).map nodeI ++ hs.map (getI (dumpL s)))) (by rfl) (HownW.out.alloc _) ⟨W.heap.size, 0, none⟩ 1 1 (icells ⟨1, m, m + 1, g, r⟩).toList (by rfl) (by rw [Array.length_toList, Hic.out]) (cell_new_row _ _ _) (fun u hu => by rw [← encI_eq ⟨1, m, m + 1, g, r⟩ Hr8.out] at hu; exact encI_one _ u hu) (by unfold maxLen; omega) (by omega) (by simp; omega) ?_); intro v' W5 hown5 hg5 _ hloc))
              have hlow := fun b hb => (HownW.out.lt b hb).1
              have hrg5 := (HrgW.out.alloc (.cells (icells ⟨1, m, m + 1, g, r⟩) 88)).kept hg5 (fun e => by have := hlow _ e.symm; omega) (fun e => Hne.out e.symm)
              go_roundw
              case rel =>
                have hmem : headI s m ∈ dumpL s := by
                  rw [dumpL, List.mem_append, List.mem_append]
                  exact .inr (.inl (mem_heads.2 ⟨m, hm, hbg, by rw [← Hg.out]; assumption, rfl⟩))
                have hget : getI (dumpL s) (1, m, g) = headI s m := by
                  have := rise_get (dump_rise hI) _ hmem
                  rwa [show keyI (headI s m) = (1, m, g) by rw [Hg.out]; rfl] at this
                have hcell : (icells ⟨1, m, m + 1, g, r⟩).toList = encI (headI s m) := by
                  rw [encI_eq _ (ratS_length _ _), headI, Hg.out, Hr.out]
                refine ⟨_, cnt1, hs ++ [(1, m, g)], hrg5, by have := Hlt1.out; simp; omega, ?_, fun e => ?_, HC4.out, (HbW.out.alloc hLW _).grown hg5 (by simp; omega) (fun j e => hlow j e)⟩
                · have e1 : k + (hs ++ [((1, m, g) : K3)]).length = k + hs.length + 1 := by simp; omega
                  have e2 : itemsV ((treeL s).map nodeI ++ (hs ++ [((1, m, g) : K3)]).map (getI (dumpL s))) = itemsV ((treeL s).map nodeI ++ hs.map (getI (dumpL s))) ++ (icells ⟨1, m, m + 1, g, r⟩).toList := by
                    rw [List.map_append, ← List.append_assoc, itemsV_append, hcell]
                    simp [itemsV, hget]
                  rw [e1, e2]
                  exact hown5
                · rcases hloc with h | h
                  · exact Hne.out (h.symm.trans e)
                  · rw [h] at e
                    have := Option.some.inj e
                    simp at this
                    omega
              case measure => rw [hrg5.left_eq, hrg.left_eq]; exact Hlt1.out
            · have hgI : ¬ (g : Int) ≤ 65535 := by omega
              have HC3 := HC2.out
              rw [if_neg hg5] at HC3
              go_wp2_with fail
              go_roundw
              case rel => exact ⟨_, cnt1, hs, HrgW.out, by have := Hlt1.out; omega, HownW.out, Hne.out, HC3, HbW.out⟩
              case measure => rw [HrgW.out.left_eq, hrg.left_eq]; exact Hlt1.out
          · rw [if_neg (fun h => hbg h.2.2)] at hcv
            cases hcv
end Go.Proofs.YtccidllcjaaeeabGreatDoor
