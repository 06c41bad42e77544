/- The document's Unprotect, where the frame passes the first faults. Conditions: the group reads as its state. -/
import Derived.Test.YtccidllcjaaeeabGreatDoorHRefUn
import Derived.Deep.AppendLies
namespace Go.Proofs.YtccidllcjaaeeabGreatDoor
set_option maxRecDepth 100000
open Go Go.Maps Go.RowKit
open Go.Shelf Go.Lib Go.Sort Go.MuLone
/-- An append at a step of a region that draws its order. -/
theorem step_append_at {P : Program} (w : World) {ops : Array Oper} {o : Oper} {a : Act} {K : Act → World → Prop} {Q : Exit → Act → World → Prop} {E : Prop} (hgd : o.guard = none) (s x : Operand) (t : TypeId)
    (ho : o.op = .call { callee := .builtin .append, args := #[s, x], argTypes := #[t, t] })
    (base : Nat) (e : TypeId) (i : TypeInfo) (z : Value) (size bytes : Nat) (ht : P.underlying t = some (.slice e)) (hi : P.info? e = some i) (hz : i.zero = some z)
    (hsize : i.size = size) (hby : i.bytes = bytes) (hzs : z.cells.size = size) (hsz : 0 < size)
    (v : Value) (n : Nat) (xs : List Value) (hs : a.eval s = v) (hown : w.ownsRow base e size v n xs)
    (ad : Addr) (m c : Nat) (news : List Value) (hx : a.eval x = .slice (some ad) m c) (hl : news.length = m * size) (hnews : ∀ j u, news[j]? = some u → w.cell? (ad.add j) = some u) (h1 : ∀ u ∈ news, u.oneCell' = true)
    (h63 : n + m ≤ maxLen) (hbytes : (n + m) * bytes ≤ 140737488355328) (hbase : base ≤ w.heap.size)
    (h : ∀ v' w', w'.ownsRow base e size v' (n + m) (xs ++ news) → w.grownBy w' v.ownBlock → K (a.put o.dst v') w') :
    if Region.wanted o (yielded ops a.tmps) = true then Oper.wp P o a w K Q else E := by
  have hw : Region.wanted o (yielded ops a.tmps) = true := by simp [Region.wanted, hgd]
  rw [if_pos hw]
  obtain ⟨v', w', hr, h2, h3, _⟩ := run_append_own_at (P := P) (w := w) base t o.type e i z size bytes ht hi hz hsize hby hzs hsz v n xs hown ad m c news hl hnews h1 h63 hbytes hbase
  unfold Oper.wp execOp
  simp only [ho, resolve, invoke, builtin, Sem.run_bind, Sem.run_pure, Result.andThen_ok, List.map_toArray, List.map_cons, List.map_nil, hs, hx, hr]
  exact h v' w' h2 h3
theorem made_one (w : World) (e : Nat) (u : Value) : ∀ ad, some (⟨w.heap.size, 0, none⟩ : Addr) = some ad → ∀ (j : Nat) v, [u][j]? = some v → (w.alloc (.cells #[u] e)).cell? (ad.add j) = some v := fun ad h j v hv => by
  cases h
  have hj := (List.getElem?_eq_some_iff.1 hv).1
  obtain rfl : j = 0 := by simpa using hj
  rw [Addr.add_lit, cell_of_row _ _ _ _ _ _ (heap_alloc_new _ _)]
  simpa using hv
/-- The generations up to one, where a member's next is known. -/
def uptoL (l : List Nat) (nx j : Nat) : List Nat := l ++ List.range' nx (j - nx)
theorem uptoL_len (l : List Nat) (nx j : Nat) : (uptoL l nx j).length = l.length + (j - nx) := by simp [uptoL]
theorem uptoL_self (l : List Nat) (nx : Nat) : uptoL l nx nx = l := by simp [uptoL]
theorem uptoL_succ (l : List Nat) (nx j : Nat) (h : nx ≤ j) : natV (uptoL l nx (j + 1)) = natV (uptoL l nx j) ++ [.int .i64 j] := by
  have e : j + 1 - nx = (j - nx) + 1 := by omega
  rw [uptoL, uptoL, e, List.range'_concat, ← List.append_assoc, natV, natV, List.map_append, List.map_singleton]
  have : nx + 1 * (j - nx) = j := by omega
  rw [this]
/-- A member's three cells have turned. -/
theorem RefAt.three {w2 w6 w7 : World} {lo R B : Nat} {s : GSt} {st : Int} (h : RefAt w2 lo R B s st) (m : Nat) (hm : m < s.n) (hb : Below w2.heap.size (w2.setCell ⟨B, m * 3, none⟩ (.bool true)) w6) {v : Value} {L : List Nat} (hov : OverAt w6 lo v L) {nx : Nat} (hw : w7 = (w6.setCell ⟨B, m * 3 + 2, none⟩ v).setCell ⟨B, m * 3 + 1, none⟩ (.int .i64 nx)) (c : Int) :
    RefAt w7 lo R B { s with cnt := c, M := fun i => if i = m then ⟨true, nx, L⟩ else s.M i } st := by
  subst hw
  obtain ⟨_, ⟨ms0, h30, h40⟩, _, _⟩ := id h
  have hBs := (Array.getElem?_eq_some_iff.1 h30).1
  have hB6 : ∀ ms, w2.heap[B]? = some (.cells ms 111 (0, 0)) → w6.heap[B]? = some (.cells (ms.setIfInBounds (m * 3) (.bool true)) 111 (0, 0)) := fun ms hms => (hb.block B hBs).trans (heap_setCell_same _ _ _ _ _ _ hms)
  refine h.turn m ⟨true, nx, L⟩ c (fun b hb' hne => ?_) fun ms hms => ?_
  · rw [heap_ne (Ne.symm hne), heap_ne (Ne.symm hne), hb.block b hb', heap_ne (Ne.symm hne)]
  · have h7 := heap_setCell_same (w6.setCell ⟨B, m * 3 + 2, none⟩ v) B (m * 3 + 1) _ _ (.int .i64 nx) (heap_setCell_same w6 B (m * 3 + 2) _ _ v (hB6 ms hms))
    refine ⟨_, h7, fun j j0 j1 j2 => ?_, fun _ => ?_⟩
    · rw [Array.getElem?_setIfInBounds_ne (by omega), Array.getElem?_setIfInBounds_ne (by omega), Array.getElem?_setIfInBounds_ne (by omega)]
    · obtain rfl : ms0 = ms := by
        rw [h30] at hms
        injection hms with hms
        injection hms with hms _
      obtain ⟨p1, p2, ov, p3, _⟩ := h40 m hm
      have l0 := (Array.getElem?_eq_some_iff.1 p1).1
      have l1 := (Array.getElem?_eq_some_iff.1 p2).1
      have l2 := (Array.getElem?_eq_some_iff.1 p3).1
      refine ⟨?_, ?_, v, ?_, ?_⟩
      · rw [Array.getElem?_setIfInBounds_ne (by omega), Array.getElem?_setIfInBounds_ne (by omega), Array.getElem?_setIfInBounds_self]; simp [l0]
      · rw [Array.getElem?_setIfInBounds_self]; simp [l1]
      · rw [Array.getElem?_setIfInBounds_ne (by omega), Array.getElem?_setIfInBounds_self]; simp [l2]
      · have hne : ∀ (b : Nat) (cs : Array Value), w6.heap[b]? = some (.cells cs 3 (0, 0)) → B ≠ b := fun b cs hc e => by
          rw [← e, hB6 ms0 h30] at hc
          injection hc with hc
          injection hc with _ hc
          exact absurd hc (by decide)
        exact hov.keep fun b cs hc => (heap_ne (hne b cs hc)).trans (heap_ne (hne b cs hc))
theorem RFrm.three {w w2 w6 : World} {R B m j : Nat} {v : Value} (h : RFrm w w2 R B) (hb : Below w2.heap.size (w2.setCell ⟨B, m, none⟩ (.bool true)) w6) : RFrm w (w6.setCell ⟨B, j, none⟩ v) R B :=
  (h.trans ⟨hb.os, hb.tape, hb.output, by have := hb.size; rw [size_setCell] at this; exact this, fun b hb' _ h2 => (hb.block b hb').trans (heap_ne (Ne.symm h2))⟩).trans (RFrm.set _ _ _ (.inr rfl))
/-- The root's cells and the size's. -/
theorem RefAt.nine {w : World} {lo R B : Nat} {s : GSt} {st : Int} {n : Nat} {a0 a1 a2 a3 a4 a5 a6 a7 : UInt8} (h : RefAt w lo R B s st) (hr : s.root = [a0, a1, a2, a3, a4, a5, a6, a7]) (hn : n = s.n) :
    w.cell? ⟨R, 0, none⟩ = some (.int .u8 a0.toNat) ∧ w.cell? ⟨R, 1, none⟩ = some (.int .u8 a1.toNat) ∧ w.cell? ⟨R, 2, none⟩ = some (.int .u8 a2.toNat) ∧ w.cell? ⟨R, 3, none⟩ = some (.int .u8 a3.toNat) ∧ w.cell? ⟨R, 4, none⟩ = some (.int .u8 a4.toNat) ∧ w.cell? ⟨R, 5, none⟩ = some (.int .u8 a5.toNat) ∧ w.cell? ⟨R, 6, none⟩ = some (.int .u8 a6.toNat) ∧ w.cell? ⟨R, 7, none⟩ = some (.int .u8 a7.toNat) ∧ w.cell? ⟨R, 8, none⟩ = some (.int .i64 n) := by
  obtain ⟨hroot, c8, _⟩ := h.fields
  rw [hr] at hroot
  subst hn
  have key : ∀ (j : Nat) (v : Value), (cells [a0, a1, a2, a3, a4, a5, a6, a7]).toList[j]? = some v → w.cell? ⟨R, j, none⟩ = some v := fun j v hv => by
    have := hroot j v hv
    rwa [Nat.zero_add] at this
  exact ⟨key 0 _ rfl, key 1 _ rfl, key 2 _ rfl, key 3 _ rfl, key 4 _ rfl, key 5 _ rfl, key 6 _ rfl, key 7 _ rfl, c8⟩
set_option maxHeartbeats 16000000 in
theorem refUn_go (w : World) (lo R B m g1 g2 g : Nat) (s : GSt) (st : Int) (f : ByteArray) (x0 x1 x2 : UInt8) (sl : List UInt8) (h : RefAt w lo R B s st) (hI : GInv s) (hcl : s.closed = false) (hx : f.data.toList = x0 :: x1 :: x2 :: sl) (h7 : 7 ≤ f.size) (h47 : f.size ≤ 47) (hm : m = x0.toNat) (hmn : m < s.n) (hmo : m ≠ s.own) (hg1 : g1 = x1.toNat) (hg2 : g2 = x2.toNat) (hg : g = 256 * g1 + g2) :
    Calls Tryz.prog 23 #[.pointer (some ⟨R, 0, none⟩), .string f] w fun e w' => OpenE (openC s m g [x0, x1, x2] sl)
      (e = .returned (.tuple #[.int .i64 m, .int .i64 g, .string ⟨(openT (keyS s m g) sl).toArray⟩, .int .i64 0]) ∧ (∀ c', RefAt w' lo R B (openN s m g c') (boundR s m g (f.size - 7))) ∧ RFrm w w' R B)
      (fun c => e = .returned (.tuple #[.int .i64 0, .int .i64 0, .string ⟨#[]⟩, .int .i64 c]) ∧ RefAt w' lo R B s (if c = 7 then boundR s m g (f.size - 7) else 0) ∧ RFrm w w' R B) := by
  obtain ⟨_, _, _, _, _, c12, fz⟩ := h.fields
  have hfz := fz 12
  obtain ⟨X, hX⟩ : ∃ X, X = w.setCell ⟨R, 12, none⟩ (.int .i64 0) := ⟨_, rfl⟩
  have hst := h.steps 0
  rw [← hX] at hst
  have hfr := RFrm.set (w := w) (R := R) (B := B) R 12 (.int .i64 0) (.inl rfl)
  rw [← hX] at hfr
  obtain ⟨_, x8, x9, x10, x11, _, _⟩ := hst.fields
  rw [hcl] at x11
  have hn16 := hI.n16
  have hmn0 := hmn
  obtain ⟨own, ho⟩ : ∃ own, own = s.own := ⟨_, rfl⟩
  obtain ⟨n, hn⟩ : ∃ n, n = s.n := ⟨_, rfl⟩
  rw [← ho] at x9 hmo
  rw [← hn] at x8 x10 hn16 hmn
  have hz0 : 0 < f.size := by omega
  have hz1 : 1 < f.size := by omega
  have hz2 : 2 < f.size := by omega
  have hb0 : (f[0]'hz0).toNat = m := by rw [first_byte hx hz0, hm]
  have hb1 : (f[1]'hz1).toNat = g1 := by rw [second_byte hx hz1, hg1]
  have hb2 : (f[2]'hz2).toNat = g2 := by rw [third_byte hx hz2, hg2]
  have hv0 : m < 256 := by rw [hm]; exact x0.toNat_lt
  have hv1 : g1 < 256 := by rw [hg1]; exact x1.toNat_lt
  have hv2 : g2 < 256 := by rw [hg2]; exact x2.toNat_lt
  have hi0 : (0 : Int) < (f.size : Nat) := by omega
  have hi1 : (1 : Int) < (f.size : Nat) := by omega
  have hi2 : (2 : Int) < (f.size : Nat) := by omega
  have d7 : decide ((f.size : Int) < 7) = false := decide_eq_false (by omega)
  have d47 : decide ((47 : Int) < (f.size : Nat)) = false := decide_eq_false (by omega)
  have dx : decide ((n : Int) ≤ (m : Int)) = false := decide_eq_false (by omega)
  have dxo : ((m : Int) == (own : Int)) = false := by simp; omega
  have hmI : (m : Int) < (n : Nat) := by omega
  have hm0 : (0 : Int) ≤ (m : Nat) := by omega
  have HX := Lib.hid hX
  have Hst := Lib.hid hst
  have Hfr := Lib.hid hfr
  have Ho := Lib.hid ho
  have Hn := Lib.hid hn
  have Hx := Lib.hid hx
  have Hmm := Lib.hid (And.intro hm (And.intro hg1 hg2))
  have Hmn := Lib.hid hmn0
  clear h fz hX hst hfr ho hn hx hm hg1 hg2 hmn0
  go_enter Tryz.func23, Tryz.ntmps23
  go_upto_region 2 with (fail)
  rw [← HX.out]
  go_upto_region 4 with (fail)
  go_quiet (fail)
  go_upto_region 10 with (fail)
  go_quiet (fail)
  rw [or_i64 g1 g2 hv1 hv2, ← hg]
  have hgt : g ≤ 65535 := by omega
  generalize hYe : World.drewN (World.drewN _ _) _ = Y
  have hY : RefAt Y lo R B s 0 := by rw [← hYe]; exact (Hst.out.drewN _).drewN _
  have hfY : RFrm w Y R B := by rw [← hYe]; exact (Hfr.out.drewN _).drewN _
  clear hYe Hst Hfr HX c12 hfz x8 x9 x10 x11 hg hv1 hv2
  obtain ⟨_, y8, _, _, _, y12, yz⟩ := hY.fields
  obtain ⟨_, m1, ⟨ov, m2, hov⟩, _⟩ := hY.member m Hmn.out
  obtain ⟨nx, hx⟩ : ∃ nx, nx = (s.M m).next := ⟨_, rfl⟩
  rw [← hx] at m1
  have hnx6 : nx ≤ 65536 := by rw [hx]; exact hI.next m
  have hfour := hI.four m
  have hrise := hI.rise m
  obtain ⟨at', hat, hcase⟩ : ∃ at' : Int, (Calls Tryz.prog 42 #[ov, .int .i64 g] Y fun e w' => e = .returned (.int .i64 at') ∧ w' = Y) ∧ ((g ∈ (s.M m).over ∧ g < nx ∧ ∃ k : Nat, at' = k ∧ k < (s.M m).over.length ∧ (s.M m).over.getD k 0 = g) ∨ (g ∉ (s.M m).over ∧ at' = -1)) := by
    by_cases hgo : g ∈ (s.M m).over
    · obtain ⟨k, hk, hkg⟩ := List.mem_iff_getElem.1 hgo
      have hkg' : (s.M m).over.getD k 0 = g := by rw [List.getD_eq_getElem?_getD, List.getElem?_eq_getElem hk]; exact hkg
      exact ⟨k, among_yes Y lo g ov _ k hov hrise hk hkg' (by omega), .inl ⟨hgo, by rw [hx]; exact hI.over m g hgo, k, rfl, hk, hkg'⟩⟩
    · exact ⟨-1, among_no Y lo g ov _ hov hgo (by omega), .inr ⟨hgo, rfl⟩⟩
  have Hat := Lib.hid hat
  have HY := Lib.hid hY
  have HfY := Lib.hid hfY
  have Hnx := Lib.hid hx
  have Hov := Lib.hid hov
  have Hcase := Lib.hid hcase
  have HI := Lib.hid hI
  have Hrise := Lib.hid hrise
  clear hat hY hfY hx hov hcase hI hrise
  go_upto_region 12 with (first
    | (go_at_call 42; refine Hat.out.mono ?_; rintro e w1 ⟨rfl, h1⟩; obtain rfl := h1.symm; go_frame))
  by_cases h5 : g < nx ∧ g ∉ (s.M m).over
  · have hO : openC s m g [x0, x1, x2] sl = some 5 := by rw [openC, if_pos (by rw [← Hnx.out]; exact h5.1), if_neg h5.2]
    obtain rfl : at' = -1 := by
      rcases Hcase.out with h | h
      · exact absurd h.1 h5.2
      · exact h.2
    have e1 : (g : Int) < (nx : Nat) := by omega
    have HO := Lib.hid hO
    clear hO h5
    go_wp2
    refine bodyPost_ret (results_tmp4 rfl _ _ _) rfl ?_
    rw [HO.out]
    exact ⟨rfl, by rw [if_neg (by decide)]; exact HY.out, HfY.out⟩
  · by_cases h6 : nx + 5 < g
    · have hO : openC s m g [x0, x1, x2] sl = some 6 := by rw [openC, if_neg (by rw [← Hnx.out]; omega), if_pos (by rw [← Hnx.out]; exact h6)]
      have e1 : ¬ (g : Int) < (nx : Nat) := by omega
      have e2 : (5 : Int) < (g : Int) - (nx : Nat) := by omega
      have HO := Lib.hid hO
      clear hO h5 h6
      go_wp2
      refine bodyPost_ret (results_tmp4 rfl _ _ _) rfl ?_
      rw [HO.out]
      exact ⟨rfl, by rw [if_neg (by decide)]; exact HY.out, HfY.out⟩
    · have hO : openC s m g [x0, x1, x2] sl = if opensB (keyS s m g) [x0, x1, x2] sl = true then none else some 7 := by
        by_cases hlt : g < nx
        · rw [openC, if_pos (by rw [← Hnx.out]; exact hlt), if_pos (Decidable.not_not.1 fun e => h5 ⟨hlt, e⟩)]
        · rw [openC, if_neg (by rw [← Hnx.out]; exact hlt), if_neg (by rw [← Hnx.out]; exact h6)]
      have e2 : ¬ (5 : Int) < (g : Int) - (nx : Nat) := by omega
      have HO := Lib.hid hO
      have H5 := Lib.hid h5
      clear hO h5
      go_cut [11, 81] (fun s11 s81 wx => s11 = .int .i64 at' ∧ s81 = .bool false ∧ wx = Y)
      case first =>
        by_cases hlt : g < nx
        · have e1 : (g : Int) < (nx : Nat) := by omega
          obtain ⟨k, rfl⟩ : ∃ k : Nat, at' = k := by
            rcases Hcase.out with ⟨_, _, k, h, _⟩ | h
            · exact ⟨k, h⟩
            · exact absurd ⟨hlt, h.1⟩ H5.out
          have e3 : ¬ (k : Int) < 0 := by omega
          go_wp2_with fail
          go_meet
          exact ⟨rfl, rfl, rfl⟩
        · have e1 : ¬ (g : Int) < (nx : Nat) := by omega
          go_wp2_with fail
          go_meet
          exact ⟨rfl, rfl, rfl⟩
      case rest =>
        obtain ⟨rfl, rfl, rfl⟩ := hcut
        obtain ⟨bd, hbd⟩ : ∃ bd, bd = boundR s m g (f.size - 7) := ⟨_, rfl⟩
        have hbnd := bound_any wc lo R B m g (f.size - 7) s 0 HY.out HI.out.n16 Hmn.out (HI.out.next m) hgt (by omega)
        rw [← hbd] at hbnd
        have hq : ((f.size : Int) - 7) = ((f.size - 7 : Nat) : Int) := by omega
        have yf := yz 12
        have hsl : (3 : Int) ≤ (f.size : Nat) := by omega
        have Hbnd := Lib.hid hbnd
        have Hq := Lib.hid hq
        have Hbd := Lib.hid hbd
        clear hbnd hq hbd yz Hat h1
        go_upto_region 17 with (first
          | (go_at_call 39; rw [Hq.out]; refine Hbnd.out.mono ?_; rintro e w1 ⟨rfl, h1⟩; obtain rfl := h1.symm; go_frame))
        have hZ := HY.out.steps (bd : Nat)
        have hfZ := HfY.out.trans (RFrm.set (w := wc) (R := R) (B := B) R 12 (.int .i64 bd) (.inl rfl))
        generalize World.setCell wc ⟨R, 12, none⟩ _ = Z at hZ hfZ ⊢
        clear y8 y12 yf m1 m2 HY HfY Hov Hbnd
        obtain ⟨a0, a1, a2, a3, a4, a5, a6, a7, hr⟩ := eight HI.out.root
        obtain ⟨z0, z1, z2, z3, z4, z5, z6, z7, z8⟩ := hZ.nine hr Hn.out
        have hRZ : R < Z.heap.size := block_lt_of_cell z0
        have hRT : R ≠ Z.heap.size := by omega
        obtain ⟨k, hk⟩ : ∃ k, k = keyS s m g := ⟨_, rfl⟩
        have hkl : k.length = 8 := by rw [hk]; exact kd_length _ _ _
        have hkey := fun W => refKey_yes W s.root s.n m g HI.out.root Hmn.out HI.out.n16 hgt
        have hke : keyL (leafL s.root s.n m) g = k := by rw [hk]; rfl
        rw [hke, ← Hn.out, hr] at hkey
        have hstA := fun w => run_storeCells_fresh (P := Tryz.prog) k hkl w 36
        have hks : (cells k).size = 8 := by rw [cells_size, hkl]
        have HZ := Lib.hid hZ
        have HfZ := Lib.hid hfZ
        have Hkey := Lib.hid hkey
        have Hr := Lib.hid hr
        have Hk := Lib.hid hk
        have Hkl := Lib.hid hkl
        clear hZ hfZ hkey hr hk hke hkl
        go_cut [12, 13] (fun s12 s13 wx => ∃ T, s12 = .pointer (some ⟨T, 0, none⟩) ∧ s13 = .int .i64 0 ∧ Z.heap.size ≤ T ∧ wx.heap[T]? = some (.cells (cells k) 36 (0, 0)) ∧ Below Z.heap.size Z wx)
        case first =>
          go_region_held3 (fun w' => w'.cell? ⟨R, 0, none⟩ = some (.int .u8 a0.toNat) ∧ w'.cell? ⟨R, 1, none⟩ = some (.int .u8 a1.toNat) ∧ w'.cell? ⟨R, 2, none⟩ = some (.int .u8 a2.toNat) ∧ w'.cell? ⟨R, 3, none⟩ = some (.int .u8 a3.toNat) ∧ w'.cell? ⟨R, 4, none⟩ = some (.int .u8 a4.toNat) ∧ w'.cell? ⟨R, 5, none⟩ = some (.int .u8 a5.toNat) ∧ w'.cell? ⟨R, 6, none⟩ = some (.int .u8 a6.toNat) ∧ w'.cell? ⟨R, 7, none⟩ = some (.int .u8 a7.toNat) ∧ w'.cell? ⟨R, 8, none⟩ = some (.int .i64 n)) (refine ⟨?_, ?_, ?_, ?_, ?_, ?_, ?_, ?_, ?_⟩ <;> (first | with_reducible assumption | (simp only [World.cell?_drew]; with_reducible assumption) | ((try simp only [World.cell?_drew]); rw [World.cell?_alloc_past _ _ _ hR2]; assumption) | ((try simp only [World.cell?_drew]); rw [World.cell?_alloc_past _ _ _ hRZ]; assumption) | ((try simp only [World.cell?_drew]); rw [World.cell?_of_block (setRow_other _ _ _ _ hRT)]; assumption))) (first | (go_at_call 36; refine (Hkey.out _).mono ?_; rintro e w2 ⟨rfl, hb2⟩; have hw2 : RefAt w2 lo R B s bd := (by first | exact HZ.out.drew.below hb2 | exact ((HZ.out.below (balloc (Below.refl _ _) _)).drew).below hb2); have Hw2 := Lib.hid hw2; clear hw2; obtain ⟨z0, z1, z2, z3, z4, z5, z6, z7, z8⟩ := Hw2.out.nine Hr.out Hn.out; have hR2 := block_lt_of_cell z0; (first | (have zr := (hb2.block Z.heap.size (by simp)).trans (heap_alloc_new Z _); have hstB := run_storeCells_row (P := Tryz.prog) zr k (by rw [Hkl.out]; rfl); have Zr := Lib.hid zr; clear zr) | skip)))
          · go_wp2_with fail
            go_meet
            exact ⟨w2.heap.size, rfl, rfl, hb2.size, heap_alloc_new _ _, balloc (bnext (Below.refl _ _).drew hb2) _⟩
          · go_wp2_with fail
            go_meet
            exact ⟨Z.heap.size, rfl, rfl, Nat.le_refl _, setRow_heap _ _ _ _ _ _ Zr.out, below_setRow (bnext (balloc (Below.refl _ _) _).drew hb2) (Nat.le_refl _) _⟩
        case rest =>
          obtain ⟨T, rfl, rfl, hT, hTk, hb⟩ := hcut
          clear z0 z1 z2 z3 z4 z5 z6 z7 z8 hRZ hRT
          have hw := HZ.out.below hb
          have hfw := HfZ.out.below hb
          obtain ⟨k0, k1, k2, k3, k4, k5, k6, k7, hk8⟩ := eight Hkl.out
          have Hk8 := Lib.hid hk8
          clear hk8
          have Hc : Hid (#[Value.int .u8 k0.toNat, .int .u8 k1.toNat, .int .u8 k2.toNat, .int .u8 k3.toNat, .int .u8 k4.toNat, .int .u8 k5.toNat, .int .u8 k6.toNat, .int .u8 k7.toNat] = cells k) := Lib.hid (by rw [Hk8.out]; rfl)
          obtain ⟨e0, e1, e2', e3, e4, e5, e6, e7⟩ := eight_cells' Hk8.out hTk
          have hTl : T < wc.heap.size := (Array.getElem?_eq_some_iff.1 hTk).1
          obtain ⟨hd, hhd⟩ : ∃ hd, hd = f.extract 0 3 := ⟨_, rfl⟩
          obtain ⟨tl, htl⟩ : ∃ tl, tl = f.extract 3 f.size := ⟨_, rfl⟩
          have hdl : hd.data.toList = [x0, x1, x2] := by rw [hhd]; simp [Hx.out]
          have hsz : f.size = sl.length + 3 := by have h := congrArg List.length Hx.out; simpa using h
          have htll : tl.data.toList = sl := by rw [htl]; simp [Hx.out, hsz]
          clear hsz
          have hopn := fun W => refOpen_any W k hd tl Hkl.out (by rw [hhd, ByteArray.size_extract]; omega) (by rw [htl, ByteArray.size_extract]; omega)
          simp only [hdl, htll] at hopn
          have HTk := Lib.hid hTk
          have Hw := Lib.hid hw
          have Hfw := Lib.hid hfw
          have Hb := Lib.hid hb
          have Hhd := Lib.hid hhd
          have Htl := Lib.hid htl
          have Hdl := Lib.hid hdl
          have Htll := Lib.hid htll
          clear hTk hw hfw hb hhd htl hdl htll
          go_upto_region 18 with (fail)
          cases hob : opensB k [x0, x1, x2] sl with
          | false =>
            simp only [hob] at hopn
            have Hopn := Lib.hid hopn
            have Hob := Lib.hid hob
            clear hopn hob
            go_region_held3 (fun w' => w'.cell? ⟨T, 0, none⟩ = some (.int .u8 k0.toNat) ∧ w'.cell? ⟨T, 1, none⟩ = some (.int .u8 k1.toNat) ∧ w'.cell? ⟨T, 2, none⟩ = some (.int .u8 k2.toNat) ∧ w'.cell? ⟨T, 3, none⟩ = some (.int .u8 k3.toNat) ∧ w'.cell? ⟨T, 4, none⟩ = some (.int .u8 k4.toNat) ∧ w'.cell? ⟨T, 5, none⟩ = some (.int .u8 k5.toNat) ∧ w'.cell? ⟨T, 6, none⟩ = some (.int .u8 k6.toNat) ∧ w'.cell? ⟨T, 7, none⟩ = some (.int .u8 k7.toNat)) (refine ⟨?_, ?_, ?_, ?_, ?_, ?_, ?_, ?_⟩ <;> (first | with_reducible assumption | (simp only [World.cell?_drew]; with_reducible assumption))) (first | (go_at_call 43; rw [Hc.out, ← Hhd.out, ← Htl.out]; refine (Hopn.out _).mono ?_; rintro e w2 ⟨rfl, hb2⟩; have hrow2 := Lib.hid ((hb2.block _ hTl).trans HTk.out); obtain ⟨j0, j1, j2, j3, j4, j5, j6, j7⟩ := eight_cells' Hk8.out hrow2.out))
            go_wp2_with fail
            refine bodyPost_ret (results_tmp4 rfl _ _ _) rfl ?_
            rw [HO.out, ← Hk.out, Hob.out, if_neg (by decide), ← Hbd.out]
            exact ⟨rfl, by rw [if_pos rfl]; exact Hw.out.drew.below hb2, Hfw.out.drew.below hb2⟩
          | true =>
            simp only [hob] at hopn
            have Hopn := Lib.hid hopn
            have Hob := Lib.hid hob
            clear hopn hob
            go_region_held3 (fun w' => w'.cell? ⟨T, 0, none⟩ = some (.int .u8 k0.toNat) ∧ w'.cell? ⟨T, 1, none⟩ = some (.int .u8 k1.toNat) ∧ w'.cell? ⟨T, 2, none⟩ = some (.int .u8 k2.toNat) ∧ w'.cell? ⟨T, 3, none⟩ = some (.int .u8 k3.toNat) ∧ w'.cell? ⟨T, 4, none⟩ = some (.int .u8 k4.toNat) ∧ w'.cell? ⟨T, 5, none⟩ = some (.int .u8 k5.toNat) ∧ w'.cell? ⟨T, 6, none⟩ = some (.int .u8 k6.toNat) ∧ w'.cell? ⟨T, 7, none⟩ = some (.int .u8 k7.toNat)) (refine ⟨?_, ?_, ?_, ?_, ?_, ?_, ?_, ?_⟩ <;> (first | with_reducible assumption | (simp only [World.cell?_drew]; with_reducible assumption))) (first | (go_at_call 43; rw [Hc.out, ← Hhd.out, ← Htl.out]; refine (Hopn.out _).mono ?_; rintro e w2 ⟨rfl, hb2⟩; have hrow2 := Lib.hid ((hb2.block _ hTl).trans HTk.out); obtain ⟨j0, j1, j2, j3, j4, j5, j6, j7⟩ := eight_cells' Hk8.out hrow2.out))
            have hV := Hw.out.drew.below hb2
            have hfV := Hfw.out.drew.below hb2
            clear e0 e1 e2' e3 e4 e5 e6 e7 j0 j1 j2 j3 j4 j5 j6 j7 hTl
            obtain ⟨v0, v1, ⟨ov, v2, hov⟩, vz⟩ := hV.member m Hmn.out
            rw [← Hnx.out] at v1
            have vz0 := vz (m * 3)
            obtain ⟨U, hU⟩ : ∃ U, U = w2.setCell ⟨B, m * 3, none⟩ (.bool true) := ⟨_, rfl⟩
            have u1 : U.cell? ⟨B, m * 3 + 1, none⟩ = some (.int .i64 nx) := by rw [hU]; exact (World.cell?_setCell_other _ _ _ _ (by simp)).trans v1
            have u2 : U.cell? ⟨B, m * 3 + 2, none⟩ = some ov := by rw [hU]; exact (World.cell?_setCell_other _ _ _ _ (by simp)).trans v2
            have uz1 : U.frozen? ⟨B, m * 3 + 1, none⟩ = false := by rw [hU, World.frozen?_setCell]; exact vz _
            have uz2 : U.frozen? ⟨B, m * 3 + 2, none⟩ = false := by rw [hU, World.frozen?_setCell]; exact vz _
            have hBl : B < U.heap.size := block_lt_of_cell u1
            have hUo : OverAt U lo ov (s.M m).over := by
              rw [hU]
              exact hov.keep fun b cs hb' => heap_ne (fun e => by
                obtain ⟨_, ⟨ms, h3, _⟩, _, _⟩ := hV
                rw [← e, h3] at hb'
                injection hb' with hb'
                injection hb' with _ hb'
                exact absurd hb' (by decide))
            have hUk : ∀ b, b ≠ B → U.heap[b]? = w2.heap[b]? := fun b e => by rw [hU]; exact heap_ne (Ne.symm e)
            have hUs : U.heap.size = w2.heap.size := by rw [hU, size_setCell]
            have hUB : ∀ ms, w2.heap[B]? = some (.cells ms 111 (0, 0)) → U.heap[B]? = some (.cells (ms.setIfInBounds (m * 3) (.bool true)) 111 (0, 0)) := fun ms h => by rw [hU]; exact heap_setCell_same _ _ _ _ _ _ h
            have HV := Lib.hid hV
            have HfV := Lib.hid hfV
            have HU := Lib.hid hU
            have HUk := Lib.hid hUk
            have HUs := Lib.hid hUs
            have HUB := Lib.hid hUB
            clear hV hfV hU hUk hUs hUB vz
            rcases Hcase.out with ⟨hgo, hlt, i, rfl, hi, hig⟩ | ⟨hgo, rfl⟩
            · obtain ⟨nn, hnn⟩ : ∃ nn, nn = (s.M m).over.length := ⟨_, rfl⟩
              obtain ⟨ao, c, rfl, hc, hnone, hnews⟩ := overAt_form hUo
              rw [← hnn] at hi hc hnone hfour u2
              obtain ⟨ad, rfl⟩ : ∃ ad, ao = some ad := by
                cases ao with
                | none => have := (hnone rfl).1; omega
                | some ad => exact ⟨ad, rfl⟩
              obtain ⟨⟨b, o, rfl⟩, hcs⟩ := hnews _ rfl
              have b0 : (0 : Int) ≤ (i : Nat) := by omega
              have b1 : (0 : Int) ≤ (i : Int) + 1 := by omega
              have b2 : (i : Int) ≤ (c : Nat) := by omega
              have b3 : (i : Int) + 1 ≤ (nn : Nat) := by omega
              have b4 : ((i : Int) + 1).toNat = i + 1 := by omega
              obtain ⟨i0, ji, jz0, jz1, jz2⟩ := info_parts infoInt
              have Hji := Lib.hid ji
              have Hjz0 := Lib.hid jz0
              have Hjz1 := Lib.hid jz1
              have Hjz2 := Lib.hid jz2
              have Hnn := Lib.hid hnn
              have Hcs := Lib.hid hcs
              have Hig := Lib.hid hig
              have Hlt := Lib.hid hlt
              have Hhc := Lib.hid hc
              clear ji jz0 jz1 jz2 hnn hcs hig hlt hnone hnews hUo hov
              obtain ⟨ad2, had2⟩ : ∃ ad2, (if c = i + 1 then some (⟨b, o, none⟩ : Addr) else some ⟨b, o + (i + 1), none⟩) = some ad2 := by
                split
                · exact ⟨_, rfl⟩
                · exact ⟨_, rfl⟩
              have hA : ∀ (j : Nat) (u : Value), (natV ((s.M m).over.take i))[j]? = some u → U.cell? ((⟨b, o, none⟩ : Addr).add j) = some u := fun j u hu => by
                refine Hcs.out j u ?_
                rw [natV, List.map_take, List.getElem?_take] at hu
                split at hu
                · exact hu
                · cases hu
              have hBk : ∀ (j : Nat) (u : Value), (natV ((s.M m).over.drop (i + 1)))[j]? = some u → U.cell? (ad2.add j) = some u := fun j u hu => by
                rw [natV, List.map_drop, List.getElem?_drop] at hu
                have hj := (List.getElem?_eq_some_iff.1 hu).1
                rw [List.length_map, ← Hnn.out] at hj
                have h1 := Hcs.out _ u hu
                rw [if_neg (by have := Hhc.out; omega)] at had2
                obtain rfl := Option.some.inj had2
                rw [Addr.add_lit, Nat.add_assoc]
                rw [Addr.add_lit] at h1
                exact h1
              have hA1 : ∀ (j : Nat) (u : Value), (natV ((s.M m).over.take i))[j]? = some u → (U.drew.alloc (.cells #[] 3)).cell? ((⟨b, o, none⟩ : Addr).add j) = some u := cell_old_row (W := U.drew) hA _
              have hB1 : ∀ (j : Nat) (u : Value), (natV ((s.M m).over.drop (i + 1)))[j]? = some u → (U.drew.alloc (.cells #[] 3)).cell? (ad2.add j) = some u := cell_old_row (W := U.drew) hBk _
              have hB2 : ∀ w1 : World, (U.drew.alloc (.cells #[] 3)).grownBy w1 (some U.heap.size) → ∀ (j : Nat) (u : Value), (natV ((s.M m).over.drop (i + 1)))[j]? = some u → w1.cell? (ad2.add j) = some u := fun w1 hg1 j u hu => by
                have hlt := block_lt_of_cell (hBk j u hu)
                rw [hg1.cell_far _ (by rw [World.size_alloc]; exact Nat.lt_succ_of_lt hlt) (fun e => by have := Option.some.inj e; omega)]
                exact hB1 j u hu
              have hlA : (natV ((s.M m).over.take i)).length = i * 1 := by rw [natV_len, List.length_take]; have := Hnn.out; omega
              have hlB : (natV ((s.M m).over.drop (i + 1))).length = (nn - (i + 1)) * 1 := by rw [natV_len, List.length_drop]; have := Hnn.out; omega
              have hmade : (U.drew.alloc (.cells #[] 3)).ownsRow U.heap.size 3 1 (.slice (some ⟨U.heap.size, 0, none⟩) 0 0) 0 [] := World.ownsRow_made U.drew #[] 0 (Nat.le_refl _) (by decide) rfl
              have hle1 : 0 + i ≤ maxLen := by unfold maxLen; omega
              have hle2 : (0 + i) * 8 ≤ 140737488355328 := by omega
              have hle3 : i + (nn - (i + 1)) ≤ maxLen := by unfold maxLen; omega
              have hle4 : (i + (nn - (i + 1))) * 8 ≤ 140737488355328 := by omega
              have hle5 : U.heap.size ≤ (U.drew.alloc (.cells #[] 3)).heap.size := by rw [World.size_alloc]; exact Nat.le_succ _
              have hC5 : ∀ w1 : World, (U.drew.alloc (.cells #[] 3)).grownBy w1 (some U.heap.size) → w1.cell? ⟨B, m * 3 + 2, none⟩ = some (.slice (some ⟨b, o, none⟩) nn c) ∧ w1.frozen? ⟨B, m * 3 + 2, none⟩ = false := fun w1 hg1 => by
                have hlt : B < (U.drew.alloc (.cells #[] 3)).heap.size := by rw [World.size_alloc]; exact Nat.lt_succ_of_lt hBl
                have hne : some B ≠ some U.heap.size := fun e => by have := Option.some.inj e; omega
                refine ⟨(hg1.cell_far ⟨B, m * 3 + 2, none⟩ hlt hne).trans ?_, (hg1.frozen_far ⟨B, m * 3 + 2, none⟩ hlt hne).trans ?_⟩
                · rw [World.cell?_alloc_past _ _ _ (by exact hBl)]; exact u2
                · rw [World.frozen?_alloc_old _ _ _ (by show B ≠ U.drew.heap.size; exact Nat.ne_of_lt hBl)]; exact uz2
              have hC6 : ∀ (w1 w3 : World) (v : Value) (x : List Value), w1.ownsRow U.heap.size 3 1 v i x → w1.grownBy w3 v.ownBlock → w1.cell? ⟨B, m * 3 + 2, none⟩ = some (.slice (some ⟨b, o, none⟩) nn c) → w1.frozen? ⟨B, m * 3 + 2, none⟩ = false → w3.cell? ⟨B, m * 3 + 2, none⟩ = some (.slice (some ⟨b, o, none⟩) nn c) ∧ w3.frozen? ⟨B, m * 3 + 2, none⟩ = false := fun w1 w3 v x ho hg h1 h2 => by
                have hlt := block_lt_of_cell h1
                have hne : some B ≠ v.ownBlock := fun e => by have := (ho.lt B e.symm).1; omega
                exact ⟨(hg.cell_far ⟨B, m * 3 + 2, none⟩ hlt hne).trans h1, (hg.frozen_far ⟨B, m * 3 + 2, none⟩ hlt hne).trans h2⟩
              have HC5 := Lib.hid hC5
              have HC6 := Lib.hid hC6
              clear hC5 hC6
              have HA1 := Lib.hid hA1
              have HB2 := Lib.hid hB2
              have HlA := Lib.hid hlA
              have HlB := Lib.hid hlB
              have Hmade := Lib.hid hmade
              have Hle := Lib.hid (And.intro hle1 (And.intro hle2 (And.intro hle3 (And.intro hle4 hle5))))
              clear hA hBk hA1 hB1 hB2 hlA hlB hmade hle1 hle2 hle3 hle4 hle5
              go_upto_region 23 with (fail)
              rw [← HU.out]
              have hwr : IntKind.i64.wrap ((i : Int) + 1) = (i : Int) + 1 := IntWalk.i64_in _ (by omega)
              go_region_law (first
                | (refine step_append_at _ (by rfl) (.tmp 130) (.tmp 136) 22 (by rfl) U.heap.size 3 i0 (.int .i64 0) 1 8 Tryz.underlying22 Hji.out Hjz0.out Hjz1.out Hjz2.out rfl (by decide) (.slice (some ⟨U.heap.size, 0, none⟩) 0 0) 0 [] (by rfl) Hmade.out ⟨b, o, none⟩ i c (natV ((s.M m).over.take i)) (by rfl) HlA.out HA1.out (natV_one _) Hle.out.1 Hle.out.2.1 Hle.out.2.2.2.2 ?_; intro v5 w5 ho5 hg5; rw [Nat.zero_add, List.nil_append] at ho5; have Ho5 := Lib.hid ho5; have Hg5 := Lib.hid hg5; obtain ⟨x5, y5⟩ := HC5.out _ hg5; clear ho5 hg5)
                | (refine step_append_at _ (by rfl) (.tmp 137) (.tmp 144) 22 (by rfl) U.heap.size 3 i0 (.int .i64 0) 1 8 Tryz.underlying22 Hji.out Hjz0.out Hjz1.out Hjz2.out rfl (by decide) v5 i (natV ((s.M m).over.take i)) (by rfl) Ho5.out ad2 (nn - (i + 1)) (c - (i + 1)) (natV ((s.M m).over.drop (i + 1))) (by rfl) HlB.out (HB2.out _ Hg5.out) (natV_one _) Hle.out.2.2.1 Hle.out.2.2.2.1 (Nat.le_trans Hle.out.2.2.2.2 Hg5.out.size) ?_; intro v6 w6 ho6 hg6; obtain ⟨p6, c6, rfl⟩ := row_form ho6; have Ho6 := Lib.hid ho6; have Hg6 := Lib.hid hg6; obtain ⟨x6, y6⟩ := HC6.out _ _ _ _ Ho5.out hg6 x5 y5; clear ho6 hg6))
              all_goals
                clear hwr
                go_wp2
                refine bodyPost_ret (results_tmp4 rfl _ _ _) rfl ?_
                rw [HO.out, ← Hk.out, Hob.out, if_pos rfl, ← Hbd.out]
                have hb5 := (balloc (Below.refl U.heap.size U) (.cells #[] 3)).drew.grown Hg5.out (by rw [World.size_drew, World.size_alloc]; exact Nat.le_succ _) (fun k e => by cases e; exact Nat.le_refl _)
                have hb6 := hb5.grown Hg6.out hb5.size (fun k e => (Ho5.out.lt k e).1)
                rw [HUs.out, HU.out] at hb6
                refine ⟨rfl, fun c' => ?_, RFrm.three HfV.out hb6⟩
                have hl : (s.M m).over.take i ++ (s.M m).over.drop (i + 1) = (s.M m).over.filter (fun x => x != g) := by
                  rw [rise_less _ i Hrise.out (by rw [← Hnn.out]; exact hi), Hig.out]
                have ho := Ho6.out
                have hlen : i + (nn - (i + 1)) = ((s.M m).over.filter (fun x => x != g)).length := by
                  rw [← hl, List.length_append, List.length_take, List.length_drop, ← Hnn.out]; omega
                have hnat : natV ((s.M m).over.take i) ++ natV ((s.M m).over.drop (i + 1)) = natV ((s.M m).over.filter (fun x => x != g)) := by rw [← hl, natV, natV, natV, List.map_append]
                rw [hnat, hlen] at ho
                rw [hlen]
                have hov6 := overAt_row (lo := lo) ho (by have := HV.out.loB; omega)
                have hbeg : (s.M m).begun = true := by
                  cases hbg : (s.M m).begun with
                  | true => rfl
                  | false => rw [(HI.out.none m hbg).2] at hgo; cases hgo
                have hsame : (w6.setCell ⟨B, m * 3 + 2, none⟩ (.slice p6 ((s.M m).over.filter (fun x => x != g)).length c6)) = (w6.setCell ⟨B, m * 3 + 2, none⟩ (.slice p6 ((s.M m).over.filter (fun x => x != g)).length c6)).setCell ⟨B, m * 3 + 1, none⟩ (.int .i64 (s.M m).next) := by
                  refine (setCell_self ?_).symm
                  rw [World.cell?_setCell_other _ _ _ _ (by simp), World.cell?_of_block (a := ⟨B, m * 3 + 1, none⟩) (hb6.block B (by rw [← HUs.out]; exact hBl)), ← HU.out, ← Hnx.out]
                  exact u1
                have hfin := HV.out.three m Hmn.out hb6 hov6 hsame c'
                rw [openN, if_pos (by rw [← Hnx.out]; exact Hlt.out), delS]
                rw [show ({ s.M m with over := (s.M m).over.filter (fun x => x != g) } : Mem) = ⟨true, (s.M m).next, (s.M m).over.filter (fun x => x != g)⟩ by rw [← hbeg]]
                exact hfin
            · have hge : nx ≤ g := Nat.le_of_not_lt fun h => H5.out ⟨h, hgo⟩
              obtain ⟨nn, hnn⟩ : ∃ nn, nn = (s.M m).over.length := ⟨_, rfl⟩
              obtain ⟨ao, c, rfl, hc, hnone, hnews⟩ := overAt_form hUo
              rw [← hnn] at hc hnone hfour u2
              obtain ⟨i0, ji, jz0, jz1, jz2⟩ := info_parts infoInt
              have Hji := Lib.hid ji
              have Hjz0 := Lib.hid jz0
              have Hjz1 := Lib.hid jz1
              have Hjz2 := Lib.hid jz2
              obtain ⟨ov0, hov0⟩ : ∃ l, l = (s.M m).over := ⟨_, rfl⟩
              rw [← hov0] at hnn hnews
              have hnew1 : ∀ ad, ao = some ad → ∀ (j : Nat) (u : Value), (natV ov0)[j]? = some u → (U.alloc (.cells #[] 3)).cell? (ad.add j) = some u := fun ad e => cell_old_row (hnews ad e).2 _
              have hl1 : (natV ov0).length = nn * 1 := by rw [natV_len, hnn, Nat.mul_one]
              have hmade : (U.alloc (.cells #[] 3)).ownsRow U.heap.size 3 1 (.slice (some ⟨U.heap.size, 0, none⟩) 0 0) 0 [] := World.ownsRow_made U #[] 0 (Nat.le_refl _) (by decide) rfl
              have hle1 : 0 + nn ≤ maxLen ∧ (0 + nn) * 8 ≤ 140737488355328 ∧ U.heap.size ≤ (U.alloc (.cells #[] 3)).heap.size := ⟨by unfold maxLen; omega, by omega, by rw [World.size_alloc]; exact Nat.le_succ _⟩
              have Hnn := Lib.hid hnn
              have Hov0 := Lib.hid hov0
              have Hnew1 := Lib.hid hnew1
              have Hl1 := Lib.hid hl1
              have Hmade := Lib.hid hmade
              have Hle1 := Lib.hid hle1
              have Hnone := Lib.hid hnone
              clear ji jz0 jz1 jz2 hnn hov0 hnew1 hl1 hmade hle1 hnone hnews hUo hov hc
              go_upto_region 25 with (fail)
              rw [← HU.out]
              go_upto_region 26 with (at_builtin; go_must (refine wpList_append_opt _ rfl (.tmp 151) (.tmp 155) 22 (by rfl) U.heap.size 3 i0 (.int .i64 0) 1 8 Tryz.underlying22 Hji.out Hjz0.out Hjz1.out Hjz2.out rfl (by decide) (.slice (some ⟨U.heap.size, 0, none⟩) 0 0) 0 [] (by rfl) Hmade.out ao nn c (natV ov0) (by rfl) Hl1.out Hnone.out Hnew1.out (natV_one _) Hle1.out.1 Hle1.out.2.1 Hle1.out.2.2 ?_); intro v5 w5 ho5 hg5; have Ho5 := Lib.hid ho5; have Hg5 := Lib.hid hg5; clear ho5 hg5; go_frame)
              have hb5 := (balloc (Below.refl U.heap.size U) (.cells #[] 3)).grown Hg5.out Hle1.out.2.2 (fun k e => by cases e; exact Nat.le_refl _)
              have ho5 : w5.ownsRow U.heap.size 3 1 v5 (uptoL ov0 nx nx).length (natV (uptoL ov0 nx nx)) := by
                have h := Ho5.out
                rw [Nat.zero_add, List.nil_append, Hnn.out] at h
                rw [uptoL_self]; exact h
              have u1' : w5.cell? ⟨B, m * 3 + 1, none⟩ = some (.int .i64 nx) := (hb5.cell hBl).trans u1
              have Hb5 := Lib.hid hb5
              have Ho5' := Lib.hid ho5
              clear hb5 ho5 Ho5 Hg5
              go_upto_region 27 with (fail)
              go_loopw [16, 17] (fun lv iv wr => ∃ j : Nat, nx ≤ j ∧ j ≤ g ∧ iv = .int .i64 j ∧ wr.ownsRow U.heap.size 3 1 lv (uptoL ov0 nx j).length (natV (uptoL ov0 nx j)) ∧ Below U.heap.size U wr) (fun _ iv _ => g - (intOf iv).toNat)
              case atStart => exact ⟨nx, Nat.le_refl _, hge, rfl, Ho5'.out, Hb5.out⟩
              case round =>
                clear u1' Hb5 Ho5'
                obtain ⟨j, hj1, hj2, rfl, hown, hbr⟩ := hrel
                have Hown := Lib.hid hown
                have Hbr := Lib.hid hbr
                clear hown hbr
                have hlen : (uptoL ov0 nx j).length ≤ 100 := by rw [uptoL_len, ← Hnn.out]; omega
                by_cases hj : j < g
                · have hjI : (j : Int) < (g : Nat) := by omega
                  have hj0 : (0 : Int) ≤ (j : Nat) := by omega
                  have hle : (uptoL ov0 nx j).length + 1 ≤ maxLen ∧ ((uptoL ov0 nx j).length + 1) * 8 ≤ 140737488355328 ∧ U.heap.size ≤ (wr.alloc (.cells #[.int .i64 j] 3)).heap.size := ⟨by unfold maxLen; omega, by omega, by rw [World.size_alloc]; have := Hbr.out.size; omega⟩
                  have Hle := Lib.hid hle
                  clear hle hlen
                  go_wp2_with (at_builtin; go_must (refine wpList_append_opt _ rfl (.tmp 166) (.tmp 168) 22 (by rfl) U.heap.size 3 i0 (.int .i64 0) 1 8 Tryz.underlying22 Hji.out Hjz0.out Hjz1.out Hjz2.out rfl (by decide) u16 (uptoL ov0 nx j).length (natV (uptoL ov0 nx j)) (by rfl) (ownsRow_below Hown.out (balloc (Below.refl _ _) _)) (some ⟨wr.heap.size, 0, none⟩) 1 1 [.int .i64 j] (by rfl) rfl (fun e => by cases e) (made_one _ _ _) (fun u hu => by rw [List.mem_singleton.1 hu]; rfl) Hle.out.1 Hle.out.2.1 Hle.out.2.2 ?_); intro v6 w6 ho6 hg6; have Ho6 := Lib.hid ho6; have Hg6 := Lib.hid hg6; clear ho6 hg6; go_frame)
                  go_roundw
                  case rel =>
                    refine ⟨j + 1, by omega, by omega, by go_num, ?_, (Hbr.out.alloc Hbr.out.size _).grown Hg6.out Hle.out.2.2 (fun k e => (Hown.out.lt k e).1)⟩
                    have h := Ho6.out
                    rw [← uptoL_succ _ _ _ hj1] at h
                    rw [uptoL_len]
                    rw [uptoL_len] at h
                    have e1 : ov0.length + (j + 1 - nx) = ov0.length + (j - nx) + 1 := by omega
                    rw [e1]
                    exact h
                  case measure => simp only [intOf]; omega
                · obtain rfl : g = j := by omega
                  have hjI : ¬ (g : Int) < (g : Nat) := by omega
                  obtain ⟨nl, hnl⟩ : ∃ nl, nl = (uptoL ov0 nx g).length := ⟨_, rfl⟩
                  obtain ⟨pu, cu, rfl⟩ := row_form Hown.out
                  have hall : uptoL ov0 nx g = allG s m g := by rw [uptoL, allG, Hov0.out, Hnx.out]
                  rw [← hnl] at hlen ⊢
                  have Hnl := Lib.hid hnl
                  have Hall := Lib.hid hall
                  have q1 : wr.cell? ⟨B, m * 3 + 1, none⟩ = some (.int .i64 nx) := (Hbr.out.cell hBl).trans u1
                  have q2 : wr.cell? ⟨B, m * 3 + 2, none⟩ = some (.slice ao nn c) := (Hbr.out.cell hBl).trans u2
                  have qz1 : wr.frozen? ⟨B, m * 3 + 1, none⟩ = false := (World.frozen?_of_block (a := ⟨B, m * 3 + 1, none⟩) (Hbr.out.block B hBl)).trans uz1
                  have qz2 : wr.frozen? ⟨B, m * 3 + 2, none⟩ = false := (World.frozen?_of_block (a := ⟨B, m * 3 + 2, none⟩) (Hbr.out.block B hBl)).trans uz2
                  have hend : ∀ (v : Value) (wz : World), OverAt wr lo v ((allG s m g).drop ((allG s m g).length - 4)) → wz = (wr.setCell ⟨B, m * 3 + 2, none⟩ v).setCell ⟨B, m * 3 + 1, none⟩ (.int .i64 ((g + 1 : Nat) : Int)) →
                      (∀ c', RefAt wz lo R B (openN s m g c') (boundR s m g (f.size - 7))) ∧ RFrm w wz R B := fun v wz hv hz => by
                    have hb6 := Hbr.out
                    rw [HUs.out, HU.out] at hb6
                    rw [← Hbd.out]
                    refine ⟨fun c' => ?_, ?_⟩
                    · rw [openN, if_neg (by rw [← Hnx.out]; omega), openS]
                      exact HV.out.three m Hmn.out hb6 hv hz c'
                    · rw [hz]
                      exact (RFrm.three HfV.out hb6).trans (RFrm.set _ _ _ (.inr rfl))
                  have Hend := Lib.hid hend
                  clear hnl hall hend u1 u2 uz1 uz2
                  by_cases h4 : 4 < nl
                  · have h4I : (4 : Int) < (nl : Nat) := by omega
                    have hcr := row_cap Hown.out
                    rw [← Hnl.out] at hcr
                    have hsB := fun W => cut_back W pu nl cu (nl - 4) (by omega)
                    have hi1 : ((nl - 4 : Nat) : Int) = (nl : Int) - 4 := by omega
                    simp only [hi1] at hsB
                    obtain ⟨gb, rfl⟩ : ∃ gb, pu = some ⟨gb, 0, none⟩ := by
                      rcases Hown.out.2 with ⟨_, h⟩ | ⟨gb, cap, cur, e, _⟩
                      · rw [← Hnl.out] at h; omega
                      · cases e; exact ⟨gb, rfl⟩
                    have hbp : backP (some ⟨gb, 0, none⟩) cu (nl - 4) = some ⟨gb, nl - 4, none⟩ := by
                      unfold backP
                      rw [if_neg (by omega), Option.map_some, Addr.add_lit, Nat.zero_add, Nat.mul_one]
                    simp only [hbp] at hsB
                    clear hbp
                    go_wp2
                    refine bodyPost_ret (results_tmp4 rfl _ _ _) rfl ?_
                    rw [HO.out, ← Hk.out, Hob.out, if_pos rfl]
                    have hv : OverAt wr lo (.slice (some ⟨gb, nl - 4, none⟩) (nl - (nl - 4)) (cu - (nl - 4))) ((allG s m g).drop ((allG s m g).length - 4)) := by
                      have h2 := overAt_drop (lo := lo) (k := nl - 4) (l := uptoL ov0 nx g) (c := cu) (g := gb) (base := U.heap.size) Hown.out (by have := HV.out.loB; have := HUs.out; omega) (by rw [← Hnl.out]; omega)
                      rw [← Hall.out, ← Hnl.out]
                      rw [← Hnl.out] at h2
                      exact h2
                    obtain ⟨r1, r2⟩ := Hend.out _ _ hv rfl
                    exact ⟨rfl, r1, r2⟩
                  · have h4I : ¬ (4 : Int) < (nl : Nat) := by omega
                    go_wp2
                    refine bodyPost_ret (results_tmp4 rfl _ _ _) rfl ?_
                    rw [HO.out, ← Hk.out, Hob.out, if_pos rfl]
                    have hv : OverAt wr lo (.slice pu nl cu) ((allG s m g).drop ((allG s m g).length - 4)) := by
                      have h0 : (allG s m g).length - 4 = 0 := by rw [← Hall.out, ← Hnl.out]; omega
                      rw [h0, List.drop_zero, ← Hall.out]
                      have := Hown.out
                      rw [← Hnl.out] at this
                      have h2 := overAt_row (lo := lo) (l := uptoL ov0 nx g) (by rw [← Hnl.out]; exact this) (by have := HV.out.loB; have := HUs.out; omega)
                      exact h2
                    obtain ⟨r1, r2⟩ := Hend.out _ _ hv rfl
                    exact ⟨rfl, r1, r2⟩
end Go.Proofs.YtccidllcjaaeeabGreatDoor
