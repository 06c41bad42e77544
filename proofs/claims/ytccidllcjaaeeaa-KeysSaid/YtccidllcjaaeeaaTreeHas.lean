/- The walks of package tree's small functions: Has, bits.Len by its contract off the shelf. Conditions: the part's block holds ten cells; members and bounds are small. -/
import Derived.Test.YtccidllcjaaeeaaRatchet
import Derived.Test.YtccidllcjaaeeaaLay
import Derived.BigQuiet
import Derived.Deep.QuietTactic
namespace Go.Proofs.Ytccidllcjaaeeaa
open Go.RowKit
open Go.Shelf
/-- A part: from, to and its secret. -/
structure TPart where
  a : Nat
  b : Nat
  s : List UInt8
def pcells (p : TPart) : Array Value := #[Value.int .i64 p.a, Value.int .i64 p.b] ++ cells p.s
theorem pcells_size (p : TPart) (h : p.s.length = 8) : (pcells p).size = 10 := by rw [pcells, Array.size_append, cells_size, h]; rfl
theorem len_any (w : World) (x : Int) (h0 : 0 ≤ x) (h1 : x ≤ 18446744073709551615) : Calls Try.prog 45 #[.int .u64 x] w fun e w' => e = .returned (.int .i64 (Lib.bitLen x.toNat)) ∧ w' = w := Any.bits_Len Try.lays125 x w h0 h1
theorem has_any (w : World) (R o : Nat) (a b m : Nat) (ha : w.cell? ⟨R, o, none⟩ = some (.int .i64 a)) (hb : w.cell? ⟨R, o + 1, none⟩ = some (.int .i64 b)) :
    Calls Try.prog 37 #[.pointer (some ⟨R, o, none⟩), .int .i64 m] w fun e w' => e = .returned (.bool (decide (a ≤ m ∧ m < b))) ∧ w' = w := by
  go_enter Try.func37, Try.ntmps37
  go_wp2
  all_goals (go_ret; refine ⟨?_, rfl⟩; first | (simp; omega) | simp [*])
theorem bitLen_tree : ∀ n : Fin 17, 2 ≤ n.val → (Lib.bitLen (n.val - 1) = 1 ∧ splitN n.val = 1) ∨ (Lib.bitLen (n.val - 1) = 2 ∧ splitN n.val = 2) ∨ (Lib.bitLen (n.val - 1) = 3 ∧ splitN n.val = 4) ∨ (Lib.bitLen (n.val - 1) = 4 ∧ splitN n.val = 8) := by decide
theorem len_tree (n : Nat) (h2 : 2 ≤ n) (h : n ≤ 16) : ∃ c : Int, (∀ w, Calls Try.prog 45 #[.int .u64 ((n : Int) - 1)] w fun e w' => e = .returned (.int .i64 c) ∧ w' = w) ∧ ((c = 1 ∧ splitN n = 1) ∨ (c = 2 ∧ splitN n = 2) ∨ (c = 3 ∧ splitN n = 4) ∨ (c = 4 ∧ splitN n = 8)) := by
  have hb := bitLen_tree ⟨n, by omega⟩ h2
  refine ⟨(Lib.bitLen (n - 1) : Nat), fun w => ?_, by simp only at hb; omega⟩
  have := len_any w ((n : Int) - 1) (by omega) (by omega)
  rw [show ((n : Int) - 1).toNat = n - 1 by omega] at this
  exact this
theorem ten_cells {w : World} {b t : Nat} {fr : Nat × Nat} {p : TPart} {a0 a1 a2 a3 a4 a5 a6 a7 : UInt8} (hk : p.s = [a0, a1, a2, a3, a4, a5, a6, a7]) (h : w.heap[b]? = some (.cells (pcells p) t fr)) :
    w.cell? ⟨b, 0, none⟩ = some (.int .i64 p.a) ∧ w.cell? ⟨b, 1, none⟩ = some (.int .i64 p.b) ∧ w.cell? ⟨b, 2, none⟩ = some (.int .u8 a0.toNat) ∧ w.cell? ⟨b, 3, none⟩ = some (.int .u8 a1.toNat) ∧ w.cell? ⟨b, 4, none⟩ = some (.int .u8 a2.toNat) ∧ w.cell? ⟨b, 5, none⟩ = some (.int .u8 a3.toNat) ∧ w.cell? ⟨b, 6, none⟩ = some (.int .u8 a4.toNat) ∧ w.cell? ⟨b, 7, none⟩ = some (.int .u8 a5.toNat) ∧ w.cell? ⟨b, 8, none⟩ = some (.int .u8 a6.toNat) ∧ w.cell? ⟨b, 9, none⟩ = some (.int .u8 a7.toNat) := by
  have e : pcells p = #[.int .i64 p.a, .int .i64 p.b, .int .u8 a0.toNat, .int .u8 a1.toNat, .int .u8 a2.toNat, .int .u8 a3.toNat, .int .u8 a4.toNat, .int .u8 a5.toNat, .int .u8 a6.toNat, .int .u8 a7.toNat] := by simp [pcells, cells, hk]
  rw [e] at h
  refine ⟨?_, ?_, ?_, ?_, ?_, ?_, ?_, ?_, ?_, ?_⟩ <;> (rw [cell_of_row _ _ _ _ _ _ h]; rfl)
def pZero : TPart := ⟨0, 0, zeroS⟩
theorem infoPart : (Try.prog.info? 59).map (·.size) = some 10 := by kernel_rfl
theorem built_part (a b : Int) (k : List UInt8) (hk : k.length = 8) : Try.prog.built 59 [(0, .int .i64 a), (1, .int .i64 b), (2, .agg (cells k))] = some (#[.int .i64 a, .int .i64 b] ++ cells k) := by
  obtain ⟨a0, a1, a2, a3, a4, a5, a6, a7, rfl⟩ := eight hk
  kernel_rfl
theorem fold_part (a b : Int) (k : List UInt8) (hk : k.length = 8) : Array.foldl (fun (cs : Array Value) (x : Value × Nat) => cs.setIfInBounds (2 + x.snd) x.fst) #[.int .i64 a, .int .i64 b, .int .u8 0, .int .u8 0, .int .u8 0, .int .u8 0, .int .u8 0, .int .u8 0, .int .u8 0, .int .u8 0] (cells k).zipIdx 0 8 = #[.int .i64 a, .int .i64 b] ++ cells k := by
  obtain ⟨a0, a1, a2, a3, a4, a5, a6, a7, rfl⟩ := eight hk
  kernel_rfl
theorem run_storeCells_arr {P : Program} {w : World} {g t : Nat} {cur : Array Value} (h : w.heap[g]? = some (.cells cur t (0, 0))) (xs : Array Value) (hone : xs.all (·.oneCell') = true) (hs : cur.size = xs.size) :
    (storeCells ⟨g, 0, none⟩ xs.toList).run P w = .ok () (w.setRow g xs) := by
  have hst := run_storeCells_at P g 0 t xs.toList 0 cur w h (by rw [Array.length_toList]; omega) (fun v hv => Array.all_eq_true_iff_forall_mem.1 hone v (by simpa using hv))
  have hd : cur.toList.drop xs.toList.length = [] := List.drop_eq_nil_of_le (by rw [Array.length_toList, Array.length_toList]; omega)
  simp only [Nat.add_zero, Nat.zero_add, List.take_zero, List.nil_append, hd, List.append_nil, Array.toArray_toList] at hst
  exact hst
theorem pcells_one (p : TPart) : (pcells p).all (·.oneCell') = true := by
  refine Array.all_eq_true_iff_forall_mem.2 fun v hv => ?_
  rw [pcells, Array.mem_append] at hv
  rcases hv with hv | hv
  · simp only [List.mem_toArray, List.mem_cons, List.not_mem_nil, or_false] at hv
    rcases hv with rfl | rfl <;> rfl
  · exact cells_oneCell p.s v (by simpa using hv)
theorem results_cells {P : Program} {fn : Func} {p q : Tmp} {ty : TypeId} (h : fn.results = #[.cell p ty, .cell q ty]) (tmps : Array Value) (w : World) (g g2 : Nat) (t t2 : TypeId) (cs cs2 : Array Value) (fr : Nat × Nat) (d : TypeDesc)
    (hp : tmps.getD p undef = .pointer (some ⟨g, 0, none⟩)) (hq : tmps.getD q undef = .pointer (some ⟨g2, 0, none⟩)) (hg : w.heap[g]? = some (.cells cs t fr)) (hg2 : w.heap[g2]? = some (.cells cs2 t2 fr))
    (hu : P.underlying ty = some d) (hd : (match d with | .struct _ | .array _ _ => true | _ => false) = true) (hi : (P.info? ty).map (·.size) = some cs.size) (hi2 : (P.info? ty).map (·.size) = some cs2.size) :
    (results fn tmps).run P w = .ok (.tuple #[.agg cs, .agg cs2]) w := by
  have hp' : tmps[p]?.getD undef = .pointer (some ⟨g, 0, none⟩) := by simpa using hp
  have hq' : tmps[q]?.getD undef = .pointer (some ⟨g2, 0, none⟩) := by simpa using hq
  simp [results, h, hp', hq', asAddr, run_loadVar_row w g t ty cs fr d hg hu hd hi, run_loadVar_row w g2 t2 ty cs2 fr d hg2 hu hd hi2]
def pL (p : TPart) : TPart := ⟨p.a, p.a + splitN (p.b - p.a), kd p.s lLeft 0⟩
def pR (p : TPart) : TPart := ⟨p.a + splitN (p.b - p.a), p.b, kd p.s lRight 0⟩
set_option maxRecDepth 100000 in
set_option maxHeartbeats 2000000 in
theorem halves_any (D o R : Nat) (v : Int) (w : World) (p : TPart) (hk : p.s.length = 8) (h2 : 2 ≤ p.b - p.a) (h16 : p.b ≤ 16)
    (hx : w.cell? ⟨D, o, none⟩ = some (.int .i64 v)) (hf : w.frozen? ⟨D, o, none⟩ = false) (hb0 : 0 ≤ v) (hb1 : v ≤ 4611686018427000000)
    (hR : w.heap[R]? = some (.cells (pcells p) 59 (0, 0))) (hRD : R ≠ D) :
    Calls Try.prog 38 #[.pointer (some ⟨R, 0, none⟩), .pointer (some ⟨D, o, none⟩)] w fun e w' =>
      e = .returned (.tuple #[.agg (pcells (pL p)), .agg (pcells (pR p))]) ∧ Below w.heap.size (w.setCell ⟨D, o, none⟩ (.int .i64 (v + 2))) w' := by
  have hD : D < w.heap.size := block_lt_of_cell hx
  have hRs : R < w.heap.size := (Array.getElem?_eq_some_iff.1 hR).1
  have Hk := Lib.hid hk
  have HR := Lib.hid hR
  clear hk hR
  obtain ⟨a0, a1, a2, a3, a4, a5, a6, a7, hk8⟩ := eight Hk.out
  have Hk8 := Lib.hid hk8
  clear hk8
  obtain ⟨c, hc, hcs⟩ := len_tree (p.b - p.a) h2 (by omega)
  go_enter Try.func38, Try.ntmps38
  go_upto_region 1 with (fail)
  generalize hW : World.alloc (World.alloc _ _) _ = W
  have hWr : W.heap[R]? = some (.cells (pcells p) 59 (0, 0)) := by rw [← hW, Below.heap_alloc _ _ _ (by simp; omega), Below.heap_alloc _ _ _ hRs]; exact HR.out
  have hL : W.heap[w.heap.size]? = some (.cells (pcells pZero) 59 (0, 0)) := by rw [← hW]; exact heap_alloc2_old w _ _
  have hRt : W.heap[w.heap.size + 1]? = some (.cells (pcells pZero) 59 (0, 0)) := by rw [← hW]; exact heap_alloc2_new w _ _
  have hWb : Below w.heap.size w W := by rw [← hW]; exact balloc (balloc (Below.refl _ _) _) _
  clear hW
  obtain ⟨n, hn⟩ : ∃ n, n = p.b - p.a := ⟨_, rfl⟩
  have hbn : (p.b : Int) = p.a + n := by omega
  rw [← hn] at hc hcs
  obtain ⟨e0, e1, e2, e3, e4, e5, e6, e7, e8, e9⟩ := ten_cells Hk8.out hWr
  have HWr := Lib.hid hWr
  have HL := Lib.hid hL
  have HRt := Lib.hid hRt
  have Hn := Lib.hid hn
  clear hWr hL hRt hn
  rw [hbn] at e1
  have hsub : (p.a : Int) + n - p.a - 1 = n - 1 := by omega
  have Hsub := Lib.hid hsub
  clear hsub
  go_cut [6] (fun s6 wx => s6 = .int .i64 ((p.a : Int) + splitN n) ∧ wx.heap = W.heap ∧ Below w.heap.size w wx)
  case first =>
    rcases hcs with ⟨rfl, hs⟩ | ⟨rfl, hs⟩ | ⟨rfl, hs⟩ | ⟨rfl, hs⟩
    all_goals
      have Hs := Lib.hid hs
      clear hs
      go_quiet (first | (go_at_call 45; rw [Hsub.out]; exact Calls.quiet_of_same (hc _)))
      go_wp2_with fail
      go_meet
      rw [Hs.out]
      exact ⟨rfl, rfl, ⟨hWb.os, hWb.tape, hWb.output, hWb.size, hWb.block⟩⟩
  case rest =>
    obtain ⟨rfl, hh, hbb⟩ := hcut
    have hWr : wc.heap[R]? = some (.cells (pcells p) 59 (0, 0)) := by rw [hh]; exact HWr.out
    have hL : wc.heap[w.heap.size]? = some (.cells (pcells pZero) 59 (0, 0)) := by rw [hh]; exact HL.out
    have hRt : wc.heap[w.heap.size + 1]? = some (.cells (pcells pZero) 59 (0, 0)) := by rw [hh]; exact HRt.out
    clear e0 e1 e2 e3 e4 e5 e6 e7 e8 e9 hc hcs hWb HWr HL HRt hh
    obtain ⟨e0, e1, e2, e3, e4, e5, e6, e7, e8, e9⟩ := ten_cells Hk8.out hWr
    have Q0 : Hid (wc.cell? ⟨D, o, none⟩ = some (.int .i64 v)) := Lib.hid (by rw [hbb.cell hD]; exact hx)
    have Q0f : Hid (wc.frozen? ⟨D, o, none⟩ = false) := Lib.hid (by rw [hbb.frozen hD]; exact hf)
    have ZR := Lib.hid hWr
    have ZL := Lib.hid hL
    have ZT := Lib.hid hRt
    clear hWr hL hRt
    have hqL := kd_length p.s lLeft 0
    obtain ⟨qL, hqLe⟩ : ∃ q, q = kd p.s lLeft 0 := ⟨_, rfl⟩
    rw [← hqLe] at hqL
    have hqR := kd_length p.s lRight 0
    obtain ⟨qR, hqRe⟩ : ∃ q, q = kd p.s lRight 0 := ⟨_, rfl⟩
    rw [← hqRe] at hqR
    have HqL := Lib.hid hqLe
    have HqR := Lib.hid hqRe
    have HlL := Lib.hid hqL
    have HlR := Lib.hid hqR
    clear hqL hqR hqLe hqRe
    have hsL : (cells qL).size = 8 := by rw [cells_size, HlL.out]
    have hsR : (cells qR).size = 8 := by rw [cells_size, HlR.out]
    have Hc : Hid (#[Value.int .u8 a0.toNat, .int .u8 a1.toNat, .int .u8 a2.toNat, .int .u8 a3.toNat, .int .u8 a4.toNat, .int .u8 a5.toNat, .int .u8 a6.toNat, .int .u8 a7.toNat] = cells p.s) := Lib.hid (by rw [Hk8.out]; rfl)
    have hv0 : 0 ≤ v + 1 := by omega
    have hv1 : v ≤ 4611686018427387904 := by omega
    have hv2 : v + 1 ≤ 4611686018427387904 := by omega
    obtain ⟨PL, hPL⟩ : ∃ x, x = pcells (pL p) := ⟨_, rfl⟩
    obtain ⟨PR, hPR⟩ : ∃ x, x = pcells (pR p) := ⟨_, rfl⟩
    have hbl : Array.foldl (fun (cs : Array Value) (x : Value × Nat) => cs.setIfInBounds (2 + x.snd) x.fst) #[.int .i64 p.a, .int .i64 ((p.a : Int) + splitN n), .int .u8 0, .int .u8 0, .int .u8 0, .int .u8 0, .int .u8 0, .int .u8 0, .int .u8 0, .int .u8 0] (cells qL).zipIdx 0 8 = PL := by rw [hPL, pL, HqL.out, Hn.out]; exact fold_part _ _ _ (kd_length _ _ _)
    have hbr : Array.foldl (fun (cs : Array Value) (x : Value × Nat) => cs.setIfInBounds (2 + x.snd) x.fst) #[.int .i64 ((p.a : Int) + splitN n), .int .i64 ((p.a : Int) + n), .int .u8 0, .int .u8 0, .int .u8 0, .int .u8 0, .int .u8 0, .int .u8 0, .int .u8 0, .int .u8 0] (cells qR).zipIdx 0 8 = PR := by rw [hPR, pR, HqR.out, ← hbn, Hn.out]; exact fold_part _ _ _ (kd_length _ _ _)
    have hoL : PL.all (·.oneCell') = true := by rw [hPL]; exact pcells_one _
    have hoR : PR.all (·.oneCell') = true := by rw [hPR]; exact pcells_one _
    have hsPL : PL.size = 10 := by rw [hPL]; exact pcells_size _ (kd_length _ _ _)
    have hsPR : PR.size = 10 := by rw [hPR]; exact pcells_size _ (kd_length _ _ _)
    have hzL : (pcells pZero).size = PL.size := by rw [hsPL]; exact pcells_size _ rfl
    have hzR : (pcells pZero).size = PR.size := by rw [hsPR]; exact pcells_size _ rfl
    have hRL : R ≠ w.heap.size := by omega
    have hRT1 : R ≠ w.heap.size + 1 := by omega
    have hLT : w.heap.size + 1 ≠ w.heap.size := by omega
    have HB := Lib.hid hbb
    have HPL := Lib.hid hPL
    have HPR := Lib.hid hPR
    rw [hbn] at e1
    clear hbb hPL hPR
    go_wp2_with fail
    go_region_held3 (fun w' => w'.cell? ⟨R, 0, none⟩ = some (.int .i64 p.a) ∧ w'.cell? ⟨R, 1, none⟩ = some (.int .i64 ((p.a : Int) + n)) ∧ w'.cell? ⟨R, 2, none⟩ = some (.int .u8 a0.toNat) ∧ w'.cell? ⟨R, 3, none⟩ = some (.int .u8 a1.toNat) ∧ w'.cell? ⟨R, 4, none⟩ = some (.int .u8 a2.toNat) ∧ w'.cell? ⟨R, 5, none⟩ = some (.int .u8 a3.toNat) ∧ w'.cell? ⟨R, 6, none⟩ = some (.int .u8 a4.toNat) ∧ w'.cell? ⟨R, 7, none⟩ = some (.int .u8 a5.toNat) ∧ w'.cell? ⟨R, 8, none⟩ = some (.int .u8 a6.toNat) ∧ w'.cell? ⟨R, 9, none⟩ = some (.int .u8 a7.toNat)) (refine ⟨?_, ?_, ?_, ?_, ?_, ?_, ?_, ?_, ?_, ?_⟩ <;> (first | assumption | (simp only [World.cell?_drew]; assumption) | ((try simp only [World.cell?_drew]); rw [World.cell?_of_block (setRow_other _ _ _ _ hRL)]; assumption) | ((try simp only [World.cell?_drew]); rw [World.cell?_of_block (setRow_other _ _ _ _ hRT1), World.cell?_of_block (setRow_other _ _ _ _ hRL)]; assumption))) (first
      | (go_at_call 19; (try rw [Hc.out]); refine (derive_any D o (v + 1) _ p.s _ _ Hk.out (by decide) ?_ ?_ hv0 hv2).mono ?_; (exact Q0.out); (exact Q0f.out); go_must (rintro e w2 ⟨rfl, hb2⟩); go_must ((first | rw [lLeft_eq, ← HqL.out] | rw [lRight_eq, ← HqR.out])); go_must (have HB : Hid (Below w.heap.size (w.setCell ⟨D, o, none⟩ (.int .i64 (v + 1 + 1))) w2) := Lib.hid (by first | exact cnt_next HB.out hb2 | exact cnt_next HB.out.drew hb2 | exact cnt_next HB.out.drew.drew hb2 | exact cnt_next HB.out.drew.drew.drew hb2)); go_must (have ZL := Lib.hid (cnt_row hb2 ZL.out (by omega))); go_must (have ZT := Lib.hid (cnt_row hb2 ZT.out (by omega))); go_must (have ZR := Lib.hid (cnt_row hb2 ZR.out hRD)); go_must (have Q0f := Lib.hid (cnt_frozen hb2 Q0.out Q0f.out)); go_must (have Q0 := Lib.hid (cnt_cell hb2 Q0.out)); go_must (obtain ⟨k0, k1, k2, k3, k4, k5, k6, k7, k8, k9⟩ := ten_cells Hk8.out ZR.out); go_must (rw [hbn] at k1); go_must (have hst1 := run_storeCells_arr (P := Try.prog) ZL.out PL hoL hzL); go_must (have hst2 := run_storeCells_arr (P := Try.prog) (w := w2.setRow w.heap.size PL) ((setRow_other _ _ _ _ hLT).trans ZT.out) PR hoR hzR))
      | (go_at_call 19; (try rw [Hc.out]); go_must (refine (derive_any D o v _ p.s _ _ Hk.out (by decide) ?_ ?_ hb0 hv1).mono ?_); go_must ((exact Q0.out)); go_must ((exact Q0f.out)); go_must (rintro e w2 ⟨rfl, hb2⟩); go_must ((first | rw [lLeft_eq, ← HqL.out] | rw [lRight_eq, ← HqR.out])); go_must (have HB : Hid (Below w.heap.size (w.setCell ⟨D, o, none⟩ (.int .i64 (v + 1))) w2) := Lib.hid (by first | exact cnt_base HB.out hb2 | exact cnt_base HB.out.drew hb2 | exact cnt_base HB.out.drew.drew hb2 | exact cnt_base HB.out.drew.drew.drew hb2)); go_must (have ZL := Lib.hid (cnt_row hb2 ZL.out (by omega))); go_must (have ZT := Lib.hid (cnt_row hb2 ZT.out (by omega))); go_must (have ZR := Lib.hid (cnt_row hb2 ZR.out hRD)); go_must (have Q0f := Lib.hid (cnt_frozen hb2 Q0.out Q0f.out)); go_must (have Q0 := Lib.hid (cnt_cell hb2 Q0.out)); go_must (obtain ⟨k0, k1, k2, k3, k4, k5, k6, k7, k8, k9⟩ := ten_cells Hk8.out ZR.out); go_must (rw [hbn] at k1)))
    all_goals
      have hTL : w.heap.size ≠ w.heap.size + 1 := by omega
      have hr1 := Lib.hid ((setRow_other _ _ _ PR hTL).trans (setRow_heap _ _ _ PL _ _ ZL.out))
      have hr2 := Lib.hid (setRow_heap _ _ _ PR _ _ ((setRow_other _ _ _ PL hLT).trans ZT.out))
      clear hst1 hst2
      go_wp2_with fail
      refine bodyPost_ret (results_cells rfl _ _ w.heap.size (w.heap.size + 1) _ _ _ _ _ _ rfl rfl hr1.out hr2.out Try.underlying59 rfl (by rw [infoPart, hsPL]) (by rw [infoPart, hsPR])) rfl ⟨by rw [HPL.out, HPR.out], ?_⟩
      rw [show v + 2 = v + 1 + 1 by omega]
      exact below_setRow (below_setRow HB.out (Nat.le_refl _) _) (by omega) _
end Go.Proofs.Ytccidllcjaaeeaa
