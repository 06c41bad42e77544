/- The document's parts of the tree that are kept. Conditions: the group reads as its state. -/
import Derived.Test.YtccidllcjaaeeabGreatDoorHRefProtect
import Derived.Test.YtccidllcjaaeeabGreatDoorHSame
namespace Go.Proofs.YtccidllcjaaeeabGreatDoor
set_option maxRecDepth 100000
open Go Go.Maps Go.RowKit
open Go.Shelf Go.Lib Go.Sort Go.MuLone
theorem node_bounds : ∀ (d f t a b : Nat), nodeP d f t a b → f ≤ a ∧ b ≤ t
  | 0, f, t, a, b, h => by obtain ⟨rfl, rfl⟩ := h; omega
  | d + 1, f, t, a, b, h => by
    rcases h with ⟨rfl, rfl⟩ | ⟨_, h2, ⟨_, h⟩ | ⟨_, h⟩⟩
    · omega
    · have := node_bounds d _ _ _ _ h
      have := splitN_lt (t - f) h2
      omega
    · have := node_bounds d _ _ _ _ h
      omega
theorem partL_self (d : Nat) (s : List UInt8) (f t : Nat) : partL d s f t f t = s := by
  cases d with
  | zero => rfl
  | succ d => rw [partL, if_pos ⟨rfl, rfl⟩]
theorem node_self (d f t : Nat) : nodeP d f t f t := by
  cases d with
  | zero => exact ⟨rfl, rfl⟩
  | succ d => exact .inl ⟨rfl, rfl⟩
/-- A part's two halves. -/
theorem node_child : ∀ (d : Nat) (s : List UInt8) (f t a b : Nat), nodeP d f t a b → 2 ≤ b - a → t - f ≤ d + 1 →
    nodeP d f t a (a + splitN (b - a)) ∧ nodeP d f t (a + splitN (b - a)) b ∧ partL d s f t a (a + splitN (b - a)) = kd (partL d s f t a b) lLeft 0 ∧ partL d s f t (a + splitN (b - a)) b = kd (partL d s f t a b) lRight 0
  | 0, s, f, t, a, b, h, h2, h3 => by obtain ⟨rfl, rfl⟩ := h; omega
  | d + 1, s, f, t, a, b, h, h2, h3 => by
    have hp := splitN_pos (b - a)
    have hl := splitN_lt (b - a) h2
    rcases h with ⟨rfl, rfl⟩ | ⟨hne, h4, ⟨hlt, h⟩ | ⟨hlt, h⟩⟩
    · refine ⟨.inr ⟨by omega, h2, .inl ⟨by omega, node_self d _ _⟩⟩, .inr ⟨by omega, h2, .inr ⟨by omega, node_self d _ _⟩⟩, ?_, ?_⟩
      · rw [partL_self, partL, if_neg (by omega), if_pos (by omega), partL_self]
      · rw [partL_self, partL, if_neg (by omega), if_neg (by omega), partL_self]
    · have hb := node_bounds d _ _ _ _ h
      have hl2 := splitN_lt (t - f) h4
      obtain ⟨i1, i2, i3, i4⟩ := node_child d (kd s lLeft 0) f (f + splitN (t - f)) a b h h2 (by omega)
      refine ⟨.inr ⟨by omega, h4, .inl ⟨by omega, i1⟩⟩, .inr ⟨by omega, h4, .inl ⟨by omega, i2⟩⟩, ?_, ?_⟩
      · rw [partL, if_neg (by omega), if_pos (by omega), i3, partL, if_neg hne, if_pos hlt]
      · rw [partL, if_neg (by omega), if_pos (by omega), i4, partL, if_neg hne, if_pos hlt]
    · have hb := node_bounds d _ _ _ _ h
      have hp2 := splitN_pos (t - f)
      obtain ⟨i1, i2, i3, i4⟩ := node_child d (kd s lRight 0) (f + splitN (t - f)) t a b h h2 (by omega)
      refine ⟨.inr ⟨by omega, h4, .inr ⟨by omega, i1⟩⟩, .inr ⟨by omega, h4, .inr ⟨by omega, i2⟩⟩, ?_, ?_⟩
      · rw [partL, if_neg (by omega), if_neg (by omega), i3, partL, if_neg hne, if_neg hlt]
      · rw [partL, if_neg (by omega), if_neg (by omega), i4, partL, if_neg hne, if_neg hlt]
def begF (s : GSt) : Nat → Bool := fun i => (s.M i).begun
def refT (d : Nat) (s : GSt) (a b : Nat) : List TPart := partsT d ⟨a, b, partL 16 s.root 0 s.n a b⟩ (begF s)
theorem refT_none {d : Nat} {s : GSt} {a b : Nat} (h : anyB (begF s) a b = false) : refT d s a b = [⟨a, b, partL 16 s.root 0 s.n a b⟩] := partsT_none h
theorem refT_one {d : Nat} {s : GSt} {a b : Nat} (h : anyB (begF s) a b = true) (h1 : b - a ≤ 1) : refT d s a b = [] := by
  cases d with
  | zero => simp [refT, partsT, h]
  | succ d => simp [refT, partsT, h, h1]
theorem refT_two {d : Nat} {s : GSt} {a b : Nat} (h : anyB (begF s) a b = true) (h1 : 2 ≤ b - a) (hn : nodeP 16 0 s.n a b) (h16 : s.n ≤ 16) :
    refT (d + 1) s a b = refT d s a (a + splitN (b - a)) ++ refT d s (a + splitN (b - a)) b := by
  obtain ⟨_, _, i3, i4⟩ := node_child 16 s.root 0 s.n a b hn h1 (by omega)
  rw [refT, partsT, if_pos h, if_neg (by show ¬ b - a ≤ 1; omega), refT, refT, i3, i4]
  rfl
theorem anyB_succ (B : Nat → Bool) (a j : Nat) (h : a ≤ j) : anyB B a (j + 1) = (anyB B a j || B j) := by
  rw [Bool.eq_iff_iff, Bool.or_eq_true, anyB_iff, anyB_iff]
  constructor
  · rintro ⟨m, h1, h2, h3⟩
    by_cases e : m = j
    · subst e; exact .inr h3
    · exact .inl ⟨m, h1, by omega, h3⟩
  · rintro (⟨m, h1, h2, h3⟩ | h3)
    · exact ⟨m, h1, by omega, h3⟩
    · exact ⟨j, h, by omega, h3⟩
theorem anyB_self (B : Nat → Bool) (a : Nat) : anyB B a a = false := by
  cases h : anyB B a a with
  | false => rfl
  | true => obtain ⟨m, _, _, _⟩ := (anyB_iff _ _ _).1 h; omega
/-- A row as append's source. -/
theorem row_source {w : World} {base e size n : Nat} {v : Value} {xs : List Value} (h : w.ownsRow base e size v n xs) :
    ∃ ao c, v = .slice ao n c ∧ (ao = none → n = 0 ∧ c = 0) ∧ ∀ ad, ao = some ad → ∀ (j : Nat) (u : Value), xs[j]? = some u → w.cell? (ad.add j) = some u := by
  obtain ⟨_, ⟨rfl, rfl⟩ | ⟨g, cap, cur, rfl, _, h3, _, _, _, h7⟩⟩ := h
  · exact ⟨none, 0, rfl, fun _ => ⟨rfl, rfl⟩, fun _ e => by cases e⟩
  · refine ⟨_, _, rfl, fun e => (by cases e), fun ad e j u hu => ?_⟩
    cases e
    rw [show (⟨g, 0, none⟩ : Addr).add j = ⟨g, j, none⟩ from by simp [Addr.add]; omega, cell_of_row _ _ _ _ _ _ h3, ← Array.getElem?_toList]
    rw [← h7, List.getElem?_take] at hu
    split at hu
    · exact hu
    · cases hu
theorem refT_len (d : Nat) (s : GSt) (a b : Nat) (h : a < b) (hb : b ≤ 16) : (refT d s a b).length ≤ 16 := Nat.le_trans (parts_count d _ _ h) (by show b - a ≤ 16; omega)
theorem refItem_row {w : World} {base : Nat} (D : DItem) (h8 : D.s.length = 8) (hb : base ≤ w.heap.size) :
    (w.alloc (.cells (icells D) 88)).ownsRow base 88 12 (.slice (some ⟨w.heap.size, 0, none⟩) 1 1) 1 (itemsV [D]) := by
  have hs := icells_size D h8
  refine ⟨by rw [itemsV_len]; rfl, .inr ⟨w.heap.size, 1, icells D, rfl, hb, heap_alloc_new _ _, Nat.le_refl _, by decide, by rw [hs], ?_⟩⟩
  rw [show itemsV [D] = (icells D).toList by rw [← encI_eq D h8]; simp [itemsV]]
  exact List.take_of_length_le (by rw [Array.length_toList, hs]; decide)
/-- The root's cells. -/
theorem RefAt.root_cells {w : World} {lo R B : Nat} {s : GSt} {st : Int} {n : Nat} {a0 a1 a2 a3 a4 a5 a6 a7 : UInt8} (h : RefAt w lo R B s st) (hr : s.root = [a0, a1, a2, a3, a4, a5, a6, a7]) (hn : n = s.n) :
    w.cell? ⟨R, 0, none⟩ = some (.int .u8 a0.toNat) ∧ w.cell? ⟨R, 1, none⟩ = some (.int .u8 a1.toNat) ∧ w.cell? ⟨R, 2, none⟩ = some (.int .u8 a2.toNat) ∧ w.cell? ⟨R, 3, none⟩ = some (.int .u8 a3.toNat) ∧ w.cell? ⟨R, 4, none⟩ = some (.int .u8 a4.toNat) ∧ w.cell? ⟨R, 5, none⟩ = some (.int .u8 a5.toNat) ∧ w.cell? ⟨R, 6, none⟩ = some (.int .u8 a6.toNat) ∧ w.cell? ⟨R, 7, none⟩ = some (.int .u8 a7.toNat) ∧ w.cell? ⟨R, 8, none⟩ = some (.int .i64 n) := by
  obtain ⟨hroot, c8, _⟩ := h.fields
  rw [hr] at hroot
  subst hn
  have key : ∀ (j : Nat) (v : Value), (cells [a0, a1, a2, a3, a4, a5, a6, a7]).toList[j]? = some v → w.cell? ⟨R, j, none⟩ = some v := fun j v hv => by
    have := hroot j v hv
    rwa [Nat.zero_add] at this
  exact ⟨key 0 _ rfl, key 1 _ rfl, key 2 _ rfl, key 3 _ rfl, key 4 _ rfl, key 5 _ rfl, key 6 _ rfl, key 7 _ rfl, c8⟩
def PartsOk (s : GSt) (d : Nat) : Prop := ∀ (w : World) (lo R B : Nat) (st : Int) (a b : Nat), RefAt w lo R B s st → a < b → b ≤ s.n → b - a ≤ d + 1 → nodeP 16 0 s.n a b →
    Calls Tryz.prog 34 #[.pointer (some ⟨R, 0, none⟩), .int .i64 a, .int .i64 b] w fun e w' => ∃ v, e = .returned v ∧ w'.ownsRow w.heap.size 88 12 v (refT d s a b).length (itemsV ((refT d s a b).map nodeI)) ∧ Below w.heap.size w w'
set_option maxHeartbeats 8000000 in
theorem refParts_step (d : Nat) (s : GSt) (w : World) (lo R B : Nat) (st : Int) (a b : Nat) (h : RefAt w lo R B s st) (hI : GInv s) (hab : a < b) (hbn : b ≤ s.n) (hd : b - a ≤ d + 1) (hn : nodeP 16 0 s.n a b)
    (ih : 2 ≤ b - a → ∃ d', d = d' + 1 ∧ PartsOk s d') :
    Calls Tryz.prog 34 #[.pointer (some ⟨R, 0, none⟩), .int .i64 a, .int .i64 b] w fun e w' => ∃ v, e = .returned v ∧ w'.ownsRow w.heap.size 88 12 v (refT d s a b).length (itemsV ((refT d s a b).map nodeI)) ∧ Below w.heap.size w w' := by
  have hn16 := hI.n16
  obtain ⟨_, c8, _, c10, _, _, _⟩ := h.fields
  obtain ⟨n, hne⟩ : ∃ n, n = s.n := ⟨_, rfl⟩
  obtain ⟨i0, hi', hz0', hz1', hz2'⟩ := info_parts infoItemI
  have hi := Lib.hid hi'
  have hz0 := Lib.hid hz0'
  have hz1 := Lib.hid hz1'
  have hz2 := Lib.hid hz2'
  have hbn' := hbn
  rw [← hne] at c8 c10 hbn hn16
  have hmem : ∀ j, j < n → w.cell? ⟨B, j * 3, none⟩ = some (.bool (begF s j)) := fun j hj => (h.member j (by omega)).1
  have Hh := Lib.hid h
  have Hne := Lib.hid hne
  have Hd := Lib.hid hd
  have Hnn := Lib.hid hn
  have Hih := Lib.hid ih
  have Hmem := Lib.hid hmem
  have HI := Lib.hid hI
  have Hbn := Lib.hid hbn'
  clear h hne hd hn ih hmem hI hbn' hi' hz0' hz1' hz2'
  go_enter Tryz.func34, Tryz.ntmps34
  go_upto_region 2 with (fail)
  go_wp2_with fail
  go_loop [7, 8] (fun bg i => ∃ j : Nat, a ≤ j ∧ j ≤ b ∧ i = .int .i64 j ∧ bg = .bool (anyB (begF s) a j)) (fun _ i => b - (intOf i).toNat)
  case atStart => exact ⟨a, Nat.le_refl _, Nat.le_of_lt hab, rfl, by rw [anyB_self]⟩
  case round =>
    obtain ⟨j, h1, h2, rfl, rfl⟩ := hrel
    by_cases hlt : j < b
    · have hs := anyB_succ (begF s) a j h1
      have hc := Hmem.out j (by omega)
      have Hs := Lib.hid hs
      clear hs
      have hjn : (j : Int) < (n : Nat) := by omega
      cases hx : anyB (begF s) a j with
      | true =>
        go_wp2
        go_round
        case rel => exact ⟨j + 1, by omega, by omega, by go_num, by rw [Hs.out, hx]; rfl⟩
        case measure => simp [intOf]; omega
      | false =>
        go_wp2
        go_round
        case rel => exact ⟨j + 1, by omega, by omega, by go_num, by rw [Hs.out, hx]; rfl⟩
        case measure => simp [intOf]; omega
    · obtain rfl : b = j := by omega
      clear h2 hlt
      cases hx : anyB (begF s) a b with
      | true =>
        have Hx := Lib.hid hx
        clear hx
        by_cases h2 : b - a ≤ 1
        · have hsub : (b : Int) - (a : Int) = 1 := by omega
          have H2 := Lib.hid h2
          clear h2
          go_wp2
          go_ret
          exact ⟨_, rfl, by rw [refT_one Hx.out H2.out]; exact World.ownsRow_nil _ _ _ _, Below.refl _ _⟩
        · obtain ⟨m, hm⟩ : ∃ m, m = b - a := ⟨_, rfl⟩
          have hsub : ((b : Int) - (a : Int)) = (m : Int) := by omega
          have hne1 : ((m : Int) == 1) = false := by simp; omega
          obtain ⟨d', hd', ih⟩ := Hih.out (by omega)
          have hsp := splitN_pos (b - a)
          have hsl := splitN_lt (b - a) (by omega)
          have htwo := fun h => refT_two (d := d') Hx.out (by omega) Hnn.out h
          obtain ⟨i1, i2, _, _⟩ := node_child 16 s.root 0 s.n a b Hnn.out (by omega) (by have := HI.out.n16; omega)
          obtain ⟨kk, hkk⟩ : ∃ kk, kk = splitN (b - a) := ⟨_, rfl⟩
          rw [← hkk] at hsp hsl htwo i1 i2
          obtain ⟨k, hk⟩ : ∃ k, k = a + kk := ⟨_, rfl⟩
          rw [← hk] at i1 i2 htwo
          have hka : (a : Int) + (kk : Int) = (k : Int) := by omega
          have hak : a < k := by omega
          have hkb : k < b := by omega
          have h3 : k - a ≤ d' + 1 := by have := Hd.out; omega
          have h4 : b - k ≤ d' + 1 := by have := Hd.out; omega
          have hl1 := refT_len d' s a k hak (by omega)
          have hl2 := refT_len d' s k b hkb (by omega)
          have Htwo := Lib.hid (htwo HI.out.n16)
          have H3 := Lib.hid h3
          have H4 := Lib.hid h4
          have I1 := Lib.hid i1
          have I2 := Lib.hid i2
          have Ih := Lib.hid ih
          have Hd' := Lib.hid hd'
          have Hak := Lib.hid hak
          have Hkb := Lib.hid hkb
          have Hkk := Lib.hid hkk
          have Hm := Lib.hid hm
          have hm16 : m ≤ 16 := by omega
          have hk16 : k ≤ 16 := by omega
          obtain ⟨L1, hL1⟩ : ∃ L1, L1 = refT d' s a k := ⟨_, rfl⟩
          obtain ⟨L2, hL2⟩ : ∃ L2, L2 = refT d' s k b := ⟨_, rfl⟩
          rw [← hL1] at hl1
          rw [← hL2] at hl2
          have HL1 := Lib.hid hL1.symm
          have HL2 := Lib.hid hL2.symm
          clear htwo h3 h4 i1 i2 ih hd' hL1 hL2 hk hsp hsl hak hkb hkk hm h2 Hih Hmem
          go_wp2_with fail
          refine (split_any _ m (by omega)).mono ?_
          rintro e w' ⟨rfl, h'⟩
          obtain rfl := h'.symm
          rw [Hm.out, ← Hkk.out]
          go_wp2_with fail
          refine (Ih.out w lo R B st a k Hh.out Hak.out (by have := Hbn.out; have := Hkb.out; omega) H3.out I1.out).mono ?_
          rintro e w1 ⟨v1, rfl, ho1, hb1⟩
          have Ho1 := Lib.hid ho1
          have Hb1 := Lib.hid hb1
          clear ho1 hb1
          go_wp2_with fail
          refine (Ih.out w1 lo R B st k b (Hh.out.below Hb1.out) Hkb.out Hbn.out H4.out I2.out).mono ?_
          rintro e w2 ⟨v2, rfl, ho2, hb2⟩
          obtain ⟨ao, c, rfl, hnone, hsrc⟩ := row_source ho2
          rw [HL2.out] at hnone hsrc ho2
          have ho1 := ownsRow_below Ho1.out hb2
          rw [HL1.out] at ho1
          have hbb := bnext Hb1.out hb2
          have Ho1' := Lib.hid ho1
          have Hbb := Lib.hid hbb
          have Hnone := Lib.hid hnone
          have Hsrc := Lib.hid hsrc
          clear ho1 hbb hnone hsrc ho2 hb2 Ho1 Hb1
          rw [HL2.out]
          go_wp2_with (at_builtin; go_must (refine wpList_append_opt _ rfl _ _ 84 rfl w.heap.size 88 i0 _ 12 40 Tryz.underlying84 hi.out hz0.out hz1.out hz2.out rfl (by decide) v1 L1.length (itemsV (L1.map nodeI)) (by rfl) Ho1'.out ao L2.length c (itemsV (L2.map nodeI)) (by rfl) (by rw [itemsV_len, List.length_map]) Hnone.out Hsrc.out (itemsV_one _) (by unfold maxLen; omega) (by omega) Hbb.out.size ?_); intro v5 w5 ho5 hg5; have Ho5 := Lib.hid ho5; have Hg5 := Lib.hid hg5; clear ho5 hg5; go_frame)
          go_ret
          refine ⟨_, rfl, ?_, Hbb.out.grown Hg5.out Hbb.out.size fun j e => (Ho1'.out.lt j e).1⟩
          rw [Hd'.out, Htwo.out, HL1.out, HL2.out, List.length_append, List.map_append, itemsV_append]
          exact Ho5.out
      | false =>
        have Hx := Lib.hid hx
        obtain ⟨a0, a1, a2, a3, a4, a5, a6, a7, hr⟩ := eight HI.out.root
        obtain ⟨z0, z1, z2, z3, z4, z5, z6, z7, z8⟩ := Hh.out.root_cells hr Hne.out
        have hRw : R < w.heap.size := block_lt_of_cell z0
        have hRT : R ≠ w.heap.size := by omega
        obtain ⟨q, hq⟩ : ∃ q, q = partL 16 s.root 0 s.n a b := ⟨_, rfl⟩
        have hql : q.length = 8 := by rw [hq]; exact partL_length _ _ _ _ _ _ HI.out.root
        have hpt := fun W => part_any 16 W s.root 0 s.n a b HI.out.root HI.out.n16 Hnn.out
        rw [← hq, ← Hne.out, hr] at hpt
        have hstA := fun w => run_storeCells_fresh (P := Tryz.prog) q hql w 36
        have hqs : (cells q).size = 8 := by rw [cells_size, hql]
        have hic : (icells (⟨0, a, b, 0, q⟩ : DItem)).size = 12 := icells_size _ hql
        have Hic := Lib.hid hic
        have Hpt := Lib.hid hpt
        have Hr := Lib.hid hr
        have Hq := Lib.hid hq
        have Hql := Lib.hid hql
        clear hpt hr hq hql hx Hih Hmem hic
        go_upto_region 7 with (fail)
        go_cut [9] (fun s9 wx => ∃ T, s9 = .pointer (some ⟨T, 0, none⟩) ∧ w.heap.size ≤ T ∧ wx.heap[T]? = some (.cells (cells q) 36 (0, 0)) ∧ Below w.heap.size w wx)
        case first =>
          go_region_held3 (fun w' => w'.cell? ⟨R, 0, none⟩ = some (.int .u8 a0.toNat) ∧ w'.cell? ⟨R, 1, none⟩ = some (.int .u8 a1.toNat) ∧ w'.cell? ⟨R, 2, none⟩ = some (.int .u8 a2.toNat) ∧ w'.cell? ⟨R, 3, none⟩ = some (.int .u8 a3.toNat) ∧ w'.cell? ⟨R, 4, none⟩ = some (.int .u8 a4.toNat) ∧ w'.cell? ⟨R, 5, none⟩ = some (.int .u8 a5.toNat) ∧ w'.cell? ⟨R, 6, none⟩ = some (.int .u8 a6.toNat) ∧ w'.cell? ⟨R, 7, none⟩ = some (.int .u8 a7.toNat) ∧ w'.cell? ⟨R, 8, none⟩ = some (.int .i64 n)) (refine ⟨?_, ?_, ?_, ?_, ?_, ?_, ?_, ?_, ?_⟩ <;> (first | with_reducible assumption | (simp only [World.cell?_drew]; with_reducible assumption) | ((try simp only [World.cell?_drew]); rw [World.cell?_alloc_past _ _ _ hR2]; assumption) | ((try simp only [World.cell?_drew]); rw [World.cell?_alloc_past _ _ _ hRw]; assumption) | ((try simp only [World.cell?_drew]); rw [World.cell?_of_block (setRow_other _ _ _ _ hRT)]; assumption))) (first | (go_at_call 53; refine (Hpt.out _).mono ?_; rintro e w2 ⟨rfl, hb2⟩; have hw2 : RefAt w2 lo R B s st := (by first | exact Hh.out.drew.below hb2 | exact ((Hh.out.below (balloc (Below.refl _ _) _)).drew).below hb2); have Hw2 := Lib.hid hw2; clear hw2; obtain ⟨z0, z1, z2, z3, z4, z5, z6, z7, z8⟩ := Hw2.out.root_cells Hr.out Hne.out; have hR2 := block_lt_of_cell z0; (first | (have zr := (hb2.block w.heap.size (by simp)).trans (heap_alloc_new w _); have hstB := run_storeCells_row (P := Tryz.prog) zr q (by rw [Hql.out]; rfl); have Zr := Lib.hid zr; clear zr) | skip)))
          · go_wp2_with fail
            go_meet
            exact ⟨w2.heap.size, rfl, hb2.size, heap_alloc_new _ _, balloc (bnext (Below.refl _ _).drew hb2) _⟩
          · go_wp2_with fail
            go_meet
            exact ⟨w.heap.size, rfl, Nat.le_refl _, setRow_heap _ _ _ _ _ _ Zr.out, below_setRow (bnext (balloc (Below.refl _ _) _).drew hb2) (Nat.le_refl _) _⟩
        case rest =>
          obtain ⟨T, rfl, hT, hTq, hb⟩ := hcut
          have HTq := Lib.hid hTq
          have Hb := Lib.hid hb
          clear hTq hb z0 z1 z2 z3 z4 z5 z6 z7 z8
          go_wp2_with (first
            | (refine wpList_load_row rfl 36 _ rfl T rfl _ _ _ _ HTq.out Tryz.underlying36 rfl (by rw [infoSecret, cells_size, Hql.out]) ?_)
            | (refine wpList_build_item3 rfl _ _ _ _ rfl 0 a b q Hql.out (by rfl) (by rfl) (by rfl) (by rfl) ?_)
            | (refine wpList_slice_one rfl 84 88 (.tmp 46) (by rfl) (icells ⟨0, a, b, 0, q⟩) (by rfl) i0 _ Tryz.underlying84 hi.out hz0.out (hz1.out.trans Hic.out.symm) (by rw [Hic.out]; decide) (by rw [Hic.out]; decide) ?_))
          go_ret
          refine ⟨_, rfl, ?_, balloc Hb.out _⟩
          rw [refT_none Hx.out, ← Hq.out]
          exact refItem_row (base := w.heap.size) ⟨0, a, b, 0, q⟩ Hql.out Hb.out.size
/-- parts, of any depth. -/
theorem refParts_any (s : GSt) (hI : GInv s) : ∀ d, PartsOk s d
  | 0 => fun w lo R B st a b h hab hbn hd hn => refParts_step 0 s w lo R B st a b h hI hab hbn hd hn fun h2 => absurd h2 (by omega)
  | d + 1 => fun w lo R B st a b h hab hbn hd hn => refParts_step (d + 1) s w lo R B st a b h hI hab hbn hd hn fun _ => ⟨d, rfl, refParts_any s hI d⟩
end Go.Proofs.YtccidllcjaaeeabGreatDoor
