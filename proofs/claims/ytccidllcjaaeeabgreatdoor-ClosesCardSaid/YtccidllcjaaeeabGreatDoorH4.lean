/- Several texts of this claim in one file (a claim has at most 60): GroupProtect, GroupProtect2, GroupOpen1, GroupCopy, Lay2, GroupTrim, GroupOver, GroupOpen2, GroupOpen3. No condition of its own. -/
import Derived.Test.YtccidllcjaaeeabGreatDoorH3
import Derived.Deep.RegionHeldLaw
import Derived.Deep.AppendLies
import Derived.Maps.RangeWalk
import Derived.Test.YtccidllcjaaeeabGreatDoorH1
import Derived.Test.YtccidllcjaaeeabGreatDoorChecked
import Derived.Shelf.Sort.Plain
import Derived.Shelf.Slices.In.SortNone
import Derived.Ground.NamesProg
import Derived.Sort.OwnSortedInts
/- The walk of a group's protect (the inner one), where it goes. Conditions: the group lies and reads as its state; the text reads, apart from the group. -/
namespace Go.Proofs.YtccidllcjaaeeabGreatDoor
set_option maxRecDepth 100000
open Go Go.Maps Go.RowKit
open Go.Shelf Go.Lib Go.Sort
/-- A frame's first three bytes. -/
def headL (m g : Nat) : List UInt8 := [UInt8.ofNat m, UInt8.ofNat (g / 256), UInt8.ofNat (g % 256)]
def keyS (s : GSt) (m g : Nat) : List UInt8 := keyL (leafL s.root s.n m) g
def frameL (s : GSt) (m g : Nat) (l : List UInt8) : List UInt8 := headL m g ++ sealL (keyS s m g) (headL m g) l
/-- The state behind a message of one's own. -/
def protS (s : GSt) (c : Int) : GSt := { s with cnt := c, M := fun i => if i = s.own then ⟨true, (s.M s.own).next + 1, (s.M s.own).over⟩ else s.M i }
/-- A block is none of the group's. -/
def Apart (p : GPl) (b : Nat) : Prop := b ≠ p.G ∧ b ≠ p.H ∧ b ≠ p.K ∧ p.T.ownBlock ≠ some b
theorem Rd.apart {w w' : World} {p : Option Addr} {l : List UInt8} (h : Rd w p l) (hk : ∀ b o, p = some ⟨b, o, none⟩ → 0 < l.length → w'.heap[b]? = w.heap[b]?) : Rd w' p l := fun hn => by
  obtain ⟨b, o, e, hc⟩ := h hn
  exact ⟨b, o, e, fun j hj => (World.cell?_of_block (a := ⟨b, o + j, none⟩) (hk b o e hn)).trans (hc j hj)⟩
theorem g_count {w : World} {p : GPl} {s : GSt} (h : w.heap[p.G]? = some (.cells (gcells p s) 72 (0, 0))) (c : Int) : (w.setCell ⟨p.G, 6, none⟩ (.int .i64 c)).heap[p.G]? = some (.cells (gcells p { s with cnt := c }) 72 (0, 0)) := by
  rw [heap_setCell_same _ _ _ _ _ _ h]; rfl
theorem cnt_skip {w W w' : World} {p : Addr} {x y : Value} {R : Nat} {cs : Array Value} (hb : Below w.heap.size (w.setCell p x) W) (hR : w.heap.size ≤ R) (h : Below W.heap.size ((W.setCell p y).setRow R cs) w') : Below w.heap.size (w.setCell p y) w' := by
  have h1 := below_setRow (below_setCell hb p y) hR cs
  rw [setCell_twice] at h1
  exact h1.trans (h.mono (cnt_size hb))
theorem head_of {s : GSt} {f : Lit → Option Value} (hf : HeadOk s f) (hI : GInv s) (hc : s.closed = false) (m : Nat) (hm : m < s.n) :
    ∃ r : List UInt8, r.length = 8 ∧ (f (intL m)).getD (.agg (rcells zeroS 0)) = .agg (rcells r (s.M m).next) := by
  have h := hf.1 m (by have := hI.n16; omega)
  cases hb : (s.M m).begun with
  | true => rw [headV, if_pos ⟨hc, hm, hb⟩] at h; exact ⟨_, ratS_length (leafL s.root s.n m) (s.M m).next, by rw [h]; rfl⟩
  | false => rw [headV, if_neg (by rw [hb]; simp)] at h; exact ⟨zeroS, rfl, by rw [h, (hI.none m hb).1]; rfl⟩
theorem below_undrew {w w1 : World} {p : Addr} {x : Value} (h : Below w.drew.heap.size (w.drew.setCell p x) w1) : Below w.heap.size (w.setCell p x) w1 := ⟨h.os, h.tape, h.output, h.size, h.block⟩
theorem field_gen (r : List UInt8) (g : Int) (hr : r.length = 8) (w : World) : (Instr.field 102 (.agg (rcells r g)) 1).run Tryz.prog w = .ok (.int .i64 g) w := by
  obtain ⟨a0, a1, a2, a3, a4, a5, a6, a7, rfl⟩ := eight hr
  kernel_rfl
theorem seal_at (D o : Nat) (v : Int) (w : World) (k : List UInt8) (p1 p2 : Option Addr) (c1 c2 n1 : Nat) (head l : List UInt8) (hn1 : head.length = n1) (hk : k.length = 8)
    (hx : w.cell? ⟨D, o, none⟩ = some (.int .i64 v)) (hf : w.frozen? ⟨D, o, none⟩ = false) (hb0 : 0 ≤ v) (hb1 : v ≤ 4611686018426000000)
    (hl1 : head.length ≤ 9223372036854775807) (hr1 : Rd w p1 head)
    (hp : p2 = none → c2 = 0 ∧ l = []) (hs : p2 ≠ none → ∃ b o, p2 = some ⟨b, o, none⟩) (hl2 : l.length ≤ 65540) (hr2 : Rd w p2 l) :
    Calls Tryz.prog 59 #[.pointer (some ⟨D, o, none⟩), .agg (cells k), .slice p1 n1 c1, .slice p2 l.length c2] w fun e w' =>
      ∃ (q c : Nat), e = .returned (.slice (some ⟨q, 0, none⟩) (l.length + 4) c) ∧ w'.ownsRow w.heap.size 5 1 (.slice (some ⟨q, 0, none⟩) (l.length + 4) c) (l.length + 4) (cells (sealL k head l)).toList ∧ Rd w' (some ⟨q, 0, none⟩) (sealL k head l) ∧ Below w.heap.size (w.setCell ⟨D, o, none⟩ (.int .i64 (v + ((l.length + 7) / 8 : Nat) + 1))) w' := by
  subst hn1
  refine (seal_any D o v w k p1 p2 c1 c2 head l hk hx hf hb0 hb1 hl1 hr1 hp hs hl2 hr2).mono ?_
  rintro e w' ⟨r, rfl, ho, hb⟩
  obtain ⟨g, cap, rfl, _, _⟩ := ho.form (by omega)
  have ho2 := ho
  rw [← sealL_length k head l] at ho2
  exact ⟨g, cap, rfl, ho, Rd.own ho2, hb⟩
theorem ownsRow_blk {w w' : World} {b : Nat} {e size : Nat} {v : Value} {n : Nat} {xs : List Value} (h : w.ownsRow b e size v n xs) (hk : ∀ g, v.ownBlock = some g → w'.heap[g]? = w.heap[g]?) : w'.ownsRow b e size v n xs := by
  obtain ⟨h1, h2⟩ := h
  refine ⟨h1, ?_⟩
  rcases h2 with h2 | ⟨g, cap, cur, rfl, a2, a3, a4⟩
  · exact .inl h2
  · exact .inr ⟨g, cap, cur, rfl, a2, (hk g rfl).trans a3, a4⟩
theorem head_cells (m g : Nat) (hm : m ≤ 16) (hg : g ≤ 65535) : #[Value.int .u8 (m : Int), .int .u8 ((g : Int) / 256), .int .u8 ((g : Int) % 256)] = cells (headL m g) := by
  have e0 : ((UInt8.ofNat m).toNat : Int) = m := by rw [UInt8.toNat_ofNat']; omega
  have e1 : ((UInt8.ofNat (g / 256)).toNat : Int) = (g : Int) / 256 := by rw [UInt8.toNat_ofNat']; omega
  have e2 : ((UInt8.ofNat (g % 256)).toNat : Int) = (g : Int) % 256 := by rw [UInt8.toNat_ofNat']; omega
  have e : cells (headL m g) = #[.int .u8 ((UInt8.ofNat m).toNat : Int), .int .u8 ((UInt8.ofNat (g / 256)).toNat : Int), .int .u8 ((UInt8.ofNat (g % 256)).toNat : Int)] := rfl
  rw [e, e0, e1, e2]
theorem treeL_prot (s : GSt) (c : Int) (hc : s.closed = false) : treeL (protS s c) = treeU s s.own := by
  show (if s.closed = true then _ else _) = _
  rw [hc, if_neg (by simp)]
  exact partsT_congr 16 _ _ _ (fun i _ _ => by
    show (if i = s.own then _ else _ : Mem).begun = _
    simp only [upd]
    by_cases hi : i = s.own
    · simp [hi]
    · simp [hi]) (Nat.zero_le _)
theorem head_prot {s : GSt} {f : Lit → Option Value} (hf : HeadOk s f) (hc : s.closed = false) (hn : s.own < s.n) (c : Int) {r : List UInt8} {g1 : Nat} (hg1 : g1 = (s.M s.own).next + 1) (hr : r = ratS (leafL s.root s.n s.own) g1) :
    HeadOk (protS s c) (putF f (intL s.own) (some (.agg (rcells r g1)))) := by
  refine ⟨fun m hm => ?_, fun kl hkl => ?_⟩
  · by_cases hmo : m = s.own
    · subst hmo
      rw [putF_same (intL_key _)]
      have e : (protS s c).M s.own = ⟨true, (s.M s.own).next + 1, (s.M s.own).over⟩ := by simp [protS]
      have : headV (protS s c) s.own = some (.agg (rcells (ratS (leafL s.root s.n s.own) ((protS s c).M s.own).next) ((protS s c).M s.own).next)) := if_pos ⟨hc, hn, by rw [e]⟩
      rw [this, e, hr, hg1]
    · rw [putF_other (fun e => hmo (intL_inj e)), hf.1 m hm]
      have e : (protS s c).M m = s.M m := by simp [protS, hmo]
      show headV s m = (if _ then _ else _)
      rw [e]; rfl
  · by_cases hk : kl = intL s.own
    · exact ⟨s.own, hn, hk⟩
    · rw [putF_other hk] at hkl; exact hf.2 kl hkl
theorem kept_prot {s : GSt} {f : Lit → Option Value} (hf : KeptOk s f) (c : Int) : KeptOk (protS s c) f := by
  refine ⟨fun m g hm hg => ?_, fun kl hkl => hf.2 kl hkl⟩
  rw [hf.1 m g hm hg]
  have e : ((protS s c).M m).over = (s.M m).over := by
    by_cases hmo : m = s.own
    · subst hmo; simp [protS]
    · simp [protS, hmo]
  show (if _ then _ else _) = (if _ then _ else _)
  rw [e]; rfl
set_option maxHeartbeats 8000000 in
theorem protect_ok (w : World) (lo t : Nat) (p : GPl) (s : GSt) (pt : Option Addr) (cap : Nat) (l : List UInt8) (hA : GroupAt w lo p s t) (hI : GInv s) (hc : s.closed = false) (hl : l.length ≤ 40) (hn : (s.M s.own).next ≤ 65535)
    (hb0 : 0 ≤ s.cnt) (hb1 : s.cnt ≤ 4611686010000000000) (ht : t < 1000000000000) (hp : pt = none → cap = 0 ∧ l = []) (hs : pt ≠ none → ∃ b o, pt = some ⟨b, o, none⟩) (hr : Rd w pt l) (hap : ∀ b o, pt = some ⟨b, o, none⟩ → 0 < l.length → b < w.heap.size ∧ Apart p b) :
    Calls Tryz.prog 37 #[.pointer (some ⟨p.G, 0, none⟩), .slice pt l.length cap] w fun e w' => ∃ (v T' : Value) (c' : Int), e = .returned (.tuple #[v, .nilIface]) ∧
      w'.ownsRow w.heap.size 5 1 v (l.length + 7) (cells (frameL s s.own (s.M s.own).next l)).toList ∧ GroupAt w' lo { p with T := T' } (protS s c') (t + 1) ∧ Frm w w' p ∧ TreeNew w p.T T' ∧ s.cnt < c' ∧ c' ≤ s.cnt + 2 * depthF 16 s.n s.own + 4 + ((l.length + 7) / 8 : Nat) := by
  have hA0 := Lib.hid hA
  obtain ⟨hG, hT, ⟨f, hH, hf⟩, ⟨f2, hK, hf2⟩, hlG, hlH, hlK, hHK⟩ := hA
  have hGs := (Array.getElem?_eq_some_iff.1 hG).1
  have hHs := mapAt_lt hH
  have hown := hI.own
  have h16 := hI.n16
  obtain ⟨r0, hr0, hlkv⟩ := head_of hf hI hc s.own hown
  have hlk := mapAt_look (w := w.drew) (mapAt_same hH rfl) int_law Tryz.underlying52 (zeroRat _) (key_int s.own (by omega) (by omega))
  rw [hlkv] at hlk
  obtain ⟨gen, hgen⟩ : ∃ gen, gen = (s.M s.own).next := ⟨_, rfl⟩
  rw [← hgen] at hn hlk
  have hfld := field_gen r0 gen hr0
  obtain ⟨_, c5, c6, _, c8, _, c10, _⟩ := g_cells hG
  rw [hc] at c5
  have hneed := need_any w.drew lo t s.own p s hA0.out hI hc hown hb0 (by omega)
  rw [← hgen] at hneed
  obtain ⟨r1, hr1⟩ : ∃ r1, r1 = ratS (leafL s.root s.n s.own) gen := ⟨_, rfl⟩
  rw [← hr1] at hneed
  have Hneed := Lib.hid hneed
  have hr1l : r1.length = 8 := by rw [hr1]; exact ratS_length _ _
  have Hr1 := Lib.hid hr1
  have Hr1l := Lib.hid hr1l
  clear hr1 hr1l
  have hgI : ¬ (65535 : Int) < gen := by omega
  have hlI : ¬ (40 : Int) < l.length := by omega
  have HG := Lib.hid hG
  have Hgen := Lib.hid hgen
  have Hr := Lib.hid hr
  have Hap := Lib.hid hap
  have HH := Lib.hid hH
  have HHK := Lib.hid hHK
  have Hf := Lib.hid hf
  have Hhk : Hid (mapAt w Tryz.prog 104 p.K t f2 ∧ KeptOk s f2) := Lib.hid ⟨hK, hf2⟩
  have HT := Lib.hid hT
  have Hhs := Lib.hid hs
  have Hhp := Lib.hid hp
  have Hlo := Lib.hid (And.intro hlG (And.intro hlH hlK))
  clear hneed hA0 hG hgen hr hap hH hHK hf hK hf2 hT hlkv hr0 hs hp hlG hlH hlK
  refine calls_of_wp_defersB Tryz.func37 rfl ?_
  simp only [Tryz.ntmps37, List.size_toArray, List.length_cons, List.length_nil, Nat.reduceAdd, Nat.reduceSub, Array.replicate_succ, Array.replicate_zero, List.push_toArray, List.append_toArray, List.nil_append, List.cons_append]
  go_upto_region 1 with (fail)
  go_region
  go_wp2_with fail
  refine Hneed.out.mono ?_
  rintro e w1 ⟨T1, d1, rfl, hd1, hd2, ho1, htn, hb1'⟩
  obtain ⟨at1, ct1, rfl⟩ := (SliceR.of_own ho1).form
  have Ho1 := Lib.hid ho1
  have Htn := Lib.hid htn
  have Hb1 : Hid (Below w.heap.size (w.setCell ⟨p.G, 6, none⟩ (.int .i64 d1)) w1) := Lib.hid (below_undrew hb1')
  have hw1 : w.heap.size ≤ w1.heap.size := cnt_size Hb1.out
  have HG1 : Hid (w1.heap[p.G]? = some (.cells (gcells p { s with cnt := d1 }) 72 (0, 0))) := Lib.hid ((Hb1.out.block _ (by simpa using hGs)).trans (g_count HG.out d1))
  clear ho1 htn hb1' Hneed hlk hfld c5 c6 c8 c10 hgI hlI
  obtain ⟨_, _, c6, _, c8, _, _, _⟩ := g_cells HG1.out
  have c6f := frozen_of_row _ _ 6 _ _ HG1.out
  obtain ⟨R, hR⟩ : ∃ R, R = w1.heap.size := ⟨_, rfl⟩
  have hGR : p.G < w1.heap.size := Nat.lt_of_lt_of_le hGs hw1
  go_wp2_with (first
    | (refine wpList_store_row rfl 102 _ _ rfl w1.heap.size (rcells r1 gen) rfl rfl _ (rcells zeroS 0) (by rw [rcells_zero]; exact heap_alloc_new _ _) (by rw [infoRatchet, rcells_size _ _ Hr1l.out]) (by rw [rcells_size _ _ rfl, rcells_size _ _ Hr1l.out]) (rcells_one _ _) ?_; rw [← rcells_zero, World.setRow_alloc_new]))
  refine (next_any p.G 6 w1.heap.size d1 _ r1 gen Hr1l.out hn (by rw [World.cell?_alloc_past _ _ _ hGR]; exact c6) (by rw [World.frozen?_alloc_past _ _ _ hGR]; exact c6f) (by omega) (by have := depthF_le 16 s.n s.own; omega) (heap_alloc_new _ _) (by omega)).mono ?_
  rintro e w2 ⟨rfl, hb2⟩
  obtain ⟨d2, hd2e⟩ : ∃ d2, d2 = d1 + nextN gen := ⟨_, rfl⟩
  have hd2b : d1 + 1 ≤ d2 ∧ d2 ≤ d1 + 2 := by rw [hd2e, nextN]; split <;> omega
  rw [← hd2e] at hb2
  obtain ⟨r2, hr2⟩ : ∃ r2, r2 = nextS r1 gen := ⟨_, rfl⟩
  have hr2l : r2.length = 8 := by rw [hr2]; exact nextS_length _ _
  rw [← hr2] at hb2
  have hr2n : r2 = ratS (leafL s.root s.n s.own) (gen + 1) := by rw [hr2, Hr1.out]; exact ratS_next _ _ hn
  have Hr2l := Lib.hid hr2l
  obtain ⟨key, hkey⟩ : ∃ key, key = kd r1 lKey gen := ⟨_, rfl⟩
  rw [← hkey]
  have hkeyl : key.length = 8 := by rw [hkey]; exact kd_length _ _ _
  have hkeyS : key = keyS s s.own gen := by rw [hkey, Hr1.out]; exact ratS_key _ _ hn
  have Hkeyl := Lib.hid hkeyl
  have HkeyS := Lib.hid hkeyS
  have hB2 : Below w.heap.size (w.setCell ⟨p.G, 6, none⟩ (.int .i64 d2)) w2 := cnt_skip (Hb1.out.alloc (by simpa using hw1) _) hw1 hb2
  have hRow2 : w2.heap[w1.heap.size]? = some (.cells (rcells r2 ((gen : Int) + 1)) 102 (0, 0)) := by
    rw [hb2.block _ (by simp)]; exact setRow_heap _ _ _ _ _ _ ((heap_ne (by omega)).trans (heap_alloc_new _ _))
  have Hb2 := Lib.hid hB2
  have hw12 : w1.heap.size < w2.heap.size := (Array.getElem?_eq_some_iff.1 hRow2).1
  have hg12 : w1.grownBy w2 (some p.G) := ⟨hb2.os, hb2.tape, hb2.output, Nat.le_of_lt hw12, fun k hk hne => by
    rw [hb2.block k (by simp; omega), heap_row_ne (by omega), heap_ne (fun e => hne (by rw [e])), Below.heap_alloc _ _ _ hk]⟩
  have ho2 := Ho1.out.kept hg12 (.inr (tree_ne Ho1.out HG1.out))
  obtain ⟨g1, hg1⟩ : ∃ g1, g1 = gen + 1 := ⟨_, rfl⟩
  rw [show (gen : Int) + 1 = (g1 : Int) by omega] at hRow2
  rw [← hg1] at hr2n
  have Hg1 := Lib.hid hg1
  have Hr2n := Lib.hid hr2n
  clear hg1 hg12
  have Hrow2 := Lib.hid hRow2
  clear hb2 hd2e hr2 hr2l hr2n hkey hkeyl hkeyS hB2 hRow2 c6 c6f c8
  go_upto_region 11 with (first
    | (refine wpList_store_row rfl 36 _ _ rfl w2.heap.size (cells key) rfl rfl _ _ (heap_alloc_new _ _) (by rw [infoSecret, cells_size, Hkeyl.out]) (by rw [cells_size, Hkeyl.out]; rfl) (cells_one _) ?_; rw [World.setRow_alloc_new]))
  generalize hW3 : World.alloc _ _ = W3
  have hB3 : Below w.heap.size (w.setCell ⟨p.G, 6, none⟩ (.int .i64 d2)) W3 := by rw [← hW3]; exact Hb2.out.alloc (by have := cnt_size Hb2.out; simpa using this) _
  have hG3 : W3.heap[p.G]? = some (.cells (gcells p { s with cnt := d2 }) 72 (0, 0)) := (hB3.block _ (by simpa using hGs)).trans (g_count HG.out d2)
  have hR3 : W3.heap[w1.heap.size]? = some (.cells (rcells r2 g1) 102 (0, 0)) := by rw [← hW3, Below.heap_alloc _ _ _ hw12]; exact Hrow2.out
  have hK3 : W3.heap[w2.heap.size]? = some (.cells (cells key) 36 (0, 0)) := by rw [← hW3]; exact heap_alloc_new _ _
  have hT3 : W3.ownsRow lo 49 10 (.slice at1 (treeU s s.own).length ct1) (treeU s s.own).length (lcells (treeU s s.own)) := by rw [← hW3]; exact ho2.alloc _
  have hP3 : W3.ownsRow lo 49 10 p.T (treeL s).length (lcells (treeL s)) := HT.out.kept (cnt_grown hB3) (.inr (tree_ne HT.out HG.out))
  have hGH := g_ne_map HG.out HH.out
  have hm3 : mapAt W3 Tryz.prog 3 p.H t f := mapAt_same HH.out (by rw [hB3.block _ (by simpa using hHs)]; exact heap_ne hGH)
  obtain ⟨at0, ct0, hpT⟩ := (SliceR.of_own hP3).form
  have hs3 : w1.heap.size < W3.heap.size ∧ w2.heap.size < W3.heap.size := ⟨(Array.getElem?_eq_some_iff.1 hR3).1, (Array.getElem?_eq_some_iff.1 hK3).1⟩
  have hTlt : ∀ b, p.T.ownBlock = some b → b < w.heap.size := fun b hb => (HT.out.lt b hb).2
  have hcom := commit_any W3.drew lo t s.own p { s with cnt := d2 } f r2 g1 at0 at1 (treeL s).length (treeU s s.own).length ct0 ct1 _ Hr2l.out hG3 (mapAt_same hm3 rfl) (by unfold maxLen; omega) (by omega) hpT hP3 (tree_ne hP3 hG3) (tree_ne_map hP3 hm3)
  have Hcom := Lib.hid hcom
  obtain ⟨_, _, _, _, c8, _, _, _⟩ := g_cells hG3
  obtain ⟨a0, a1, a2, a3, a4, a5, a6, a7, hk8⟩ := eight Hr2l.out
  obtain ⟨e0, e1, e2, e3, e4, e5, e6, e7, e8⟩ := nine_cells hk8 hR3
  have Hk8 := Lib.hid hk8
  have Hc9 : Hid (#[Value.int .u8 a0.toNat, .int .u8 a1.toNat, .int .u8 a2.toNat, .int .u8 a3.toNat, .int .u8 a4.toNat, .int .u8 a5.toNat, .int .u8 a6.toNat, .int .u8 a7.toNat, .int .i64 g1] = rcells r2 g1) := Lib.hid (by rw [hk8]; rfl)
  have HB3 := Lib.hid hB3
  have HG3 := Lib.hid hG3
  have HR3 := Lib.hid hR3
  have HK3 := Lib.hid hK3
  have HT3 := Lib.hid hT3
  have HTlt := Lib.hid hTlt
  have HpT := Lib.hid hpT
  clear hcom hW3 hB3 hG3 hR3 hK3 hT3 hP3 hm3 hk8 hTlt hpT ho2 hR
  go_region_held3 (fun w' => w'.cell? ⟨p.G, 8, none⟩ = some (.int .i64 s.own) ∧ w'.cell? ⟨w1.heap.size, 0, none⟩ = some (.int .u8 a0.toNat) ∧ w'.cell? ⟨w1.heap.size, 1, none⟩ = some (.int .u8 a1.toNat) ∧ w'.cell? ⟨w1.heap.size, 2, none⟩ = some (.int .u8 a2.toNat) ∧ w'.cell? ⟨w1.heap.size, 3, none⟩ = some (.int .u8 a3.toNat) ∧ w'.cell? ⟨w1.heap.size, 4, none⟩ = some (.int .u8 a4.toNat) ∧ w'.cell? ⟨w1.heap.size, 5, none⟩ = some (.int .u8 a5.toNat) ∧ w'.cell? ⟨w1.heap.size, 6, none⟩ = some (.int .u8 a6.toNat) ∧ w'.cell? ⟨w1.heap.size, 7, none⟩ = some (.int .u8 a7.toNat) ∧ w'.cell? ⟨w1.heap.size, 8, none⟩ = some (.int .i64 g1))
    (refine ⟨?_, ?_, ?_, ?_, ?_, ?_, ?_, ?_, ?_, ?_⟩ <;> (first | with_reducible assumption | (simp only [World.cell?_drew]; with_reducible assumption)))
    (first | (go_at_call 58; rw [Hc9.out]; go_must (refine Hcom.out.mono ?_); rintro e w4 ⟨rfl, hG4, hm4, o1, o2, o3, hs4, hk4⟩; go_must (obtain ⟨_, _, _, _, k8, _, _, _⟩ := g_cells (p := { p with T := .slice at1 (treeU s s.own).length ct1 }) hG4); go_must (have hR4 := (hk4 w1.heap.size hs3.1 (by omega) (by omega) (.inr (fun e => by have := HTlt.out _ e; omega))).trans HR3.out); go_must (obtain ⟨k0, k1, k2, k3, k4, k5, k6, k7, k9⟩ := nine_cells Hk8.out hR4); have HG4 := Lib.hid hG4; have Hm4 := Lib.hid hm4; have Hk4 := Lib.hid hk4; have Ho4 := Lib.hid (And.intro o1 (And.intro o2 o3)); clear hG4 hm4 hk4 o1 o2 o3 hR4))
  clear e0 e1 e2 e3 e4 e5 e6 e7 e8 k0 k1 k2 k3 k4 k5 k6 k7 k9 c8
  go_upto_region 13 with (fail)
  rw [head_cells s.own gen (by omega) hn]
  generalize hW5 : World.alloc _ _ = W5
  have hs5 : w4.heap.size < W5.heap.size := by rw [← hW5]; simp
  have hw4 : w.heap.size ≤ w4.heap.size := by have := hs3.1; have h4 : W3.heap.size ≤ w4.heap.size := hs4; omega
  have hH5 : W5.heap[w4.heap.size]? = some (.cells (cells (headL s.own gen)) 5 (0, 0)) := by rw [← hW5]; exact heap_alloc_new _ _
  have hb5 : ∀ b, b < w4.heap.size → W5.heap[b]? = w4.heap[b]? := fun b hb => by rw [← hW5]; exact Below.heap_alloc _ _ _ hb
  have ho5 : W5.os = w4.os ∧ W5.tape = w4.tape ∧ W5.output = w4.output := by rw [← hW5]; exact ⟨rfl, rfl, rfl⟩
  have hK4 : w4.heap[w2.heap.size]? = some (.cells (cells key) 36 (0, 0)) := (Hk4.out w2.heap.size hs3.2 (by omega) (by omega) (.inr (fun e => by have := HTlt.out _ e; omega))).trans HK3.out
  have hK5 : W5.heap[w2.heap.size]? = some (.cells (cells key) 36 (0, 0)) := (hb5 _ (Array.getElem?_eq_some_iff.1 hK4).1).trans hK4
  have hG5 : W5.heap[p.G]? = some (.cells (gcells { p with T := .slice at1 (treeU s s.own).length ct1 } { s with cnt := d2 }) 72 (0, 0)) := (hb5 _ (Nat.lt_of_lt_of_le hGs hw4)).trans HG4.out
  obtain ⟨_, _, c6, _, _, _, _, _⟩ := g_cells (p := { p with T := .slice at1 (treeU s s.own).length ct1 }) hG5
  have c6f := frozen_of_row _ _ 6 _ _ hG5
  have hrd5 : Rd W5 pt l := Hr.out.apart fun b o hb hl => by
    obtain ⟨hbw, x1, x2, x3, x4⟩ := Hap.out b o hb hl
    have h3 : W3.heap[b]? = w.heap[b]? := (HB3.out.block b (by simpa using hbw)).trans (heap_ne (Ne.symm x1))
    exact (hb5 b (Nat.lt_of_lt_of_le hbw hw4)).trans ((Hk4.out b (show b < W3.heap.size from Nat.lt_of_lt_of_le hbw (cnt_size HB3.out)) x1 x2 (.inr x4)).trans h3)
  have hrdh : Rd W5 (some ⟨w4.heap.size, 0, none⟩) (headL s.own gen) := Rd.row hH5
  have hown5 : ∀ W' : World, W'.heap[w4.heap.size]? = some (.cells (cells (headL s.own gen)) 5 (0, 0)) → W'.ownsRow w.heap.size 5 1 (.slice (some ⟨w4.heap.size, 0, none⟩) 3 3) 3 (cells (headL s.own gen)).toList := fun W' hW' =>
    ⟨by rw [cells_len]; rfl, .inr ⟨w4.heap.size, 3, _, rfl, hw4, hW', Nat.le_refl _, by unfold maxLen; omega, by rw [cells_size]; rfl, by rw [List.take_of_length_le (by rw [cells_len]; exact Nat.le_refl _)]⟩⟩
  obtain ⟨a0', a1', a2', a3', a4', a5', a6', a7', hk8⟩ := eight Hkeyl.out
  obtain ⟨e0, e1, e2, e3, e4, e5, e6, e7⟩ := eight_cells' hk8 hK5
  have Hkk8 := Lib.hid hk8
  have Hck : Hid (#[Value.int .u8 a0'.toNat, .int .u8 a1'.toNat, .int .u8 a2'.toNat, .int .u8 a3'.toNat, .int .u8 a4'.toNat, .int .u8 a5'.toNat, .int .u8 a6'.toNat, .int .u8 a7'.toNat] = cells key) := Lib.hid (by rw [hk8]; rfl)
  obtain ⟨i0, hi', hz0', hz1', hz2'⟩ := info_parts infoU8
  have hi := Lib.hid hi'
  have hz0 := Lib.hid hz0'
  have hz1 := Lib.hid hz1'
  have hz2 := Lib.hid hz2'
  have Hown5 := Lib.hid hown5
  have Hhl : Hid ((headL s.own gen).length ≤ 9223372036854775807) := Lib.hid (by rw [show (headL s.own gen).length = 3 from rfl]; decide)
  have HH5 := Lib.hid hH5
  have HK5 := Lib.hid hK5
  have HG5 := Lib.hid hG5
  have Hrd5 : Hid (Rd W5.drew pt l) := Lib.hid hrd5
  have Hrdh : Hid (Rd W5.drew (some ⟨w4.heap.size, 0, none⟩) (headL s.own gen)) := Lib.hid hrdh
  have Hb5 := Lib.hid hb5
  have Ho5 := Lib.hid ho5
  have hb26 : d2 ≤ 4611686018426000000 := by have := depthF_le 16 s.n s.own; omega
  have hd20 : 0 ≤ d2 := by omega
  have hK4' : w2.heap.size < w4.heap.size := (Array.getElem?_eq_some_iff.1 hK4).1
  clear hW5 hH5 hK4 hK5 hG5 hrd5 hrdh hown5 hk8 hi' hz0' hz1' hz2' hb5 ho5
  go_region_held_law (fun w' => w'.cell? ⟨w2.heap.size, 0, none⟩ = some (.int .u8 a0'.toNat) ∧ w'.cell? ⟨w2.heap.size, 1, none⟩ = some (.int .u8 a1'.toNat) ∧ w'.cell? ⟨w2.heap.size, 2, none⟩ = some (.int .u8 a2'.toNat) ∧ w'.cell? ⟨w2.heap.size, 3, none⟩ = some (.int .u8 a3'.toNat) ∧ w'.cell? ⟨w2.heap.size, 4, none⟩ = some (.int .u8 a4'.toNat) ∧ w'.cell? ⟨w2.heap.size, 5, none⟩ = some (.int .u8 a5'.toNat) ∧ w'.cell? ⟨w2.heap.size, 6, none⟩ = some (.int .u8 a6'.toNat) ∧ w'.cell? ⟨w2.heap.size, 7, none⟩ = some (.int .u8 a7'.toNat))
    (refine ⟨?_, ?_, ?_, ?_, ?_, ?_, ?_, ?_⟩ <;> (first | with_reducible assumption | (simp only [World.cell?_drew]; with_reducible assumption)))
    (first
      | (go_at_call 59; rw [Hck.out]; go_must (refine (seal_at p.G 6 d2 W5.drew key (some ⟨w4.heap.size, 0, none⟩) pt 3 cap 3 (headL s.own gen) l rfl Hkeyl.out ?_ ?_ hd20 hb26 Hhl.out Hrdh.out Hhp.out Hhs.out (by omega) Hrd5.out).mono ?_); (first | exact c6 | (simp only [World.cell?_drew]; exact c6)); (first | exact c6f | (simp only [World.frozen?_drew]; exact c6f)); rintro e w6 ⟨q, c, rfl, ho6, hr6, hb6⟩; have Hr6 := Lib.hid hr6; go_must (have hw6 : w.heap.size ≤ w6.heap.size := Nat.le_trans hw4 (Nat.le_trans (Nat.le_of_lt hs5) (cnt_size (w := W5.drew) hb6))); go_must (have hK6 := cnt_row hb6 (show W5.drew.heap[w2.heap.size]? = _ from HK5.out) (by omega)); go_must (have hH6 := cnt_row hb6 (show W5.drew.heap[w4.heap.size]? = _ from HH5.out) (by omega)); go_must (obtain ⟨k0, k1, k2, k3, k4, k5, k6, k7⟩ := eight_cells' Hkk8.out hK6); have HK6 := Lib.hid hK6; have HH6 := Lib.hid hH6; have Ho6 := Lib.hid ho6; have Hb6 := Lib.hid hb6; clear hK6 hH6 ho6 hr6 hb6)
      | (have hguard := HH6.out; refine step_append_lies _ rfl _ _ 73 rfl w.heap.size 5 i0 (.int .u8 0) 1 1 Tryz.underlying73 hi.out hz0.out hz1.out hz2.out rfl (by decide) _ 3 _ rfl (Hown5.out _ HH6.out) ⟨q, 0, none⟩ (l.length + 4) c (cells (sealL key (headL s.own gen) l)).toList rfl (by rw [cells_len, sealL_length, Nat.mul_one]) Hr6.out.news (cells_oneCell _) (by omega) (by unfold maxLen; omega) (by omega) hw6 _ rfl ?_; intro g7 cap7 w7 hown7 hgrow7 hat7 hlt7; have hK7 := (hgrow7.block w2.heap.size (Array.getElem?_eq_some_iff.1 HK6.out).1 (fun e => slice_ne (show w4.heap.size ≠ w2.heap.size by omega) e.symm)).trans HK6.out; obtain ⟨m0, m1, m2, m3, m4, m5, m6, m7⟩ := eight_cells' Hkk8.out hK7; have HK7 := Lib.hid hK7; have Hown7 := Lib.hid hown7; have Hgrow7 := Lib.hid hgrow7; have Hat7 := Lib.hid hat7; clear hK7 hown7 hgrow7 hat7; (try simp only [List.getElem_toArray, List.getElem_cons_succ, List.getElem_cons_zero, Act.put, List.setIfInBounds_toArray, List.set_cons_zero, List.set_cons_succ])))
  have hcl := run_clear_sec (P := Tryz.prog) HK7.out Hkeyl.out 73 5 0 Tryz.underlying73 (fun _ => zeroU8 _)
  have hcl2 : (invoke (Target.builtin Builtin.clear #[73] 0 #[false]) #[.slice (some ⟨w2.heap.size, 0, none⟩) 8 8]).run Tryz.prog w7 = .ok (.value (.tuple #[])) (w7.setRow w2.heap.size (cells zeroS)) := by
    simp [invoke, builtin, hcl, Result.andThen]
  go_wp2_with fail
  refine ⟨_, _, _, _, _, _, rfl, hcl2, ?_⟩
  refine ⟨_, results_tmp2 rfl _ _ _, ?_⟩
  have hg7 : w2.heap.size ≠ g7 := by
    rcases Hat7.out with e | e
    · have e' : w4.heap.size = g7 := Option.some.inj e
      omega
    · have : w4.heap.size < w6.heap.size := (Array.getElem?_eq_some_iff.1 HH6.out).1
      omega
  have hw67 : w6.heap.size ≤ w7.heap.size := Hgrow7.out.size
  have hw56 : W5.heap.size ≤ w6.heap.size := cnt_size (w := W5.drew) Hb6.out
  have hw34 : W3.heap.size ≤ w4.heap.size := hs4
  -- a block from before the head's, other than the group's
  have hkeep : ∀ b, b < w4.heap.size → b ≠ p.G → b ≠ w2.heap.size → (w7.setRow w2.heap.size (cells zeroS)).heap[b]? = w4.heap[b]? := fun b hb h1 h2 => by
    rw [setRow_other _ _ _ _ h2, Hgrow7.out.block b (by omega) (fun e => slice_ne (show w4.heap.size ≠ b by omega) e.symm), cnt_other (w := W5.drew) Hb6.out (show b < W5.heap.size by omega) h1]
    exact Hb5.out b hb
  have hmap : ∀ b, b < w.heap.size → b ≠ p.G → b ≠ p.H → ((treeU s s.own).length = (treeL s).length ∨ p.T.ownBlock ≠ some b) → (w7.setRow w2.heap.size (cells zeroS)).heap[b]? = w.heap[b]? := fun b hb h1 h2 h3 =>
    (hkeep b (by omega) h1 (by omega)).trans ((Hk4.out b (show b < W3.heap.size by omega) h1 h2 h3).trans ((HB3.out.block b (by simpa using hb)).trans (heap_ne (Ne.symm h1))))
  obtain ⟨hlG, hlH, hlK⟩ := Hlo.out
  have hKs := mapAt_lt Hhk.out.1
  have hGK := g_ne_map HG.out Hhk.out.1
  have hTK : p.T.ownBlock ≠ some p.K := tree_ne_map HT.out Hhk.out.1
  have hT1 : (w7.setRow w2.heap.size (cells zeroS)).ownsRow lo 49 10 (.slice at1 (treeU s s.own).length ct1) (treeU s s.own).length (lcells (treeU s s.own)) := by
    have h4 : w4.ownsRow lo 49 10 (.slice at1 (treeU s s.own).length ct1) (treeU s s.own).length (lcells (treeU s s.own)) := ownsRow_blk HT3.out fun b hb => by
      have hbs := (HT3.out.lt b hb).2
      rcases Htn.out with e | e
      · rw [e] at hb
        have hlen : (treeU s s.own).length = (treeL s).length := by
          rw [HpT.out] at e
          injection e
        exact Hk4.out b hbs (fun h => tree_ne HT.out HG.out (by rw [hb, h])) (fun h => tree_ne_map HT.out HH.out (by rw [hb, h])) (.inl hlen)
      · have hge : w.heap.size ≤ b := e b hb
        exact Hk4.out b hbs (by omega) (by omega) (.inr fun h => by have := HTlt.out b h; omega)
    refine ownsRow_blk h4 fun b hb => hkeep b (h4.lt b hb).2 (fun h => ?_) (fun h => ?_)
    · exact tree_ne (p := { p with T := .slice at1 (treeU s s.own).length ct1 }) h4 HG4.out (by rw [hb, h])
    · obtain ⟨_, h2⟩ := HT3.out
      rcases h2 with ⟨e, _⟩ | ⟨b', cap', cur', e, _, e3, _⟩
      · rw [e] at hb; cases hb
      · rw [e] at hb
        have hbb : b' = b := Option.some.inj hb
        rw [hbb, h, HK3.out] at e3
        injection e3 with e3
        injection e3 with _ e4
        exact absurd e4 (by decide)
  refine ⟨.slice (some ⟨g7, 0, none⟩) (3 + (l.length + 4)) cap7, .slice at1 (treeU s s.own).length ct1, d2 + (((l.length + 7) / 8 : Nat) : Int) + 1, rfl, ?_, ⟨?_, ?_, ⟨_, ?_, head_prot Hf.out hc hown _ (by rw [Hg1.out, Hgen.out]) Hr2n.out⟩, ⟨f2, ?_, kept_prot Hhk.out.2 _⟩, hlG, hlH, hlK, HHK.out⟩, ⟨?_, ?_, ?_, ?_, ?_⟩, Htn.out, by omega, ?_⟩
  · have h7 := Hown7.out
    rw [cells_append, HkeyS.out, Hgen.out] at h7
    rw [show l.length + 7 = 3 + (l.length + 4) by omega]
    exact ownsRow_blk h7 fun b hb => setRow_other _ _ _ _ (by
      have : g7 = b := Option.some.inj hb
      omega)
  · show (w7.setRow w2.heap.size (cells zeroS)).heap[p.G]? = _
    rw [setRow_other _ _ _ _ (by omega), Hgrow7.out.block p.G (by omega) (fun e => slice_ne (show w4.heap.size ≠ p.G by omega) e.symm)]
    refine (Hb6.out.block p.G (by show p.G < (W5.drew).heap.size; have : W5.drew.heap.size = W5.heap.size := rfl; omega)).trans ?_
    have := g_count (p := { p with T := .slice at1 (treeU s s.own).length ct1 }) (w := W5.drew) HG5.out (d2 + ((l.length + 7) / 8 : Nat) + 1)
    exact this
  · rw [treeL_prot s _ hc]; exact hT1
  · exact mapAt_same Hm4.out (hkeep p.H (by omega) (Ne.symm hGH) (by omega))
  · exact mapAt_mono (mapAt_same Hhk.out.1 (hmap p.K hKs (Ne.symm hGK) (Ne.symm HHK.out) (.inr hTK))) (Nat.le_succ _)
  · exact Hgrow7.out.os.trans (Hb6.out.os.trans (Ho5.out.1.trans (Ho4.out.1.trans HB3.out.os)))
  · exact Hgrow7.out.tape.trans (Hb6.out.tape.trans (Ho5.out.2.1.trans (Ho4.out.2.1.trans HB3.out.tape)))
  · exact Hgrow7.out.output.trans (Hb6.out.output.trans (Ho5.out.2.2.trans (Ho4.out.2.2.trans HB3.out.output)))
  · rw [size_setRow]; omega
  · intro b hb h1 h2 h3 h4
    exact hmap b hb h1 h2 (.inr h4)
  · omega
end Go.Proofs.YtccidllcjaaeeabGreatDoor
/- The walk of a group's protect where it does not go, and of Protect: the lock taken, the inner one, the error's number, the lock let go. Conditions: as the inner one's; errors.errorType holds the handle of error. -/
namespace Go.Proofs.YtccidllcjaaeeabGreatDoor
set_option maxRecDepth 100000
open Go Go.Maps Go.RowKit
open Go.Shelf Go.Lib Go.Sort Go.MuLone
theorem head_some {s : GSt} {f : Lit → Option Value} (hf : HeadOk s f) (m : Nat) (hm : m ≤ 16) :
    ∃ (r : List UInt8) (g : Nat), r.length = 8 ∧ (f (intL m)).getD (.agg (rcells zeroS 0)) = .agg (rcells r g) ∧ g = (if s.closed = false ∧ m < s.n ∧ (s.M m).begun = true then (s.M m).next else 0) := by
  have h := hf.1 m (by omega)
  by_cases hc : s.closed = false ∧ m < s.n ∧ (s.M m).begun = true
  · rw [headV, if_pos hc] at h; exact ⟨_, _, ratS_length (leafL s.root s.n m) (s.M m).next, by rw [h]; rfl, by rw [if_pos hc]⟩
  · rw [headV, if_neg hc] at h; exact ⟨zeroS, 0, rfl, by rw [h]; rfl, by rw [if_neg hc]⟩
/-- What keeps one from protecting. -/
def protNo (s : GSt) (n : Nat) : Option Int := if s.closed = true then some 9 else if 40 < n then some 2 else if 65535 < (s.M s.own).next then some 8 else none
set_option maxHeartbeats 4000000 in
theorem protect_no (w : World) (lo t : Nat) (p : GPl) (s : GSt) (pt : Option Addr) (cap n : Nat) (c : Int) (hA : GroupAt w lo p s t) (hI : GInv s) (hc : protNo s n = some c) :
    Calls Tryz.prog 37 #[.pointer (some ⟨p.G, 0, none⟩), .slice pt n cap] w fun e w' => e = .returned (.tuple #[.slice none 0 0, .iface 138 (.agg #[.int .i64 c])]) ∧ Below w.heap.size w w' := by
  obtain ⟨hG, hT, ⟨f, hH, hf⟩, _⟩ := hA
  have hown := hI.own
  have h16 := hI.n16
  obtain ⟨r0, gen, hr0, hlkv, hgen⟩ := head_some hf s.own (by omega)
  have hlk := mapAt_look (w := w.drew) (mapAt_same hH rfl) int_law Tryz.underlying52 (zeroRat _) (key_int s.own (by omega) (by omega))
  rw [hlkv] at hlk
  have hfld := field_gen r0 gen hr0
  obtain ⟨_, c5, c6, _, c8, _, c10, _⟩ := g_cells hG
  unfold protNo at hc
  clear hG hT hH hf hlkv hr0
  by_cases h1 : s.closed = true
  · rw [if_pos h1] at hc
    obtain rfl : 9 = c := Option.some.inj hc
    rw [h1] at c5
    clear hgen hc hI
    refine calls_of_wp_defersB Tryz.func37 rfl ?_
    simp only [Tryz.ntmps37, List.size_toArray, List.length_cons, List.length_nil, Nat.reduceAdd, Nat.reduceSub, Array.replicate_succ, Array.replicate_zero, List.push_toArray, List.append_toArray, List.nil_append, List.cons_append]
    go_upto_region 1 with (fail)
    go_region
    go_wp2
    exact ⟨_, results_tmp2 rfl _ _ _, rfl, (Below.refl _ _).drew⟩
  · rw [if_neg h1] at hc
    have h1' : s.closed = false := by simpa using h1
    rw [h1'] at c5
    by_cases h2 : 40 < n
    · rw [if_pos h2] at hc
      obtain rfl : 2 = c := Option.some.inj hc
      have h2I : (40 : Int) < n := by omega
      clear hgen hc hI h1
      refine calls_of_wp_defersB Tryz.func37 rfl ?_
      simp only [Tryz.ntmps37, List.size_toArray, List.length_cons, List.length_nil, Nat.reduceAdd, Nat.reduceSub, Array.replicate_succ, Array.replicate_zero, List.push_toArray, List.append_toArray, List.nil_append, List.cons_append]
      go_upto_region 1 with (fail)
      go_region
      go_wp2
      exact ⟨_, results_tmp2 rfl _ _ _, rfl, (Below.refl _ _).drew⟩
    · rw [if_neg h2] at hc
      by_cases h3 : 65535 < (s.M s.own).next
      · rw [if_pos h3] at hc
        obtain rfl : 8 = c := Option.some.inj hc
        have hb : (s.M s.own).begun = true := by
          cases hb : (s.M s.own).begun with
          | true => rfl
          | false => rw [(hI.none _ hb).1] at h3; omega
        rw [if_pos ⟨h1', hown, hb⟩] at hgen
        have h2I : ¬ (40 : Int) < n := by omega
        have h3I : (65535 : Int) < gen := by omega
        clear hgen hc hI h1 h3
        refine calls_of_wp_defersB Tryz.func37 rfl ?_
        simp only [Tryz.ntmps37, List.size_toArray, List.length_cons, List.length_nil, Nat.reduceAdd, Nat.reduceSub, Array.replicate_succ, Array.replicate_zero, List.push_toArray, List.append_toArray, List.nil_append, List.cons_append]
        go_upto_region 1 with (fail)
        go_region
        go_wp2
        exact ⟨_, results_tmp2 rfl _ _ _, rfl, (Below.refl _ _).drew⟩
      · rw [if_neg h3] at hc; cases hc
theorem frm_setCell (w : World) (p : GPl) (j : Nat) (v : Value) : Frm w (w.setCell ⟨p.G, j, none⟩ v) p :=
  ⟨rfl, rfl, rfl, Nat.le_of_eq (size_setCell _ _ _).symm, fun _ _ h _ _ _ => heap_ne (Ne.symm h)⟩
theorem group_mu {w : World} {lo t : Nat} {p : GPl} {s : GSt} (h : GroupAt w lo p s t) (x : Int) : GroupAt (w.setCell ⟨p.G, 0, none⟩ (.int .i32 x)) lo { p with mu := x } s t := by
  obtain ⟨hG, hT, ⟨f, hH, hf⟩, ⟨f2, hK, hf2⟩, h5, h6, h7, h8⟩ := h
  refine ⟨by rw [heap_setCell_same _ _ _ _ _ _ hG]; rfl, ownsRow_blk hT fun b hb => heap_ne (fun e => tree_ne hT hG (by rw [hb, e])), ⟨f, mapAt_same hH (heap_ne (g_ne_map hG hH)), hf⟩, ⟨f2, mapAt_same hK (heap_ne (g_ne_map hG hK)), hf2⟩, h5, h6, h7, h8⟩
theorem group_keep {w w' : World} {lo t : Nat} {p : GPl} {s : GSt} (h : GroupAt w lo p s t) (hk : ∀ b, b = p.G ∨ b = p.H ∨ b = p.K ∨ p.T.ownBlock = some b → w'.heap[b]? = w.heap[b]?) : GroupAt w' lo p s t := by
  obtain ⟨hG, hT, ⟨f, hH, hf⟩, ⟨f2, hK, hf2⟩, h5⟩ := h
  exact ⟨(hk _ (.inl rfl)).trans hG, ownsRow_blk hT fun b hb => hk b (.inr (.inr (.inr hb))), ⟨f, mapAt_same hH (hk _ (.inr (.inl rfl))), hf⟩, ⟨f2, mapAt_same hK (hk _ (.inr (.inr (.inl rfl)))), hf2⟩, h5⟩
theorem group_lt {w : World} {lo t : Nat} {p : GPl} {s : GSt} (h : GroupAt w lo p s t) : ∀ b, b = p.G ∨ b = p.H ∨ b = p.K ∨ p.T.ownBlock = some b → lo ≤ b ∧ b < w.heap.size := by
  obtain ⟨hG, hT, ⟨f, hH, hf⟩, ⟨f2, hK, hf2⟩, h5, h6, h7, h8⟩ := h
  rintro b (rfl | rfl | rfl | hb)
  · exact ⟨h5, (Array.getElem?_eq_some_iff.1 hG).1⟩
  · exact ⟨h6, mapAt_lt hH⟩
  · exact ⟨h7, mapAt_lt hK⟩
  · exact hT.lt b hb
theorem group_below {w w' : World} {lo t : Nat} {p : GPl} {s : GSt} (h : GroupAt w lo p s t) (hb : Below w.heap.size w w') : GroupAt w' lo p s t :=
  group_keep h fun b hbb => hb.block b (group_lt h b hbb).2
theorem eg_frm {w w' : World} {lo t : Nat} {p : GPl} {s : GSt} (h : EG w) (hA : GroupAt w lo p s t) (hlo : 0 < lo) (hF : Frm w w' p) : EG w' := by
  have hl := group_lt hA
  refine h.keep (hF.block 0 (block_lt_of_cell h) ?_ ?_ ?_ ?_)
  · have := (hl p.G (.inl rfl)).1; omega
  · have := (hl p.H (.inr (.inl rfl))).1; omega
  · have := (hl p.K (.inr (.inr (.inl rfl)))).1; omega
  · intro e; have := (hl 0 (.inr (.inr (.inr e)))).1; omega
theorem Frm.of_below {w w' : World} {p : GPl} (h : Below w.heap.size w w') : Frm w w' p := ⟨h.os, h.tape, h.output, h.size, fun b hb _ _ _ _ => h.block b hb⟩
theorem Frm.mu {w w' : World} {p : GPl} {x : Int} (h : Frm w w' { p with mu := x }) : Frm w w' p := ⟨h.os, h.tape, h.output, h.size, h.block⟩
set_option maxHeartbeats 4000000 in
theorem Protect_ok (w : World) (lo t : Nat) (p : GPl) (s : GSt) (pt : Option Addr) (cap : Nat) (l : List UInt8) (hA : GroupAt w lo p s t) (hmu : p.mu = 0) (hlo : 0 < lo) (hEG : EG w) (hI : GInv s) (hc : s.closed = false) (hl : l.length ≤ 40) (hn : (s.M s.own).next ≤ 65535)
    (hb0 : 0 ≤ s.cnt) (hb1 : s.cnt ≤ 4611686010000000000) (ht : t < 1000000000000) (hp : pt = none → cap = 0 ∧ l = []) (hs : pt ≠ none → ∃ b o, pt = some ⟨b, o, none⟩) (hr : Rd w pt l) (hap : ∀ b o, pt = some ⟨b, o, none⟩ → 0 < l.length → b < w.heap.size ∧ Apart p b) :
    Calls Tryz.prog 20 #[.pointer (some ⟨p.G, 0, none⟩), .slice pt l.length cap] w fun e w' => ∃ (v T' : Value) (c' : Int), e = .returned (.tuple #[v, .int .i64 0]) ∧
      w'.ownsRow w.heap.size 5 1 v (l.length + 7) (cells (frameL s s.own (s.M s.own).next l)).toList ∧ GroupAt w' lo { p with T := T' } (protS s c') (t + 1) ∧ Frm w w' p ∧ TreeNew w p.T T' ∧ s.cnt < c' ∧ c' ≤ s.cnt + 2 * depthF 16 s.n s.own + 4 + ((l.length + 7) / 8 : Nat) := by
  obtain ⟨c0, _⟩ := g_cells hA.1
  rw [hmu] at c0
  have f0 := frozen_of_row _ _ 0 _ _ hA.1
  have hL := group_mu hA 1
  have hin := protect_ok _ lo t { p with mu := 1 } s pt cap l hL hI hc hl hn hb0 hb1 ht hp hs (hr.apart fun b o hb hl => heap_ne (Ne.symm (hap b o hb hl).2.1)) (fun b o hb hl => ⟨by rw [size_setCell]; exact (hap b o hb hl).1, (hap b o hb hl).2⟩)
  have hEL : EG (w.setCell ⟨p.G, 0, none⟩ (.int .i32 1)) := eg_frm hEG hA hlo (frm_setCell w p 0 _)
  have Hin := Lib.hid hin
  have HL := Lib.hid hL
  have HEL := Lib.hid hEL
  have HA := Lib.hid hA
  clear hin hL hEL hr hap hs hp hA
  go_enter_defers Tryz.func20, Tryz.ntmps20
  go_wp2_with (first
    | (go_at_call 24; refine (lock_free muLib ⟨p.G, 0, none⟩ _ c0 f0).mono ?_; rintro e w' ⟨rfl, rfl⟩)
    | (go_at_call 37; refine Hin.out.mono ?_; rintro e w1 ⟨v, T', c', rfl, ho1, hA1, hF1, hT1, hc1, hc2⟩; have hE1 := eg_frm HEL.out HL.out hlo hF1; have Ho1 := Lib.hid ho1; have HA1 := Lib.hid hA1; have HF1 := Lib.hid hF1; have HT1 := Lib.hid hT1; have HE1 := Lib.hid hE1; clear ho1 hA1 hF1 hT1 hE1)
    | (go_at_call 38; refine (code_any _ _ 0 HE1.out .ok).mono ?_; rintro e w2 ⟨rfl, hb2⟩; have HB2 := Lib.hid hb2; clear hb2))
  have hA2 := group_below HA1.out HB2.out
  refine leaves_cons (f := 25) (args := #[.pointer (some ⟨p.G, 0, none⟩)]) (by simp) (by simp [go_sem]) ?_
  refine (unlock_deferred muLib ⟨p.G, 0, none⟩ .returning _ (g_cells hA2.1).1 (frozen_of_row _ _ 0 _ _ hA2.1)).mono ?_
  rintro e u' w3 ⟨rfl, rfl, rfl⟩
  have hw2 : w.heap.size ≤ w1.heap.size := by have := HF1.out.size; rw [size_setCell] at this; exact this
  have hGs := (group_lt HA.out p.G (.inl rfl)).2
  refine ⟨_, results_tmp2 rfl _ _ _, v, T', c', rfl, ?_, ?_, ?_, ?_, hc1, hc2⟩
  · have h1 := Ho1.out
    rw [size_setCell] at h1
    refine ownsRow_blk (w := w2) (ownsRow_blk h1 fun b hb => HB2.out.block b (h1.lt b hb).2) fun b hb => heap_ne (by have := (h1.lt b hb).1; omega)
  · have := group_mu hA2 0
    obtain ⟨G, H, K, T, mu⟩ := p
    have hm : mu = 0 := hmu
    subst hm
    exact this
  · have hF : Frm w w1 p := (frm_setCell w p 0 (.int .i32 1)).trans (p1 := p) HF1.out.mu rfl rfl rfl (.inl rfl)
    exact (hF.below HB2.out).trans (p1 := p) (frm_setCell w2 p 0 _) rfl rfl rfl (.inl rfl)
  · rcases HT1.out with h | h
    · exact .inl h
    · exact .inr fun b hb => by have := h b hb; rw [size_setCell] at this; exact this
set_option maxHeartbeats 4000000 in
theorem Protect_no (w : World) (lo t : Nat) (p : GPl) (s : GSt) (pt : Option Addr) (cap n : Nat) (c : Int) (hA : GroupAt w lo p s t) (hmu : p.mu = 0) (hlo : 0 < lo) (hEG : EG w) (hI : GInv s) (hc : protNo s n = some c) :
    Calls Tryz.prog 20 #[.pointer (some ⟨p.G, 0, none⟩), .slice pt n cap] w fun e w' => e = .returned (.tuple #[.slice none 0 0, .int .i64 c]) ∧ GroupAt w' lo p s t ∧ Frm w w' p := by
  obtain ⟨c0, _⟩ := g_cells hA.1
  rw [hmu] at c0
  have f0 := frozen_of_row _ _ 0 _ _ hA.1
  have hL := group_mu hA 1
  have hin := protect_no _ lo t { p with mu := 1 } s pt cap n c hL hI hc
  have hEL : EG (w.setCell ⟨p.G, 0, none⟩ (.int .i32 1)) := eg_frm hEG hA hlo (frm_setCell w p 0 _)
  have Hin := Lib.hid hin
  have HL := Lib.hid hL
  have HEL := Lib.hid hEL
  have HA := Lib.hid hA
  clear hin hL hEL hA
  go_enter_defers Tryz.func20, Tryz.ntmps20
  go_wp2_with (first
    | (go_at_call 24; refine (lock_free muLib ⟨p.G, 0, none⟩ _ c0 f0).mono ?_; rintro e w' ⟨rfl, rfl⟩)
    | (go_at_call 37; refine Hin.out.mono ?_; rintro e w1 ⟨rfl, hb1⟩; have HE1 := Lib.hid (HEL.out.below hb1); have HB1 := Lib.hid hb1; clear hb1)
    | (go_at_call 38; refine (code_any _ _ c HE1.out (.fault c)).mono ?_; rintro e w2 ⟨rfl, hb2⟩; have HB2 := Lib.hid hb2; clear hb2))
  have hA2 := group_below (group_below HL.out HB1.out) HB2.out
  refine leaves_cons (f := 25) (args := #[.pointer (some ⟨p.G, 0, none⟩)]) (by simp) (by simp [go_sem]) ?_
  refine (unlock_deferred muLib ⟨p.G, 0, none⟩ .returning _ (g_cells hA2.1).1 (frozen_of_row _ _ 0 _ _ hA2.1)).mono ?_
  rintro e u' w3 ⟨rfl, rfl, rfl⟩
  refine ⟨_, results_tmp2 rfl _ _ _, rfl, ?_, ?_⟩
  · have := group_mu hA2 0
    obtain ⟨G, H, K, T, mu⟩ := p
    have hm : mu = 0 := hmu
    subst hm
    exact this
  · have hF : Frm w w2 p := ((frm_setCell w p 0 (.int .i32 1)).below HB1.out).below HB2.out
    exact hF.trans (p1 := p) (frm_setCell w2 p 0 _) rfl rfl rfl (.inl rfl)
end Go.Proofs.YtccidllcjaaeeabGreatDoor
/- The walk of a group's open where the key is a kept one or is spent, and where the generation is too far. Conditions: the group lies and reads as its state; what was sealed reads, apart from the group. -/
namespace Go.Proofs.YtccidllcjaaeeabGreatDoor
set_option maxRecDepth 100000
open Go Go.Maps Go.RowKit
open Go.Shelf Go.Lib Go.Sort
theorem open_hit (D o : Nat) (v : Int) (w : World) (k : List UInt8) (p1 : Option Addr) (b3 o3 c1 c3 n1 n3 : Nat) (head s : List UInt8) (hn1 : head.length = n1) (hn3 : s.length = n3) (hk : k.length = 8)
    (hx : w.cell? ⟨D, o, none⟩ = some (.int .i64 v)) (hf : w.frozen? ⟨D, o, none⟩ = false) (hb0 : 0 ≤ v) (hb1 : v ≤ 4611686018426000000)
    (hl1 : head.length ≤ 9223372036854775807) (hr1 : Rd w p1 head) (hl2 : s.length ≤ 65540) (h4 : 4 ≤ s.length) (hc3 : s.length ≤ c3) (hr2 : Rd w (some ⟨b3, o3, none⟩) s) (ho : opensB k head s = true) :
    Calls Tryz.prog 95 #[.pointer (some ⟨D, o, none⟩), .agg (cells k), .slice p1 n1 c1, .slice (some ⟨b3, o3, none⟩) n3 c3] w fun e w' =>
      ∃ r, e = .returned (.tuple #[r, .bool true]) ∧ w'.ownsRow w.heap.size 5 1 r (n3 - 4) (cells (openT k s)).toList ∧ Below w.heap.size (w.setCell ⟨D, o, none⟩ (.int .i64 (v + 1 + ((n3 - 4 + 7) / 8 : Nat)))) w' := by
  subst hn1; subst hn3
  have h := open_any D o v w k p1 b3 o3 c1 c3 head s hk hx hf hb0 hb1 hl1 hr1 hl2 h4 hc3 hr2
  rw [ho] at h
  exact h
theorem open_miss (D o : Nat) (v : Int) (w : World) (k : List UInt8) (p1 : Option Addr) (b3 o3 c1 c3 n1 n3 : Nat) (head s : List UInt8) (hn1 : head.length = n1) (hn3 : s.length = n3) (hk : k.length = 8)
    (hx : w.cell? ⟨D, o, none⟩ = some (.int .i64 v)) (hf : w.frozen? ⟨D, o, none⟩ = false) (hb0 : 0 ≤ v) (hb1 : v ≤ 4611686018426000000)
    (hl1 : head.length ≤ 9223372036854775807) (hr1 : Rd w p1 head) (hl2 : s.length ≤ 65540) (h4 : 4 ≤ s.length) (hc3 : s.length ≤ c3) (hr2 : Rd w (some ⟨b3, o3, none⟩) s) (ho : opensB k head s = false) :
    Calls Tryz.prog 95 #[.pointer (some ⟨D, o, none⟩), .agg (cells k), .slice p1 n1 c1, .slice (some ⟨b3, o3, none⟩) n3 c3] w fun e w' =>
      e = .returned (.tuple #[.slice none 0 0, .bool false]) ∧ Below w.heap.size (w.setCell ⟨D, o, none⟩ (.int .i64 (v + 1))) w' := by
  subst hn1; subst hn3
  have h := open_any D o v w k p1 b3 o3 c1 c3 head s hk hx hf hb0 hb1 hl1 hr1 hl2 h4 hc3 hr2
  rw [ho] at h
  exact h
theorem step_delete_at {P : Program} {ops : Array Oper} {o : Oper} {a : Act} {w : World} {K : Act → World → Prop} {Q : Exit → Act → World → Prop} {E : Prop} (hg : o.guard = none) (m x : Operand) (t k : TypeId) (hop : o.op = Op.call { callee := Callee.builtin Builtin.delete, args := #[m, x], argTypes := #[t, k] }) (e : TypeId) (K' : Keyed P k) (ht : P.underlying t = some (.map k e))
    (b n : Nat) (f : Lit → Option Value) (hm : a.eval m = .map (some b)) (hown : mapAt w P k b n f) (key : Value) (kl : Lit) (hx : a.eval x = key) (hkey : keyOf P k key = some kl)
    (hK : ∀ w', mapAt w' P k b n (putF f kl none) → w.mapTurned w' b → K (a.put o.dst (.tuple #[])) w') : if Region.wanted o (yielded ops a.tmps) = true then Oper.wp P o a w K Q else E := by
  have hw : Region.wanted o (yielded ops a.tmps) = true := by simp [Region.wanted, hg]
  rw [if_pos hw]
  obtain ⟨w', hrun, r1, r2⟩ := mapAt_drop hown K' ht hkey o.type
  unfold Oper.wp
  simp [execOp, hop, resolve, invoke, builtin, hm, hx, hrun, Result.andThen]
  exact hK w' r1 r2
/-- The state without a kept key. -/
def delS (s : GSt) (m gen : Nat) (c : Int) : GSt := { s with cnt := c, M := fun i => if i = m then { s.M m with over := (s.M m).over.filter (fun g => g != gen) } else s.M i }
theorem treeL_del (s : GSt) (m gen : Nat) (c : Int) : treeL (delS s m gen c) = treeL s := by
  have e : (fun i => ((delS s m gen c).M i).begun) = fun i => (s.M i).begun := by
    funext i
    by_cases hi : i = m
    · subst hi; simp [delS]
    · simp [delS, hi]
  unfold treeL
  rw [e]; rfl
theorem head_del {s : GSt} {f : Lit → Option Value} (hf : HeadOk s f) (m gen : Nat) (c : Int) : HeadOk (delS s m gen c) f := by
  refine ⟨fun i hi => ?_, fun kl h => hf.2 kl h⟩
  rw [hf.1 i hi]
  have e1 : ((delS s m gen c).M i).begun = (s.M i).begun := by by_cases h : i = m <;> simp [delS, h]
  have e2 : ((delS s m gen c).M i).next = (s.M i).next := by by_cases h : i = m <;> simp [delS, h]
  unfold headV
  rw [e1, e2]; rfl
theorem kept_del {s : GSt} {f : Lit → Option Value} (hf : KeptOk s f) (m gen : Nat) (hm : m ≤ 1000000) (hg : gen ≤ 1000000) (c : Int) : KeptOk (delS s m gen c) (putF f (slotL m gen) none) := by
  refine ⟨fun i g hi hgi => ?_, fun kl h => ?_⟩
  · by_cases he : slotL i g = slotL m gen
    · obtain ⟨rfl, rfl⟩ := slotL_inj (by omega) (by omega) (by omega) (by omega) he
      rw [putF_same (slotL_key _ _)]
      have : keptV (delS s i g c) i g = none := if_neg (fun h => by
        have h3 := h.2.2
        simp [delS] at h3)
      rw [this]
    · rw [putF_other he, hf.1 i g hi hgi]
      unfold keptV
      by_cases him : i = m
      · subst him
        have hne : g ≠ gen := fun e => he (by rw [e])
        have e : (g ∈ ((delS s i gen c).M i).over) = (g ∈ (s.M i).over) := by simp [delS, hne]
        simp only [e]; rfl
      · have e : ((delS s m gen c).M i) = s.M i := by simp [delS, him]
        rw [e]; rfl
  · by_cases he : kl = slotL m gen
    · rw [he, putF_same (slotL_key _ _)] at h; exact absurd rfl h
    · rw [putF_other he] at h; exact hf.2 kl h
set_option maxHeartbeats 4000000 in
/-- open: the generation is spent. -/
theorem open_spent (w : World) (lo t m gen : Nat) (p : GPl) (s : GSt) (v1 v2 : Option Addr) (n1 c1 n2 c2 : Nat) (hA : GroupAt w lo p s t) (hI : GInv s) (hc : s.closed = false) (hm : m < s.n) (hg : gen < (s.M m).next) (hgo : gen ∉ (s.M m).over) :
    Calls Tryz.prog 64 #[.pointer (some ⟨p.G, 0, none⟩), .agg #[.int .i64 m, .int .i64 gen], .slice v1 n1 c1, .slice v2 n2 c2] w fun e w' => e = .returned (.tuple #[.slice none 0 0, .iface 138 (.agg #[.int .i64 5])]) ∧ Below w.heap.size w w' := by
  obtain ⟨hG, hT, ⟨f, hH, hf⟩, ⟨f2, hK, hf2⟩, _⟩ := hA
  have h16 := hI.n16
  obtain ⟨r0, hr0, hlkv⟩ := head_of hf hI hc m hm
  have hgn : gen < 65536 := Nat.lt_of_lt_of_le hg (hI.next m)
  have hkv : f2 (slotL m gen) = none := by rw [hf2.1 m gen (by omega) (by omega), keptV, if_neg (fun h => hgo h.2.2)]
  obtain ⟨W, hW⟩ : ∃ W, W = w.alloc (.cells #[.int .i64 m, .int .i64 gen] 104) := ⟨_, rfl⟩
  have hb : Below w.heap.size w W := by rw [hW]; exact balloc (Below.refl _ _) _
  have hH1 := mapAt_same hH (hb.block _ (mapAt_lt hH))
  have hK1 := mapAt_same hK (hb.block _ (mapAt_lt hK))
  have hlk := mapAt_look (w := W.drew) (mapAt_same hH1 rfl) int_law Tryz.underlying52 (zeroRat _) (key_int m (by omega) (by omega))
  rw [hlkv] at hlk
  have hlk2 := mapAt_look_ok (w := W.drew.drew) (mapAt_same hK1 rfl) slot_law Tryz.underlying53 (zeroSec _) (key_slot m gen (by omega) (by omega) (by omega) (by omega))
  have hlk3 := mapAt_look_ok (w := (W.alloc (.cells #[.int .u8 0, .int .u8 0, .int .u8 0, .int .u8 0, .int .u8 0, .int .u8 0, .int .u8 0, .int .u8 0] 36)).drew.drew) (mapAt_same hK1 (Below.heap_alloc W _ _ (mapAt_lt hK1))) slot_law Tryz.underlying53 (zeroSec _) (key_slot m gen (by omega) (by omega) (by omega) (by omega))
  rw [hkv] at hlk2 hlk3
  rw [slotV] at hlk2 hlk3
  have hfld := field_gen r0 (s.M m).next hr0
  obtain ⟨nx, hnx⟩ : ∃ nx, nx = (s.M m).next := ⟨_, rfl⟩
  rw [← hnx] at hlk hfld hg
  have hgI : (gen : Int) < nx := by omega
  have hWG : W.heap[p.G]? = some (.cells (gcells p s) 72 (0, 0)) := (hb.block _ (Array.getElem?_eq_some_iff.1 hG).1).trans hG
  obtain ⟨_, _, _, _, _, _, c10, c11⟩ := g_cells hWG
  have s0 : W.cell? ⟨w.heap.size, 0, none⟩ = some (.int .i64 m) := by rw [hW]; exact cell_of_row _ _ _ _ _ _ (heap_alloc_new _ _)
  have s1 : W.cell? ⟨w.heap.size, 1, none⟩ = some (.int .i64 gen) := by rw [hW]; exact cell_of_row _ _ _ _ _ _ (heap_alloc_new _ _)
  have hwW : w.heap.size < W.heap.size := block_lt_of_cell s0
  have s0a : (W.alloc (.cells #[.int .u8 0, .int .u8 0, .int .u8 0, .int .u8 0, .int .u8 0, .int .u8 0, .int .u8 0, .int .u8 0] 36)).cell? ⟨w.heap.size, 0, none⟩ = some (.int .i64 m) := by rw [World.cell?_alloc_past _ _ _ hwW]; exact s0
  have s1a : (W.alloc (.cells #[.int .u8 0, .int .u8 0, .int .u8 0, .int .u8 0, .int .u8 0, .int .u8 0, .int .u8 0, .int .u8 0] 36)).cell? ⟨w.heap.size, 1, none⟩ = some (.int .i64 gen) := by rw [World.cell?_alloc_past _ _ _ hwW]; exact s1
  have c11a : (W.alloc (.cells #[.int .u8 0, .int .u8 0, .int .u8 0, .int .u8 0, .int .u8 0, .int .u8 0, .int .u8 0, .int .u8 0] 36)).cell? ⟨p.G, 11, none⟩ = some (.map (some p.K)) := by rw [World.cell?_alloc_past _ _ _ (block_lt_of_cell c11)]; exact c11
  have hqs : (cells zeroS).size = 8 := rfl
  have hst := run_storeCells_row (P := Tryz.prog) (w := (W.alloc (.cells #[.int .u8 0, .int .u8 0, .int .u8 0, .int .u8 0, .int .u8 0, .int .u8 0, .int .u8 0, .int .u8 0] 36)).drew.drew) (heap_alloc_new W _) zeroS rfl
  have HW := Lib.hid hW
  have Hb := Lib.hid hb
  clear hG hT hH hf hK hf2 hlkv hr0 hkv hH1 hK1 hWG hnx hgo hW hg hgn hb hwW
  go_enter Tryz.func64, Tryz.ntmps64
  go_upto_region 1 with (fail)
  rw [← HW.out]
  go_region
  go_upto_region 3 with (fail)
  go_region
  all_goals
    go_wp2
    go_ret2
    exact ⟨rfl, below_setRow (balloc Hb.out _).drew.drew (by have := Hb.out.size; omega) _⟩
set_option maxHeartbeats 4000000 in
/-- open: a kept key, which does not open it. -/
theorem open_kept_no (w : World) (lo t m gen : Nat) (p : GPl) (s : GSt) (v1 : Option Addr) (b3 o3 n1 c1 n2 c2 : Nat) (head sl : List UInt8) (hA : GroupAt w lo p s t) (hI : GInv s) (hc : s.closed = false) (hm : m < s.n) (hg : gen < (s.M m).next) (hgo : gen ∈ (s.M m).over) (hb0 : 0 ≤ s.cnt) (hb1 : s.cnt ≤ 4611686010000000000)
    (hn1 : head.length = n1) (hn2 : sl.length = n2) (h3 : n1 ≤ 1000) (h4 : 4 ≤ n2) (h40 : n2 ≤ 1000) (hc2 : n2 ≤ c2) (hr1 : Rd w v1 head) (hr2 : Rd w (some ⟨b3, o3, none⟩) sl) (hap1 : ∀ b o, v1 = some ⟨b, o, none⟩ → 0 < head.length → b < w.heap.size ∧ Apart p b) (hap2 : b3 < w.heap.size ∧ Apart p b3) (hop : opensB (keyS s m gen) head sl = false) :
    Calls Tryz.prog 64 #[.pointer (some ⟨p.G, 0, none⟩), .agg #[.int .i64 m, .int .i64 gen], .slice v1 n1 c1, .slice (some ⟨b3, o3, none⟩) n2 c2] w fun e w' => e = .returned (.tuple #[.slice none 0 0, .iface 138 (.agg #[.int .i64 7])]) ∧ Below w.heap.size (w.setCell ⟨p.G, 6, none⟩ (.int .i64 (s.cnt + 1))) w' := by
  obtain ⟨hG, hT, ⟨f, hH, hf⟩, ⟨f2, hK, hf2⟩, hlo⟩ := hA
  have h16 := hI.n16
  obtain ⟨r0, hr0, hlkv⟩ := head_of hf hI hc m hm
  have hgn : gen < 65536 := Nat.lt_of_lt_of_le hg (hI.next m)
  obtain ⟨key, hkey⟩ : ∃ key, key = keyS s m gen := ⟨_, rfl⟩
  have hkeyl : key.length = 8 := by rw [hkey]; exact kd_length _ _ _
  have hkv : f2 (slotL m gen) = some (.agg (cells key)) := by rw [hf2.1 m gen (by omega) (by omega), keptV, if_pos ⟨hc, hm, hgo⟩, hkey]; rfl
  rw [← hkey] at hop
  obtain ⟨W, hW⟩ : ∃ W, W = w.alloc (.cells #[.int .i64 m, .int .i64 gen] 104) := ⟨_, rfl⟩
  have hb : Below w.heap.size w W := by rw [hW]; exact balloc (Below.refl _ _) _
  have hH1 := mapAt_same hH (hb.block _ (mapAt_lt hH))
  have hK1 := mapAt_same hK (hb.block _ (mapAt_lt hK))
  have hlk := mapAt_look (w := W.drew) (mapAt_same hH1 rfl) int_law Tryz.underlying52 (zeroRat _) (key_int m (by omega) (by omega))
  rw [hlkv] at hlk
  have hlk2 := mapAt_look_ok (w := W.drew.drew) (mapAt_same hK1 rfl) slot_law Tryz.underlying53 (zeroSec _) (key_slot m gen (by omega) (by omega) (by omega) (by omega))
  have hlk3 := mapAt_look_ok (w := (W.alloc (.cells #[.int .u8 0, .int .u8 0, .int .u8 0, .int .u8 0, .int .u8 0, .int .u8 0, .int .u8 0, .int .u8 0] 36)).drew.drew) (mapAt_same hK1 (Below.heap_alloc W _ _ (mapAt_lt hK1))) slot_law Tryz.underlying53 (zeroSec _) (key_slot m gen (by omega) (by omega) (by omega) (by omega))
  rw [hkv] at hlk2 hlk3
  rw [slotV] at hlk2 hlk3
  have hfld := field_gen r0 (s.M m).next hr0
  obtain ⟨nx, hnx⟩ : ∃ nx, nx = (s.M m).next := ⟨_, rfl⟩
  rw [← hnx] at hlk hfld hg
  have hgI : (gen : Int) < nx := by omega
  have hWG : W.heap[p.G]? = some (.cells (gcells p s) 72 (0, 0)) := (hb.block _ (Array.getElem?_eq_some_iff.1 hG).1).trans hG
  obtain ⟨_, _, _, _, _, _, c10, c11⟩ := g_cells hWG
  have s0 : W.cell? ⟨w.heap.size, 0, none⟩ = some (.int .i64 m) := by rw [hW]; exact cell_of_row _ _ _ _ _ _ (heap_alloc_new _ _)
  have s1 : W.cell? ⟨w.heap.size, 1, none⟩ = some (.int .i64 gen) := by rw [hW]; exact cell_of_row _ _ _ _ _ _ (heap_alloc_new _ _)
  have hwW : w.heap.size < W.heap.size := block_lt_of_cell s0
  have s0a : (W.alloc (.cells #[.int .u8 0, .int .u8 0, .int .u8 0, .int .u8 0, .int .u8 0, .int .u8 0, .int .u8 0, .int .u8 0] 36)).cell? ⟨w.heap.size, 0, none⟩ = some (.int .i64 m) := by rw [World.cell?_alloc_past _ _ _ hwW]; exact s0
  have s1a : (W.alloc (.cells #[.int .u8 0, .int .u8 0, .int .u8 0, .int .u8 0, .int .u8 0, .int .u8 0, .int .u8 0, .int .u8 0] 36)).cell? ⟨w.heap.size, 1, none⟩ = some (.int .i64 gen) := by rw [World.cell?_alloc_past _ _ _ hwW]; exact s1
  have c11a : (W.alloc (.cells #[.int .u8 0, .int .u8 0, .int .u8 0, .int .u8 0, .int .u8 0, .int .u8 0, .int .u8 0, .int .u8 0] 36)).cell? ⟨p.G, 11, none⟩ = some (.map (some p.K)) := by rw [World.cell?_alloc_past _ _ _ (block_lt_of_cell c11)]; exact c11
  have hqs : (cells key).size = 8 := by rw [cells_size, hkeyl]
  have hst := run_storeCells_row (P := Tryz.prog) (w := (W.alloc (.cells #[.int .u8 0, .int .u8 0, .int .u8 0, .int .u8 0, .int .u8 0, .int .u8 0, .int .u8 0, .int .u8 0] 36)).drew.drew) (heap_alloc_new W _) key (by rw [hkeyl]; rfl)
  have HW := Lib.hid hW
  have Hb := Lib.hid hb
  have HG := Lib.hid hG
  have HK := Lib.hid (And.intro hK hf2)
  have HT := Lib.hid hT
  have HH := Lib.hid (And.intro hH hf)
  have Hlo := Lib.hid hlo
  have HWG := Lib.hid hWG
  have Hkeyl := Lib.hid hkeyl
  have Hop := Lib.hid hop
  have Hr1 := Lib.hid hr1
  have Hr2 := Lib.hid hr2
  have Hap1 := Lib.hid hap1
  have Hap2 := Lib.hid hap2
  have HK1 := Lib.hid hK1
  have Hgo := Lib.hid hgo
  clear hG hT hH hf hK hf2 hlkv hr0 hkv hH1 hK1 hWG hnx hgo hW hg hgn hb hwW hlo hkey hkeyl hop hr1 hr2 hap1 hap2
  go_enter Tryz.func64, Tryz.ntmps64
  go_upto_region 1 with (fail)
  rw [← HW.out]
  go_region
  go_upto_region 3 with (fail)
  go_region
  clear hlk hlk2 hlk3 hst hfld s0a s1a c11a c10 hqs
  generalize hW2 : World.setRow _ _ _ = W2
  have hk2 : W2.heap[W.heap.size]? = some (.cells (cells key) 36 (0, 0)) := by rw [← hW2]; exact setRow_heap _ _ _ _ _ _ (heap_alloc_new W _)
  have hb2 : Below w.heap.size w W2 := by rw [← hW2]; exact below_setRow (balloc Hb.out _).drew.drew (by have := Hb.out.size; omega) _
  have hG2 : W2.heap[p.G]? = some (.cells (gcells p s) 72 (0, 0)) := (hb2.block _ (Array.getElem?_eq_some_iff.1 HG.out).1).trans HG.out
  have hgi := hgI
  clear hW2 hgI
  obtain ⟨_, _, c6, _, _, _, _, d11⟩ := g_cells hG2
  have c6f := frozen_of_row _ _ 6 _ _ hG2
  have Hb2 := Lib.hid hb2
  have Hk2 := Lib.hid hk2
  have HG2 := Lib.hid hG2
  have Hrd1 : Hid (Rd W2.drew v1 head) := Lib.hid (Hr1.out.below hb2.drew)
  have Hrd2 : Hid (Rd W2.drew (some ⟨b3, o3, none⟩) sl) := Lib.hid (Hr2.out.below hb2.drew)
  have Hn : Hid (head.length ≤ 9223372036854775807 ∧ sl.length ≤ 65540 ∧ 4 ≤ sl.length ∧ sl.length ≤ c2) := Lib.hid ⟨by omega, by omega, by omega, by omega⟩
  obtain ⟨a0, a1, a2, a3, a4, a5, a6, a7, hk8⟩ := eight Hkeyl.out
  obtain ⟨e0, e1, e2, e3, e4, e5, e6, e7⟩ := eight_cells' hk8 hk2
  have Hck : Hid (#[Value.int .u8 a0.toNat, .int .u8 a1.toNat, .int .u8 a2.toNat, .int .u8 a3.toNat, .int .u8 a4.toNat, .int .u8 a5.toNat, .int .u8 a6.toNat, .int .u8 a7.toNat] = cells key) := Lib.hid (by rw [hk8]; rfl)
  have Hk8 := Lib.hid hk8
  have hb26 : s.cnt ≤ 4611686018426000000 := by omega
  have hGK : p.G < W2.heap.size := (Array.getElem?_eq_some_iff.1 hG2).1
  have hKG : W.heap.size ≠ p.G := by have h1 := Hb.out.size; have h2 := (Array.getElem?_eq_some_iff.1 HG.out).1; omega
  clear hb2 hk2 hG2 hk8
  go_upto_region 6 with (fail)
  go_region_held3 (fun w' => w'.cell? ⟨W.heap.size, 0, none⟩ = some (.int .u8 a0.toNat) ∧ w'.cell? ⟨W.heap.size, 1, none⟩ = some (.int .u8 a1.toNat) ∧ w'.cell? ⟨W.heap.size, 2, none⟩ = some (.int .u8 a2.toNat) ∧ w'.cell? ⟨W.heap.size, 3, none⟩ = some (.int .u8 a3.toNat) ∧ w'.cell? ⟨W.heap.size, 4, none⟩ = some (.int .u8 a4.toNat) ∧ w'.cell? ⟨W.heap.size, 5, none⟩ = some (.int .u8 a5.toNat) ∧ w'.cell? ⟨W.heap.size, 6, none⟩ = some (.int .u8 a6.toNat) ∧ w'.cell? ⟨W.heap.size, 7, none⟩ = some (.int .u8 a7.toNat))
    (refine ⟨?_, ?_, ?_, ?_, ?_, ?_, ?_, ?_⟩ <;> (first | with_reducible assumption | (simp only [World.cell?_drew]; with_reducible assumption)))
    (first | (go_at_call 95; rw [Hck.out]; go_must (refine (open_miss p.G 6 s.cnt W2.drew key v1 b3 o3 c1 c2 n1 n2 head sl hn1 hn2 Hkeyl.out ?_ ?_ hb0 hb26 Hn.out.1 Hrd1.out Hn.out.2.1 Hn.out.2.2.1 Hn.out.2.2.2 Hrd2.out Hop.out).mono ?_); (first | exact c6 | (simp only [World.cell?_drew]; exact c6)); (first | exact c6f | (simp only [World.frozen?_drew]; exact c6f)); rintro e w6 ⟨rfl, hb6⟩; go_must (have hK6 := cnt_row hb6 (show W2.drew.heap[W.heap.size]? = _ from Hk2.out) hKG); go_must (obtain ⟨k0, k1, k2, k3, k4, k5, k6, k7⟩ := eight_cells' Hk8.out hK6); have HK6 := Lib.hid hK6; have Hb6 := Lib.hid hb6; clear hK6 hb6))
  go_wp2
  go_ret2
  exact ⟨rfl, cnt_base Hb2.out.drew Hb6.out⟩
set_option maxHeartbeats 4000000 in
/-- open: a kept key, which opens it. -/
theorem open_kept_ok (w : World) (lo t m gen : Nat) (p : GPl) (s : GSt) (v1 : Option Addr) (b3 o3 n1 c1 n2 c2 : Nat) (head sl : List UInt8) (hA : GroupAt w lo p s t) (hI : GInv s) (hc : s.closed = false) (hm : m < s.n) (hg : gen < (s.M m).next) (hgo : gen ∈ (s.M m).over) (hb0 : 0 ≤ s.cnt) (hb1 : s.cnt ≤ 4611686010000000000)
    (hn1 : head.length = n1) (hn2 : sl.length = n2) (h3 : n1 ≤ 1000) (h4 : 4 ≤ n2) (h40 : n2 ≤ 1000) (hc2 : n2 ≤ c2) (hr1 : Rd w v1 head) (hr2 : Rd w (some ⟨b3, o3, none⟩) sl) (hap1 : ∀ b o, v1 = some ⟨b, o, none⟩ → 0 < head.length → b < w.heap.size ∧ Apart p b) (hap2 : b3 < w.heap.size ∧ Apart p b3) (hop : opensB (keyS s m gen) head sl = true) :
    Calls Tryz.prog 64 #[.pointer (some ⟨p.G, 0, none⟩), .agg #[.int .i64 m, .int .i64 gen], .slice v1 n1 c1, .slice (some ⟨b3, o3, none⟩) n2 c2] w fun e w' => ∃ r, e = .returned (.tuple #[r, .nilIface]) ∧ w'.ownsRow w.heap.size 5 1 r (n2 - 4) (cells (openT (keyS s m gen) sl)).toList ∧
      GroupAt w' lo p (delS s m gen (s.cnt + 1 + ((n2 - 4 + 7) / 8 : Nat))) t ∧ Frm w w' p := by
  obtain ⟨hG, hT, ⟨f, hH, hf⟩, ⟨f2, hK, hf2⟩, hlo⟩ := hA
  have h16 := hI.n16
  obtain ⟨r0, hr0, hlkv⟩ := head_of hf hI hc m hm
  have hgn : gen < 65536 := Nat.lt_of_lt_of_le hg (hI.next m)
  have Hgn := Lib.hid hgn
  obtain ⟨key, hkey⟩ : ∃ key, key = keyS s m gen := ⟨_, rfl⟩
  have hkeyl : key.length = 8 := by rw [hkey]; exact kd_length _ _ _
  have hkv : f2 (slotL m gen) = some (.agg (cells key)) := by rw [hf2.1 m gen (by omega) (by omega), keptV, if_pos ⟨hc, hm, hgo⟩, hkey]; rfl
  rw [← hkey] at hop ⊢
  obtain ⟨W, hW⟩ : ∃ W, W = w.alloc (.cells #[.int .i64 m, .int .i64 gen] 104) := ⟨_, rfl⟩
  have hb : Below w.heap.size w W := by rw [hW]; exact balloc (Below.refl _ _) _
  have hH1 := mapAt_same hH (hb.block _ (mapAt_lt hH))
  have hK1 := mapAt_same hK (hb.block _ (mapAt_lt hK))
  have hlk := mapAt_look (w := W.drew) (mapAt_same hH1 rfl) int_law Tryz.underlying52 (zeroRat _) (key_int m (by omega) (by omega))
  rw [hlkv] at hlk
  have hlk2 := mapAt_look_ok (w := W.drew.drew) (mapAt_same hK1 rfl) slot_law Tryz.underlying53 (zeroSec _) (key_slot m gen (by omega) (by omega) (by omega) (by omega))
  have hlk3 := mapAt_look_ok (w := (W.alloc (.cells #[.int .u8 0, .int .u8 0, .int .u8 0, .int .u8 0, .int .u8 0, .int .u8 0, .int .u8 0, .int .u8 0] 36)).drew.drew) (mapAt_same hK1 (Below.heap_alloc W _ _ (mapAt_lt hK1))) slot_law Tryz.underlying53 (zeroSec _) (key_slot m gen (by omega) (by omega) (by omega) (by omega))
  rw [hkv] at hlk2 hlk3
  rw [slotV] at hlk2 hlk3
  have hfld := field_gen r0 (s.M m).next hr0
  obtain ⟨nx, hnx⟩ : ∃ nx, nx = (s.M m).next := ⟨_, rfl⟩
  rw [← hnx] at hlk hfld hg
  have hgI : (gen : Int) < nx := by omega
  have hWG : W.heap[p.G]? = some (.cells (gcells p s) 72 (0, 0)) := (hb.block _ (Array.getElem?_eq_some_iff.1 hG).1).trans hG
  obtain ⟨_, _, _, _, _, _, c10, c11⟩ := g_cells hWG
  have s0 : W.cell? ⟨w.heap.size, 0, none⟩ = some (.int .i64 m) := by rw [hW]; exact cell_of_row _ _ _ _ _ _ (heap_alloc_new _ _)
  have s1 : W.cell? ⟨w.heap.size, 1, none⟩ = some (.int .i64 gen) := by rw [hW]; exact cell_of_row _ _ _ _ _ _ (heap_alloc_new _ _)
  have hwW : w.heap.size < W.heap.size := block_lt_of_cell s0
  have s0a : (W.alloc (.cells #[.int .u8 0, .int .u8 0, .int .u8 0, .int .u8 0, .int .u8 0, .int .u8 0, .int .u8 0, .int .u8 0] 36)).cell? ⟨w.heap.size, 0, none⟩ = some (.int .i64 m) := by rw [World.cell?_alloc_past _ _ _ hwW]; exact s0
  have s1a : (W.alloc (.cells #[.int .u8 0, .int .u8 0, .int .u8 0, .int .u8 0, .int .u8 0, .int .u8 0, .int .u8 0, .int .u8 0] 36)).cell? ⟨w.heap.size, 1, none⟩ = some (.int .i64 gen) := by rw [World.cell?_alloc_past _ _ _ hwW]; exact s1
  have c11a : (W.alloc (.cells #[.int .u8 0, .int .u8 0, .int .u8 0, .int .u8 0, .int .u8 0, .int .u8 0, .int .u8 0, .int .u8 0] 36)).cell? ⟨p.G, 11, none⟩ = some (.map (some p.K)) := by rw [World.cell?_alloc_past _ _ _ (block_lt_of_cell c11)]; exact c11
  have hqs : (cells key).size = 8 := by rw [cells_size, hkeyl]
  have hst := run_storeCells_row (P := Tryz.prog) (w := (W.alloc (.cells #[.int .u8 0, .int .u8 0, .int .u8 0, .int .u8 0, .int .u8 0, .int .u8 0, .int .u8 0, .int .u8 0] 36)).drew.drew) (heap_alloc_new W _) key (by rw [hkeyl]; rfl)
  have HW := Lib.hid hW
  have Hb := Lib.hid hb
  have HG := Lib.hid hG
  have HK := Lib.hid (And.intro hK hf2)
  have HT := Lib.hid hT
  have HH := Lib.hid (And.intro hH hf)
  have Hlo := Lib.hid hlo
  have HWG := Lib.hid hWG
  have Hkeyl := Lib.hid hkeyl
  have Hop := Lib.hid hop
  have Hr1 := Lib.hid hr1
  have Hr2 := Lib.hid hr2
  have Hap1 := Lib.hid hap1
  have Hap2 := Lib.hid hap2
  have HK1 := Lib.hid hK1
  have Hgo := Lib.hid hgo
  clear hG hT hH hf hK hf2 hlkv hr0 hkv hH1 hK1 hWG hnx hgo hW hg hgn hb hwW hlo hkey hkeyl hop hr1 hr2 hap1 hap2
  go_enter Tryz.func64, Tryz.ntmps64
  go_upto_region 1 with (fail)
  rw [← HW.out]
  go_region
  go_upto_region 3 with (fail)
  go_region
  clear hlk hlk2 hlk3 hst hfld s0a s1a c11a c10 hqs
  generalize hW2 : World.setRow _ _ _ = W2
  have hk2 : W2.heap[W.heap.size]? = some (.cells (cells key) 36 (0, 0)) := by rw [← hW2]; exact setRow_heap _ _ _ _ _ _ (heap_alloc_new W _)
  have hb2 : Below w.heap.size w W2 := by rw [← hW2]; exact below_setRow (balloc Hb.out _).drew.drew (by have := Hb.out.size; omega) _
  have hG2 : W2.heap[p.G]? = some (.cells (gcells p s) 72 (0, 0)) := (hb2.block _ (Array.getElem?_eq_some_iff.1 HG.out).1).trans HG.out
  have hgi := hgI
  have hWs : W.heap[w.heap.size]? = some (.cells #[.int .i64 m, .int .i64 gen] 104 (0, 0)) := by rw [HW.out]; exact heap_alloc_new _ _
  have hwWs : w.heap.size < W.heap.size := (Array.getElem?_eq_some_iff.1 hWs).1
  have hs2 : W2.heap[w.heap.size]? = some (.cells #[.int .i64 m, .int .i64 gen] 104 (0, 0)) := by
    rw [← hW2, setRow_other _ _ _ _ (by omega)]
    exact (Below.heap_alloc W _ _ hwWs).trans hWs
  have Hs2 := Lib.hid hs2
  clear hW2 hgI hWs hs2
  obtain ⟨_, _, c6, _, _, _, _, d11⟩ := g_cells hG2
  have c6f := frozen_of_row _ _ 6 _ _ hG2
  have Hb2 := Lib.hid hb2
  have Hk2 := Lib.hid hk2
  have HG2 := Lib.hid hG2
  have Hrd1 : Hid (Rd W2.drew v1 head) := Lib.hid (Hr1.out.below hb2.drew)
  have Hrd2 : Hid (Rd W2.drew (some ⟨b3, o3, none⟩) sl) := Lib.hid (Hr2.out.below hb2.drew)
  have Hn : Hid (head.length ≤ 9223372036854775807 ∧ sl.length ≤ 65540 ∧ 4 ≤ sl.length ∧ sl.length ≤ c2) := Lib.hid ⟨by omega, by omega, by omega, by omega⟩
  obtain ⟨a0, a1, a2, a3, a4, a5, a6, a7, hk8⟩ := eight Hkeyl.out
  obtain ⟨e0, e1, e2, e3, e4, e5, e6, e7⟩ := eight_cells' hk8 hk2
  have Hck : Hid (#[Value.int .u8 a0.toNat, .int .u8 a1.toNat, .int .u8 a2.toNat, .int .u8 a3.toNat, .int .u8 a4.toNat, .int .u8 a5.toNat, .int .u8 a6.toNat, .int .u8 a7.toNat] = cells key) := Lib.hid (by rw [hk8]; rfl)
  have Hk8 := Lib.hid hk8
  have hb26 : s.cnt ≤ 4611686018426000000 := by omega
  have hGK : p.G < W2.heap.size := (Array.getElem?_eq_some_iff.1 hG2).1
  have hKG : W.heap.size ≠ p.G := by have h1 := Hb.out.size; have h2 := (Array.getElem?_eq_some_iff.1 HG.out).1; omega
  clear hb2 hk2 hG2 hk8
  go_upto_region 6 with (fail)
  go_region_held3 (fun w' => w'.cell? ⟨W.heap.size, 0, none⟩ = some (.int .u8 a0.toNat) ∧ w'.cell? ⟨W.heap.size, 1, none⟩ = some (.int .u8 a1.toNat) ∧ w'.cell? ⟨W.heap.size, 2, none⟩ = some (.int .u8 a2.toNat) ∧ w'.cell? ⟨W.heap.size, 3, none⟩ = some (.int .u8 a3.toNat) ∧ w'.cell? ⟨W.heap.size, 4, none⟩ = some (.int .u8 a4.toNat) ∧ w'.cell? ⟨W.heap.size, 5, none⟩ = some (.int .u8 a5.toNat) ∧ w'.cell? ⟨W.heap.size, 6, none⟩ = some (.int .u8 a6.toNat) ∧ w'.cell? ⟨W.heap.size, 7, none⟩ = some (.int .u8 a7.toNat))
    (refine ⟨?_, ?_, ?_, ?_, ?_, ?_, ?_, ?_⟩ <;> (first | with_reducible assumption | (simp only [World.cell?_drew]; with_reducible assumption)))
    (first | (go_at_call 95; rw [Hck.out]; go_must (refine (open_hit p.G 6 s.cnt W2.drew key v1 b3 o3 c1 c2 n1 n2 head sl hn1 hn2 Hkeyl.out ?_ ?_ hb0 hb26 Hn.out.1 Hrd1.out Hn.out.2.1 Hn.out.2.2.1 Hn.out.2.2.2 Hrd2.out Hop.out).mono ?_); (first | exact c6 | (simp only [World.cell?_drew]; exact c6)); (first | exact c6f | (simp only [World.frozen?_drew]; exact c6f)); rintro e w6 ⟨r, rfl, ho6, hb6⟩; have Ho6 := Lib.hid ho6; clear ho6; go_must (have hK6 := cnt_row hb6 (show W2.drew.heap[W.heap.size]? = _ from Hk2.out) hKG); go_must (obtain ⟨k0, k1, k2, k3, k4, k5, k6, k7⟩ := eight_cells' Hk8.out hK6); have HK6 := Lib.hid hK6; have Hb6 := Lib.hid hb6; clear hK6 hb6))
  go_upto_region 9 with (fail)
  clear e0 e1 e2 e3 e4 e5 e6 e7 k0 k1 k2 k3 k4 k5 k6 k7
  have hGs := (Array.getElem?_eq_some_iff.1 HG.out).1
  have hKs := mapAt_lt HK.out.1
  have hw26 : W2.heap.size ≤ w6.heap.size := cnt_size (w := W2.drew) Hb6.out
  have hB6 : Below w.heap.size (w.setCell ⟨p.G, 6, none⟩ (.int .i64 (s.cnt + 1 + ((n2 - 4 + 7) / 8 : Nat)))) w6 := cnt_base Hb2.out.drew Hb6.out
  have hG6 : w6.heap[p.G]? = some (.cells (gcells p { s with cnt := s.cnt + 1 + ((n2 - 4 + 7) / 8 : Nat) }) 72 (0, 0)) := (hB6.block _ (by simpa using hGs)).trans (g_count HG.out _)
  obtain ⟨_, _, _, _, _, _, _, x11⟩ := g_cells hG6
  have hs6 := cnt_row (w := W2.drew) Hb6.out Hs2.out (by omega)
  have x0 : w6.cell? ⟨w.heap.size, 0, none⟩ = some (.int .i64 m) := cell_of_row _ _ _ _ _ _ hs6
  have x1 : w6.cell? ⟨w.heap.size, 1, none⟩ = some (.int .i64 gen) := cell_of_row _ _ _ _ _ _ hs6
  have hGK := g_ne_map HG.out HK.out.1
  have hm6 : mapAt w6.drew Tryz.prog 104 p.K t f2 := mapAt_same HK.out.1 (by show w6.heap[p.K]? = _; rw [hB6.block _ (by simpa using hKs)]; exact heap_ne hGK)
  have HB6 := Lib.hid hB6
  have HG6 := Lib.hid hG6
  have Hm6 := Lib.hid hm6
  have Hs6 := Lib.hid hs6
  have hws6 : w.heap.size < w6.heap.size := (Array.getElem?_eq_some_iff.1 hs6).1
  have hKlt : p.K < w6.heap.size := mapAt_lt (w := w6.drew) hm6
  clear hB6 hG6 hm6 hs6
  go_region_held_law (fun w' => w'.cell? ⟨p.G, 11, none⟩ = some (.map (some p.K)) ∧ w'.cell? ⟨w.heap.size, 0, none⟩ = some (.int .i64 m) ∧ w'.cell? ⟨w.heap.size, 1, none⟩ = some (.int .i64 gen))
    (refine ⟨?_, ?_, ?_⟩ <;> (first | with_reducible assumption | (simp only [World.cell?_drew]; with_reducible assumption)))
    ((refine step_delete_at rfl _ _ 53 104 rfl 36 slot_law Tryz.underlying53 p.K t f2 rfl Hm6.out _ (slotL m gen) rfl (key_slot m gen (by omega) (by omega) (by omega) (by have := Hgn.out; omega)) ?_; intro w7 hm7 ht7; have hg7 := ht7.grown; have hG7 := (hg7.block p.G (show p.G < w6.heap.size by omega) (fun e => hGK (Option.some.inj e))).trans HG6.out; have hs7 := (hg7.block w.heap.size (show _ < w6.heap.size from hws6) (fun e => by have := Option.some.inj e; omega)).trans Hs6.out; obtain ⟨_, _, _, _, _, _, _, y11⟩ := g_cells hG7; have y0 : w7.cell? ⟨w.heap.size, 0, none⟩ = some (.int .i64 m) := cell_of_row _ _ _ _ _ _ hs7; have y1 : w7.cell? ⟨w.heap.size, 1, none⟩ = some (.int .i64 gen) := cell_of_row _ _ _ _ _ _ hs7; have HG7 := Lib.hid hG7; have Hm7 := Lib.hid hm7; have Hg7 := Lib.hid hg7; clear hG7 hm7 hg7 ht7 hs7; (try simp only [List.getElem_toArray, List.getElem_cons_succ, List.getElem_cons_zero, Act.put])))
  go_wp2
  go_ret2
  obtain ⟨hlG, hlH, hlK, hHK⟩ := Hlo.out
  have hHs := mapAt_lt HH.out.1
  have hGH := g_ne_map HG.out HH.out.1
  have hkeep : ∀ b, b < w.heap.size → b ≠ p.G → b ≠ p.K → w7.heap[b]? = w.heap[b]? := fun b hb h1 h2 => by
    rw [Hg7.out.block b (show b < w6.heap.size by omega) (fun e => h2 (Option.some.inj e))]
    show w6.heap[b]? = _
    rw [HB6.out.block b (by simpa using hb)]
    exact heap_ne (Ne.symm h1)
  refine ⟨r, rfl, ?_, ⟨HG7.out, ?_, ⟨f, mapAt_same HH.out.1 (hkeep _ hHs (Ne.symm hGH) hHK), head_del HH.out.2 m gen _⟩, ⟨_, Hm7.out, kept_del HK.out.2 m gen (by omega) (by have := Hgn.out; omega) _⟩, hlG, hlH, hlK, hHK⟩, ⟨?_, ?_, ?_, ?_, ?_⟩⟩
  · have h6 := Ho6.out
    have hw2 : w.heap.size ≤ W2.heap.size := Hb2.out.size
    refine ownsRow_mono (ownsRow_blk (w := w6) h6 fun b hb => ?_) (show w.heap.size ≤ W2.drew.heap.size from hw2)
    have hbb := h6.lt b hb
    have hge : w.heap.size ≤ b := Nat.le_trans hw2 hbb.1
    exact Hg7.out.block b hbb.2 (fun e => by have := Option.some.inj e; omega)
  · rw [treeL_del]
    exact ownsRow_blk HT.out fun b hb => hkeep b (HT.out.lt b hb).2 (fun h => tree_ne HT.out HG.out (by rw [hb, h])) (fun h => tree_ne_map HT.out HK.out.1 (by rw [hb, h]))
  · exact Hg7.out.os.trans HB6.out.os
  · exact Hg7.out.tape.trans HB6.out.tape
  · exact Hg7.out.output.trans HB6.out.output
  · exact Nat.le_trans (cnt_size HB6.out) Hg7.out.size
  · intro b hb h1 h2 h3 h4
    exact hkeep b hb h1 h3
end Go.Proofs.YtccidllcjaaeeabGreatDoor
/- maps.Copy of a map of kept keys, whatever order the tape gives. Conditions: two maps, the source's elements are secrets. -/
namespace Go.Proofs.YtccidllcjaaeeabGreatDoor
set_option maxRecDepth 100000
open Go Go.Maps Go.RowKit
open Go.Shelf Go.Lib Go.Sort
theorem slot_inv {v : Value} {kl : Lit} (h : keyOf Tryz.prog 104 v = some kl) : ∃ x : Int × Int, v = slotV x.1 x.2 := by
  rw [keyOf, Tryz.underlying104] at h
  simp only [slot_keyType, Bool.true_and] at h
  split at h
  · rename_i hf
    cases v with
    | agg cs =>
      obtain ⟨T, hT⟩ : ∃ T, T = Tryz.prog.types.size := ⟨_, rfl⟩
      have hs : 1 ≤ T := by rw [hT]; exact of_decide_eq_true (by kernel_rfl)
      obtain ⟨d, hd⟩ : ∃ d, T + 1 = d + 2 := ⟨T - 1, by omega⟩
      rw [← hT, hd] at h
      simp only [Value.formed, Tryz.underlying104, slot_cells, beq_iff_eq] at hf
      obtain ⟨l⟩ := cs
      match l, hf with
      | [a, b], _ =>
        simp [Program.keyLits, Tryz.underlying104, slot_cells, int_cells, Value.cells] at h
        cases a with
        | int q x =>
          cases b with
          | int q' y =>
            by_cases h1 : q = IntKind.i64
            · by_cases h2 : q' = IntKind.i64
              · subst h1; subst h2; exact ⟨(x, y), rfl⟩
              · simp [h2] at h
                split at h <;> simp at h
            · simp [h1] at h
          | _ =>
            simp at h
            split at h <;> simp at h
        | _ => simp at h
    | _ => simp [Value.formed, Tryz.underlying104] at hf
  · cases h
theorem slotV_inj {a b c d : Int} (h : slotV a b = slotV c d) : a = c ∧ b = d := by
  simp [slotV] at h; exact h
/-- What is met on the way over a map is what it holds. -/
theorem reads_met {D : DataW Value} {fo : Lit → Option Value} (r : ReadsF D fo) {kl : Lit} {c : Value} (h : ∀ zd, D.atKey kl zd = .held c) : fo kl = some c := by
  cases hf : fo kl with
  | none =>
    have hn := (r kl).2 hf
    have h1 := h (.held .nilIface)
    have h2 := h (.held (.bool true))
    rw [atKey_of_not_has hn] at h1 h2
    rw [← h1] at h2
    cases h2
  | some v =>
    have h1 := ((r kl).1 v hf).2 (.held c)
    rw [h (.held c)] at h1
    cases h1; rfl
/-- The one over the other, where it is no longer to come. -/
def overF (fo f : Lit → Option Value) (left : Lit → Bool) : Lit → Option Value := fun kl => if left kl then f kl else (fo kl).or (f kl)
theorem overF_step {fo f : Lit → Option Value} {left : Lit → Bool} {kl : Lit} {c : Value} (hk : WideAt.IsKeyLit kl) (hc : fo kl = some c) :
    putF (overF fo f left) kl (some c) = overF fo f (fun z => left z && !z.sameKey kl) := by
  funext z
  by_cases hz : z = kl
  · subst hz
    rw [putF_same hk]
    simp [overF, WideAt.sameKey_self hk, hc]
  · rw [putF_other hz]
    simp [overF, sameKey_ne hz]
theorem wp_kept_row {ops : Array Oper} {rest : List Oper} {o : Oper} {a : Act} {w : World} {Q : Exit → Act → World → Prop} (hg : o.guard = none) (x y : Operand) (ho : o.op = .store 36 x y) (q : List UInt8) (hq : q.length = 8)
    (W : World) (hw : w = W.alloc (.cells #[.int .u8 0, .int .u8 0, .int .u8 0, .int .u8 0, .int .u8 0, .int .u8 0, .int .u8 0, .int .u8 0] 36)) (i : Nat) (hi : i = W.heap.size) (hx : a.eval x = .pointer (some ⟨i, 0, none⟩)) (hy : a.eval y = .agg (cells q))
    (h : wpList Tryz.prog ops Q rest (a.put o.dst undef) (W.alloc (.cells (cells q) 36))) : wpList Tryz.prog ops Q (o :: rest) a w := by
  subst hw
  subst hi
  refine wpList_store_row hg 36 x y ho W.heap.size (cells q) hx hy _ _ (heap_alloc_new _ _) (by rw [infoSecret, cells_size, hq]) (by rw [cells_size, hq]; rfl) (cells_one _) ?_
  rw [World.setRow_alloc_new]; exact h
set_option maxHeartbeats 4000000 in
theorem copy_any (w : World) (K B t n : Nat) (f fo : Lit → Option Value) (hKf : mapAt w Tryz.prog 104 K t f) (hB : mapAt w Tryz.prog 104 B n fo) (hne : K ≠ B) (ht : t + n ≤ 10000000000000) (hfo : ∀ kl v, fo kl = some v → ∃ q : List UInt8, q.length = 8 ∧ v = .agg (cells q)) :
    Calls Tryz.prog 96 #[.map (some K), .map (some B)] w fun e w' => e = .returned (.tuple #[]) ∧ mapAt w' Tryz.prog 104 K (t + n) (fun kl => (fo kl).or (f kl)) ∧ w.grownBy w' (some K) := by
  obtain ⟨D, hD, rD⟩ := hB
  have HD := Lib.hid hD
  have HrD := Lib.hid rD
  have HKf := Lib.hid hKf
  have Hfo := Lib.hid hfo
  have hsz := hD.size_le
  have hKs := mapAt_lt hKf
  have hBs := hD.lt
  clear hD rD hKf hfo
  go_enter Tryz.func96, Tryz.ntmps96
  go_wp2_with (first
    | (at_range; refine wpList_range_own _ rfl _ 53 rfl 104 36 slot_law Tryz.underlying53 _ B n _ rfl HD.out ?_; intro w0 hrg0 hg0 hs0))
  go_frame
  go_loopw [8] (fun _ wr => ∃ (left : Lit → Bool) (cnt : Nat), wr.ranges Tryz.prog 104 heldR B w.heap.size n D left cnt ∧ cnt ≤ n ∧ mapAt wr Tryz.prog 104 K (t + n - cnt) (overF fo f left) ∧ w.grownBy wr (some K))
    (fun _ wr => wr.rangeLeft B w.heap.size)
  case atStart =>
    have hKf0 := mapAt_kept HKf.out hg0 (by simp)
    refine ⟨_, _, hrg0, hsz, ?_, hg0.but _⟩
    have e : overF fo f (Maps.has D) = f := by
      funext kl
      rw [overF, reads_has HrD.out]
      cases hf : fo kl <;> simp
    rw [e]
    exact mapAt_mono hKf0 (by omega)
  case round =>
    obtain ⟨left, cnt, hrg, hcs, hmap, hgw⟩ := hrel
    go_wp2_with (first
      | (at_next; go_must (refine wpList_next_ranges _ rfl _ rfl 104 slot_law heldR (fun x : Int × Int => slotV x.1 x.2) (fun v : Value => v) (fun key kl hk => slot_inv hk) (fun v y _ => ⟨v, rfl⟩) B w.heap.size n _ _ _ rfl hrg ?_ ?_)))
    · intro hc0 hl0
      go_wp2
      go_end0
      have e : overF fo f left = fun kl => (fo kl).or (f kl) := by funext kl; simp [overF, hl0]
      rw [e, hc0] at hmap
      exact ⟨rfl, mapAt_mono hmap (by omega), hgw⟩
    · intro x1 x2 c kl yd yp w1 cnt1 hkey hlx hv hat hrg1 hlt hg1 hs1 hen
      have hc : fo kl = some c := by
        have h1 : yd = .held c := by simpa [heldR] using (congrArg (Option.map Prod.fst) hv).symm
        exact reads_met HrD.out (fun zd => by rw [hat zd, h1])
      obtain ⟨q, hq, rfl⟩ := Hfo.out kl c hc
      have hmap1 := mapAt_kept hmap hg1 (fun e => by have := Option.some.inj e; omega)
      have Hq := Lib.hid hq
      have Hc := Lib.hid hc
      have Hkey := Lib.hid hkey
      have Hrg1 := Lib.hid hrg1
      have Hg1 := Lib.hid hg1
      have Hmap1 := Lib.hid hmap1
      have Hhat := Lib.hid hlt
      clear hs1 hq hc hkey hrg1 hg1 hmap1 hat hv hlx hlt
      unfold slotV at hen
      unfold slotV
      go_upto_region 3 with (refine wp_kept_row rfl _ _ rfl q Hq.out _ rfl (w1.heap.size + 1) (by simp) rfl rfl ?_)
      generalize hW : World.alloc (World.alloc _ _) _ = W
      have hWq : W.heap[w1.heap.size + 1]? = some (.cells (cells q) 36 (0, 0)) := by rw [← hW]; exact heap_alloc_at _ _ _ (by simp)
      have hWs : W.heap[w1.heap.size]? = some (.cells #[.int .i64 x1, .int .i64 x2] 104 (0, 0)) := by rw [← hW, Below.heap_alloc _ _ _ (by simp)]; exact heap_alloc_new _ _
      have hWg : w1.grownBy W none := by rw [← hW]; exact (World.grownBy_alloc _ _ _).trans (World.grownBy_alloc _ _ _)
      have hmapW := mapAt_kept Hmap1.out hWg (by simp)
      have s0 : W.cell? ⟨w1.heap.size, 0, none⟩ = some (.int .i64 x1) := cell_of_row _ _ _ _ _ _ hWs
      have s1 : W.cell? ⟨w1.heap.size, 1, none⟩ = some (.int .i64 x2) := cell_of_row _ _ _ _ _ _ hWs
      have HWq := Lib.hid hWq
      have HmapW := Lib.hid hmapW
      have HWg := Lib.hid hWg
      clear hW hWq hWs hmapW hWg
      go_wp2_with (first
        | (refine wpList_load_row rfl 36 _ rfl (w1.heap.size + 1) rfl _ (cells q) _ _ HWq.out Tryz.underlying36 rfl (by rw [infoSecret, cells_size, Hq.out]) ?_)
        | (at_mapUpdate; go_must (refine wpList_mapUpdate_at _ rfl _ _ _ 53 rfl 104 36 slot_law Tryz.underlying53 K _ _ rfl HmapW.out (by unfold maxLen; omega) _ (.agg (cells q)) kl rfl rfl Hkey.out ?_); intro w2 hm2 ht2; have Hm2 := Lib.hid hm2; have Hg2 := Lib.hid ht2.grown; clear hm2 ht2; go_frame))
      have hw1s : w.heap.size < w1.heap.size := Hrg1.out.lt
      have hrg2 := (Hrg1.out.kept HWg.out (by simp) (by simp)).kept Hg2.out (fun e => by have := Option.some.inj e; omega) (fun e => by have := Option.some.inj e; omega)
      go_roundw
      case rel =>
        have h3 := Hm2.out
        rw [overF_step (slot_law.key Hkey.out) Hc.out] at h3
        have hcc := Hhat.out
        exact ⟨_, cnt1, hrg2, by omega, mapAt_mono h3 (by omega), ((hgw.andThen Hg1.out (fun j e => .inl (by have := Option.some.inj e; omega))).andThen HWg.out (fun j e => by cases e)).andThen Hg2.out (fun j e => .inr e)⟩
      case measure => rw [hrg2.left_eq, hrg.left_eq]; exact Hhat.out
end Go.Proofs.YtccidllcjaaeeabGreatDoor
/- The shelf's contracts laid at this program: slices.Sort of ints. No condition. -/
namespace Go.Proofs.YtccidllcjaaeeabGreatDoor
open Go.Shelf
def Tryz.lays189_ren : Go.Shelf.Ren := ⟨fun | 189 => 126 | 125 => 50 | 257 => 130 | 128 => 84 | 129 => 85 | 294 => 131 | 295 => 132 | 296 => 133 | 297 => 134 | 298 => 135 | 299 => 136 | 216 => 137 | 300 => 138 | 301 => 139 | 328 => 140 | 329 => 109 | 330 => 110 | 331 => 141 | 332 => 142 | 215 => 52 | 343 => 143 | n => n, fun | 28 => 22 | 3 => 3 | 46 => 122 | 0 => 0 | 51 => 56 | 53 => 175 | 4 => 4 | 183 => 167 | 182 => 166 | 131 => 171 | 5 => 5 | 9 => 9 | 218 => 205 | 222 => 209 | 228 => 236 | 229 => 237 | n => n, fun | n => n⟩
theorem Tryz.lays189 : Go.Proofs.Lays.n189 Tryz.prog Tryz.lays189_ren := {
  mixed := by kernel_rfl
  f125 := Tryz.func50.trans (congrArg some (by kernel_rfl))
  f128 := Tryz.func84.trans (congrArg some (by kernel_rfl))
  f129 := Tryz.func85.trans (congrArg some (by kernel_rfl))
  f189 := Tryz.func126.trans (congrArg some (by kernel_rfl))
  f215 := Tryz.func52.trans (congrArg some (by kernel_rfl))
  f216 := Tryz.func137.trans (congrArg some (by kernel_rfl))
  f257 := Tryz.func130.trans (congrArg some (by kernel_rfl))
  f294 := Tryz.func131.trans (congrArg some (by kernel_rfl))
  f295 := Tryz.func132.trans (congrArg some (by kernel_rfl))
  f296 := Tryz.func133.trans (congrArg some (by kernel_rfl))
  f297 := Tryz.func134.trans (congrArg some (by kernel_rfl))
  f298 := Tryz.func135.trans (congrArg some (by kernel_rfl))
  f299 := Tryz.func136.trans (congrArg some (by kernel_rfl))
  f300 := Tryz.func138.trans (congrArg some (by kernel_rfl))
  f301 := Tryz.func139.trans (congrArg some (by kernel_rfl))
  f328 := Tryz.func140.trans (congrArg some (by kernel_rfl))
  f329 := Tryz.func109.trans (congrArg some (by kernel_rfl))
  f330 := Tryz.func110.trans (congrArg some (by kernel_rfl))
  f331 := Tryz.func141.trans (congrArg some (by kernel_rfl))
  f332 := Tryz.func142.trans (congrArg some (by kernel_rfl))
  f343 := Tryz.func143.trans (congrArg some (by kernel_rfl))
  t0 := Tryz.underlying0
  a0 := Tryz.isAgg0
  z0 := Tryz.sizeOf0
  v0 := Tryz.zeroValue0
  t3 := Tryz.underlying3
  a3 := Tryz.isAgg3
  z3 := Tryz.sizeOf3
  v3 := Tryz.zeroValue3
  t4 := Tryz.underlying4
  a4 := Tryz.isAgg4
  z4 := Tryz.sizeOf4
  v4 := Tryz.zeroValue4
  t5 := Tryz.underlying5
  a5 := Tryz.isAgg5
  z5 := Tryz.sizeOf5
  v5 := Tryz.zeroValue5
  t9 := Tryz.underlying9
  a9 := Tryz.isAgg9
  z9 := Tryz.sizeOf9
  v9 := Tryz.zeroValue9
  t28 := Tryz.underlying22
  a28 := Tryz.isAgg22
  z28 := Tryz.sizeOf22
  v28 := Tryz.zeroValue22
  t46 := Tryz.underlying122
  a46 := Tryz.isAgg122
  z46 := Tryz.sizeOf122
  v46 := Tryz.zeroValue122
  t51 := Tryz.underlying56
  a51 := Tryz.isAgg56
  z51 := Tryz.sizeOf56
  v51 := Tryz.zeroValue56
  t53 := Tryz.underlying175
  a53 := Tryz.isAgg175
  z53 := Tryz.sizeOf175
  v53 := Tryz.zeroValue175
  t131 := Tryz.underlying171
  a131 := Tryz.isAgg171
  z131 := Tryz.sizeOf171
  v131 := Tryz.zeroValue171
  t182 := Tryz.underlying166
  a182 := Tryz.isAgg166
  z182 := Tryz.sizeOf166
  v182 := Tryz.zeroValue166
  t183 := Tryz.underlying167
  a183 := Tryz.isAgg167
  z183 := Tryz.sizeOf167
  v183 := Tryz.zeroValue167
  t218 := Tryz.underlying205
  a218 := Tryz.isAgg205
  z218 := Tryz.sizeOf205
  v218 := Tryz.zeroValue205
  t222 := Tryz.underlying209
  a222 := Tryz.isAgg209
  z222 := Tryz.sizeOf209
  v222 := Tryz.zeroValue209
  t228 := Tryz.underlying236
  a228 := Tryz.isAgg236
  z228 := Tryz.sizeOf236
  v228 := Tryz.zeroValue236
  t229 := Tryz.underlying237
  a229 := Tryz.isAgg237
  z229 := Tryz.sizeOf237
  v229 := Tryz.zeroValue237 }
end Go.Proofs.YtccidllcjaaeeabGreatDoor
/- The walk of a group's trim: the oldest keys of a member are given up till four are left, whatever order the tape gives. Conditions: the kept keys are of numbers, the member's generations are listed. -/
namespace Go.Proofs.YtccidllcjaaeeabGreatDoor
set_option maxRecDepth 100000
open Go Go.Maps Go.RowKit
open Go.Shelf Go.Lib Go.Sort
def leI : Int → Int → Bool := fun x y => decide (x ≤ y)
theorem sort_eq {ls : List Int} {over : List Nat} (h1 : ls.Nodup) (h2 : over.Pairwise (· < ·)) (h3 : ∀ x, x ∈ ls ↔ ∃ g : Nat, x = (g : Int) ∧ g ∈ over) : ls.mergeSort leI = over.map (fun g : Nat => (g : Int)) := by
  have hs : (over.map (fun g : Nat => (g : Int))).Pairwise (fun a b => a < b) := List.Pairwise.map _ (fun a b h => by show (a : Int) < b; omega) h2
  have hn : (over.map (fun g : Nat => (g : Int))).Nodup := hs.imp (fun h => by omega)
  have hp : (ls.mergeSort leI).Perm (over.map (fun g : Nat => (g : Int))) := (List.mergeSort_perm ls leI).trans ((List.perm_ext_iff_of_nodup h1 hn).2 fun x => by
    rw [h3 x, List.mem_map]
    exact ⟨fun ⟨g, a, b⟩ => ⟨g, b, a.symm⟩, fun ⟨g, a, b⟩ => ⟨g, b.symm, a⟩⟩)
  refine List.Perm.eq_of_pairwise (le := fun a b => leI a b = true) (fun a b _ _ h k => ?_) (List.pairwise_mergeSort (fun a b c h k => ?_) (fun a b => ?_) ls) (hs.imp fun h => ?_) hp
  · simp [leI] at h k; omega
  · simp [leI] at h k ⊢; omega
  · simp [leI]; omega
  · simp [leI]; omega
theorem sortI_any (w : World) (base : Nat) (zs : List Int) (sv : Value) (h : w.ownsRow base 3 1 sv zs.length (zs.map (Value.int .i64))) (hz : zs.length ≤ 1000000000) :
    Calls Tryz.prog 126 #[sv] w fun e w' => e = .returned (.tuple #[]) ∧ w'.ownsRow base 3 1 sv zs.length ((zs.mergeSort leI).map (Value.int .i64)) ∧ w.grownBy w' sv.ownBlock := by
  have h' := h
  obtain ⟨_, h2⟩ := h
  rcases h2 with ⟨rfl, h0⟩ | ⟨g, cap, cur, rfl, h2, h3, h4, h5, h6, h7⟩
  · obtain rfl : zs = [] := List.eq_nil_of_length_eq_zero h0
    exact (Any.slices_Sort_int_none Tryz.lays189 none 0 w).mono fun e w' ⟨he, hw⟩ => ⟨he, by rw [hw, List.mergeSort_nil]; exact h', by rw [hw]; exact ⟨rfl, rfl, rfl, Nat.le_refl _, fun _ _ _ => rfl⟩⟩
  · refine (Any.slices_Sort_int Tryz.lays189 g 0 cap zs w (holds_of_blockI h3 (by simpa using h7)) (Array.getElem?_eq_some_iff.1 h3).1 (by omega)).mono ?_
    rintro e w' ⟨rfl, nn, os, rfl⟩
    exact ⟨rfl, ownsRow_sortedI (by simp) h2 h3 h4 h5 h6, grownBy_sortedI _⟩
/-- What was met of a member's generations. -/
def CollI (f : Lit → Option Value) (m : Nat) (left : Lit → Bool) (ls : List Int) : Prop :=
  ls.Nodup ∧ ∀ x : Int, x ∈ ls ↔ ∃ g : Nat, x = (g : Int) ∧ g ≤ 65535 ∧ (f (slotL m g)).isSome = true ∧ left (slotL m g) = false
theorem coll_step {f : Lit → Option Value} {m : Nat} {left : Lit → Bool} {ls : List Int} (hC : CollI f m left ls) {m' g' : Nat} (hm : m ≤ 1000000) (hm' : m' ≤ 1000000) (hg' : g' ≤ 65535) (hf : (f (slotL m' g')).isSome = true) (hl : left (slotL m' g') = true) :
    CollI f m (fun z => left z && !z.sameKey (slotL m' g')) (if m' = m then ls ++ [(g' : Int)] else ls) := by
  obtain ⟨h1, h2⟩ := hC
  by_cases he : m' = m
  · subst he
    rw [if_pos rfl]
    have hnot : (g' : Int) ∉ ls := fun h => by
      obtain ⟨g, e, _, _, e2⟩ := (h2 _).1 h
      obtain rfl : g' = g := by omega
      rw [hl] at e2; cases e2
    refine ⟨List.nodup_append.2 ⟨h1, by simp, fun a ha b hb => ?_⟩, fun x => ?_⟩
    · rw [List.mem_singleton] at hb; subst hb
      exact fun e => hnot (e ▸ ha)
    · rw [List.mem_append, List.mem_singleton, h2 x]
      constructor
      · rintro (⟨g, e, a, b, c⟩ | rfl)
        · exact ⟨g, e, a, b, by simp [c]⟩
        · exact ⟨g', rfl, hg', hf, by simp [WideAt.sameKey_self (slotL_key _ _)]⟩
      · rintro ⟨g, e, a, b, c⟩
        by_cases hgg : g = g'
        · subst hgg; exact .inr e
        · have hne : slotL m' g ≠ slotL m' g' := fun h => hgg (slotL_inj (by omega) (by omega) (by omega) (by omega) h).2
          simp only [sameKey_ne hne, Bool.not_false, Bool.and_true] at c
          exact .inl ⟨g, e, a, b, c⟩
  · rw [if_neg he]
    refine ⟨h1, fun x => ?_⟩
    rw [h2 x]
    have hne : ∀ g : Nat, g ≤ 65535 → slotL m g ≠ slotL m' g' := fun g hg h => he (slotL_inj (by omega) (by omega) (by omega) (by omega) h).1.symm
    constructor
    · rintro ⟨g, e, a, b, c⟩; exact ⟨g, e, a, b, by simp [c]⟩
    · rintro ⟨g, e, a, b, c⟩
      simp only [sameKey_ne (hne g a), Bool.not_false, Bool.and_true] at c
      exact ⟨g, e, a, b, c⟩
/-- The kept keys without some generations of a member. -/
def delAll (f : Lit → Option Value) (m : Nat) (gs : List Nat) : Lit → Option Value := gs.foldl (fun f (g : Nat) => putF f (slotL m g) none) f
theorem delAll_snoc (f : Lit → Option Value) (m : Nat) (gs : List Nat) (g : Nat) : delAll f m (gs ++ [g]) = putF (delAll f m gs) (slotL m g) none := by simp [delAll]
theorem delAll_at (m m' g' : Nat) (hm : m ≤ 1000000) (hm' : m' ≤ 1000000) (hg' : g' ≤ 1000000) : ∀ (gs : List Nat) (f : Lit → Option Value), (∀ g ∈ gs, g ≤ 1000000) → delAll f m gs (slotL m' g') = if m' = m ∧ g' ∈ gs then none else f (slotL m' g')
  | [], f, _ => by simp [delAll]
  | g :: gs, f, h => by
    have ih := delAll_at m m' g' hm hm' hg' gs (putF f (slotL m g) none) (fun x hx => h x (List.mem_cons_of_mem _ hx))
    have e : delAll f m (g :: gs) = delAll (putF f (slotL m g) none) m gs := rfl
    rw [e, ih]
    have hg := h g (List.mem_cons_self ..)
    by_cases h1 : m' = m ∧ g' = g
    · obtain ⟨rfl, rfl⟩ := h1
      rw [putF_same (slotL_key _ _)]
      simp
    · have hne : slotL m' g' ≠ slotL m g := fun e => h1 (slotL_inj (by omega) (by omega) (by omega) (by omega) e)
      rw [putF_other hne]
      by_cases h2 : m' = m
      · have : g' ≠ g := fun e => h1 ⟨h2, e⟩
        simp [h2, this]
      · simp [h2]
theorem delAll_dom (m : Nat) (kl : Lit) : ∀ (gs : List Nat) (f : Lit → Option Value), delAll f m gs kl ≠ none → f kl ≠ none
  | [], _, h => h
  | g :: gs, f, h => by
    have h1 := delAll_dom m kl gs (putF f (slotL m g) none) h
    intro e
    apply h1
    unfold putF
    split
    · rfl
    · exact e
theorem infoInt : (Tryz.prog.info? 3).map (fun i => (i.zero, i.size, i.bytes)) = some (some (.int .i64 0), 1, 8) := by kernel_rfl
set_option maxHeartbeats 8000000 in
theorem trim_any (w : World) (p : GPl) (s : GSt) (t m : Nat) (f : Lit → Option Value) (over : List Nat) (hG : w.heap[p.G]? = some (.cells (gcells p s) 72 (0, 0))) (hK : mapAt w Tryz.prog 104 p.K t f) (ht : t ≤ 10000000000000) (hm : m ≤ 16)
    (hr : over.Pairwise (· < ·)) (ho : ∀ g : Nat, g ≤ 65535 → ((f (slotL m g)).isSome = true ↔ g ∈ over)) (hov : ∀ g ∈ over, g ≤ 65535) (h9 : over.length ≤ 1000) (hdom : ∀ kl, f kl ≠ none → ∃ m' g' : Nat, m' ≤ 16 ∧ g' ≤ 65535 ∧ kl = slotL m' g') :
    Calls Tryz.prog 97 #[.pointer (some ⟨p.G, 0, none⟩), .int .i64 m] w fun e w' => e = .returned (.tuple #[]) ∧ mapAt w' Tryz.prog 104 p.K t (delAll f m (over.take (over.length - 4))) ∧ w.grownBy w' (some p.K) := by
  obtain ⟨i0, hi', hz0', hz1', hz2'⟩ := info_parts infoInt
  have hi := Lib.hid hi'
  have hz0 := Lib.hid hz0'
  have hz1 := Lib.hid hz1'
  have hz2 := Lib.hid hz2'
  obtain ⟨D, hD, rD⟩ := hK
  have HD := Lib.hid hD
  have HrD := Lib.hid rD
  have HG := Lib.hid hG
  have Ho := Lib.hid ho
  have Hov := Lib.hid hov
  have Hr := Lib.hid hr
  have Hdom := Lib.hid hdom
  have hsz := hD.size_le
  have hKs := hD.lt
  have hGs := (Array.getElem?_eq_some_iff.1 hG).1
  have hGK : p.G ≠ p.K := g_ne_map hG ⟨D, hD, rD⟩
  obtain ⟨_, _, _, _, _, _, _, c11⟩ := g_cells hG
  clear hi' hz0' hz1' hz2' hD rD hG ho hov hr hdom
  go_enter Tryz.func97, Tryz.ntmps97
  go_wp2_with (first
    | (at_range; refine wpList_range_own _ rfl _ 53 rfl 104 36 slot_law Tryz.underlying53 _ p.K t _ rfl HD.out ?_; intro w0 hrg0 hg0 hs0))
  go_frame
  go_loopw [4] (fun sv wr => ∃ (left : Lit → Bool) (cnt : Nat) (ls : List Int), wr.ranges Tryz.prog 104 heldR p.K w.heap.size t D left cnt ∧ ls.length + cnt ≤ t ∧ wr.ownsRow (w.heap.size + 1) 3 1 sv ls.length (ls.map (Value.int .i64)) ∧ CollI f m left ls ∧ Below w.heap.size w wr)
    (fun _ wr => wr.rangeLeft p.K w.heap.size)
  case atStart =>
    refine ⟨_, _, [], hrg0, by simpa using hsz, World.ownsRow_nil _ _ _ _, ⟨List.nodup_nil, fun x => ?_⟩, ⟨hg0.os, hg0.tape, hg0.output, hg0.size, fun b hb => hg0.block b hb (by simp)⟩⟩
    refine ⟨fun h => (by cases h), fun ⟨g, _, _, h1, h2⟩ => ?_⟩
    rw [reads_has HrD.out, h1] at h2
    cases h2
  case round =>
    obtain ⟨left, cnt, ls, hrg, hcs, hown, hC, hbw⟩ := hrel
    go_wp2_with (first
      | (at_next; go_must (refine wpList_next_ranges _ rfl _ rfl 104 slot_law heldR (fun x : Int × Int => slotV x.1 x.2) (fun v : Value => v) (fun key kl hk => slot_inv hk) (fun v y _ => ⟨v, rfl⟩) p.K w.heap.size t _ _ _ rfl hrg ?_ ?_)))
    · intro hc0 hl0
      have hmem : ∀ x : Int, x ∈ ls ↔ ∃ g : Nat, x = (g : Int) ∧ g ∈ over := fun x => by
        rw [hC.2 x]
        exact ⟨fun ⟨g, e, a, b, _⟩ => ⟨g, e, (Ho.out g a).1 b⟩, fun ⟨g, e, a⟩ => ⟨g, e, Hov.out g a, (Ho.out g (Hov.out g a)).2 a, hl0 _⟩⟩
      have hse := sort_eq hC.1 Hr.out hmem
      have hlen : ls.length = over.length := by
        have := congrArg List.length hse
        simpa using this
      have hrow := hrg.owns
      have HK2 : Hid (mapAt wr Tryz.prog 104 p.K t f) := Lib.hid ⟨D, hrow, HrD.out⟩
      have Hown := Lib.hid hown
      have Hbw := Lib.hid hbw
      have Hse := Lib.hid hse
      obtain ⟨a4, c4, rfl⟩ : ∃ a c, u4 = .slice a over.length c := by
        rcases hown.2 with ⟨e, h0⟩ | ⟨g, cap, cur, e, _⟩
        · exact ⟨none, 0, by rw [e, ← hlen, h0]⟩
        · exact ⟨_, cap, by rw [e, hlen]⟩
      have Hlen := Lib.hid hlen
      clear hC hmem hse hrow hown hbw hrg hl0 hlen
      have hsort := sortI_any wr (w.heap.size + 1) ls _ Hown.out (by have := Hlen.out; omega)
      have Hsort := Lib.hid hsort
      clear hsort
      go_wp2_with (first
        | (go_at_call 126; refine Hsort.out.mono ?_; rintro e w2 ⟨rfl, ho2, hg2⟩; have Ho20 := Lib.hid (And.intro ho2 hg2); clear ho2 hg2; go_frame))
      obtain ⟨ho2, hg2⟩ := Ho20.out
      rw [Hse.out, Hlen.out] at ho2
      have hKw : p.K < wr.heap.size := Nat.lt_of_lt_of_le hKs Hbw.out.size
      have hlow := fun b hb => (Hown.out.lt b hb).1
      have hk2 : ∀ b, b ≤ w.heap.size → b < wr.heap.size → w2.heap[b]? = wr.heap[b]? := fun b hb hbs => hg2.block b hbs (fun e => by have := hlow b e.symm; omega)
      have HKm : Hid (mapAt w2 Tryz.prog 104 p.K t f) := Lib.hid (mapAt_same HK2.out (hk2 _ (by omega) hKw))
      have HB2 : Hid (Below w.heap.size w w2) := Lib.hid ⟨hg2.os.trans Hbw.out.os, hg2.tape.trans Hbw.out.tape, hg2.output.trans Hbw.out.output, Nat.le_trans Hbw.out.size hg2.size, fun b hb => (hk2 b (by omega) (Nat.lt_of_lt_of_le hb Hbw.out.size)).trans (Hbw.out.block b hb)⟩
      have Ho2 := Lib.hid ho2
      clear ho2 hg2 hk2 hlow HK2 Hbw Hown Ho20 Hsort
      by_cases h4 : over.length ≤ 4
      · have h4I : ¬ (4 : Int) < over.length := by omega
        refine wp_loop_rounds 1 ?_
        rw [rounds_succ]
        go_wp2
        go_end0
        exact ⟨rfl, HKm.out, ⟨HB2.out.os, HB2.out.tape, HB2.out.output, HB2.out.size, fun b hb _ => HB2.out.block b hb⟩⟩
      · obtain ⟨g, cap, cur, e1, hgb, hgr, hlc, hcm, hcs, hct⟩ : ∃ g cap cur, Value.slice a4 over.length c4 = .slice (some ⟨g, 0, none⟩) over.length cap ∧ w.heap.size + 1 ≤ g ∧ w2.heap[g]? = some (.cells cur 3 (0, 0)) ∧ over.length ≤ cap ∧ cap ≤ maxLen ∧ cur.size = cap * 1 ∧ cur.toList.take (over.length * 1) = (over.map (fun g : Nat => (g : Int))).map (Value.int .i64) := by
          rcases Ho2.out.2 with ⟨_, h0⟩ | h
          · omega
          · exact h
        injection e1 with ea _ ec
        subst ea; subst ec
        have hcell : ∀ (wx : World), wx.heap[g]? = some (.cells cur 3 (0, 0)) → ∀ k (hk : k < over.length), wx.cell? ⟨g, k, none⟩ = some (.int .i64 (over[k] : Nat)) := fun wx hwx k hk => by
          rw [cell_of_row _ _ _ _ _ _ hwx]
          have h1 : (cur.toList.take (over.length * 1))[k]? = some (.int .i64 (over[k] : Nat)) := by rw [hct]; simp [hk]
          rw [List.getElem?_take_of_lt (by omega)] at h1
          simpa using h1
        have Hcell := Lib.hid hcell
        have hgw : Hid (w.grownBy w2 (some p.K)) := Lib.hid ⟨HB2.out.os, HB2.out.tape, HB2.out.output, HB2.out.size, fun b hb _ => HB2.out.block b hb⟩
        have Hgr := Lib.hid hgr
        have hgs2 : g < w2.heap.size := (Array.getElem?_eq_some_iff.1 hgr).1
        have hcap4 : c4 ≤ 9223372036854775807 := by unfold maxLen at hcm; omega
        clear hcell hct hcs hgr HB2 Ho2 hcm
        go_loopw [4] (fun sv wx => ∃ k : Nat, k ≤ over.length - 4 ∧ sv = .slice (some ⟨g, k, none⟩) ((over.length - k : Nat) : Nat) (c4 - k) ∧ mapAt wx Tryz.prog 104 p.K t (delAll f m (over.take k)) ∧ wx.heap[g]? = some (.cells cur 3 (0, 0)) ∧ w.grownBy wx (some p.K))
          (fun sv _ => match sv with | .slice _ n _ => n | _ => 0)
        case atStart => exact ⟨0, Nat.zero_le _, rfl, HKm.out, Hgr.out, hgw.out⟩
        case round =>
          obtain ⟨k, hk4, rfl, hmk, hgk, hwk⟩ := hrel
          have hgK : g ≠ p.K := by omega
          have hgG : g ≠ p.G := by omega
          have hwrs := mapAt_lt hmk
          have hgrs : g < wr.heap.size := (Array.getElem?_eq_some_iff.1 hgk).1
          have hwGr : wr.heap[p.G]? = some (.cells (gcells p s) 72 (0, 0)) := (hwk.block p.G hGs (fun e => hGK (Option.some.inj e))).trans HG.out
          obtain ⟨_, _, _, _, _, _, _, y11⟩ := g_cells hwGr
          have Hmk := Lib.hid hmk
          have Hgk := Lib.hid hgk
          have Hwk := Lib.hid hwk
          have HwGr := Lib.hid hwGr
          clear hmk hgk hwk hwGr
          by_cases h4k : k < over.length - 4
          · have hki : (4 : Int) < (over.length - k : Nat) := by omega
            have hkl : k < over.length := by omega
            have yk := Hcell.out wr Hgk.out k hkl
            obtain ⟨gk, hgkk⟩ : ∃ gk, gk = over[k] := ⟨_, rfl⟩
            rw [← hgkk] at yk
            have hgk5 : gk ≤ 65535 := by rw [hgkk]; exact Hov.out _ (List.getElem_mem hkl)
            have Hgkk := Lib.hid hgkk
            clear hgkk
            go_upto_region 8 with (fail)
            go_region_held_law (fun w' => w'.cell? ⟨p.G, 11, none⟩ = some (.map (some p.K)) ∧ w'.cell? ⟨g, k, none⟩ = some (.int .i64 gk))
              (refine ⟨?_, ?_⟩ <;> (first | with_reducible assumption | (simp only [World.cell?_drew]; with_reducible assumption)))
              ((refine step_delete_at rfl _ _ 53 104 rfl 36 slot_law Tryz.underlying53 p.K t (delAll f m (over.take k)) rfl (mapAt_same Hmk.out rfl) _ (slotL m gk) rfl (key_slot m gk (by omega) (by omega) (by omega) (by omega)) ?_; intro w7 hm7 ht7; have hg7 := ht7.grown; have hG7 := (hg7.block p.G (show p.G < wr.heap.size by omega) (fun e => hGK (Option.some.inj e))).trans HwGr.out; have hs7 := (hg7.block g (show _ < wr.heap.size from hgrs) (fun e => hgK (Option.some.inj e))).trans Hgk.out; obtain ⟨_, _, _, _, _, _, _, z11⟩ := g_cells hG7; have z0 := Hcell.out w7 hs7 k hkl; rw [← Hgkk.out] at z0; have Hs7 := Lib.hid hs7; have Hm7 := Lib.hid hm7; have Hg7 := Lib.hid hg7; clear hG7 hm7 hg7 ht7 hs7; (try simp only [List.getElem_toArray, List.getElem_cons_succ, List.getElem_cons_zero, Act.put])))
            go_wp2_with fail
            go_roundw
            case rel =>
              refine ⟨k + 1, by omega, ?_, ?_, Hs7.out, ?_⟩
              · rw [Nat.sub_sub, Nat.sub_sub]
              · have e : over.take (k + 1) = over.take k ++ [gk] := by rw [List.take_add_one, List.getElem?_eq_getElem hkl, Hgkk.out]; rfl
                rw [e, delAll_snoc]; exact Hm7.out
              · exact Hwk.out.trans ⟨Hg7.out.os, Hg7.out.tape, Hg7.out.output, Hg7.out.size, Hg7.out.block⟩
            case measure => simp; omega
          · have hki : ¬ (4 : Int) < (over.length - k : Nat) := by omega
            go_wp2_with fail
            go_end0
            have e0 : k = over.length - 4 := by omega
            rw [← e0]
            exact ⟨rfl, Hmk.out, Hwk.out⟩
    · intro x1 x2 c kl yd yp w1 cnt1 hkey hlx hv hat hrg1 hlt hg1 hs1 hen
      have hc : f kl = some c := by
        have h1 : yd = .held c := by simpa [heldR] using (congrArg (Option.map Prod.fst) hv).symm
        exact reads_met HrD.out (fun zd => by rw [hat zd, h1])
      obtain ⟨m', g', hm', hg', rfl⟩ := Hdom.out kl (by rw [hc]; simp)
      obtain ⟨rfl, rfl⟩ := slotV_inj (slot_law.inj hkey (key_slot m' g' (by omega) (by omega) (by omega) (by omega)))
      have hC2 := coll_step hC (by omega) (by omega) hg' (by rw [hc]; rfl) hlx
      have HC2 := Lib.hid hC2
      have Hrg1 := Lib.hid hrg1
      have Hg1 := Lib.hid hg1
      have Hlt := Lib.hid hlt
      clear hs1 hc hkey hrg1 hg1 hlt hat hv hlx hC hC2
      unfold slotV at hen
      unfold slotV
      have hown1 := hown.kept Hg1.out (.inr (own_ne hown (Nat.lt_succ_self _)))
      have hw1s : w.heap.size < w1.heap.size := Hrg1.out.lt
      go_upto_region 4 with (fail)
      generalize hW : World.alloc _ _ = W
      have hWs : W.heap[w1.heap.size]? = some (.cells #[.int .i64 m', .int .i64 g'] 104 (0, 0)) := by rw [← hW]; exact heap_alloc_new _ _
      have hWg : w1.grownBy W none := by rw [← hW]; exact World.grownBy_alloc _ _ _
      have s0 : W.cell? ⟨w1.heap.size, 0, none⟩ = some (.int .i64 m') := cell_of_row _ _ _ _ _ _ hWs
      have s1 : W.cell? ⟨w1.heap.size, 1, none⟩ = some (.int .i64 g') := cell_of_row _ _ _ _ _ _ hWs
      have hownW : W.ownsRow (w.heap.size + 1) 3 1 u4 ls.length (ls.map (Value.int .i64)) := by rw [← hW]; exact hown1.alloc _
      have HWg := Lib.hid hWg
      have HownW := Lib.hid hownW
      have hbW : Below w.heap.size w W := (hbw.grown Hg1.out hbw.size (fun j e => by have := Option.some.inj e; omega)).grown hWg (by omega) (fun j e => by cases e)
      have HbW := Lib.hid hbW
      have hWw1 : w1.heap.size < W.heap.size := (Array.getElem?_eq_some_iff.1 hWs).1
      clear hW hWs hWg hownW hbW hown1
      by_cases hmm : m' = m
      · subst hmm
        have HC3 := HC2
        rw [if_pos rfl] at HC3
        go_wp2_with (first
          | (at_builtin; go_must (refine wpList_append_own_at _ rfl (.tmp 19) (.tmp 22) 22 (by rfl) (w.heap.size + 1) 3 i0 (.int .i64 0) 1 8 Tryz.underlying22 hi.out hz0.out hz1.out hz2.out rfl (by decide) u4 ls.length (ls.map (Value.int .i64)) (by rfl) (HownW.out.alloc _) ⟨W.heap.size, 0, none⟩ 1 1 [.int .i64 g'] (by rfl) rfl (cell_one_new _ _ _) (ints_oneCell .i64 [(g' : Int)]) (by unfold maxLen; omega) (by omega) (by simp; omega) ?_); intro v' w5 hown5 hg5 hnil5 hloc5; have Hown5 := Lib.hid hown5; have Hg5 := Lib.hid hg5; clear hown5 hg5 hnil5 hloc5; go_frame))
        have hlow := fun b hb => (HownW.out.lt b hb).1
        have hrgW := Hrg1.out.kept HWg.out (by simp) (by simp)
        have hrg5 := (hrgW.alloc (.cells #[.int .i64 g'] 3)).kept Hg5.out (fun e => by have := hlow _ e.symm; omega) (fun e => by have := hlow _ e.symm; omega)
        go_roundw
        case rel =>
          refine ⟨_, cnt1, ls ++ [(g' : Int)], hrg5, by have := Hlt.out; simp; omega, by simpa using Hown5.out, HC3.out, ?_⟩
          exact (HbW.out.alloc HbW.out.size _).grown Hg5.out (by simp; have := HbW.out.size; omega) (fun j e => by have := hlow j e; omega)
        case measure => rw [hrg5.left_eq, hrg.left_eq]; exact Hlt.out
      · have HC3 := HC2
        rw [if_neg hmm] at HC3
        have hmI : ¬ ((m' : Int) = m) := by omega
        have hrgW := Hrg1.out.kept HWg.out (by simp) (by simp)
        go_wp2_with fail
        go_roundw
        case rel => exact ⟨_, cnt1, ls, hrgW, by have := Hlt.out; omega, HownW.out, HC3.out, HbW.out⟩
        case measure => rw [hrgW.left_eq, hrg.left_eq]; exact Hlt.out
end Go.Proofs.YtccidllcjaaeeabGreatDoor
/- Laws of no program: the keys that a message ahead leaves; the state behind a message that opens. No condition of its own. -/
namespace Go.Proofs.YtccidllcjaaeeabGreatDoor
set_option maxRecDepth 100000
open Go Go.Maps Go.RowKit
open Go.Shelf Go.Lib Go.Sort
/-- The keys of k generations from nx. -/
def keysF (leaf : List UInt8) (m nx : Nat) : Nat → Lit → Option Value
  | 0 => fun _ => none
  | k + 1 => putF (keysF leaf m nx k) (slotL m ((nx + k : Nat) : Int)) (some (.agg (cells (keyL leaf (nx + k)))))
theorem keysF_at (leaf : List UInt8) (m nx m' g' : Nat) (hm : m ≤ 1000000) (hm' : m' ≤ 1000000) (hg' : g' ≤ 1000000) : ∀ k, nx + k ≤ 1000000 → keysF leaf m nx k (slotL m' g') = if m' = m ∧ nx ≤ g' ∧ g' < nx + k then some (.agg (cells (keyL leaf g'))) else none
  | 0, _ => by rw [keysF, if_neg (by omega)]
  | k + 1, h => by
    have ih := keysF_at leaf m nx m' g' hm hm' hg' k (by omega)
    rw [keysF]
    by_cases he : m' = m ∧ g' = nx + k
    · obtain ⟨rfl, rfl⟩ := he
      rw [putF_same (slotL_key _ _), if_pos ⟨rfl, by omega, by omega⟩]
    · have hne : slotL m' g' ≠ slotL m ((nx + k : Nat) : Int) := fun e => he (slotL_inj (by omega) (by omega) (by omega) (by omega) e)
      rw [putF_other hne, ih]
      by_cases hc : m' = m ∧ nx ≤ g' ∧ g' < nx + k
      · rw [if_pos hc, if_pos ⟨hc.1, hc.2.1, by omega⟩]
      · rw [if_neg hc, if_neg (fun h => hc ⟨h.1, h.2.1, by have := h.2.2; have : g' ≠ nx + k := fun e => he ⟨h.1, e⟩; omega⟩)]
theorem keysF_dom (leaf : List UInt8) (m nx : Nat) (kl : Lit) : ∀ k, keysF leaf m nx k kl ≠ none → ∃ g : Nat, nx ≤ g ∧ g < nx + k ∧ kl = slotL m g
  | 0, h => absurd rfl h
  | k + 1, h => by
    by_cases he : kl = slotL m ((nx + k : Nat) : Int)
    · exact ⟨nx + k, by omega, by omega, he⟩
    · rw [keysF, putF_other he] at h
      obtain ⟨g, h1, h2, h3⟩ := keysF_dom leaf m nx kl k h
      exact ⟨g, h1, by omega, h3⟩
theorem keysF_sec (leaf : List UInt8) (m nx : Nat) (kl : Lit) (v : Value) : ∀ k, keysF leaf m nx k kl = some v → ∃ q : List UInt8, q.length = 8 ∧ v = .agg (cells q)
  | 0, h => by cases h
  | k + 1, h => by
    by_cases he : kl = slotL m ((nx + k : Nat) : Int)
    · rw [keysF, he, putF_same (slotL_key _ _)] at h
      cases h
      exact ⟨_, kd_length _ _ _, rfl⟩
    · rw [keysF, putF_other he] at h
      exact keysF_sec leaf m nx kl v k h
/-- The generations whose keys are met where gen opens: kept ones and skipped ones. -/
def allG (s : GSt) (m gen : Nat) : List Nat := (s.M m).over ++ List.range' (s.M m).next (gen - (s.M m).next)
/-- The state behind a message of a generation ahead. -/
def openS (s : GSt) (m gen : Nat) (c : Int) : GSt := { s with cnt := c, M := fun i => if i = m then ⟨true, gen + 1, (allG s m gen).drop ((allG s m gen).length - 4)⟩ else s.M i }
theorem allG_mem (s : GSt) (m gen g : Nat) : g ∈ allG s m gen ↔ g ∈ (s.M m).over ∨ ((s.M m).next ≤ g ∧ g < gen) := by
  rw [allG, List.mem_append, List.mem_range'_1]
  constructor
  · rintro (h | h)
    · exact .inl h
    · exact .inr ⟨h.1, by omega⟩
  · rintro (h | h)
    · exact .inl h
    · exact .inr ⟨h.1, by omega⟩
theorem allG_rise (s : GSt) (m gen : Nat) (hI : GInv s) : (allG s m gen).Pairwise (· < ·) := by
  refine List.pairwise_append.2 ⟨hI.rise m, List.pairwise_lt_range', fun a ha b hb => ?_⟩
  have h1 := hI.over m a ha
  have h2 := (List.mem_range'_1.1 hb).1
  omega
theorem allG_len (s : GSt) (m gen : Nat) (hI : GInv s) (hg : gen ≤ (s.M m).next + 5) : (allG s m gen).length ≤ 9 := by
  have := hI.four m
  rw [allG, List.length_append, List.length_range']
  omega
theorem allG_le (s : GSt) (m gen : Nat) (hI : GInv s) (hn : (s.M m).next ≤ gen) : ∀ g ∈ allG s m gen, g < gen := fun g h => by
  rcases (allG_mem s m gen g).1 h with h | h
  · have := hI.over m g h; omega
  · omega
theorem drop_mem_iff {l : List Nat} (h : l.Pairwise (· < ·)) (k g : Nat) : g ∈ l.drop k ↔ g ∈ l ∧ g ∉ l.take k := by
  have e : l.take k ++ l.drop k = l := List.take_append_drop k l
  have hp : (l.take k ++ l.drop k).Pairwise (· < ·) := by rw [e]; exact h
  constructor
  · intro hg
    refine ⟨List.mem_of_mem_drop hg, fun ht => ?_⟩
    have := (List.pairwise_append.1 hp).2.2 g ht g hg
    omega
  · rintro ⟨h1, h2⟩
    rw [← e] at h1
    exact (List.mem_append.1 h1).resolve_left h2
theorem inv_open {s : GSt} (hI : GInv s) (m gen : Nat) (c : Int) (hn : (s.M m).next ≤ gen) (hg : gen ≤ 65535) : GInv (openS s m gen c) := by
  have e : ∀ i, i ≠ m → (openS s m gen c).M i = s.M i := fun i hi => if_neg hi
  have e2 : (openS s m gen c).M m = ⟨true, gen + 1, (allG s m gen).drop ((allG s m gen).length - 4)⟩ := if_pos rfl
  refine ⟨hI.n16, hI.own, hI.root, fun i => ?_, fun i => ?_, fun i => ?_, fun i => ?_, fun i => ?_⟩
  all_goals
    by_cases hi : i = m
    · subst hi
      rw [e2]
      first
        | (show gen + 1 ≤ 65536; omega)
        | (intro g h; have := allG_le s i gen hI hn g (List.mem_of_mem_drop h); show g < gen + 1; omega)
        | exact (allG_rise s i gen hI).sublist (List.drop_sublist _ _)
        | (show (List.drop _ _).length ≤ 4; rw [List.length_drop]; omega)
        | (intro h; cases h)
    · rw [e i hi]
      first
        | exact hI.next i
        | exact hI.over i
        | exact hI.rise i
        | exact hI.four i
        | exact hI.none i
theorem treeL_open (s : GSt) (m gen : Nat) (c : Int) (hc : s.closed = false) : treeL (openS s m gen c) = treeU s m := by
  show (if s.closed = true then _ else _) = _
  rw [hc, if_neg (by simp)]
  exact partsT_congr 16 _ _ _ (fun i _ _ => by
    show (if i = m then _ else _ : Mem).begun = _
    simp only [upd]
    by_cases hi : i = m
    · simp [hi]
    · simp [hi]) (Nat.zero_le _)
theorem head_open {s : GSt} {f : Lit → Option Value} (hf : HeadOk s f) (hc : s.closed = false) (m gen : Nat) (hm : m < s.n) (c : Int) {r : List UInt8} {g1 : Nat} (hg1 : g1 = gen + 1) (hr : r = ratS (leafL s.root s.n m) g1) :
    HeadOk (openS s m gen c) (putF f (intL m) (some (.agg (rcells r g1)))) := by
  refine ⟨fun i hi => ?_, fun kl hkl => ?_⟩
  · by_cases him : i = m
    · subst him
      rw [putF_same (intL_key _)]
      have e : (openS s i gen c).M i = ⟨true, gen + 1, (allG s i gen).drop ((allG s i gen).length - 4)⟩ := if_pos rfl
      have : headV (openS s i gen c) i = some (.agg (rcells (ratS (leafL s.root s.n i) ((openS s i gen c).M i).next) ((openS s i gen c).M i).next)) := if_pos ⟨hc, hm, by rw [e]⟩
      rw [this, e, hr, hg1]
    · rw [putF_other (fun e => him (intL_inj e)), hf.1 i hi]
      have e : (openS s m gen c).M i = s.M i := if_neg him
      show headV s i = (if _ then _ else _)
      rw [e]; rfl
  · by_cases hk : kl = intL m
    · exact ⟨m, hm, hk⟩
    · rw [putF_other hk] at hkl; exact hf.2 kl hkl
/-- The kept keys, before the oldest are given up. -/
def metF (s : GSt) (f : Lit → Option Value) (m gen : Nat) : Lit → Option Value := fun kl => (keysF (leafL s.root s.n m) m (s.M m).next (gen - (s.M m).next) kl).or (f kl)
theorem met_some {s : GSt} {f : Lit → Option Value} (hf : KeptOk s f) (hc : s.closed = false) (m gen g : Nat) (hm : m < s.n) (hm6 : m ≤ 1000000) (hn : (s.M m).next ≤ gen) (hg : gen ≤ 65535) (hg5 : g ≤ 65535) :
    (metF s f m gen (slotL m g)).isSome = true ↔ g ∈ allG s m gen := by
  unfold metF
  rw [keysF_at _ m _ m g hm6 hm6 (by omega) _ (by omega), hf.1 m g hm6 (by omega), allG_mem]
  by_cases h : (s.M m).next ≤ g ∧ g < gen
  · rw [if_pos ⟨rfl, h.1, by omega⟩]
    simp [h]
  · rw [if_neg (fun e => h ⟨e.2.1, by omega⟩), keptV]
    by_cases h2 : g ∈ (s.M m).over
    · rw [if_pos ⟨hc, hm, h2⟩]; simp [h2]
    · rw [if_neg (fun e => h2 e.2.2)]
      simp [h2, h]
theorem met_dom {s : GSt} {f : Lit → Option Value} (hf : KeptOk s f) (m gen : Nat) (hm : m < s.n) (hn : (s.M m).next ≤ gen) (hg : gen ≤ 65535) (kl : Lit) (h : metF s f m gen kl ≠ none) : ∃ i g : Nat, i < s.n ∧ g ≤ 65535 ∧ kl = slotL i g := by
  by_cases h1 : keysF (leafL s.root s.n m) m (s.M m).next (gen - (s.M m).next) kl = none
  · unfold metF at h
    rw [h1, Option.none_or] at h
    exact hf.2 kl h
  · obtain ⟨g, a, b, e⟩ := keysF_dom _ _ _ _ _ h1
    exact ⟨m, g, hm, by omega, e⟩
theorem kept_open {s : GSt} {f : Lit → Option Value} (hf : KeptOk s f) (hI : GInv s) (hc : s.closed = false) (m gen : Nat) (hm : m < s.n) (hn : (s.M m).next ≤ gen) (hg : gen ≤ 65535) (c : Int) :
    KeptOk (openS s m gen c) (delAll (metF s f m gen) m ((allG s m gen).take ((allG s m gen).length - 4))) := by
  have hm6 : m ≤ 1000000 := by have := hI.n16; omega
  have hall : ∀ g ∈ (allG s m gen).take ((allG s m gen).length - 4), g ≤ 1000000 := fun g h => by
    have := allG_le s m gen hI hn g (List.mem_of_mem_take h); omega
  refine ⟨fun i g hi hgi => ?_, fun kl h => ?_⟩
  · rw [delAll_at m i g hm6 hi hgi _ _ hall]
    by_cases him : i = m
    · subst him
      have e : ((openS s i gen c).M i).over = (allG s i gen).drop ((allG s i gen).length - 4) := by
        have : (openS s i gen c).M i = ⟨true, gen + 1, (allG s i gen).drop ((allG s i gen).length - 4)⟩ := if_pos rfl
        rw [this]
      have hd := drop_mem_iff (allG_rise s i gen hI) ((allG s i gen).length - 4) g
      rw [← e] at hd
      unfold keptV
      by_cases ht : g ∈ (allG s i gen).take ((allG s i gen).length - 4)
      · rw [if_pos ⟨rfl, ht⟩, if_neg (fun h => (hd.1 h.2.2).2 ht)]
      · rw [if_neg (fun h => ht h.2)]
        by_cases hall2 : g ∈ allG s i gen
        · rw [if_pos ⟨hc, hm, hd.2 ⟨hall2, ht⟩⟩]
          unfold metF
          rw [keysF_at _ i _ i g hm6 hm6 hgi _ (by omega), hf.1 i g hm6 hgi]
          by_cases h3 : (s.M i).next ≤ g ∧ g < gen
          · rw [if_pos ⟨rfl, h3.1, by omega⟩]; rfl
          · rw [if_neg (fun e => h3 ⟨e.2.1, by omega⟩), keptV, if_pos ⟨hc, hm, ((allG_mem s i gen g).1 hall2).resolve_right h3⟩]; rfl
        · rw [if_neg (fun h => hall2 (hd.1 h.2.2).1)]
          unfold metF
          have h3 : ¬ ((s.M i).next ≤ g ∧ g < gen) := fun h => hall2 ((allG_mem s i gen g).2 (.inr h))
          rw [keysF_at _ i _ i g hm6 hm6 hgi _ (by omega), hf.1 i g hm6 hgi, if_neg (fun e => h3 ⟨e.2.1, by omega⟩), keptV, if_neg (fun e => hall2 ((allG_mem s i gen g).2 (.inl e.2.2)))]
          rfl
    · rw [if_neg (fun h => him h.1)]
      unfold metF
      rw [keysF_at _ m _ i g hm6 hi hgi _ (by omega), if_neg (fun h => him h.1), Option.none_or, hf.1 i g hi hgi]
      have e : (openS s m gen c).M i = s.M i := if_neg him
      unfold keptV
      rw [e]; rfl
  · exact met_dom hf m gen hm hn hg kl (delAll_dom _ _ _ _ h)
section
open Go.Great
variable {P : Program} {ops : Array Oper} {rest : List Oper} {o : Oper} {a : Act} {Q : Exit → Act → World → Prop}
/-- 'clear(m)'. -/
theorem wpList_clear_at (w : World) (hg : o.guard = none) (m : Operand) (t : TypeId) (hop : o.op = Op.call { callee := Callee.builtin Builtin.clear, args := #[m], argTypes := #[t] }) (k e : TypeId) (ht : P.underlying t = some (.map k e))
    (b n : Nat) (f : Lit → Option Value) (hm : a.eval m = .map (some b)) (hown : mapAt w P k b n f)
    (hK : ∀ w', mapAt w' P k b 0 (fun _ => none) → w.mapTurned w' b → wpList P ops Q rest (a.put o.dst (.tuple #[])) w') : wpList P ops Q (o :: rest) a w := by
  refine wpList_plain hg fun K' hK' => ?_
  obtain ⟨w', hrun, r1, r2⟩ := mapAt_clear hown ht o.type
  unfold Oper.wp
  simp [execOp, hop, resolve, invoke, builtin, hm, hrun, Result.andThen]
  exact hK' _ _ (hK w' r1 r2)
end
end Go.Proofs.YtccidllcjaaeeabGreatDoor
/- The walk of a group's open where the generation is not spent. Conditions: the group lies and reads as its state; what was sealed reads, apart from the group. -/
namespace Go.Proofs.YtccidllcjaaeeabGreatDoor
set_option maxRecDepth 100000
open Go Go.Maps Go.RowKit
open Go.Shelf Go.Lib Go.Sort
set_option maxHeartbeats 4000000 in
/-- open: the generation is too far ahead. -/
theorem open_far (w : World) (lo t m gen : Nat) (p : GPl) (s : GSt) (v1 v2 : Option Addr) (n1 c1 n2 c2 : Nat) (hA : GroupAt w lo p s t) (hI : GInv s) (hc : s.closed = false) (hm : m < s.n) (hg : (s.M m).next + 5 < gen) (hgt : gen ≤ 65535) :
    Calls Tryz.prog 64 #[.pointer (some ⟨p.G, 0, none⟩), .agg #[.int .i64 m, .int .i64 gen], .slice v1 n1 c1, .slice v2 n2 c2] w fun e w' => e = .returned (.tuple #[.slice none 0 0, .iface 138 (.agg #[.int .i64 6])]) ∧ Below w.heap.size w w' := by
  obtain ⟨hG, hT, ⟨f, hH, hf⟩, ⟨f2, hK, hf2⟩, _⟩ := hA
  have h16 := hI.n16
  obtain ⟨r0, hr0, hlkv⟩ := head_of hf hI hc m hm
  obtain ⟨W, hW⟩ : ∃ W, W = w.alloc (.cells #[.int .i64 m, .int .i64 gen] 104) := ⟨_, rfl⟩
  have hb : Below w.heap.size w W := by rw [hW]; exact balloc (Below.refl _ _) _
  have hH1 := mapAt_same hH (hb.block _ (mapAt_lt hH))
  have hlk := mapAt_look (w := W.drew) (mapAt_same hH1 rfl) int_law Tryz.underlying52 (zeroRat _) (key_int m (by omega) (by omega))
  rw [hlkv] at hlk
  have hfld := field_gen r0 (s.M m).next hr0
  obtain ⟨nx, hnx⟩ : ∃ nx, nx = (s.M m).next := ⟨_, rfl⟩
  rw [← hnx] at hlk hfld hg
  have hgI : ¬ (gen : Int) < nx := by omega
  have hg5 : (5 : Int) < (gen : Int) - nx := by omega
  have hWG : W.heap[p.G]? = some (.cells (gcells p s) 72 (0, 0)) := (hb.block _ (Array.getElem?_eq_some_iff.1 hG).1).trans hG
  obtain ⟨_, _, _, _, _, _, c10, c11⟩ := g_cells hWG
  have s0 : W.cell? ⟨w.heap.size, 0, none⟩ = some (.int .i64 m) := by rw [hW]; exact cell_of_row _ _ _ _ _ _ (heap_alloc_new _ _)
  have s1 : W.cell? ⟨w.heap.size, 1, none⟩ = some (.int .i64 gen) := by rw [hW]; exact cell_of_row _ _ _ _ _ _ (heap_alloc_new _ _)
  have HW := Lib.hid hW
  have Hb := Lib.hid hb
  clear hG hT hH hf hK hf2 hlkv hr0 hH1 hWG hnx hW hb
  go_enter Tryz.func64, Tryz.ntmps64
  go_upto_region 1 with (fail)
  rw [← HW.out]
  go_region
  all_goals
    go_wp2
    go_ret2
    exact ⟨rfl, Hb.out.drew⟩
/-- The generation that a ratchet's cells tell. -/
def genAt (R : Nat) (w : World) : Nat := match w.cell? ⟨R, 8, none⟩ with | some (.int _ g) => g.toNat | _ => 0
theorem genAt_row {R : Nat} {w : World} {r : List UInt8} {g t : Nat} {fr : Nat × Nat} (hr : r.length = 8) (h : w.heap[R]? = some (.cells (rcells r g) t fr)) : genAt R w = g := by
  obtain ⟨a0, a1, a2, a3, a4, a5, a6, a7, hk8⟩ := eight hr
  obtain ⟨_, _, _, _, _, _, _, _, e8⟩ := nine_cells hk8 h
  rw [genAt, e8]
  simp
theorem next_rat (D o R : Nat) (v : Int) (w : World) (leaf : List UInt8) (g : Nat) (hg : g ≤ 65535)
    (hx : w.cell? ⟨D, o, none⟩ = some (.int .i64 v)) (hf : w.frozen? ⟨D, o, none⟩ = false) (hb0 : 0 ≤ v) (hb1 : v ≤ 4611686018427000000)
    (hR : w.heap[R]? = some (.cells (rcells (ratS leaf g) g) 102 (0, 0))) (hRD : R ≠ D) :
    Calls Tryz.prog 57 #[.pointer (some ⟨R, 0, none⟩), .pointer (some ⟨D, o, none⟩)] w fun e w' =>
      e = .returned (.agg (cells (keyL leaf g))) ∧ Below w.heap.size ((w.setCell ⟨D, o, none⟩ (.int .i64 (v + nextN g))).setRow R (rcells (ratS leaf (g + 1)) ((g + 1 : Nat) : Int))) w' := by
  have h := next_any D o R v w (ratS leaf g) g (ratS_length _ _) hg hx hf hb0 hb1 hR hRD
  rw [ratS_next _ _ hg, ratS_key _ _ hg] at h
  exact h
set_option maxHeartbeats 8000000 in
/-- open: the main way. -/
theorem open_ahead (w : World) (lo t m gen : Nat) (p : GPl) (s : GSt) (v1 : Option Addr) (b3 o3 n1 c1 n2 c2 : Nat) (head sl : List UInt8) (hA : GroupAt w lo p s t) (hI : GInv s) (hc : s.closed = false) (hm : m < s.n) (hg : (s.M m).next ≤ gen) (hg5 : gen ≤ (s.M m).next + 5) (hgt : gen ≤ 65535) (hb0 : 0 ≤ s.cnt) (hb1 : s.cnt ≤ 4611686010000000000) (ht : t < 1000000000000)
    (hn1 : head.length = n1) (hn2 : sl.length = n2) (h3 : n1 ≤ 1000) (h4 : 4 ≤ n2) (h40 : n2 ≤ 1000) (hc2 : n2 ≤ c2) (hr1 : Rd w v1 head) (hr2 : Rd w (some ⟨b3, o3, none⟩) sl) (hap1 : ∀ b o, v1 = some ⟨b, o, none⟩ → 0 < head.length → b < w.heap.size ∧ Apart p b) (hap2 : b3 < w.heap.size ∧ Apart p b3) :
    Calls Tryz.prog 64 #[.pointer (some ⟨p.G, 0, none⟩), .agg #[.int .i64 m, .int .i64 gen], .slice v1 n1 c1, .slice (some ⟨b3, o3, none⟩) n2 c2] w fun e w' => ∃ c' : Int, s.cnt < c' ∧ c' ≤ s.cnt + 2 * depthF 16 s.n m + 4 + 2 * (gen - (s.M m).next : Nat) + ((n2 - 4 + 7) / 8 : Nat) ∧ Either (opensB (keyS s m gen) head sl)
      (∃ r T', e = .returned (.tuple #[r, .nilIface]) ∧ w'.ownsRow w.heap.size 5 1 r (n2 - 4) (cells (openT (keyS s m gen) sl)).toList ∧ GroupAt w' lo { p with T := T' } (openS s m gen c') (t + 5) ∧ Frm w w' p ∧ TreeNew w p.T T')
      (e = .returned (.tuple #[.slice none 0 0, .iface 138 (.agg #[.int .i64 7])]) ∧ GroupAt w' lo p { s with cnt := c' } t ∧ Frm w w' p) := by
  have hA0 := Lib.hid hA
  obtain ⟨hG, hT, ⟨f, hH, hf⟩, ⟨f2, hK, hf2⟩, hlo⟩ := hA
  have h16 := hI.n16
  have hGs := (Array.getElem?_eq_some_iff.1 hG).1
  obtain ⟨r0, hr0, hlkv⟩ := head_of hf hI hc m hm
  obtain ⟨W, hW⟩ : ∃ W, W = w.alloc (.cells #[.int .i64 m, .int .i64 gen] 104) := ⟨_, rfl⟩
  have hb : Below w.heap.size w W := by rw [hW]; exact balloc (Below.refl _ _) _
  have hH1 := mapAt_same hH (hb.block _ (mapAt_lt hH))
  have hlk := mapAt_look (w := W.drew) (mapAt_same hH1 rfl) int_law Tryz.underlying52 (zeroRat _) (key_int m (by omega) (by omega))
  rw [hlkv] at hlk
  have hfld := field_gen r0 (s.M m).next hr0
  have hneed := need_any W.drew lo t m p s (group_below hA0.out hb.drew) hI hc hm hb0 (by omega)
  obtain ⟨nx, hnx⟩ : ∃ nx, nx = (s.M m).next := ⟨_, rfl⟩
  rw [← hnx] at hlk hfld hg hg5 hneed
  obtain ⟨leaf, hlf⟩ : ∃ leaf, leaf = leafL s.root s.n m := ⟨_, rfl⟩
  rw [← hlf] at hneed
  have hgI : ¬ (gen : Int) < nx := by omega
  have hg5I : ¬ (5 : Int) < (gen : Int) - nx := by omega
  have hWG : W.heap[p.G]? = some (.cells (gcells p s) 72 (0, 0)) := (hb.block _ hGs).trans hG
  obtain ⟨_, _, _, _, _, _, c10, c11⟩ := g_cells hWG
  have hWs : W.heap[w.heap.size]? = some (.cells #[.int .i64 m, .int .i64 gen] 104 (0, 0)) := by rw [hW]; exact heap_alloc_new _ _
  have s0 : W.cell? ⟨w.heap.size, 0, none⟩ = some (.int .i64 m) := cell_of_row _ _ _ _ _ _ hWs
  have s1 : W.cell? ⟨w.heap.size, 1, none⟩ = some (.int .i64 gen) := cell_of_row _ _ _ _ _ _ hWs
  have hwW : w.heap.size < W.heap.size := block_lt_of_cell s0
  have HWs := Lib.hid hWs
  have HW := Lib.hid hW
  have Hb := Lib.hid hb
  have HG := Lib.hid hG
  have HK := Lib.hid (And.intro hK hf2)
  have HT := Lib.hid hT
  have HH := Lib.hid (And.intro hH hf)
  have Hlo := Lib.hid hlo
  have Hneed := Lib.hid hneed
  have Hr1 := Lib.hid hr1
  have Hr2 := Lib.hid hr2
  have Hap1 := Lib.hid hap1
  have Hap2 := Lib.hid hap2
  have Hnx := Lib.hid hnx
  have Hlf := Lib.hid hlf
  clear hG hT hH hf hK hf2 hlkv hr0 hH1 hWG hnx hW hb hneed hlf hr1 hr2 hap1 hap2 hlo hWs
  have hmf : ∀ (fn : Fn) (first cap : Array Value) (w : World), (Instr.makeFunc fn first cap).run Tryz.prog w = .ok (.func fn first cap) w := fun _ _ _ _ => rfl
  have hmm := @run_makeMap Tryz.prog
  go_enter Tryz.func64, Tryz.ntmps64
  go_upto_region 1 with (fail)
  rw [← HW.out]
  go_region
  clear hlk hfld c10 c11
  go_wp2_with fail
  refine Hneed.out.mono ?_
  rintro e w1 ⟨T1, d1, rfl, hd1, hd2, ho1, htn, hb1'⟩
  obtain ⟨at1, ct1, rfl⟩ := (SliceR.of_own ho1).form
  have hBw : Below w.heap.size (w.setCell ⟨p.G, 6, none⟩ (.int .i64 d1)) w1 := cnt_base Hb.out.drew hb1'
  have hw1 : W.heap.size ≤ w1.heap.size := cnt_size (w := W.drew) hb1'
  have hG1 : w1.heap[p.G]? = some (.cells (gcells p { s with cnt := d1 }) 72 (0, 0)) := (hBw.block _ (by simpa using hGs)).trans (g_count HG.out d1)
  have hS1 := cnt_row (w := W.drew) hb1' HWs.out (by omega)
  have hr1l : (ratS leaf nx).length = 8 := ratS_length _ _
  have Ho1 := Lib.hid ho1
  have Htn := Lib.hid htn
  have HBw := Lib.hid hBw
  have HG1 := Lib.hid hG1
  have HS1 := Lib.hid hS1
  have Hr1l := Lib.hid hr1l
  clear ho1 htn hBw hb1' hG1 hS1 hr1l Hneed
  go_wp2_with (first
    | (refine wpList_store_row rfl 102 _ _ rfl w1.heap.size (rcells (ratS leaf nx) nx) rfl rfl _ (rcells zeroS 0) (by rw [rcells_zero]; exact heap_alloc_new _ _) (by rw [infoRatchet, rcells_size _ _ Hr1l.out]) (by rw [rcells_size _ _ rfl, rcells_size _ _ Hr1l.out]) (rcells_one _ _) ?_; rw [← rcells_zero, World.setRow_alloc_new]))
  obtain ⟨R, hR⟩ : ∃ R, R = w1.heap.size := ⟨_, rfl⟩
  rw [← hR]
  have hRw : W.heap.size ≤ R := by omega
  have HR := Lib.hid hR
  clear hR
  go_loopw [18] (fun _ wr => ∃ (k : Nat) (v : Int), nx + k ≤ gen ∧ d1 ≤ v ∧ v ≤ d1 + 2 * k ∧ wr.heap[R]? = some (.cells (rcells (ratS leaf (nx + k)) ((nx + k : Nat) : Int)) 102 (0, 0)) ∧ mapAt wr Tryz.prog 104 (R + 1) k (keysF leaf m nx k) ∧
      w1.grownBy wr (some p.G) ∧ wr.heap[p.G]? = some (.cells (gcells p { s with cnt := v }) 72 (0, 0)))
    (fun _ wr => gen + 1 - genAt R wr)
  case atStart =>
    have e := HR.out
    subst e
    have hg1 : w1.grownBy ((w1.alloc (.cells (rcells (ratS leaf nx) nx) 102)).alloc (.map #[] 0)) none := (World.grownBy_alloc _ _ _).trans (World.grownBy_alloc _ _ _)
    refine ⟨0, d1, by omega, by omega, by omega, ?_, ?_, hg1.but _, ?_⟩
    · rw [Below.heap_alloc _ _ _ (by simp)]; exact heap_alloc_new _ _
    · have := mapAt_made (w1.alloc (.cells (rcells (ratS leaf nx) nx) 102)) Tryz.prog 104
      simpa [keysF] using this
    · exact (hg1.block _ (by omega) (by simp)).trans HG1.out
  case round =>
    obtain ⟨k, v, hk, hv0, hv1, hRr, hmap, hgr, hGr⟩ := hrel
    obtain ⟨gk, hgk⟩ : ∃ gk, gk = nx + k := ⟨_, rfl⟩
    rw [← hgk] at hRr
    have hk5 : k ≤ 5 := by omega
    have hgg : gk ≤ gen := by omega
    have Hgk := Lib.hid hgk
    clear hgk hk
    have hgS : wr.heap[w.heap.size]? = some (.cells #[.int .i64 m, .int .i64 gen] 104 (0, 0)) := (hgr.block _ (by omega) (fun e => by have := Option.some.inj e; omega)).trans HS1.out
    have hdp := depthF_le 16 s.n m
    have hvb : 0 ≤ v ∧ v ≤ 4611686018426000000 := ⟨by omega, by omega⟩
    have q0 : wr.cell? ⟨w.heap.size, 0, none⟩ = some (.int .i64 m) := cell_of_row _ _ _ _ _ _ hgS
    have q1 : wr.cell? ⟨w.heap.size, 1, none⟩ = some (.int .i64 gen) := cell_of_row _ _ _ _ _ _ hgS
    have q8 : wr.cell? ⟨R, 8, none⟩ = some (.int .i64 gk) := by
      obtain ⟨a0, a1, a2, a3, a4, a5, a6, a7, hk8⟩ := eight (ratS_length leaf gk)
      exact (nine_cells hk8 hRr).2.2.2.2.2.2.2.2
    have hRs : R < wr.heap.size := block_lt_of_cell q8
    have hOs : R + 1 < wr.heap.size := mapAt_lt hmap
    have hGlt : p.G < wr.heap.size := (Array.getElem?_eq_some_iff.1 hGr).1
    have HRr := Lib.hid hRr
    have Hmap := Lib.hid hmap
    have Hgr := Lib.hid hgr
    have HGr := Lib.hid hGr
    have HgS := Lib.hid hgS
    have hgen0 := genAt_row (ratS_length _ _) hRr
    clear hRr hmap hgr hGr hgS
    by_cases hlt : gk < gen
    · have hltI : (gk : Int) < gen := by omega
      go_upto_region 18 with (fail)
      generalize hX : World.alloc _ _ = X
      have hXs : X.heap[wr.heap.size]? = some (.cells #[.int .i64 m, .int .i64 gk] 104 (0, 0)) := by rw [← hX]; exact heap_alloc_new _ _
      have hXg : wr.grownBy X none := by rw [← hX]; exact World.grownBy_alloc _ _ _
      have hXG := (hXg.block _ hGlt (by simp)).trans HGr.out
      have hXR := (hXg.block _ hRs (by simp)).trans HRr.out
      have hXm := mapAt_kept Hmap.out hXg (by simp)
      obtain ⟨_, _, x6, _, _, _, _, _⟩ := g_cells hXG
      have x6f := frozen_of_row _ _ 6 _ _ hXG
      have z0 : X.cell? ⟨wr.heap.size, 0, none⟩ = some (.int .i64 m) := cell_of_row _ _ _ _ _ _ hXs
      have z1 : X.cell? ⟨wr.heap.size, 1, none⟩ = some (.int .i64 gk) := cell_of_row _ _ _ _ _ _ hXs
      have hXw : wr.heap.size < X.heap.size := block_lt_of_cell z0
      have hnext := next_rat p.G 6 R v X.drew leaf gk (by omega) (by rw [World.cell?_drew]; exact x6) (by rw [World.frozen?_drew]; exact x6f) hvb.1 (by omega) hXR (by omega)
      have Hnext := Lib.hid hnext
      have HXs := Lib.hid hXs
      have HXg := Lib.hid hXg
      have HXG := Lib.hid hXG
      have HXR := Lib.hid hXR
      have HXm := Lib.hid hXm
      have hRG : R ≠ p.G := by omega
      clear hX hXs hXg hXG hXR hXm hnext x6 x6f
      go_region_held3 (fun w' => w'.cell? ⟨wr.heap.size, 0, none⟩ = some (.int .i64 m) ∧ w'.cell? ⟨wr.heap.size, 1, none⟩ = some (.int .i64 gk))
        (refine ⟨?_, ?_⟩ <;> (first | with_reducible assumption | (simp only [World.cell?_drew]; with_reducible assumption)))
        (first | (go_at_call 57; go_must (refine Hnext.out.mono ?_); rintro e w5 ⟨rfl, hb5⟩; go_must (have hs5 : w5.heap[wr.heap.size]? = some (.cells #[.int .i64 m, .int .i64 gk] 104 (0, 0)) := by rw [hb5.block _ hXw, setRow_other _ _ _ _ (by omega), heap_ne (by omega)]; exact HXs.out); go_must (have hm5 : mapAt w5 Tryz.prog 104 (R + 1) k (keysF leaf m nx k) := mapAt_same HXm.out (by rw [hb5.block (R + 1) (show R + 1 < X.heap.size by omega), setRow_other _ _ _ _ (by omega), heap_ne (by omega)]; rfl)); have t0 : w5.cell? ⟨wr.heap.size, 0, none⟩ = some (.int .i64 m) := cell_of_row _ _ _ _ _ _ hs5; have t1 : w5.cell? ⟨wr.heap.size, 1, none⟩ = some (.int .i64 gk) := cell_of_row _ _ _ _ _ _ hs5; go_must (obtain ⟨w6, hrun6, hm6, ht6⟩ := mapAt_store hm5 slot_law Tryz.underlying53 (by unfold maxLen; omega) (key_slot m gk (by omega) (by omega) (by omega) (by omega)) (.agg (cells (keyL leaf gk)))); rw [slotV] at hrun6; go_must (have hs6 : w6.heap[wr.heap.size]? = some (.cells #[.int .i64 m, .int .i64 gk] 104 (0, 0)) := (ht6.grown.block wr.heap.size (block_lt_of_cell t0) (fun e => by have := Option.some.inj e; omega)).trans hs5); have u0 : w6.cell? ⟨wr.heap.size, 0, none⟩ = some (.int .i64 m) := cell_of_row _ _ _ _ _ _ hs6; have u1 : w6.cell? ⟨wr.heap.size, 1, none⟩ = some (.int .i64 gk) := cell_of_row _ _ _ _ _ _ hs6; have Hm6 := Lib.hid hm6; have Ht6 := Lib.hid ht6; have Hb5 := Lib.hid hb5; clear hm6 ht6 hb5 hs5 hm5 hs6))
      go_wp2_with fail
      have e2 : nextN gk = 2 := by rw [nextN, if_pos (by omega)]
      have hb5 := Hb5.out
      rw [e2] at hb5
      have h5s : X.heap.size ≤ w5.heap.size := by have := hb5.size; simpa using this
      have h56 := Ht6.out.grown
      have hR6 : w6.heap[R]? = some (.cells (rcells (ratS leaf (gk + 1)) ((gk + 1 : Nat) : Int)) 102 (0, 0)) := by
        rw [h56.block R (by omega) (fun e => by have := Option.some.inj e; omega), hb5.block R (show R < X.heap.size by omega)]
        exact setRow_heap _ _ _ _ _ _ ((heap_ne (Ne.symm hRG)).trans HXR.out)
      have hG6 : w6.heap[p.G]? = some (.cells (gcells p { s with cnt := v + 2 }) 72 (0, 0)) := by
        rw [h56.block p.G (by omega) (fun e => by have := Option.some.inj e; omega), hb5.block p.G (show p.G < X.heap.size by omega), setRow_other _ _ _ _ (by omega)]
        exact g_count (w := X.drew) HXG.out _
      have hg6 : w1.grownBy w6 (some p.G) := by
        refine ⟨h56.os.trans (hb5.os.trans (HXg.out.os.trans Hgr.out.os)), h56.tape.trans (hb5.tape.trans (HXg.out.tape.trans Hgr.out.tape)), h56.output.trans (hb5.output.trans (HXg.out.output.trans Hgr.out.output)), by have := Hgr.out.size; have := h56.size; omega, fun b hb hne => ?_⟩
        have hbG : b ≠ p.G := fun e => hne (by rw [e])
        have hb1 : b < wr.heap.size := Nat.lt_of_lt_of_le hb Hgr.out.size
        rw [h56.block b (by omega) (fun e => by have := Option.some.inj e; have := HR.out; omega), hb5.block b (show b < X.heap.size by omega), setRow_other _ _ _ _ (by have := HR.out; omega), heap_ne (Ne.symm hbG)]
        exact (HXg.out.block b hb1 (by simp)).trans (Hgr.out.block b hb hne)
      go_roundw
      case rel =>
        have e3 : nx + (k + 1) = gk + 1 := by rw [Hgk.out]; rfl
        refine ⟨k + 1, v + 2, by omega, by omega, by omega, by rw [e3]; exact hR6, ?_, hg6, hG6⟩
        rw [keysF, ← Hgk.out]
        exact Hm6.out
      case measure =>
        rw [hgen0, genAt_row (ratS_length _ _) hR6]
        omega
    · have hge : gk = gen := by omega
      clear hlt hgg
      subst hge
      have hRG : R ≠ p.G := by omega
      obtain ⟨_, _, x6, _, _, _, _, _⟩ := g_cells HGr.out
      have hnext := next_rat p.G 6 R v wr leaf gk hgt x6 (frozen_of_row _ _ 6 _ _ HGr.out) hvb.1 (by omega) HRr.out hRG
      obtain ⟨g1, hg1⟩ : ∃ g1, g1 = gk + 1 := ⟨_, rfl⟩
      obtain ⟨r2, hr2e⟩ : ∃ r2, r2 = ratS leaf g1 := ⟨_, rfl⟩
      obtain ⟨d2, hd2e⟩ : ∃ d2, d2 = v + nextN gk := ⟨_, rfl⟩
      obtain ⟨key, hkey⟩ : ∃ key, key = keyL leaf gk := ⟨_, rfl⟩
      have hd2b : d1 + 1 ≤ d2 ∧ d2 ≤ d1 + 12 ∧ d2 ≤ d1 + 2 * k + 2 := by rw [hd2e, nextN]; split <;> omega
      have hkeyS : keyS s m gk = key := by rw [hkey, Hlf.out]; rfl
      have hkeyl : key.length = 8 := by rw [hkey]; exact kd_length _ _ _
      have hr2l : r2.length = 8 := by rw [hr2e]; exact ratS_length _ _
      rw [← hg1, ← hr2e, ← hd2e, ← hkey] at hnext
      have Hg1 := Lib.hid hg1
      have Hr2e := Lib.hid hr2e
      have Hkeyl := Lib.hid hkeyl
      have Hr2l := Lib.hid hr2l
      have Hnext := Lib.hid hnext
      have HkeyS := Lib.hid hkeyS
      clear hnext hd2e hg1 hr2e hkey hkeyl hr2l hkeyS x6 s0 s1 hgen0
      go_upto_region 20 with (first
        | (go_at_call 57; refine Hnext.out.mono ?_; rintro e w5 ⟨rfl, hb5⟩; have Hb5 := Lib.hid hb5; clear hb5; go_frame)
        | (refine wpList_store_row rfl 36 _ _ rfl w5.heap.size (cells key) rfl rfl _ _ (heap_alloc_new _ _) (by rw [infoSecret, cells_size, Hkeyl.out]) (by rw [cells_size, Hkeyl.out]; rfl) (cells_one _) ?_; rw [World.setRow_alloc_new]))
      generalize hW3 : World.alloc _ _ = W3
      have hb5 := Hb5.out
      have h5s : wr.heap.size ≤ w5.heap.size := by have := hb5.size; simpa using this
      have hk3 : ∀ b, b < w5.heap.size → W3.heap[b]? = w5.heap[b]? := fun b hb => by rw [← hW3]; exact Below.heap_alloc _ _ _ hb
      have hB3 : W3.heap[w5.heap.size]? = some (.cells (cells key) 36 (0, 0)) := by rw [← hW3]; exact heap_alloc_new _ _
      have hs3 : w5.heap.size < W3.heap.size := (Array.getElem?_eq_some_iff.1 hB3).1
      have ho3 : W3.os = w5.os ∧ W3.tape = w5.tape ∧ W3.output = w5.output := by rw [← hW3]; exact ⟨rfl, rfl, rfl⟩
      have hG3 : W3.heap[p.G]? = some (.cells (gcells p { s with cnt := d2 }) 72 (0, 0)) := by
        rw [hk3 _ (by omega), hb5.block p.G hGlt, setRow_other _ _ _ _ (by omega)]
        exact g_count HGr.out _
      have hR3 : W3.heap[R]? = some (.cells (rcells r2 g1) 102 (0, 0)) := by
        rw [hk3 _ (by omega), hb5.block R hRs]
        exact setRow_heap _ _ _ _ _ _ ((heap_ne (Ne.symm hRG)).trans HRr.out)
      have hm3 : mapAt W3 Tryz.prog 104 (R + 1) k (keysF leaf m nx k) := mapAt_same Hmap.out (by rw [hk3 _ (by omega), hb5.block (R + 1) hOs, setRow_other _ _ _ _ (by omega), heap_ne (by omega)])
      have hS3 : W3.heap[w.heap.size]? = some (.cells #[.int .i64 m, .int .i64 gk] 104 (0, 0)) := by
        rw [hk3 _ (by omega), hb5.block w.heap.size (by omega), setRow_other _ _ _ _ (by omega), heap_ne (by omega)]
        exact HgS.out
      have h13 : ∀ b, b < w1.heap.size → b ≠ p.G → W3.heap[b]? = w1.heap[b]? := fun b hb hbG => by
        have hbr : b < wr.heap.size := Nat.lt_of_lt_of_le hb Hgr.out.size
        rw [hk3 _ (by omega), hb5.block b hbr, setRow_other _ _ _ _ (by have := HR.out; omega), heap_ne (Ne.symm hbG)]
        exact Hgr.out.block b hb (fun e => hbG (Option.some.inj e))
      have hw13 : ∀ b, b < w.heap.size → b ≠ p.G → W3.heap[b]? = w.heap[b]? := fun b hb hbG => (h13 b (by omega) hbG).trans ((HBw.out.block b (by simpa using hb)).trans (heap_ne (Ne.symm hbG)))
      have hoo : W3.os = w.os ∧ W3.tape = w.tape ∧ W3.output = w.output := ⟨ho3.1.trans (hb5.os.trans (Hgr.out.os.trans HBw.out.os)), ho3.2.1.trans (hb5.tape.trans (Hgr.out.tape.trans HBw.out.tape)), ho3.2.2.trans (hb5.output.trans (Hgr.out.output.trans HBw.out.output))⟩
      have hrd1 : Rd W3.drew v1 head := Hr1.out.apart fun b o hb hl => hw13 b (Hap1.out b o hb hl).1 (Hap1.out b o hb hl).2.1
      have hrd2 : Rd W3.drew (some ⟨b3, o3, none⟩) sl := Hr2.out.apart fun b o hb hl => by
        cases hb
        exact hw13 b3 Hap2.out.1 Hap2.out.2.1
      have hd2c : 0 ≤ d2 ∧ d2 ≤ 4611686018426000000 := by omega
      obtain ⟨_, _, c6, _, _, _, _, _⟩ := g_cells hG3
      have c6f := frozen_of_row _ _ 6 _ _ hG3
      obtain ⟨a0, a1, a2, a3, a4, a5, a6, a7, hk8⟩ := eight Hkeyl.out
      obtain ⟨e0, e1, e2, e3, e4, e5, e6, e7⟩ := eight_cells' hk8 hB3
      have Hck : Hid (#[Value.int .u8 a0.toNat, .int .u8 a1.toNat, .int .u8 a2.toNat, .int .u8 a3.toNat, .int .u8 a4.toNat, .int .u8 a5.toNat, .int .u8 a6.toNat, .int .u8 a7.toNat] = cells key) := Lib.hid (by rw [hk8]; rfl)
      have Hk8 := Lib.hid hk8
      have HB3 := Lib.hid hB3
      have HG3 := Lib.hid hG3
      have HR3 := Lib.hid hR3
      have Hm3 := Lib.hid hm3
      have HS3 := Lib.hid hS3
      have H13 := Lib.hid h13
      have Hw13 := Lib.hid hw13
      have Hoo := Lib.hid hoo
      have Hrd1 := Lib.hid hrd1
      have Hrd2 := Lib.hid hrd2
      have Hn : Hid (head.length ≤ 9223372036854775807 ∧ sl.length ≤ 65540 ∧ 4 ≤ sl.length ∧ sl.length ≤ c2) := Lib.hid ⟨by omega, by omega, by omega, by omega⟩
      clear hk8 hB3 hG3 hR3 hm3 hS3 h13 hw13 hoo hrd1 hrd2 hW3 hb5 hk3 ho3
      have hKG : w5.heap.size ≠ p.G := by omega
      cases hop : opensB key head sl with
      | false =>
        have Hop := Lib.hid hop
        clear hop
        go_region_held3 (fun w' => w'.cell? ⟨w5.heap.size, 0, none⟩ = some (.int .u8 a0.toNat) ∧ w'.cell? ⟨w5.heap.size, 1, none⟩ = some (.int .u8 a1.toNat) ∧ w'.cell? ⟨w5.heap.size, 2, none⟩ = some (.int .u8 a2.toNat) ∧ w'.cell? ⟨w5.heap.size, 3, none⟩ = some (.int .u8 a3.toNat) ∧ w'.cell? ⟨w5.heap.size, 4, none⟩ = some (.int .u8 a4.toNat) ∧ w'.cell? ⟨w5.heap.size, 5, none⟩ = some (.int .u8 a5.toNat) ∧ w'.cell? ⟨w5.heap.size, 6, none⟩ = some (.int .u8 a6.toNat) ∧ w'.cell? ⟨w5.heap.size, 7, none⟩ = some (.int .u8 a7.toNat))
          (refine ⟨?_, ?_, ?_, ?_, ?_, ?_, ?_, ?_⟩ <;> (first | with_reducible assumption | (simp only [World.cell?_drew]; with_reducible assumption)))
          (first | (go_at_call 95; rw [Hck.out]; go_must (refine (open_miss p.G 6 d2 W3.drew key v1 b3 o3 c1 c2 n1 n2 head sl hn1 hn2 Hkeyl.out ?_ ?_ hd2c.1 hd2c.2 Hn.out.1 Hrd1.out Hn.out.2.1 Hn.out.2.2.1 Hn.out.2.2.2 Hrd2.out Hop.out).mono ?_); (first | exact c6 | (simp only [World.cell?_drew]; exact c6)); (first | exact c6f | (simp only [World.frozen?_drew]; exact c6f)); rintro e w6 ⟨rfl, hb6⟩; go_must (have hK6 := cnt_row hb6 (show W3.drew.heap[w5.heap.size]? = _ from HB3.out) hKG); go_must (obtain ⟨k0, k1, k2, k3, k4, k5, k6, k7⟩ := eight_cells' Hk8.out hK6); have Hb6 := Lib.hid hb6; clear hK6 hb6))
        have h6s : W3.heap.size ≤ w6.heap.size := cnt_size (w := W3.drew) Hb6.out
        have hm6 : mapAt w6 Tryz.prog 104 (R + 1) k (keysF leaf m nx k) := mapAt_same Hm3.out (cnt_other (w := W3.drew) Hb6.out (show R + 1 < W3.heap.size by omega) (by omega))
        have Hm6 := Lib.hid hm6
        clear hm6 e0 e1 e2 e3 e4 e5 e6 e7 k0 k1 k2 k3 k4 k5 k6 k7
        obtain ⟨w7, hrun7, hm7, ht7⟩ := mapAt_clear Hm6.out Tryz.underlying53 0
        have Ht7 := Lib.hid ht7.grown
        clear hm7 ht7
        go_wp2_with fail
        go_ret2
        rw [HkeyS.out, Hop.out]
        have hk7 : ∀ b, b < w1.heap.size → b ≠ p.G → w7.heap[b]? = w1.heap[b]? := fun b hb hbG => by
          rw [Ht7.out.block b (by have := HR.out; omega) (fun e => by have := Option.some.inj e; have := HR.out; omega), cnt_other (w := W3.drew) Hb6.out (show b < W3.heap.size by have := HR.out; omega) hbG]
          exact H13.out b hb hbG
        have hG7 : w7.heap[p.G]? = some (.cells (gcells p { s with cnt := d2 + 1 }) 72 (0, 0)) := by
          rw [Ht7.out.block p.G (by omega) (fun e => by have := Option.some.inj e; omega), Hb6.out.block p.G (show p.G < W3.heap.size by omega)]
          exact g_count (w := W3.drew) HG3.out _
        have hkw : ∀ b, b < w.heap.size → b ≠ p.G → w7.heap[b]? = w.heap[b]? := fun b hb hbG => (hk7 b (by omega) hbG).trans ((HBw.out.block b (by simpa using hb)).trans (heap_ne (Ne.symm hbG)))
        obtain ⟨hlG, hlH, hlK, hHK⟩ := Hlo.out
        refine ⟨d2 + 1, by omega, by have := Hgk.out; have := Hnx.out; omega, rfl, ⟨hG7, ?_, ⟨f, mapAt_same HH.out.1 (hkw _ (mapAt_lt HH.out.1) (Ne.symm (g_ne_map HG.out HH.out.1))), HH.out.2⟩, ⟨f2, mapAt_same HK.out.1 (hkw _ (mapAt_lt HK.out.1) (Ne.symm (g_ne_map HG.out HK.out.1))), HK.out.2⟩, hlG, hlH, hlK, hHK⟩, ⟨?_, ?_, ?_, ?_, ?_⟩⟩
        · exact ownsRow_blk HT.out fun b hb => hkw b (HT.out.lt b hb).2 (fun h => tree_ne HT.out HG.out (by rw [hb, h]))
        · exact Ht7.out.os.trans (Hb6.out.os.trans Hoo.out.1)
        · exact Ht7.out.tape.trans (Hb6.out.tape.trans Hoo.out.2.1)
        · exact Ht7.out.output.trans (Hb6.out.output.trans Hoo.out.2.2)
        · have := Ht7.out.size; omega
        · intro b hb h1 _ _ _
          exact hkw b hb h1
      | true =>
        have Hop := Lib.hid hop
        clear hop
        go_region_held3 (fun w' => w'.cell? ⟨w5.heap.size, 0, none⟩ = some (.int .u8 a0.toNat) ∧ w'.cell? ⟨w5.heap.size, 1, none⟩ = some (.int .u8 a1.toNat) ∧ w'.cell? ⟨w5.heap.size, 2, none⟩ = some (.int .u8 a2.toNat) ∧ w'.cell? ⟨w5.heap.size, 3, none⟩ = some (.int .u8 a3.toNat) ∧ w'.cell? ⟨w5.heap.size, 4, none⟩ = some (.int .u8 a4.toNat) ∧ w'.cell? ⟨w5.heap.size, 5, none⟩ = some (.int .u8 a5.toNat) ∧ w'.cell? ⟨w5.heap.size, 6, none⟩ = some (.int .u8 a6.toNat) ∧ w'.cell? ⟨w5.heap.size, 7, none⟩ = some (.int .u8 a7.toNat))
          (refine ⟨?_, ?_, ?_, ?_, ?_, ?_, ?_, ?_⟩ <;> (first | with_reducible assumption | (simp only [World.cell?_drew]; with_reducible assumption)))
          (first | (go_at_call 95; rw [Hck.out]; go_must (refine (open_hit p.G 6 d2 W3.drew key v1 b3 o3 c1 c2 n1 n2 head sl hn1 hn2 Hkeyl.out ?_ ?_ hd2c.1 hd2c.2 Hn.out.1 Hrd1.out Hn.out.2.1 Hn.out.2.2.1 Hn.out.2.2.2 Hrd2.out Hop.out).mono ?_); (first | exact c6 | (simp only [World.cell?_drew]; exact c6)); (first | exact c6f | (simp only [World.frozen?_drew]; exact c6f)); rintro e w6 ⟨r, rfl, ho6, hb6⟩; go_must (have hK6 := cnt_row hb6 (show W3.drew.heap[w5.heap.size]? = _ from HB3.out) hKG); go_must (obtain ⟨k0, k1, k2, k3, k4, k5, k6, k7⟩ := eight_cells' Hk8.out hK6); have Hb6 := Lib.hid hb6; have Ho6 := Lib.hid ho6; clear hK6 hb6 ho6))
        clear e0 e1 e2 e3 e4 e5 e6 e7 k0 k1 k2 k3 k4 k5 k6 k7
        have h6s : W3.heap.size ≤ w6.heap.size := cnt_size (w := W3.drew) Hb6.out
        obtain ⟨d3, hd3⟩ : ∃ d3, d3 = d2 + 1 + (((n2 - 4 + 7) / 8 : Nat) : Int) := ⟨_, rfl⟩
        have hG6 : w6.heap[p.G]? = some (.cells (gcells p { s with cnt := d3 }) 72 (0, 0)) := by
          rw [Hb6.out.block p.G (show p.G < W3.heap.size by omega), hd3]
          exact g_count (w := W3.drew) HG3.out _
        have k6 : ∀ b, b < W3.heap.size → b ≠ p.G → w6.heap[b]? = W3.heap[b]? := fun b hb hbG => cnt_other (w := W3.drew) Hb6.out hb hbG
        have hR6 := (k6 R (by omega) hRG).trans HR3.out
        have hm6 := mapAt_same Hm3.out (k6 (R + 1) (by omega) (by omega))
        have hS6 := (k6 w.heap.size (by omega) (by omega)).trans HS3.out
        have h16' : ∀ b, b < w1.heap.size → b ≠ p.G → w6.heap[b]? = w1.heap[b]? := fun b hb hbG => (k6 b (by have := HR.out; omega) hbG).trans (H13.out b hb hbG)
        have hw16 : ∀ b, b < w.heap.size → b ≠ p.G → w6.heap[b]? = w.heap[b]? := fun b hb hbG => (k6 b (by omega) hbG).trans (Hw13.out b hb hbG)
        have hGH := g_ne_map HG.out HH.out.1
        have hGK := g_ne_map HG.out HK.out.1
        have hHs := mapAt_lt HH.out.1
        have hKs := mapAt_lt HK.out.1
        obtain ⟨hlG, hlH, hlK, hHK⟩ := Hlo.out
        have hT6 : w6.ownsRow lo 49 10 p.T (treeL s).length (lcells (treeL s)) := ownsRow_blk HT.out fun b hb => hw16 b (HT.out.lt b hb).2 (fun h => tree_ne HT.out HG.out (by rw [hb, h]))
        obtain ⟨at0, ct0, hpT⟩ := (SliceR.of_own HT.out).form
        have hH6 := mapAt_same HH.out.1 (hw16 _ hHs (Ne.symm hGH))
        have hcom := commit_any w6 lo t m p { s with cnt := d3 } f r2 g1 at0 at1 (treeL s).length (treeU s m).length ct0 ct1 _ Hr2l.out hG6 hH6 (by unfold maxLen; omega) (by omega) hpT hT6 (tree_ne hT6 hG6) (tree_ne_map hT6 hH6)
        have Hcom := Lib.hid hcom
        have hrow9 : (rcells r2 g1).size = 9 := rcells_size _ _ Hr2l.out
        have y0 : w6.cell? ⟨w.heap.size, 0, none⟩ = some (.int .i64 m) := cell_of_row _ _ _ _ _ _ hS6
        have HR6 := Lib.hid hR6
        have Hm6 := Lib.hid hm6
        have HS6 := Lib.hid hS6
        have H16 := Lib.hid h16'
        have Hw16 := Lib.hid hw16
        have HG6 := Lib.hid hG6
        have HpT := Lib.hid hpT
        have Hd3 := Lib.hid hd3
        have hkt : t + k ≤ 10000000000000 := by omega
        have htk := hkt
        have hm16 : m ≤ 16 := by omega
        have hG6s : p.G < w6.heap.size := by omega
        have hS6s : w.heap.size < w6.heap.size := by omega
        have hKS : w.heap.size ≠ p.K := by omega
        have hKR : p.K ≠ R + 1 := by omega
        have hg0 := hg
        have hg50 := hg5
        have HK6 := Lib.hid (mapAt_same HK.out.1 (hw16 _ hKs (Ne.symm hGK)))
        have hTK6 : ∀ b, p.T.ownBlock = some b → b < w.heap.size := fun b hb => (HT.out.lt b hb).2
        have hTKne : p.T.ownBlock ≠ some p.K := tree_ne_map HT.out HK.out.1
        have Hkeep : Hid (∀ w7 : World, (∀ b, b < w6.heap.size → b ≠ p.G → b ≠ p.H → ((treeU s m).length = (treeL s).length ∨ p.T.ownBlock ≠ some b) → w7.heap[b]? = w6.heap[b]?) → w7.heap[p.K]? = w6.heap[p.K]? ∧ w7.heap[R + 1]? = w6.heap[R + 1]? ∧ w7.heap[w.heap.size]? = w6.heap[w.heap.size]?) := Lib.hid fun w7 h7 =>
          ⟨h7 _ (by omega) (Ne.symm hGK) (Ne.symm hHK) (.inr hTKne), h7 _ (by omega) (by omega) (by omega) (.inr fun e => by have := hTK6 _ e; omega), h7 _ (by omega) (by omega) (by omega) (.inr fun e => by have := hTK6 _ e; omega)⟩
        have Hmet : Hid ((fun kl => (keysF leaf m nx k kl).or (f2 kl)) = metF s f2 m gk) := Lib.hid (by
          have e : gk - nx = k := by rw [Hgk.out]; omega
          rw [← e, Hlf.out, Hnx.out]; rfl)
        have HTK6 := Lib.hid hTK6
        clear hcom hd3 hG6 hTK6 hTKne k6 hR6 hm6 hS6 h16' hw16 hT6 hpT hH6
        go_upto_region 24 with (fail)
        go_wp2_with (first
          | (refine wpList_load_row rfl 102 _ rfl R rfl _ (rcells r2 g1) _ _ HR6.out Tryz.underlying102 rfl (by rw [infoRatchet, hrow9]) ?_)
          | (go_at_call 58; refine Hcom.out.mono ?_; rintro e w7 ⟨rfl, hG7, hH7, o1, o2, o3, hs7, hk7⟩; go_must (have hKb := Hkeep.out w7 hk7); go_must (have hK7 := mapAt_same HK6.out hKb.1); go_must (have hm7 := mapAt_same Hm6.out hKb.2.1); go_must (have hS7 := hKb.2.2.trans HS6.out); have z0 : w7.cell? ⟨w.heap.size, 0, none⟩ = some (.int .i64 m) := cell_of_row _ _ _ _ _ _ hS7; obtain ⟨_, _, _, _, _, _, _, z11⟩ := g_cells (p := { p with T := .slice at1 (treeU s m).length ct1 }) hG7; have HG7 := Lib.hid hG7; have HS7 := Lib.hid hS7; have HH7 := Lib.hid hH7; have Hk7 := Lib.hid hk7; have HK7 := Lib.hid hK7; have Hm7 := Lib.hid hm7; have Ho7 := Lib.hid (And.intro o1 (And.intro o2 o3)); clear hKb hG7 hH7 hk7 o1 o2 o3 hK7 hm7 hS7; go_frame)
          | (go_at_call 96; go_must (refine (copy_any w7 p.K (R + 1) t k f2 (keysF leaf m nx k) HK7.out Hm7.out hKR hkt (fun kl v h => keysF_sec leaf m nx kl v k h)).mono ?_); rintro e w8 ⟨rfl, hm8, hg8⟩; go_must (have hG8 := (hg8.block p.G (Nat.lt_of_lt_of_le hG6s hs7) (fun e => hGK (Option.some.inj e))).trans HG7.out); go_must (have hS8 := (hg8.block w.heap.size (Nat.lt_of_lt_of_le hS6s hs7) (fun e => hKS (Option.some.inj e))).trans HS7.out); have t0 : w8.cell? ⟨w.heap.size, 0, none⟩ = some (.int .i64 m) := cell_of_row _ _ _ _ _ _ hS8; have HG8 := Lib.hid hG8; have Hm8 := Lib.hid hm8; have Hg8 := Lib.hid hg8; clear hG8 hS8 hm8 hg8; go_frame)
          | (go_at_call 97; go_must (refine (trim_any w8 { p with T := .slice at1 (treeU s m).length ct1 } { s with cnt := d3 } (t + k) m (metF s f2 m gk) (allG s m gk) HG8.out (Hmet.out ▸ Hm8.out) htk hm16 (allG_rise s m gk hI) (fun g hg => met_some HK.out.2 hc m gk g hm (by omega) (by rw [← Hnx.out]; exact hg0) hgt hg) (fun g hg => by have := allG_le s m gk hI (by rw [← Hnx.out]; exact hg0) g hg; omega) (by have := allG_len s m gk hI (by rw [← Hnx.out]; exact hg50); omega) (fun kl h => by obtain ⟨i, g, h1, h2, h3⟩ := met_dom HK.out.2 m gk hm (by rw [← Hnx.out]; exact hg0) hgt kl h; exact ⟨i, g, by omega, h2, h3⟩)).mono ?_); rintro e w9 ⟨rfl, hm9, hg9⟩; have Hm9 := Lib.hid hm9; have Hg9 := Lib.hid hg9; clear hm9 hg9; go_frame))
        go_ret2
        rw [HkeyS.out, Hop.out]
        have hs7' : w6.heap.size ≤ w7.heap.size := hs7
        have hs8 := Hg8.out.size
        have hs9 := Hg9.out.size
        have hk9 : ∀ b, b < w7.heap.size → b ≠ p.K → w9.heap[b]? = w7.heap[b]? := fun b hb hbK =>
          (Hg9.out.block b (by omega) (fun e => hbK (Option.some.inj e))).trans (Hg8.out.block b hb (fun e => hbK (Option.some.inj e)))
        have hTG : ∀ b, (Value.slice at1 (treeU s m).length ct1).ownBlock = some b → b ≠ p.G := fun b hb h => tree_ne (p := p) (s := { s with cnt := d1 }) Ho1.out HG1.out (by rw [hb, h])
        have hTHK : ∀ b, (Value.slice at1 (treeU s m).length ct1).ownBlock = some b → b ≠ p.H ∧ b ≠ p.K ∧ ((treeU s m).length = (treeL s).length ∨ p.T.ownBlock ≠ some b) := fun b hb => by
          rcases Htn.out with e | e
          · have hlen : (treeU s m).length = (treeL s).length := by
              rw [HpT.out] at e
              injection e
            rw [e] at hb
            exact ⟨fun h => tree_ne_map HT.out HH.out.1 (by rw [hb, h]), fun h => tree_ne_map HT.out HK.out.1 (by rw [hb, h]), .inl hlen⟩
          · have hbW : W.heap.size ≤ b := e b hb
            exact ⟨by omega, by omega, .inr fun h => by have := HTK6.out b h; omega⟩
        have hT6' : w6.ownsRow lo 49 10 (.slice at1 (treeU s m).length ct1) (treeU s m).length (lcells (treeU s m)) := ownsRow_blk Ho1.out fun b hb => H16.out b (Ho1.out.lt b hb).2 (hTG b hb)
        have hT9 : w9.ownsRow lo 49 10 (.slice at1 (treeU s m).length ct1) (treeU s m).length (lcells (treeU s m)) := ownsRow_blk hT6' fun b hb => by
          have hlt := (hT6'.lt b hb).2
          obtain ⟨h1, h2, h3⟩ := hTHK b hb
          exact (hk9 b (by omega) h2).trans (Hk7.out b hlt (hTG b hb) h1 h3)
        have hkw : ∀ b, b < w.heap.size → b ≠ p.G → b ≠ p.H → b ≠ p.K → p.T.ownBlock ≠ some b → w9.heap[b]? = w.heap[b]? := fun b hb h1 h2 h3 h4 => (hk9 b (by omega) h3).trans ((Hk7.out b (by omega) h1 h2 (.inr h4)).trans (Hw16.out b hb h1))
        have hd3 := Hd3.out
        refine ⟨d3, by omega, by have := Hgk.out; have := Hnx.out; omega, r, rfl, ?_, .slice at1 (treeU s m).length ct1, ⟨?_, ?_, ⟨_, mapAt_mono (mapAt_same HH7.out (hk9 p.H (by omega) hHK)) (by omega), ?_⟩, ⟨_, mapAt_mono Hm9.out (by omega), ?_⟩, hlG, hlH, hlK, hHK⟩, ⟨?_, ?_, ?_, ?_, hkw⟩, ?_⟩
        · have h6 : w6.ownsRow W3.heap.size 5 1 r (n2 - 4) (cells (openT key sl)).toList := Ho6.out
          refine ownsRow_mono (ownsRow_blk h6 fun b hb => ?_) (show w.heap.size ≤ W3.heap.size by omega)
          have hbb := h6.lt b hb
          exact (hk9 b (by omega) (by omega)).trans (Hk7.out b hbb.2 (by omega) (by omega) (.inr fun h => by have := HTK6.out b h; omega))
        · exact (hk9 p.G (by omega) hGK).trans HG7.out
        · rw [treeL_open s m gk _ hc]; exact hT9
        · exact head_open HH.out.2 hc m gk hm _ Hg1.out (by rw [Hr2e.out, Hlf.out])
        · exact kept_open HK.out.2 hI hc m gk hm (by rw [← Hnx.out]; exact hg0) hgt _
        · exact Hg9.out.os.trans (Hg8.out.os.trans (Ho7.out.1.trans (Hb6.out.os.trans Hoo.out.1)))
        · exact Hg9.out.tape.trans (Hg8.out.tape.trans (Ho7.out.2.1.trans (Hb6.out.tape.trans Hoo.out.2.1)))
        · exact Hg9.out.output.trans (Hg8.out.output.trans (Ho7.out.2.2.trans (Hb6.out.output.trans Hoo.out.2.2)))
        · omega
        · rcases Htn.out with e | e
          · exact .inl e
          · exact .inr fun b hb => by have : W.heap.size ≤ b := e b hb; omega
end Go.Proofs.YtccidllcjaaeeabGreatDoor
/- A group's open, whichever way it goes. Conditions: the group lies and reads as its state; what was sealed reads, apart from the group. -/
namespace Go.Proofs.YtccidllcjaaeeabGreatDoor
set_option maxRecDepth 100000
open Go Go.Maps Go.RowKit
open Go.Shelf Go.Lib Go.Sort
/-- Which fault opening meets, if any. -/
def openC (s : GSt) (m gen : Nat) (head sl : List UInt8) : Option Int :=
  if gen < (s.M m).next then (if gen ∈ (s.M m).over then (if opensB (keyS s m gen) head sl = true then none else some 7) else some 5)
  else if (s.M m).next + 5 < gen then some 6 else if opensB (keyS s m gen) head sl = true then none else some 7
/-- The state behind what opened. -/
def openN (s : GSt) (m gen : Nat) (c : Int) : GSt := if gen < (s.M m).next then delS s m gen c else openS s m gen c
def OpenE (o : Option Int) (A : Prop) (B : Int → Prop) : Prop := match o with
  | none => A
  | some c => B c
theorem group_cnt {w w' : World} {lo t : Nat} {p : GPl} {s : GSt} {c : Int} (h : GroupAt w lo p s t) (hb : Below w.heap.size (w.setCell ⟨p.G, 6, none⟩ (.int .i64 c)) w') : GroupAt w' lo p { s with cnt := c } t ∧ Frm w w' p := by
  obtain ⟨hG, hT, ⟨f, hH, hf⟩, ⟨f2, hK, hf2⟩, h5⟩ := h
  have hGs := (Array.getElem?_eq_some_iff.1 hG).1
  have hk : ∀ b, b < w.heap.size → b ≠ p.G → w'.heap[b]? = w.heap[b]? := fun b hb' hne => cnt_other hb hb' hne
  refine ⟨⟨?_, ?_, ⟨f, mapAt_same hH (hk _ (mapAt_lt hH) (Ne.symm (g_ne_map hG hH))), hf⟩, ⟨f2, mapAt_same hK (hk _ (mapAt_lt hK) (Ne.symm (g_ne_map hG hK))), hf2⟩, h5⟩, ⟨hb.os, hb.tape, hb.output, cnt_size hb, fun b hb' h1 _ _ _ => hk b hb' h1⟩⟩
  · rw [hb.block _ (by simpa using hGs)]; exact g_count hG c
  · exact ownsRow_blk hT fun b hb' => hk b (hT.lt b hb').2 (fun e => tree_ne hT hG (by rw [hb', e]))
theorem inv_del {s : GSt} (hI : GInv s) (m gen : Nat) (c : Int) : GInv (delS s m gen c) := by
  have e : ∀ i, i ≠ m → (delS s m gen c).M i = s.M i := fun i hi => if_neg hi
  have e2 : (delS s m gen c).M m = { s.M m with over := (s.M m).over.filter (fun g => g != gen) } := if_pos rfl
  refine ⟨hI.n16, hI.own, hI.root, fun i => ?_, fun i => ?_, fun i => ?_, fun i => ?_, fun i => ?_⟩
  all_goals
    by_cases hi : i = m
    · subst hi
      rw [e2]
      first
        | exact hI.next i
        | (intro g h; exact hI.over i g (List.mem_filter.1 h).1)
        | exact (hI.rise i).sublist List.filter_sublist
        | exact Nat.le_trans (List.length_filter_le _ _) (hI.four i)
        | (intro h; obtain ⟨a, b⟩ := hI.none i h; exact ⟨a, by rw [b]; rfl⟩)
    · rw [e i hi]
      first
        | exact hI.next i
        | exact hI.over i
        | exact hI.rise i
        | exact hI.four i
        | exact hI.none i
theorem inv_openN {s : GSt} (hI : GInv s) (m gen : Nat) (c : Int) (hg : gen ≤ 65535) : GInv (openN s m gen c) := by
  unfold openN
  split
  · exact inv_del hI m gen c
  · exact inv_open hI m gen c (by omega) hg
theorem inv_cnt {s : GSt} (hI : GInv s) (c : Int) : GInv { s with cnt := c } := ⟨hI.n16, hI.own, hI.root, hI.next, hI.over, hI.rise, hI.four, hI.none⟩
theorem openN_own (s : GSt) (m gen : Nat) (c : Int) : (openN s m gen c).root = s.root ∧ (openN s m gen c).n = s.n ∧ (openN s m gen c).own = s.own ∧ (openN s m gen c).closed = s.closed ∧ (openN s m gen c).cnt = c := by
  unfold openN
  split <;> exact ⟨rfl, rfl, rfl, rfl, rfl⟩
/-- How many secrets an opening derives. -/
structure Tight (s : GSt) (m gen len : Nat) (o : Option Int) (c' : Int) : Prop where
  le : c' ≤ s.cnt + 2 * depthF 16 s.n m + 4 + 2 * (gen - (s.M m).next : Nat) + ((len + 7) / 8 : Nat)
  up : o = none → s.cnt < c'
  same : ∀ x, o = some x → x ≠ 7 → c' = s.cnt
theorem open_all (w : World) (lo t m gen : Nat) (p : GPl) (s : GSt) (v1 : Option Addr) (b3 o3 n1 c1 n2 c2 : Nat) (head sl : List UInt8) (hA : GroupAt w lo p s t) (hI : GInv s) (hc : s.closed = false) (hm : m < s.n) (hgt : gen ≤ 65535) (hb0 : 0 ≤ s.cnt) (hb1 : s.cnt ≤ 4611686010000000000) (ht : t < 1000000000000)
    (hn1 : head.length = n1) (hn2 : sl.length = n2) (h3 : n1 ≤ 1000) (h4 : 4 ≤ n2) (h40 : n2 ≤ 1000) (hc2 : n2 ≤ c2) (hr1 : Rd w v1 head) (hr2 : Rd w (some ⟨b3, o3, none⟩) sl) (hap1 : ∀ b o, v1 = some ⟨b, o, none⟩ → 0 < head.length → b < w.heap.size ∧ Apart p b) (hap2 : b3 < w.heap.size ∧ Apart p b3) :
    Calls Tryz.prog 64 #[.pointer (some ⟨p.G, 0, none⟩), .agg #[.int .i64 m, .int .i64 gen], .slice v1 n1 c1, .slice (some ⟨b3, o3, none⟩) n2 c2] w fun e w' => ∃ c' : Int, s.cnt ≤ c' ∧ (c' ≤ s.cnt + 2 * depthF 16 s.n m + 15 + ((n2 - 4 + 7) / 8 : Nat) ∧ Tight s m gen (n2 - 4) (openC s m gen head sl) c') ∧ OpenE (openC s m gen head sl)
      (∃ r, e = .returned (.tuple #[r, .nilIface]) ∧ w'.ownsRow w.heap.size 5 1 r (n2 - 4) (cells (openT (keyS s m gen) sl)).toList ∧ ∃ T', GroupAt w' lo { p with T := T' } (openN s m gen c') (t + 5) ∧ Frm w w' p ∧ TreeNew w p.T T')
      (fun c => e = .returned (.tuple #[.slice none 0 0, .iface 138 (.agg #[.int .i64 c])]) ∧ GroupAt w' lo p { s with cnt := c' } t ∧ Frm w w' p) := by
  unfold openC openN
  by_cases hg : gen < (s.M m).next
  · simp only [if_pos hg]
    by_cases hgo : gen ∈ (s.M m).over
    · rw [if_pos hgo]
      cases hop : opensB (keyS s m gen) head sl with
      | true =>
        refine (open_kept_ok w lo t m gen p s v1 b3 o3 n1 c1 n2 c2 head sl hA hI hc hm hg hgo hb0 hb1 hn1 hn2 h3 h4 h40 hc2 hr1 hr2 hap1 hap2 hop).mono ?_
        rintro e w' ⟨r, rfl, ho, hA', hF⟩
        exact ⟨_, by omega, ⟨by omega, ⟨by omega, fun _ => by omega, fun x e => by cases e⟩⟩, r, rfl, ho, p.T, ⟨hA'.1, hA'.2.1, let ⟨f, a, b⟩ := hA'.2.2.1; ⟨f, mapAt_mono a (by omega), b⟩, let ⟨f, a, b⟩ := hA'.2.2.2.1; ⟨f, mapAt_mono a (by omega), b⟩, hA'.2.2.2.2⟩, hF, .inl rfl⟩
      | false =>
        refine (open_kept_no w lo t m gen p s v1 b3 o3 n1 c1 n2 c2 head sl hA hI hc hm hg hgo hb0 hb1 hn1 hn2 h3 h4 h40 hc2 hr1 hr2 hap1 hap2 hop).mono ?_
        rintro e w' ⟨rfl, hb⟩
        obtain ⟨a, b⟩ := group_cnt hA hb
        exact ⟨s.cnt + 1, by omega, ⟨by omega, ⟨by omega, (fun e => by cases e), (fun x e h => by cases e; exact absurd rfl h)⟩⟩, rfl, a, b⟩
    · rw [if_neg hgo]
      refine (open_spent w lo t m gen p s v1 (some ⟨b3, o3, none⟩) n1 c1 n2 c2 hA hI hc hm hg hgo).mono ?_
      rintro e w' ⟨rfl, hb⟩
      exact ⟨s.cnt, by omega, ⟨by omega, ⟨by omega, (fun e => by cases e), fun _ _ _ => rfl⟩⟩, rfl, group_below hA hb, Frm.of_below hb⟩
  · simp only [if_neg hg]
    by_cases hf : (s.M m).next + 5 < gen
    · rw [if_pos hf]
      refine (open_far w lo t m gen p s v1 (some ⟨b3, o3, none⟩) n1 c1 n2 c2 hA hI hc hm hf hgt).mono ?_
      rintro e w' ⟨rfl, hb⟩
      exact ⟨s.cnt, by omega, ⟨by omega, ⟨by omega, (fun e => by cases e), fun _ _ _ => rfl⟩⟩, rfl, group_below hA hb, Frm.of_below hb⟩
    · rw [if_neg hf]
      refine (open_ahead w lo t m gen p s v1 b3 o3 n1 c1 n2 c2 head sl hA hI hc hm (by omega) (by omega) hgt hb0 hb1 ht hn1 hn2 h3 h4 h40 hc2 hr1 hr2 hap1 hap2).mono ?_
      rintro e w' ⟨c', h1, h2, h⟩
      cases hop : opensB (keyS s m gen) head sl with
      | true =>
        rw [hop] at h
        obtain ⟨r, T', rfl, ho, hA', hF, hT⟩ := h
        exact ⟨c', by omega, ⟨by omega, ⟨by omega, fun _ => h1, fun x e => by cases e⟩⟩, r, rfl, ho, T', hA', hF, hT⟩
      | false =>
        rw [hop] at h
        obtain ⟨rfl, hA', hF⟩ := h
        exact ⟨c', by omega, ⟨by omega, ⟨by omega, (fun e => by cases e), (fun x e h => by cases e; exact absurd rfl h)⟩⟩, rfl, hA', hF⟩
end Go.Proofs.YtccidllcjaaeeabGreatDoor
