/- The walk of (tree.Tree).Split: the tree without a member's leaf, and the leaf. Conditions: the slice reads as at most 16 parts of at most 16 members, each secret has eight bytes, the counter is not frozen. -/
import Derived.Test.YtccidllcjaaeeaaTreeIdx
import Derived.Maps.AppendAt
import Derived.IntWalk
import Derived.Test.YtccidllcjaaeeaaLaws
namespace Go.Proofs.Ytccidllcjaaeeaa
open Go.RowKit
open Go.Shelf Go.Lib Go.Sort
structure Desc where
  p : TPart
  bf : List TPart
  bh : List TPart
  n : Nat
def descF : Nat → TPart → Nat → List TPart → List TPart → Nat → Desc
  | 0, p, _, bf, bh, n => ⟨p, bf, bh, n⟩
  | d + 1, p, m, bf, bh, n => if p.b - p.a ≤ 1 then ⟨p, bf, bh, n⟩ else if hasB (pL p) m then descF d (pL p) m bf (bh ++ [pR p]) (n + 1) else descF d (pR p) m (bf ++ [pL p]) bh (n + 1)
def desc (p : TPart) (m : Nat) : Desc := descF 16 p m [] [] 0
theorem descF_stop (d : Nat) (p : TPart) (m : Nat) (bf bh : List TPart) (n : Nat) (h : p.b - p.a ≤ 1) : descF d p m bf bh n = ⟨p, bf, bh, n⟩ := by
  cases d with
  | zero => rfl
  | succ d => rw [descF, if_pos h]
theorem descF_left (d : Nat) (p : TPart) (m : Nat) (bf bh : List TPart) (n : Nat) (h : ¬ p.b - p.a ≤ 1) (hl : hasB (pL p) m = true) : descF (d + 1) p m bf bh n = descF d (pL p) m bf (bh ++ [pR p]) (n + 1) := by
  rw [descF, if_neg h, if_pos hl]
theorem descF_right (d : Nat) (p : TPart) (m : Nat) (bf bh : List TPart) (n : Nat) (h : ¬ p.b - p.a ≤ 1) (hl : hasB (pL p) m = false) : descF (d + 1) p m bf bh n = descF d (pR p) m (bf ++ [pL p]) bh (n + 1) := by
  rw [descF, if_neg h, if_neg (by rw [hl]; exact Bool.false_ne_true)]
/-- What Split leaves of the tree. -/
def restL (l : List TPart) (k : Nat) (D : Desc) : List TPart := l.take k ++ D.bf ++ D.bh.reverse ++ l.drop (k + 1)
theorem cnt_grown {w w' : World} {D o : Nat} {x : Value} (h : Below w.heap.size (w.setCell ⟨D, o, none⟩ x) w') : w.grownBy w' (some D) :=
  ⟨h.os, h.tape, h.output, cnt_size h, fun k hk hne => cnt_other h hk (fun e => hne (by rw [e]))⟩
theorem own_ne {w : World} {base e size n D : Nat} {v : Value} {xs : List Value} (h : w.ownsRow base e size v n xs) (hD : D < base) : v.ownBlock ≠ some D := fun hv => by
  have := (h.lt D hv).1
  omega
/-- What holds at the head of Split's loop. -/
def SpRel (w : World) (D o : Nat) (v : Int) (m P : Nat) (R : Desc) (g : Nat) (s11 s12 : Value) (wr : World) : Prop :=
  ∃ (p : TPart) (bf bh : List TPart) (n : Nat), p.b - p.a ≤ g + 1 ∧ p.a ≤ m ∧ m < p.b ∧ p.b ≤ 16 ∧ p.s.length = 8 ∧ n + g ≤ 16 ∧ bf.length ≤ n ∧ bh.length ≤ n ∧ R = descF g p m bf bh n ∧
    wr.heap[P]? = some (.cells (pcells p) 59 (0, 0)) ∧ wr.cell? ⟨w.heap.size, 0, none⟩ = some (.int .i64 m) ∧ wr.heap[w.heap.size + 1]? = some (.cells (cells zeroS) 26 (0, 0)) ∧
    wr.ownsRow (P + 1) 59 10 s11 bf.length (lcells bf) ∧ wr.ownsRow (P + 1) 59 10 s12 bh.length (lcells bh) ∧ (∀ g, s11.ownBlock = some g → s12.ownBlock ≠ some g) ∧
    Below w.heap.size (w.setCell ⟨D, o, none⟩ (.int .i64 (v + 2 * n))) wr
theorem part_cells2 {w : World} {P t : Nat} {p : TPart} (h : w.heap[P]? = some (.cells (pcells p) t (0, 0))) : w.cell? ⟨P, 0, none⟩ = some (.int .i64 p.a) ∧ w.cell? ⟨P, 1, none⟩ = some (.int .i64 p.b) := by
  refine ⟨?_, ?_⟩ <;> (rw [cell_of_row _ _ _ _ _ _ h, pcells, Array.getElem?_append_left (by simp)]; rfl)
theorem has_at (w : World) (P t m : Nat) (p : TPart) (h : w.heap[P]? = some (.cells (pcells p) t (0, 0))) :
    Calls Try.prog 37 #[.pointer (some ⟨P, 0, none⟩), .int .i64 m] w fun e w' => e = .returned (.bool (hasB p m)) ∧ w = w' :=
  (has_any w P 0 p.a p.b m (part_cells2 h).1 (part_cells2 h).2).mono fun _ _ ⟨he, hw⟩ => ⟨he, hw.symm⟩
theorem concat4 (w5 Wc : World) (T Bk : Nat) (v0 v1 v2 v3 : Value) (l0 l1 l2 l3 : List TPart) (h0 : SliceR w5 v0 l0.length (lcells l0)) (h1 : SliceR w5 v1 l1.length (lcells l1)) (h2 : SliceR w5 v2 l2.length (lcells l2)) (h3 : SliceR w5 v3 l3.length (lcells l3))
    (n0 : v0.ownBlock ≠ some T) (n1 : v1.ownBlock ≠ some T) (n2 : v2.ownBlock ≠ some T) (n3 : v3.ownBlock ≠ some T) (hs : l0.length + l1.length + l2.length + l3.length ≤ 1000)
    (hTs : T < w5.heap.size) (hgr : w5.grownBy Wc (some T)) (hB : Wc.heap[Bk]? = some (.cells #[v0, v1, v2, v3] 56 (0, 0))) :
    Calls Try.prog 40 #[.slice (some ⟨Bk, 0, none⟩) 4 4] Wc fun e w' =>
      ∃ v, e = .returned v ∧ w'.ownsRow w5.heap.size 59 10 v (l0 ++ l1 ++ l2 ++ l3).length (lcells (l0 ++ l1 ++ l2 ++ l3)) ∧ w5.grownBy w' (some T) ∧ w'.heap[T]? = Wc.heap[T]? := by
  have hsz := hgr.size
  have hk : ∀ g, g < w5.heap.size → g ≠ T → Wc.heap[g]? = w5.heap[g]? := fun g hg hn => hgr.block g hg (fun e => hn (by injection e))
  have hlt : ∀ v n xs, SliceR w5 v n xs → ∀ b, v.ownBlock = some b → b < w5.heap.size := fun v n xs h b hb => by
    rcases h with ⟨rfl, _⟩ | ⟨b', o, cap, rfl, _, _, h3, _⟩
    · cases hb
    · cases hb; exact h3
  have hsame : ∀ v n xs, SliceR w5 v n xs → v.ownBlock ≠ some T → SliceR Wc v n xs := fun v n xs h hn =>
    h.same (fun b hb => hk b (hlt v n xs h b hb) (fun e => hn (by rw [hb, e]))) hsz
  have h := concat_any Wc Bk [(v0, l0), (v1, l1), (v2, l2), (v3, l3)] (by simp) (by simp [sumLen]; omega)
    (fun j hj => by
      rw [cell_of_row _ _ _ _ _ _ hB]
      have : j = 0 ∨ j = 1 ∨ j = 2 ∨ j = 3 := by simp at hj; omega
      rcases this with rfl | rfl | rfl | rfl <;> rfl)
    (fun j hj => by
      have : j = 0 ∨ j = 1 ∨ j = 2 ∨ j = 3 := by simp at hj; omega
      rcases this with rfl | rfl | rfl | rfl
      · exact hsame _ _ _ h0 n0
      · exact hsame _ _ _ h1 n1
      · exact hsame _ _ _ h2 n2
      · exact hsame _ _ _ h3 n3)
  have e : flatP [(v0, l0), (v1, l1), (v2, l2), (v3, l3)] = l0 ++ l1 ++ l2 ++ l3 := by simp [flatP]
  rw [e] at h
  refine h.mono fun e w' ⟨v, h1, h2, h3⟩ => ⟨v, h1, ownsRow_mono h2 hsz, ⟨h3.os.trans hgr.os, h3.tape.trans hgr.tape, h3.output.trans hgr.output, Nat.le_trans hsz h3.size, fun g hg hn => (h3.block g (by omega)).trans (hgr.block g hg hn)⟩, h3.block T (by omega)⟩
theorem sliceR_take {w : World} {b o cap : Nat} {l : List TPart} (k : Nat) (hk : k ≤ l.length) (hc : l.length ≤ cap) (hm : cap ≤ maxLen) (hb : b < w.heap.size) (hr : w.rangeAt b o (lcells l)) :
    SliceR w (.slice (some ⟨b, o, none⟩) k cap) (l.take k).length (lcells (l.take k)) := by
  rw [List.length_take, Nat.min_eq_left hk]
  refine .inr ⟨b, o, cap, rfl, by omega, hm, hb, fun j u hj => hr j u ?_⟩
  have e : lcells l = lcells (l.take k) ++ lcells (l.drop k) := by rw [← lcells_append, List.take_append_drop]
  rw [e, List.getElem?_append_left (List.getElem?_eq_some_iff.1 hj).1]
  exact hj
theorem sliceR_drop {w : World} {b o cap : Nat} {l : List TPart} (k : Nat) (hk : k ≤ l.length) (hc : l.length ≤ cap) (hm : cap ≤ maxLen) (hb : b < w.heap.size) (hr : w.rangeAt b o (lcells l)) :
    SliceR w (.slice (some ⟨b, o + k * 10, none⟩) (l.length - k) (cap - k)) (l.drop k).length (lcells (l.drop k)) := by
  rw [List.length_drop]
  refine .inr ⟨b, o + k * 10, cap - k, rfl, by omega, by omega, hb, fun j u hj => ?_⟩
  rw [Nat.add_assoc]
  refine hr (k * 10 + j) u ?_
  have e : lcells l = lcells (l.take k) ++ lcells (l.drop k) := by rw [← lcells_append, List.take_append_drop]
  have hl : (lcells (l.take k)).length = k * 10 := by rw [lcells_length, List.length_take, Nat.min_eq_left hk]
  rw [e, List.getElem?_append_right (by omega), hl, Nat.add_sub_cancel_left]
  exact hj
theorem sliceR_none {w : World} {b o : Nat} (hb : b < w.heap.size) : SliceR w (.slice (some ⟨b, o, none⟩) 0 0) 0 [] := .inr ⟨b, o, 0, rfl, Nat.le_refl _, by unfold maxLen; omega, hb, fun j u hj => by simp at hj⟩
theorem slice_ne {b o n c T : Nat} (h : b ≠ T) : (Value.slice (some ⟨b, o, none⟩) n c).ownBlock ≠ some T := fun e => h (Option.some.inj e)
theorem below_grown {w a b : World} {p : Addr} {x : Value} {row : Option Nat} (h : Below w.heap.size (w.setCell p x) a) (hg : a.grownBy b row) (hrow : ∀ g, row = some g → w.heap.size ≤ g) : Below w.heap.size (w.setCell p x) b :=
  h.grown hg (cnt_size h) hrow
theorem sp_tail {w W4 W5 : World} {D o m P : Nat} {x : Value} {A B : TPart} {u v' other : Value} {lst olst : List TPart} {ob : Obj}
    (hP : w.heap.size + 2 ≤ P) (hP4 : P + 1 ≤ W4.heap.size) (hA : W4.heap[P]? = some (.cells (pcells A) 59 (0, 0))) (XM : W4.cell? ⟨w.heap.size, 0, none⟩ = some (.int .i64 m))
    (XT : W4.heap[w.heap.size + 1]? = some (.cells (cells zeroS) 26 (0, 0))) (Xu : W4.ownsRow (P + 1) 59 10 u lst.length (lcells lst)) (Xo : W4.ownsRow (P + 1) 59 10 other olst.length (lcells olst))
    (hB8 : B.s.length = 8) (hown5 : W5.ownsRow (P + 1) 59 10 v' (lst.length + 1) (lcells lst ++ (pcells B).toList)) (hg5 : (W4.alloc ob).grownBy W5 u.ownBlock)
    (hloc : v'.ownBlock = u.ownBlock ∨ v'.ownBlock = some (W4.alloc ob).heap.size) (XB : Below w.heap.size (w.setCell ⟨D, o, none⟩ x) W4) (hne : ∀ g, u.ownBlock = some g → other.ownBlock ≠ some g) :
    W5.heap[P]? = some (.cells (pcells A) 59 (0, 0)) ∧ W5.cell? ⟨w.heap.size, 0, none⟩ = some (.int .i64 m) ∧ W5.heap[w.heap.size + 1]? = some (.cells (cells zeroS) 26 (0, 0)) ∧
    W5.ownsRow (P + 1) 59 10 v' (lst ++ [B]).length (lcells (lst ++ [B])) ∧ W5.ownsRow (P + 1) 59 10 other olst.length (lcells olst) ∧ (∀ g, v'.ownBlock = some g → other.ownBlock ≠ some g) ∧
    Below w.heap.size (w.setCell ⟨D, o, none⟩ x) W5 := by
  have hk : ∀ g, g ≤ P → W5.heap[g]? = W4.heap[g]? := fun g hg => by
    rw [hg5.block g (by simp; omega) (fun e => by have := (Xu.lt g e.symm).1; omega), Below.heap_alloc _ _ _ (by omega)]
  have hfull : W4.grownBy W5 u.ownBlock := (World.grownBy_alloc W4 ob _).trans hg5
  refine ⟨(hk P (Nat.le_refl _)).trans hA, (World.cell?_of_block (a := ⟨w.heap.size, 0, none⟩) (hk w.heap.size (by omega))).trans XM, (hk _ (by omega)).trans XT, ?_, ?_, ?_, ?_⟩
  · rw [lcells_append, List.length_append]
    have e : lcells [B] = (pcells B).toList := by rw [← encP_eq B hB8]; simp [lcells]
    rw [e]; exact hown5
  · refine Xo.kept hfull ?_
    cases hu : other.ownBlock with
    | none => exact .inl rfl
    | some g => exact .inr (fun e => hne g e.symm hu)
  · intro g hg ho
    rcases hloc with h | h
    · exact hne g (h ▸ hg) ho
    · rw [h] at hg
      have := (Xo.lt g ho).2
      have h2 : (W4.alloc ob).heap.size = W4.heap.size + 1 := by simp
      injection hg with hg
      omega
  · exact below_grown XB hfull (fun g hg => by have := (Xu.lt g hg).1; omega)
theorem hasB_pL {p : TPart} {m : Nat} (h : hasB (pL p) m = true) : m < (pL p).b := by
  simp [hasB] at h; exact h.2
theorem hasB_pR {p : TPart} {m : Nat} (ha : p.a ≤ m) (h : hasB (pL p) m = false) : (pR p).a ≤ m := by
  have h2 : ¬ ((pL p).a ≤ m ∧ m < (pL p).b) := by simpa [hasB] using h
  have e1 : (pL p).a = p.a := rfl
  have e2 : (pL p).b = (pR p).a := rfl
  omega
theorem pL_size {p : TPart} (h : 1 < p.b - p.a) : (pL p).b = p.a + splitN (p.b - p.a) ∧ splitN (p.b - p.a) < p.b - p.a ∧ 0 < splitN (p.b - p.a) := ⟨rfl, splitN_lt _ h, splitN_pos _⟩
set_option maxRecDepth 100000 in
set_option maxHeartbeats 20000000 in
theorem split_any' (D o : Nat) (v : Int) (w : World) (l : List TPart) (sv : Value) (m k : Nat) (hx : w.cell? ⟨D, o, none⟩ = some (.int .i64 v)) (hf : w.frozen? ⟨D, o, none⟩ = false) (hb0 : 0 ≤ v) (hb1 : v ≤ 4611686018426000000)
    (hl : l.length ≤ 16) (h8 : ∀ p ∈ l, p.s.length = 8) (h16 : ∀ p ∈ l, p.b ≤ 16) (ht : SliceR w sv l.length (lcells l)) (hsD : sv.ownBlock ≠ some D) (hk : k < l.length) (hidx : Lib.idxBy (fun _ y => hasB y m) l default = k) (hhas : hasB l[k] m = true) :
    Calls Try.prog 25 #[sv, .pointer (some ⟨D, o, none⟩), .int .i64 m] w fun e w' =>
      ∃ t, e = .returned (.tuple #[t, .agg (cells (desc l[k] m).p.s), .bool true]) ∧ w'.ownsRow w.heap.size 59 10 t (restL l k (desc l[k] m)).length (lcells (restL l k (desc l[k] m))) ∧
        Below w.heap.size (w.setCell ⟨D, o, none⟩ (.int .i64 (v + 2 * (desc l[k] m).n))) w' := by
  have hD : D < w.heap.size := block_lt_of_cell hx
  obtain ⟨p0, hp0⟩ : ∃ p0, p0 = l[k] := ⟨_, rfl⟩
  rw [← hp0] at hhas ⊢
  obtain ⟨R, hR⟩ : ∃ R, R = desc p0 m := ⟨_, rfl⟩
  rw [← hR]
  have HR := Lib.hid hR
  clear hR
  obtain ⟨b, o2, cap, rfl, hlc, hcm, hbs, hrg⟩ : ∃ b o cap, sv = .slice (some ⟨b, o, none⟩) l.length cap ∧ l.length ≤ cap ∧ cap ≤ maxLen ∧ b < w.heap.size ∧ w.rangeAt b o (lcells l) := by
    rcases ht with ⟨_, h0, _⟩ | h
    · omega
    · exact h
  have Ht := Lib.hid ht
  have Hrg := Lib.hid hrg
  clear hrg
  have Hx := Lib.hid hx
  have Hf := Lib.hid hf
  have H8 := Lib.hid h8
  have H16 := Lib.hid h16
  have Hidx := Lib.hid hidx
  have Hhas := Lib.hid hhas
  clear ht hx hf h8 h16 hidx hhas
  go_enter Try.func25, Try.ntmps25
  go_upto_region 1 with (fail)
  generalize hW : World.alloc _ _ = W
  have hWM : W.cell? ⟨w.heap.size, 0, none⟩ = some (.int .i64 m) := by rw [← hW]; exact cell_of_row _ _ _ _ _ _ (heap_alloc2_old w _ _)
  have hWT : W.heap[w.heap.size + 1]? = some (.cells (cells zeroS) 26 (0, 0)) := by rw [← hW]; exact heap_alloc2_new w _ _
  have hWb : Below w.heap.size w W := by rw [← hW]; exact balloc (balloc (Below.refl _ _) _) _
  have hWs : w.heap.size + 2 ≤ W.heap.size := by rw [← hW]; simp
  clear hW
  have HWM := Lib.hid hWM
  have HWT := Lib.hid hWT
  clear hWM hWT
  have hkI : (k : Int) < l.length := by omega
  have hk0 : ¬ (k : Int) < 0 := by omega
  have hp8 : p0.s.length = 8 := by rw [hp0]; exact H8.out _ (List.getElem_mem hk)
  have hp16 : p0.b ≤ 16 := by rw [hp0]; exact H16.out _ (List.getElem_mem hk)
  have hrow : ∀ w1, Below W.heap.size W w1 → w1.rangeAt b (o2 + k * 10) (pcells p0).toList := fun w1 hb1 i u hi => by
    have hi10 : i < 10 := by
      have := (List.getElem?_eq_some_iff.1 hi).1
      rwa [Array.length_toList, pcells_size _ hp8] at this
    rw [hb1.cell (p := ⟨b, o2 + k * 10 + i, none⟩) (Nat.lt_of_lt_of_le hbs hWb.size), hWb.cell (p := ⟨b, o2 + k * 10 + i, none⟩) hbs, Nat.add_assoc]
    refine Hrg.out (k * 10 + i) u ?_
    rw [lcells_get l k i hk hi10, getElem!_pos l k hk, ← hp0, encP_eq _ hp8]
    exact hi
  have Hrow := Lib.hid hrow
  have hpi : (pcells p0).size = 10 := pcells_size _ hp8
  have hz10 : (pcells pZero).size = 10 := pcells_size _ rfl
  have Hp0 := Lib.hid hp0
  have Hpi := Lib.hid hpi
  have Hp8 := Lib.hid hp8
  have Hz10 := Lib.hid hz10
  clear hrow hp0 hpi hp8 hz10
  go_wp2_with (first
    | (go_at_call 35; refine (idx_any W w.heap.size m l _ hl (Ht.out.below hWb) HWM.out).mono ?_; rintro e w1 ⟨rfl, hb1⟩; rw [Hidx.out])
    | (refine wpList_load_mid rfl 59 _ rfl b (o2 + k * 10) rfl (pcells p0).toList _ (Hrow.out w1 hb1) Try.underlying59 rfl (by rw [infoPart, Array.length_toList, Hpi.out]) ?_)
    | (refine wpList_store_row rfl 59 _ _ rfl w1.heap.size (pcells p0) rfl rfl 59 (pcells pZero) (heap_alloc_new w1 _) (by rw [infoPart, Hpi.out]) (by rw [Hz10.out, Hpi.out]) (pcells_one _) ?_))
  have hlow : p0.a ≤ m ∧ m < p0.b := by have := Hhas.out; simpa [hasB] using this
  obtain ⟨hlo, hhi⟩ := hlow
  obtain ⟨P, hP⟩ : ∃ P, P = w1.heap.size := ⟨_, rfl⟩
  have hPs : w.heap.size + 2 ≤ P := by rw [hP]; exact Nat.le_trans hWs hb1.size
  rw [← hP]
  have HP := Lib.hid hP
  clear hP
  go_loopg [11, 12] 16 (fun g s11 s12 wr => SpRel w D o v m P R g s11 s12 wr)
  case atStart =>
    refine ⟨p0, [], [], 0, by omega, hlo, hhi, hp16, Hp8.out, by omega, Nat.le_refl _, Nat.le_refl _, HR.out, ?_, ?_, ?_, World.ownsRow_nil _ _ _ _, World.ownsRow_nil _ _ _ _, (fun _ h => by cases h), ?_⟩
    · rw [HP.out]; exact setRow_heap _ _ _ _ _ _ (heap_alloc_new _ _)
    · have hne : P ≠ w.heap.size := by omega
      have hlt1 : w.heap.size < w1.heap.size := by rw [← HP.out]; omega
      rw [World.cell?_of_block (a := ⟨w.heap.size, 0, none⟩) (setRow_other _ P w.heap.size _ (Ne.symm hne)), World.cell?_alloc_past _ _ _ hlt1, hb1.cell (p := ⟨w.heap.size, 0, none⟩) (by show w.heap.size < _; omega)]; exact HWM.out
    · rw [setRow_other _ _ _ _ (by omega), Below.heap_alloc _ _ _ (by rw [← HP.out]; omega), hb1.block _ (by omega)]; exact HWT.out
    · rw [Int.natCast_zero, Int.mul_zero, Int.add_zero, setCell_self Hx.out]
      exact below_setRow (balloc (bnext hWb hb1) _) (by omega) _
  case round =>
    clear hb1 Hrow Hhas
    obtain ⟨p, bf, bh, n, r1, r2, r3, r4, r5, r6, r7, r8, r9, rP, rM, rT, r10, r11, r12, r13⟩ := hrel
    obtain ⟨c0, c1⟩ := part_cells2 rP
    have R9 := Lib.hid r9
    have RP := Lib.hid rP
    have RM := Lib.hid rM
    have RT := Lib.hid rT
    have R10 := Lib.hid r10
    have R11 := Lib.hid r11
    have R12 := Lib.hid r12
    have R13 := Lib.hid r13
    have R5 := Lib.hid r5
    clear r5 r9 rP rM rT r10 r11 r12 r13
    have hcnt : wr.cell? ⟨D, o, none⟩ = some (.int .i64 (v + 2 * n)) := cnt_cell R13.out Hx.out
    have hcf : wr.frozen? ⟨D, o, none⟩ = false := cnt_frozen R13.out Hx.out Hf.out
    have Hcnt := Lib.hid hcnt
    have Hcf := Lib.hid hcf
    clear hcnt hcf
    by_cases hgt : 1 < p.b - p.a
    · have hgtI : (1 : Int) < (p.b : Int) - p.a := by omega
      have hPD : P ≠ D := by omega
      have hq1 : (pcells (pL p)).size = 10 := pcells_size _ (kd_length _ _ _)
      have hq2 : (pcells (pR p)).size = 10 := pcells_size _ (kd_length _ _ _)
      have Hq1 := Lib.hid hq1
      have Hq2 := Lib.hid hq2
      clear hq1 hq2
      go_wp2_with fail
      refine (halves_any D o P (v + 2 * n) wr p R5.out (by omega) r4 Hcnt.out Hcf.out (by omega) (by omega) RP.out hPD).mono ?_
      rintro e w2 ⟨rfl, hb2⟩
      clear c0 c1
      have hPw : P < wr.heap.size := (Array.getElem?_eq_some_iff.1 RP.out).1
      have hw2 : wr.heap.size ≤ w2.heap.size := cnt_size hb2
      have Zp := Lib.hid (cnt_row hb2 RP.out hPD)
      have Zt := Lib.hid (cnt_row hb2 RT.out (by omega))
      have Zm : Hid (w2.cell? ⟨w.heap.size, 0, none⟩ = some (.int .i64 m)) := Lib.hid (by
        rw [hb2.cell (p := ⟨w.heap.size, 0, none⟩) (by show w.heap.size < _; omega), World.cell?_setCell_other _ _ _ _ (fun e => by injection e with e; omega)]; exact RM.out)
      have Z10 := Lib.hid (R10.out.kept (cnt_grown hb2) (.inr (own_ne R10.out (by omega))))
      have Z11 := Lib.hid (R11.out.kept (cnt_grown hb2) (.inr (own_ne R11.out (by omega))))
      have ZB : Hid (Below w.heap.size (w.setCell ⟨D, o, none⟩ (.int .i64 (v + 2 * (n + 1 : Nat)))) w2) := Lib.hid (by
        have := cnt_next R13.out hb2
        rwa [show v + 2 * (n : Int) + 2 = v + 2 * ((n + 1 : Nat) : Int) by omega] at this)
      clear RP RM RT R10 R11 R13 Hcnt Hcf hb2
      obtain ⟨Q, hQ⟩ : ∃ Q, Q = w2.heap.size := ⟨_, rfl⟩
      go_upto_region 8 with (first
        | (refine wpList_store_row rfl 59 (.tmp 13) _ rfl w2.heap.size (pcells (pL p)) rfl rfl 59 (pcells pZero) (heap_alloc2_old w2 _ _) (by rw [infoPart, Hq1.out]) (by rw [Hz10.out, Hq1.out]) (pcells_one _) ?_)
        | (refine wpList_store_row rfl 59 (.tmp 14) _ rfl (w2.heap.size + 1) (pcells (pR p)) rfl rfl 59 (pcells pZero) ((setRow_other _ _ _ _ (by omega)).trans (heap_alloc2_new w2 _ _)) (by rw [infoPart, Hq2.out]) (by rw [Hz10.out, Hq2.out]) (pcells_one _) ?_))
      rw [← hQ]
      generalize hW3 : World.setRow _ (Q + 1) _ = W3
      have hs3 : Q + 2 = W3.heap.size := by rw [← hW3, hQ]; simp
      have hold : ∀ g, g < Q → W3.heap[g]? = w2.heap[g]? := fun g hg => by
        rw [← hW3, setRow_other _ _ _ _ (by omega), setRow_other _ _ _ _ (by omega), Below.heap_alloc _ _ _ (by simp; omega), Below.heap_alloc _ _ _ (by omega)]
      have hL3 : W3.heap[Q]? = some (.cells (pcells (pL p)) 59 (0, 0)) := by
        rw [← hW3, setRow_other _ _ _ _ (by omega), hQ]; exact setRow_heap _ _ _ _ _ _ (heap_alloc2_old w2 _ _)
      have hR3 : W3.heap[Q + 1]? = some (.cells (pcells (pR p)) 59 (0, 0)) := by
        rw [← hW3]; refine setRow_heap _ _ (pcells pZero) _ _ _ ?_; rw [setRow_other _ _ _ _ (by omega), hQ]; exact heap_alloc2_new w2 _ _
      have hg3 : w2.grownBy W3 none := ⟨by rw [← hW3]; rfl, by rw [← hW3]; rfl, by rw [← hW3]; rfl, by omega, fun g hg _ => hold g (by omega)⟩
      have hP2 : P < w2.heap.size := by omega
      clear hW3
      have Y10 := Lib.hid (Z10.out.kept hg3 (by cases u11.ownBlock <;> simp))
      have Y11 := Lib.hid (Z11.out.kept hg3 (by cases u12.ownBlock <;> simp))
      have Yp : Hid (W3.heap[P]? = some (.cells (pcells p) 59 (0, 0))) := Lib.hid ((hold P (by omega)).trans Zp.out)
      have Yt : Hid (W3.heap[w.heap.size + 1]? = some (.cells (cells zeroS) 26 (0, 0))) := Lib.hid ((hold _ (by omega)).trans Zt.out)
      have ym : W3.cell? ⟨w.heap.size, 0, none⟩ = some (.int .i64 m) := (World.cell?_of_block (a := ⟨w.heap.size, 0, none⟩) (hold w.heap.size (by omega))).trans Zm.out
      have YB := Lib.hid (below_grown ZB.out hg3 (fun g hg => by cases hg))
      have hL3' := Lib.hid hL3
      have hR3' := Lib.hid hR3
      have HQ := Lib.hid hQ
      have hPQ : P + 1 ≤ Q := by omega
      have hQ3 : Q + 2 ≤ W3.heap.size := by omega
      have hpz : (pcells p).size = 10 := pcells_size _ R5.out
      have Hpz := Lib.hid hpz
      have Ym := Lib.hid ym
      clear Z10 Z11 Zp Zt Zm ZB hQ hs3 hold hL3 hR3 hg3 hpz
      have hL3 := hL3'
      have hR3 := hR3'
      clear hL3' hR3'
      obtain ⟨i0, hi', hz0', hz1', hz2'⟩ := info_parts infoPartI
      have hi := Lib.hid hi'
      have hz0 := Lib.hid hz0'
      have hz1 := Lib.hid hz1'
      have hz2 := Lib.hid hz2'
      clear hi' hz0' hz1' hz2'
      cases hb : hasB (pL p) m with
      | true =>
        have Hb := Lib.hid hb
        clear hb
        go_upto_region 10 with (first
          | (go_at_call 37; refine (has_at W3 Q _ m (pL p) hL3.out).mono ?_; rintro e w' ⟨rfl, rfl⟩; rw [Hb.out])
          | (refine wpList_load_row rfl 59 (.tmp 13) rfl Q rfl _ (pcells (pL p)) _ _ hL3.out Try.underlying59 rfl (by rw [infoPart, Hq1.out]) ?_)
          | (refine wpList_store_row rfl 59 (.tmp 10) _ rfl P (pcells (pL p)) rfl rfl 59 (pcells p) Yp.out (by rw [infoPart, Hq1.out]) (by rw [Hpz.out, Hq1.out]) (pcells_one _) ?_))
        generalize hW4 : World.setRow _ P _ = W4
        have hP4 : W4.heap[P]? = some (.cells (pcells (pL p)) 59 (0, 0)) := by rw [← hW4]; exact setRow_heap _ _ _ _ _ _ Yp.out
        have hB4 : W4.heap[(Q + 1)]? = some (.cells (pcells (pR p)) 59 (0, 0)) := by rw [← hW4, setRow_other _ _ _ _ (by omega)]; exact hR3.out
        have hg4 : W3.grownBy W4 (some P) := by rw [← hW4]; exact ⟨rfl, rfl, rfl, by simp, fun g _ hne => setRow_other _ _ _ _ (fun e => hne (by rw [e]))⟩
        have hs4 : W3.heap.size ≤ W4.heap.size := hg4.size
        clear hW4
        have X10 := Lib.hid (Y10.out.kept hg4 (.inr (own_ne Y10.out (Nat.lt_succ_self P))))
        have X11 := Lib.hid (Y11.out.kept hg4 (.inr (own_ne Y11.out (Nat.lt_succ_self P))))
        have XT : Hid (W4.heap[w.heap.size + 1]? = some (.cells (cells zeroS) 26 (0, 0))) := Lib.hid ((hg4.block _ (by omega) (fun e => by injection e with e; omega)).trans Yt.out)
        have XM : Hid (W4.cell? ⟨w.heap.size, 0, none⟩ = some (.int .i64 m)) := Lib.hid ((World.cell?_of_block (a := ⟨w.heap.size, 0, none⟩) (hg4.block w.heap.size (by omega) (fun e => by injection e with e; omega))).trans Ym.out)
        have XB := Lib.hid (below_grown YB.out hg4 (fun g hg => by injection hg with hg; omega))
        have hP4s : P + 1 ≤ W4.heap.size := by omega
        have HP4 := Lib.hid hP4
        have HB4 := Lib.hid hB4
        clear hP4 hB4 hg4
        go_wp2_with (first
          | (refine wpList_load_row rfl 59 (.tmp 14) rfl (Q + 1) rfl _ (pcells (pR p)) _ _ HB4.out Try.underlying59 rfl (by rw [infoPart, Hq2.out]) ?_)
          | (refine wpList_slice_one rfl 56 59 (.tmp 40) (by rfl) (pcells (pR p)) (by rfl) i0 _ Try.underlying56 hi.out hz0.out (hz1.out.trans Hq2.out.symm) (by rw [Hq2.out]; decide) (by rw [Hq2.out]; decide) ?_)
          | (at_builtin; go_must (refine wpList_append_own_at _ rfl (.tmp 39) (.tmp 41) 56 (by rfl) (P + 1) 59 i0 _ 10 24 Try.underlying56 hi.out hz0.out hz1.out hz2.out rfl (by decide) u12 bh.length (lcells bh) (by rfl) (X11.out.alloc _) ⟨W4.heap.size, 0, none⟩ 1 1 (pcells (pR p)).toList (by rfl) (by rw [Array.length_toList, Hq2.out]) (cell_new_row _ _ _) (fun u hu => Array.all_eq_true_iff_forall_mem.1 (pcells_one _) u (by simpa using hu)) (by unfold maxLen; omega) (by omega) (by simp; omega) ?_); intro v' W5 hown5 hg5 _ hloc))
        go_roundg (gk - 1)
        case measure => omega
        case rel =>
          obtain ⟨t1, t2, t3, t4, t5, t6, t7⟩ := sp_tail hPs hP4s HP4.out XM.out XT.out X11.out X10.out (kd_length _ _ _) hown5 hg5 hloc XB.out (fun g hg ho => R12.out g ho hg)
          obtain ⟨q1, q2, q3⟩ := pL_size hgt
          have hlt' := hasB_pL Hb.out
          obtain ⟨g', rfl⟩ : ∃ g', gk = g' + 1 := ⟨gk - 1, by omega⟩
          exact ⟨pL p, bf, bh ++ [pR p], n + 1, by rw [q1]; show _ - p.a ≤ _; omega, r2, hlt', by rw [q1]; omega, kd_length _ _ _, by omega, by omega, by simp; omega, R9.out.trans (descF_left _ _ _ _ _ _ (by omega) Hb.out), t1, t2, t3, t5, t4, fun g hg ho => t6 g ho hg, t7⟩
      | false =>
        have Hb := Lib.hid hb
        clear hb
        go_upto_region 12 with (first
          | (go_at_call 37; refine (has_at W3 Q _ m (pL p) hL3.out).mono ?_; rintro e w' ⟨rfl, rfl⟩; rw [Hb.out])
          | (refine wpList_load_row rfl 59 (.tmp 14) rfl (Q + 1) rfl _ (pcells (pR p)) _ _ hR3.out Try.underlying59 rfl (by rw [infoPart, Hq2.out]) ?_)
          | (refine wpList_store_row rfl 59 (.tmp 10) _ rfl P (pcells (pR p)) rfl rfl 59 (pcells p) Yp.out (by rw [infoPart, Hq2.out]) (by rw [Hpz.out, Hq2.out]) (pcells_one _) ?_))
        generalize hW4 : World.setRow _ P _ = W4
        have hP4 : W4.heap[P]? = some (.cells (pcells (pR p)) 59 (0, 0)) := by rw [← hW4]; exact setRow_heap _ _ _ _ _ _ Yp.out
        have hB4 : W4.heap[Q]? = some (.cells (pcells (pL p)) 59 (0, 0)) := by rw [← hW4, setRow_other _ _ _ _ (by omega)]; exact hL3.out
        have hg4 : W3.grownBy W4 (some P) := by rw [← hW4]; exact ⟨rfl, rfl, rfl, by simp, fun g _ hne => setRow_other _ _ _ _ (fun e => hne (by rw [e]))⟩
        have hs4 : W3.heap.size ≤ W4.heap.size := hg4.size
        clear hW4
        have X10 := Lib.hid (Y10.out.kept hg4 (.inr (own_ne Y10.out (Nat.lt_succ_self P))))
        have X11 := Lib.hid (Y11.out.kept hg4 (.inr (own_ne Y11.out (Nat.lt_succ_self P))))
        have XT : Hid (W4.heap[w.heap.size + 1]? = some (.cells (cells zeroS) 26 (0, 0))) := Lib.hid ((hg4.block _ (by omega) (fun e => by injection e with e; omega)).trans Yt.out)
        have XM : Hid (W4.cell? ⟨w.heap.size, 0, none⟩ = some (.int .i64 m)) := Lib.hid ((World.cell?_of_block (a := ⟨w.heap.size, 0, none⟩) (hg4.block w.heap.size (by omega) (fun e => by injection e with e; omega))).trans Ym.out)
        have XB := Lib.hid (below_grown YB.out hg4 (fun g hg => by injection hg with hg; omega))
        have hP4s : P + 1 ≤ W4.heap.size := by omega
        have HP4 := Lib.hid hP4
        have HB4 := Lib.hid hB4
        clear hP4 hB4 hg4
        go_wp2_with (first
          | (refine wpList_load_row rfl 59 (.tmp 13) rfl Q rfl _ (pcells (pL p)) _ _ HB4.out Try.underlying59 rfl (by rw [infoPart, Hq1.out]) ?_)
          | (refine wpList_slice_one rfl 56 59 (.tmp 45) (by rfl) (pcells (pL p)) (by rfl) i0 _ Try.underlying56 hi.out hz0.out (hz1.out.trans Hq1.out.symm) (by rw [Hq1.out]; decide) (by rw [Hq1.out]; decide) ?_)
          | (at_builtin; go_must (refine wpList_append_own_at _ rfl (.tmp 44) (.tmp 46) 56 (by rfl) (P + 1) 59 i0 _ 10 24 Try.underlying56 hi.out hz0.out hz1.out hz2.out rfl (by decide) u11 bf.length (lcells bf) (by rfl) (X10.out.alloc _) ⟨W4.heap.size, 0, none⟩ 1 1 (pcells (pL p)).toList (by rfl) (by rw [Array.length_toList, Hq1.out]) (cell_new_row _ _ _) (fun u hu => Array.all_eq_true_iff_forall_mem.1 (pcells_one _) u (by simpa using hu)) (by unfold maxLen; omega) (by omega) (by simp; omega) ?_); intro v' W5 hown5 hg5 _ hloc))
        go_roundg (gk - 1)
        case measure => omega
        case rel =>
          obtain ⟨t1, t2, t3, t4, t5, t6, t7⟩ := sp_tail hPs hP4s HP4.out XM.out XT.out X10.out X11.out (kd_length _ _ _) hown5 hg5 hloc XB.out R12.out
          obtain ⟨q1, q2, q3⟩ := pL_size hgt
          have hge' := hasB_pR r2 Hb.out
          have q4 : (pR p).a = p.a + splitN (p.b - p.a) := rfl
          have q5 : (pR p).b = p.b := rfl
          obtain ⟨g', rfl⟩ : ∃ g', gk = g' + 1 := ⟨gk - 1, by omega⟩
          exact ⟨pR p, bf ++ [pL p], bh, n + 1, by rw [q4, q5]; omega, hge', r3, r4, kd_length _ _ _, by omega, by simp; omega, by omega, R9.out.trans (descF_right _ _ _ _ _ _ (by omega) Hb.out), t1, t2, t3, t4, t5, t6, t7⟩
    · have hgtI : ¬ (1 : Int) < (p.b : Int) - p.a := by omega
      have HR9 : Hid (R = ⟨p, bf, bh, n⟩) := Lib.hid (R9.out.trans (descF_stop _ _ _ _ _ _ (by omega)))
      go_wp2_with (fail)
      refine (rev_any wr (P + 1) bh _ R11.out (by omega)).mono ?_
      rintro e w5 ⟨rfl, ho6, hg6⟩
      have hrs : wr.heap.size ≤ w5.heap.size := hg6.size
      have hPr : P < wr.heap.size := (Array.getElem?_eq_some_iff.1 RP.out).1
      have hk5 : ∀ g, g ≤ P → w5.heap[g]? = wr.heap[g]? := fun g hg => hg6.block g (by omega) (fun e => by have := (R11.out.lt g e.symm).1; omega)
      have ZP := Lib.hid ((hk5 P (Nat.le_refl _)).trans RP.out)
      have ZT := Lib.hid ((hk5 _ (by omega)).trans RT.out)
      have ZB := Lib.hid (below_grown R13.out hg6 (fun g hg => by have := (R11.out.lt g hg).1; omega))
      have Z10 : Hid (w5.ownsRow (P + 1) 59 10 u11 bf.length (lcells bf)) := Lib.hid (R10.out.kept hg6 (by
        cases hu : u11.ownBlock with
        | none => exact .inl rfl
        | some g => exact .inr (fun e => R12.out g hu e.symm)))
      have Z12 := Lib.hid ho6
      have hbD : b ≠ D := fun e => hsD (by rw [e]; rfl)
      have hbk : w5.heap[b]? = w.heap[b]? := (hk5 b (by omega)).trans ((R13.out.block b hbs).trans (heap_setCell_other _ _ _ _ hbD))
      have hr5 : w5.rangeAt b o2 (lcells l) := fun j u hj => by rw [World.cell?_of_block (a := ⟨b, o2 + j, none⟩) hbk]; exact Hrg.out j u hj
      have ZR := Lib.hid hr5
      clear c0 c1 R10 R11 R12 R13 RP RM RT Hcnt Hcf ho6 hg6 hk5 hbk hr5 hgtI
      have hP5 : P < w5.heap.size := by omega
      have hk1 : (k : Int) + 1 ≤ l.length := by omega
      have hkc : (k : Int) ≤ cap := by omega
      obtain ⟨a0, a1, a2, a3, a4, a5, a6, a7, hk8⟩ := eight R5.out
      have Hk8 := Lib.hid hk8
      clear hk8
      have hwr1 : IntKind.i64.wrap ((k : Int) + 1) = (k : Int) + 1 := IntWalk.i64_in _ (by omega)
      have hwt1 : ((k : Int) + 1).toNat = k + 1 := by omega
      have hwp1 : (0 : Int) ≤ (k : Int) + 1 := by omega
      have A0 := Lib.hid (sliceR_take k (by omega) hlc hcm (by omega) ZR.out)
      have A1 := Lib.hid (SliceR.of_own Z10.out)
      have A2 := Lib.hid (SliceR.of_own Z12.out)
      obtain ⟨q1, c1, rfl⟩ := A1.out.form
      obtain ⟨q2, c2, hq2⟩ := A2.out.form
      subst hq2
      by_cases hce : cap = k + 1
      · have hce2 := hce.symm
        clear hce
        have A3 : Hid (SliceR w5 (.slice (some ⟨b, o2, none⟩) 0 0) (l.drop (k + 1)).length (lcells (l.drop (k + 1)))) := Lib.hid (by
          have e : l.drop (k + 1) = [] := List.drop_eq_nil_of_le (by omega)
          rw [e]
          exact sliceR_none (by omega))
        obtain ⟨k0, k1, e2, e3, e4, e5, e6, e7, e8, e9⟩ := ten_cells Hk8.out ZP.out
        clear k0 k1
        have hsT : w.heap.size + 1 < w5.heap.size := by omega
        obtain ⟨t0, t1, t2, t3, t4, t5, t6, t7⟩ := eight_cells' (k := zeroS) rfl ZT.out
        have tf := row_frozen ZT.out
        have hcA : ∀ ob j, (w5.alloc ob).cell? ⟨w.heap.size + 1, j, none⟩ = w5.cell? ⟨w.heap.size + 1, j, none⟩ := fun ob j => World.cell?_alloc_past _ _ _ hsT
        have hfA : ∀ ob j, (w5.alloc ob).frozen? ⟨w.heap.size + 1, j, none⟩ = w5.frozen? ⟨w.heap.size + 1, j, none⟩ := fun ob j => World.frozen?_alloc_past _ _ _ hsT
        have hTP : w.heap.size + 1 ≠ P := by omega
        have hn0 : (Value.slice (some ⟨b, o2, none⟩) k cap).ownBlock ≠ some (w.heap.size + 1) := slice_ne (by omega)
        have hn1 := own_ne (D := w.heap.size + 1) Z10.out (by omega)
        have hn2 := own_ne (D := w.heap.size + 1) Z12.out (by omega)
        have hn3 : (Value.slice (some ⟨b, o2, none⟩) 0 0).ownBlock ≠ some (w.heap.size + 1) := slice_ne (by omega)
        go_wp2_with (fail)
        go_region_held3 (fun w' => w'.cell? ⟨P, 2, none⟩ = some (.int .u8 a0.toNat) ∧ w'.cell? ⟨P, 3, none⟩ = some (.int .u8 a1.toNat) ∧ w'.cell? ⟨P, 4, none⟩ = some (.int .u8 a2.toNat) ∧ w'.cell? ⟨P, 5, none⟩ = some (.int .u8 a3.toNat) ∧ w'.cell? ⟨P, 6, none⟩ = some (.int .u8 a4.toNat) ∧ w'.cell? ⟨P, 7, none⟩ = some (.int .u8 a5.toNat) ∧ w'.cell? ⟨P, 8, none⟩ = some (.int .u8 a6.toNat) ∧ w'.cell? ⟨P, 9, none⟩ = some (.int .u8 a7.toNat)) (refine ⟨?_, ?_, ?_, ?_, ?_, ?_, ?_, ?_⟩ <;> (first | with_reducible assumption | (simp only [World.cell?_drew, cell_ne hTP, World.cell?_alloc_past _ _ _ hP5]; with_reducible assumption)))
          ((go_at_call 40; go_must (refine (concat4 w5 _ (w.heap.size + 1) _ _ _ _ _ (l.take k) bf bh.reverse (l.drop (k + 1)) (by simpa using A0.out) A1.out (by simpa using A2.out) (by simpa using A3.out) hn0 hn1 hn2 hn3 (by simp; omega) hsT ?_ ?_).mono ?_); (refine ⟨rfl, rfl, rfl, by simp, fun g hg _ => ?_⟩; rw [heap_drew, Below.heap_alloc w5 _ g hg]); (rw [heap_drew]; exact heap_alloc_at _ _ _ rfl); rintro e w6 ⟨v6, rfl, ho7, hg7, hT7⟩; go_must (obtain ⟨z0, z1, k2, k3, k4, k5, k6, k7, k8, k9⟩ := ten_cells Hk8.out ((hg7.block P hP5 (fun e => hTP (Option.some.inj e).symm)).trans ZP.out)); clear z0 z1; (try (have hz7 : w6.heap[w.heap.size + 1]? = some (.cells (cells zeroS) 26 (0, 0)) := hT7.trans (by simp only [heap_drew]; rw [Below.heap_alloc w5 _ _ hsT]; exact ZT.out); obtain ⟨y0, y1, y2, y3, y4, y5, y6, y7⟩ := eight_cells' (k := zeroS) rfl hz7; have yf := row_frozen hz7; have Hz7 := Lib.hid hz7; clear hz7)); have HT7 := Lib.hid hT7; have H7 := Lib.hid ho7; have G7 := Lib.hid hg7; clear hT7 ho7 hg7))
        show Exit.then _ _ Exit.normal _ (store8 w6 (w.heap.size + 1) (.int .u8 a0.toNat) (.int .u8 a1.toNat) (.int .u8 a2.toNat) (.int .u8 a3.toNat) (.int .u8 a4.toNat) (.int .u8 a5.toNat) (.int .u8 a6.toNat) (.int .u8 a7.toNat))
        have hfin : Hid (store8 w6 (w.heap.size + 1) (.int .u8 a0.toNat) (.int .u8 a1.toNat) (.int .u8 a2.toNat) (.int .u8 a3.toNat) (.int .u8 a4.toNat) (.int .u8 a5.toNat) (.int .u8 a6.toNat) (.int .u8 a7.toNat) = w6.setRow (w.heap.size + 1) (cells p.s)) := Lib.hid (by
          rw [store8_eq Hz7.out, set8_secret _ rfl, Hk8.out]; rfl)
        rw [hfin.out]
        clear y0 y1 y2 y3 y4 y5 y6 y7 yf k2 k3 k4 k5 k6 k7 k8 k9 t0 t1 t2 t3 t4 t5 t6 t7 tf hcA hfA e2 e3 e4 e5 e6 e7 e8 e9
        go_wp2_with (fail)
        refine bodyPost_ret (results_tct rfl _ _ (w.heap.size + 1) _ _ _ _ rfl (setRow_heap _ _ _ _ _ _ Hz7.out) Try.underlying26 rfl (by rw [infoSecret, cells_size, R5.out])) rfl ?_
        rw [HR9.out]
        have hgf : w6.grownBy (w6.setRow (w.heap.size + 1) (cells p.s)) (some (w.heap.size + 1)) := ⟨rfl, rfl, rfl, by simp, fun g _ hne => setRow_other _ _ _ _ (fun e => hne (by rw [e]))⟩
        exact ⟨_, rfl, ownsRow_mono (H7.out.kept hgf (.inr (own_ne H7.out hsT))) (by omega), below_setRow (below_grown ZB.out G7.out (fun g hg => by injection hg with hg; omega)) (by omega) _⟩
      · have A3 := Lib.hid (sliceR_drop (k + 1) (by omega) hlc hcm (by omega) ZR.out)
        obtain ⟨k0, k1, e2, e3, e4, e5, e6, e7, e8, e9⟩ := ten_cells Hk8.out ZP.out
        clear k0 k1
        have hsT : w.heap.size + 1 < w5.heap.size := by omega
        obtain ⟨t0, t1, t2, t3, t4, t5, t6, t7⟩ := eight_cells' (k := zeroS) rfl ZT.out
        have tf := row_frozen ZT.out
        have hcA : ∀ ob j, (w5.alloc ob).cell? ⟨w.heap.size + 1, j, none⟩ = w5.cell? ⟨w.heap.size + 1, j, none⟩ := fun ob j => World.cell?_alloc_past _ _ _ hsT
        have hfA : ∀ ob j, (w5.alloc ob).frozen? ⟨w.heap.size + 1, j, none⟩ = w5.frozen? ⟨w.heap.size + 1, j, none⟩ := fun ob j => World.frozen?_alloc_past _ _ _ hsT
        have hTP : w.heap.size + 1 ≠ P := by omega
        have hn0 : (Value.slice (some ⟨b, o2, none⟩) k cap).ownBlock ≠ some (w.heap.size + 1) := slice_ne (by omega)
        have hn1 := own_ne (D := w.heap.size + 1) Z10.out (by omega)
        have hn2 := own_ne (D := w.heap.size + 1) Z12.out (by omega)
        have hn3 : (Value.slice (some ⟨b, o2 + (k + 1) * 10, none⟩) (l.length - (k + 1)) (cap - (k + 1))).ownBlock ≠ some (w.heap.size + 1) := slice_ne (by omega)
        go_wp2_with (fail)
        go_region_held3 (fun w' => w'.cell? ⟨P, 2, none⟩ = some (.int .u8 a0.toNat) ∧ w'.cell? ⟨P, 3, none⟩ = some (.int .u8 a1.toNat) ∧ w'.cell? ⟨P, 4, none⟩ = some (.int .u8 a2.toNat) ∧ w'.cell? ⟨P, 5, none⟩ = some (.int .u8 a3.toNat) ∧ w'.cell? ⟨P, 6, none⟩ = some (.int .u8 a4.toNat) ∧ w'.cell? ⟨P, 7, none⟩ = some (.int .u8 a5.toNat) ∧ w'.cell? ⟨P, 8, none⟩ = some (.int .u8 a6.toNat) ∧ w'.cell? ⟨P, 9, none⟩ = some (.int .u8 a7.toNat)) (refine ⟨?_, ?_, ?_, ?_, ?_, ?_, ?_, ?_⟩ <;> (first | with_reducible assumption | (simp only [World.cell?_drew, cell_ne hTP, World.cell?_alloc_past _ _ _ hP5]; with_reducible assumption)))
          ((go_at_call 40; go_must (refine (concat4 w5 _ (w.heap.size + 1) _ _ _ _ _ (l.take k) bf bh.reverse (l.drop (k + 1)) (by simpa using A0.out) A1.out (by simpa using A2.out) (by simpa using A3.out) hn0 hn1 hn2 hn3 (by simp; omega) hsT ?_ ?_).mono ?_); (refine ⟨rfl, rfl, rfl, by simp, fun g hg _ => ?_⟩; rw [heap_drew, Below.heap_alloc w5 _ g hg]); (rw [heap_drew]; exact heap_alloc_at _ _ _ rfl); rintro e w6 ⟨v6, rfl, ho7, hg7, hT7⟩; go_must (obtain ⟨z0, z1, k2, k3, k4, k5, k6, k7, k8, k9⟩ := ten_cells Hk8.out ((hg7.block P hP5 (fun e => hTP (Option.some.inj e).symm)).trans ZP.out)); clear z0 z1; (try (have hz7 : w6.heap[w.heap.size + 1]? = some (.cells (cells zeroS) 26 (0, 0)) := hT7.trans (by simp only [heap_drew]; rw [Below.heap_alloc w5 _ _ hsT]; exact ZT.out); obtain ⟨y0, y1, y2, y3, y4, y5, y6, y7⟩ := eight_cells' (k := zeroS) rfl hz7; have yf := row_frozen hz7; have Hz7 := Lib.hid hz7; clear hz7)); have HT7 := Lib.hid hT7; have H7 := Lib.hid ho7; have G7 := Lib.hid hg7; clear hT7 ho7 hg7))
        show Exit.then _ _ Exit.normal _ (store8 w6 (w.heap.size + 1) (.int .u8 a0.toNat) (.int .u8 a1.toNat) (.int .u8 a2.toNat) (.int .u8 a3.toNat) (.int .u8 a4.toNat) (.int .u8 a5.toNat) (.int .u8 a6.toNat) (.int .u8 a7.toNat))
        have hfin : Hid (store8 w6 (w.heap.size + 1) (.int .u8 a0.toNat) (.int .u8 a1.toNat) (.int .u8 a2.toNat) (.int .u8 a3.toNat) (.int .u8 a4.toNat) (.int .u8 a5.toNat) (.int .u8 a6.toNat) (.int .u8 a7.toNat) = w6.setRow (w.heap.size + 1) (cells p.s)) := Lib.hid (by
          rw [store8_eq Hz7.out, set8_secret _ rfl, Hk8.out]; rfl)
        rw [hfin.out]
        clear y0 y1 y2 y3 y4 y5 y6 y7 yf k2 k3 k4 k5 k6 k7 k8 k9 t0 t1 t2 t3 t4 t5 t6 t7 tf hcA hfA e2 e3 e4 e5 e6 e7 e8 e9
        go_wp2_with (fail)
        refine bodyPost_ret (results_tct rfl _ _ (w.heap.size + 1) _ _ _ _ rfl (setRow_heap _ _ _ _ _ _ Hz7.out) Try.underlying26 rfl (by rw [infoSecret, cells_size, R5.out])) rfl ?_
        rw [HR9.out]
        have hgf : w6.grownBy (w6.setRow (w.heap.size + 1) (cells p.s)) (some (w.heap.size + 1)) := ⟨rfl, rfl, rfl, by simp, fun g _ hne => setRow_other _ _ _ _ (fun e => hne (by rw [e]))⟩
        exact ⟨_, rfl, ownsRow_mono (H7.out.kept hgf (.inr (own_ne H7.out hsT))) (by omega), below_setRow (below_grown ZB.out G7.out (fun g hg => by injection hg with hg; omega)) (by omega) _⟩
end Go.Proofs.Ytccidllcjaaeeaa
