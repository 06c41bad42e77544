/- The plays' world: many sides beside each other, the list of them and the frames under way. Definitions and laws of the memory; no condition of its own. -/
import Derived.Test.YtccidllcjaaeeabGreatDoorHSideMem
namespace Go.Proofs.YtccidllcjaaeeabGreatDoor
set_option maxRecDepth 100000
open Go Go.Maps Go.RowKit
open Go.Shelf Go.Lib Go.Sort Go.MuLone
def sidesV (m : Nat) (d : Nat → SPl) : List Value := (List.range m).map fun k => .pointer (some ⟨(d k).S, 0, none⟩)
def strsV (l : List ByteArray) : List Value := l.map fun s => .string s
theorem sidesV_len (m : Nat) (d : Nat → SPl) : (sidesV m d).length = m := by simp [sidesV]
theorem strsV_len (l : List ByteArray) : (strsV l).length = l.length := by simp [strsV]
theorem sidesV_get {m : Nat} (d : Nat → SPl) {k : Nat} (h : k < m) : (sidesV m d)[k]? = some (.pointer (some ⟨(d k).S, 0, none⟩)) := by
  simp [sidesV, h]
theorem sidesV_same {m : Nat} {d e : Nat → SPl} (h : ∀ k, k < m → (e k).S = (d k).S) : sidesV m e = sidesV m d := by
  refine List.map_congr_left fun k hk => ?_
  rw [h k (List.mem_range.1 hk)]
theorem sidesV_succ (m : Nat) (d : Nat → SPl) (x : SPl) : sidesV (m + 1) (putS d m x) = sidesV m d ++ [.pointer (some ⟨x.S, 0, none⟩)] := by
  rw [sidesV, List.range_succ, List.map_append, List.map_singleton, putS_same]
  congr 1
  refine List.map_congr_left fun k hk => ?_
  rw [putS_ne _ _ (by have := List.mem_range.1 hk; omega)]
/-- What a step leaves of a side. -/
def SideGo (w w' : World) (P : Nat → Prop) (d : SPl) (u : Nat) : Prop :=
  ∃ (d' : SPl) (s' : GSt), d'.S = d.S ∧ SideAt w' (Grown P w w') d' s' (u + 1) ∧ PFrm w w' P ∧ EG w'
structure PlayAt (w : World) (base W m : Nat) (d : Nat → SPl) (s : Nat → GSt) (P : Nat → Nat → Prop) (u : Nat) (lv bv : Value) (bag : List ByteArray) : Prop where
  sides : Sides w m d s P u
  blk : w.heap[W]? = some (.cells #[lv, bv] 30 (0, 0))
  row : w.ownsRow base 40 1 lv m (sidesV m d)
  bagrow : w.ownsRow base 9 1 bv bag.length (strsV bag)
  low : ∀ k, k < m → ∀ b, P k b → base ≤ b
  lowW : base ≤ W
  nW : ∀ k, k < m → ¬ P k W
  nL : ∀ k, k < m → ∀ b, lv.ownBlock = some b → ¬ P k b
  nB : ∀ k, k < m → ∀ b, bv.ownBlock = some b → ¬ P k b
  few : bag.length ≤ 64
  short : ∀ f ∈ bag, f.size ≤ 47
  eg : EG w
/-- What a step leaves of the whole. -/
def PlayGo (w w' : World) (base W m : Nat) (u : Nat) : Prop :=
  ∃ d s P lv bv bag, PlayAt w' base W m d s P u lv bv bag ∧ Below base w w'
theorem PlayAt.below {w w' : World} {base W m u : Nat} {d : Nat → SPl} {s : Nat → GSt} {P : Nat → Nat → Prop} {lv bv : Value} {bag : List ByteArray} (h : PlayAt w base W m d s P u lv bv bag) (hb : Below w.heap.size w w') : PlayAt w' base W m d s P u lv bv bag :=
  ⟨h.sides.below hb, (hb.block _ (Array.getElem?_eq_some_iff.1 h.blk).1).trans h.blk, ownsRow_below h.row hb, ownsRow_below h.bagrow hb, h.low, h.lowW, h.nW, h.nL, h.nB, h.few, h.short, h.eg.below hb⟩
theorem PlayAt.more {w : World} {base W m u v : Nat} {d : Nat → SPl} {s : Nat → GSt} {P : Nat → Nat → Prop} {lv bv : Value} {bag : List ByteArray} (h : PlayAt w base W m d s P u lv bv bag) (hu : u ≤ v) : PlayAt w base W m d s P v lv bv bag :=
  ⟨h.sides.more hu, h.blk, h.row, h.bagrow, h.low, h.lowW, h.nW, h.nL, h.nB, h.few, h.short, h.eg⟩
/-- One side has gone a step. -/
theorem PlayAt.step {w w' : World} {base W m u k : Nat} {d : Nat → SPl} {s : Nat → GSt} {P : Nat → Nat → Prop} {lv bv : Value} {bag : List ByteArray} (h : PlayAt w base W m d s P u lv bv bag) (hk : k < m) (hg : SideGo w w' (P k) (d k) u) (hbase : base ≤ w.heap.size) :
    ∃ d' s' P', PlayAt w' base W m d' s' P' (u + 1) lv bv bag ∧ Below base w w' ∧ (∀ k, k < m → (d' k).S = (d k).S) := by
  obtain ⟨dk, sk, hS, hs, hP, hE⟩ := hg
  have hblk := (hP.block W (Array.getElem?_eq_some_iff.1 h.blk).1 (h.nW k hk)).trans h.blk
  have hsame : ∀ j, j < m → (putS d k dk j).S = (d j).S := fun j _ => by
    by_cases e : j = k
    · subst e; rw [putS_same, hS]
    · rw [putS_ne _ _ e]
  have hnew : ∀ b, b < w.heap.size → (∀ j, j < m → ¬ P j b) → ∀ j, j < m → ¬ putS P k (Grown (P k) w w') j b := fun b hb hn j hj hp => by
    by_cases e : j = k
    · subst e
      rw [putS_same] at hp
      rcases hp with hp | hp
      · exact hn j hj hp
      · omega
    · rw [putS_ne _ _ e] at hp; exact hn j hj hp
  refine ⟨putS d k dk, putS s k sk, putS P k (Grown (P k) w w'), ⟨h.sides.step hk hs hP, hblk, ?_, ?_, fun j hj b hb => ?_, h.lowW, hnew W (Array.getElem?_eq_some_iff.1 h.blk).1 h.nW, fun j hj b hb => ?_, fun j hj b hb => ?_, h.few, h.short, hE⟩, ⟨hP.os, hP.tape, hP.output, hP.size, fun b hb => ?_⟩, hsame⟩
  · rw [sidesV_same hsame]
    exact ownsRow_blk h.row fun b hb => hP.block b (h.row.lt b hb).2 (h.nL k hk b hb)
  · exact ownsRow_blk h.bagrow fun b hb => hP.block b (h.bagrow.lt b hb).2 (h.nB k hk b hb)
  · by_cases e : j = k
    · subst e
      rw [putS_same] at hb
      rcases hb with hb | hb
      · exact h.low j hj b hb
      · omega
    · rw [putS_ne _ _ e] at hb; exact h.low j hj b hb
  · exact hnew b (h.row.lt b hb).2 (fun i hi => h.nL i hi b hb) j hj
  · exact hnew b (h.bagrow.lt b hb).2 (fun i hi => h.nB i hi b hb) j hj
  · exact hP.block b (by omega) fun hp => by have := h.low k hk b hp; omega
/-- The bag is another. -/
theorem PlayAt.bagged {w w' : World} {base W m u : Nat} {d : Nat → SPl} {s : Nat → GSt} {P : Nat → Nat → Prop} {lv bv bv' : Value} {bag bag' : List ByteArray} (h : PlayAt w base W m d s P u lv bv bag) (hg : w.grownBy w' bv.ownBlock) (ho : w'.ownsRow base 9 1 bv' bag'.length (strsV bag')) (hloc : bv'.ownBlock = bv.ownBlock ∨ ∀ b, bv'.ownBlock = some b → w.heap.size ≤ b) (hbase : base ≤ w.heap.size) (h64 : bag'.length ≤ 64) (h47 : ∀ f ∈ bag', f.size ≤ 47) (hE0 : 0 < base) :
    PlayAt (w'.setCell ⟨W, 1, none⟩ bv') base W m d s P u lv bv' bag' ∧ Below base w (w'.setCell ⟨W, 1, none⟩ bv') := by
  have hWlt := (Array.getElem?_eq_some_iff.1 h.blk).1
  have hbW : bv.ownBlock ≠ some W := fun e => by
    obtain ⟨cs, hc⟩ := row_cells h.bagrow e
    rw [h.blk] at hc; injection hc with hc; injection hc with _ hc; exact absurd hc (by decide)
  have hlW : lv.ownBlock ≠ some W := fun e => by
    obtain ⟨cs, hc⟩ := row_cells h.row e
    rw [h.blk] at hc; injection hc with hc; injection hc with _ hc; exact absurd hc (by decide)
  have hlb : ∀ b, lv.ownBlock = some b → bv.ownBlock ≠ some b := fun b hb e => by
    obtain ⟨cs, hc⟩ := row_cells h.bagrow e
    obtain ⟨cs', hc'⟩ := row_cells h.row hb
    rw [hc] at hc'; injection hc' with hc'; injection hc' with _ hc'; exact absurd hc' (by decide)
  have hblk := (hg.block W hWlt (fun e => hbW e.symm)).trans h.blk
  have hbW' : bv'.ownBlock ≠ some W := fun e => by
    rcases hloc with hl | hl
    · exact hbW (hl ▸ e)
    · have := hl W e; omega
  have hF : PFrm w (w'.setCell ⟨W, 1, none⟩ bv') (fun b => b = W ∨ bv.ownBlock = some b) := ⟨hg.os, hg.tape, hg.output, by rw [size_setCell]; exact hg.size, fun b hb hn => (heap_ne (fun e => hn (.inl e.symm))).trans (hg.block b hb fun e => hn (.inr e.symm)), fun b cs hc => by
    have hb := (Array.getElem?_eq_some_iff.1 hc).1
    refine (heap_ne (fun e => ?_)).trans (hg.block b hb fun e => ?_)
    · rw [← e, h.blk] at hc; injection hc with hc; injection hc with _ hc; exact absurd hc (by decide)
    · obtain ⟨cs', hc'⟩ := row_cells h.bagrow e.symm
      rw [hc'] at hc; injection hc with hc; injection hc with _ hc; exact absurd hc (by decide)⟩
  refine ⟨⟨h.sides.keep hF fun j hj b hb hq => ?_, ?_, ?_, ?_, h.low, h.lowW, h.nW, h.nL, fun j hj b hb hp => ?_, h64, h47, h.eg.keep (hF.block 0 (block_lt_of_cell h.eg) ?_)⟩, ⟨hF.os, hF.tape, hF.output, hF.size, fun b hb => hF.block b (by omega) ?_⟩⟩
  · rcases hq with rfl | hq
    · exact h.nW j hj hb
    · exact h.nB j hj b hq hb
  · rw [heap_setCell_same _ _ _ _ _ _ hblk]; rfl
  · refine ownsRow_blk h.row fun b hb => hF.block b (h.row.lt b hb).2 fun hq => ?_
    rcases hq with rfl | hq
    · exact hlW hb
    · exact hlb b hb hq
  · exact ownsRow_blk ho fun b hb => heap_ne (fun e => hbW' (e ▸ hb))
  · rcases hloc with hl | hl
    · exact h.nB j hj b (hl ▸ hb) hp
    · have := h.sides.lt j hj b hp; have := hl b hb; omega
  · rintro (e | e)
    · have := h.lowW; omega
    · have := (h.bagrow.lt 0 e).1; omega
  · rintro (e | e)
    · have := h.lowW; omega
    · have := (h.bagrow.lt b e).1; omega
/-- One side more. -/
theorem PlayAt.add {w w' : World} {base W m u : Nat} {d : Nat → SPl} {s : Nat → GSt} {P : Nat → Nat → Prop} {lv lv' bv : Value} {bag : List ByteArray} {dk : SPl} {sk : GSt} {Q : Nat → Prop} (h : PlayAt w base W m d s P u lv bv bag) (hs : SideAt w Q dk sk u) (hQ : ∀ b, Q b → base ≤ b ∧ b < w.heap.size) (hn : ∀ j, j < m → ∀ b, P j b → ¬ Q b) (hW : ¬ Q W) (hL : ∀ b, lv.ownBlock = some b → ¬ Q b) (hB : ∀ b, bv.ownBlock = some b → ¬ Q b) (hg : w.grownBy w' lv.ownBlock) (ho : w'.ownsRow base 40 1 lv' (m + 1) (sidesV (m + 1) (putS d m dk))) (hloc : lv'.ownBlock = lv.ownBlock ∨ ∀ b, lv'.ownBlock = some b → w.heap.size ≤ b) (hbase : base ≤ w.heap.size) (hE0 : 0 < base) :
    PlayAt (w'.setCell ⟨W, 0, none⟩ lv') base W (m + 1) (putS d m dk) (putS s m sk) (putS P m Q) u lv' bv bag ∧ Below base w (w'.setCell ⟨W, 0, none⟩ lv') := by
  have hWlt := (Array.getElem?_eq_some_iff.1 h.blk).1
  have hbW : bv.ownBlock ≠ some W := fun e => by
    obtain ⟨cs, hc⟩ := row_cells h.bagrow e
    rw [h.blk] at hc; injection hc with hc; injection hc with _ hc; exact absurd hc (by decide)
  have hlW : lv.ownBlock ≠ some W := fun e => by
    obtain ⟨cs, hc⟩ := row_cells h.row e
    rw [h.blk] at hc; injection hc with hc; injection hc with _ hc; exact absurd hc (by decide)
  have hlb : ∀ b, bv.ownBlock = some b → lv.ownBlock ≠ some b := fun b hb e => by
    obtain ⟨cs, hc⟩ := row_cells h.bagrow hb
    obtain ⟨cs', hc'⟩ := row_cells h.row e
    rw [hc] at hc'; injection hc' with hc'; injection hc' with _ hc'; exact absurd hc' (by decide)
  have hblk := (hg.block W hWlt (fun e => hlW e.symm)).trans h.blk
  have hlW' : lv'.ownBlock ≠ some W := fun e => by
    rcases hloc with hl | hl
    · exact hlW (hl ▸ e)
    · have := hl W e; omega
  have hF : PFrm w (w'.setCell ⟨W, 0, none⟩ lv') (fun b => b = W ∨ lv.ownBlock = some b) := ⟨hg.os, hg.tape, hg.output, by rw [size_setCell]; exact hg.size, fun b hb hn => (heap_ne (fun e => hn (.inl e.symm))).trans (hg.block b hb fun e => hn (.inr e.symm)), fun b cs hc => by
    have hb := (Array.getElem?_eq_some_iff.1 hc).1
    refine (heap_ne (fun e => ?_)).trans (hg.block b hb fun e => ?_)
    · rw [← e, h.blk] at hc; injection hc with hc; injection hc with _ hc; exact absurd hc (by decide)
    · obtain ⟨cs', hc'⟩ := row_cells h.row e.symm
      rw [hc'] at hc; injection hc with hc; injection hc with _ hc; exact absurd hc (by decide)⟩
  have hnQ : ∀ j, j < m + 1 → ∀ b, putS P m Q j b → b < w.heap.size ∧ base ≤ b ∧ b ≠ W ∧ lv.ownBlock ≠ some b ∧ bv.ownBlock ≠ some b := fun j hj b hb => by
    by_cases e : j = m
    · subst e
      rw [putS_same] at hb
      exact ⟨(hQ b hb).2, (hQ b hb).1, fun e => hW (e ▸ hb), fun e => hL b e hb, fun e => hB b e hb⟩
    · rw [putS_ne _ _ e] at hb
      have hj' : j < m := by omega
      exact ⟨h.sides.lt j hj' b hb, h.low j hj' b hb, fun e => h.nW j hj' (e ▸ hb), fun e => h.nL j hj' b e hb, fun e => h.nB j hj' b e hb⟩
  refine ⟨⟨(h.sides.add hs (fun b hb => (hQ b hb).2) hn).keep hF fun j hj b hb hq => ?_, ?_, ?_, ?_, fun j hj b hb => (hnQ j hj b hb).2.1, h.lowW, fun j hj hp => (hnQ j hj W hp).2.2.1 rfl, fun j hj b hb hp => ?_, fun j hj b hb hp => (hnQ j hj b hp).2.2.2.2 hb, h.few, h.short, h.eg.keep (hF.block 0 (block_lt_of_cell h.eg) ?_)⟩, ⟨hF.os, hF.tape, hF.output, hF.size, fun b hb => hF.block b (by omega) ?_⟩⟩
  · rcases hq with rfl | hq
    · exact (hnQ j hj _ hb).2.2.1 rfl
    · exact (hnQ j hj b hb).2.2.2.1 hq
  · rw [heap_setCell_same _ _ _ _ _ _ hblk]; rfl
  · exact ownsRow_blk ho fun b hb => heap_ne (fun e => hlW' (e ▸ hb))
  · refine ownsRow_blk h.bagrow fun b hb => hF.block b (h.bagrow.lt b hb).2 fun hq => ?_
    rcases hq with rfl | hq
    · exact hbW hb
    · exact hlb b hb hq
  · rcases hloc with hl | hl
    · exact (hnQ j hj b hp).2.2.2.1 (hl ▸ hb)
    · have := (hnQ j hj b hp).1; have := hl b hb; omega
  · rintro (e | e)
    · have := h.lowW; omega
    · have := (h.row.lt 0 e).1; omega
  · rintro (e | e)
    · have := h.lowW; omega
    · have := (h.row.lt b e).1; omega
end Go.Proofs.YtccidllcjaaeeabGreatDoor
