/- A side: a member's group and the document's own, side by side, and many sides beside each other. Definitions and laws of the memory; no condition of its own. -/
import Derived.Test.YtccidllcjaaeeabGreatDoorHRefProtect
namespace Go.Proofs.YtccidllcjaaeeabGreatDoor
set_option maxRecDepth 100000
open Go Go.Maps Go.RowKit
open Go.Shelf Go.Lib Go.Sort Go.MuLone
/-- Where a side lies. -/
structure SPl where
  S : Nat
  p : GPl
  R : Nat
  B : Nat
/-- Only some blocks may have turned, and no row of numbers. -/
structure PFrm (w w' : World) (P : Nat → Prop) : Prop where
  os : w'.os = w.os
  tape : w'.tape = w.tape
  output : w'.output = w.output
  size : w.heap.size ≤ w'.heap.size
  block : ∀ b, b < w.heap.size → ¬ P b → w'.heap[b]? = w.heap[b]?
  ints : ∀ (b : Nat) (cs : Array Value), w.heap[b]? = some (.cells cs 3 (0, 0)) → w'.heap[b]? = w.heap[b]?
/-- The old blocks and the new ones. -/
def Grown (P : Nat → Prop) (w w' : World) : Nat → Prop := fun b => P b ∨ (w.heap.size ≤ b ∧ b < w'.heap.size)
theorem PFrm.refl (w : World) (P : Nat → Prop) : PFrm w w P := ⟨rfl, rfl, rfl, Nat.le_refl _, fun _ _ _ => rfl, fun _ _ _ => rfl⟩
theorem PFrm.trans {a b c : World} {P Q : Nat → Prop} (h : PFrm a b P) (k : PFrm b c Q) (hQ : ∀ x, x < a.heap.size → Q x → P x) : PFrm a c P :=
  ⟨k.os.trans h.os, k.tape.trans h.tape, k.output.trans h.output, Nat.le_trans h.size k.size, fun x hx hP => (k.block x (Nat.lt_of_lt_of_le hx h.size) fun hq => hP (hQ x hx hq)).trans (h.block x hx hP),
    fun x cs hc => (k.ints x cs ((h.ints x cs hc).trans hc)).trans (h.ints x cs hc)⟩
theorem PFrm.below {a b c : World} {P : Nat → Prop} (h : PFrm a b P) (k : Below b.heap.size b c) : PFrm a c P :=
  ⟨k.os.trans h.os, k.tape.trans h.tape, k.output.trans h.output, Nat.le_trans h.size k.size, fun x hx hP => (k.block x (Nat.lt_of_lt_of_le hx h.size)).trans (h.block x hx hP),
    fun x cs hc => (k.block x (Array.getElem?_eq_some_iff.1 ((h.ints x cs hc).trans hc)).1).trans (h.ints x cs hc)⟩
theorem PFrm.ofBelow {a b : World} (P : Nat → Prop) (k : Below a.heap.size a b) : PFrm a b P := (PFrm.refl a P).below k
/-- Blocks behind the first world's are none of its own. -/
theorem PFrm.over {a b c : World} {P : Nat → Prop} (h : PFrm a b P) (k : PFrm b c fun x => a.heap.size ≤ x) : PFrm a c P := h.trans k fun x hx hq => absurd hq (by omega)
theorem PFrm.mono {a b : World} {P Q : Nat → Prop} (h : PFrm a b P) (hPQ : ∀ x, P x → Q x) : PFrm a b Q :=
  ⟨h.os, h.tape, h.output, h.size, fun x hx hq => h.block x hx fun hp => hq (hPQ x hp), h.ints⟩
theorem PFrm.ofRef {a b : World} {R B : Nat} {P : Nat → Prop} {lo : Nat} {s : GSt} {st : Int} (h : RFrm a b R B) (hr : RefAt a lo R B s st) (hR : P R) (hB : P B) : PFrm a b P :=
  ⟨h.os, h.tape, h.output, h.size, fun x hx hP => h.block x hx (fun e => hP (e ▸ hR)) (fun e => hP (e ▸ hB)), fun x cs hc => by
    obtain ⟨⟨cs1, h1, _⟩, ⟨ms, h3, _⟩, _, _⟩ := hr
    refine h.block x (Array.getElem?_eq_some_iff.1 hc).1 (fun e => ?_) (fun e => ?_)
    · rw [e, h1] at hc; injection hc with hc; injection hc with _ hc; exact absurd hc (by decide)
    · rw [e, h3] at hc; injection hc with hc; injection hc with _ hc; exact absurd hc (by decide)⟩
/-- A side's own blocks. -/
def OwnS (d : SPl) (b : Nat) : Prop := b = d.S ∨ b = d.R ∨ b = d.B ∨ b = d.p.G ∨ b = d.p.H ∨ b = d.p.K ∨ d.p.T.ownBlock = some b
theorem PFrm.ofGrp {a b : World} {p : GPl} {P : Nat → Prop} {lo t : Nat} {s : GSt} (h : Frm a b p) (hg : GroupAt a lo p s t) (hP : ∀ x, x = p.G ∨ x = p.H ∨ x = p.K ∨ p.T.ownBlock = some x → P x) : PFrm a b P :=
  ⟨h.os, h.tape, h.output, h.size, fun x hx hn => h.block x hx (fun e => hn (hP x (.inl e))) (fun e => hn (hP x (.inr (.inl e)))) (fun e => hn (hP x (.inr (.inr (.inl e))))) (fun e => hn (hP x (.inr (.inr (.inr e))))),
    fun x cs hc => frm_stay hg h x cs _ _ hc (by decide) (by decide)⟩
/-- A side's memory. -/
structure SideAt (w : World) (P : Nat → Prop) (d : SPl) (s : GSt) (u : Nat) : Prop where
  blk : w.heap[d.S]? = some (.cells #[.pointer (some ⟨d.p.G, 0, none⟩), .pointer (some ⟨d.R, 0, none⟩), .int .i64 s.cnt] 42 (0, 0))
  mu : d.p.mu = 0
  grp : GroupAt w 1 d.p s (5 * u)
  ref : ∃ st, RefAt w 1 d.R d.B s st
  inv : GInv s
  low : 0 ≤ s.cnt
  high : s.cnt ≤ 400 * u
  own : ∀ b, OwnS d b → P b
theorem OwnS.grp {d : SPl} {x : Nat} (h : x = d.p.G ∨ x = d.p.H ∨ x = d.p.K ∨ d.p.T.ownBlock = some x) : OwnS d x := .inr (.inr (.inr h))
/-- The document's group at the same blocks. -/
theorem RefAt.same {w w' : World} {lo R B : Nat} {s : GSt} {st : Int} (h : RefAt w lo R B s st) (hR : w'.heap[R]? = w.heap[R]?) (hB : w'.heap[B]? = w.heap[B]?) (hi : ∀ (b : Nat) (cs : Array Value), w.heap[b]? = some (.cells cs 3 (0, 0)) → w'.heap[b]? = w.heap[b]?) : RefAt w' lo R B s st := by
  obtain ⟨⟨cs, h1, h2⟩, ⟨ms, h3, h4⟩, h5, h6⟩ := h
  refine ⟨⟨cs, hR.trans h1, h2⟩, ⟨ms, hB.trans h3, fun m hm => ?_⟩, h5, h6⟩
  obtain ⟨a, b, ov, c, d⟩ := h4 m hm
  exact ⟨a, b, ov, c, d.keep hi⟩
theorem SideAt.keep {w w' : World} {P : Nat → Prop} {d : SPl} {s : GSt} {u : Nat} (h : SideAt w P d s u) (hk : ∀ b, P b → w'.heap[b]? = w.heap[b]?) (hi : ∀ (b : Nat) (cs : Array Value), w.heap[b]? = some (.cells cs 3 (0, 0)) → w'.heap[b]? = w.heap[b]?) : SideAt w' P d s u := by
  obtain ⟨h1, h2, h3, ⟨st, h4⟩, h5, h6, h7, h8⟩ := h
  exact ⟨(hk _ (h8 _ (.inl rfl))).trans h1, h2, group_keep h3 fun b hb => hk b (h8 b (OwnS.grp hb)), ⟨st, h4.same (hk _ (h8 _ (.inr (.inl rfl)))) (hk _ (h8 _ (.inr (.inr (.inl rfl))))) hi⟩, h5, h6, h7, h8⟩
theorem SideAt.more {w : World} {P Q : Nat → Prop} {d : SPl} {s : GSt} {u v : Nat} (h : SideAt w P d s u) (hu : u ≤ v) (hQ : ∀ b, P b → Q b) : SideAt w Q d s v := by
  obtain ⟨h1, h2, h3, h4, h5, h6, h7, h8⟩ := h
  exact ⟨h1, h2, group_more h3 (by omega), h4, h5, h6, by omega, fun b hb => hQ b (h8 b hb)⟩
/-- Many sides, none of them with another's blocks. -/
structure Sides (w : World) (m : Nat) (d : Nat → SPl) (s : Nat → GSt) (P : Nat → Nat → Prop) (u : Nat) : Prop where
  side : ∀ k, k < m → SideAt w (P k) (d k) (s k) u
  lt : ∀ k, k < m → ∀ b, P k b → b < w.heap.size
  apart : ∀ j k, j < m → k < m → j ≠ k → ∀ b, P j b → ¬ P k b
theorem Sides.nil (w : World) (d : Nat → SPl) (s : Nat → GSt) (P : Nat → Nat → Prop) (u : Nat) : Sides w 0 d s P u := ⟨fun _ h => absurd h (Nat.not_lt_zero _), fun _ h => absurd h (Nat.not_lt_zero _), fun _ _ h => absurd h (Nat.not_lt_zero _)⟩
/-- Other blocks turned. -/
theorem Sides.keep {w w' : World} {m : Nat} {d : Nat → SPl} {s : Nat → GSt} {P : Nat → Nat → Prop} {u : Nat} {Q : Nat → Prop} (h : Sides w m d s P u) (k : PFrm w w' Q) (hQ : ∀ j, j < m → ∀ b, P j b → ¬ Q b) : Sides w' m d s P u :=
  ⟨fun j hj => (h.side j hj).keep (fun b hb => k.block b (h.lt j hj b hb) (hQ j hj b hb)) k.ints, fun j hj b hb => Nat.lt_of_lt_of_le (h.lt j hj b hb) k.size, h.apart⟩
theorem Sides.below {w w' : World} {m : Nat} {d : Nat → SPl} {s : Nat → GSt} {P : Nat → Nat → Prop} {u : Nat} (h : Sides w m d s P u) (k : Below w.heap.size w w') : Sides w' m d s P u :=
  h.keep (Q := fun _ => False) (PFrm.ofBelow _ k) fun _ _ _ _ h => h
theorem Sides.more {w : World} {m : Nat} {d : Nat → SPl} {s : Nat → GSt} {P : Nat → Nat → Prop} {u v : Nat} (h : Sides w m d s P u) (hu : u ≤ v) : Sides w m d s P v :=
  ⟨fun j hj => (h.side j hj).more hu fun _ hb => hb, h.lt, h.apart⟩
def putS {α : Type} (f : Nat → α) (k : Nat) (x : α) : Nat → α := fun j => if j = k then x else f j
theorem putS_same {α : Type} (f : Nat → α) (k : Nat) (x : α) : putS f k x k = x := if_pos rfl
theorem putS_ne {α : Type} (f : Nat → α) {k j : Nat} (x : α) (h : j ≠ k) : putS f k x j = f j := if_neg h
/-- One side has gone a step. -/
theorem Sides.step {w w' : World} {m : Nat} {d : Nat → SPl} {s : Nat → GSt} {P : Nat → Nat → Prop} {u : Nat} {k : Nat} {dk : SPl} {sk : GSt} (h : Sides w m d s P u) (hk : k < m) (hs : SideAt w' (Grown (P k) w w') dk sk (u + 1)) (hf : PFrm w w' (P k)) :
    Sides w' m (putS d k dk) (putS s k sk) (putS P k (Grown (P k) w w')) (u + 1) := by
  refine ⟨fun j hj => ?_, fun j hj b hb => ?_, fun i j hi hj hij b hb hb2 => ?_⟩
  · by_cases e : j = k
    · subst e; rw [putS_same, putS_same, putS_same]; exact hs
    · rw [putS_ne _ _ e, putS_ne _ _ e, putS_ne _ _ e]
      exact ((h.side j hj).more (Nat.le_succ _) fun _ hb => hb).keep (fun b hb => hf.block b (h.lt j hj b hb) (h.apart j k hj hk e b hb)) hf.ints
  · by_cases e : j = k
    · subst e; rw [putS_same] at hb
      rcases hb with hb | hb
      · exact Nat.lt_of_lt_of_le (h.lt j hj b hb) hf.size
      · exact hb.2
    · rw [putS_ne _ _ e] at hb
      exact Nat.lt_of_lt_of_le (h.lt j hj b hb) hf.size
  · by_cases e : i = k
    · subst e
      rw [putS_same] at hb
      rw [putS_ne _ _ (fun e => hij e.symm)] at hb2
      rcases hb with hb | hb
      · exact h.apart i j hi hj hij b hb hb2
      · have := h.lt j hj b hb2; omega
    · rw [putS_ne _ _ e] at hb
      by_cases e2 : j = k
      · subst e2
        rw [putS_same] at hb2
        rcases hb2 with hb2 | hb2
        · exact h.apart i j hi hj hij b hb hb2
        · have := h.lt i hi b hb; omega
      · rw [putS_ne _ _ e2] at hb2
        exact h.apart i j hi hj hij b hb hb2
/-- One side more. -/
theorem Sides.add {w : World} {m : Nat} {d : Nat → SPl} {s : Nat → GSt} {P : Nat → Nat → Prop} {u : Nat} {dk : SPl} {sk : GSt} {Q : Nat → Prop} (h : Sides w m d s P u) (hs : SideAt w Q dk sk u) (hQ : ∀ b, Q b → b < w.heap.size) (hn : ∀ j, j < m → ∀ b, P j b → ¬ Q b) :
    Sides w (m + 1) (putS d m dk) (putS s m sk) (putS P m Q) u := by
  refine ⟨fun j hj => ?_, fun j hj b hb => ?_, fun i j hi hj hij b hb hb2 => ?_⟩
  · by_cases e : j = m
    · subst e; rw [putS_same, putS_same, putS_same]; exact hs
    · rw [putS_ne _ _ e, putS_ne _ _ e, putS_ne _ _ e]
      exact h.side j (by omega)
  · by_cases e : j = m
    · subst e; rw [putS_same] at hb; exact hQ b hb
    · rw [putS_ne _ _ e] at hb
      exact h.lt j (by omega) b hb
  · by_cases e : i = m
    · subst e
      rw [putS_same] at hb
      rw [putS_ne _ _ (fun e => hij e.symm)] at hb2
      exact hn j (by omega) b hb2 hb
    · rw [putS_ne _ _ e] at hb
      by_cases e2 : j = m
      · subst e2
        rw [putS_same] at hb2
        exact hn i (by omega) b hb hb2
      · rw [putS_ne _ _ e2] at hb2
        exact h.apart i j (by omega) (by omega) hij b hb hb2
end Go.Proofs.YtccidllcjaaeeabGreatDoor
