/- Several texts of this claim in one file (a claim has at most 60): Keep, KeepPair, KeepFrame, ComesLaw, ComesRun, Row, LaidE. No condition of its own. -/
import Derived.Test.YtccidllcjaaeeabGreatDoorH5
import Derived.Test.YtccidllcjaaeeabGreatDoorH1
import Derived.Test.YtccidllcjaaeeabGreatDoorRows
import Derived.ProofKit
import Derived.OpenShut
import Derived.Below
import Derived.ChangeSame
import Derived.WalkKit
import Derived.Test.YtccidllcjaaeeabGreatDoorH3
import Derived.ChangeVars
import Derived.JoinedOf
import Derived.RowKitTokens
import Derived.LaidLaws
import Derived.LaidHandle
import Derived.Stop.Joined
import Derived.ChangeMaps5
import Derived.Carry
import Derived.SliceStrings
/- The walks of epochkeep's secret, pick, text. Conditions: pick's number is an int, its bound is positive. -/
namespace Go.Proofs.YtccidllcjaaeeabGreatDoor
set_option maxRecDepth 100000
open Go Go.Maps Go.RowKit
open Go.Shelf Go.Lib Go.Sort Go.MuLone
def pickN (c : Int) (n : Nat) : Nat := (if c < 0 then (-(c + 1)).toNat else c.toNat) % n
theorem pickN_lt (c : Int) (n : Nat) (h : 0 < n) : pickN c n < n := Nat.mod_lt _ h
def textL (s : List UInt8) : List UInt8 := s.take 40
end Go.Proofs.YtccidllcjaaeeabGreatDoor
/- The walk of epochkeep's pair. Conditions: its numbers are ints. -/
namespace Go.Proofs.YtccidllcjaaeeabGreatDoor
set_option maxRecDepth 100000
open Go Go.Maps Go.RowKit
open Go.Shelf Go.Lib Go.Sort Go.MuLone
theorem group_mono {w : World} {lo lo' t : Nat} {p : GPl} {s : GSt} (h : GroupAt w lo p s t) (hl : lo' ≤ lo) : GroupAt w lo' p s t := by
  obtain ⟨hG, hT, hH, hK, h5, h6, h7, h8⟩ := h
  exact ⟨hG, ownsRow_mono hT hl, hH, hK, by omega, by omega, by omega, h8⟩
/-- What pair hands back: two groups of one root, one behind the other in memory. -/
def PairAt (w w' : World) (root : List UInt8) (n x y : Nat) (p q : GPl) : Prop :=
  p.mu = 0 ∧ q.mu = 0 ∧ Below w.heap.size w w' ∧ ∃ M, w.heap.size ≤ M ∧ GroupAt w' w.heap.size p (st0 root n x) 0 ∧ (∀ b, b = p.G ∨ b = p.H ∨ b = p.K ∨ p.T.ownBlock = some b → b < M) ∧ GroupAt w' M q (st0 root n y) 0
end Go.Proofs.YtccidllcjaaeeabGreatDoor
/- A frame that a member made, at another member. Conditions: the receiver lies and reads as its state, open; the frame reads, apart from it. -/
namespace Go.Proofs.YtccidllcjaaeeabGreatDoor
set_option maxRecDepth 100000
open Go Go.Maps Go.RowKit
open Go.Shelf Go.Lib Go.Sort Go.MuLone
/-- Which fault a true frame meets, if any. -/
def openF (s : GSt) (m g : Nat) : Option Int := if g < (s.M m).next then (if g ∈ (s.M m).over then none else some 5) else if (s.M m).next + 5 < g then some 6 else none
theorem openC_true (s : GSt) (m g : Nat) (head l : List UInt8) : openC s m g head (sealL (keyS s m g) head l) = openF s m g := by
  unfold openC openF
  rw [opens_sealed]
  simp
theorem frame_bytes (s : GSt) (m g : Nat) (l : List UInt8) : frameL s m g l = UInt8.ofNat m :: UInt8.ofNat (g / 256) :: UInt8.ofNat (g % 256) :: sealL (keyS s m g) (headL m g) l := rfl
theorem Unprotect_frame (w : World) (lo t m g b o cap n : Nat) (p : GPl) (s : GSt) (l : List UInt8) (hA : GroupAt w lo p s t) (hmu : p.mu = 0) (hlo : 0 < lo) (hEG : EG w) (hI : GInv s) (hc : s.closed = false) (hm : m < s.n) (hmo : m ≠ s.own) (hg : g ≤ 65535) (hl : l.length ≤ 40) (hn : n = l.length + 7) (hcap : n ≤ cap)
    (hb0 : 0 ≤ s.cnt) (hb1 : s.cnt ≤ 4611686010000000000) (ht : t < 1000000000000) (hr : Rd w (some ⟨b, o, none⟩) (frameL s m g l)) (hap : b < w.heap.size ∧ Apart p b) :
    Calls Tryz.prog 22 #[.pointer (some ⟨p.G, 0, none⟩), .slice (some ⟨b, o, none⟩) n cap] w fun e w' => ∃ c' : Int, s.cnt ≤ c' ∧ c' ≤ s.cnt + 2 * depthF 16 s.n m + 15 + ((l.length + 7) / 8 : Nat) ∧ OpenE (openF s m g)
      (∃ r, e = .returned (.tuple #[.agg #[.int .i64 m, .int .i64 g, r], .int .i64 0]) ∧ w'.ownsRow w.heap.size 5 1 r l.length (cells l).toList ∧ ∃ T', GroupAt w' lo { p with T := T' } (openN s m g c') (t + 5) ∧ Frm w w' p ∧ TreeNew w p.T T')
      (fun c => e = .returned (.tuple #[msg0, .int .i64 c]) ∧ GroupAt w' lo p { s with cnt := c' } t ∧ Frm w w' p) := by
  have h16 := hI.n16
  have e0 : m = (UInt8.ofNat m).toNat := by rw [UInt8.toNat_ofNat']; omega
  have e1 : g / 256 = (UInt8.ofNat (g / 256)).toNat := by rw [UInt8.toNat_ofNat']; omega
  have e2 : g % 256 = (UInt8.ofNat (g % 256)).toNat := by rw [UInt8.toNat_ofNat']; omega
  rw [frame_bytes] at hr
  have hsl : (sealL (keyS s m g) (headL m g) l).length = l.length + 4 := sealL_length _ _ _
  have h := Unprotect_go w lo t m (g / 256) (g % 256) p s b o cap n _ _ _ _ hA hmu hlo hEG hI hc e0 e1 e2 hm hmo (by omega) (by omega) (by omega) hcap hb0 hb1 ht hr hap
  have eg : 256 * (g / 256) + g % 256 = g := by omega
  have hh : [UInt8.ofNat m, UInt8.ofNat (g / 256), UInt8.ofNat (g % 256)] = headL m g := rfl
  rw [eg, hh, openC_true, openT_sealed] at h
  have e7 : n - 7 = l.length := by omega
  rw [e7] at h
  exact h.mono fun _ _ ⟨c', h1, h2, h3⟩ => ⟨c', h1, h2.1, h3⟩
theorem openC_ne {s : GSt} {m g : Nat} {h sl : List UInt8} {c : Int} (e : openC s m g h sl = some c) : c ≠ 0 := by
  unfold openC at e
  split at e
  · split at e
    · split at e
      · cases e
      · cases e; decide
    · cases e; decide
  · split at e
    · cases e; decide
    · split at e
      · cases e
      · cases e; decide
theorem unprotNo_ne {s : GSt} {l : List UInt8} {c : Int} (e : unprotNo s l = some c) : c ≠ 0 := by
  unfold unprotNo at e
  split at e
  · cases e; decide
  · split at e
    · split at e
      · cases e; decide
      · split at e
        · cases e; decide
        · cases e
    · cases e; decide
end Go.Proofs.YtccidllcjaaeeabGreatDoor
/- Plain laws for Comes: blocks of five in any order, at a receiver. No condition of its own. -/
namespace Go.Proofs.YtccidllcjaaeeabGreatDoor
set_option maxRecDepth 100000
open Go Go.Maps Go.RowKit
/-- What a receiver holds of member m behind the generations below f and those of D. -/
structure Rcv (s : GSt) (m f : Nat) (D : List Nat) : Prop where
  low : f ≤ (s.M m).next
  over : ∀ g, g ∈ (s.M m).over ↔ (f ≤ g ∧ g < (s.M m).next ∧ g ∉ D)
  seen : ∀ g ∈ D, f ≤ g ∧ g < (s.M m).next
  top : ∀ b, (∀ g ∈ D, g < b) → f ≤ b → (s.M m).next ≤ b
theorem rcv_zero (root : List UInt8) (n y m : Nat) : Rcv (st0 root n y) m 0 [] :=
  ⟨Nat.le_refl _, fun g => ⟨fun h => by simp [st0, mem0] at h, fun h => by simp [st0, mem0] at h⟩, fun g h => by simp at h, fun b _ _ => Nat.zero_le _⟩
theorem rise_len : ∀ (l : List Nat) (a b : Nat), l.Pairwise (· < ·) → (∀ x ∈ l, a ≤ x ∧ x < b) → l.length ≤ b - a
  | [], _, _, _, _ => Nat.zero_le _
  | x :: l, a, b, hp, hx => by
    have h1 := hx x (List.mem_cons_self)
    obtain ⟨hp1, hp2⟩ := List.pairwise_cons.1 hp
    have h2 := rise_len l (x + 1) b hp2 fun y hy => ⟨hp1 y hy, (hx y (List.mem_cons_of_mem _ hy)).2⟩
    rw [List.length_cons]; omega
theorem rcv_open {s : GSt} {m f g : Nat} {D : List Nat} (h : Rcv s m f D) (h1 : f ≤ g) (h2 : g < f + 5) (hg : g ∉ D) : openF s m g = none := by
  unfold openF
  have := h.low
  by_cases hn : g < (s.M m).next
  · rw [if_pos hn, if_pos ((h.over g).2 ⟨h1, hn, hg⟩)]
  · rw [if_neg hn, if_neg (by omega)]
theorem rcv_again {s : GSt} {m f g : Nat} {D : List Nat} (h : Rcv s m f D) (hg : g < f ∨ g ∈ D) : openF s m g = some 5 := by
  unfold openF
  have := h.low
  have hn : g < (s.M m).next := by
    rcases hg with hg | hg
    · omega
    · exact (h.seen g hg).2
  rw [if_pos hn, if_neg fun ho => ?_]
  obtain ⟨a, _, c⟩ := (h.over g).1 ho
  rcases hg with hg | hg
  · omega
  · exact c hg
theorem rcv_step {s : GSt} {m f g : Nat} {D D' : List Nat} (hI : GInv s) (h : Rcv s m f D) (h1 : f ≤ g) (h2 : g < f + 5) (hg : g ∉ D) (hD : ∀ x, x ∈ D' ↔ x = g ∨ x ∈ D) (c : Int) : Rcv (openN s m g c) m f D' := by
  by_cases hn : g < (s.M m).next
  · have e : openN s m g c = delS s m g c := by unfold openN; rw [if_pos hn]
    have eM : (delS s m g c).M m = { s.M m with over := (s.M m).over.filter (fun x => x != g) } := if_pos rfl
    rw [e]
    refine ⟨?_, fun x => ?_, fun x hx => ?_, fun b hb hf => ?_⟩
    · rw [eM]; exact h.low
    · rw [eM, List.mem_filter, h.over x, hD x]
      simp only [bne_iff_ne, ne_eq]
      constructor
      · rintro ⟨⟨a, b, c⟩, d⟩
        exact ⟨a, b, fun hh => hh.elim d c⟩
      · rintro ⟨a, b, c⟩
        exact ⟨⟨a, b, fun hh => c (.inr hh)⟩, fun hh => c (.inl hh)⟩
    · rw [eM]
      rcases (hD x).1 hx with hx | hx
      · subst hx; exact ⟨h1, hn⟩
      · exact h.seen x hx
    · rw [eM]
      exact h.top b (fun x hx => hb x ((hD x).2 (.inr hx))) hf
  · have e : openN s m g c = openS s m g c := by unfold openN; rw [if_neg hn]
    have hlen : (allG s m g).length ≤ 4 := by
      have := rise_len (allG s m g) f (f + 4) (allG_rise s m g hI) fun x hx => by
        have hlow := h.low
        rcases (allG_mem s m g x).1 hx with hx | hx
        · have := (h.over x).1 hx; omega
        · omega
      omega
    have eM : (openS s m g c).M m = ⟨true, g + 1, allG s m g⟩ := by
      refine (if_pos rfl).trans ?_
      rw [show (allG s m g).length - 4 = 0 by omega, List.drop_zero]
    have hlow := h.low
    rw [e]
    refine ⟨?_, fun x => ?_, fun x hx => ?_, fun b hb hf => ?_⟩
    · rw [eM]; show f ≤ g + 1; omega
    · rw [eM, hD x]
      show x ∈ allG s m g ↔ _ ∧ x < g + 1 ∧ _
      rw [allG_mem, h.over x]
      constructor
      · rintro (⟨a, b, c⟩ | ⟨a, b⟩)
        · exact ⟨a, by omega, fun hh => hh.elim (by omega) c⟩
        · exact ⟨by omega, by omega, fun hh => hh.elim (by omega) (fun hx => by have := (h.seen x hx).2; omega)⟩
      · rintro ⟨a, b, c⟩
        have hne : x ≠ g := fun hh => c (.inl hh)
        rcases Nat.lt_or_ge x (s.M m).next with hx | hx
        · exact .inl ⟨a, hx, fun hh => c (.inr hh)⟩
        · exact .inr ⟨hx, by omega⟩
    · rw [eM]
      show f ≤ x ∧ x < g + 1
      rcases (hD x).1 hx with hx | hx
      · omega
      · have := h.seen x hx; omega
    · rw [eM]
      exact hb g ((hD g).2 (.inl rfl))
theorem rcv_next {s : GSt} {m f t : Nat} {D : List Nat} (h : Rcv s m f D) (hf : f ≤ t) (hD : ∀ x, x ∈ D ↔ f ≤ x ∧ x < t) : Rcv s m t [] := by
  have h1 : (s.M m).next ≤ t := h.top t (fun x hx => ((hD x).1 hx).2) hf
  have h2 : t ≤ (s.M m).next := by
    rcases Nat.lt_or_ge f t with hl | hl
    · have := (h.seen (t - 1) ((hD _).2 (by omega))).2
      omega
    · have := h.low; omega
  refine ⟨h2, fun g => ⟨fun hg => ?_, fun hg => by omega⟩, fun g hg => by simp at hg, fun b _ hb => by omega⟩
  obtain ⟨a, b, c⟩ := (h.over g).1 hg
  exact absurd ((hD g).2 ⟨a, by omega⟩) c
theorem rcv_cnt {s : GSt} {m f : Nat} {D : List Nat} (h : Rcv s m f D) (c : Int) : Rcv { s with cnt := c } m f D := ⟨h.low, h.over, h.seen, h.top⟩
/-- A list that holds what lies in [f, i), each once. -/
structure Blk (l : List Nat) (f i : Nat) : Prop where
  nodup : l.Nodup
  mem : ∀ x, x ∈ l ↔ f ≤ x ∧ x < i
  len : l.length = i - f
theorem blk_nil (f : Nat) : Blk [] f f := ⟨List.nodup_nil, fun x => ⟨fun h => by simp at h, fun h => by omega⟩, by simp⟩
theorem blk_ins {l : List Nat} {f i : Nat} (h : Blk l f i) (hf : f ≤ i) (a : Nat) : Blk (l.take a ++ i :: l.drop a) f (i + 1) := by
  have hp : (l.take a ++ i :: l.drop a).Perm (i :: l) := by
    have := List.perm_middle (a := i) (l₁ := l.take a) (l₂ := l.drop a)
    rwa [List.take_append_drop] at this
  refine ⟨hp.nodup_iff.2 (List.nodup_cons.2 ⟨fun hi => by have := (h.mem i).1 hi; omega, h.nodup⟩), fun x => ?_, ?_⟩
  · rw [hp.mem_iff, List.mem_cons, h.mem x]
    omega
  · rw [hp.length_eq, List.length_cons, h.len]; omega
theorem blk_take {l : List Nat} {f i : Nat} (h : Blk l f i) (k : Nat) (hk : k < l.length) : l.getD k 0 ∉ l.take k ∧ f ≤ l.getD k 0 ∧ l.getD k 0 < i ∧ ∀ x, x ∈ l.take (k + 1) ↔ x = l.getD k 0 ∨ x ∈ l.take k := by
  have e : l.getD k 0 = l[k] := by rw [List.getD_eq_getElem?_getD, List.getElem?_eq_getElem hk]; rfl
  rw [e]
  have hm := (h.mem l[k]).1 (List.getElem_mem hk)
  have et : l.take (k + 1) = l.take k ++ [l[k]] := by rw [List.take_succ_eq_append_getElem hk]
  refine ⟨fun hx => ?_, hm.1, hm.2, fun x => ?_⟩
  · have hn : (l.take (k + 1)).Nodup := h.nodup.sublist (List.take_sublist _ _)
    rw [et, List.nodup_append] at hn
    exact hn.2.2 _ hx _ (List.mem_singleton.2 rfl) rfl
  · rw [et, List.mem_append, List.mem_singleton]
    exact Or.comm
theorem frameL_root {s s' : GSt} (h1 : s'.root = s.root) (h2 : s'.n = s.n) (m g : Nat) (l : List UInt8) : frameL s' m g l = frameL s m g l := by
  unfold frameL keyS
  rw [h1, h2]
end Go.Proofs.YtccidllcjaaeeabGreatDoor
/- A sender and a receiver through many calls: what holds between the calls, and one call of each. Conditions: stated in each. -/
namespace Go.Proofs.YtccidllcjaaeeabGreatDoor
set_option maxRecDepth 100000
open Go Go.Maps Go.RowKit
open Go.Shelf Go.Lib Go.Sort Go.MuLone
/-- Blocks that hold cells of other types than a group's stay. -/
def Stay (V w' : World) : Prop := ∀ (b : Nat) (cs : Array Value) (t : TypeId) (fr : Nat × Nat), V.heap[b]? = some (.cells cs t fr) → t ≠ 49 → t ≠ 72 → w'.heap[b]? = V.heap[b]?
theorem row_cells {w : World} {base e size n b : Nat} {v : Value} {xs : List Value} (h : w.ownsRow base e size v n xs) (hb : v.ownBlock = some b) : ∃ cs, w.heap[b]? = some (.cells cs e (0, 0)) := by
  obtain ⟨_, h⟩ := h
  rcases h with ⟨rfl, _⟩ | ⟨g, cap, cur, rfl, _, h3, _⟩
  · cases hb
  · cases hb; exact ⟨cur, h3⟩
theorem map_cells {w : World} {k : TypeId} {b t : Nat} {f : Lit → Option Value} (h : mapAt w Tryz.prog k b t f) : ∃ es c, w.heap[b]? = some (.map es c) := by
  obtain ⟨D, ⟨es, clock, hb, _⟩, _⟩ := h
  exact ⟨es, clock, hb⟩
theorem group_apart {w : World} {lo t : Nat} {p : GPl} {s : GSt} (h : GroupAt w lo p s t) {b : Nat} {cs : Array Value} {ty : TypeId} {fr : Nat × Nat} (hb : w.heap[b]? = some (.cells cs ty fr)) (h1 : ty ≠ 49) (h2 : ty ≠ 72) : Apart p b := by
  obtain ⟨hG, hT, ⟨f, hH, hf⟩, ⟨f2, hK, hf2⟩, h5⟩ := h
  refine ⟨fun e => ?_, fun e => ?_, fun e => ?_, fun e => ?_⟩
  · rw [e, hG] at hb; injection hb with hb; injection hb with _ hb; exact h2 hb.symm
  · obtain ⟨es, c, he⟩ := map_cells hH
    rw [e, he] at hb; cases hb
  · obtain ⟨es, c, he⟩ := map_cells hK
    rw [e, he] at hb; cases hb
  · obtain ⟨cs', he⟩ := row_cells hT e
    rw [he] at hb; injection hb with hb; injection hb with _ hb; exact h1 hb.symm
theorem frm_stay {w w' : World} {lo t : Nat} {p : GPl} {s : GSt} (h : GroupAt w lo p s t) (hF : Frm w w' p) : Stay w w' := fun b cs ty fr hb h1 h2 => by
  have ha := group_apart h hb h1 h2
  exact hF.block b (Array.getElem?_eq_some_iff.1 hb).1 ha.1 ha.2.1 ha.2.2.1 ha.2.2.2
theorem Stay.own {w w' : World} {base e size n : Nat} {v : Value} {xs : List Value} (h : Stay w w') (ho : w.ownsRow base e size v n xs) (h1 : e ≠ 49) (h2 : e ≠ 72) : w'.ownsRow base e size v n xs :=
  ownsRow_blk ho fun b hb => by
    obtain ⟨cs, hc⟩ := row_cells ho hb
    exact h b cs e _ hc h1 h2
theorem frm_lo {w w' : World} {lo B t : Nat} {p : GPl} {s : GSt} (h : GroupAt w lo p s t) (hF : Frm w w' p) (hB : B ≤ lo) (hs : B ≤ w.heap.size) : Below B w w' :=
  ⟨hF.os, hF.tape, hF.output, hF.size, fun b hb => by
    have hl := group_lt h
    refine hF.block b (by omega) (fun e => ?_) (fun e => ?_) (fun e => ?_) (fun e => ?_)
    · have := (hl p.G (.inl rfl)).1; omega
    · have := (hl p.H (.inr (.inl rfl))).1; omega
    · have := (hl p.K (.inr (.inr (.inl rfl)))).1; omega
    · have := (hl b (.inr (.inr (.inr e)))).1; omega⟩
theorem group_grow {w w' : World} {lo t : Nat} {p : GPl} {s : GSt} {row : Option Nat} (h : GroupAt w lo p s t) (hg : w.grownBy w' row) (hr : ∀ g, row = some g → ∃ cs ty fr, w.heap[g]? = some (.cells cs ty fr) ∧ ty ≠ 49 ∧ ty ≠ 72) : GroupAt w' lo p s t :=
  group_keep h fun b hb => hg.block b (group_lt h b hb).2 fun e => by
    obtain ⟨cs, ty, fr, h1, h2, h3⟩ := hr b e.symm
    have ha := group_apart h h1 h2 h3
    rcases hb with hb | hb | hb | hb
    · exact ha.1 hb
    · exact ha.2.1 hb
    · exact ha.2.2.1 hb
    · exact ha.2.2.2 hb
theorem EG.grow {w w' : World} {row : Option Nat} (h : EG w) (hg : w.grownBy w' row) (hr : ∀ g, row = some g → 0 < g) : EG w' :=
  h.keep (hg.block 0 (block_lt_of_cell h) fun e => by have := hr 0 e.symm; omega)
theorem inv_protS {s : GSt} (hI : GInv s) (c : Int) (hn : (s.M s.own).next ≤ 65535) : GInv (protS s c) := by
  have e : ∀ i, i ≠ s.own → (protS s c).M i = s.M i := fun i hi => if_neg hi
  have e2 : (protS s c).M s.own = ⟨true, (s.M s.own).next + 1, (s.M s.own).over⟩ := if_pos rfl
  refine ⟨hI.n16, hI.own, hI.root, fun i => ?_, fun i => ?_, fun i => ?_, fun i => ?_, fun i => ?_⟩
  all_goals
    by_cases hi : i = s.own
    · rw [hi, e2]
      first
        | (show (s.M s.own).next + 1 ≤ 65536; omega)
        | (intro g h; have := hI.over s.own g h; show g < (s.M s.own).next + 1; omega)
        | exact hI.rise s.own
        | exact hI.four s.own
        | (intro h; cases h)
    · rw [e i hi]
      first
        | exact hI.next i
        | exact hI.over i
        | exact hI.rise i
        | exact hI.four i
        | exact hI.none i
theorem group_more {w : World} {lo t t' : Nat} {p : GPl} {s : GSt} (h : GroupAt w lo p s t) (ht : t ≤ t') : GroupAt w lo p s t' := by
  obtain ⟨hG, hT, ⟨f, hH, hf⟩, ⟨f2, hK, hf2⟩, h5⟩ := h
  exact ⟨hG, hT, ⟨f, mapAt_mono hH ht, hf⟩, ⟨f2, mapAt_mono hK ht, hf2⟩, h5⟩
/-- A sender behind i messages, whose first world was W0. -/
def SndR (W0 w : World) (lo : Nat) (p : GPl) (root : List UInt8) (n x i : Nat) : Prop :=
  ∃ (s : GSt) (T : Value), s.root = root ∧ s.n = n ∧ s.own = x ∧ s.closed = false ∧ GInv s ∧ (s.M x).next = i ∧ 0 ≤ s.cnt ∧ s.cnt ≤ 200 * i ∧ GroupAt w lo { p with T := T } s i ∧ Frm W0 w p ∧ TreeNew W0 p.T T ∧ EG w
theorem snd_zero {w : World} {lo n x : Nat} {p : GPl} {root : List UInt8} (h : GroupAt w lo p (st0 root n x) 0) (hI : GInv (st0 root n x)) (hE : EG w) : SndR w w lo p root n x 0 :=
  ⟨st0 root n x, p.T, rfl, rfl, rfl, rfl, hI, rfl, Int.le_refl _, Int.le_refl _, h, Frm.refl _ _, .inl rfl, hE⟩
theorem snd_below {W0 w w' : World} {lo n x i : Nat} {p : GPl} {root : List UInt8} (h : SndR W0 w lo p root n x i) (hb : Below w.heap.size w w') : SndR W0 w' lo p root n x i := by
  obtain ⟨s, T, h1, h2, h3, h4, h5, h6, h7, h8, h9, h10, h11, h12⟩ := h
  exact ⟨s, T, h1, h2, h3, h4, h5, h6, h7, h8, group_below h9 hb, h10.below hb, h11, h12.below hb⟩
theorem snd_grow {W0 w w' : World} {lo n x i : Nat} {p : GPl} {root : List UInt8} {row : Option Nat} (h : SndR W0 w lo p root n x i) (hg : w.grownBy w' row) (hW : 0 < W0.heap.size)
    (hr : ∀ g, row = some g → W0.heap.size ≤ g ∧ ∃ cs ty fr, w.heap[g]? = some (.cells cs ty fr) ∧ ty ≠ 49 ∧ ty ≠ 72) : SndR W0 w' lo p root n x i := by
  obtain ⟨s, T, h1, h2, h3, h4, h5, h6, h7, h8, h9, h10, h11, h12⟩ := h
  refine ⟨s, T, h1, h2, h3, h4, h5, h6, h7, h8, group_grow h9 hg fun g e => (hr g e).2, ⟨hg.os.trans h10.os, hg.tape.trans h10.tape, hg.output.trans h10.output, Nat.le_trans h10.size hg.size, fun b hb a1 a2 a3 a4 => ?_⟩, h11, h12.grow hg fun g e => by have := (hr g e).1; omega⟩
  exact (hg.block b (Nat.lt_of_lt_of_le hb h10.size) fun e => by have := (hr b e.symm).1; omega).trans (h10.block b hb a1 a2 a3 a4)
theorem snd_go (W0 w V : World) (lo n x i cp : Nat) (p : GPl) (root l : List UInt8) (h : SndR W0 w lo p root n x i) (hb : Below w.heap.size w V) (hmu : p.mu = 0) (hlo : 0 < lo) (hl : l.length ≤ 40) (hi : i ≤ 1000) (hbuf : BufAt V w.heap.size l) :
    Calls Tryz.prog 20 #[.pointer (some ⟨p.G, 0, none⟩), .slice (some ⟨w.heap.size, 0, none⟩) l.length cp] V fun e w' => ∃ v, e = .returned (.tuple #[v, .int .i64 0]) ∧
      w'.ownsRow V.heap.size 5 1 v (l.length + 7) (cells (frameL (st0 root n x) x i l)).toList ∧ SndR W0 w' lo p root n x (i + 1) ∧ Stay V w' := by
  have hV := snd_below h hb
  obtain ⟨_, T0, _, _, _, _, _, _, _, _, hA0, _⟩ := h
  have hlt := group_lt hA0
  obtain ⟨s, T, h1, h2, h3, h4, h5, h6, h7, h8, h9, h10, h11, h12⟩ := hV
  have hltV := group_lt h9
  subst h3
  have hfr : frameL s s.own (s.M s.own).next l = frameL (st0 root n s.own) s.own i l := by
    rw [h6]; exact frameL_root h1 h2 _ _ _
  refine (Protect_ok V lo i { p with T := T } s (some ⟨w.heap.size, 0, none⟩) cp l h9 hmu hlo h12 h5 h4 hl (by omega) h7 (by omega) (by omega) (fun h => by cases h) (fun _ => ⟨_, _, rfl⟩) hbuf.rd (fun b o e hpos => by
    cases e
    refine ⟨block_lt_of_cell (hbuf.cell 0 hpos), ?_⟩
    obtain ⟨cs, lo', hi', hc, _⟩ := hbuf
    exact group_apart h9 hc (by decide) (by decide))).mono ?_
  rintro e w' ⟨v, T', c', rfl, ho, hA', hF, hT, hc1, hc2⟩
  have hd := depthF_le 16 s.n s.own
  rw [hfr] at ho
  have hFp : Frm V w' { p with T := T } := hF
  refine ⟨v, rfl, ho, ⟨protS s c', T', h1, h2, rfl, h4, inv_protS h5 c' (by omega), ?_, ?_, ?_, hA', h10.trans hFp rfl rfl rfl h11, ?_, eg_frm h12 h9 hlo hFp⟩, frm_stay h9 hFp⟩
  · show ((protS s c').M s.own).next = i + 1
    have : (protS s c').M s.own = ⟨true, (s.M s.own).next + 1, (s.M s.own).over⟩ := if_pos rfl
    rw [this, h6]
  · show 0 ≤ c'; omega
  · show c' ≤ 200 * ((i + 1 : Nat) : Int); omega
  · rcases hT with hT | hT
    · rcases h11 with h | h
      · exact .inl (hT.trans h)
      · have e : T' = T := hT
        exact .inr fun b hb => h b (by rw [← e]; exact hb)
    · exact .inr fun b hb => Nat.le_trans h10.size (hT b hb)
/-- A receiver behind j calls: what it holds of member x. -/
def RcvR (w : World) (lo : Nat) (q : GPl) (root : List UInt8) (n y x f j : Nat) (D : List Nat) : Prop :=
  ∃ (s : GSt) (T : Value), s.root = root ∧ s.n = n ∧ s.own = y ∧ s.closed = false ∧ GInv s ∧ Rcv s x f D ∧ 0 ≤ s.cnt ∧ s.cnt ≤ 200 * j ∧ GroupAt w lo { q with T := T } s (5 * j) ∧ EG w
theorem rcvR_zero {w : World} {lo n y x : Nat} {q : GPl} {root : List UInt8} (h : GroupAt w lo q (st0 root n y) 0) (hI : GInv (st0 root n y)) (hE : EG w) : RcvR w lo q root n y x 0 0 [] :=
  ⟨st0 root n y, q.T, rfl, rfl, rfl, rfl, hI, rcv_zero root n y x, Int.le_refl _, Int.le_refl _, h, hE⟩
theorem rcvR_below {w w' : World} {lo n y x f j : Nat} {q : GPl} {root : List UInt8} {D : List Nat} (h : RcvR w lo q root n y x f j D) (hb : Below w.heap.size w w') : RcvR w' lo q root n y x f j D := by
  obtain ⟨s, T, h1, h2, h3, h4, h5, h6, h7, h8, h9, h10⟩ := h
  exact ⟨s, T, h1, h2, h3, h4, h5, h6, h7, h8, group_below h9 hb, h10.below hb⟩
theorem rcvR_grow {w w' : World} {lo n y x f j : Nat} {q : GPl} {root : List UInt8} {D : List Nat} {row : Option Nat} (h : RcvR w lo q root n y x f j D) (hg : w.grownBy w' row)
    (hr : ∀ g, row = some g → 0 < g ∧ ∃ cs ty fr, w.heap[g]? = some (.cells cs ty fr) ∧ ty ≠ 49 ∧ ty ≠ 72) : RcvR w' lo q root n y x f j D := by
  obtain ⟨s, T, h1, h2, h3, h4, h5, h6, h7, h8, h9, h10⟩ := h
  exact ⟨s, T, h1, h2, h3, h4, h5, h6, h7, h8, group_grow h9 hg fun g e => (hr g e).2, h10.grow hg fun g e => (hr g e).1⟩
theorem rcvR_next {w : World} {lo n y x f t j : Nat} {q : GPl} {root : List UInt8} {D : List Nat} (h : RcvR w lo q root n y x f j D) (hf : f ≤ t) (hD : ∀ z, z ∈ D ↔ f ≤ z ∧ z < t) : RcvR w lo q root n y x t j [] := by
  obtain ⟨s, T, h1, h2, h3, h4, h5, h6, h7⟩ := h
  exact ⟨s, T, h1, h2, h3, h4, h5, rcv_next h6 hf hD, h7⟩
theorem rcv_good (w V : World) (lo n y x f j g cp : Nat) (q : GPl) (root l : List UInt8) (D D' : List Nat) (h : RcvR w lo q root n y x f j D) (hb : Below w.heap.size w V) (hmu : q.mu = 0) (hlo : 0 < lo) (hl : l.length ≤ 40) (hx : x < n) (hxy : x ≠ y) (hj : j ≤ 10000)
    (h1g : f ≤ g) (h2g : g < f + 5) (hgD : g ∉ D) (hD : ∀ z, z ∈ D' ↔ z = g ∨ z ∈ D) (hg : g ≤ 65535) (hcp : l.length + 7 ≤ cp) (hbuf : BufAt V w.heap.size (frameL (st0 root n x) x g l)) :
    Calls Tryz.prog 22 #[.pointer (some ⟨q.G, 0, none⟩), .slice (some ⟨w.heap.size, 0, none⟩) (l.length + 7 : Nat) cp] V fun e w' => ∃ r, e = .returned (.tuple #[.agg #[.int .i64 x, .int .i64 g, r], .int .i64 0]) ∧
      w'.ownsRow V.heap.size 5 1 r l.length (cells l).toList ∧ RcvR w' lo q root n y x f (j + 1) D' ∧ Stay V w' ∧ ∀ B, B ≤ lo → B ≤ V.heap.size → Below B V w' := by
  obtain ⟨s, T, h1, h2, h3, h4, h5, h6, h7, h8, h9, h10⟩ := rcvR_below h hb
  have ho := rcv_open h6 h1g h2g hgD
  have hfr : frameL (st0 root n x) x g l = frameL s x g l := (frameL_root h1 h2 _ _ _).symm
  rw [hfr] at hbuf
  have hap : w.heap.size < V.heap.size ∧ Apart { q with T := T } w.heap.size := by
    obtain ⟨cs, lo', hi', hc, _⟩ := hbuf
    exact ⟨(Array.getElem?_eq_some_iff.1 hc).1, group_apart h9 hc (by decide) (by decide)⟩
  have hc := Unprotect_frame V lo (5 * j) x g w.heap.size 0 cp (l.length + 7) { q with T := T } s l h9 hmu hlo h10 h5 h4 (by omega) (by omega) hg hl rfl hcp h7 (by omega) (by omega) hbuf.rd hap
  rw [ho] at hc
  refine hc.mono ?_
  rintro e w' ⟨c', hc1, hc2, r, rfl, hor, T', hA', hF, hT⟩
  have hd := depthF_le 16 s.n x
  have hN := openN_own s x g c'
  refine ⟨r, rfl, hor, ⟨openN s x g c', T', hN.1.trans h1, hN.2.1.trans h2, hN.2.2.1.trans h3, hN.2.2.2.1.trans h4, inv_openN h5 x g c' hg, rcv_step h5 h6 h1g h2g hgD hD c', ?_, ?_, group_more hA' (by omega), eg_frm h10 h9 hlo hF⟩, frm_stay h9 hF, fun B hB hs => frm_lo h9 hF hB hs⟩
  · rw [hN.2.2.2.2]; omega
  · rw [hN.2.2.2.2]; omega
theorem rcv_bad (w V : World) (lo n y x f j g cp : Nat) (q : GPl) (root l : List UInt8) (D : List Nat) (h : RcvR w lo q root n y x f j D) (hb : Below w.heap.size w V) (hmu : q.mu = 0) (hlo : 0 < lo) (hl : l.length ≤ 40) (hx : x < n) (hxy : x ≠ y) (hj : j ≤ 10000)
    (hgD : g < f ∨ g ∈ D) (hg : g ≤ 65535) (hcp : l.length + 7 ≤ cp) (hbuf : BufAt V w.heap.size (frameL (st0 root n x) x g l)) :
    Calls Tryz.prog 22 #[.pointer (some ⟨q.G, 0, none⟩), .slice (some ⟨w.heap.size, 0, none⟩) (l.length + 7 : Nat) cp] V fun e w' => e = .returned (.tuple #[msg0, .int .i64 5]) ∧
      RcvR w' lo q root n y x f (j + 1) D ∧ Stay V w' ∧ ∀ B, B ≤ lo → B ≤ V.heap.size → Below B V w' := by
  obtain ⟨s, T, h1, h2, h3, h4, h5, h6, h7, h8, h9, h10⟩ := rcvR_below h hb
  have ho := rcv_again h6 hgD
  have hfr : frameL (st0 root n x) x g l = frameL s x g l := (frameL_root h1 h2 _ _ _).symm
  rw [hfr] at hbuf
  have hap : w.heap.size < V.heap.size ∧ Apart { q with T := T } w.heap.size := by
    obtain ⟨cs, lo', hi', hc, _⟩ := hbuf
    exact ⟨(Array.getElem?_eq_some_iff.1 hc).1, group_apart h9 hc (by decide) (by decide)⟩
  have hc := Unprotect_frame V lo (5 * j) x g w.heap.size 0 cp (l.length + 7) { q with T := T } s l h9 hmu hlo h10 h5 h4 (by omega) (by omega) hg hl rfl hcp h7 (by omega) (by omega) hbuf.rd hap
  rw [ho] at hc
  refine hc.mono ?_
  rintro e w' ⟨c', hc1, hc2, rfl, hA', hF⟩
  have hd := depthF_le 16 s.n x
  refine ⟨rfl, ⟨{ s with cnt := c' }, T, h1, h2, h3, h4, inv_cnt h5 c', rcv_cnt h6 c', ?_, ?_, group_more hA' (by omega), eg_frm h10 h9 hlo hF⟩, frm_stay h9 hF, fun B hB hs => frm_lo h9 hF hB hs⟩
  · show 0 ≤ c'; omega
  · show c' ≤ _; omega
end Go.Proofs.YtccidllcjaaeeabGreatDoor
/- The row's last step where of the world behind the call only its blocks below the old size are known (after a lemma printed in the kit's small lemmas). No condition of its own. -/
namespace Go.Proofs.YtccidllcjaaeeabGreatDoor
set_option maxRecDepth 100000
open Go.ChangeShapes Go.WideShapes Go.ChangeAt Go.RowKit
theorem own : ownKnob Tryz.prog.godebug = none := by kernel_rfl
section
variable {H : Type} {enc : TypeId × Value → H} {P : Program}
theorem post_of_below {f : Func} {s : ChangeSpec} {apart fresh handsOn again : Bool} {W W' : World} {args : Array Value} {v : Value} {ds gs : List (DataW H)} {before pa pv : List MemPlace}
    (hW : DataW.Whole enc P f.params.toList s.vars apart W args.toList ds gs before)
    (hres : ∀ (b : Nat) (sp : Nat → Bool) (hd : Bool), DataW.TrodAll enc P W' b sp hd f.resultTypes.toList (v.resultList f.resultTypes.size) (s.fn H (ds ++ gs)).results [])
    (hargs : ∀ sp : Nat → Bool, (∀ p ∈ before, sp p.block = true) → DataW.TrodAll enc P W' 0 sp true f.params.toList args.toList (s.fn H (ds ++ gs)).args pa)
    (hvars : ∀ sp : Nat → Bool, (∀ p ∈ before, sp p.block = true) → DataW.TrodVars enc P W' sp s.vars (s.fn H (ds ++ gs)).vars pv)
    (hps : before = pa ++ pv) (hb : Below W.heap.size W W')
    (hok : ∀ (j : Nat) (t : TypeId) (r : Value), f.resultTypes[j]? = some t → (v.resultList f.resultTypes.size)[j]? = some r → Value.okWide P W' .any 0 t r) :
    s.post enc P f apart fresh handsOn again W args v W' := by
  have hlt : ∀ p ∈ before, p.block < W.heap.size := fun p hp => hW.lt p hp
  have hold : ∀ p ∈ before, (fun b => decide (b < W.heap.size)) p.block = true := fun p hp => by simpa using hlt p hp
  refine ⟨ds, gs, before, [], pa, pv, hW, hres _ _ _, hargs _ hold, hvars _ hold, World.keptBut_mono (fun p hp => ⟨hp, ?_⟩) (hb.frame (· ∈ before)), fun _ => ?_⟩
  · rw [hps, List.mem_append] at hp
    exact Or.inr hp
  · obtain ⟨_, _, _, _, _, hz, hn⟩ := hW
    refine ⟨hok, _, _, ([] ++ pa) ++ pv, ⟨[] ++ pa, pv, trodAll_append (hargs _ (fun _ _ => rfl)) (hres _ _ _), hvars _ (fun _ _ => rfl), rfl, ?_, ?_⟩, ?_⟩
    · intro b off hp
      have hin : MemPlace.cell b off ∈ before := by rw [hps]; simpa using hp
      rw [hb.frozen (hlt _ hin)]
      exact hz b off hin
    · intro ha
      have := hn ha
      rw [hps] at this
      simpa using this
    · intro p hp _
      rw [hps]
      simpa using hp
end
end Go.Proofs.YtccidllcjaaeeabGreatDoor
/- What the cards' condition gives a walk: errors.errorType holds the handle of the type error; a world that meets it (after the kit's worked toy 'toyas'). No condition of its own. -/
namespace Go.Proofs.YtccidllcjaaeeabGreatDoor
set_option maxRecDepth 100000
open Go.ChangeShapes Go.WideShapes Go.RowKit
def laidE : List (String × DataW Unit) := [("errors.errorType", .iface "internal/reflectlite.rtype" (.agg [.ptr (.lit (.string [101, 114, 114, 111, 114]))]))]
theorem laid_et : Tryz.prog.globalNamed "errors.errorType" = some 0 := by kernel_rfl
theorem laid_rt : (Tryz.prog.cutTypes.find? (·.1 == "internal/reflectlite.rtype")).map (·.2) = some 221 := by kernel_rfl
theorem laid_one : ((List.range Tryz.prog.types.size).filter fun t => Tryz.prog.rowNamed t [101, 114, 114, 111, 114]) = [116] := by kernel_rfl
theorem laidOut : laidOutB Tryz.prog = true := by kernel_rfl
theorem eg_of_laid {W : World} (h : laidMetH Tryz.prog laidE W) : EG W := by
  have h' : laidMet Tryz.prog [] W ∧ handlesMet Tryz.prog laidE W := h
  obtain ⟨name, u, ty, e1, e2, e3, e4, e5⟩ := h'.2 _ (List.mem_singleton.2 rfl)
  have en : name = [101, 114, 114, 111, 114] := (Option.some.inj e1).symm
  subst en
  obtain rfl := Option.some.inj (laid_rt.symm.trans e2)
  have hm : ty ∈ (List.range Tryz.prog.types.size).filter fun t => Tryz.prog.rowNamed t [101, 114, 114, 111, 114] := List.mem_filter.2 ⟨List.mem_range.2 e3, e4⟩
  rw [laid_one] at hm
  obtain rfl := List.mem_singleton.1 hm
  have hh : typeHandle Tryz.prog 116 = .pointer (some ⟨1, 116, none⟩) := by kernel_rfl
  rw [hh] at e5
  unfold EG
  simpa using World.var?_cell laid_et e5 0
/-- A world that meets the condition. -/
noncomputable def laidWorld (os : Os) : World :=
  let w0 := World.holding Tryz.prog os ⟨#[], #[], []⟩
  { w0 with heap := w0.heap.modify 0 fun
      | .cells _ t frozen => .cells #[.iface 221 (.agg #[.pointer (some ⟨1, 116, none⟩)])] t frozen
      | o => o }
theorem laidWorld_met (os : Os) (args : Array Value) : laidMetH Tryz.prog laidE ((laidWorld os).forCall (fun _ _ => 0) ⟨#[], args, []⟩).memory :=
  laidMetH_of_parts (laidMet_nil _ _) (by kernel_rfl)
section
variable {H : Type} {enc : TypeId × Value → H}
/-- A slice of strings that came in. -/
def StrsAt (W : World) (v : Value) (L : List ByteArray) : Prop := (v = .slice none 0 0 ∧ L = []) ∨ ∃ (a : Addr) (cap : Nat), v = .slice (some a) L.length cap ∧ L.length ≤ cap ∧ cap ≤ maxLen ∧ ∀ i (_ : i < L.length), W.cell? (a.add i) = some (.string (L.getD i ByteArray.empty))
theorem strs_of_trod {W : World} {base : Nat} {v : Value} {d : DataW H} {ps : List MemPlace} (hv : Value.okWide Tryz.prog W .any base 28 v) (h : DataW.Trod enc Tryz.prog W 0 (fun _ => true) true 28 v d ps) : ∃ L, StrsAt W v L := by
  obtain ⟨a0, len, cap, rfl⟩ := okWide_slice Tryz.underlying28 hv
  obtain ⟨fuel, hf⟩ := h
  rcases open_strings Tryz.underlying28 Tryz.underlying9 (by kernel_rfl) hf with ⟨hcs, _⟩ | ⟨a, len', cap', ss, hcs, _, hl, hm, hz, _, hcell, _⟩
  · have e : Value.slice a0 len cap = .slice none 0 0 := by simpa [Value.cells] using hcs
    exact ⟨[], .inl ⟨e, rfl⟩⟩
  · have e : Value.slice a0 len cap = .slice (some a) len' cap' := by simpa [Value.cells] using hcs
    have hz' : ss.length = cap' := by simpa using hz
    have hlen : (ss.take len').length = len' := by rw [List.length_take]; omega
    refine ⟨ss.take len', .inr ⟨a, cap', by rw [e, hlen], by omega, hm, fun i hi => ?_⟩⟩
    rw [hcell i (by omega)]
    have e2 : (ss.take len').getD i ByteArray.empty = ss.getD i ByteArray.empty := by
      rw [List.getD_eq_getElem?_getD, List.getD_eq_getElem?_getD, List.getElem?_take_of_lt (by omega)]
    rw [e2]
/-- A slice of ints that came in. -/
def IntsAt (W : World) (v : Value) (L : List Int) : Prop := (v = .slice none 0 0 ∧ L = []) ∨ ∃ (a : Addr) (cap : Nat), v = .slice (some a) L.length cap ∧ L.length ≤ cap ∧ cap ≤ maxLen ∧ ∀ i (_ : i < L.length), W.cell? (a.add i) = some (.int .i64 (L.getD i 0)) ∧ (Lit.int .i64 (L.getD i 0)).wf = true
theorem ints_of_trod {W : World} {base : Nat} {v : Value} {d : DataW H} {ps : List MemPlace} (hv : Value.okWide Tryz.prog W .any base 22 v) (h : DataW.Trod enc Tryz.prog W 0 (fun _ => true) true 22 v d ps) : ∃ L, IntsAt W v L := by
  obtain ⟨a0, len, cap, rfl⟩ := okWide_slice Tryz.underlying22 hv
  obtain ⟨fuel, hf⟩ := h
  rcases open_ints Tryz.underlying22 Tryz.underlying3 (by kernel_rfl) hf with ⟨hcs, _⟩ | ⟨a, len', cap', ss, hcs, _, hl, hm, hz, _, hcell, hwf⟩
  · have e : Value.slice a0 len cap = .slice none 0 0 := by simpa [Value.cells] using hcs
    exact ⟨[], .inl ⟨e, rfl⟩⟩
  · have e : Value.slice a0 len cap = .slice (some a) len' cap' := by simpa [Value.cells] using hcs
    have hz' : ss.length = cap' := by simpa using hz
    have hlen : (ss.take len').length = len' := by rw [List.length_take]; omega
    refine ⟨ss.take len', .inr ⟨a, cap', by rw [e, hlen], by omega, hm, fun i hi => ?_⟩⟩
    have e2 : (ss.take len').getD i 0 = ss.getD i 0 := by
      rw [List.getD_eq_getElem?_getD, List.getD_eq_getElem?_getD, List.getElem?_take_of_lt (by omega)]
    rw [e2]
    refine ⟨hcell i (by omega), hwf _ ?_⟩
    rw [List.getD_eq_getElem?_getD, List.getElem?_eq_getElem (by omega)]
    exact List.getElem_mem _
end
end Go.Proofs.YtccidllcjaaeeabGreatDoor
