/- What a group keeps, as a list of items in order; what is met of its maps. Conditions: the state is one that is met. -/
import Derived.Test.YtccidllcjaaeeabGreatDoorHDumpSort
import Derived.Test.YtccidllcjaaeeabGreatDoorH5
namespace Go.Proofs.YtccidllcjaaeeabGreatDoor
set_option maxRecDepth 100000
open Go Go.Maps Go.RowKit
open Go.Shelf Go.Lib Go.Sort Go.MuLone
theorem partsT_in : ∀ (d : Nat) (p : TPart) (B : Nat → Bool), p.a < p.b → p.s.length = 8 →
    (∀ q ∈ partsT d p B, p.a ≤ q.a ∧ q.a < q.b ∧ q.b ≤ p.b ∧ q.s.length = 8 ∧ ∀ m, q.a ≤ m → m < q.b → B m = false) ∧ (partsT d p B).Pairwise (fun x y => x.b ≤ y.a) ∧ (partsT d p B).length ≤ p.b - p.a
  | 0, p, B, h, h8 => by
    unfold partsT
    split
    · exact ⟨fun q hq => by simp at hq, List.Pairwise.nil, Nat.zero_le _⟩
    · rename_i hB
      refine ⟨fun q hq => ?_, List.pairwise_singleton _ _, by simp; omega⟩
      obtain rfl := List.mem_singleton.1 hq
      exact ⟨Nat.le_refl _, h, Nat.le_refl _, h8, fun m h1 h2 => by
        cases hm : B m with
        | false => rfl
        | true => exact absurd ((anyB_iff _ _ _).2 ⟨m, h1, h2, hm⟩) hB⟩
  | d + 1, p, B, h, h8 => by
    unfold partsT
    split
    · split
      · exact ⟨fun q hq => by simp at hq, List.Pairwise.nil, Nat.zero_le _⟩
      · rename_i h1
        obtain ⟨e1, e2, e3⟩ := pL_size (p := p) (by omega)
        have eL : (pL p).a = p.a := rfl
        have eR : (pR p).a = p.a + splitN (p.b - p.a) := rfl
        have eR2 : (pR p).b = p.b := rfl
        obtain ⟨i1, i2, i3⟩ := partsT_in d (pL p) B (by omega) (kd_length _ _ _)
        obtain ⟨j1, j2, j3⟩ := partsT_in d (pR p) B (by omega) (kd_length _ _ _)
        refine ⟨fun q hq => ?_, List.pairwise_append.2 ⟨i2, j2, fun x hx y hy => ?_⟩, by rw [List.length_append]; omega⟩
        · rcases List.mem_append.1 hq with hq | hq
          · obtain ⟨a1, a2, a3, a4, a5⟩ := i1 q hq
            exact ⟨by omega, a2, by omega, a4, a5⟩
          · obtain ⟨a1, a2, a3, a4, a5⟩ := j1 q hq
            exact ⟨by omega, a2, by omega, a4, a5⟩
        · have h2 := (i1 x hx).2.2.1
          have h3 := (j1 y hy).1
          omega
    · rename_i hB
      refine ⟨fun q hq => ?_, List.pairwise_singleton _ _, by simp; omega⟩
      obtain rfl := List.mem_singleton.1 hq
      exact ⟨Nat.le_refl _, h, Nat.le_refl _, h8, fun m h1 h2 => by
        cases hm : B m with
        | false => rfl
        | true => exact absurd ((anyB_iff _ _ _).2 ⟨m, h1, h2, hm⟩) hB⟩
def nodeI (p : TPart) : DItem := ⟨0, p.a, p.b, 0, p.s⟩
def headI (s : GSt) (m : Nat) : DItem := ⟨1, m, m + 1, (s.M m).next, ratS (leafL s.root s.n m) (s.M m).next⟩
def keptI (s : GSt) (m g : Nat) : DItem := ⟨2, m, m + 1, g, keyL (leafL s.root s.n m) g⟩
def headB (s : GSt) (m : Nat) : Bool := (s.M m).begun && decide ((s.M m).next ≤ 65535)
def headsL (s : GSt) : List DItem := ((List.range s.n).filter (headB s)).map (headI s)
def keptsL (s : GSt) : List DItem := (List.range s.n).flatMap fun m => (s.M m).over.map (keptI s m)
/-- What an open group keeps. -/
def dumpL (s : GSt) : List DItem := (treeL s).map nodeI ++ (headsL s ++ keptsL s)
theorem headB_iff {s : GSt} {m : Nat} : headB s m = true ↔ (s.M m).begun = true ∧ (s.M m).next ≤ 65535 := by simp [headB]
theorem mem_heads {s : GSt} {d : DItem} : d ∈ headsL s ↔ ∃ m, m < s.n ∧ (s.M m).begun = true ∧ (s.M m).next ≤ 65535 ∧ d = headI s m := by
  rw [headsL, List.mem_map]
  constructor
  · rintro ⟨m, hm, rfl⟩
    rw [List.mem_filter, List.mem_range, headB_iff] at hm
    exact ⟨m, hm.1, hm.2.1, hm.2.2, rfl⟩
  · rintro ⟨m, h1, h2, h3, rfl⟩
    exact ⟨m, by rw [List.mem_filter, List.mem_range, headB_iff]; exact ⟨h1, h2, h3⟩, rfl⟩
theorem mem_kepts {s : GSt} {d : DItem} : d ∈ keptsL s ↔ ∃ m g, m < s.n ∧ g ∈ (s.M m).over ∧ d = keptI s m g := by
  rw [keptsL, List.mem_flatMap]
  constructor
  · rintro ⟨m, hm, hd⟩
    rw [List.mem_map] at hd
    obtain ⟨g, hg, rfl⟩ := hd
    exact ⟨m, g, List.mem_range.1 hm, hg, rfl⟩
  · rintro ⟨m, g, h1, h2, rfl⟩
    exact ⟨m, List.mem_range.2 h1, List.mem_map.2 ⟨g, h2, rfl⟩⟩
theorem tree_in {s : GSt} (hI : GInv s) : (∀ q ∈ treeL s, q.a < q.b ∧ q.b ≤ s.n ∧ q.s.length = 8 ∧ ∀ m, q.a ≤ m → m < q.b → (s.M m).begun = false) ∧ (treeL s).Pairwise (fun x y => x.b ≤ y.a) ∧ (treeL s).length ≤ 16 := by
  unfold treeL
  split
  · exact ⟨fun q hq => by simp at hq, List.Pairwise.nil, Nat.zero_le _⟩
  · have hn := hI.own
    obtain ⟨h1, h2, h3⟩ := partsT_in 16 ⟨0, s.n, s.root⟩ (fun i => (s.M i).begun) (show 0 < s.n by omega) hI.root
    refine ⟨fun q hq => ?_, h2, Nat.le_trans h3 (show s.n - 0 ≤ 16 by have := hI.n16; omega)⟩
    obtain ⟨a1, a2, a3, a4, a5⟩ := h1 q hq
    exact ⟨a2, a3, a4, a5⟩
theorem dump_len8 {s : GSt} (hI : GInv s) : ∀ d ∈ dumpL s, d.s.length = 8 := by
  intro d hd
  rw [dumpL, List.mem_append, List.mem_append] at hd
  rcases hd with hd | hd | hd
  · obtain ⟨q, hq, rfl⟩ := List.mem_map.1 hd
    exact ((tree_in hI).1 q hq).2.2.1
  · obtain ⟨m, _, _, _, rfl⟩ := mem_heads.1 hd
    exact ratS_length _ _
  · obtain ⟨m, g, _, _, rfl⟩ := mem_kepts.1 hd
    exact kd_length _ _ _
theorem dump_rise {s : GSt} (hI : GInv s) : Rise (dumpL s) := by
  obtain ⟨h1, h2, _⟩ := tree_in hI
  have hh : (List.range s.n).Pairwise (· < ·) := List.pairwise_lt_range
  unfold Rise dumpL
  rw [List.map_append, List.map_append]
  refine List.pairwise_append.2 ⟨?_, List.pairwise_append.2 ⟨?_, ?_, fun x hx y hy => ?_⟩, fun x hx y hy => ?_⟩
  · rw [List.map_map, List.pairwise_map]
    refine List.Pairwise.imp_of_mem (fun {a b} ha hb h => ?_) h2
    have h3 := (h1 a ha).1
    exact .inr ⟨rfl, .inl (show a.a < b.a by omega)⟩
  · rw [headsL, List.map_map, List.pairwise_map]
    exact (hh.sublist List.filter_sublist).imp fun {a b} h => .inr ⟨rfl, .inl h⟩
  · rw [keptsL, List.map_flatMap, List.pairwise_flatMap]
    refine ⟨fun m _ => ?_, hh.imp fun {a b} h x hx y hy => ?_⟩
    · rw [List.map_map, List.pairwise_map]
      exact (hI.rise m).imp fun {a b} h => .inr ⟨rfl, .inr ⟨rfl, h⟩⟩
    · rw [List.map_map, List.mem_map] at hx hy
      obtain ⟨g, _, rfl⟩ := hx
      obtain ⟨g', _, rfl⟩ := hy
      exact .inr ⟨rfl, .inl h⟩
  · obtain ⟨d, hd, rfl⟩ := List.mem_map.1 hx
    obtain ⟨e, he, rfl⟩ := List.mem_map.1 hy
    obtain ⟨m, _, _, _, rfl⟩ := mem_heads.1 hd
    obtain ⟨m', g, _, _, rfl⟩ := mem_kepts.1 he
    exact .inl (show 1 < 2 by omega)
  · obtain ⟨d, hd, rfl⟩ := List.mem_map.1 hx
    obtain ⟨q, _, rfl⟩ := List.mem_map.1 hd
    rcases List.mem_append.1 hy with hy | hy
    · obtain ⟨e, he, rfl⟩ := List.mem_map.1 hy
      obtain ⟨m, _, _, _, rfl⟩ := mem_heads.1 he
      exact .inl (show 0 < 1 by omega)
    · obtain ⟨e, he, rfl⟩ := List.mem_map.1 hy
      obtain ⟨m', g, _, _, rfl⟩ := mem_kepts.1 he
      exact .inl (show 0 < 2 by omega)
/-- The keys of heads that were met. -/
def CollH (s : GSt) (left : Lit → Bool) (hs : List K3) : Prop := hs.Nodup ∧ ∀ k, k ∈ hs ↔ ∃ m, m < s.n ∧ (s.M m).begun = true ∧ (s.M m).next ≤ 65535 ∧ left (intL m) = false ∧ k = (1, m, (s.M m).next)
/-- The keys of kept ones that were met. -/
def CollE (s : GSt) (left : Lit → Bool) (es : List K3) : Prop := es.Nodup ∧ ∀ k, k ∈ es ↔ ∃ m g, m < s.n ∧ g ∈ (s.M m).over ∧ left (slotL m g) = false ∧ k = (2, m, g)
theorem collH_step {s : GSt} {left : Lit → Bool} {hs : List K3} (hC : CollH s left hs) {m : Nat} (hm : m < s.n) (hb : (s.M m).begun = true) (hl : left (intL m) = true) :
    CollH s (fun z => left z && !z.sameKey (intL m)) (if (s.M m).next ≤ 65535 then hs ++ [(1, m, (s.M m).next)] else hs) := by
  obtain ⟨h1, h2⟩ := hC
  have hne : ∀ m', m' ≠ m → intL m' ≠ intL m := fun m' h e => h (intL_inj e)
  by_cases hn : (s.M m).next ≤ 65535
  · rw [if_pos hn]
    have hnot : ((1, m, (s.M m).next) : K3) ∉ hs := fun h => by
      obtain ⟨m', _, _, _, e2, e⟩ := (h2 _).1 h
      have e3 : m = m' := congrArg (fun k : K3 => k.2.1) e
      rw [← e3, hl] at e2; cases e2
    refine ⟨List.nodup_append.2 ⟨h1, by simp, fun a ha b hb' => ?_⟩, fun k => ?_⟩
    · rw [List.mem_singleton] at hb'; subst hb'
      exact fun e => hnot (e ▸ ha)
    · rw [List.mem_append, List.mem_singleton, h2 k]
      constructor
      · rintro (⟨m', a, b, c, d, e⟩ | rfl)
        · exact ⟨m', a, b, c, by simp [d], e⟩
        · exact ⟨m, hm, hb, hn, by simp [WideAt.sameKey_self (intL_key _)], rfl⟩
      · rintro ⟨m', a, b, c, d, e⟩
        by_cases hmm : m' = m
        · subst hmm; exact .inr e
        · simp only [sameKey_ne (hne m' hmm), Bool.not_false, Bool.and_true] at d
          exact .inl ⟨m', a, b, c, d, e⟩
  · rw [if_neg hn]
    refine ⟨h1, fun k => ?_⟩
    rw [h2 k]
    constructor
    · rintro ⟨m', a, b, c, d, e⟩; exact ⟨m', a, b, c, by simp [d], e⟩
    · rintro ⟨m', a, b, c, d, e⟩
      have hmm : m' ≠ m := fun h => hn (h ▸ c)
      simp only [sameKey_ne (hne m' hmm), Bool.not_false, Bool.and_true] at d
      exact ⟨m', a, b, c, d, e⟩
theorem collE_step {s : GSt} {left : Lit → Bool} {es : List K3} (hI : GInv s) (hC : CollE s left es) {m g : Nat} (hm : m < s.n) (hg : g ∈ (s.M m).over) (hl : left (slotL m g) = true) :
    CollE s (fun z => left z && !z.sameKey (slotL m g)) (es ++ [(2, m, g)]) := by
  obtain ⟨h1, h2⟩ := hC
  have hle : ∀ m' g', m' < s.n → g' ∈ (s.M m').over → m' ≤ 1000000 ∧ g' ≤ 1000000 := fun m' g' a b => by
    have h3 := hI.over m' g' b
    have h4 := hI.next m'
    have h5 := hI.n16
    omega
  have hnot : ((2, m, g) : K3) ∉ es := fun h => by
    obtain ⟨m', g', _, _, e2, e⟩ := (h2 _).1 h
    have e3 : m = m' := congrArg (fun k : K3 => k.2.1) e
    have e4 : g = g' := congrArg (fun k : K3 => k.2.2) e
    rw [← e3, ← e4, hl] at e2; cases e2
  refine ⟨List.nodup_append.2 ⟨h1, by simp, fun a ha b hb' => ?_⟩, fun k => ?_⟩
  · rw [List.mem_singleton] at hb'; subst hb'
    exact fun e => hnot (e ▸ ha)
  · rw [List.mem_append, List.mem_singleton, h2 k]
    constructor
    · rintro (⟨m', g', a, b, d, e⟩ | rfl)
      · exact ⟨m', g', a, b, by simp [d], e⟩
      · exact ⟨m, g, hm, hg, by simp [WideAt.sameKey_self (slotL_key _ _)], rfl⟩
    · rintro ⟨m', g', a, b, d, e⟩
      by_cases hmm : m' = m ∧ g' = g
      · obtain ⟨rfl, rfl⟩ := hmm; exact .inr e
      · have hne : slotL m' g' ≠ slotL m g := fun h => by
          obtain ⟨b1, b2⟩ := hle m' g' a b
          obtain ⟨b3, b4⟩ := hle m g hm hg
          exact hmm (slotL_inj (by omega) (by omega) (by omega) (by omega) h)
        simp only [sameKey_ne hne, Bool.not_false, Bool.and_true] at d
        exact .inl ⟨m', g', a, b, d, e⟩
/-- All that was met is all that is kept. -/
theorem coll_perm {s : GSt} (hI : GInv s) {l1 l2 : Lit → Bool} {hs es : List K3} (hH : CollH s l1 hs) (hE : CollE s l2 es) (h1 : ∀ kl, l1 kl = false) (h2 : ∀ kl, l2 kl = false) :
    ((treeL s).map (fun p => keyI (nodeI p)) ++ (hs ++ es)).Perm ((dumpL s).map keyI) := by
  have hr := dump_rise hI
  have ne : ∀ {a b : K3}, lexlt a b → a ≠ b := fun h e => by subst e; exact lex_irrefl _ h
  have hnd : ((dumpL s).map keyI).Nodup := List.Pairwise.imp ne hr
  unfold dumpL at hnd ⊢
  rw [List.map_append, List.map_append, List.map_map] at hnd ⊢
  obtain ⟨_, hnd2, _⟩ := List.nodup_append.1 hnd
  obtain ⟨n1, n2, _⟩ := List.nodup_append.1 hnd2
  refine List.Perm.append (List.Perm.refl _) (List.Perm.append ((List.perm_ext_iff_of_nodup hH.1 n1).2 fun k => ?_) ((List.perm_ext_iff_of_nodup hE.1 n2).2 fun k => ?_))
  · rw [hH.2 k, List.mem_map]
    constructor
    · rintro ⟨m, a, b, c, _, rfl⟩; exact ⟨headI s m, mem_heads.2 ⟨m, a, b, c, rfl⟩, rfl⟩
    · rintro ⟨d, hd, rfl⟩
      obtain ⟨m, a, b, c, rfl⟩ := mem_heads.1 hd
      exact ⟨m, a, b, c, h1 _, rfl⟩
  · rw [hE.2 k, List.mem_map]
    constructor
    · rintro ⟨m, g, a, b, _, rfl⟩; exact ⟨keptI s m g, mem_kepts.2 ⟨m, g, a, b, rfl⟩, rfl⟩
    · rintro ⟨d, hd, rfl⟩
      obtain ⟨m, g, a, b, rfl⟩ := mem_kepts.1 hd
      exact ⟨m, g, a, b, h2 _, rfl⟩
end Go.Proofs.YtccidllcjaaeeabGreatDoor
