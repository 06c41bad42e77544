/- Several texts of this claim in one file (a claim has at most 60): GroupFns, MapAt, MapAt2, Locks, ErrAs, GroupSt, GroupNew, DeferB, GroupNeed, GroupCommit, GroupNeed2. No condition of its own. -/
import Derived.Test.YtccidllcjaaeeabGreatDoorH2
import Derived.Maps.OwnSet
import Derived.Maps.Range
import Derived.Test.YtccidllcjaaeeabGreatDoorH1
import Derived.Test.YtccidllcjaaeeabGreatDoorProg
import Derived.Conc.RwLib
import Derived.Conc.MuData
import Derived.Conc.MuLone
import Derived.KernelRfl
import Derived.LaidEql
import Derived.Stop.Asserts
import Derived.RowKitTokens
import Derived.DeepKeys4
import Derived.IntWalk
import Derived.Defers
/- Laws of no program: which parts of the tree are kept, where some members are begun; what Split leaves; how deep a member lies. No condition of its own. -/
namespace Go.Proofs.YtccidllcjaaeeabGreatDoor
set_option maxRecDepth 100000
open Go
/-- Is one of the members from a to b - 1 begun? -/
def anyB (B : Nat → Bool) (a b : Nat) : Bool := (List.range (b - a)).any fun i => B (a + i)
theorem anyB_iff (B : Nat → Bool) (a b : Nat) : anyB B a b = true ↔ ∃ m, a ≤ m ∧ m < b ∧ B m = true := by
  simp only [anyB, List.any_eq_true, List.mem_range]
  constructor
  · rintro ⟨i, hi, hB⟩
    exact ⟨a + i, by omega, by omega, hB⟩
  · rintro ⟨m, h1, h2, hB⟩
    exact ⟨m - a, by omega, by rw [show a + (m - a) = m by omega]; exact hB⟩
theorem anyB_not {B : Nat → Bool} {a b : Nat} : anyB B a b = false ↔ ∀ m, a ≤ m → m < b → B m = false := by
  constructor
  · intro h m h1 h2
    cases hB : B m with
    | false => rfl
    | true => rw [(anyB_iff B a b).2 ⟨m, h1, h2, hB⟩] at h; cases h
  · intro h
    cases hA : anyB B a b with
    | false => rfl
    | true =>
      obtain ⟨m, h1, h2, hB⟩ := (anyB_iff B a b).1 hA
      rw [h m h1 h2] at hB; cases hB
/-- The parts that are kept of a part, where B tells who is begun. -/
def partsT : Nat → TPart → (Nat → Bool) → List TPart
  | 0, p, B => if anyB B p.a p.b then [] else [p]
  | d + 1, p, B => if anyB B p.a p.b then (if p.b - p.a ≤ 1 then [] else partsT d (pL p) B ++ partsT d (pR p) B) else [p]
def upd (B : Nat → Bool) (m : Nat) : Nat → Bool := fun i => B i || i == m
theorem partsT_none {d : Nat} {p : TPart} {B : Nat → Bool} (h : anyB B p.a p.b = false) : partsT d p B = [p] := by
  cases d <;> simp [partsT, h]
theorem partsT_congr : ∀ (d : Nat) (p : TPart) (B C : Nat → Bool), (∀ m, p.a ≤ m → m < p.b → B m = C m) → p.a ≤ p.b → partsT d p B = partsT d p C
  | 0, p, B, C, h, _ => by
    have : anyB B p.a p.b = anyB C p.a p.b := by
      rw [Bool.eq_iff_iff, anyB_iff, anyB_iff]
      exact ⟨fun ⟨m, h1, h2, h3⟩ => ⟨m, h1, h2, by rw [← h m h1 h2]; exact h3⟩, fun ⟨m, h1, h2, h3⟩ => ⟨m, h1, h2, by rw [h m h1 h2]; exact h3⟩⟩
    simp [partsT, this]
  | d + 1, p, B, C, h, hab => by
    have : anyB B p.a p.b = anyB C p.a p.b := by
      rw [Bool.eq_iff_iff, anyB_iff, anyB_iff]
      exact ⟨fun ⟨m, h1, h2, h3⟩ => ⟨m, h1, h2, by rw [← h m h1 h2]; exact h3⟩, fun ⟨m, h1, h2, h3⟩ => ⟨m, h1, h2, by rw [h m h1 h2]; exact h3⟩⟩
    rw [partsT, partsT, this]
    split
    · split
      · rfl
      · have hl := splitN_lt (p.b - p.a) (by omega)
        rw [partsT_congr d (pL p) B C (fun m h1 h2 => h m h1 (Nat.lt_of_lt_of_le h2 (by show p.a + splitN (p.b - p.a) ≤ p.b; omega))) (by show p.a ≤ p.a + _; omega),
          partsT_congr d (pR p) B C (fun m h1 h2 => h m (Nat.le_trans (by show p.a ≤ p.a + splitN (p.b - p.a); omega) h1) h2) (by show p.a + splitN (p.b - p.a) ≤ p.b; omega)]
    · rfl
theorem parts_within : ∀ (d : Nat) (p : TPart) (B : Nat → Bool), p.a < p.b → ∀ x ∈ partsT d p B, p.a ≤ x.a ∧ x.b ≤ p.b ∧ x.a < x.b
  | 0, p, B, hp, x, hx => by
    rw [partsT] at hx
    split at hx
    · cases hx
    · rw [List.mem_singleton] at hx; subst hx; exact ⟨Nat.le_refl _, Nat.le_refl _, hp⟩
  | d + 1, p, B, hp, x, hx => by
    rw [partsT] at hx
    split at hx
    · split at hx
      · cases hx
      · have hl := splitN_lt (p.b - p.a) (by omega)
        have h0 := splitN_pos (p.b - p.a)
        have eL : (pL p).a = p.a := rfl
        have eL2 : (pL p).b = p.a + splitN (p.b - p.a) := rfl
        have eR : (pR p).a = p.a + splitN (p.b - p.a) := rfl
        have eR2 : (pR p).b = p.b := rfl
        rcases List.mem_append.1 hx with h | h
        · have := parts_within d (pL p) B (by omega) x h
          omega
        · have := parts_within d (pR p) B (by omega) x h
          omega
    · rw [List.mem_singleton] at hx; subst hx; exact ⟨Nat.le_refl _, Nat.le_refl _, hp⟩
theorem parts_len8 : ∀ (d : Nat) (p : TPart) (B : Nat → Bool), p.s.length = 8 → ∀ x ∈ partsT d p B, x.s.length = 8
  | 0, p, B, hp, x, hx => by
    rw [partsT] at hx
    split at hx
    · cases hx
    · rw [List.mem_singleton] at hx; subst hx; exact hp
  | d + 1, p, B, hp, x, hx => by
    rw [partsT] at hx
    split at hx
    · split at hx
      · cases hx
      · rcases List.mem_append.1 hx with h | h
        · exact parts_len8 d (pL p) B (kd_length p.s lLeft 0) x h
        · exact parts_len8 d (pR p) B (kd_length p.s lRight 0) x h
    · rw [List.mem_singleton] at hx; subst hx; exact hp
/-- No part of the tree has a begun member. -/
theorem parts_not_begun : ∀ (d : Nat) (p : TPart) (B : Nat → Bool), ∀ x ∈ partsT d p B, ∀ m, x.a ≤ m → m < x.b → B m = false
  | 0, p, B, x, hx => by
    rw [partsT] at hx
    split at hx
    · cases hx
    · rename_i h
      rw [List.mem_singleton] at hx; subst hx; exact anyB_not.1 (by simpa using h)
  | d + 1, p, B, x, hx => by
    rw [partsT] at hx
    split at hx
    · split at hx
      · cases hx
      · rcases List.mem_append.1 hx with h | h
        · exact parts_not_begun d (pL p) B x h
        · exact parts_not_begun d (pR p) B x h
    · rename_i h
      rw [List.mem_singleton] at hx; subst hx; exact anyB_not.1 (by simpa using h)
/-- There are no more parts than members. -/
theorem parts_count : ∀ (d : Nat) (p : TPart) (B : Nat → Bool), p.a < p.b → (partsT d p B).length ≤ p.b - p.a
  | 0, p, B, hp => by
    rw [partsT]
    split <;> simp <;> omega
  | d + 1, p, B, hp => by
    rw [partsT]
    split
    · split
      · simp
      · have hl := splitN_lt (p.b - p.a) (by omega)
        have h0 := splitN_pos (p.b - p.a)
        have eL : (pL p).a = p.a := rfl
        have eL2 : (pL p).b = p.a + splitN (p.b - p.a) := rfl
        have eR : (pR p).a = p.a + splitN (p.b - p.a) := rfl
        have eR2 : (pR p).b = p.b := rfl
        have h1 := parts_count d (pL p) B (by omega)
        have h2 := parts_count d (pR p) B (by omega)
        rw [List.length_append]
        omega
    · simp; omega
/-- What Split leaves of a whole part is the parts of it without the member. -/
theorem descF_parts : ∀ (d : Nat) (p : TPart) (m : Nat) (bf bh : List TPart) (n e : Nat), p.a ≤ m → m < p.b → p.b - p.a ≤ d + 1 → p.b - p.a ≤ e + 1 →
    (descF d p m bf bh n).bf ++ (descF d p m bf bh n).bh.reverse = bf ++ partsT e p (fun i => i == m) ++ bh.reverse
  | d, p, m, bf, bh, n, e, h1, h2, h3, h4 => by
    have hany : anyB (fun i => i == m) p.a p.b = true := (anyB_iff _ _ _).2 ⟨m, h1, h2, by simp⟩
    by_cases h : p.b - p.a ≤ 1
    · rw [descF_stop _ _ _ _ _ _ h]
      have : partsT e p (fun i => i == m) = [] := by cases e <;> simp [partsT, hany, h]
      rw [this]; simp
    · have hp := splitN_pos (p.b - p.a)
      have hl := splitN_lt (p.b - p.a) (by omega)
      have eL : (pL p).a = p.a := rfl
      have eL2 : (pL p).b = p.a + splitN (p.b - p.a) := rfl
      have eR : (pR p).a = p.a + splitN (p.b - p.a) := rfl
      have eR2 : (pR p).b = p.b := rfl
      cases d with
      | zero => omega
      | succ d =>
        cases e with
        | zero => omega
        | succ e =>
          have hpe : partsT (e + 1) p (fun i => i == m) = partsT e (pL p) (fun i => i == m) ++ partsT e (pR p) (fun i => i == m) := by rw [partsT, if_pos hany, if_neg h]
          rw [hpe]
          cases hb : hasB (pL p) m with
          | true =>
            have h5 := hasB_pL hb
            rw [descF_left _ _ _ _ _ _ h hb, descF_parts d (pL p) m _ _ _ e (by omega) h5 (by omega) (by omega)]
            have hr : partsT e (pR p) (fun i => i == m) = [pR p] := partsT_none (anyB_not.2 fun i hi _ => by simp; omega)
            rw [hr]; simp
          | false =>
            have h5 := hasB_pR h1 hb
            rw [descF_right _ _ _ _ _ _ h hb, descF_parts d (pR p) m _ _ _ e h5 (by omega) (by omega) (by omega)]
            have hr : partsT e (pL p) (fun i => i == m) = [pL p] := partsT_none (anyB_not.2 fun i _ hi => by simp; omega)
            rw [hr]; simp
/-- How many halvings there are on the way to a member. -/
def depthF : Nat → Nat → Nat → Nat
  | 0, _, _ => 0
  | d + 1, n, m => if n ≤ 1 then 0 else if m < splitN n then 1 + depthF d (splitN n) m else 1 + depthF d (n - splitN n) (m - splitN n)
theorem partL_fuel : ∀ (d e : Nat) (s : List UInt8) (f t m : Nat), f ≤ m → m < t → t - f ≤ d + 1 → t - f ≤ e + 1 → partL d s f t m (m + 1) = partL e s f t m (m + 1) := by
  intro d
  induction d with
  | zero =>
    intro e s f t m h1 h2 h3 h4
    cases e with
    | zero => rfl
    | succ e => rw [partL, partL, if_pos ⟨by omega, by omega⟩]
  | succ d ih =>
    intro e s f t m h1 h2 h3 h4
    cases e with
    | zero => rw [partL, partL, if_pos ⟨by omega, by omega⟩]
    | succ e =>
      rw [partL, partL]
      split
      · rfl
      · have hp := splitN_pos (t - f)
        have hl := splitN_lt (t - f) (by omega)
        split
        · exact ih e _ _ _ _ h1 (by omega) (by omega) (by omega)
        · exact ih e _ _ _ _ (by omega) h2 (by omega) (by omega)
theorem descF_depth : ∀ (d : Nat) (p : TPart) (m : Nat) (bf bh : List TPart) (n e : Nat), p.a ≤ m → m < p.b → p.b - p.a ≤ d + 1 → p.b - p.a ≤ e + 1 → (descF d p m bf bh n).n = n + depthF e (p.b - p.a) (m - p.a)
  | d, p, m, bf, bh, n, e, h1, h2, h3, h4 => by
    by_cases h : p.b - p.a ≤ 1
    · rw [descF_stop _ _ _ _ _ _ h]
      cases e <;> simp [depthF, h]
    · have hp := splitN_pos (p.b - p.a)
      have hl := splitN_lt (p.b - p.a) (by omega)
      have eL : (pL p).a = p.a := rfl
      have eL2 : (pL p).b = p.a + splitN (p.b - p.a) := rfl
      have eR : (pR p).a = p.a + splitN (p.b - p.a) := rfl
      have eR2 : (pR p).b = p.b := rfl
      cases d with
      | zero => omega
      | succ d =>
        cases e with
        | zero => omega
        | succ e =>
          rw [depthF, if_neg h]
          cases hb : hasB (pL p) m with
          | true =>
            have h5 := hasB_pL hb
            rw [descF_left _ _ _ _ _ _ h hb, descF_depth d (pL p) m _ _ _ e (by omega) h5 (by omega) (by omega), if_pos (by omega), eL, eL2, show p.a + splitN (p.b - p.a) - p.a = splitN (p.b - p.a) by omega]
            omega
          | false =>
            have h5 := hasB_pR h1 hb
            rw [descF_right _ _ _ _ _ _ h hb, descF_depth d (pR p) m _ _ _ e h5 (by omega) (by omega) (by omega), if_neg (by omega), eR, eR2, show p.b - (p.a + splitN (p.b - p.a)) = p.b - p.a - splitN (p.b - p.a) by omega, show m - (p.a + splitN (p.b - p.a)) = m - p.a - splitN (p.b - p.a) by omega]
            omega
/-- THE TREE BEHIND A SPLIT. -/
theorem parts_split : ∀ (d : Nat) (p : TPart) (B : Nat → Bool) (m : Nat), p.a ≤ m → m < p.b → p.b - p.a ≤ d + 1 → p.b - p.a ≤ 17 → B m = false →
    ∃ pre q post, partsT d p B = pre ++ q :: post ∧ (∀ x ∈ pre, hasB x m = false) ∧ hasB q m = true ∧
      partsT d p (upd B m) = pre ++ (desc q m).bf ++ (desc q m).bh.reverse ++ post ∧ (desc q m).p.s = partL d p.s p.a p.b m (m + 1) ∧ (desc q m).n ≤ depthF d (p.b - p.a) (m - p.a)
  | d, p, B, m, h1, h2, h3, h17, hB => by
    have hupd : anyB (upd B m) p.a p.b = true := (anyB_iff _ _ _).2 ⟨m, h1, h2, by simp [upd]⟩
    cases hany : anyB B p.a p.b with
    | false =>
      refine ⟨[], p, [], by rw [partsT_none hany]; rfl, by simp, by simp [hasB, h1, h2], ?_, ?_, ?_⟩
      · have := descF_parts 16 p m [] [] 0 d h1 h2 (by omega) h3
        rw [desc]
        simp only [List.nil_append, List.reverse_nil, List.append_nil] at this ⊢
        rw [this]
        exact partsT_congr d p _ _ (fun i hi hi2 => by simp [upd, anyB_not.1 hany i hi hi2]) (by omega)
      · rw [desc, descF_partL 16 p m [] [] 0 h1 h2 (by omega)]
        exact partL_fuel _ _ _ _ _ _ h1 h2 (by omega) h3
      · rw [desc, descF_depth 16 p m [] [] 0 d h1 h2 (by omega) h3]; omega
    | true =>
      have h : ¬ p.b - p.a ≤ 1 := fun hle => by
        obtain ⟨i, hi1, hi2, hBi⟩ := (anyB_iff _ _ _).1 hany
        have : i = m := by omega
        rw [this, hB] at hBi; cases hBi
      cases d with
      | zero => omega
      | succ d =>
        have hp := splitN_pos (p.b - p.a)
        have hl := splitN_lt (p.b - p.a) (by omega)
        have eL : (pL p).a = p.a := rfl
        have eL2 : (pL p).b = p.a + splitN (p.b - p.a) := rfl
        have eR : (pR p).a = p.a + splitN (p.b - p.a) := rfl
        have eR2 : (pR p).b = p.b := rfl
        have e1 : partsT (d + 1) p B = partsT d (pL p) B ++ partsT d (pR p) B := by rw [partsT, if_pos hany, if_neg h]
        have e2 : partsT (d + 1) p (upd B m) = partsT d (pL p) (upd B m) ++ partsT d (pR p) (upd B m) := by rw [partsT, if_pos hupd, if_neg h]
        have hne : ¬ (p.a = m ∧ p.b = m + 1) := by omega
        rw [e1, e2, partL, if_neg hne, depthF, if_neg h]
        by_cases hm : m < p.a + splitN (p.b - p.a)
        · obtain ⟨pre, q, post, i1, i2, i3, i4, i5, i6⟩ := parts_split d (pL p) B m (by omega) (by omega) (by omega) (by omega) hB
          have hc : partsT d (pR p) (upd B m) = partsT d (pR p) B := partsT_congr d (pR p) _ _ (fun i hi _ => by simp [upd]; omega) (by omega)
          refine ⟨pre, q, post ++ partsT d (pR p) B, by rw [i1]; simp, i2, i3, by rw [i4, hc]; simp, ?_, ?_⟩
          · rw [i5, if_pos (by omega)]; rfl
          · rw [if_pos (by omega)]
            rw [eL, eL2, show p.a + splitN (p.b - p.a) - p.a = splitN (p.b - p.a) by omega] at i6
            omega
        · obtain ⟨pre, q, post, i1, i2, i3, i4, i5, i6⟩ := parts_split d (pR p) B m (by omega) (by omega) (by omega) (by omega) hB
          have hc : partsT d (pL p) (upd B m) = partsT d (pL p) B := partsT_congr d (pL p) _ _ (fun i _ hi => by simp [upd]; omega) (by omega)
          refine ⟨partsT d (pL p) B ++ pre, q, post, by rw [i1]; simp, ?_, i3, by rw [i4, hc]; simp, ?_, ?_⟩
          · intro x hx
            rcases List.mem_append.1 hx with hx | hx
            · have := parts_within d (pL p) B (by omega) x hx
              simp [hasB]; omega
            · exact i2 x hx
          · rw [i5, if_neg (by omega)]; rfl
          · rw [if_neg (by omega)]
            rw [eR, eR2, show p.b - (p.a + splitN (p.b - p.a)) = p.b - p.a - splitN (p.b - p.a) by omega, show m - (p.a + splitN (p.b - p.a)) = m - p.a - splitN (p.b - p.a) by omega] at i6
            omega
theorem idx_split {pre post : List TPart} {q : TPart} {m : Nat} (h1 : ∀ x ∈ pre, hasB x m = false) (h2 : hasB q m = true) : Lib.idxBy (fun _ y => hasB y m) (pre ++ q :: post) default = ((pre.length : Nat) : Int) := by
  rw [Lib.idxBy]
  have := Lib.idxByFrom_hit (fun (_ y : TPart) => hasB y m) default (pre ++ q :: post) pre.length 0 (by simp) (by simpa using h2) (fun j hj => by
    have : (pre ++ q :: post)[j]! = pre[j] := by
      rw [getElem!_pos (pre ++ q :: post) j (by simp; omega), List.getElem_append_left hj]
    rw [this]; exact h1 _ (List.getElem_mem hj))
  simpa using this
theorem rest_split {pre post : List TPart} {q : TPart} {D : Desc} : restL (pre ++ q :: post) pre.length D = pre ++ D.bf ++ D.bh.reverse ++ post := by
  simp [restL, List.drop_append]
end Go.Proofs.YtccidllcjaaeeabGreatDoor
/- Laws of no program: a map as the function that says what it holds: look-up, store, delete at the operations. No condition of its own. -/
namespace Go.Proofs.YtccidllcjaaeeabGreatDoor
set_option maxRecDepth 100000
open Go Go.Maps
/-- How an element reads: as itself. -/
def heldR (v : Value) : Option (DataW Value × List MemPlace) := some (.held v, [])
/-- D holds just what f says. -/
def ReadsF (D : DataW Value) (f : Lit → Option Value) : Prop := ∀ kl, (∀ v, f kl = some v → Maps.has D kl = true ∧ ∀ zd, D.atKey kl zd = .held v) ∧ (f kl = none → Maps.has D kl = false)
/-- Block b is a map that holds just what f says. -/
def mapAt (w : World) (P : Program) (k : TypeId) (b n : Nat) (f : Lit → Option Value) : Prop := ∃ D, w.ownsMap P k heldR b n D ∧ ReadsF D f
variable {P : Program} {k : TypeId} {w : World} {b n : Nat} {f : Lit → Option Value}
theorem mapAt_lt (h : mapAt w P k b n f) : b < w.heap.size := let ⟨_, h, _⟩ := h; h.lt
theorem mapAt_kept {w' : World} {row : Option Nat} (h : mapAt w P k b n f) (hg : w.grownBy w' row) (hne : some b ≠ row) : mapAt w' P k b n f :=
  let ⟨D, h, r⟩ := h; ⟨D, h.kept hg hne, r⟩
theorem mapAt_same {w' : World} (h : mapAt w P k b n f) (hg : w'.heap[b]? = w.heap[b]?) : mapAt w' P k b n f := by
  obtain ⟨D, ⟨es, clock, hb, F, hs, hD⟩, r⟩ := h
  exact ⟨D, ⟨es, clock, hg.trans hb, F, hs, hD⟩, r⟩
theorem mapAt_mono (h : mapAt w P k b n f) {n' : Nat} (hn : n ≤ n') : mapAt w P k b n' f := let ⟨D, h, r⟩ := h; ⟨D, h.mono hn, r⟩
theorem mapAt_made (w : World) (P : Program) (k : TypeId) : mapAt (w.alloc (.map #[] 0)) P k w.heap.size 0 (fun _ => none) :=
  ⟨_, World.ownsMap_made w P k heldR, fun _ => ⟨fun _ h => (by cases h), fun _ => rfl⟩⟩
theorem reads_has {D : DataW Value} (r : ReadsF D f) (kl : Lit) : Maps.has D kl = (f kl).isSome := by
  cases hf : f kl with
  | none => exact (r kl).2 hf
  | some v => exact ((r kl).1 v hf).1
theorem reads_at {D : DataW Value} (r : ReadsF D f) (kl : Lit) (z : Value) : D.atKey kl (.held z) = .held ((f kl).getD z) := by
  cases hf : f kl with
  | none => exact atKey_of_not_has ((r kl).2 hf) _
  | some v => exact ((r kl).1 v hf).2 _
def putF (f : Lit → Option Value) (kl : Lit) (v : Option Value) : Lit → Option Value := fun l => if l.sameKey kl then v else f l
theorem putF_same {kl : Lit} (hk : WideAt.IsKeyLit kl) (f : Lit → Option Value) (v : Option Value) : putF f kl v kl = v := by simp [putF, WideAt.sameKey_self hk]
theorem putF_other {kl l : Lit} (h : l ≠ kl) (f : Lit → Option Value) (v : Option Value) : putF f kl v l = f l := by simp [putF, sameKey_ne h]
theorem reads_put {D : DataW Value} (r : ReadsF D f) (hm : IsMap D) {kl : Lit} (hk : WideAt.IsKeyLit kl) (v : Value) : ReadsF (D.put kl (.held v)) (putF f kl (some v)) := fun l => by
  by_cases hl : l = kl
  · subst hl
    rw [putF_same hk]
    refine ⟨fun u hu => ?_, fun h => (by cases h)⟩
    cases hu
    exact ⟨has_put_same hm hk _, fun zd => atKey_put_same hm hk _ _⟩
  · rw [putF_other hl]
    refine ⟨fun u hu => ?_, fun hn => ?_⟩
    · obtain ⟨h1, h2⟩ := (r l).1 u hu
      exact ⟨by rw [has_put_other hl]; exact h1, fun zd => by rw [atKey_put_other hl]; exact h2 zd⟩
    · rw [has_put_other hl]; exact (r l).2 hn
theorem reads_del {D : DataW Value} (r : ReadsF D f) {kl : Lit} (hk : WideAt.IsKeyLit kl) : ReadsF (D.del kl) (putF f kl none) := fun l => by
  by_cases hl : l = kl
  · subst hl
    rw [putF_same hk]
    exact ⟨fun u hu => (by cases hu), fun _ => has_del_same⟩
  · rw [putF_other hl]
    refine ⟨fun u hu => ?_, fun hn => ?_⟩
    · obtain ⟨h1, h2⟩ := (r l).1 u hu
      exact ⟨by rw [has_del_other hl]; exact h1, fun zd => by rw [atKey_del_other hl]; exact h2 zd⟩
    · rw [has_del_other hl]; exact (r l).2 hn
section
variable {ops : Array Oper} {rest : List Oper} {o : Oper} {a : Act} {Q : Exit → Act → World → Prop}
/-- 'm[k]'. -/
theorem wpList_lookup_at (w : World) (hg : o.guard = none) (m x : Operand) (t : TypeId) (hop : o.op = Op.lookup t m x false) (k e : TypeId) (K : Keyed P k) (ht : P.underlying t = some (.map k e))
    (z : Value) (hz : (zeroValue e).run P w = .ok z w) (b n : Nat) (f : Lit → Option Value) (hm : a.eval m = .map (some b)) (hown : mapAt w P k b n f) (key : Value) (kl : Lit) (hx : a.eval x = key) (hkey : keyOf P k key = some kl)
    (hK : wpList P ops Q rest (a.put o.dst ((f kl).getD z)) w) : wpList P ops Q (o :: rest) a w := by
  obtain ⟨D, h, r⟩ := hown
  refine wpList_plain hg fun K' hK' => ?_
  obtain ⟨v, ps, hrun, hv⟩ := h.lookup K ht hz (zd := .held z) (zp := []) rfl hkey
  rw [reads_at r] at hv
  have : v = (f kl).getD z := by simpa [heldR] using congrArg (Option.map Prod.fst) hv
  subst this
  unfold Oper.wp
  simp [execOp, hop, hm, hx, hrun, Result.andThen]
  exact hK' _ _ hK
/-- 'v, ok := m[k]'. -/
theorem wpList_lookup_ok_at (w : World) (hg : o.guard = none) (m x : Operand) (t : TypeId) (hop : o.op = Op.lookup t m x true) (k e : TypeId) (K : Keyed P k) (ht : P.underlying t = some (.map k e))
    (z : Value) (hz : (zeroValue e).run P w = .ok z w) (b n : Nat) (f : Lit → Option Value) (hm : a.eval m = .map (some b)) (hown : mapAt w P k b n f) (key : Value) (kl : Lit) (hx : a.eval x = key) (hkey : keyOf P k key = some kl)
    (hK : wpList P ops Q rest (a.put o.dst (.tuple #[(f kl).getD z, .bool (f kl).isSome])) w) : wpList P ops Q (o :: rest) a w := by
  obtain ⟨D, h, r⟩ := hown
  refine wpList_lookup_own_ok w hg m x t hop k e K ht heldR hz (.held z) [] rfl b n D hm h key kl hx hkey fun v ps hv => ?_
  rw [reads_at r] at hv
  have : v = (f kl).getD z := by simpa [heldR] using congrArg (Option.map Prod.fst) hv
  subst this
  rw [reads_has r]
  exact hK
/-- 'm[k] = v'. -/
theorem wpList_mapUpdate_at (w : World) (hg : o.guard = none) (m x v : Operand) (t : TypeId) (hop : o.op = Op.mapUpdate t m x v) (k e : TypeId) (K : Keyed P k) (ht : P.underlying t = some (.map k e))
    (b n : Nat) (f : Lit → Option Value) (hm : a.eval m = .map (some b)) (hown : mapAt w P k b n f) (hn : n < maxLen) (key val : Value) (kl : Lit) (hx : a.eval x = key) (hv : a.eval v = val) (hkey : keyOf P k key = some kl)
    (hK : ∀ w', mapAt w' P k b (n + 1) (putF f kl (some val)) → w.mapTurned w' b → wpList P ops Q rest (a.put o.dst undef) w') : wpList P ops Q (o :: rest) a w := by
  obtain ⟨D, h, r⟩ := hown
  exact wpList_mapUpdate_in w hg m x v t hop k e K ht heldR b n D hm h hn key val kl hx hv hkey (.held val) [] rfl fun w' h' ht' => hK w' ⟨_, h', reads_put r h.isMap (K.key hkey) val⟩ ht'
/-- 'delete(m, k)'. -/
theorem wpList_delete_at (w : World) (hg : o.guard = none) (m x : Operand) (t k : TypeId) (hop : o.op = Op.call { callee := Callee.builtin Builtin.delete, args := #[m, x], argTypes := #[t, k] }) (e : TypeId) (K : Keyed P k) (ht : P.underlying t = some (.map k e))
    (b n : Nat) (f : Lit → Option Value) (hm : a.eval m = .map (some b)) (hown : mapAt w P k b n f) (key : Value) (kl : Lit) (hx : a.eval x = key) (hkey : keyOf P k key = some kl)
    (hK : ∀ w', mapAt w' P k b n (putF f kl none) → w.mapTurned w' b → wpList P ops Q rest (a.put o.dst (.tuple #[])) w') : wpList P ops Q (o :: rest) a w := by
  obtain ⟨D, h, r⟩ := hown
  exact wpList_delete_own w hg m x t k hop e K ht heldR b n D hm h key kl hx hkey fun w' h' ht' => hK w' ⟨_, h', reads_del r (K.key hkey)⟩ ht'
end
end Go.Proofs.YtccidllcjaaeeabGreatDoor
/- Laws of no program: a map's store, look-up and delete as equations on the operation's run, for a region that draws. No condition of its own. -/
namespace Go.Proofs.YtccidllcjaaeeabGreatDoor
open Go Go.Maps
variable {P : Program} {k : TypeId} {w : World} {b n : Nat} {f : Lit → Option Value}
theorem mapAt_store {t e : TypeId} (h : mapAt w P k b n f) (K : Keyed P k) (ht : P.underlying t = some (.map k e)) (hn : n < maxLen) {key : Value} {kl : Lit} (hkey : keyOf P k key = some kl) (v : Value) :
    ∃ w', (Instr.mapUpdate t (.map (some b)) key v).run P w = .ok () w' ∧ mapAt w' P k b (n + 1) (putF f kl (some v)) ∧ w.mapTurned w' b := by
  obtain ⟨D, h, r⟩ := h
  obtain ⟨w', h1, h2, h3⟩ := h.store K ht hn (val := v) (d := .held v) (ps := []) hkey rfl
  exact ⟨w', h1, ⟨_, h2, reads_put r h.isMap (K.key hkey) v⟩, h3⟩
theorem mapAt_drop {t e : TypeId} (h : mapAt w P k b n f) (K : Keyed P k) (ht : P.underlying t = some (.map k e)) {key : Value} {kl : Lit} (hkey : keyOf P k key = some kl) (ty : TypeId) :
    ∃ w', (Builtin.delete_ #[t, k] ty #[.map (some b), key]).run P w = .ok (.tuple #[]) w' ∧ mapAt w' P k b n (putF f kl none) ∧ w.mapTurned w' b := by
  obtain ⟨D, h, r⟩ := h
  obtain ⟨w', h1, h2, h3⟩ := h.drop K ht hkey ty
  exact ⟨w', h1, ⟨_, h2, reads_del r (K.key hkey)⟩, h3⟩
theorem mapAt_look {t e : TypeId} (h : mapAt w P k b n f) (K : Keyed P k) (ht : P.underlying t = some (.map k e)) {z : Value} (hz : (zeroValue e).run P w = .ok z w) {key : Value} {kl : Lit} (hkey : keyOf P k key = some kl) :
    (Instr.lookup t (.map (some b)) key false).run P w = .ok ((f kl).getD z) w := by
  obtain ⟨D, h, r⟩ := h
  obtain ⟨v, ps, hrun, hv⟩ := h.lookup K ht hz (zd := .held z) (zp := []) rfl hkey
  rw [reads_at r] at hv
  have : v = (f kl).getD z := by simpa [heldR] using congrArg (Option.map Prod.fst) hv
  rw [← this]
  exact hrun
theorem mapAt_look_ok {t e : TypeId} (h : mapAt w P k b n f) (K : Keyed P k) (ht : P.underlying t = some (.map k e)) {z : Value} (hz : (zeroValue e).run P w = .ok z w) {key : Value} {kl : Lit} (hkey : keyOf P k key = some kl) :
    (Instr.lookup t (.map (some b)) key true).run P w = .ok (.tuple #[(f kl).getD z, .bool (f kl).isSome]) w := by
  obtain ⟨D, h, r⟩ := h
  obtain ⟨v, ps, hrun, hv⟩ := h.look_ok K ht hz (zd := .held z) (zp := []) rfl hkey
  rw [reads_at r] at hv
  have : v = (f kl).getD z := by simpa [heldR] using congrArg (Option.map Prod.fst) hv
  rw [← this, ← reads_has r]
  exact hrun
/-- 'clear(m)'. -/
theorem mapAt_clear {t e : TypeId} (h : mapAt w P k b n f) (ht : P.underlying t = some (.map k e)) (ty : TypeId) :
    ∃ w', (Builtin.clear_ #[t] ty #[.map (some b)]).run P w = .ok (.tuple #[]) w' ∧ mapAt w' P k b 0 (fun _ => none) ∧ w.mapTurned w' b := by
  obtain ⟨D, ⟨es, clock, hb, F, hs, hD⟩, r⟩ := h
  refine ⟨ChangeMaps.setBlock w b (.map #[] clock), ?_, ⟨_, ⟨#[], clock, ChangeMaps.heap_setBlock_same hb _, ⟨by simp, MapKept.stamped_empty clock, by simp⟩, Nat.le_refl _, rfl⟩, fun _ => ⟨fun _ h => (by cases h), fun _ => rfl⟩⟩, ⟨es, clock, #[], clock, hb, rfl⟩⟩
  simp [Builtin.clear_, run_underlying ht, MapKept.run_getObj_map hb, MapKept.run_setObj_map _ hb, Result.andThen, ChangeMaps.setBlock]
end Go.Proofs.YtccidllcjaaeeabGreatDoor
/- The numbers under which this program holds sync.Mutex's functions and types (by the kit's worked shape), and that it holds them. No condition. -/
namespace Go.Proofs.YtccidllcjaaeeabGreatDoor
set_option maxRecDepth 100000
abbrev muLink : Go.Conc.Locks.MuLink := { lock := 24, unlock := 25, ilock := 44, iunlock := 45, lockSlow := 69, unlockSlow := 72, disable := 65, enable := 67, acquire := 68, relMerge := 70, cas32 := 66, add32 := 71, tMutex := 60, tIMutex := 58, tPMutex := 128, tPIMutex := 153, tPI32 := 155, tUP := 157, tNoCopy := 55, tU32 := 56 }
theorem muLib : Go.Conc.Locks.MuLib Tryz.prog muLink :=
  ⟨Tryz.func24, Tryz.func25, Tryz.func44, Tryz.func45, Tryz.func65, Tryz.func67, Tryz.func68, Tryz.func70, Tryz.func66, Tryz.func71,
   Tryz.underlying58, Tryz.runUnderlying58, Tryz.sizeOf58, Tryz.isAgg58, Tryz.zeroValue58, Tryz.underlying60, Tryz.runUnderlying60, Tryz.sizeOf60, Tryz.isAgg60, Tryz.zeroValue60, Tryz.underlying128, Tryz.runUnderlying128, Tryz.sizeOf128, Tryz.isAgg128, Tryz.zeroValue128, Tryz.underlying153, Tryz.runUnderlying153, Tryz.sizeOf153, Tryz.isAgg153, Tryz.zeroValue153, Tryz.underlying155, Tryz.runUnderlying155, Tryz.sizeOf155, Tryz.isAgg155, Tryz.zeroValue155, Tryz.underlying157, Tryz.runUnderlying157, Tryz.sizeOf157, Tryz.isAgg157, Tryz.zeroValue157, Tryz.underlying55, Tryz.runUnderlying55, Tryz.sizeOf55, Tryz.isAgg55, Tryz.zeroValue55, Tryz.underlying21, Tryz.runUnderlying21, Tryz.sizeOf21, Tryz.isAgg21, Tryz.zeroValue21, (by kernel_rfl)⟩
end Go.Proofs.YtccidllcjaaeeabGreatDoor
/- errors.As at the target *fault (after the kit's worked toy 'toyas'): of nil, of a fault, of an *about that holds a fault; and the walk of package epoch's code. Conditions: errors.errorType holds the handle of the type error. -/
namespace Go.Proofs.YtccidllcjaaeeabGreatDoor
set_option maxRecDepth 100000
open Go.RowKit Go.Extern.Stop Go.Stop Go.Extern
/-- errors.errorType holds the handle of the type error. -/
def EG (w : World) : Prop := w.cell? ⟨0, 0, none⟩ = some (.iface 221 (.agg #[.pointer (some ⟨1, 116, none⟩)]))
theorem as_nil (t : Value) (w : World) :
    Calls Tryz.prog 60 #[.nilIface, t] w fun e w' => e = .returned (.bool false) ∧ w' = w := by
  go_enter Tryz.func60, Tryz.ntmps60
  go_wp2
  go_ret
  exact ⟨rfl, rfl⟩
theorem valueOfP (t : Addr) (w : World) : (ReflectliteValue.unpack (.iface 146 (.pointer (some t)))).run Tryz.prog w
    = .ok (.agg #[.pointer (some ⟨1, 146, none⟩), .pointer (some ⟨w.heap.size, 0, none⟩), .int .u64 150]) (w.alloc (.cells #[.pointer (some t)] 146)) := by kernel_rfl
theorem typeP (a : Addr) (w : World) : (ReflectliteValue.methodAny (ReflectliteValue.valueError "reflectlite.Value.Type" 0) (fun t _ _ _ => ReflectliteType.toType t) #[.agg #[.pointer (some ⟨1, 146, none⟩), .pointer (some a), .int .u64 150]]).run Tryz.prog w
    = .ok (.iface 221 (.agg #[.pointer (some ⟨1, 146, none⟩)])) w := by kernel_rfl
theorem methodKind (h : Value) (w : World) : (Go.method 380 221 (.agg #[h]) "Kind").run Tryz.prog w = .ok (158, h) w := by kernel_rfl
theorem kindP (w : World) : ((ReflectliteType.abiMethod fun t => (fun a : Nat => Value.int IntKind.u8 (a : Int)) <$> Rtype.kind t) #[.pointer (some ⟨1, 146, none⟩)]).run Tryz.prog w = .ok (.int .u8 22) w := by kernel_rfl
theorem kindS (w : World) : ((ReflectliteType.abiMethod fun t => (fun a : Nat => Value.int IntKind.u8 (a : Int)) <$> Rtype.kind t) #[.pointer (some ⟨1, 138, none⟩)]).run Tryz.prog w = .ok (.int .u8 25) w := by kernel_rfl
theorem rlm (z : Sem Value) (f : TypeId → Addr → Nat → Nat → Sem Value) (v : Value) :
    ReflectliteValue.method z f #[v] = (do match ← ReflectliteValue.parts v with | none => z | some (t, a, fl) => f t a fl (fl % 32)) := rfl
theorem partsP (a : Addr) (w : World) : (ReflectliteValue.parts (.agg #[.pointer (some ⟨1, 146, none⟩), .pointer (some a), .int .u64 150])).run Tryz.prog w = .ok (some (146, a, 150)) w := by kernel_rfl
theorem isNilP (a p : Addr) (W : World) (ha : W.cell? a = some (.pointer (some p))) :
    (ReflectliteValue.method (ReflectliteValue.valueError "reflectlite.Value.IsNil" 0) ReflectliteValue.isNil #[.agg #[.pointer (some ⟨1, 146, none⟩), .pointer (some a), .int .u64 150]]).run Tryz.prog W = .ok (.bool false) W := by
  rw [rlm]
  simp only [Sem.run_bind, partsP, Result.andThen]
  simp [ReflectliteValue.isNil, loadVar, isAgg, underlying, Tryz.underlying146, ha, Result.andThen]
theorem methodElem (h : Value) (w : World) : (Go.method 380 221 (.agg #[h]) "Elem").run Tryz.prog w = .ok (170, .agg #[h]) w := by kernel_rfl
theorem methodImplements (h : Value) (w : World) : (Go.method 380 221 (.agg #[h]) "Implements").run Tryz.prog w = .ok (171, .agg #[h]) w := by kernel_rfl
theorem methodAssignableTo (h : Value) (w : World) : (Go.method 380 221 (.agg #[h]) "AssignableTo").run Tryz.prog w = .ok (168, .agg #[h]) w := by kernel_rfl
theorem elemP (w : World) : (ReflectliteType.method ReflectliteType.elem #[.agg #[.pointer (some ⟨1, 146, none⟩)]]).run Tryz.prog w = .ok (.iface 221 (.agg #[.pointer (some ⟨1, 138, none⟩)])) w := by kernel_rfl
theorem implementsS (w : World) : (ReflectliteType.relation "Implements" ReflectliteType.implements_ #[.agg #[.pointer (some ⟨1, 138, none⟩)], .iface 221 (.agg #[.pointer (some ⟨1, 116, none⟩)])]).run Tryz.prog w = .ok (.bool true) w := by kernel_rfl
theorem typeOfS (v : Value) (w : World) : (ReflectliteType.typeOf #[.iface 138 v]).run Tryz.prog w = .ok (.iface 221 (.agg #[.pointer (some ⟨1, 138, none⟩)])) w := by kernel_rfl
theorem typeOfB (v : Value) (w : World) : (ReflectliteType.typeOf #[.iface 150 v]).run Tryz.prog w = .ok (.iface 221 (.agg #[.pointer (some ⟨1, 150, none⟩)])) w := by kernel_rfl
theorem assignS (w : World) : (ReflectliteType.relation "AssignableTo" ReflectliteType.assignableTo #[.agg #[.pointer (some ⟨1, 138, none⟩)], .iface 221 (.agg #[.pointer (some ⟨1, 138, none⟩)])]).run Tryz.prog w = .ok (.bool true) w := by kernel_rfl
theorem assignB (w : World) : (ReflectliteType.relation "AssignableTo" ReflectliteType.assignableTo #[.agg #[.pointer (some ⟨1, 150, none⟩)], .iface 221 (.agg #[.pointer (some ⟨1, 138, none⟩)])]).run Tryz.prog w = .ok (.bool false) w := by kernel_rfl
theorem valueOfS (c : Int) (w : World) : (ReflectliteValue.unpack (.iface 138 (.agg #[.int .i64 c]))).run Tryz.prog w
    = .ok (.agg #[.pointer (some ⟨1, 138, none⟩), .pointer (some ⟨w.heap.size, 0, none⟩), .int .u64 153]) (w.alloc (.cells #[.int .i64 c] 138)) := by kernel_rfl
theorem elemOfP (w : World) : (Rtype.elem? 146).run Tryz.prog w = .ok (some 138) w := by kernel_rfl
theorem mkS (p : Addr) (w : World) : (ReflectliteValue.mk 138 p ReflectliteValue.flagAddr).run Tryz.prog w = .ok (.agg #[.pointer (some ⟨1, 138, none⟩), .pointer (some p), .int .u64 409]) w := by kernel_rfl
theorem elemV (a p : Addr) (W : World) (ha : W.cell? a = some (.pointer (some p))) :
    (ReflectliteValue.method (ReflectliteValue.valueError "reflectlite.Value.Elem" 0) ReflectliteValue.elem #[.agg #[.pointer (some ⟨1, 146, none⟩), .pointer (some a), .int .u64 150]]).run Tryz.prog W
      = .ok (.agg #[.pointer (some ⟨1, 138, none⟩), .pointer (some p), .int .u64 409]) W := by
  rw [rlm]
  simp only [Sem.run_bind, partsP, Result.andThen]
  simp [ReflectliteValue.elem, loadVar, isAgg, underlying, Tryz.underlying146, ha, Result.andThen, elemOfP, mkS]
theorem rls (v x : Value) : ReflectliteValue.set #[v, x] = (do
    let (some (dst, a, fl), some (src, b, _)) := (← ReflectliteValue.parts v, ← ReflectliteValue.parts x)
      | unsupported (.noEntry "extern/(internal/reflectlite.Value).Set.zeroValue")
    if fl / ReflectliteValue.flagAddr % 2 == 0 then unsupported (.noEntry "extern/(internal/reflectlite.Value).Set.unaddressable")
    let val ← loadVar src b
    if ← Rtype.directlyAssignable dst src then storeVar dst a val
    else if ← Rtype.implements dst src then
      if (← Rtype.kind src) == 20 then
        match val with
        | .nilIface => unsupported (.noEntry "extern/reflectlite: a nil value of one interface type handed on as a value of another")
        | _ => storeVar dst a val
      else storeVar dst a (.iface src val)
    else panicString ("reflectlite.Set: value of type " ++ (← Rtype.spelt src) ++ " is not assignable to type " ++ (← Rtype.spelt dst))
    pure (.tuple #[])) := rfl
theorem partsSa (a : Addr) (w : World) : (ReflectliteValue.parts (.agg #[.pointer (some ⟨1, 138, none⟩), .pointer (some a), .int .u64 409])).run Tryz.prog w = .ok (some (138, a, 409)) w := by kernel_rfl
theorem partsS (a : Addr) (w : World) : (ReflectliteValue.parts (.agg #[.pointer (some ⟨1, 138, none⟩), .pointer (some a), .int .u64 153])).run Tryz.prog w = .ok (some (138, a, 153)) w := by kernel_rfl
theorem directS (w : World) : (Rtype.directlyAssignable 138 138).run Tryz.prog w = .ok true w := by kernel_rfl
theorem setS (ta b : Addr) (c : Int) (old : Value) (W : World) (hb : W.cell? b = some (.int .i64 c)) (ht : W.cell? ta = some old) (hf : W.frozen? ta = false) (hb0 : b.add 0 = b) (ht0 : ta.add 0 = ta) :
    (ReflectliteValue.set #[.agg #[.pointer (some ⟨1, 138, none⟩), .pointer (some ta), .int .u64 409], .agg #[.pointer (some ⟨1, 138, none⟩), .pointer (some b), .int .u64 153]]).run Tryz.prog W
      = .ok (.tuple #[]) (W.setCell ta (.int .i64 c)) := by
  rw [rls]
  simp only [Sem.run_bind, partsSa, partsS, Result.andThen]
  simp [ReflectliteValue.flagAddr, loadVar, loadCells, loadCellsFrom, isAgg, underlying, Tryz.underlying138, hb, hb0, ht0, Result.andThen, directS, storeVar, Value.cells, storeCells]
  rw [run_store Tryz.prog W ta _ _ (by rfl)]
  simp [ht, hf]
set_option maxHeartbeats 4000000 in
theorem as_fault (c : Int) (t : Addr) (old : Value) (w : World) (hg : EG w) (ht0 : w.cell? t = some old) (hf0 : w.frozen? t = false) (htt : t.add 0 = t) :
    Calls Tryz.prog 60 #[.iface 138 (.agg #[.int .i64 c]), .iface 146 (.pointer (some t))] w fun ev w' => ev = .returned (.bool true) ∧ w' = ((((w.alloc (.cells #[.pointer (some t)] 146)).alloc (.cells #[.pointer (some ⟨1, 146, none⟩), .pointer (some ⟨w.heap.size, 0, none⟩), .int .u64 150] 184)).alloc (.cells #[.pointer (some ⟨1, 146, none⟩), .pointer (some ⟨w.heap.size, 0, none⟩), .int .u64 150] 184)).alloc (.cells #[.int .i64 c] 138)).setCell t (.int .i64 c) := by
  unfold EG at hg
  have h6 := @run_callFunc_extern Tryz.prog 91 _ (fun args => ReflectliteValue.unpack (args.getD 0 (.tuple #[]))) Tryz.func91 (by kernel_rfl) (by kernel_rfl) (by kernel_rfl) (by kernel_rfl)
  have h7 := @run_callFunc_extern Tryz.prog 92 _ (ReflectliteValue.methodAny (ReflectliteValue.valueError "reflectlite.Value.Type" 0) (fun t _ _ _ => ReflectliteType.toType t)) Tryz.func92 (by kernel_rfl) (by kernel_rfl) (by kernel_rfl) (by kernel_rfl)
  have h8 := @run_callFunc_extern Tryz.prog 93 _ (ReflectliteValue.method (ReflectliteValue.valueError "reflectlite.Value.IsNil" 0) ReflectliteValue.isNil) Tryz.func93 (by kernel_rfl) (by kernel_rfl) (by kernel_rfl) (by kernel_rfl)
  have h27 := @run_callFunc_extern Tryz.prog 158 _ (ReflectliteType.abiMethod fun t => do pure (.int .u8 (← Rtype.kind t))) Tryz.func158 (by kernel_rfl) (by kernel_rfl) (by kernel_rfl) (by kernel_rfl)
  have h37 := @run_callFunc_extern Tryz.prog 170 _ (ReflectliteType.method ReflectliteType.elem) Tryz.func170 (by kernel_rfl) (by kernel_rfl) (by kernel_rfl) (by kernel_rfl)
  have h38 := @run_callFunc_extern Tryz.prog 171 _ (ReflectliteType.relation "Implements" ReflectliteType.implements_) Tryz.func171 (by kernel_rfl) (by kernel_rfl) (by kernel_rfl) (by kernel_rfl)
  have h10 := @run_callFunc_extern Tryz.prog 122 _ ReflectliteType.typeOf Tryz.func122 (by kernel_rfl) (by kernel_rfl) (by kernel_rfl) (by kernel_rfl)
  have h35 := @run_callFunc_extern Tryz.prog 168 _ (ReflectliteType.relation "AssignableTo" ReflectliteType.assignableTo) Tryz.func168 (by kernel_rfl) (by kernel_rfl) (by kernel_rfl) (by kernel_rfl)
  have h11 := @run_callFunc_extern Tryz.prog 123 _ (ReflectliteValue.method (ReflectliteValue.valueError "reflectlite.Value.Elem" 0) ReflectliteValue.elem) Tryz.func123 (by kernel_rfl) (by kernel_rfl) (by kernel_rfl) (by kernel_rfl)
  have h12 := @run_callFunc_extern Tryz.prog 124 _ ReflectliteValue.set Tryz.func124 (by kernel_rfl) (by kernel_rfl) (by kernel_rfl) (by kernel_rfl)
  have tO := typeOfS
  have mA := methodAssignableTo
  have a25 := assignS
  have v25 := valueOfS
  have f6 := valueOfP
  have f7 := typeP
  have mK := methodKind
  have mE := methodElem
  have mI := methodImplements
  have k27 := kindP
  have k25 := kindS
  have e27 := elemP
  have i25 := implementsS
  have hlt : 0 < w.heap.size := block_lt_of_cell hg
  have htl : t.block < w.heap.size := block_lt_of_cell ht0
  have n8 := isNilP ⟨w.heap.size, 0, none⟩ t ((w.alloc (.cells #[.pointer (some t)] 146)).alloc (.cells #[.pointer (some ⟨1, 146, none⟩), .pointer (some ⟨w.heap.size, 0, none⟩), .int .u64 150] 184)) (by simp)
  have hg2 : ((w.alloc (.cells #[.pointer (some t)] 146)).alloc (.cells #[.pointer (some ⟨1, 146, none⟩), .pointer (some ⟨w.heap.size, 0, none⟩), .int .u64 150] 184)).cell? ⟨0, 0, none⟩ = some (.iface 221 (.agg #[.pointer (some ⟨1, 116, none⟩)])) := by
    rw [World.cell?_alloc_lt _ _ ⟨0, 0, none⟩ (by simp), World.cell?_alloc_lt _ _ ⟨0, 0, none⟩ hlt]; exact hg
  have el := elemV ⟨w.heap.size, 0, none⟩ t (((w.alloc (.cells #[.pointer (some t)] 146)).alloc (.cells #[.pointer (some ⟨1, 146, none⟩), .pointer (some ⟨w.heap.size, 0, none⟩), .int .u64 150] 184)).alloc (.cells #[.pointer (some ⟨1, 146, none⟩), .pointer (some ⟨w.heap.size, 0, none⟩), .int .u64 150] 184)) (by rw [World.cell?_alloc_lt _ _ ⟨w.heap.size, 0, none⟩ (by simp; omega)]; simp)
  have st := setS t ⟨w.heap.size + 1 + 1 + 1, 0, none⟩ c old ((((w.alloc (.cells #[.pointer (some t)] 146)).alloc (.cells #[.pointer (some ⟨1, 146, none⟩), .pointer (some ⟨w.heap.size, 0, none⟩), .int .u64 150] 184)).alloc (.cells #[.pointer (some ⟨1, 146, none⟩), .pointer (some ⟨w.heap.size, 0, none⟩), .int .u64 150] 184)).alloc (.cells #[.int .i64 c] 138))
    (by rw [World.cell?_alloc_at _ _ _ _ (by simp)]; rfl)
    (by rw [World.cell?_alloc_lt _ _ t (by simp; omega), World.cell?_alloc_lt _ _ t (by simp; omega), World.cell?_alloc_lt _ _ t (by simp; omega), World.cell?_alloc_lt _ _ t htl]; exact ht0)
    (by rw [World.frozen?_alloc_old _ _ t (by simp; omega), World.frozen?_alloc_old _ _ t (by simp; omega), World.frozen?_alloc_old _ _ t (by simp; omega), World.frozen?_alloc_old _ _ t (Nat.ne_of_lt htl)]; exact hf0) rfl htt
  go_enter Tryz.func60, Tryz.ntmps60
  go_wp2
  refine wp_loop_rounds 1 ?_
  rw [rounds_succ]
  go_wp2
  go_ret
  exact ⟨rfl, rfl⟩
theorem noAs (v : Value) (xT : TypeId) (w : World) : (Instr.typeAssert (.iface 150 v) xT 226 true).run Tryz.prog w = .ok (.tuple #[.nilIface, .bool false]) w := run_typeAssert_lacksB Tryz.underlying226 (by kernel_rfl) (by kernel_rfl) v xT w
theorem isUnwrap (v : Value) (xT : TypeId) (w : World) : (Instr.typeAssert (.iface 150 v) xT 229 true).run Tryz.prog w = .ok (.tuple #[.iface 150 v, .bool true]) w := run_typeAssert_hasB Tryz.underlying229 (by kernel_rfl) v xT w
theorem methodUnwrap (h : Value) (w : World) : (Go.method 380 150 h "Unwrap").run Tryz.prog w = .ok (163, h) w := by kernel_rfl
set_option maxHeartbeats 4000000 in
theorem as_about (c : Int) (E : Nat) (t : Addr) (old : Value) (w : World) (hg : EG w) (ht0 : w.cell? t = some old) (hf0 : w.frozen? t = false) (htt : t.add 0 = t)
    (hE : w.cell? ⟨E, 1, none⟩ = some (.iface 138 (.agg #[.int .i64 c]))) :
    Calls Tryz.prog 60 #[.iface 150 (.pointer (some ⟨E, 0, none⟩)), .iface 146 (.pointer (some t))] w fun ev w' => ev = .returned (.bool true) ∧ w' = ((((w.alloc (.cells #[.pointer (some t)] 146)).alloc (.cells #[.pointer (some ⟨1, 146, none⟩), .pointer (some ⟨w.heap.size, 0, none⟩), .int .u64 150] 184)).alloc (.cells #[.pointer (some ⟨1, 146, none⟩), .pointer (some ⟨w.heap.size, 0, none⟩), .int .u64 150] 184)).alloc (.cells #[.int .i64 c] 138)).setCell t (.int .i64 c) := by
  unfold EG at hg
  have h6 := @run_callFunc_extern Tryz.prog 91 _ (fun args => ReflectliteValue.unpack (args.getD 0 (.tuple #[]))) Tryz.func91 (by kernel_rfl) (by kernel_rfl) (by kernel_rfl) (by kernel_rfl)
  have h7 := @run_callFunc_extern Tryz.prog 92 _ (ReflectliteValue.methodAny (ReflectliteValue.valueError "reflectlite.Value.Type" 0) (fun t _ _ _ => ReflectliteType.toType t)) Tryz.func92 (by kernel_rfl) (by kernel_rfl) (by kernel_rfl) (by kernel_rfl)
  have h8 := @run_callFunc_extern Tryz.prog 93 _ (ReflectliteValue.method (ReflectliteValue.valueError "reflectlite.Value.IsNil" 0) ReflectliteValue.isNil) Tryz.func93 (by kernel_rfl) (by kernel_rfl) (by kernel_rfl) (by kernel_rfl)
  have h27 := @run_callFunc_extern Tryz.prog 158 _ (ReflectliteType.abiMethod fun t => do pure (.int .u8 (← Rtype.kind t))) Tryz.func158 (by kernel_rfl) (by kernel_rfl) (by kernel_rfl) (by kernel_rfl)
  have h37 := @run_callFunc_extern Tryz.prog 170 _ (ReflectliteType.method ReflectliteType.elem) Tryz.func170 (by kernel_rfl) (by kernel_rfl) (by kernel_rfl) (by kernel_rfl)
  have h38 := @run_callFunc_extern Tryz.prog 171 _ (ReflectliteType.relation "Implements" ReflectliteType.implements_) Tryz.func171 (by kernel_rfl) (by kernel_rfl) (by kernel_rfl) (by kernel_rfl)
  have h10 := @run_callFunc_extern Tryz.prog 122 _ ReflectliteType.typeOf Tryz.func122 (by kernel_rfl) (by kernel_rfl) (by kernel_rfl) (by kernel_rfl)
  have h35 := @run_callFunc_extern Tryz.prog 168 _ (ReflectliteType.relation "AssignableTo" ReflectliteType.assignableTo) Tryz.func168 (by kernel_rfl) (by kernel_rfl) (by kernel_rfl) (by kernel_rfl)
  have h11 := @run_callFunc_extern Tryz.prog 123 _ (ReflectliteValue.method (ReflectliteValue.valueError "reflectlite.Value.Elem" 0) ReflectliteValue.elem) Tryz.func123 (by kernel_rfl) (by kernel_rfl) (by kernel_rfl) (by kernel_rfl)
  have h12 := @run_callFunc_extern Tryz.prog 124 _ ReflectliteValue.set Tryz.func124 (by kernel_rfl) (by kernel_rfl) (by kernel_rfl) (by kernel_rfl)
  have tO := typeOfS
  have mA := methodAssignableTo
  have a25 := assignS
  have v25 := valueOfS
  have f6 := valueOfP
  have f7 := typeP
  have mK := methodKind
  have mE := methodElem
  have mI := methodImplements
  have k27 := kindP
  have k25 := kindS
  have e27 := elemP
  have i25 := implementsS
  have hlt : 0 < w.heap.size := block_lt_of_cell hg
  have htl : t.block < w.heap.size := block_lt_of_cell ht0
  have n8 := isNilP ⟨w.heap.size, 0, none⟩ t ((w.alloc (.cells #[.pointer (some t)] 146)).alloc (.cells #[.pointer (some ⟨1, 146, none⟩), .pointer (some ⟨w.heap.size, 0, none⟩), .int .u64 150] 184)) (by simp)
  have hg2 : ((w.alloc (.cells #[.pointer (some t)] 146)).alloc (.cells #[.pointer (some ⟨1, 146, none⟩), .pointer (some ⟨w.heap.size, 0, none⟩), .int .u64 150] 184)).cell? ⟨0, 0, none⟩ = some (.iface 221 (.agg #[.pointer (some ⟨1, 116, none⟩)])) := by
    rw [World.cell?_alloc_lt _ _ ⟨0, 0, none⟩ (by simp), World.cell?_alloc_lt _ _ ⟨0, 0, none⟩ hlt]; exact hg
  have el := elemV ⟨w.heap.size, 0, none⟩ t (((w.alloc (.cells #[.pointer (some t)] 146)).alloc (.cells #[.pointer (some ⟨1, 146, none⟩), .pointer (some ⟨w.heap.size, 0, none⟩), .int .u64 150] 184)).alloc (.cells #[.pointer (some ⟨1, 146, none⟩), .pointer (some ⟨w.heap.size, 0, none⟩), .int .u64 150] 184)) (by rw [World.cell?_alloc_lt _ _ ⟨w.heap.size, 0, none⟩ (by simp; omega)]; simp)
  have st := setS t ⟨w.heap.size + 1 + 1 + 1, 0, none⟩ c old ((((w.alloc (.cells #[.pointer (some t)] 146)).alloc (.cells #[.pointer (some ⟨1, 146, none⟩), .pointer (some ⟨w.heap.size, 0, none⟩), .int .u64 150] 184)).alloc (.cells #[.pointer (some ⟨1, 146, none⟩), .pointer (some ⟨w.heap.size, 0, none⟩), .int .u64 150] 184)).alloc (.cells #[.int .i64 c] 138))
    (by rw [World.cell?_alloc_at _ _ _ _ (by simp)]; rfl)
    (by rw [World.cell?_alloc_lt _ _ t (by simp; omega), World.cell?_alloc_lt _ _ t (by simp; omega), World.cell?_alloc_lt _ _ t (by simp; omega), World.cell?_alloc_lt _ _ t htl]; exact ht0)
    (by rw [World.frozen?_alloc_old _ _ t (by simp; omega), World.frozen?_alloc_old _ _ t (by simp; omega), World.frozen?_alloc_old _ _ t (by simp; omega), World.frozen?_alloc_old _ _ t (Nat.ne_of_lt htl)]; exact hf0) rfl htt
  have tB := typeOfB
  have aB := assignB
  have nA := noAs
  have iU := isUnwrap
  have mU := methodUnwrap
  have hEl : E < w.heap.size := block_lt_of_cell hE
  have hE2 : (((w.alloc (.cells #[.pointer (some t)] 146)).alloc (.cells #[.pointer (some ⟨1, 146, none⟩), .pointer (some ⟨w.heap.size, 0, none⟩), .int .u64 150] 184)).alloc (.cells #[.pointer (some ⟨1, 146, none⟩), .pointer (some ⟨w.heap.size, 0, none⟩), .int .u64 150] 184)).cell? ⟨E, 1, none⟩ = some (.iface 138 (.agg #[.int .i64 c])) := by
    rw [World.cell?_alloc_lt _ _ ⟨E, 1, none⟩ (by simp; omega), World.cell?_alloc_lt _ _ ⟨E, 1, none⟩ (by simp; omega), World.cell?_alloc_lt _ _ ⟨E, 1, none⟩ hEl]; exact hE
  go_enter Tryz.func60, Tryz.ntmps60
  go_wp2
  refine wp_loop_rounds 2 ?_
  rw [rounds_succ]
  go_wp2
  rw [rounds_succ]
  go_wp2
  go_ret
  exact ⟨rfl, rfl⟩
/-- What an error is told as. -/
inductive ErrIs (w : World) : Value → Int → Prop
  | ok : ErrIs w .nilIface 0
  | fault (c : Int) : ErrIs w (.iface 138 (.agg #[.int .i64 c])) c
  | about (c : Int) (E : Nat) (h : w.cell? ⟨E, 1, none⟩ = some (.iface 138 (.agg #[.int .i64 c]))) : ErrIs w (.iface 150 (.pointer (some ⟨E, 0, none⟩))) c
theorem EG.keep {w w' : World} (h : EG w) (h0 : w'.heap[0]? = w.heap[0]?) : EG w' := (World.cell?_of_block (a := ⟨0, 0, none⟩) h0).trans h
theorem EG.below {w w' : World} (h : EG w) (hb : Below w.heap.size w w') : EG w' := h.keep (hb.block 0 (block_lt_of_cell h))
set_option maxHeartbeats 4000000 in
theorem code_any (w : World) (v : Value) (c : Int) (hg : EG w) (he : ErrIs w v c) :
    Calls Tryz.prog 38 #[v] w fun e w' => e = .returned (.int .i64 c) ∧ Below w.heap.size w w' := by
  cases he with
  | ok =>
    go_enter Tryz.func38, Tryz.ntmps38
    go_wp2_with (go_at_call 60; refine (as_nil _ _).mono ?_; rintro e w' ⟨rfl, rfl⟩)
    go_ret
    exact ⟨rfl, balloc (Below.refl _ _) _⟩
  | fault c =>
    have h1 : EG (w.alloc (.cells #[.int .i64 0] 138)) := hg.below (balloc (Below.refl _ _) _)
    have h2 : (w.alloc (.cells #[.int .i64 0] 138)).cell? ⟨w.heap.size, 0, none⟩ = some (.int .i64 0) := by simp
    have h3 : (w.alloc (.cells #[.int .i64 0] 138)).frozen? ⟨w.heap.size, 0, none⟩ = false := by simp
    go_enter Tryz.func38, Tryz.ntmps38
    go_wp2_with (go_at_call 60; refine (as_fault c ⟨w.heap.size, 0, none⟩ (.int .i64 0) _ h1 h2 h3 rfl).mono ?_; rintro e w' ⟨rfl, rfl⟩)
    go_ret
    exact ⟨by first | rfl | simp, balloc (balloc (balloc (balloc (balloc (Below.refl _ _) _) _) _) _) _⟩
  | about c E hE =>
    have h1 : EG (w.alloc (.cells #[.int .i64 0] 138)) := hg.below (balloc (Below.refl _ _) _)
    have h2 : (w.alloc (.cells #[.int .i64 0] 138)).cell? ⟨w.heap.size, 0, none⟩ = some (.int .i64 0) := by simp
    have h3 : (w.alloc (.cells #[.int .i64 0] 138)).frozen? ⟨w.heap.size, 0, none⟩ = false := by simp
    have h4 : (w.alloc (.cells #[.int .i64 0] 138)).cell? ⟨E, 1, none⟩ = some (.iface 138 (.agg #[.int .i64 c])) := by
      rw [World.cell?_alloc_lt _ _ ⟨E, 1, none⟩ (block_lt_of_cell hE)]; exact hE
    go_enter Tryz.func38, Tryz.ntmps38
    go_wp2_with (go_at_call 60; refine (as_about c E ⟨w.heap.size, 0, none⟩ (.int .i64 0) _ h1 h2 h3 rfl h4).mono ?_; rintro e w' ⟨rfl, rfl⟩)
    go_ret
    exact ⟨by first | rfl | simp, balloc (balloc (balloc (balloc (balloc (Below.refl _ _) _) _) _) _) _⟩
end Go.Proofs.YtccidllcjaaeeabGreatDoor
/- A member's group as it lies in memory: its cells, its tree, its two maps, and what they are to hold. Definitions and small laws; no condition of its own. -/
namespace Go.Proofs.YtccidllcjaaeeabGreatDoor
set_option maxRecDepth 100000
open Go Go.Maps Go.RowKit
/-- What is known of a member. -/
structure Mem where
  begun : Bool
  next : Nat
  over : List Nat
/-- A group's state. -/
structure GSt where
  root : List UInt8
  n : Nat
  own : Nat
  closed : Bool
  cnt : Int
  M : Nat → Mem
/-- Where a group lies. -/
structure GPl where
  G : Nat
  H : Nat
  K : Nat
  T : Value
  mu : Int
def mem0 : Mem := ⟨false, 0, []⟩
def ratS (leaf : List UInt8) (g : Nat) : List UInt8 := if g ≤ 65535 then ratL leaf g else zeroS
theorem ratS_length (leaf : List UInt8) (g : Nat) : (ratS leaf g).length = 8 := by unfold ratS; split; exact ratL_length _ _; rfl
theorem ratS_zero (leaf : List UInt8) : ratS leaf 0 = kd leaf lRatchet 0 := rfl
theorem ratS_next (leaf : List UInt8) (g : Nat) (h : g ≤ 65535) : nextS (ratS leaf g) g = ratS leaf (g + 1) := by
  rw [ratS, if_pos h, nextS, ratS]
  by_cases h2 : g < 65535
  · rw [if_pos h2, if_pos (by omega)]; rfl
  · rw [if_neg h2, if_neg (by omega)]
theorem ratS_key (leaf : List UInt8) (g : Nat) (h : g ≤ 65535) : kd (ratS leaf g) lKey (g : Int) = keyL leaf g := by rw [ratS, if_pos h]; rfl
def treeL (s : GSt) : List TPart := if s.closed then [] else partsT 16 ⟨0, s.n, s.root⟩ (fun i => (s.M i).begun)
def headV (s : GSt) (m : Nat) : Option Value := if s.closed = false ∧ m < s.n ∧ (s.M m).begun = true then some (.agg (rcells (ratS (leafL s.root s.n m) (s.M m).next) (s.M m).next)) else none
def keptV (s : GSt) (m g : Nat) : Option Value := if s.closed = false ∧ m < s.n ∧ g ∈ (s.M m).over then some (.agg (cells (keyL (leafL s.root s.n m) g))) else none
def intL (x : Int) : Lit := .int .i64 x
def slotV (m g : Int) : Value := .agg #[.int .i64 m, .int .i64 g]
def slotL (m g : Int) : Lit := .string (keyBytes [.int .i64 m, .int .i64 g])
def HeadOk (s : GSt) (f : Lit → Option Value) : Prop := (∀ m : Nat, m ≤ 1000000 → f (intL m) = headV s m) ∧ ∀ kl, f kl ≠ none → ∃ m : Nat, m < s.n ∧ kl = intL m
def KeptOk (s : GSt) (f : Lit → Option Value) : Prop := (∀ m g : Nat, m ≤ 1000000 → g ≤ 1000000 → f (slotL m g) = keptV s m g) ∧ ∀ kl, f kl ≠ none → ∃ m g : Nat, m < s.n ∧ g ≤ 65535 ∧ kl = slotL m g
def gcells (p : GPl) (s : GSt) : Array Value := #[.int .i32 p.mu, .int .u32 0, .int .u32 (if s.closed then 1 else 0), .int .i32 0, .int .u32 0, .bool s.closed, .int .i64 s.cnt, .int .i64 s.n, .int .i64 s.own, p.T, .map (some p.H), .map (some p.K)]
theorem int_law : Keyed Tryz.prog 3 := int_keyed Tryz.underlying3
theorem slot_law : Keyed Tryz.prog 104 := Keyed.of_law (deep_law_laid (by kernel_rfl) (m := 2) (by omega) (of_decide_eq_true (by kernel_rfl)) (by kernel_rfl) (by rw [Tryz.underlying104]))
theorem key_int (x : Int) (h : 0 ≤ x) (h' : x ≤ 1000000000) : keyOf Tryz.prog 3 (.int .i64 x) = some (intL x) := keyOf_int_mk Tryz.underlying3 (WalkArith.wf_i64 (by omega))
theorem slot_keyType : Tryz.prog.keyType 104 = true := by kernel_rfl
theorem slot_cells : Tryz.prog.cellsOf 104 = 2 := by kernel_rfl
theorem int_cells : Tryz.prog.cellsOf 3 = 1 := by kernel_rfl
theorem slot_formed (m g : Int) : (slotV m g).formed Tryz.prog 104 = true := by simp [slotV, Value.formed, Tryz.underlying104, slot_cells]
theorem slot_lits (d : Nat) (m g : Int) (h : (Lit.int .i64 m).wf = true) (h' : (Lit.int .i64 g).wf = true) : Tryz.prog.keyLits (d + 2) 104 [.int .i64 m, .int .i64 g] = some [.int .i64 m, .int .i64 g] := by
  simp [Program.keyLits, Tryz.underlying104, Tryz.underlying3, slot_cells, int_cells, h, h']
theorem key_slot (m g : Int) (hm : 0 ≤ m) (hm' : m ≤ 1000000000) (hg : 0 ≤ g) (hg' : g ≤ 1000000000) : keyOf Tryz.prog 104 (slotV m g) = some (slotL m g) := by
  have h : (Lit.int .i64 m).wf = true := WalkArith.wf_i64 (by omega)
  have h' : (Lit.int .i64 g).wf = true := WalkArith.wf_i64 (by omega)
  obtain ⟨T, hT⟩ : ∃ T, T = Tryz.prog.types.size := ⟨_, rfl⟩
  have hs : 1 ≤ T := by rw [hT]; exact of_decide_eq_true (by kernel_rfl)
  obtain ⟨d, hd⟩ : ∃ d, T + 1 = d + 2 := ⟨T - 1, by omega⟩
  rw [keyOf, Tryz.underlying104]
  simp only [slot_keyType, slot_formed, Bool.and_self, if_true, ← hT, hd]
  rw [show (slotV m g).cells.toList = [.int .i64 m, .int .i64 g] from rfl, slot_lits d m g h h']
  rfl
theorem slotL_inj {m g m' g' : Nat} (hm : m ≤ 1000000000) (hm' : m' ≤ 1000000000) (hg : g ≤ 1000000000) (hg' : g' ≤ 1000000000) (h : slotL m g = slotL m' g') : m = m' ∧ g = g' := by
  have h1 := key_slot m g (by omega) (by omega) (by omega) (by omega)
  have h2 := key_slot m' g' (by omega) (by omega) (by omega) (by omega)
  rw [← h] at h2
  have := slot_law.inj h1 h2
  simp [slotV] at this
  omega
theorem intL_inj {m m' : Nat} (h : intL m = intL m') : m = m' := by
  simp only [intL, Lit.int.injEq, true_and] at h
  exact Int.ofNat_inj.1 h
theorem intL_key (x : Int) : WideAt.IsKeyLit (intL x) := trivial
theorem slotL_key (m g : Int) : WideAt.IsKeyLit (slotL m g) := trivial
/-- The group at p reads as s; each of its maps has at most t entries. -/
def GroupAt (w : World) (lo : Nat) (p : GPl) (s : GSt) (t : Nat) : Prop :=
  w.heap[p.G]? = some (.cells (gcells p s) 72 (0, 0)) ∧ w.ownsRow lo 49 10 p.T (treeL s).length (lcells (treeL s)) ∧
  (∃ f, mapAt w Tryz.prog 3 p.H t f ∧ HeadOk s f) ∧ (∃ f, mapAt w Tryz.prog 104 p.K t f ∧ KeptOk s f) ∧ lo ≤ p.G ∧ lo ≤ p.H ∧ lo ≤ p.K ∧ p.H ≠ p.K
/-- What is true of every state that is met. -/
structure GInv (s : GSt) : Prop where
  n16 : s.n ≤ 16
  own : s.own < s.n
  root : s.root.length = 8
  next : ∀ m, (s.M m).next ≤ 65536
  over : ∀ m, ∀ g ∈ (s.M m).over, g < (s.M m).next
  rise : ∀ m, (s.M m).over.Pairwise (· < ·)
  four : ∀ m, (s.M m).over.length ≤ 4
  none : ∀ m, (s.M m).begun = false → (s.M m).next = 0 ∧ (s.M m).over = []
/-- Only the group's own blocks have turned. -/
structure Frm (w w' : World) (p : GPl) : Prop where
  os : w'.os = w.os
  tape : w'.tape = w.tape
  output : w'.output = w.output
  size : w.heap.size ≤ w'.heap.size
  block : ∀ b, b < w.heap.size → b ≠ p.G → b ≠ p.H → b ≠ p.K → p.T.ownBlock ≠ some b → w'.heap[b]? = w.heap[b]?
theorem Frm.refl (w : World) (p : GPl) : Frm w w p := ⟨rfl, rfl, rfl, Nat.le_refl _, fun _ _ _ _ _ _ => rfl⟩
/-- A tree's slice is the old one, or new. -/
def TreeNew (w : World) (T T' : Value) : Prop := T' = T ∨ ∀ b, T'.ownBlock = some b → w.heap.size ≤ b
theorem Frm.trans {w w1 w2 : World} {p p1 : GPl} (h : Frm w w1 p) (k : Frm w1 w2 p1) (hG : p1.G = p.G) (hH : p1.H = p.H) (hK : p1.K = p.K) (hT : TreeNew w p.T p1.T) : Frm w w2 p :=
  ⟨k.os.trans h.os, k.tape.trans h.tape, k.output.trans h.output, Nat.le_trans h.size k.size, fun b hb h1 h2 h3 h4 =>
    (k.block b (Nat.lt_of_lt_of_le hb h.size) (hG ▸ h1) (hH ▸ h2) (hK ▸ h3) (fun e => by
      rcases hT with hT | hT
      · exact h4 (hT ▸ e)
      · exact absurd (hT b e) (by omega))).trans (h.block b hb h1 h2 h3 h4)⟩
theorem Frm.below {w w1 w2 : World} {p : GPl} (h : Frm w w1 p) (k : Below w1.heap.size w1 w2) : Frm w w2 p :=
  ⟨k.os.trans h.os, k.tape.trans h.tape, k.output.trans h.output, Nat.le_trans h.size k.size, fun b hb h1 h2 h3 h4 => (k.block b (Nat.lt_of_lt_of_le hb h.size)).trans (h.block b hb h1 h2 h3 h4)⟩
end Go.Proofs.YtccidllcjaaeeabGreatDoor
/- The walk of epoch.New: a new group as it lies. Conditions: the root has eight bytes. -/
namespace Go.Proofs.YtccidllcjaaeeabGreatDoor
set_option maxRecDepth 100000
open Go Go.Maps Go.RowKit
open Go.Shelf Go.Lib Go.Sort
/-- The state at the beginning. -/
def st0 (root : List UInt8) (n own : Nat) : GSt := ⟨root, n, own, false, 0, fun _ => mem0⟩
theorem treeL_st0 (root : List UInt8) (n own : Nat) : treeL (st0 root n own) = [⟨0, n, root⟩] := by
  show (if false = true then _ else partsT 16 ⟨0, n, root⟩ (fun _ => false)) = _
  rw [if_neg (by simp)]
  exact partsT_none (anyB_not.2 fun _ _ _ => rfl)
theorem headOk_st0 (root : List UInt8) (n own : Nat) : HeadOk (st0 root n own) (fun _ => none) := ⟨fun m _ => by simp [headV, st0, mem0], fun _ h => absurd rfl h⟩
theorem keptOk_st0 (root : List UInt8) (n own : Nat) : KeptOk (st0 root n own) (fun _ => none) := ⟨fun m g _ _ => by simp [keptV, st0, mem0], fun _ h => absurd rfl h⟩
theorem inv_st0 (root : List UInt8) (n own : Nat) (hk : root.length = 8) (h : own < n) (hn : n ≤ 16) : GInv (st0 root n own) :=
  ⟨hn, h, hk, fun _ => Nat.zero_le _, fun _ g hg => by simp [st0, mem0] at hg, fun _ => List.Pairwise.nil, fun _ => Nat.zero_le _, fun _ _ => ⟨rfl, rfl⟩⟩
theorem new_no (w : World) (root : List UInt8) (n m : Int) (h : ¬ (1 ≤ n ∧ n ≤ 16 ∧ 0 ≤ m ∧ m < n)) :
    Calls Tryz.prog 5 #[.agg (cells root), .int .i64 n, .int .i64 m] w fun e w' => e = .returned (.tuple #[.pointer none, .int .i64 1]) ∧ Below w.heap.size w w' := by
  have H := Lib.hid h
  clear h
  go_enter Tryz.func5, Tryz.ntmps5
  go_wp2_with fail
  refine (fits_no _ n m H.out).mono ?_
  rintro e w' ⟨rfl, rfl⟩
  go_wp2
  go_ret2
  exact ⟨rfl, balloc (Below.refl _ _) _⟩
set_option maxHeartbeats 4000000 in
theorem new_yes (w : World) (root : List UInt8) (n m : Nat) (hk : root.length = 8) (hm : m < n) (hn : n ≤ 16) :
    Calls Tryz.prog 5 #[.agg (cells root), .int .i64 n, .int .i64 m] w fun e w' => ∃ p : GPl, e = .returned (.tuple #[.pointer (some ⟨p.G, 0, none⟩), .int .i64 0]) ∧ p.mu = 0 ∧ Below w.heap.size w w' ∧ GroupAt w' w.heap.size p (st0 root n m) 0 := by
  have Hk := Lib.hid hk
  clear hk
  obtain ⟨i0, hi', hz0', hz1', hz2'⟩ := info_parts infoPartI
  have hi := Lib.hid hi'
  have hz0 := Lib.hid hz0'
  have hz1 := Lib.hid hz1'
  clear hi' hz0' hz1' hz2'
  have hp10 : (pcells ⟨0, n, root⟩).size = 10 := pcells_size _ Hk.out
  have Hp10 := Lib.hid hp10
  clear hp10
  have hmm := @run_makeMap Tryz.prog
  go_enter Tryz.func5, Tryz.ntmps5
  go_wp2_with fail
  refine (fits_yes _ n m (by omega) (by omega) (by omega) (by omega)).mono ?_
  rintro e w' ⟨rfl, rfl⟩
  go_wp2_with (first
    | (refine wpList_load_row rfl 36 (.tmp 3) rfl w.heap.size rfl _ (cells root) _ _ (heap_alloc_new _ _) Tryz.underlying36 rfl (by rw [infoSecret, cells_size, Hk.out]) ?_)
    | (refine wpList_build_part rfl _ _ _ rfl 0 n root Hk.out (by rfl) (by rfl) (by rfl) ?_)
    | (refine wpList_slice_one rfl 51 49 (.tmp 16) (by rfl) (pcells ⟨0, n, root⟩) (by rfl) i0 _ Tryz.underlying51 hi.out hz0.out (hz1.out.trans Hp10.out.symm) (by rw [Hp10.out]; decide) (by rw [Hp10.out]; decide) ?_))
  refine bodyPost_ret (results_tmp2 rfl _ _ _) rfl ⟨⟨w.heap.size + 1 + 1 + 1 + 1, w.heap.size + 1 + 1, w.heap.size + 1 + 1 + 1, .slice (some ⟨w.heap.size + 1, 0, none⟩) 1 1, 0⟩, rfl, rfl, balloc (balloc (balloc (balloc (balloc (Below.refl _ _) _) _) _) _) _, ?_⟩
  refine ⟨heap_alloc_at _ _ _ (by simp), ?_, ⟨_, mapAt_kept (mapAt_kept (w := ((w.alloc _).alloc _).alloc _) ?_ (World.grownBy_alloc _ _ none) (by simp)) (World.grownBy_alloc _ _ none) (by simp), headOk_st0 root n m⟩,
    ⟨_, mapAt_kept (w := (((w.alloc _).alloc _).alloc _).alloc _) ?_ (World.grownBy_alloc _ _ none) (by simp), keptOk_st0 root n m⟩, by show w.heap.size ≤ w.heap.size + 1 + 1 + 1 + 1; omega, by show w.heap.size ≤ w.heap.size + 1 + 1; omega, by show w.heap.size ≤ w.heap.size + 1 + 1 + 1; omega, by show w.heap.size + 1 + 1 ≠ w.heap.size + 1 + 1 + 1; omega⟩
  · rw [treeL_st0]
    have e : lcells [⟨0, n, root⟩] = (pcells ⟨0, n, root⟩).toList := by rw [← encP_eq _ Hk.out]; simp [lcells]
    refine ⟨by rw [e, Array.length_toList, Hp10.out]; rfl, .inr ⟨w.heap.size + 1, 1, pcells ⟨0, n, root⟩, rfl, by omega, ?_, Nat.le_refl _, by unfold maxLen; omega, by rw [Hp10.out], by rw [e, List.take_of_length_le (by rw [Array.length_toList, Hp10.out]; exact Nat.le_refl _)]⟩⟩
    rw [Below.heap_alloc _ _ _ (by simp), Below.heap_alloc _ _ _ (by simp), Below.heap_alloc _ _ _ (by simp)]
    exact heap_alloc_at _ _ _ (by simp)
  · have := mapAt_made ((w.alloc (.cells (cells root) 36)).alloc (.cells (pcells ⟨0, n, root⟩) 49)) Tryz.prog 3
    simpa using this
  · have := mapAt_made (((w.alloc (.cells (cells root) 36)).alloc (.cells (pcells ⟨0, n, root⟩) 49)).alloc (.map #[] 0)) Tryz.prog 104
    simpa using this
end Go.Proofs.YtccidllcjaaeeabGreatDoor
/- Laws of no program: a body whose deferred calls are calls of builtins (after the kit's Defers). No condition of its own. -/
namespace Go.Proofs.YtccidllcjaaeeabGreatDoor
open Go
variable {P : Program}
/-- The deferred calls are builtins that run to their end; then the results are read. -/
def LeavesB (P : Program) (fn : Func) (tmps : Array Value) (R : Ending → World → Prop) : List Deferred → World → Prop
  | [], w => ∃ v, (results fn tmps).run P w = .ok v w ∧ R (.returned v) w
  | d :: ds, w => ∃ b ts t cs v w', d.target = .builtin b ts t cs ∧ (invoke d.target d.args).run P w = .ok (.value v) w' ∧ LeavesB P fn tmps R ds w'
def bodyPostB (P : Program) (fn : Func) (R : Ending → World → Prop) : Exit → Act → World → Prop
  | .normal, a, w | .ret, a, w => LeavesB P fn a.tmps R a.defers w
  | .outgrown, _, w => R .outgrown w
  | _, _, _ => False
theorem step_deferB {fr : Frame} {cs : List Frame} {w w' : World} {d : Deferred} {ds : List Deferred} {b : Builtin} {ts : Array TypeId} {t : TypeId} {ks : Array Bool} {v : Value}
    (hm : fr.mode = .returning) (hd : fr.defers = d :: ds) (ht : d.target = .builtin b ts t ks) (hi : (invoke d.target d.args).run P w = .ok (.value v) w') :
    step P (lone fr cs w) = .next (lone { fr with defers := ds } cs w') := by
  obtain ⟨tt, a⟩ := d
  simp only at ht hi
  subst ht
  refine step_lone_go ?_
  simp [stepG, unwind, callDeferred, hm, hd, hi]
theorem leavesB_steps {fn : Func} {tmps : Array Value} {R : Ending → World → Prop} : ∀ (ds : List Deferred) (w : World) (fr : Frame) (cs : List Frame), fr.mode = .returning → fr.defers = ds → fr.tmps = tmps → P.funcs[fr.fn]? = some fn → fr.kind = .normal → LeavesB P fn tmps R ds w →
    ∃ e w' fr', R e w' ∧ Comes P (lone fr cs w) (lone fr' cs w') e ∧ fr'.fn = fr.fn ∧ fr'.leaving P w' e := by
  intro ds
  induction ds with
  | nil =>
    intro w fr cs hu hd ht hf hk h
    obtain ⟨v, hr, hR⟩ := h
    exact ⟨.returned v, w, fr, hR, Steps.refl P _, rfl, hu, hd, hk, fn, hf, ht ▸ hr⟩
  | cons d ds ih =>
    intro w fr cs hu hd ht hf hk h
    obtain ⟨b, ts, t, ks, v, w1, htar, hinv, hrest⟩ := h
    have h1 := step_deferB (cs := cs) hu hd htar hinv
    obtain ⟨e', w'', fr', hR', hs', hfn', hl'⟩ := ih w1 { fr with defers := ds } cs hu rfl ht hf hk hrest
    exact ⟨e', w'', fr', hR', Comes.of_steps (.one h1) hs', hfn', hl'⟩
theorem calls_of_wp_defersB {f : FuncId} {fn : Func} {c : Code} {args : Array Value} {w : World} {R : Ending → World → Prop}
    (hf : P.funcs[f]? = some fn) (hb : fn.body = some c)
    (h : c.wp P (bodyPostB P fn R) { tmps := args ++ Array.replicate (fn.ntmps - args.size) undef, defers := [] } w) : Calls P f args w R := by
  intro cs
  let b : Frame := { (default : Frame) with fn := f, kind := .normal }
  have henter : Frame.enter P f args .normal =
      b.at { tmps := args ++ Array.replicate (fn.ntmps - args.size) undef, defers := [] } [.code c] := by
    simp [Frame.enter, Frame.at, hf, hb, b]
  obtain ⟨e, a', w', hq, harr⟩ := h b [] cs
  rw [← henter] at harr
  cases e with
  | normal =>
    obtain ⟨e', w'', fr', hR, hs, hfn, hl⟩ := leavesB_steps a'.defers w' { b.at a' [] with mode := .returning } cs rfl rfl rfl hf rfl hq
    exact ⟨e', w'', fr', hR, Comes.of_steps (Steps.trans harr (.one step_end)) hs, hfn, hl⟩
  | ret =>
    obtain ⟨todo, hs₀⟩ := harr
    obtain ⟨e', w'', fr', hR, hs, hfn, hl⟩ := leavesB_steps a'.defers w' { b.at a' todo with mode := .returning } cs rfl rfl rfl hf rfl hq
    exact ⟨e', w'', fr', hR, Comes.of_steps hs₀ hs, hfn, hl⟩
  | panic chain => exact hq.elim
  | exit id => exact hq.elim
  | goto l => exact hq.elim
  | outgrown => exact ⟨.outgrown, w', b, hq, harr.resolve_left (by simp [b]), rfl, trivial⟩
end Go.Proofs.YtccidllcjaaeeabGreatDoor
/- The walks of a group's Work, need and commit. Conditions: the group lies and reads as its state; the counter is far from the end. -/
namespace Go.Proofs.YtccidllcjaaeeabGreatDoor
set_option maxRecDepth 100000
open Go Go.Maps Go.RowKit
open Go.Shelf Go.Lib Go.Sort
theorem count_any (D o : Nat) (v : Int) (w : World) (hx : w.cell? ⟨D, o, none⟩ = some (.int .i64 v)) :
    Calls Tryz.prog 48 #[.pointer (some ⟨D, o, none⟩)] w fun e w' => e = .returned (.int .i64 v) ∧ w' = w := by
  have h := run_call_load (P := Tryz.prog) (f := 107) Tryz.func107 (by kernel_rfl) (by kernel_rfl) (by kernel_rfl) .i64 (by kernel_rfl) hx
  go_enter Tryz.func48, Tryz.ntmps48
  go_wp2
  go_ret
  exact ⟨rfl, rfl⟩
theorem g_cells {w : World} {p : GPl} {s : GSt} (h : w.heap[p.G]? = some (.cells (gcells p s) 72 (0, 0))) :
    w.cell? ⟨p.G, 0, none⟩ = some (.int .i32 p.mu) ∧ w.cell? ⟨p.G, 5, none⟩ = some (.bool s.closed) ∧ w.cell? ⟨p.G, 6, none⟩ = some (.int .i64 s.cnt) ∧ w.cell? ⟨p.G, 7, none⟩ = some (.int .i64 s.n) ∧
    w.cell? ⟨p.G, 8, none⟩ = some (.int .i64 s.own) ∧ w.cell? ⟨p.G, 9, none⟩ = some p.T ∧ w.cell? ⟨p.G, 10, none⟩ = some (.map (some p.H)) ∧ w.cell? ⟨p.G, 11, none⟩ = some (.map (some p.K)) := by
  refine ⟨?_, ?_, ?_, ?_, ?_, ?_, ?_, ?_⟩ <;> (rw [cell_of_row _ _ _ _ _ _ h]; rfl)
theorem work_any (w : World) (lo t : Nat) (p : GPl) (s : GSt) (h : GroupAt w lo p s t) :
    Calls Tryz.prog 28 #[.pointer (some ⟨p.G, 0, none⟩)] w fun e w' => e = .returned (.int .i64 s.cnt) ∧ w' = w := by
  obtain ⟨_, _, c6, _⟩ := g_cells h.1
  go_enter Tryz.func28, Tryz.ntmps28
  go_wp2_with (go_at_call 48; refine (count_any p.G 6 s.cnt _ c6).mono ?_; rintro e w' ⟨rfl, rfl⟩)
  go_ret
  exact ⟨rfl, rfl⟩
theorem zeroRat (w : World) : (zeroValue 102).run Tryz.prog w = .ok (.agg (rcells zeroS 0)) w := by kernel_rfl
theorem zeroSec (w : World) : (zeroValue 36).run Tryz.prog w = .ok (.agg (cells zeroS)) w := by kernel_rfl
theorem store9_eq {w : World} {b t : Nat} {s : List UInt8} {g0 : Int} (h : w.heap[b]? = some (.cells (rcells s g0) t (0, 0))) (hs : s.length = 8) (k : List UInt8) (g : Int) {a0 a1 a2 a3 a4 a5 a6 a7 : UInt8} (hk : k = [a0, a1, a2, a3, a4, a5, a6, a7]) :
    (store8 w b (.int .u8 a0.toNat) (.int .u8 a1.toNat) (.int .u8 a2.toNat) (.int .u8 a3.toNat) (.int .u8 a4.toNat) (.int .u8 a5.toNat) (.int .u8 a6.toNat) (.int .u8 a7.toNat)).setCell ⟨b, 8, none⟩ (.int .i64 g) = w.setRow b (rcells k g) := by
  rw [store8_eq h, set8_ratchet s hs g0, setCell_eq_setRow _ _ _ _ _ _ _ (setRow_heap _ _ _ _ _ _ h), setRow_setRow, hk]
  congr 1
theorem results_ct {P : Program} {fn : Func} {q u : Tmp} {ty : TypeId} (h : fn.results = #[.cell q ty, .tmp u]) (tmps : Array Value) (w : World) (g : Nat) (t : TypeId) (cs : Array Value) (fr : Nat × Nat) (d : TypeDesc)
    (hq : tmps.getD q undef = .pointer (some ⟨g, 0, none⟩)) (hg : w.heap[g]? = some (.cells cs t fr)) (hu : P.underlying ty = some d) (hd : (match d with | .struct _ | .array _ _ => true | _ => false) = true) (hi : (P.info? ty).map (·.size) = some cs.size) :
    (results fn tmps).run P w = .ok (.tuple #[.agg cs, tmps.getD u undef]) w := by
  have hq' : tmps[q]?.getD undef = .pointer (some ⟨g, 0, none⟩) := by simpa using hq
  simp [results, h, hq', asAddr, run_loadVar_row w g t ty cs fr d hg hu hd hi]
set_option maxHeartbeats 2000000 in
/-- need, where the member's ratchet is there. -/
theorem need_old (w : World) (p : GPl) (s : GSt) (t m : Nat) (f : Lit → Option Value) (r : List UInt8) (g : Nat) (hr : r.length = 8) (hG : w.heap[p.G]? = some (.cells (gcells p s) 72 (0, 0)))
    (hH : mapAt w Tryz.prog 3 p.H t f) (hm : m ≤ 1000000) (hf : f (intL m) = some (.agg (rcells r g))) :
    Calls Tryz.prog 56 #[.pointer (some ⟨p.G, 0, none⟩), .int .i64 m] w fun e w' => e = .returned (.tuple #[.agg (rcells r g), p.T]) ∧ Below w.heap.size w w' := by
  have Hf := Lib.hid hf
  have Hr := Lib.hid hr
  have hGs := (Array.getElem?_eq_some_iff.1 hG).1
  clear hf hr
  refine calls_of_wp_defersB Tryz.func56 rfl ?_
  simp only [Tryz.ntmps56, List.size_toArray, List.length_cons, List.length_nil, Nat.reduceAdd, Nat.reduceSub, Array.replicate_succ, Array.replicate_zero, List.push_toArray, List.append_toArray, List.nil_append, List.cons_append]
  go_upto_region 1 with (fail)
  generalize hW : World.alloc _ _ = W
  have hWr : W.heap[w.heap.size]? = some (.cells (rcells zeroS 0) 102 (0, 0)) := by rw [← hW, rcells_zero]; exact heap_alloc_new _ _
  have hWb : Below w.heap.size w W := by rw [← hW]; exact balloc (Below.refl _ _) _
  have hWs : w.heap.size < W.heap.size := (Array.getElem?_eq_some_iff.1 hWr).1
  have hmap := mapAt_same hH (hWb.block _ (mapAt_lt hH))
  have hWG : W.heap[p.G]? = some (.cells (gcells p s) 72 (0, 0)) := (hWb.block _ hGs).trans hG
  obtain ⟨_, _, _, _, _, c9, c10, _⟩ := g_cells hWG
  have HWr := Lib.hid hWr
  have Hmap := Lib.hid hmap
  have HWG := Lib.hid hWG
  clear hW hWr hmap hWG hG hH
  go_wp2_with (first
    | (at_lookup; go_must (refine wpList_lookup_ok_at _ rfl _ _ 52 rfl 3 102 int_law Tryz.underlying52 _ (zeroRat _) p.H t f rfl Hmap.out _ _ rfl (key_int m (by omega) (by omega)) ?_); rw [Hf.out])
    | (refine wpList_store_row rfl 102 _ _ rfl W.heap.size (rcells r g) rfl rfl _ _ (heap_alloc_new _ _) (by rw [infoRatchet, rcells_size _ _ Hr.out]) (by rw [rcells_size _ _ Hr.out]; rfl) (rcells_one _ _) ?_; rw [World.setRow_alloc_new]))
  generalize hW2 : World.alloc _ _ = W2
  obtain ⟨Q, hQ⟩ : ∃ Q, Q = W.heap.size := ⟨_, rfl⟩
  rw [← hQ]
  have hq : W2.heap[Q]? = some (.cells (rcells r g) 102 (0, 0)) := by rw [← hW2, hQ]; exact heap_alloc_new _ _
  have ht : W2.heap[w.heap.size]? = some (.cells (rcells zeroS 0) 102 (0, 0)) := by rw [← hW2, Below.heap_alloc _ _ _ hWs]; exact HWr.out
  have d9 : W2.cell? ⟨p.G, 9, none⟩ = some p.T := by rw [← hW2, World.cell?_alloc_past _ _ _ (block_lt_of_cell c9)]; exact c9
  have hb2 : Below w.heap.size w W2 := by rw [← hW2]; exact balloc hWb _
  have hQT : w.heap.size ≠ Q := by omega
  clear hW2 c9 c10 hWb HWr Hmap HWG hWs
  obtain ⟨a0, a1, a2, a3, a4, a5, a6, a7, hk8⟩ := eight Hr.out
  obtain ⟨e0, e1, e2, e3, e4, e5, e6, e7, e8⟩ := nine_cells hk8 hq
  obtain ⟨t0, t1, t2, t3, t4, t5, t6, t7, t8⟩ := nine_cells (k := zeroS) rfl ht
  have tf := row_frozen ht
  have Hk8 := Lib.hid hk8
  have Hq := Lib.hid hq
  have Ht := Lib.hid ht
  have hGne : p.G ≠ w.heap.size := by omega
  clear hk8 hq ht hQ
  go_region
  show Exit.then _ _ Exit.normal _ (((store8 W2 w.heap.size (.int .u8 a0.toNat) (.int .u8 a1.toNat) (.int .u8 a2.toNat) (.int .u8 a3.toNat) (.int .u8 a4.toNat) (.int .u8 a5.toNat) (.int .u8 a6.toNat) (.int .u8 a7.toNat)).setCell ⟨w.heap.size, 8, none⟩ (.int .i64 g)).drew)
  rw [store9_eq Ht.out rfl r g Hk8.out]
  clear e0 e1 e2 e3 e4 e5 e6 e7 e8 t0 t1 t2 t3 t4 t5 t6 t7 t8 tf
  go_wp2
  refine ⟨_, results_ct rfl _ _ w.heap.size _ _ _ _ rfl (setRow_heap _ _ _ _ _ _ Ht.out) Tryz.underlying102 rfl (by rw [infoRatchet, rcells_size _ _ Hr.out]), rfl, (below_setRow hb2 (Nat.le_refl _) _).drew⟩
theorem cnt_field {w w' : World} {G o j : Nat} {x u : Value} (h : Below w.heap.size (w.setCell ⟨G, o, none⟩ x) w') (hu : w.cell? ⟨G, j, none⟩ = some u) (hj : o ≠ j) : w'.cell? ⟨G, j, none⟩ = some u := by
  rw [h.cell (p := ⟨G, j, none⟩) (block_lt_of_cell hu), World.cell?_setCell_other _ _ _ _ (fun e => hj (by injection e))]
  exact hu
theorem run_clear_sec {P : Program} {w : World} {R t0 : Nat} {s : List UInt8} (h : w.heap[R]? = some (.cells (cells s) t0 (0, 0))) (hs : s.length = 8) (t e ty : TypeId) (ht : P.underlying t = some (.slice e)) (hz : ∀ w : World, (zeroValue e).run P w = .ok (.int .u8 0) w) :
    (Builtin.clear_ #[t] ty #[.slice (some ⟨R, 0, none⟩) 8 8]).run P w = .ok (.tuple #[]) (w.setRow R (cells zeroS)) := by
  have h1 := run_storeCells_row (P := P) h zeroS (by rw [cells_size, hs]; rfl)
  have h2 : (Builtin.zeroCells (Value.int .u8 0).cells 8).toList = (cells zeroS).toList := by kernel_rfl
  simp [Builtin.clear_, run_underlying ht, hz, h2, h1]
set_option maxHeartbeats 4000000 in
/-- need, where the member's ratchet is made. -/
theorem need_new (w : World) (p : GPl) (s : GSt) (t m k : Nat) (f : Lit → Option Value) (l : List TPart) (hG : w.heap[p.G]? = some (.cells (gcells p s) 72 (0, 0)))
    (hH : mapAt w Tryz.prog 3 p.H t f) (hm : m ≤ 1000000) (hf : f (intL m) = none) (hb0 : 0 ≤ s.cnt) (hb1 : s.cnt ≤ 4611686018400000000)
    (hl : l.length ≤ 16) (h8 : ∀ q ∈ l, q.s.length = 8) (h16 : ∀ q ∈ l, q.b ≤ 16) (ht : SliceR w p.T l.length (lcells l)) (hsD : p.T.ownBlock ≠ some p.G) (hk : k < l.length) (hidx : Lib.idxBy (fun _ y => hasB y m) l default = k) (hhas : hasB l[k] m = true)
    (hleaf : (desc l[k] m).p.s.length = 8) (hdn : (desc l[k] m).n ≤ 16) :
    Calls Tryz.prog 56 #[.pointer (some ⟨p.G, 0, none⟩), .int .i64 m] w fun e w' => ∃ T', e = .returned (.tuple #[.agg (rcells (kd (desc l[k] m).p.s lRatchet 0) 0), T']) ∧
      w'.ownsRow w.heap.size 49 10 T' (restL l k (desc l[k] m)).length (lcells (restL l k (desc l[k] m))) ∧ Below w.heap.size (w.setCell ⟨p.G, 6, none⟩ (.int .i64 (s.cnt + 2 * (desc l[k] m).n + 1))) w' := by
  obtain ⟨leaf, hlf⟩ : ∃ leaf, leaf = (desc l[k] m).p.s := ⟨_, rfl⟩
  obtain ⟨dn, hdne⟩ : ∃ dn, dn = (desc l[k] m).n := ⟨_, rfl⟩
  obtain ⟨rest, hre⟩ : ∃ rest, rest = restL l k (desc l[k] m) := ⟨_, rfl⟩
  rw [← hlf] at hleaf ⊢
  rw [← hdne] at hdn ⊢
  rw [← hre]
  have hsp : ∀ W : World, Below w.heap.size w W → W.cell? ⟨p.G, 6, none⟩ = some (.int .i64 s.cnt) → W.frozen? ⟨p.G, 6, none⟩ = false → Calls Tryz.prog 86 #[p.T, .pointer (some ⟨p.G, 6, none⟩), .int .i64 m] W fun e w' =>
      ∃ t, e = .returned (.tuple #[t, .agg (cells leaf), .bool true]) ∧ w'.ownsRow W.heap.size 49 10 t rest.length (lcells rest) ∧ Below W.heap.size (W.setCell ⟨p.G, 6, none⟩ (.int .i64 (s.cnt + 2 * dn))) w' := fun W hbW hxW hfW => by
    rw [hlf, hdne, hre]
    exact split_any' p.G 6 s.cnt W l p.T m k hxW hfW hb0 (by omega) hl h8 h16 (ht.below hbW) hsD hk hidx hhas
  have Hsp := Lib.hid hsp
  have Hlf := Lib.hid hlf
  have Hf := Lib.hid hf
  have Hll := Lib.hid hleaf
  have hGs := (Array.getElem?_eq_some_iff.1 hG).1
  clear hsp hf hleaf hl h8 h16 ht hidx hhas hlf hdne hre hsD
  refine calls_of_wp_defersB Tryz.func56 rfl ?_
  simp only [Tryz.ntmps56, List.size_toArray, List.length_cons, List.length_nil, Nat.reduceAdd, Nat.reduceSub, Array.replicate_succ, Array.replicate_zero, List.push_toArray, List.append_toArray, List.nil_append, List.cons_append]
  go_upto_region 1 with (fail)
  generalize hW : World.alloc _ _ = W
  have hWr : W.heap[w.heap.size]? = some (.cells (rcells zeroS 0) 102 (0, 0)) := by rw [← hW, rcells_zero]; exact heap_alloc_new _ _
  have hWb : Below w.heap.size w W := by rw [← hW]; exact balloc (Below.refl _ _) _
  have hWs : w.heap.size < W.heap.size := (Array.getElem?_eq_some_iff.1 hWr).1
  have hmap := mapAt_same hH (hWb.block _ (mapAt_lt hH))
  have hWG : W.heap[p.G]? = some (.cells (gcells p s) 72 (0, 0)) := (hWb.block _ hGs).trans hG
  obtain ⟨_, _, c6, _, _, c9, c10, _⟩ := g_cells hWG
  have c6f := frozen_of_row _ _ 6 _ _ hWG
  have HWr := Lib.hid hWr
  have Hmap := Lib.hid hmap
  have HG0 := Lib.hid hG
  clear hW hWr hmap hWG hG hH
  go_upto_region 4 with (first
    | (at_lookup; go_must (refine wpList_lookup_ok_at _ rfl _ _ 52 rfl 3 102 int_law Tryz.underlying52 _ (zeroRat _) p.H t f rfl Hmap.out _ _ rfl (key_int m (by omega) (by omega)) ?_); rw [Hf.out])
    | (refine wpList_store_row rfl 102 _ _ rfl W.heap.size (rcells zeroS 0) rfl rfl _ _ (heap_alloc_new _ _) (by rw [infoRatchet]; rfl) rfl (rcells_one _ _) ?_; rw [World.setRow_alloc_new]))
  generalize hW2 : World.alloc _ _ = W2
  have hb2 : Below w.heap.size w W2 := by rw [← hW2]; exact balloc hWb _
  have d6 : W2.cell? ⟨p.G, 6, none⟩ = some (.int .i64 s.cnt) := by rw [← hW2, World.cell?_alloc_past _ _ _ (block_lt_of_cell c6)]; exact c6
  have d6f : W2.frozen? ⟨p.G, 6, none⟩ = false := by rw [← hW2, World.frozen?_alloc_past _ _ _ (block_lt_of_cell c6)]; exact c6f
  have d9 : W2.cell? ⟨p.G, 9, none⟩ = some p.T := by rw [← hW2, World.cell?_alloc_past _ _ _ (block_lt_of_cell c9)]; exact c9
  have hr2 : W2.heap[w.heap.size]? = some (.cells (rcells zeroS 0) 102 (0, 0)) := by rw [← hW2, Below.heap_alloc _ _ _ hWs]; exact HWr.out
  have hs2 : w.heap.size < W2.heap.size := (Array.getElem?_eq_some_iff.1 hr2).1
  have Hr2 := Lib.hid hr2
  clear hW2 c6 c6f c9 c10 hWb hWs HWr Hmap hr2
  have hqs : (cells leaf).size = 8 := by rw [cells_size, Hll.out]
  have hstA := fun w => run_storeCells_fresh (P := Tryz.prog) leaf Hll.out w 36
  have hGne : p.G ≠ w.heap.size := by omega
  have hGs2 : p.G < W2.heap.size := block_lt_of_cell d9
  have hGW : W2.heap.size ≠ p.G := by omega
  go_cut [8, 9] from 10 (fun s8 s9 wx => ∃ L T', s8 = T' ∧ s9 = .pointer (some ⟨L, 0, none⟩) ∧ w.heap.size < L ∧ wx.heap[L]? = some (.cells (cells leaf) 36 (0, 0)) ∧ wx.heap[w.heap.size]? = some (.cells (rcells zeroS 0) 102 (0, 0)) ∧
    wx.ownsRow W2.heap.size 49 10 T' rest.length (lcells rest) ∧ T'.ownBlock ≠ some L ∧ Below w.heap.size (w.setCell ⟨p.G, 6, none⟩ (.int .i64 (s.cnt + 2 * dn))) wx)
  case first =>
    go_region_held3 (fun w' => w'.cell? ⟨p.G, 9, none⟩ = some p.T) (first | with_reducible assumption | (simp only [World.cell?_drew]; with_reducible assumption) | ((try simp only [World.cell?_drew]); rw [World.cell?_alloc_past _ _ _ hGs3]; with_reducible assumption) | ((try simp only [World.cell?_drew]); rw [World.cell?_alloc_past _ _ _ hGs2]; with_reducible assumption) | ((try simp only [World.cell?_drew]); rw [cell_row_ne hGW]; with_reducible assumption))
      (first
      | (go_at_call 86; go_must (refine (Hsp.out _ ?_ ?_ ?_).mono ?_); (first | exact hb2.drew | exact (balloc hb2 _).drew); (first | exact d6 | (simp only [World.cell?_drew]; exact d6) | ((try simp only [World.cell?_drew]); rw [World.cell?_alloc_past _ _ _ (block_lt_of_cell d6)]; exact d6)); (first | exact d6f | (simp only [World.frozen?_drew]; exact d6f) | ((try simp only [World.frozen?_drew]); rw [World.frozen?_alloc_past _ _ _ (block_lt_of_cell d6)]; exact d6f)); rintro e w3 ⟨T', rfl, ho3, hb3⟩; have Ho3 := Lib.hid ho3; clear ho3; go_must (have k9 : w3.cell? ⟨p.G, 9, none⟩ = some p.T := cnt_field hb3 (by first | exact d9 | (rw [World.cell?_drew, World.cell?_alloc_past _ _ _ hGs2]; exact d9)) (by decide)); have hGs3 : p.G < w3.heap.size := block_lt_of_cell k9; (first | (have zr := cnt_row hb3 (heap_alloc_new W2 _) (Nat.ne_of_gt (block_lt_of_cell d6)); have hstB := run_storeCells_row (P := Tryz.prog) zr leaf (by rw [Hll.out]; rfl); have Zr := Lib.hid zr; clear zr) | skip)))
    · go_wp2_with fail
      go_meet
      have h3 : W2.heap.size ≤ w3.heap.size := cnt_size (w := W2.drew) hb3
      exact ⟨w3.heap.size, T', rfl, rfl, by omega, heap_alloc_new _ _, (Below.heap_alloc _ _ _ (by omega)).trans (cnt_row (w := W2.drew) hb3 Hr2.out (by omega)), Ho3.out.alloc _, fun e => by have := (Ho3.out.lt _ e).2; omega, (cnt_base hb2.drew hb3).alloc (by omega) _⟩
    · go_wp2_with fail
      go_meet
      have h3 : W2.heap.size + 1 ≤ w3.heap.size := by
        have := cnt_size hb3
        simpa using this
      have hgf : w3.grownBy (w3.setRow W2.heap.size (cells leaf)) (some W2.heap.size) := ⟨rfl, rfl, rfl, by simp, fun g _ hne => setRow_other _ _ _ _ (fun e => hne (by rw [e]))⟩
      have hlt : W2.heap.size < (W2.alloc (.cells #[.int .u8 0, .int .u8 0, .int .u8 0, .int .u8 0, .int .u8 0, .int .u8 0, .int .u8 0, .int .u8 0] 36)).drew.heap.size := by
        show W2.heap.size < (W2.alloc _).heap.size
        simp
      refine ⟨W2.heap.size, T', rfl, rfl, hs2, setRow_heap _ _ _ _ _ _ Zr.out, (setRow_other _ _ _ _ (by omega)).trans (cnt_row hb3 ((Below.heap_alloc W2 _ _ hs2).trans Hr2.out) (by omega)), ownsRow_mono (Ho3.out.kept hgf (.inr (own_ne Ho3.out hlt))) (Nat.le_of_lt hlt), own_ne Ho3.out hlt, below_setRow (cnt_base (balloc hb2 _).drew hb3) (by omega) _⟩
  case rest =>
    obtain ⟨L, T', rfl, rfl, hL, hLl, hrr, hoo, hne, hbb⟩ := hcut
    have Q0 := cnt_cell hbb (cell_of_row _ _ _ _ _ _ HG0.out)
    have Q0f := cnt_frozen hbb (cell_of_row _ _ _ _ _ _ HG0.out) (frozen_of_row _ _ _ _ _ HG0.out)
    obtain ⟨a0, a1, a2, a3, a4, a5, a6, a7, hk8⟩ := eight Hll.out
    have Hk8 := Lib.hid hk8
    clear hk8
    have Hc : Hid (#[Value.int .u8 a0.toNat, .int .u8 a1.toNat, .int .u8 a2.toNat, .int .u8 a3.toNat, .int .u8 a4.toNat, .int .u8 a5.toNat, .int .u8 a6.toNat, .int .u8 a7.toNat] = cells leaf) := Lib.hid (by rw [Hk8.out]; rfl)
    obtain ⟨e0, e1, e2, e3, e4, e5, e6, e7⟩ := eight_cells' Hk8.out hLl
    have HLl := Lib.hid hLl
    have Hrr := Lib.hid hrr
    have Hoo := Lib.hid hoo
    have Hbb := Lib.hid hbb
    clear hLl hrr hoo hbb hstA hqs d6 d6f d9 hGs2 hGW Hr2
    obtain ⟨r0, hr0⟩ : ∃ r0, r0 = kd leaf lRatchet 0 := ⟨_, rfl⟩
    have Hr0 := Lib.hid hr0
    have hr0l : r0.length = 8 := by rw [hr0]; exact kd_length _ _ _
    have Hr0l := Lib.hid hr0l
    clear hr0 hr0l
    have hrs : (rcells r0 0).size = 9 := rcells_size _ _ Hr0l.out
    have hv0 : 0 ≤ s.cnt + 2 * (dn : Int) := by omega
    have hv1 : s.cnt + 2 * (dn : Int) ≤ 4611686018427000000 := by omega
    go_upto_region 6 with (fail)
    go_region_held3 (fun w' => w'.cell? ⟨L, 0, none⟩ = some (.int .u8 a0.toNat) ∧ w'.cell? ⟨L, 1, none⟩ = some (.int .u8 a1.toNat) ∧ w'.cell? ⟨L, 2, none⟩ = some (.int .u8 a2.toNat) ∧ w'.cell? ⟨L, 3, none⟩ = some (.int .u8 a3.toNat) ∧ w'.cell? ⟨L, 4, none⟩ = some (.int .u8 a4.toNat) ∧ w'.cell? ⟨L, 5, none⟩ = some (.int .u8 a5.toNat) ∧ w'.cell? ⟨L, 6, none⟩ = some (.int .u8 a6.toNat) ∧ w'.cell? ⟨L, 7, none⟩ = some (.int .u8 a7.toNat))
      (refine ⟨?_, ?_, ?_, ?_, ?_, ?_, ?_, ?_⟩ <;> (first | with_reducible assumption | (simp only [World.cell?_drew]; with_reducible assumption) | ((try simp only [World.cell?_drew]); rw [cell_row_ne hTL]; with_reducible assumption)))
      (first | (go_at_call 87; rw [Hc.out]; go_must (refine (ratNew_any p.G 6 (s.cnt + 2 * dn) _ leaf Hll.out ?_ ?_ hv0 hv1).mono ?_); (first | exact Q0 | (simp only [World.cell?_drew]; exact Q0)); (first | exact Q0f | (simp only [World.frozen?_drew]; exact Q0f)); rintro e w5 ⟨rfl, hb5⟩; rw [← Hr0.out]; go_must (have zl := cnt_row hb5 (show wc.drew.heap[L]? = _ from HLl.out) (by omega)); go_must (have zr := cnt_row hb5 (show wc.drew.heap[w.heap.size]? = _ from Hrr.out) (by omega)); have hst := run_storeCells_arr (P := Tryz.prog) zr (rcells r0 0) (rcells_one _ _) (by rw [hrs]; rfl); obtain ⟨k0, k1, k2, k3, k4, k5, k6, k7⟩ := eight_cells' Hk8.out zl; have Zl := Lib.hid zl; have Zr := Lib.hid zr; clear zl zr; have hTL : w.heap.size ≠ L := by omega))
    have hfL : (w5.setRow w.heap.size (rcells r0 0)).heap[L]? = some (.cells (cells leaf) 36 (0, 0)) := (setRow_other _ _ _ _ (Ne.symm hTL)).trans Zl.out
    have hclr := run_clear_sec (P := Tryz.prog) hfL Hll.out 73 5 0 Tryz.underlying73 (fun _ => zeroU8 _)
    have hcl2 : (invoke (Target.builtin Builtin.clear #[73] 0 #[false]) #[.slice (some ⟨L, 0, none⟩) 8 8]).run Tryz.prog (w5.setRow w.heap.size (rcells r0 0)) = .ok (.value (.tuple #[])) ((w5.setRow w.heap.size (rcells r0 0)).setRow L (cells zeroS)) := by
      simp [invoke, builtin, hclr, Result.andThen]
    go_wp2_with fail
    refine ⟨_, _, _, _, _, _, rfl, hcl2, ?_⟩
    have hres : ((w5.setRow w.heap.size (rcells r0 0)).setRow L (cells zeroS)).heap[w.heap.size]? = some (.cells (rcells r0 0) 102 (0, 0)) := (setRow_other _ _ _ _ hTL).trans (setRow_heap _ _ _ _ _ _ Zr.out)
    refine ⟨_, results_ct rfl _ _ w.heap.size _ _ _ _ rfl hres Tryz.underlying102 rfl (by rw [infoRatchet, hrs]), u8, by rw [Hr0.out]; rfl, ?_, below_setRow (below_setRow (cnt_next Hbb.out.drew hb5) (Nat.le_refl _) _) (Nat.le_of_lt hL) _⟩
    have k1 : w5.ownsRow W2.heap.size 49 10 u8 rest.length (lcells rest) := World.ownsRow.kept (w := wc.drew) Hoo.out (cnt_grown hb5) (.inr (own_ne Hoo.out (by omega)))
    have hgf : ∀ (W' : World) (b : Nat) (cs : Array Value), W'.grownBy (W'.setRow b cs) (some b) := fun W' b cs => ⟨rfl, rfl, rfl, by simp, fun g _ hn => setRow_other _ _ _ _ (fun e => hn (by rw [e]))⟩
    exact ownsRow_mono ((k1.kept (hgf _ _ _) (.inr (own_ne k1 hs2))).kept (hgf _ _ _) (.inr hne)) (Nat.le_of_lt hs2)
end Go.Proofs.YtccidllcjaaeeabGreatDoor
/- The walk of a group's commit. Conditions: the group lies as its state; the new tree is a slice. -/
namespace Go.Proofs.YtccidllcjaaeeabGreatDoor
set_option maxRecDepth 100000
open Go Go.Maps Go.RowKit
open Go.Shelf Go.Lib Go.Sort
def pz : Array Value := #[Value.int .i64 0, .int .i64 0, .int .u8 0, .int .u8 0, .int .u8 0, .int .u8 0, .int .u8 0, .int .u8 0, .int .u8 0, .int .u8 0]
theorem pz_all : ∀ i : Fin 10, (pz[i.val]!).oneCell' = true := by decide +kernel
/-- clear of a slice of parts: its own row turns. -/
theorem clear_parts {w : World} {lo n : Nat} {v : Value} {xs : List Value} (h : w.ownsRow lo 49 10 v n xs) (ty : TypeId) :
    ∃ w', (Builtin.clear_ #[51] ty #[v]).run Tryz.prog w = .ok (.tuple #[]) w' ∧ w.grownBy w' v.ownBlock := by
  obtain ⟨_, h2⟩ := h
  rcases h2 with ⟨rfl, rfl⟩ | ⟨g, cap, cur, rfl, _, h3, h4, h5, h6, h7⟩
  · refine ⟨w, ?_, ⟨rfl, rfl, rfl, Nat.le_refl _, fun _ _ _ => rfl⟩⟩
    simp [Builtin.clear_, run_underlying Tryz.underlying51]
  · cases n with
    | zero =>
      refine ⟨w, ?_, ⟨rfl, rfl, rfl, Nat.le_refl _, fun _ _ _ => rfl⟩⟩
      simp [Builtin.clear_, run_underlying Tryz.underlying51]
    | succ n =>
      have hz : (Builtin.zeroCells pz (n + 1)).size = (n + 1) * 10 := by
        rw [Builtin.zeroCells, Array.size_map, Array.size_range]; rfl
      have hone : ∀ u ∈ (Builtin.zeroCells pz (n + 1)).toList, u.oneCell' = true := by
        intro u hu
        simp only [Builtin.zeroCells, Array.toList_map, List.mem_map] at hu
        obtain ⟨i, _, rfl⟩ := hu
        have hi : i % pz.size < 10 := Nat.mod_lt _ (by decide)
        exact pz_all ⟨_, hi⟩
      obtain ⟨X, hst⟩ : ∃ X, (storeCells ⟨g, 0, none⟩ (Builtin.zeroCells pz (n + 1)).toList).run Tryz.prog w = .ok () (w.setRow g X) :=
        ⟨_, run_storeCells_at Tryz.prog g 0 49 (Builtin.zeroCells pz (n + 1)).toList 0 cur w h3 (by rw [Array.length_toList, hz, h6]; have := Nat.mul_le_mul_right 10 h4; omega) hone⟩
      rw [pz] at hst
      have hrun : (Builtin.clear_ #[51] ty #[.slice (some ⟨g, 0, none⟩) (n + 1) cap]).run Tryz.prog w = .ok (.tuple #[]) (w.setRow g X) := by
        simp [Builtin.clear_, run_underlying Tryz.underlying51, Value.cells, hst]
      exact ⟨_, hrun, ⟨rfl, rfl, rfl, by simp, fun b _ hne => setRow_other _ _ _ _ (fun e => hne (by rw [e]; rfl))⟩⟩
set_option maxHeartbeats 4000000 in
theorem commit_any (w : World) (lo t m : Nat) (p : GPl) (s : GSt) (f : Lit → Option Value) (r : List UInt8) (g : Nat) (a0 a1 : Option Addr) (n0 n1 c0 c1 : Nat) (xs : List Value) (hr : r.length = 8)
    (hG : w.heap[p.G]? = some (.cells (gcells p s) 72 (0, 0))) (hH : mapAt w Tryz.prog 3 p.H t f) (ht : t < maxLen) (hm : m ≤ 1000000) (hT : p.T = .slice a0 n0 c0) (hown : w.ownsRow lo 49 10 p.T n0 xs) (hTG : p.T.ownBlock ≠ some p.G) (hTH : p.T.ownBlock ≠ some p.H) :
    Calls Tryz.prog 58 #[.pointer (some ⟨p.G, 0, none⟩), .int .i64 m, .agg (rcells r g), .slice a1 n1 c1] w fun e w' => e = .returned (.tuple #[]) ∧
      w'.heap[p.G]? = some (.cells (gcells { p with T := .slice a1 n1 c1 } s) 72 (0, 0)) ∧ mapAt w' Tryz.prog 3 p.H (t + 1) (putF f (intL m) (some (.agg (rcells r g)))) ∧
      w'.os = w.os ∧ w'.tape = w.tape ∧ w'.output = w.output ∧ w.heap.size ≤ w'.heap.size ∧ (∀ b, b < w.heap.size → b ≠ p.G → b ≠ p.H → (n1 = n0 ∨ p.T.ownBlock ≠ some b) → w'.heap[b]? = w.heap[b]?) := by
  have Hr := Lib.hid hr
  have hGs := (Array.getElem?_eq_some_iff.1 hG).1
  have hHs := mapAt_lt hH
  have hGH : p.G ≠ p.H := fun e => by
    obtain ⟨D, ⟨es, clock, hb, _⟩, _⟩ := hH
    rw [← e, hG] at hb; cases hb
  clear hr
  obtain ⟨a0', a1', a2', a3', a4', a5', a6', a7', hk8⟩ := eight Hr.out
  have Hk8 := Lib.hid hk8
  clear hk8
  have Hc : Hid (#[Value.int .u8 a0'.toNat, .int .u8 a1'.toNat, .int .u8 a2'.toNat, .int .u8 a3'.toNat, .int .u8 a4'.toNat, .int .u8 a5'.toNat, .int .u8 a6'.toNat, .int .u8 a7'.toNat, .int .i64 g] = rcells r g) := Lib.hid (by rw [Hk8.out]; rfl)
  have hcases : (n1 = n0) ∨ (n1 ≠ n0 ∧ ¬ ((n1 : Int) = n0)) := by omega
  rcases hcases with hn | ⟨hn, hnI⟩
  · have hnI : (n1 : Int) = n0 := by omega
    go_enter Tryz.func58, Tryz.ntmps58
    go_upto_region 1 with (fail)
    generalize hW : World.alloc _ _ = W
    have hWr : W.heap[w.heap.size]? = some (.cells (rcells r g) 102 (0, 0)) := by rw [← hW]; exact heap_alloc_new _ _
    have hWb : Below w.heap.size w W := by rw [← hW]; exact balloc (Below.refl _ _) _
    have hVm := mapAt_same hH (hWb.block _ hHs)
    have hWG : W.heap[p.G]? = some (.cells (gcells p s) 72 (0, 0)) := (hWb.block _ hGs).trans hG
    obtain ⟨_, _, _, _, _, c9, c10, _⟩ := g_cells hWG
    rw [hT] at c9
    have c9f := frozen_of_row _ _ 9 _ _ hWG
    have HVr := Lib.hid hWr
    have HVm := Lib.hid hVm
    have HVG := Lib.hid hWG
    have HVk : Hid (∀ b, b < w.heap.size → b ≠ p.G → (n1 = n0 ∨ p.T.ownBlock ≠ some b) → W.heap[b]? = w.heap[b]?) := Lib.hid fun b hb _ _ => hWb.block b hb
    have hVs : w.heap.size ≤ W.heap.size := hWb.size
    have HVo : Hid (W.os = w.os ∧ W.tape = w.tape ∧ W.output = w.output) := Lib.hid ⟨hWb.os, hWb.tape, hWb.output⟩
    clear hW hWr hVm hWG hG hH hown hTG hTH hn hWb
    go_upto_region 3 with (fail)
    clear hnI
    go_upto_region 4 with (fail)
    generalize hW2 : World.setCell _ _ _ = W2
    have hG2 : W2.heap[p.G]? = some (.cells (gcells { p with T := .slice a1 n1 c1 } s) 72 (0, 0)) := by rw [← hW2, heap_setCell_same _ _ _ _ _ _ HVG.out]; rfl
    have hr2 : W2.heap[w.heap.size]? = some (.cells (rcells r g) 102 (0, 0)) := by rw [← hW2, heap_ne (by omega)]; exact HVr.out
    have hm2 : mapAt W2 Tryz.prog 3 p.H t f := mapAt_same HVm.out (by rw [← hW2, heap_ne hGH])
    have hk2 : ∀ b, b < w.heap.size → b ≠ p.G → (n1 = n0 ∨ p.T.ownBlock ≠ some b) → W2.heap[b]? = w.heap[b]? := fun b hb hne ho => by rw [← hW2, heap_ne (Ne.symm hne)]; exact HVk.out b hb hne ho
    have hs2 : w.heap.size ≤ W2.heap.size := by rw [← hW2, size_setCell]; exact hVs
    have ho2 : W2.os = w.os ∧ W2.tape = w.tape ∧ W2.output = w.output := by rw [← hW2]; exact HVo.out
    clear hW2 c9 c9f HVr HVm HVG HVk HVo
    obtain ⟨_, _, _, _, _, _, c10, _⟩ := g_cells (p := { p with T := .slice a1 n1 c1 }) hG2
    obtain ⟨e0, e1, e2, e3, e4, e5, e6, e7, e8⟩ := nine_cells Hk8.out hr2
    obtain ⟨w3, hrun, hm3, ht3⟩ := mapAt_store (w := W2.drew) (mapAt_same hm2 rfl) int_law Tryz.underlying52 ht (key_int m (by omega) (by omega)) (.agg #[Value.int .u8 a0'.toNat, .int .u8 a1'.toNat, .int .u8 a2'.toNat, .int .u8 a3'.toNat, .int .u8 a4'.toNat, .int .u8 a5'.toNat, .int .u8 a6'.toNat, .int .u8 a7'.toNat, .int .i64 g])
    rw [Hc.out] at hm3
    have Hm3 := Lib.hid hm3
    have Hg3 := Lib.hid ht3.grown
    have HG2 := Lib.hid hG2
    have Hk2 := Lib.hid hk2
    have Ho2 := Lib.hid ho2
    clear hm3 ht3 hG2 hr2 hm2 hk2 ho2
    go_region
    go_end0
    obtain ⟨o1, o2, o3⟩ := Ho2.out
    refine ⟨rfl, (Hg3.out.block _ (Array.getElem?_eq_some_iff.1 HG2.out).1 (fun e => hGH (Option.some.inj e))).trans HG2.out, Hm3.out, Hg3.out.os.trans o1, Hg3.out.tape.trans o2, Hg3.out.output.trans o3, Nat.le_trans hs2 Hg3.out.size, fun b hb h1 h2 h3 => ?_⟩
    exact (Hg3.out.block b (Nat.lt_of_lt_of_le hb hs2) (fun e => h2 (Option.some.inj e))).trans (Hk2.out b hb h1 h3)
  · go_enter Tryz.func58, Tryz.ntmps58
    go_upto_region 1 with (fail)
    generalize hW : World.alloc _ _ = W0
    have hWr : W0.heap[w.heap.size]? = some (.cells (rcells r g) 102 (0, 0)) := by rw [← hW]; exact heap_alloc_new _ _
    have hWb : Below w.heap.size w W0 := by rw [← hW]; exact balloc (Below.refl _ _) _
    have hWG : W0.heap[p.G]? = some (.cells (gcells p s) 72 (0, 0)) := (hWb.block _ hGs).trans hG
    have hownW : W0.ownsRow lo 49 10 p.T n0 xs := by rw [← hW]; exact hown.alloc _
    obtain ⟨W, hclr, hgr⟩ := clear_parts hownW 0
    have hTlt : ∀ b, p.T.ownBlock = some b → b < w.heap.size := fun b hb => (hown.lt b hb).2
    obtain ⟨_, _, _, _, _, c9, _, _⟩ := g_cells hWG
    rw [hT] at c9 hclr
    have HVr : Hid (W.heap[w.heap.size]? = some (.cells (rcells r g) 102 (0, 0))) := Lib.hid ((hgr.block _ (Array.getElem?_eq_some_iff.1 hWr).1 (fun e => by have := hTlt _ e.symm; omega)).trans hWr)
    have HVm := Lib.hid (mapAt_same hH ((hgr.block _ (Nat.lt_of_lt_of_le hHs hWb.size) (fun e => hTH e.symm)).trans (hWb.block _ hHs)))
    have HVG : Hid (W.heap[p.G]? = some (.cells (gcells p s) 72 (0, 0))) := Lib.hid ((hgr.block _ (Nat.lt_of_lt_of_le hGs hWb.size) (fun e => hTG e.symm)).trans hWG)
    have HVk : Hid (∀ b, b < w.heap.size → b ≠ p.G → (n1 = n0 ∨ p.T.ownBlock ≠ some b) → W.heap[b]? = w.heap[b]?) := Lib.hid fun b hb _ ho => by
      rcases ho with ho | ho
      · exact absurd ho hn
      · exact (hgr.block _ (Nat.lt_of_lt_of_le hb hWb.size) (fun e => ho e.symm)).trans (hWb.block b hb)
    have hVs : w.heap.size ≤ W.heap.size := Nat.le_trans hWb.size hgr.size
    have HVo : Hid (W.os = w.os ∧ W.tape = w.tape ∧ W.output = w.output) := Lib.hid ⟨hgr.os.trans hWb.os, hgr.tape.trans hWb.tape, hgr.output.trans hWb.output⟩
    clear hWr hWG hG hH hown hownW hTG hTH hn hWb hW hTlt hgr
    go_upto_region 3 with (fail)
    clear hnI hclr c9
    have c9 : W.cell? ⟨p.G, 9, none⟩ = some (.slice a0 n0 c0) := by rw [← hT]; exact (g_cells HVG.out).2.2.2.2.2.1
    have c9f := frozen_of_row _ _ 9 _ _ HVG.out
    go_upto_region 4 with (fail)
    generalize hW2 : World.setCell _ _ _ = W2
    have hG2 : W2.heap[p.G]? = some (.cells (gcells { p with T := .slice a1 n1 c1 } s) 72 (0, 0)) := by rw [← hW2, heap_setCell_same _ _ _ _ _ _ HVG.out]; rfl
    have hr2 : W2.heap[w.heap.size]? = some (.cells (rcells r g) 102 (0, 0)) := by rw [← hW2, heap_ne (by omega)]; exact HVr.out
    have hm2 : mapAt W2 Tryz.prog 3 p.H t f := mapAt_same HVm.out (by rw [← hW2, heap_ne hGH])
    have hk2 : ∀ b, b < w.heap.size → b ≠ p.G → (n1 = n0 ∨ p.T.ownBlock ≠ some b) → W2.heap[b]? = w.heap[b]? := fun b hb hne ho => by rw [← hW2, heap_ne (Ne.symm hne)]; exact HVk.out b hb hne ho
    have hs2 : w.heap.size ≤ W2.heap.size := by rw [← hW2, size_setCell]; exact hVs
    have ho2 : W2.os = w.os ∧ W2.tape = w.tape ∧ W2.output = w.output := by rw [← hW2]; exact HVo.out
    clear hW2 c9 c9f HVr HVm HVG HVk HVo
    obtain ⟨_, _, _, _, _, _, c10, _⟩ := g_cells (p := { p with T := .slice a1 n1 c1 }) hG2
    obtain ⟨e0, e1, e2, e3, e4, e5, e6, e7, e8⟩ := nine_cells Hk8.out hr2
    obtain ⟨w3, hrun, hm3, ht3⟩ := mapAt_store (w := W2.drew) (mapAt_same hm2 rfl) int_law Tryz.underlying52 ht (key_int m (by omega) (by omega)) (.agg #[Value.int .u8 a0'.toNat, .int .u8 a1'.toNat, .int .u8 a2'.toNat, .int .u8 a3'.toNat, .int .u8 a4'.toNat, .int .u8 a5'.toNat, .int .u8 a6'.toNat, .int .u8 a7'.toNat, .int .i64 g])
    rw [Hc.out] at hm3
    have Hm3 := Lib.hid hm3
    have Hg3 := Lib.hid ht3.grown
    have HG2 := Lib.hid hG2
    have Hk2 := Lib.hid hk2
    have Ho2 := Lib.hid ho2
    clear hm3 ht3 hG2 hr2 hm2 hk2 ho2
    go_region
    go_end0
    obtain ⟨o1, o2, o3⟩ := Ho2.out
    refine ⟨rfl, (Hg3.out.block _ (Array.getElem?_eq_some_iff.1 HG2.out).1 (fun e => hGH (Option.some.inj e))).trans HG2.out, Hm3.out, Hg3.out.os.trans o1, Hg3.out.tape.trans o2, Hg3.out.output.trans o3, Nat.le_trans hs2 Hg3.out.size, fun b hb h1 h2 h3 => ?_⟩
    exact (Hg3.out.block b (Nat.lt_of_lt_of_le hb hs2) (fun e => h2 (Option.some.inj e))).trans (Hk2.out b hb h1 h3)
end Go.Proofs.YtccidllcjaaeeabGreatDoor
/- need in one word: whatever the member, its ratchet and the tree without it. Conditions: the group lies and reads as its state, the member is of it. -/
namespace Go.Proofs.YtccidllcjaaeeabGreatDoor
set_option maxRecDepth 100000
open Go Go.Maps Go.RowKit
open Go.Shelf Go.Lib Go.Sort
/-- The tree without a member. -/
def treeU (s : GSt) (m : Nat) : List TPart := partsT 16 ⟨0, s.n, s.root⟩ (upd (fun i => (s.M i).begun) m)
theorem parts_b16 (s : GSt) (hI : GInv s) (B : Nat → Bool) : ∀ q ∈ partsT 16 ⟨0, s.n, s.root⟩ B, q.b ≤ 16 := fun q hq => by
  have h0 := hI.own
  have := (parts_within 16 ⟨0, s.n, s.root⟩ B (by show 0 < s.n; omega) q hq).2.1
  exact Nat.le_trans this hI.n16
theorem parts_len16 (s : GSt) (hI : GInv s) (B : Nat → Bool) : (partsT 16 ⟨0, s.n, s.root⟩ B).length ≤ 16 := by
  have h0 := hI.own
  have := parts_count 16 ⟨0, s.n, s.root⟩ B (by show 0 < s.n; omega)
  have e : (⟨0, s.n, s.root⟩ : TPart).b - (⟨0, s.n, s.root⟩ : TPart).a = s.n := Nat.sub_zero _
  rw [e] at this
  exact Nat.le_trans this hI.n16
theorem depthF_le : ∀ (d n m : Nat), depthF d n m ≤ d
  | 0, _, _ => Nat.le_refl _
  | d + 1, n, m => by
    rw [depthF]
    split
    · omega
    · split
      · have := depthF_le d (splitN n) m; omega
      · have := depthF_le d (n - splitN n) (m - splitN n); omega
theorem tree_ne {w : World} {lo n : Nat} {v : Value} {xs : List Value} {p : GPl} {s : GSt} (h : w.ownsRow lo 49 10 v n xs) (hG : w.heap[p.G]? = some (.cells (gcells p s) 72 (0, 0))) : v.ownBlock ≠ some p.G := fun e => by
  obtain ⟨_, h2⟩ := h
  rcases h2 with ⟨rfl, _⟩ | ⟨g, cap, cur, rfl, _, h3, _⟩
  · cases e
  · cases e
    rw [hG] at h3
    injection h3 with h3
    injection h3 with _ h4
    exact absurd h4 (by decide)
theorem tree_ne_map {w : World} {lo n B k t : Nat} {v : Value} {xs : List Value} {f : Lit → Option Value} (h : w.ownsRow lo 49 10 v n xs) (hG : mapAt w Tryz.prog k B t f) : v.ownBlock ≠ some B := fun e => by
  obtain ⟨_, h2⟩ := h
  obtain ⟨D, ⟨es, clock, hb, _⟩, _⟩ := hG
  rcases h2 with ⟨rfl, _⟩ | ⟨g, cap, cur, rfl, _, h3, _⟩
  · cases e
  · cases e
    rw [hb] at h3
    cases h3
theorem g_ne_map {w : World} {B k t : Nat} {f : Lit → Option Value} {p : GPl} {s : GSt} (hG : w.heap[p.G]? = some (.cells (gcells p s) 72 (0, 0))) (h : mapAt w Tryz.prog k B t f) : p.G ≠ B := fun e => by
  obtain ⟨D, ⟨es, clock, hb, _⟩, _⟩ := h
  rw [← e, hG] at hb; cases hb
theorem need_any (w : World) (lo t m : Nat) (p : GPl) (s : GSt) (hA : GroupAt w lo p s t) (hI : GInv s) (hc : s.closed = false) (hm : m < s.n) (hb0 : 0 ≤ s.cnt) (hb1 : s.cnt ≤ 4611686018400000000) :
    Calls Tryz.prog 56 #[.pointer (some ⟨p.G, 0, none⟩), .int .i64 m] w fun e w' => ∃ (T' : Value) (c' : Int), e = .returned (.tuple #[.agg (rcells (ratS (leafL s.root s.n m) (s.M m).next) (s.M m).next), T']) ∧
      s.cnt ≤ c' ∧ c' ≤ s.cnt + 2 * depthF 16 s.n m + 1 ∧ w'.ownsRow lo 49 10 T' (treeU s m).length (lcells (treeU s m)) ∧ TreeNew w p.T T' ∧ Below w.heap.size (w.setCell ⟨p.G, 6, none⟩ (.int .i64 c')) w' := by
  obtain ⟨hG, hT, ⟨f, hH, hf, hf2⟩, hK, hlG, hlH, hlK, hHK⟩ := hA
  have hm6 : m ≤ 1000000 := by have := hI.n16; omega
  have hfm := hf m hm6
  have hn0 := hI.own
  cases hbg : (s.M m).begun with
  | true =>
    rw [headV, if_pos ⟨hc, hm, hbg⟩] at hfm
    refine (need_old w p s t m f _ _ (ratS_length _ _) hG hH hm6 hfm).mono ?_
    rintro e w' ⟨rfl, hb⟩
    have he : treeU s m = treeL s := by
      rw [treeL, hc]
      exact partsT_congr 16 _ _ _ (fun i _ _ => by
        simp only [upd]
        by_cases hi : i = m
        · subst hi; simp [hbg]
        · simp [hi]) (Nat.zero_le _)
    refine ⟨p.T, s.cnt, rfl, by omega, by omega, ?_, .inl rfl, ?_⟩
    · rw [he]; exact ownsRow_keep hT fun g _ hg => hb.block g hg
    · rw [setCell_self (cell_of_row _ _ _ _ _ _ hG)]; exact hb
  | false =>
    obtain ⟨hnx, hov⟩ := hI.none m hbg
    rw [headV, if_neg (by rw [hbg]; simp)] at hfm
    obtain ⟨pre, q, post, e1, e2, e3, e4, e5, e6⟩ := parts_split 16 ⟨0, s.n, s.root⟩ (fun i => (s.M i).begun) m (Nat.zero_le _) hm (by show s.n - 0 ≤ _; have := hI.n16; omega) (by show s.n - 0 ≤ _; have := hI.n16; omega) hbg
    have hl : treeL s = pre ++ q :: post := by rw [treeL, hc]; exact e1
    have hk : pre.length < (pre ++ q :: post).length := by simp
    have hgk : (pre ++ q :: post)[pre.length] = q := by simp
    have h8 : ∀ x ∈ pre ++ q :: post, x.s.length = 8 := fun x hx => parts_len8 16 ⟨0, s.n, s.root⟩ _ hI.root x (by rw [e1]; exact hx)
    have h16 : ∀ x ∈ pre ++ q :: post, x.b ≤ 16 := fun x hx => parts_b16 s hI _ x (by rw [e1]; exact hx)
    have hlen : (pre ++ q :: post).length ≤ 16 := by rw [← e1]; exact parts_len16 s hI _
    have hdl : (desc q m).p.s = leafL s.root s.n m := e5
    have hdd : (desc q m).n ≤ 16 := descF_n 16 q m [] [] 0
    have hdep : (desc q m).n ≤ depthF 16 s.n m := e6
    rw [hl] at hT
    have h := need_new w p s t m pre.length f (pre ++ q :: post) hG hH hm6 hfm hb0 hb1 hlen h8 h16 (SliceR.of_own hT) (tree_ne hT hG) hk (idx_split e2 e3) (by rw [hgk]; exact e3) (by rw [hgk, hdl]; exact partL_length _ _ _ _ _ _ hI.root) (by rw [hgk]; exact hdd)
    rw [hgk] at h
    refine h.mono ?_
    rintro e w' ⟨T', rfl, ho, hb⟩
    have hre : restL (pre ++ q :: post) pre.length (desc q m) = treeU s m := by rw [rest_split]; exact e4.symm
    rw [hre] at ho
    have hlo : lo ≤ w.heap.size := by have := (Array.getElem?_eq_some_iff.1 hG).1; omega
    refine ⟨T', s.cnt + 2 * (desc q m).n + 1, ?_, by omega, by omega, ownsRow_mono ho hlo, .inr fun b hb => (ho.lt b hb).1, hb⟩
    rw [hdl, hnx]
    rfl
end Go.Proofs.YtccidllcjaaeeabGreatDoor
