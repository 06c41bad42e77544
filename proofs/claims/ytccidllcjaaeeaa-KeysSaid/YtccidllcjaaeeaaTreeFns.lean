/- Plain law, no program: the tree's halves, the secret of a part, a leaf, the ratchet and its keys. No condition. -/
import Derived.Test.YtccidllcjaaeeaaSealFns
namespace Go.Proofs.Ytccidllcjaaeeaa
def splitN (n : Nat) : Nat := if n ≤ 2 then 1 else if n ≤ 4 then 2 else if n ≤ 8 then 4 else 8
theorem splitN_pos (n : Nat) : 0 < splitN n := by unfold splitN; split <;> (try split) <;> (try split) <;> omega
theorem splitN_lt (n : Nat) (h : 2 ≤ n) : splitN n < n := by unfold splitN; split <;> (try split) <;> (try split) <;> omega
theorem splitN_of (n k : Nat) (hk : k = 1 ∨ k = 2 ∨ k = 4 ∨ k = 8) (h1 : k = 1 ∨ k < n) (h2 : n ≤ 2 * k) : k = splitN n := by
  unfold splitN; split <;> (try split) <;> (try split) <;> omega
def lLeft : List UInt8 := [108, 101, 102, 116]
def lRight : List UInt8 := [114, 105, 103, 104, 116]
def lRatchet : List UInt8 := [114, 97, 116, 99, 104, 101, 116]
def lNext : List UInt8 := [110, 101, 120, 116]
def lKey : List UInt8 := [107, 101, 121]
/-- The secret of the part from a to b, within the part from f to t whose secret is s. -/
def partL : Nat → List UInt8 → Nat → Nat → Nat → Nat → List UInt8
  | 0, s, _, _, _, _ => s
  | d + 1, s, f, t, a, b =>
    if f = a ∧ t = b then s
    else if a < f + splitN (t - f) then partL d (kd s lLeft 0) f (f + splitN (t - f)) a b
    else partL d (kd s lRight 0) (f + splitN (t - f)) t a b
/-- Is there such a part? -/
def nodeP : Nat → Nat → Nat → Nat → Nat → Prop
  | 0, f, t, a, b => f = a ∧ t = b
  | d + 1, f, t, a, b => (f = a ∧ t = b) ∨ (¬ (f = a ∧ t = b) ∧ 2 ≤ t - f ∧ ((a < f + splitN (t - f) ∧ nodeP d f (f + splitN (t - f)) a b) ∨ (¬ a < f + splitN (t - f) ∧ nodeP d (f + splitN (t - f)) t a b)))
theorem leaf_node : ∀ (d f t m : Nat), f ≤ m → m < t → t - f ≤ d + 1 → nodeP d f t m (m + 1)
  | 0, f, t, m, h1, h2, h3 => ⟨by omega, by omega⟩
  | d + 1, f, t, m, h1, h2, h3 => by
    by_cases h : f = m ∧ t = m + 1
    · exact .inl h
    · have h4 : 2 ≤ t - f := by omega
      have hp := splitN_pos (t - f)
      have hl := splitN_lt (t - f) h4
      refine .inr ⟨h, h4, ?_⟩
      by_cases hm : m < f + splitN (t - f)
      · exact .inl ⟨hm, leaf_node d _ _ _ h1 hm (by omega)⟩
      · exact .inr ⟨hm, leaf_node d _ _ _ (by omega) h2 (by omega)⟩
theorem partL_length : ∀ (d : Nat) (s : List UInt8) (f t a b : Nat), s.length = 8 → (partL d s f t a b).length = 8
  | 0, s, _, _, _, _, h => h
  | d + 1, s, f, t, a, b, h => by
    rw [partL]
    split
    · exact h
    · split
      · exact partL_length d _ _ _ _ _ (kd_length _ _ _)
      · exact partL_length d _ _ _ _ _ (kd_length _ _ _)
def leafL (root : List UInt8) (n m : Nat) : List UInt8 := partL 16 root 0 n m (m + 1)
def ratL (leaf : List UInt8) : Nat → List UInt8
  | 0 => kd leaf lRatchet 0
  | g + 1 => kd (ratL leaf g) lNext (g : Int)
theorem ratL_length (leaf : List UInt8) (g : Nat) : (ratL leaf g).length = 8 := by cases g <;> exact kd_length _ _ _
def keyL (leaf : List UInt8) (g : Nat) : List UInt8 := kd (ratL leaf g) lKey (g : Int)
end Go.Proofs.Ytccidllcjaaeeaa
