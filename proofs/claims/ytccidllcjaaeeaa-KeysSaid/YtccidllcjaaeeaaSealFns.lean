/- Plain law, no program: sealing and opening in terms of what Derive answers: the mixed text, the sum, the tag; opening what was sealed gives the text back. No condition. -/
import Derived.Test.YtccidllcjaaeeaaKdf
namespace Go.Proofs.Ytccidllcjaaeeaa
open Go.RowKit

theorem u8_xor8 (a b : UInt8) : bits .xor .u8 (a.toNat : Int) (b.toNat : Int) = ((a ^^^ b).toNat : Int) := by
  rw [u8_xor_nat _ _ a.toNat_lt b.toNat_lt, UInt8.toNat_xor]
theorem xor_twice (a b : UInt8) : (a ^^^ b) ^^^ b = a := by
  rw [UInt8.xor_assoc, UInt8.xor_self, UInt8.xor_zero]

def lStream : List UInt8 := [115, 116, 114, 101, 97, 109]
def lTag : List UInt8 := [116, 97, 103]
/-- The stream's byte at a place. -/
def strm (k : List UInt8) (j : Nat) : UInt8 := (kd k lStream ((j / 8 : Nat) : Int)).getD (j % 8) 0
/-- The text of which the first m bytes are mixed. -/
def mixP (k : List UInt8) : Nat → List UInt8 → List UInt8
  | 0, t => t
  | m + 1, t => (mixP k m t).set m ((t.getD m 0) ^^^ strm k m)
def mixL (k t : List UInt8) : List UInt8 := mixP k t.length t
theorem mixP_length (k : List UInt8) (m : Nat) (t : List UInt8) : (mixP k m t).length = t.length := by
  induction m with
  | zero => rfl
  | succ m ih => rw [mixP, List.length_set, ih]
theorem mixL_length (k t : List UInt8) : (mixL k t).length = t.length := mixP_length _ _ _
theorem mixP_get (k : List UInt8) (m : Nat) (t : List UInt8) (j : Nat) (hj : j < t.length) :
    (mixP k m t).getD j 0 = if j < m then t.getD j 0 ^^^ strm k j else t.getD j 0 := by
  induction m with
  | zero => simp [mixP]
  | succ m ih =>
    have hl := mixP_length k m t
    rw [mixP, List.getD_eq_getElem?_getD, List.getElem?_set]
    rw [List.getD_eq_getElem?_getD] at ih
    by_cases h : m = j
    · subst h
      rw [if_pos rfl, if_pos (by omega), if_pos (by omega)]; rfl
    · rw [if_neg h, ih]
      by_cases h2 : j < m
      · rw [if_pos h2, if_pos (by omega)]
      · rw [if_neg h2, if_neg (by omega)]
theorem mixP_at (k : List UInt8) (m : Nat) (t : List UInt8) (hm : m < t.length) : (mixP k m t).getD m 0 = t.getD m 0 := by
  rw [mixP_get k m t m hm, if_neg (by omega)]
theorem getD_ext {l l' : List UInt8} (hl : l.length = l'.length) (h : ∀ j, j < l.length → l.getD j 0 = l'.getD j 0) : l = l' := by
  refine List.ext_getElem hl fun j h1 h2 => ?_
  have := h j h1
  rwa [List.getD_eq_getElem?_getD, List.getD_eq_getElem?_getD, List.getElem?_eq_getElem h1, List.getElem?_eq_getElem h2] at this
theorem mixL_twice (k t : List UInt8) : mixL k (mixL k t) = t := by
  refine getD_ext (by rw [mixL_length, mixL_length]) fun j hj => ?_
  rw [mixL_length, mixL_length] at hj
  rw [mixL, mixP_get _ _ _ _ (by rw [mixL_length]; exact hj), mixL_length, if_pos hj, mixL, mixP_get _ _ _ _ hj, if_pos hj, xor_twice]

def fstep32 (h : Int) (b : UInt8) : Int := IntKind.u32.wrap (bits BinOp.xor IntKind.u32 h (IntKind.u32.wrap ↑b.toNat) * 16777619)
def fnv32 (h : Int) (l : List UInt8) : Int := l.foldl fstep32 h
theorem fnv32_append (h : Int) (l m : List UInt8) : fnv32 h (l ++ m) = fnv32 (fnv32 h l) m := by simp [fnv32]
theorem fnv32_take (h : Int) (l : List UInt8) (j : Nat) (hj : j < l.length) : fnv32 h (l.take (j + 1)) = fstep32 (fnv32 h (l.take j)) (l.getD j 0) := by
  rw [List.take_succ_eq_append_getElem hj, fnv32_append]
  simp [List.getD, hj, fnv32]
theorem u32_byte (b : UInt8) : IntKind.u32.wrap ↑b.toNat = ↑b.toNat := by
  have := b.toNat_lt
  simp [IntKind.wrap, show IntKind.u32.signed = false from rfl, show IntKind.u32.bits = 32 from rfl]
  omega
theorem fstep32_range (h : Int) (b : UInt8) : 0 ≤ fstep32 h b ∧ fstep32 h b < 4294967296 := by
  unfold fstep32
  rw [u32_wrap]
  omega
theorem fnv32_range (h : Int) (l : List UInt8) (h0 : 0 ≤ h) (h1 : h < 4294967296) : 0 ≤ fnv32 h l ∧ fnv32 h l < 4294967296 := by
  induction l generalizing h with
  | nil => exact ⟨h0, h1⟩
  | cons b l ih => exact ih _ (fstep32_range h b).1 (fstep32_range h b).2
/-- SUM of a head and a text. -/
def sum32 (head t : List UInt8) : Int := fnv32 2166136261 (head ++ 0 :: t)
def sumL (head t : List UInt8) : Int := bits .and .u32 (sum32 head t) 2147483647
theorem sumL_range (head t : List UInt8) : 0 ≤ sumL head t ∧ sumL head t ≤ 2147483647 := by
  have h := fnv32_range 2166136261 (head ++ 0 :: t) (by decide) (by decide)
  have h0 : 0 ≤ sum32 head t := h.1
  have h1 : sum32 head t < 4294967296 := h.2
  unfold sumL
  rw [u32_and _ _ h0 h1 (by decide) (by decide)]
  have := Nat.and_le_right (n := (sum32 head t).toNat) (m := (2147483647 : Int).toNat)
  have e : (2147483647 : Int).toNat = 2147483647 := rfl
  rw [e] at this ⊢
  omega
theorem sumL_wrap (head t : List UInt8) : wrap64 (bits BinOp.and IntKind.u32 (sum32 head t) 2147483647) = sumL head t := by
  have h := sumL_range head t
  exact IntWalk.wrap64_in _ (by unfold sumL at h; omega)
def tagL (k head t : List UInt8) : List UInt8 := (kd k lTag (sumL head t)).take 4
theorem tagL_length (k head t : List UInt8) : (tagL k head t).length = 4 := rfl
def sealL (k head t : List UInt8) : List UInt8 := mixL k t ++ tagL k head (mixL k t)
theorem sealL_length (k head t : List UInt8) : (sealL k head t).length = t.length + 4 := by simp [sealL, mixL_length, tagL_length]
/-- Does it open? -/
def opensB (k head s : List UInt8) : Bool := decide (4 ≤ s.length) && (tagL k head (s.take (s.length - 4)) == s.drop (s.length - 4))
def openT (k s : List UInt8) : List UInt8 := mixL k (s.take (s.length - 4))
theorem opens_sealed (k head t : List UInt8) : opensB k head (sealL k head t) = true := by
  have hl : (mixL k t).length = (sealL k head t).length - 4 := by rw [sealL_length, mixL_length]; omega
  rw [opensB, ← hl, sealL, List.take_left, List.drop_left, ← sealL, sealL_length]
  simp
theorem openT_sealed (k head t : List UInt8) : openT k (sealL k head t) = t := by
  have hl : (mixL k t).length = (sealL k head t).length - 4 := by rw [sealL_length, mixL_length]; omega
  rw [openT, ← hl, sealL, List.take_left, mixL_twice]
/-- The reference's way to open: seal again what was mixed back. -/
theorem opensB_ref (k head s : List UInt8) (h : 4 ≤ s.length) : (sealL k head (openT k s) == s) = opensB k head s := by
  rw [opensB, Bool.eq_iff_iff]
  simp only [beq_iff_eq, Bool.and_eq_true, decide_eq_true_eq, h, true_and]
  have e : sealL k head (openT k s) = s.take (s.length - 4) ++ tagL k head (s.take (s.length - 4)) := by rw [sealL, openT, mixL_twice]
  rw [e]
  constructor
  · intro h1
    have h2 := congrArg (List.drop (s.length - 4)) h1
    rw [List.drop_left' (by rw [List.length_take]; omega)] at h2
    exact h2
  · intro h1
    rw [h1, List.take_append_drop]
end Go.Proofs.Ytccidllcjaaeeaa
