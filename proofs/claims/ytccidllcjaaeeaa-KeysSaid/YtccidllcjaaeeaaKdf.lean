/- Plain law, no program: the words in which both texts of Derive are told: what a byte does to the number, the last three turns, the eight bytes. No condition. -/
import Derived.WalkKit
import Derived.Test.YtccidllcjaaeeaaBase
namespace Go.Proofs.Ytccidllcjaaeeaa
open Go.RowKit

def be4 (n : Int) : List UInt8 := [UInt8.ofNat (n / 16777216 % 256).toNat, UInt8.ofNat (n / 65536 % 256).toNat, UInt8.ofNat (n / 256 % 256).toNat, UInt8.ofNat (n % 256).toNat]
theorem byte_of (x : Int) : Value.int .u8 (x % 256) = Value.int .u8 ((UInt8.ofNat (x % 256).toNat).toNat : Int) := by
  congr 1
  rw [UInt8.toNat_ofNat']
  omega
theorem be4_cells (n : Int) : [Value.int .u8 (n / 16777216 % 256), Value.int .u8 (n / 65536 % 256), Value.int .u8 (n / 256 % 256), Value.int .u8 (n % 256)] = (cells (be4 n)).toList := by
  simp only [byte_of, cells, be4, List.map_cons, List.map_nil]

def fstep (h : Int) (b : UInt8) : Int := IntKind.u64.wrap (bits BinOp.xor IntKind.u64 h (IntKind.u64.wrap ↑b.toNat) * 1099511628211)
def fnv (h : Int) (l : List UInt8) : Int := l.foldl fstep h
theorem fnv_append (h : Int) (l m : List UInt8) : fnv h (l ++ m) = fnv (fnv h l) m := by simp [fnv]
theorem fnv_snoc (h : Int) (l : List UInt8) (b : UInt8) : fnv h (l ++ [b]) = fstep (fnv h l) b := by simp [fnv]
theorem fnv_take (h : Int) (l : List UInt8) (j : Nat) (hj : j < l.length) : fnv h (l.take (j + 1)) = fstep (fnv h (l.take j)) (l.getD j 0) := by
  rw [List.take_succ_eq_append_getElem hj, fnv_snoc]
  simp [List.getD, hj]
/-- The last three turns. -/
def fturn (h : Int) : Int := IntKind.u64.wrap (bits BinOp.xor IntKind.u64 h (h / 4294967296) * 1099511628211)
def turns : Nat → Int → Int
  | 0, h => h
  | n + 1, h => fturn (turns n h)
def fin3 (h : Int) : Int := turns 3 h
def outb (h : Int) : List UInt8 := be4 (h / 4294967296) ++ be4 h
/-- The eight bytes while they are laid one by one. -/
def outp (h : Int) (j : Nat) : List UInt8 := (outb h).take j ++ List.replicate (8 - j) 0
theorem outb_length (h : Int) : (outb h).length = 8 := rfl
theorem outp_length (h : Int) (j : Nat) (hj : j ≤ 8) : (outp h j).length = 8 := by simp [outp, outb_length]; omega
theorem outp_all (h : Int) : outp h 8 = outb h := rfl
theorem ediv2 (h : Int) (a b : Int) (ha : 0 ≤ a) : h / a / b = h / (a * b) := Int.ediv_ediv_of_nonneg ha
theorem outp_step (h : Int) (m : Nat) (hm : m < 8) : (cells (outp h m)).setIfInBounds m (.int .u8 (h / 2 ^ (8 * (7 - m)) % 256)) = cells (outp h (m + 1)) := by
  rw [byte_of]
  obtain rfl | rfl | rfl | rfl | rfl | rfl | rfl | rfl : m = 0 ∨ m = 1 ∨ m = 2 ∨ m = 3 ∨ m = 4 ∨ m = 5 ∨ m = 6 ∨ m = 7 := by omega
  all_goals simp [outp, outb, be4, cells, ediv2]
/-- What Derive answers. -/
def kd (s label : List UInt8) (n : Int) : List UInt8 := outb (fin3 (fnv 14695981039346656037 (s ++ label ++ be4 n)))
theorem kd_length (s label : List UInt8) (n : Int) : (kd s label n).length = 8 := rfl
theorem bytes_getD (s : ByteArray) (j : Nat) (h : j < s.size) : s.data.toList.getD j 0 = s[j] := by
  have h' : j < s.data.toList.length := by simpa using h
  rw [List.getD_eq_getElem?_getD, List.getElem?_eq_getElem h']
  rfl
/-- The number's four bytes as the reference takes them: the highest eight of 32 bits, which are then shifted left. -/
def num32 (n : Int) : Nat → Int
  | 0 => n % 4294967296
  | j + 1 => IntKind.u32.wrap (num32 n j * 256)
theorem u32_wrap (x : Int) : IntKind.u32.wrap x = x % 4294967296 := by
  simp [IntKind.wrap, show IntKind.u32.signed = false from rfl, show IntKind.u32.bits = 32 from rfl]
theorem u64_byte (b : UInt8) : IntKind.u64.wrap ↑b.toNat = ↑b.toNat := by
  have := b.toNat_lt
  simp [IntKind.wrap, show IntKind.u64.signed = false from rfl, show IntKind.u64.bits = 64 from rfl]
  omega
theorem num32_byte (n : Int) (j : Nat) (hj : j < 4) : num32 n j / 16777216 = (((be4 n).getD j 0).toNat : Int) ∧ 0 ≤ num32 n j ∧ num32 n j < 4294967296 := by
  obtain rfl | rfl | rfl | rfl : j = 0 ∨ j = 1 ∨ j = 2 ∨ j = 3 := by omega
  all_goals
    simp only [num32, u32_wrap, be4, List.getD_cons_zero, List.getD_cons_succ, UInt8.toNat_ofNat']
    simp
    omega
theorem kd_of (k l : List UInt8) (n h0 h1 h2 h3 : Int) (e0 : fnv 14695981039346656037 k = h0) (e1 : fnv h0 l = h1) (e2 : fnv h1 (be4 n) = h2) (e3 : turns 3 h2 = h3) : outb h3 = kd k l n := by
  rw [kd, fnv_append, fnv_append, e0, e1, e2, fin3, e3]
/-- A secret out of a text: its first eight bytes, noughts behind. -/
def sec (s : ByteArray) : List UInt8 := s.data.toList.take 8 ++ List.replicate (8 - s.size) 0
theorem sec_length (s : ByteArray) : (sec s).length = 8 := by simp [sec]; omega
theorem sec_cells (s : ByteArray) : ((Lib.strCells s).take 8 ++ (cells [0, 0, 0, 0, 0, 0, 0, 0]).toList.drop (Nat.min s.size 8)).toArray = cells (sec s) := by
  rw [strCells_eq, cells_toList, cells_toList, sec, cells, List.map_append, List.map_take, ← List.map_drop]
  congr 2
  have h : List.replicate (8 - s.size) (0 : UInt8) = List.drop (Nat.min s.size 8) [0, 0, 0, 0, 0, 0, 0, 0] := by
    have h3 : Nat.min s.size 8 = min s.size 8 := rfl
    rw [h3]
    rcases Nat.lt_or_ge s.size 8 with h | h
    · rw [Nat.min_eq_left (by omega)]
      have := s.size
      obtain h | h | h | h | h | h | h | h : s.size = 0 ∨ s.size = 1 ∨ s.size = 2 ∨ s.size = 3 ∨ s.size = 4 ∨ s.size = 5 ∨ s.size = 6 ∨ s.size = 7 := by omega
      all_goals rw [h]; rfl
    · rw [Nat.min_eq_right (by omega), show 8 - s.size = 0 from by omega]; rfl
  rw [h]
end Go.Proofs.Ytccidllcjaaeeaa
