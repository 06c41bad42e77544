/- Laws of no program: parts of a tree as rows of ten cells, slices that read as rows, what Split comes to. No condition of its own. -/
import Derived.Test.YtccidllcjaaeeaaTreeHas
import Derived.Deep.MidRow
namespace Go.Proofs.Ytccidllcjaaeeaa
open Go.RowKit
open Go.Shelf Go.Lib Go.Sort
instance : Inhabited TPart := ⟨⟨0, 0, []⟩⟩
/-- Has a part the member? -/
def hasB (p : TPart) (m : Nat) : Bool := decide (p.a ≤ m ∧ m < p.b)
/-- A part's ten cells, whatever its secret's length. -/
def encP (p : TPart) : List Value := (pcells ⟨p.a, p.b, (p.s ++ [0, 0, 0, 0, 0, 0, 0, 0]).take 8⟩).toList
theorem encP_len (p : TPart) : (encP p).length = 10 := by
  have h : ((p.s ++ [0, 0, 0, 0, 0, 0, 0, 0]).take 8).length = 8 := by simp
  rw [encP, Array.length_toList]; exact pcells_size _ h
theorem encP_one (p : TPart) : ∀ v ∈ encP p, v.oneCell' = true := fun v hv => Array.all_eq_true_iff_forall_mem.1 (pcells_one _) v (by simpa [encP] using hv)
theorem encP_eq (p : TPart) (h : p.s.length = 8) : encP p = (pcells p).toList := by
  have : (p.s ++ [0, 0, 0, 0, 0, 0, 0, 0]).take 8 = p.s := by rw [← h]; simp
  rw [encP, this]
def lcells (l : List TPart) : List Value := l.flatMap encP
theorem lcells_length (l : List TPart) : (lcells l).length = l.length * 10 := by
  induction l with
  | nil => rfl
  | cons p l ih => simp only [lcells, List.flatMap_cons, List.length_append, encP_len, List.length_cons] at *; omega
theorem lcells_append (l k : List TPart) : lcells (l ++ k) = lcells l ++ lcells k := by simp [lcells]
theorem lcells_one (l : List TPart) : ∀ v ∈ lcells l, v.oneCell' = true := by
  intro v hv
  rw [lcells, List.mem_flatMap] at hv
  obtain ⟨p, _, hp⟩ := hv
  exact encP_one p v hp
theorem lcells_get : ∀ (l : List TPart) (j i : Nat), j < l.length → i < 10 → (lcells l)[j * 10 + i]? = (encP l[j]!)[i]?
  | [], _, _, h, _ => absurd h (Nat.not_lt_zero _)
  | p :: l, 0, i, _, hi => by
    simp only [lcells, List.flatMap_cons]
    rw [List.getElem?_append_left (by rw [encP_len]; omega)]
    simp
  | p :: l, j + 1, i, h, hi => by
    have ih := lcells_get l j i (by simpa using h) hi
    simp only [lcells, List.flatMap_cons] at ih ⊢
    rw [List.getElem?_append_right (by rw [encP_len]; omega), encP_len, show (j + 1) * 10 + i - 10 = j * 10 + i by omega, ih]
    simp
theorem flatK_parts (l : List TPart) : (flatK encP 10 l.toArray).toList = lcells l := by
  apply List.ext_getElem?
  intro t
  by_cases ht : t < l.length * 10
  · have h1 := get_flatK encP 10 l.toArray t (by simpa using ht)
    have hs : t < (flatK encP 10 l.toArray).size := by simpa using ht
    rw [getElem!_pos (flatK encP 10 l.toArray) t hs] at h1
    rw [Array.getElem?_toList, Array.getElem?_eq_getElem hs, h1]
    have h2 := lcells_get l (t / 10) (t % 10) (by omega) (by omega)
    rw [show t / 10 * 10 + t % 10 = t by omega] at h2
    rw [h2]
    have h3 : t % 10 < (encP l.toArray[t / 10]!).length := by rw [encP_len]; omega
    rw [getElem!_pos (encP l.toArray[t / 10]!) (t % 10) h3]
    have h4 : l.toArray[t / 10]! = l[t / 10]! := by simp
    simp only [h4] at h3 ⊢
    rw [List.getElem?_eq_getElem h3]
  · rw [List.getElem?_eq_none (by simp; omega), List.getElem?_eq_none (by rw [lcells_length]; omega)]
/-- A slice value of n elements that reads as the cells xs. -/
def SliceR (w : World) (sv : Value) (n : Nat) (xs : List Value) : Prop :=
  (sv = .slice none 0 0 ∧ n = 0 ∧ xs = []) ∨ ∃ b o cap, sv = .slice (some ⟨b, o, none⟩) n cap ∧ n ≤ cap ∧ cap ≤ maxLen ∧ b < w.heap.size ∧ w.rangeAt b o xs
theorem SliceR.of_own {w : World} {base E size : Nat} {sv : Value} {n : Nat} {xs : List Value} (h : w.ownsRow base E size sv n xs) : SliceR w sv n xs := by
  obtain ⟨h1, h2⟩ := h
  rcases h2 with ⟨rfl, rfl⟩ | ⟨g, cap, cur, rfl, a2, a3, a4, a5, a6, a7⟩
  · exact .inl ⟨rfl, rfl, List.eq_nil_of_length_eq_zero (by simpa using h1)⟩
  · refine .inr ⟨g, 0, cap, rfl, a4, a5, (Array.getElem?_eq_some_iff.1 a3).1, fun j v hj => ?_⟩
    rw [Nat.zero_add, cell_of_row _ _ _ _ _ _ a3, ← Array.getElem?_toList]
    rw [← a7] at hj
    by_cases hjn : j < n * size
    · rw [List.getElem?_take_of_lt hjn] at hj; exact hj
    · rw [List.getElem?_take_eq_none (by omega)] at hj; cases hj
theorem SliceR.same {w w' : World} {sv : Value} {n : Nat} {xs : List Value} (h : SliceR w sv n xs) (hk : ∀ b, sv.ownBlock = some b → w'.heap[b]? = w.heap[b]?) (hs : w.heap.size ≤ w'.heap.size) : SliceR w' sv n xs := by
  rcases h with h | ⟨b, o, cap, rfl, h1, h2, h3, h4⟩
  · exact .inl h
  · exact .inr ⟨b, o, cap, rfl, h1, h2, Nat.lt_of_lt_of_le h3 hs, fun j v hj => by rw [World.cell?_of_block (hk b rfl)]; exact h4 j v hj⟩
theorem SliceR.below {w w' : World} {sv : Value} {n : Nat} {xs : List Value} (h : SliceR w sv n xs) (hb : Below w.heap.size w w') : SliceR w' sv n xs := by
  refine h.same (fun b hb' => ?_) hb.size
  rcases h with ⟨rfl, _⟩ | ⟨b', o, cap, rfl, h1, h2, h3, h4⟩
  · cases hb'
  · cases hb'; exact hb.block _ h3
theorem holdsK_own {w : World} {g t : Nat} {cur : Array Value} {l : List TPart} (hg : w.heap[g]? = some (.cells cur t (0, 0))) (ht : cur.toList.take (l.length * 10) = lcells l) : HoldsK encP 10 w g 0 l.toArray := by
  intro j hj
  have hj' : j < l.length * 10 := by simpa using hj
  refine ⟨?_, by simp [World.frozen?, hg]⟩
  rw [Nat.zero_add, cell_of_row _ _ _ _ _ _ hg, ← Array.getElem?_toList, ← List.getElem?_take_of_lt hj', ht, ← flatK_parts l, Array.getElem?_toList, Array.getElem?_eq_getElem hj, getElem!_pos (flatK encP 10 l.toArray) j hj]
  rfl
theorem heap_putRowK {w : World} {g q : Nat} {cur : Array Value} {e : TypeId} (d : Array TPart) (hb : w.heap[g]? = some (.cells cur e (0, 0))) :
    (putRowK encP 10 (Go.Sort.ahead w q) g 0 d).heap[g]? = some (.cells (putCells id 0 (flatK encP 10 d) cur) e (0, 0)) := by
  simp [putRowK, putRow, mapBlock, Go.Sort.ahead, Array.getElem?_modify, hb, onCells]
theorem grownBy_putRowK {w : World} {g q : Nat} (d : Array TPart) : w.grownBy (putRowK encP 10 (Go.Sort.ahead w q) g 0 d) (some g) := by
  refine ⟨rfl, rfl, rfl, by simp [putRowK, putRow, mapBlock, Go.Sort.ahead], fun k hk hne => ?_⟩
  have : g ≠ k := fun e => hne (by rw [e])
  simp [putRowK, putRow, mapBlock, Go.Sort.ahead, Array.getElem?_modify, this]
theorem take_putCellsK (cur : Array Value) (F : Array Value) (h : F.size ≤ cur.size) : (putCells id 0 F cur).toList.take F.size = F.toList := by
  apply List.ext_getElem?
  intro j
  by_cases hj : j < F.size
  · rw [List.getElem?_take_of_lt hj, Array.getElem?_toList]
    simp [putCells, hj, show j < cur.size by omega]
  · rw [List.getElem?_take_eq_none (by omega), List.getElem?_eq_none (by simp; omega)]
theorem ownsRow_putRowK {w : World} {base g cap q E : Nat} {cur : Array Value} {l k : List TPart} (hl : k.length = l.length) (hbase : base ≤ g) (hb : w.heap[g]? = some (.cells cur E (0, 0)))
    (h1 : l.length ≤ cap) (h2 : cap ≤ maxLen) (h3 : cur.size = cap * 10) :
    (putRowK encP 10 (Go.Sort.ahead w q) g 0 k.toArray).ownsRow base E 10 (.slice (some ⟨g, 0, none⟩) l.length cap) l.length (lcells k) := by
  refine ⟨by rw [lcells_length, hl], .inr ⟨g, cap, _, rfl, hbase, heap_putRowK _ hb, h1, h2, by simp [putCells, h3], ?_⟩⟩
  have hsz : (flatK encP 10 k.toArray).size = l.length * 10 := by simp [hl]
  rw [← hsz, take_putCellsK _ _ (by rw [hsz, h3]; omega), flatK_parts]
end Go.Proofs.Ytccidllcjaaeeaa
