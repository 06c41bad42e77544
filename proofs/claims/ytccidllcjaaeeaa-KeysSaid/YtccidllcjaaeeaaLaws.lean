/- Laws of no program: a slice literal of one element that is an aggregate of whatever cells. No condition of its own. -/
import Derived.Test.YtccidllcjaaeeaaBase
import Derived.Great.BuildSlice
namespace Go.Proofs.Ytccidllcjaaeeaa
open Go.RowKit
theorem foldl_set : ∀ (l : List Value) (k : Nat) (acc : Array Value), k + l.length ≤ acc.size → (l.zipIdx k).foldl (fun (cs : Array Value) (x : Value × Nat) => cs.setIfInBounds x.2 x.1) acc = (acc.toList.take k ++ l ++ acc.toList.drop (k + l.length)).toArray
  | [], k, acc, h => by simp
  | v :: l, k, acc, h => by
    have h' : k + 1 + l.length ≤ (acc.setIfInBounds k v).size := by simp at h ⊢; omega
    rw [List.zipIdx_cons, List.foldl_cons, foldl_set l (k + 1) _ h']
    simp only [List.length_cons] at h
    have hk : k < acc.toList.length := by simp; omega
    congr 1
    rw [Array.toList_setIfInBounds, List.take_succ_eq_append_getElem (by simpa using hk), List.take_set_of_le (Nat.le_refl _), List.getElem_set_self, List.drop_set_of_lt (by omega)]
    simp [Nat.add_comm, Nat.add_left_comm]
theorem fill_one (n : Nat) (Z cs : Array Value) (hZ : Z.size = n) (hc : cs.size = n) : Instr.fill (fun i => some (i * n, n)) Z [(0, Value.agg cs)] = some cs := by
  have h := foldl_set cs.toList 0 Z (by simp; omega)
  simp only [Instr.fill, Value.cells, Nat.zero_mul, Nat.zero_add, hc, hZ, ne_eq, not_true, Nat.lt_irrefl, decide_false, Bool.or_false, if_false, Bool.false_eq_true]
  congr 1
  rw [← Array.foldl_toList, Array.toList_zipIdx]
  refine h.trans ?_
  rw [List.drop_eq_nil_of_le (by simp; omega)]
  simp
theorem wpList_slice_one {P : Program} {ops : Array Oper} {rest : List Oper} {o : Oper} {a : Act} {w : World} {Q : Exit → Act → World → Prop} (hg : o.guard = none) (t e : TypeId) (x : Operand) (ho : o.op = .buildSlice t 1 #[(0, x)])
    (cells : Array Value) (hx : a.eval x = .agg cells) (ie : TypeInfo) (z : Value)
    (hu : P.underlying t = some (.slice e)) (hie : P.info? e = some ie) (hz : ie.zero = some z) (hsz : ie.size = cells.size) (hpos : 0 < cells.size) (hsmall : cells.size ≤ 1000)
    (h : wpList P ops Q rest (a.put o.dst (.slice (some ⟨w.heap.size, 0, none⟩) 1 1)) (w.alloc (.cells cells e))) : wpList P ops Q (o :: rest) a w :=
  wpList_buildSlice hg t e 1 _ ho cells ie z hu hie hz (by omega) (by omega) (by
    have := fill_one ie.size ((Array.range (1 * ie.size)).map (z.cells[· % z.cells.size]!)) cells (by simp) hsz.symm
    simpa [hx] using this) h
theorem cell_ne {w : World} {b o g j : Nat} {v : Value} (h : b ≠ g) : (w.setCell ⟨b, o, none⟩ v).cell? ⟨g, j, none⟩ = w.cell? ⟨g, j, none⟩ := World.cell?_setCell_other _ _ _ _ (fun e => h (congrArg Addr.block e))
theorem heap_ne {w : World} {b o g : Nat} {v : Value} (h : b ≠ g) : (w.setCell ⟨b, o, none⟩ v).heap[g]? = w.heap[g]? := heap_setCell_other _ _ _ _ (Ne.symm h)
theorem cell_row_ne {w : World} {b g j : Nat} {cs : Array Value} (h : b ≠ g) : (w.setRow b cs).cell? ⟨g, j, none⟩ = w.cell? ⟨g, j, none⟩ := World.cell?_of_block (a := ⟨g, j, none⟩) (setRow_other _ _ _ _ (Ne.symm h))
theorem heap_row_ne {w : World} {b g : Nat} {cs : Array Value} (h : b ≠ g) : (w.setRow b cs).heap[g]? = w.heap[g]? := setRow_other _ _ _ _ (Ne.symm h)
theorem size_setRow (w : World) (b : Nat) (cs : Array Value) : (w.setRow b cs).heap.size = w.heap.size := by simp
theorem step_store_row {P : Program} {ops : Array Oper} {o : Oper} {a : Act} {w : World} {K : Act → World → Prop} {Q : Exit → Act → World → Prop} {E : Prop} (hgd : o.guard = none) (ty : TypeId) (x y : Operand) (ho : o.op = .store ty x y)
    (g : Nat) (cells : Array Value) (hx : a.eval x = .pointer (some ⟨g, 0, none⟩)) (hy : a.eval y = .agg cells)
    (t : TypeId) (old : Array Value) (hg : w.heap[g]? = some (.cells old t (0, 0))) (hi : (P.info? ty).map (·.size) = some cells.size)
    (hold : old.size = cells.size) (h1 : cells.all (·.oneCell') = true)
    (h : K (a.put o.dst undef) (w.setRow g cells)) : if Region.wanted o (yielded ops a.tmps) = true then Oper.wp P o a w K Q else E := by
  have hw : Region.wanted o (yielded ops a.tmps) = true := by simp [Region.wanted, hgd]
  rw [if_pos hw]
  exact wp_store_row ty x y ho g cells hx hy t old hg hi hold h1 h
theorem results_tct {P : Program} {fn : Func} {p q r : Tmp} {ty : TypeId} (h : fn.results = #[.tmp p, .cell q ty, .tmp r]) (tmps : Array Value) (w : World) (g : Nat) (t : TypeId) (cs : Array Value) (fr : Nat × Nat) (d : TypeDesc)
    (hq : tmps.getD q undef = .pointer (some ⟨g, 0, none⟩)) (hg : w.heap[g]? = some (.cells cs t fr)) (hu : P.underlying ty = some d) (hd : (match d with | .struct _ | .array _ _ => true | _ => false) = true) (hi : (P.info? ty).map (·.size) = some cs.size) :
    (results fn tmps).run P w = .ok (.tuple #[tmps.getD p undef, .agg cs, tmps.getD r undef]) w := by
  have hq' : tmps[q]?.getD undef = .pointer (some ⟨g, 0, none⟩) := by simpa using hq
  simp [results, h, hq', asAddr, run_loadVar_row w g t ty cs fr d hg hu hd hi]
theorem heap_drew (w : World) : w.drew.heap = w.heap := rfl
theorem size_setCell (w : World) (a : Addr) (v : Value) : (w.setCell a v).heap.size = w.heap.size := by simp [World.setCell]
end Go.Proofs.Ytccidllcjaaeeaa
