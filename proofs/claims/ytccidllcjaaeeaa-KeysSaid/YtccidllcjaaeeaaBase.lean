/- Laws of no program, for the walks of this seat: appending to a whole array variable, how a world with new blocks reads, counters. No condition of its own. -/
import Derived.WalkKit
import Derived.WalkSpells
import Derived.WalkLawsBesides
import Derived.Lib.AppendStr
import Derived.Lib.Hide
namespace Go.Proofs.Ytccidllcjaaeeaa
open Go.RowKit

/-- A secret's bytes as cells. -/
def cells (k : List UInt8) : Array Value := (k.map fun b : UInt8 => Value.int .u8 b.toNat).toArray
theorem cells_size (k : List UInt8) : (cells k).size = k.length := by simp [cells]
theorem cells_toList (k : List UInt8) : (cells k).toList = k.map fun b : UInt8 => Value.int .u8 b.toNat := by simp [cells]
theorem cells_append (k l : List UInt8) : (cells k).toList ++ (cells l).toList = (cells (k ++ l)).toList := by simp [cells]
theorem strCells_eq (s : ByteArray) : Lib.strCells s = (cells s.data.toList).toList := by simp [Lib.strCells, cells]
theorem cells_get (k : List UInt8) (j : Nat) (h : j < k.length) : (cells k).toList[j]? = some (.int .u8 (k[j]).toNat) := by simp [cells, h]

/-- 'append(b, s...)', s a string, where the slice must grow: a new row of the call's own. -/
theorem wpList_append_grow_string {P : Program} (w : World) {ops : Array Oper} {rest : List Oper} {o : Oper} {a : Act} {Q : Exit → Act → World → Prop} (hgd : o.guard = none) (sl x : Operand) (t u : TypeId)
    (ho : o.op = .call { callee := .builtin .append, args := #[sl, x], argTypes := #[t, u] })
    (e : TypeId) (i : TypeInfo) (ht : P.underlying t = some (.slice e)) (hu : P.underlying u = some .string) (hi : P.info? e = some i) (hz : i.zero = some (.int .u8 0))
    (hsize : i.size = 1) (hby : i.bytes = 1)
    (b : Addr) (n cap : Nat) (xs : List Value) (hs : a.eval sl = .slice (some b) n cap) (hl : xs.length = n) (hc : ∀ j v, xs[j]? = some v → w.cell? (b.add j) = some v) (s : ByteArray) (hx : a.eval x = .string s)
    (hg : cap < n + s.size) (hbytes : n + s.size ≤ 140737488355328)
    (h : ∀ v' w', w'.ownsRow w.heap.size e 1 v' (n + s.size) (xs ++ Lib.strCells s) → w.grownBy w' none → wpList P ops Q rest (a.put o.dst v') w') : wpList P ops Q (o :: rest) a w := by
  refine wpList_plain hgd fun K hK => ?_
  have h63 : n + s.size ≤ maxLen := by simp only [maxLen]; omega
  have hfit : Builtin.nextslicecap (n + s.size) cap * i.bytes ≤ 281474976710656 := growslice_fits hg (by rw [hby]; omega)
  have hr := Lib.run_append_grow_string (P := P) w t u o.type e i (.int .u8 0) ht hu hi hz b n cap xs (by rw [hsize]; omega) hc s hg (by omega) hfit
  have hge := grownCap_ge w (n + s.size) cap e
  have hcm : grownCap w (n + s.size) cap e ≤ maxLen := grownCap_le_maxLen w (n + s.size) cap e h63
  have hlen : (xs ++ Lib.strCells s).length = (n + s.size) * 1 := by rw [List.length_append, hl, Lib.strCells_length, Nat.mul_one]
  unfold Oper.wp execOp
  simp only [ho, resolve, invoke, builtin, Sem.run_bind, Sem.run_pure, Result.andThen_ok, List.map_toArray, List.map_cons, List.map_nil, hs, hx, hr]
  refine hK _ _ (h _ _ ⟨hlen, .inr ⟨w.heap.size, _, _, rfl, Nat.le_refl _, heap_alloc_new w.drew _, hge, hcm, ?_, ?_⟩⟩ ⟨rfl, rfl, rfl, by simp, fun k hk _ => Below.heap_alloc w.drew _ k hk⟩)
  · have hz1 : (Value.int IntKind.u8 0).cells.size = 1 := rfl
    simp only [Array.size_append, List.size_toArray, size_zeroCells, hz1, hl, Lib.strCells_length]
    omega
  · simp only [Array.toList_append, List.append_assoc]
    rw [← List.append_assoc, ← hlen]
    exact List.take_left

/-- 'append(b, s...)', s the empty string: nothing. -/
theorem wpList_append_empty_string {P : Program} (w : World) {ops : Array Oper} {rest : List Oper} {o : Oper} {a : Act} {Q : Exit → Act → World → Prop} (hgd : o.guard = none) (sl x : Operand) (t u : TypeId)
    (ho : o.op = .call { callee := .builtin .append, args := #[sl, x], argTypes := #[t, u] })
    (e : TypeId) (i : TypeInfo) (ht : P.underlying t = some (.slice e)) (hu : P.underlying u = some .string) (hi : P.info? e = some i)
    (hsize : i.size = 1)
    (b : Addr) (n cap : Nat) (hs : a.eval sl = .slice (some b) n cap) (s : ByteArray) (hx : a.eval x = .string s) (hn : s.size = 0) (hcap : n ≤ cap)
    (h : wpList P ops Q rest (a.put o.dst (.slice (some b) n cap)) w) : wpList P ops Q (o :: rest) a w := by
  refine wpList_plain hgd fun K hK => ?_
  have hf := Lib.run_firstCells_string (P := P) w 1 s
  have hnil : Lib.strCells s = [] := List.eq_nil_of_length_eq_zero (by rw [Lib.strCells_length]; exact hn)
  rw [hn, hnil] at hf
  have hr : (Builtin.append_ #[t, u] o.type #[.slice (some b) n cap, .string s]).run P w = .ok (.slice (some b) n cap) w := by
    simp [Builtin.append_, run_underlying ht, run_underlying hu, sizeOf, typeInfo, hi, hsize, Builtin.lenOf, hn, hcap, hf, storeCells]
  unfold Oper.wp execOp
  simp only [ho, resolve, invoke, builtin, Sem.run_bind, Sem.run_pure, Result.andThen_ok, List.map_toArray, List.map_cons, List.map_nil, hs, hx, hr]
  exact hK _ _ h

theorem cell_new_row (W : World) (cs : Array Value) (t : TypeId) : ∀ j u, cs.toList[j]? = some u → (W.alloc (.cells cs t)).cell? ((⟨W.heap.size, 0, none⟩ : Addr).add j) = some u := by
  intro j u h
  rw [Addr.add_lit, Nat.zero_add, cell_of_row _ _ _ _ _ _ (heap_alloc_new _ _)]
  simpa using h
theorem add_block (a : Addr) (j : Nat) : (a.add j).block = a.block := by
  unfold Addr.add; split <;> rfl
theorem cell_old_row {W : World} {a : Addr} {l : List Value} (h : ∀ j u, l[j]? = some u → W.cell? (a.add j) = some u) (o : Obj) : ∀ j u, l[j]? = some u → (W.alloc o).cell? (a.add j) = some u := by
  intro j u hj
  have h1 := h j u hj
  rw [World.cell?_alloc_old _ _ _ (Nat.ne_of_lt (block_lt_of_cell h1))]
  exact h1
theorem one4 (a b c d : Int) : ∀ u ∈ [Value.int .u8 a, Value.int .u8 b, Value.int .u8 c, Value.int .u8 d], u.oneCell' = true := by
  intro u hu
  simp only [List.mem_cons, List.not_mem_nil, or_false] at hu
  rcases hu with rfl | rfl | rfl | rfl <;> rfl
theorem ownsRow_mono {w : World} {b b' : Nat} {e : TypeId} {size : Nat} {v : Value} {n : Nat} {xs : List Value} (h : w.ownsRow b e size v n xs) (hb : b' ≤ b) : w.ownsRow b' e size v n xs := by
  obtain ⟨h1, h2⟩ := h
  refine ⟨h1, ?_⟩
  rcases h2 with h2 | ⟨g, cap, cur, a1, a2, a3⟩
  · exact .inl h2
  · exact .inr ⟨g, cap, cur, a1, Nat.le_trans hb a2, a3⟩
theorem ownsRow_pos {w : World} {b : Nat} {e : TypeId} {size : Nat} {v : Value} {n : Nat} {xs : List Value} (h : w.ownsRow b e size v n xs) (hn : 0 < n) : ∃ g cap, v = .slice (some ⟨g, 0, none⟩) n cap ∧ b ≤ g ∧ g < w.heap.size := by
  obtain ⟨h1, h2⟩ := h
  rcases h2 with ⟨_, h2⟩ | ⟨g, cap, cur, a1, a2, a3, _⟩
  · omega
  · exact ⟨g, cap, a1, a2, (Array.getElem?_eq_some_iff.1 a3).1⟩
theorem setCell_heap_of {a b : World} (p : Addr) (u : Value) (k : Nat) (h : a.heap[k]? = b.heap[k]?) : (a.setCell p u).heap[k]? = (b.setCell p u).heap[k]? := by
  simp only [World.setCell, Array.getElem?_modify, h]
theorem below_setCell {B : Nat} {a w : World} (h : Below B a w) (p : Addr) (u : Value) : Below B (a.setCell p u) (w.setCell p u) :=
  ⟨h.os, h.tape, h.output, by simpa [World.setCell] using h.size, fun k hk => setCell_heap_of p u k (h.block k hk)⟩
theorem below_setRow {B : Nat} {a w : World} (h : Below B a w) {g : Nat} (hg : B ≤ g) (cs : Array Value) : Below B a (w.setRow g cs) :=
  ⟨h.os, h.tape, h.output, by simpa using h.size, fun k hk => (setRow_other w g k cs (by omega)).trans (h.block k hk)⟩
/-- 'copy(b[:], s)', s a string, b a whole array variable. -/
theorem run_firstCells_string_n {P : Program} (w : World) (size n : Nat) (s : ByteArray) : (Builtin.firstCells size n (.string s)).run P w = .ok ((Lib.strCells s).take n).toArray w := by
  simp [Builtin.firstCells, Lib.strCells]
  apply Array.ext'
  simp
theorem wpList_copy_string {P : Program} {w : World} {ops : Array Oper} {rest : List Oper} {o : Oper} {a : Act} {Q : Exit → Act → World → Prop} (hgd : o.guard = none) (d s : Operand) (dT sT : TypeId)
    (ho : o.op = .call { callee := .builtin .copy, args := #[d, s], argTypes := #[dT, sT] }) (elem : TypeId) (hu : P.underlying dT = some (.slice elem)) (hsz : (P.info? elem).map (·.size) = some 1)
    (g dLen dCap : Nat) (hd : a.eval d = .slice (some ⟨g, 0, none⟩) dLen dCap) (src : ByteArray) (hs : a.eval s = .string src)
    (cur : Array Value) (t : TypeId) (hg : w.heap[g]? = some (.cells cur t (0, 0))) (hc : cur.size = dLen)
    (h : wpList P ops Q rest (a.put o.dst (goInt (Nat.min src.size dLen))) (w.setRow g ((Lib.strCells src).take dLen ++ cur.toList.drop (Nat.min src.size dLen)).toArray)) : wpList P ops Q (o :: rest) a w := by
  refine wpList_plain hgd fun K hK => ?_
  obtain ⟨i, hi, hz⟩ := Option.map_eq_some_iff.1 hsz
  have hm3 : Nat.min src.size dLen = min src.size dLen := rfl
  have hm1 : Nat.min src.size dLen ≤ src.size := Nat.min_le_left _ _
  have hm2 : Nat.min src.size dLen ≤ dLen := Nat.min_le_right _ _
  have hmm : Nat.min src.size dLen = src.size ∨ Nat.min src.size dLen = dLen := by rw [hm3]; omega
  generalize hm : Nat.min src.size dLen = m at *
  have hlen : ((Lib.strCells src).take m).length = m := by
    rw [List.length_take, Lib.strCells_length]; omega
  have htk : (Lib.strCells src).take m = (Lib.strCells src).take dLen := by
    rcases hmm with h | h
    · rw [List.take_of_length_le (by rw [Lib.strCells_length]; omega), List.take_of_length_le (by rw [Lib.strCells_length]; omega)]
    · rw [h]
  have hf := run_firstCells_string_n (P := P) w 1 m src
  have h1 : ∀ v ∈ (Lib.strCells src).take m, v.oneCell' = true := fun v hv => Lib.strCells_oneCell src v (List.mem_of_mem_take hv)
  have hst := run_storeCells_at P g 0 t ((Lib.strCells src).take m) 0 cur w hg (by rw [hlen, hc]; omega) h1
  have hr : (Builtin.copy_ #[dT, sT] o.type #[.slice (some ⟨g, 0, none⟩) dLen dCap, .string src]).run P w = .ok (goInt m) (w.setRow g ((Lib.strCells src).take dLen ++ cur.toList.drop m).toArray) := by
    simp only [Nat.add_zero, List.take_zero, List.nil_append, hlen, Nat.zero_add] at hst
    rw [← htk]
    simp [Builtin.copy_, run_underlying hu, Builtin.lenOf, sizeOf, typeInfo, hi, hz, hm3.symm, hf, hst]
  unfold Oper.wp execOp
  simp only [ho, resolve, invoke, builtin, Sem.run_bind, Sem.run_pure, Result.andThen_ok, List.map_toArray, List.map_cons, List.map_nil, hd, hs, hr]
  exact hK _ _ h
theorem heap_alloc_at (w : World) (o : Obj) (i : Nat) (h : i = w.heap.size) : (w.alloc o).heap[i]? = some o := by
  rw [h]; exact heap_alloc_new w o
/-- The frame of a call that makes memory alone, carried on. -/
theorem bnext {w a b : World} (h : Below w.heap.size w a) (k : Below a.heap.size a b) : Below w.heap.size w b := h.trans (k.mono h.size)
theorem balloc {w a : World} (h : Below w.heap.size w a) (o : Obj) : Below w.heap.size w (a.alloc o) := h.alloc h.size o
theorem ownsRow_slice {w : World} {b : Nat} {e : TypeId} {v : Value} {n : Nat} {xs : List Value} (h : w.ownsRow b e 1 v n xs) :
    ∃ q c, v = .slice q n c ∧ ((q = none ∧ c = 0 ∧ n = 0) ∨ ∃ g, q = some ⟨g, 0, none⟩ ∧ b ≤ g ∧ g < w.heap.size ∧ n ≤ c) := by
  obtain ⟨h1, h2⟩ := h
  rcases h2 with ⟨rfl, rfl⟩ | ⟨g, cap, cur, a1, a2, a3, a4, _⟩
  · exact ⟨none, 0, rfl, .inl ⟨rfl, rfl, rfl⟩⟩
  · exact ⟨_, _, a1, .inr ⟨g, rfl, a2, (Array.getElem?_eq_some_iff.1 a3).1, a4⟩⟩
theorem ownsRow_same {w w' : World} {b : Nat} {e size : Nat} {g : Nat} {n c : Nat} {xs : List Value} (h : w.ownsRow b e size (.slice (some ⟨g, 0, none⟩) n c) n xs) (hg : w'.heap[g]? = w.heap[g]?) :
    w'.ownsRow b e size (.slice (some ⟨g, 0, none⟩) n c) n xs := by
  obtain ⟨h1, h2⟩ := h
  refine ⟨h1, ?_⟩
  rcases h2 with h2 | ⟨g', cap, cur, a1, a2, a3, a4⟩
  · exact .inl h2
  · cases a1
    exact .inr ⟨g, c, cur, rfl, a2, hg.trans a3, a4⟩
theorem own_cell {w : World} {b e g n c : Nat} {L : List UInt8} (h : w.ownsRow b e 1 (.slice (some ⟨g, 0, none⟩) n c) n (cells L).toList) (hL : L.length = n) (i : Nat) (hi : i < n) :
    w.cell? ⟨g, i, none⟩ = some (.int .u8 (L.getD i 0).toNat) := by
  rw [h.cellAt i (by omega), cells_get _ _ (by omega), List.getD_eq_getElem?_getD, List.getElem?_eq_getElem (by omega)]
  rfl
theorem row_cell {w : World} {b t : Nat} {fr : Nat × Nat} {L : List UInt8} (h : w.heap[b]? = some (.cells (cells L) t fr)) (i : Nat) (hi : i < L.length) : w.cell? ⟨b, i, none⟩ = some (.int .u8 (L.getD i 0).toNat) := by
  have := cells_get L i hi
  rw [Array.getElem?_toList] at this
  rw [cell_of_row _ _ _ _ _ _ h, this, List.getD_eq_getElem?_getD, List.getElem?_eq_getElem hi]
  rfl
theorem cells_set (L : List UInt8) (i : Nat) (b : UInt8) : (cells L).toList.set i (.int .u8 b.toNat) = (cells (L.set i b)).toList := by
  simp [cells]
theorem ret_int {k : IntKind} {a b : Int} (h : a = b) : Ending.returned (.int k a) = .returned (.int k b) := by rw [h]
/-- Two results, the first a whole array in a cell. -/
theorem results_cell_row2 {P : Program} {fn : Func} {p u : Tmp} {ty : TypeId} (h : fn.results = #[.cell p ty, .tmp u]) (tmps : Array Value) (w : World) (g : Nat) (t : TypeId) (cs : Array Value) (fr : Nat × Nat) (d : TypeDesc)
    (hp : tmps.getD p undef = .pointer (some ⟨g, 0, none⟩)) (hg : w.heap[g]? = some (.cells cs t fr))
    (hu : P.underlying ty = some d) (hd : (match d with | .struct _ | .array _ _ => true | _ => false) = true) (hi : (P.info? ty).map (·.size) = some cs.size) :
    (results fn tmps).run P w = .ok (.tuple #[.agg cs, tmps.getD u undef]) w := by
  have hp' : tmps[p]?.getD undef = .pointer (some ⟨g, 0, none⟩) := by simpa using hp
  simp [results, h, hp', asAddr, run_loadVar_row w g t ty cs fr d hg hu hd hi]
end Go.Proofs.Ytccidllcjaaeeaa
