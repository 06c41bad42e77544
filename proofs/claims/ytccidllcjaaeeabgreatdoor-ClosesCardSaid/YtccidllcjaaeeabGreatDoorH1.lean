/- Several texts of this claim in one file (a claim has at most 60): Base, Kdf, Derive, RefDerive, Derives, SealFns, Rd, Mix, Tag, Seal, SealEp. No condition of its own. -/
import Derived.WalkKit
import Derived.WalkSpells
import Derived.WalkLawsBesides
import Derived.Lib.AppendStr
import Derived.Lib.Hide
import Derived.Test.YtccidllcjaaeeabGreatDoorRows
import Derived.Deep.DeepCutAuto
import Derived.Deep.DeepMust
import Derived.Deep.WholeRow
import Derived.Stop.BytesEq
import Derived.Deep.QuietTactic
import Derived.BigQuiet
import Derived.Deep.RegionWith
import Derived.Deep.RegionHeld3
import Derived.Lib.ConvBytes
/- Laws of no program, for the walks of this seat: appending to a whole array variable, how a world with new blocks reads, counters. No condition of its own. -/
namespace Go.Proofs.YtccidllcjaaeeabGreatDoor
set_option maxRecDepth 100000
open Go.RowKit

/-- A secret's bytes as cells. -/
def cells (k : List UInt8) : Array Value := (k.map fun b : UInt8 => Value.int .u8 b.toNat).toArray
theorem cells_size (k : List UInt8) : (cells k).size = k.length := by simp [cells]
theorem cells_toList (k : List UInt8) : (cells k).toList = k.map fun b : UInt8 => Value.int .u8 b.toNat := by simp [cells]
theorem cells_append (k l : List UInt8) : (cells k).toList ++ (cells l).toList = (cells (k ++ l)).toList := by simp [cells]
theorem strCells_eq (s : ByteArray) : Lib.strCells s = (cells s.data.toList).toList := by simp [Lib.strCells, cells]
theorem cells_get (k : List UInt8) (j : Nat) (h : j < k.length) : (cells k).toList[j]? = some (.int .u8 (k[j]).toNat) := by simp [cells, h]

/-- 'append(b, s...)', s a string, where the slice must grow: a new row of the call's own. -/
theorem wpList_append_grow_string {P : Program} (w : World) {ops : Array Oper} {rest : List Oper} {o : Oper} {a : Act} {Q : Exit → Act → World → Prop} (hgd : o.guard = none) (sl x : Operand) (t u : TypeId)
    (ho : o.op = .call { callee := .builtin .append, args := #[sl, x], argTypes := #[t, u] })
    (e : TypeId) (i : TypeInfo) (ht : P.underlying t = some (.slice e)) (hu : P.underlying u = some .string) (hi : P.info? e = some i) (hz : i.zero = some (.int .u8 0))
    (hsize : i.size = 1) (hby : i.bytes = 1)
    (b : Addr) (n cap : Nat) (xs : List Value) (hs : a.eval sl = .slice (some b) n cap) (hl : xs.length = n) (hc : ∀ j v, xs[j]? = some v → w.cell? (b.add j) = some v) (s : ByteArray) (hx : a.eval x = .string s)
    (hg : cap < n + s.size) (hbytes : n + s.size ≤ 140737488355328)
    (h : ∀ v' w', w'.ownsRow w.heap.size e 1 v' (n + s.size) (xs ++ Lib.strCells s) → w.grownBy w' none → wpList P ops Q rest (a.put o.dst v') w') : wpList P ops Q (o :: rest) a w := by
  refine wpList_plain hgd fun K hK => ?_
  have h63 : n + s.size ≤ maxLen := by simp only [maxLen]; omega
  have hfit : Builtin.nextslicecap (n + s.size) cap * i.bytes ≤ 281474976710656 := growslice_fits hg (by rw [hby]; omega)
  have hr := Lib.run_append_grow_string (P := P) w t u o.type e i (.int .u8 0) ht hu hi hz b n cap xs (by rw [hsize]; omega) hc s hg (by omega) hfit
  have hge := grownCap_ge w (n + s.size) cap e
  have hcm : grownCap w (n + s.size) cap e ≤ maxLen := grownCap_le_maxLen w (n + s.size) cap e h63
  have hlen : (xs ++ Lib.strCells s).length = (n + s.size) * 1 := by rw [List.length_append, hl, Lib.strCells_length, Nat.mul_one]
  unfold Oper.wp execOp
  simp only [ho, resolve, invoke, builtin, Sem.run_bind, Sem.run_pure, Result.andThen_ok, List.map_toArray, List.map_cons, List.map_nil, hs, hx, hr]
  refine hK _ _ (h _ _ ⟨hlen, .inr ⟨w.heap.size, _, _, rfl, Nat.le_refl _, heap_alloc_new w.drew _, hge, hcm, ?_, ?_⟩⟩ ⟨rfl, rfl, rfl, by simp, fun k hk _ => Below.heap_alloc w.drew _ k hk⟩)
  · have hz1 : (Value.int IntKind.u8 0).cells.size = 1 := rfl
    simp only [Array.size_append, List.size_toArray, size_zeroCells, hz1, hl, Lib.strCells_length]
    omega
  · simp only [Array.toList_append, List.append_assoc]
    rw [← List.append_assoc, ← hlen]
    exact List.take_left

/-- 'append(b, s...)', s the empty string: nothing. -/
theorem wpList_append_empty_string {P : Program} (w : World) {ops : Array Oper} {rest : List Oper} {o : Oper} {a : Act} {Q : Exit → Act → World → Prop} (hgd : o.guard = none) (sl x : Operand) (t u : TypeId)
    (ho : o.op = .call { callee := .builtin .append, args := #[sl, x], argTypes := #[t, u] })
    (e : TypeId) (i : TypeInfo) (ht : P.underlying t = some (.slice e)) (hu : P.underlying u = some .string) (hi : P.info? e = some i)
    (hsize : i.size = 1)
    (b : Addr) (n cap : Nat) (hs : a.eval sl = .slice (some b) n cap) (s : ByteArray) (hx : a.eval x = .string s) (hn : s.size = 0) (hcap : n ≤ cap)
    (h : wpList P ops Q rest (a.put o.dst (.slice (some b) n cap)) w) : wpList P ops Q (o :: rest) a w := by
  refine wpList_plain hgd fun K hK => ?_
  have hf := Lib.run_firstCells_string (P := P) w 1 s
  have hnil : Lib.strCells s = [] := List.eq_nil_of_length_eq_zero (by rw [Lib.strCells_length]; exact hn)
  rw [hn, hnil] at hf
  have hr : (Builtin.append_ #[t, u] o.type #[.slice (some b) n cap, .string s]).run P w = .ok (.slice (some b) n cap) w := by
    simp [Builtin.append_, run_underlying ht, run_underlying hu, sizeOf, typeInfo, hi, hsize, Builtin.lenOf, hn, hcap, hf, storeCells]
  unfold Oper.wp execOp
  simp only [ho, resolve, invoke, builtin, Sem.run_bind, Sem.run_pure, Result.andThen_ok, List.map_toArray, List.map_cons, List.map_nil, hs, hx, hr]
  exact hK _ _ h

theorem cell_new_row (W : World) (cs : Array Value) (t : TypeId) : ∀ j u, cs.toList[j]? = some u → (W.alloc (.cells cs t)).cell? ((⟨W.heap.size, 0, none⟩ : Addr).add j) = some u := by
  intro j u h
  rw [Addr.add_lit, Nat.zero_add, cell_of_row _ _ _ _ _ _ (heap_alloc_new _ _)]
  simpa using h
theorem add_block (a : Addr) (j : Nat) : (a.add j).block = a.block := by
  unfold Addr.add; split <;> rfl
theorem cell_old_row {W : World} {a : Addr} {l : List Value} (h : ∀ j u, l[j]? = some u → W.cell? (a.add j) = some u) (o : Obj) : ∀ j u, l[j]? = some u → (W.alloc o).cell? (a.add j) = some u := by
  intro j u hj
  have h1 := h j u hj
  rw [World.cell?_alloc_old _ _ _ (Nat.ne_of_lt (block_lt_of_cell h1))]
  exact h1
theorem one4 (a b c d : Int) : ∀ u ∈ [Value.int .u8 a, Value.int .u8 b, Value.int .u8 c, Value.int .u8 d], u.oneCell' = true := by
  intro u hu
  simp only [List.mem_cons, List.not_mem_nil, or_false] at hu
  rcases hu with rfl | rfl | rfl | rfl <;> rfl
theorem ownsRow_mono {w : World} {b b' : Nat} {e : TypeId} {size : Nat} {v : Value} {n : Nat} {xs : List Value} (h : w.ownsRow b e size v n xs) (hb : b' ≤ b) : w.ownsRow b' e size v n xs := by
  obtain ⟨h1, h2⟩ := h
  refine ⟨h1, ?_⟩
  rcases h2 with h2 | ⟨g, cap, cur, a1, a2, a3⟩
  · exact .inl h2
  · exact .inr ⟨g, cap, cur, a1, Nat.le_trans hb a2, a3⟩
theorem ownsRow_pos {w : World} {b : Nat} {e : TypeId} {size : Nat} {v : Value} {n : Nat} {xs : List Value} (h : w.ownsRow b e size v n xs) (hn : 0 < n) : ∃ g cap, v = .slice (some ⟨g, 0, none⟩) n cap ∧ b ≤ g ∧ g < w.heap.size := by
  obtain ⟨h1, h2⟩ := h
  rcases h2 with ⟨_, h2⟩ | ⟨g, cap, cur, a1, a2, a3, _⟩
  · omega
  · exact ⟨g, cap, a1, a2, (Array.getElem?_eq_some_iff.1 a3).1⟩
theorem setCell_heap_of {a b : World} (p : Addr) (u : Value) (k : Nat) (h : a.heap[k]? = b.heap[k]?) : (a.setCell p u).heap[k]? = (b.setCell p u).heap[k]? := by
  simp only [World.setCell, Array.getElem?_modify, h]
theorem below_setCell {B : Nat} {a w : World} (h : Below B a w) (p : Addr) (u : Value) : Below B (a.setCell p u) (w.setCell p u) :=
  ⟨h.os, h.tape, h.output, by simpa [World.setCell] using h.size, fun k hk => setCell_heap_of p u k (h.block k hk)⟩
theorem below_setRow {B : Nat} {a w : World} (h : Below B a w) {g : Nat} (hg : B ≤ g) (cs : Array Value) : Below B a (w.setRow g cs) :=
  ⟨h.os, h.tape, h.output, by simpa using h.size, fun k hk => (setRow_other w g k cs (by omega)).trans (h.block k hk)⟩
/-- 'copy(b[:], s)', s a string, b a whole array variable. -/
theorem run_firstCells_string_n {P : Program} (w : World) (size n : Nat) (s : ByteArray) : (Builtin.firstCells size n (.string s)).run P w = .ok ((Lib.strCells s).take n).toArray w := by
  simp [Builtin.firstCells, Lib.strCells]
  apply Array.ext'
  simp
theorem wpList_copy_string {P : Program} {w : World} {ops : Array Oper} {rest : List Oper} {o : Oper} {a : Act} {Q : Exit → Act → World → Prop} (hgd : o.guard = none) (d s : Operand) (dT sT : TypeId)
    (ho : o.op = .call { callee := .builtin .copy, args := #[d, s], argTypes := #[dT, sT] }) (elem : TypeId) (hu : P.underlying dT = some (.slice elem)) (hsz : (P.info? elem).map (·.size) = some 1)
    (g dLen dCap : Nat) (hd : a.eval d = .slice (some ⟨g, 0, none⟩) dLen dCap) (src : ByteArray) (hs : a.eval s = .string src)
    (cur : Array Value) (t : TypeId) (hg : w.heap[g]? = some (.cells cur t (0, 0))) (hc : cur.size = dLen)
    (h : wpList P ops Q rest (a.put o.dst (goInt (Nat.min src.size dLen))) (w.setRow g ((Lib.strCells src).take dLen ++ cur.toList.drop (Nat.min src.size dLen)).toArray)) : wpList P ops Q (o :: rest) a w := by
  refine wpList_plain hgd fun K hK => ?_
  obtain ⟨i, hi, hz⟩ := Option.map_eq_some_iff.1 hsz
  have hm3 : Nat.min src.size dLen = min src.size dLen := rfl
  have hm1 : Nat.min src.size dLen ≤ src.size := Nat.min_le_left _ _
  have hm2 : Nat.min src.size dLen ≤ dLen := Nat.min_le_right _ _
  have hmm : Nat.min src.size dLen = src.size ∨ Nat.min src.size dLen = dLen := by rw [hm3]; omega
  generalize hm : Nat.min src.size dLen = m at *
  have hlen : ((Lib.strCells src).take m).length = m := by
    rw [List.length_take, Lib.strCells_length]; omega
  have htk : (Lib.strCells src).take m = (Lib.strCells src).take dLen := by
    rcases hmm with h | h
    · rw [List.take_of_length_le (by rw [Lib.strCells_length]; omega), List.take_of_length_le (by rw [Lib.strCells_length]; omega)]
    · rw [h]
  have hf := run_firstCells_string_n (P := P) w 1 m src
  have h1 : ∀ v ∈ (Lib.strCells src).take m, v.oneCell' = true := fun v hv => Lib.strCells_oneCell src v (List.mem_of_mem_take hv)
  have hst := run_storeCells_at P g 0 t ((Lib.strCells src).take m) 0 cur w hg (by rw [hlen, hc]; omega) h1
  have hr : (Builtin.copy_ #[dT, sT] o.type #[.slice (some ⟨g, 0, none⟩) dLen dCap, .string src]).run P w = .ok (goInt m) (w.setRow g ((Lib.strCells src).take dLen ++ cur.toList.drop m).toArray) := by
    simp only [Nat.add_zero, List.take_zero, List.nil_append, hlen, Nat.zero_add] at hst
    rw [← htk]
    simp [Builtin.copy_, run_underlying hu, Builtin.lenOf, sizeOf, typeInfo, hi, hz, hm3.symm, hf, hst]
  unfold Oper.wp execOp
  simp only [ho, resolve, invoke, builtin, Sem.run_bind, Sem.run_pure, Result.andThen_ok, List.map_toArray, List.map_cons, List.map_nil, hd, hs, hr]
  exact hK _ _ h
theorem heap_alloc_at (w : World) (o : Obj) (i : Nat) (h : i = w.heap.size) : (w.alloc o).heap[i]? = some o := by
  rw [h]; exact heap_alloc_new w o
/-- The frame of a call that makes memory alone, carried on. -/
theorem bnext {w a b : World} (h : Below w.heap.size w a) (k : Below a.heap.size a b) : Below w.heap.size w b := h.trans (k.mono h.size)
theorem balloc {w a : World} (h : Below w.heap.size w a) (o : Obj) : Below w.heap.size w (a.alloc o) := h.alloc h.size o
theorem ownsRow_slice {w : World} {b : Nat} {e : TypeId} {v : Value} {n : Nat} {xs : List Value} (h : w.ownsRow b e 1 v n xs) :
    ∃ q c, v = .slice q n c ∧ ((q = none ∧ c = 0 ∧ n = 0) ∨ ∃ g, q = some ⟨g, 0, none⟩ ∧ b ≤ g ∧ g < w.heap.size ∧ n ≤ c) := by
  obtain ⟨h1, h2⟩ := h
  rcases h2 with ⟨rfl, rfl⟩ | ⟨g, cap, cur, a1, a2, a3, a4, _⟩
  · exact ⟨none, 0, rfl, .inl ⟨rfl, rfl, rfl⟩⟩
  · exact ⟨_, _, a1, .inr ⟨g, rfl, a2, (Array.getElem?_eq_some_iff.1 a3).1, a4⟩⟩
theorem ownsRow_same {w w' : World} {b : Nat} {e size : Nat} {g : Nat} {n c : Nat} {xs : List Value} (h : w.ownsRow b e size (.slice (some ⟨g, 0, none⟩) n c) n xs) (hg : w'.heap[g]? = w.heap[g]?) :
    w'.ownsRow b e size (.slice (some ⟨g, 0, none⟩) n c) n xs := by
  obtain ⟨h1, h2⟩ := h
  refine ⟨h1, ?_⟩
  rcases h2 with h2 | ⟨g', cap, cur, a1, a2, a3, a4⟩
  · exact .inl h2
  · cases a1
    exact .inr ⟨g, c, cur, rfl, a2, hg.trans a3, a4⟩
theorem own_cell {w : World} {b e g n c : Nat} {L : List UInt8} (h : w.ownsRow b e 1 (.slice (some ⟨g, 0, none⟩) n c) n (cells L).toList) (hL : L.length = n) (i : Nat) (hi : i < n) :
    w.cell? ⟨g, i, none⟩ = some (.int .u8 (L.getD i 0).toNat) := by
  rw [h.cellAt i (by omega), cells_get _ _ (by omega), List.getD_eq_getElem?_getD, List.getElem?_eq_getElem (by omega)]
  rfl
theorem row_cell {w : World} {b t : Nat} {fr : Nat × Nat} {L : List UInt8} (h : w.heap[b]? = some (.cells (cells L) t fr)) (i : Nat) (hi : i < L.length) : w.cell? ⟨b, i, none⟩ = some (.int .u8 (L.getD i 0).toNat) := by
  have := cells_get L i hi
  rw [Array.getElem?_toList] at this
  rw [cell_of_row _ _ _ _ _ _ h, this, List.getD_eq_getElem?_getD, List.getElem?_eq_getElem hi]
  rfl
theorem cells_set (L : List UInt8) (i : Nat) (b : UInt8) : (cells L).toList.set i (.int .u8 b.toNat) = (cells (L.set i b)).toList := by
  simp [cells]
theorem ret_int {k : IntKind} {a b : Int} (h : a = b) : Ending.returned (.int k a) = .returned (.int k b) := by rw [h]
/-- Two results, the first a whole array in a cell. -/
theorem results_cell_row2 {P : Program} {fn : Func} {p u : Tmp} {ty : TypeId} (h : fn.results = #[.cell p ty, .tmp u]) (tmps : Array Value) (w : World) (g : Nat) (t : TypeId) (cs : Array Value) (fr : Nat × Nat) (d : TypeDesc)
    (hp : tmps.getD p undef = .pointer (some ⟨g, 0, none⟩)) (hg : w.heap[g]? = some (.cells cs t fr))
    (hu : P.underlying ty = some d) (hd : (match d with | .struct _ | .array _ _ => true | _ => false) = true) (hi : (P.info? ty).map (·.size) = some cs.size) :
    (results fn tmps).run P w = .ok (.tuple #[.agg cs, tmps.getD u undef]) w := by
  have hp' : tmps[p]?.getD undef = .pointer (some ⟨g, 0, none⟩) := by simpa using hp
  simp [results, h, hp', asAddr, run_loadVar_row w g t ty cs fr d hg hu hd hi]
end Go.Proofs.YtccidllcjaaeeabGreatDoor
/- Plain law, no program: the words in which both texts of Derive are told: what a byte does to the number, the last three turns, the eight bytes. No condition. -/
namespace Go.Proofs.YtccidllcjaaeeabGreatDoor
set_option maxRecDepth 100000
open Go.RowKit

def be4 (n : Int) : List UInt8 := [UInt8.ofNat (n / 16777216 % 256).toNat, UInt8.ofNat (n / 65536 % 256).toNat, UInt8.ofNat (n / 256 % 256).toNat, UInt8.ofNat (n % 256).toNat]
theorem byte_of (x : Int) : Value.int .u8 (x % 256) = Value.int .u8 ((UInt8.ofNat (x % 256).toNat).toNat : Int) := by
  congr 1
  rw [UInt8.toNat_ofNat']
  omega
theorem be4_cells (n : Int) : [Value.int .u8 (n / 16777216 % 256), Value.int .u8 (n / 65536 % 256), Value.int .u8 (n / 256 % 256), Value.int .u8 (n % 256)] = (cells (be4 n)).toList := by
  simp only [byte_of, cells, be4, List.map_cons, List.map_nil]

def fstep (h : Int) (b : UInt8) : Int := IntKind.u64.wrap (bits BinOp.xor IntKind.u64 h (IntKind.u64.wrap ↑b.toNat) * 1099511628211)
def fnv (h : Int) (l : List UInt8) : Int := l.foldl fstep h
theorem fnv_append (h : Int) (l m : List UInt8) : fnv h (l ++ m) = fnv (fnv h l) m := by simp [fnv]
theorem fnv_snoc (h : Int) (l : List UInt8) (b : UInt8) : fnv h (l ++ [b]) = fstep (fnv h l) b := by simp [fnv]
theorem fnv_take (h : Int) (l : List UInt8) (j : Nat) (hj : j < l.length) : fnv h (l.take (j + 1)) = fstep (fnv h (l.take j)) (l.getD j 0) := by
  rw [List.take_succ_eq_append_getElem hj, fnv_snoc]
  simp [List.getD, hj]
/-- The last three turns. -/
def fturn (h : Int) : Int := IntKind.u64.wrap (bits BinOp.xor IntKind.u64 h (h / 4294967296) * 1099511628211)
def turns : Nat → Int → Int
  | 0, h => h
  | n + 1, h => fturn (turns n h)
def fin3 (h : Int) : Int := turns 3 h
def outb (h : Int) : List UInt8 := be4 (h / 4294967296) ++ be4 h
/-- The eight bytes while they are laid one by one. -/
def outp (h : Int) (j : Nat) : List UInt8 := (outb h).take j ++ List.replicate (8 - j) 0
theorem outb_length (h : Int) : (outb h).length = 8 := rfl
theorem outp_length (h : Int) (j : Nat) (hj : j ≤ 8) : (outp h j).length = 8 := by simp [outp, outb_length]; omega
theorem outp_all (h : Int) : outp h 8 = outb h := rfl
theorem ediv2 (h : Int) (a b : Int) (ha : 0 ≤ a) : h / a / b = h / (a * b) := Int.ediv_ediv_of_nonneg ha
theorem outp_step (h : Int) (m : Nat) (hm : m < 8) : (cells (outp h m)).setIfInBounds m (.int .u8 (h / 2 ^ (8 * (7 - m)) % 256)) = cells (outp h (m + 1)) := by
  rw [byte_of]
  obtain rfl | rfl | rfl | rfl | rfl | rfl | rfl | rfl : m = 0 ∨ m = 1 ∨ m = 2 ∨ m = 3 ∨ m = 4 ∨ m = 5 ∨ m = 6 ∨ m = 7 := by omega
  all_goals simp [outp, outb, be4, cells, ediv2]
/-- What Derive answers. -/
def kd (s label : List UInt8) (n : Int) : List UInt8 := outb (fin3 (fnv 14695981039346656037 (s ++ label ++ be4 n)))
theorem kd_length (s label : List UInt8) (n : Int) : (kd s label n).length = 8 := rfl
theorem bytes_getD (s : ByteArray) (j : Nat) (h : j < s.size) : s.data.toList.getD j 0 = s[j] := by
  have h' : j < s.data.toList.length := by simpa using h
  rw [List.getD_eq_getElem?_getD, List.getElem?_eq_getElem h']
  rfl
/-- The number's four bytes as the reference takes them: the highest eight of 32 bits, which are then shifted left. -/
def num32 (n : Int) : Nat → Int
  | 0 => n % 4294967296
  | j + 1 => IntKind.u32.wrap (num32 n j * 256)
theorem u32_wrap (x : Int) : IntKind.u32.wrap x = x % 4294967296 := by
  simp [IntKind.wrap, show IntKind.u32.signed = false from rfl, show IntKind.u32.bits = 32 from rfl]
theorem u64_byte (b : UInt8) : IntKind.u64.wrap ↑b.toNat = ↑b.toNat := by
  have := b.toNat_lt
  simp [IntKind.wrap, show IntKind.u64.signed = false from rfl, show IntKind.u64.bits = 64 from rfl]
  omega
theorem num32_byte (n : Int) (j : Nat) (hj : j < 4) : num32 n j / 16777216 = (((be4 n).getD j 0).toNat : Int) ∧ 0 ≤ num32 n j ∧ num32 n j < 4294967296 := by
  obtain rfl | rfl | rfl | rfl : j = 0 ∨ j = 1 ∨ j = 2 ∨ j = 3 := by omega
  all_goals
    simp only [num32, u32_wrap, be4, List.getD_cons_zero, List.getD_cons_succ, UInt8.toNat_ofNat']
    simp
    omega
theorem kd_of (k l : List UInt8) (n h0 h1 h2 h3 : Int) (e0 : fnv 14695981039346656037 k = h0) (e1 : fnv h0 l = h1) (e2 : fnv h1 (be4 n) = h2) (e3 : turns 3 h2 = h3) : outb h3 = kd k l n := by
  rw [kd, fnv_append, fnv_append, e0, e1, e2, fin3, e3]
/-- A secret out of a text: its first eight bytes, noughts behind. -/
def sec (s : ByteArray) : List UInt8 := s.data.toList.take 8 ++ List.replicate (8 - s.size) 0
theorem sec_length (s : ByteArray) : (sec s).length = 8 := by simp [sec]; omega
theorem sec_cells (s : ByteArray) : ((Lib.strCells s).take 8 ++ (cells [0, 0, 0, 0, 0, 0, 0, 0]).toList.drop (Nat.min s.size 8)).toArray = cells (sec s) := by
  rw [strCells_eq, cells_toList, cells_toList, sec, cells, List.map_append, List.map_take, ← List.map_drop]
  congr 2
  have h : List.replicate (8 - s.size) (0 : UInt8) = List.drop (Nat.min s.size 8) [0, 0, 0, 0, 0, 0, 0, 0] := by
    have h3 : Nat.min s.size 8 = min s.size 8 := rfl
    rw [h3]
    rcases Nat.lt_or_ge s.size 8 with h | h
    · rw [Nat.min_eq_left (by omega)]
      have := s.size
      obtain h | h | h | h | h | h | h | h : s.size = 0 ∨ s.size = 1 ∨ s.size = 2 ∨ s.size = 3 ∨ s.size = 4 ∨ s.size = 5 ∨ s.size = 6 ∨ s.size = 7 := by omega
      all_goals rw [h]; rfl
    · rw [Nat.min_eq_right (by omega), show 8 - s.size = 0 from by omega]; rfl
  rw [h]
end Go.Proofs.YtccidllcjaaeeabGreatDoor
/- The walk of kdf's Derive: it returns the eight bytes that the plain law tells, and adds one to the counter. Conditions: the secret has eight bytes, the label at most 65536, the counter stands in a cell that may be written, from 0 to 2^62. -/
namespace Go.Proofs.YtccidllcjaaeeabGreatDoor
set_option maxRecDepth 100000
open Go.RowKit
theorem int_add (v : Int) (w : World) (hb : 0 ≤ v) (hb' : v ≤ 4611686018427387904) : (Op.intArith .add .i64 v 1).run Tryz.prog w = .ok (.int .i64 (v+1)) w := by
  have e : IntKind.i64.wrap (v + 1) = v + 1 := IntWalk.i64_in _ (by omega)
  simp [go_sem, e]
set_option maxRecDepth 100000 in
set_option maxHeartbeats 400000 in
theorem add_any (D o : Nat) (v : Int) (w : World) (hx : w.cell? ⟨D, o, none⟩ = some (.int .i64 v)) (hf : w.frozen? ⟨D, o, none⟩ = false) (hb : 0 ≤ v) (hb' : v ≤ 4611686018427387904) :
    Calls Tryz.prog 119 #[.pointer (some ⟨D, o, none⟩), .int .i64 1] w fun e w' => e = .returned (.int .i64 (v+1)) ∧ w' = w.setCell ⟨D, o, none⟩ (.int .i64 (v+1)) := by
  have h := run_call_add (P := Tryz.prog) (f := 129) Tryz.func129 (by kernel_rfl) (by kernel_rfl) (by kernel_rfl) .i64 (by kernel_rfl) hx hf (int_add v w hb hb')
  go_enter Tryz.func119, Tryz.ntmps119
  go_wp2
  go_ret
  exact ⟨rfl, rfl⟩

theorem infoU8 : (Tryz.prog.info? 5).map (fun i => (i.zero, i.size, i.bytes)) = some (some (.int .u8 0), 1, 1) := by kernel_rfl
theorem infoSecret : (Tryz.prog.info? 36).map (·.size) = some 8 := by kernel_rfl
theorem cells_one (k : List UInt8) : (cells k).all (·.oneCell') = true := by
  refine Array.all_eq_true_iff_forall_mem.2 fun v hv => ?_
  simp only [cells, List.mem_toArray, List.mem_map] at hv
  obtain ⟨b, _, rfl⟩ := hv
  rfl
set_option maxRecDepth 100000 in
set_option maxHeartbeats 1000000 in
theorem derive_any (D o : Nat) (v : Int) (w : World) (k : List UInt8) (label : ByteArray) (n : Int) (hk0 : k.length = 8) (hl : label.size ≤ 65536) (hx : w.cell? ⟨D, o, none⟩ = some (.int .i64 v)) (hf : w.frozen? ⟨D, o, none⟩ = false) (hb : 0 ≤ v) (hb' : v ≤ 4611686018427387904) :
    Calls Tryz.prog 88 #[.pointer (some ⟨D, o, none⟩), .agg (cells k), .string label, .int .i64 n] w fun e w' => e = .returned (.agg (cells (kd k label.data.toList n))) ∧ Below w.heap.size (w.setCell ⟨D, o, none⟩ (.int .i64 (v+1))) w' := by
  have hk : (cells k).size = 8 := by rw [cells_size]; exact hk0
  have hD : D < w.heap.size := block_lt_of_cell hx
  obtain ⟨i0, hi, hz0, hz1, hz2⟩ := info_parts infoU8
  go_enter Tryz.func88, Tryz.ntmps88
  go_wp2_with fail
  refine (add_any D o v _ (by go_simp) (by go_simp) hb hb').mono ?_
  rintro e w' ⟨rfl, rfl⟩
  generalize hW : World.setCell (World.alloc _ _) _ _ = W
  have hS : ∀ j u, (cells k).toList[j]? = some u → W.cell? ((⟨w.heap.size, 0, none⟩ : Addr).add j) = some u := by
    intro j u h
    rw [Addr.add_lit, Nat.zero_add, ← hW, World.cell?_setCell_other _ _ _ _ (by simp <;> omega), World.cell?_alloc_past _ _ _ (by simp), cell_of_row _ _ _ _ _ _ (heap_alloc_new _ _)]
    simpa using h
  have hDW : D < W.heap.size := by rw [← hW]; simp; omega
  have hWs : W.heap.size = w.heap.size + 2 := by rw [← hW]; simp
  have hWo : W.heap[w.heap.size + 1]? = some (.cells (cells [0, 0, 0, 0, 0, 0, 0, 0]) 36 (0, 0)) := by
    rw [← hW, heap_setCell_other _ _ _ _ (by simp; omega)]
    exact heap_alloc2_new w _ _
  have hWb : Below w.heap.size (w.setCell ⟨D, o, none⟩ (.int .i64 (v+1))) W := by
    rw [← hW]
    exact below_setCell (((Below.refl _ _).alloc (Nat.le_refl _) _).alloc (by simp) _) _ _
  have hH := Lib.hid hW
  clear hW
  have hb4 := Lib.hid (be4_cells n)
  have HWs := Lib.hid hWs
  clear hWs
  have HWo := Lib.hid hWo
  clear hWo
  go_upto_region 3 with (fail)
  go_cut [10] (fun s10 wx => wx.ownsRow (w.heap.size + 2) 5 1 s10 (8 + label.size + 4) (cells (k ++ label.data.toList ++ be4 n)).toList ∧ Below (w.heap.size + 2) W wx)
  case first =>
    by_cases hl0 : label.size = 0
    · go_wp2_with (first | (at_builtin; refine wpList_append_empty_string _ rfl _ _ 73 9 rfl 5 i0 Tryz.underlying73 Tryz.underlying9 hi hz1 ⟨w.heap.size, 0, none⟩ 8 8 rfl label rfl hl0 (by decide) ?_) | (at_builtin; refine wpList_append_grows _ rfl _ _ 73 rfl 5 i0 (.int .u8 0) 1 1 Tryz.underlying73 hi hz0 hz1 hz2 rfl (by decide) (some ⟨w.heap.size, 0, none⟩) 8 8 (cells k).toList rfl (by simp) (by simpa using hk) (fun b hb => by cases hb; exact cell_old_row hS _) _ 4 4 [Value.int .u8 (n / 16777216 % 256), Value.int .u8 (n / 65536 % 256), Value.int .u8 (n / 256 % 256), Value.int .u8 (n % 256)] rfl rfl (cell_new_row W #[_, _, _, _] 5) (one4 _ _ _ _) (by omega) (by unfold maxLen; omega) (by omega) ?_; intro v' W1 hown hg))
      go_meet
      refine ⟨?_, ?_⟩
      · rw [hb4.out, cells_append] at hown
        have he : label.data.toList = [] := List.eq_nil_of_length_eq_zero (by simpa using hl0)
        rw [hl0, he, List.append_nil]
        exact ownsRow_mono hown (by simp [HWs.out])
      · exact ((Below.refl _ _).alloc (Nat.le_of_eq HWs.out.symm) _).grown hg (by simp [HWs.out]) (by simp)
    · go_wp2_with (first | (at_builtin; refine wpList_append_grow_string _ rfl _ _ 73 9 rfl 5 i0 Tryz.underlying73 Tryz.underlying9 hi hz0 hz1 hz2 ⟨w.heap.size, 0, none⟩ 8 8 (cells k).toList rfl (by simpa using hk) hS label rfl (by omega) (by omega) ?_; intro v' W1 hown hg) | (at_builtin; go_must (refine wpList_append_own _ rfl _ _ 73 rfl W.heap.size 5 i0 (.int .u8 0) 1 1 Tryz.underlying73 hi hz0 hz1 hz2 rfl (by decide) _ _ _ rfl (hown.alloc _) _ 4 4 [Value.int .u8 (n / 16777216 % 256), Value.int .u8 (n / 65536 % 256), Value.int .u8 (n / 256 % 256), Value.int .u8 (n % 256)] rfl rfl (cell_new_row _ #[_, _, _, _] 5) (one4 _ _ _ _) (by unfold maxLen; omega) (by omega) (Nat.le_trans hg.size (by simp)) ?_); intro v2 W2 hown2 hg2 _))
      go_meet
      refine ⟨?_, ?_⟩
      · rw [hb4.out, strCells_eq, cells_append, cells_append] at hown2
        exact ownsRow_mono hown2 (by simp [HWs.out])
      · have h1 : Below (w.heap.size + 2) W W1 := (Below.refl _ _).grown hg (by simp [HWs.out]) (by simp)
        exact (h1.alloc (Nat.le_trans (Nat.le_of_eq HWs.out.symm) h1.size) _).grown hg2 (Nat.le_trans (Nat.le_of_eq HWs.out.symm) (Nat.le_trans h1.size (by simp))) (fun b hb => by have := hown.lt b hb; rw [HWs.out] at this; exact this.1)
  case rest =>
    obtain ⟨hown, hbel⟩ := hcut
    obtain ⟨g, cap, rfl, hg1, hg2⟩ := ownsRow_pos hown (by omega)
    have hlen : (k ++ label.data.toList ++ be4 n).length = 8 + label.size + 4 := by
      have := hk; rw [cells_size] at this; simp [be4, this]; omega
    have hcell : ∀ j, j < 8 + label.size + 4 → wc.cell? ⟨g, j, none⟩ = some (.int .u8 ((k ++ label.data.toList ++ be4 n).getD j 0).toNat) := by
      intro j hj
      rw [hown.cellAt j (by omega), cells_get _ _ (by omega)]
      rw [List.getD_eq_getElem?_getD, List.getElem?_eq_getElem (by omega)]; rfl
    have hO : wc.heap[w.heap.size + 1]? = some (.cells (cells [0, 0, 0, 0, 0, 0, 0, 0]) 36 (0, 0)) := by rw [hbel.block _ (by omega)]; exact HWo.out
    have hbd : Below w.heap.size (w.setCell ⟨D, o, none⟩ (.int .i64 (v+1))) wc := hWb.trans (hbel.mono (by omega))
    have hgo : g ≠ w.heap.size + 1 := by omega
    have hkd : kd k label.data.toList n = outb (fin3 (fnv 14695981039346656037 (k ++ label.data.toList ++ be4 n))) := rfl
    generalize hL : k ++ label.data.toList ++ be4 n = L at *
    have HL := Lib.hid hL
    have Hlen := Lib.hid hlen
    have Hcell := Lib.hid hcell
    have Hkd := Lib.hid hkd
    have HO := Lib.hid hO
    clear hL hlen hcell hS hk hkd hO hk0
    generalize hN : 8 + label.size + 4 = N at *
    have hN' : N ≤ 70000 := by omega
    have HN := Lib.hid hN
    clear hN
    go_wp2
    go_loop [9, 12, 36] (fun h b i => ∃ j : Nat, j ≤ N ∧ i = .int .i64 j ∧ h = .int .u64 (fnv 14695981039346656037 (L.take j))) (fun _ _ i => N - (intOf i).toNat)
    case atStart => exact ⟨0, Nat.zero_le _, rfl, rfl⟩
    case round =>
      obtain ⟨j, hj, rfl, rfl⟩ := hrel
      by_cases hlt : j < N
      · have hc := Hcell.out j hlt
        have Hs := Lib.hid (fnv_take 14695981039346656037 L j (by rw [Hlen.out]; exact hlt))
        go_wp2
        go_round
        case rel => exact ⟨j + 1, by omega, by go_num, by rw [Hs.out]; rfl⟩
        case measure => simp [intOf]; omega
      · have hjN : j = N := by omega
        have hT := List.take_of_length_le (l := L) (i := j) (by rw [Hlen.out]; omega)
        clear hjN
        go_wp2
        clear hT
        generalize hh : fnv 14695981039346656037 L = h0
        have Hh := Lib.hid hh
        clear hh Hcell
        go_loop [9, 46] (fun h i => ∃ j : Nat, j ≤ 3 ∧ i = .int .i64 j ∧ h = .int .u64 (turns j h0)) (fun _ i => 3 - (intOf i).toNat)
        case atStart => exact ⟨0, by omega, rfl, rfl⟩
        case round =>
          obtain ⟨m, hm, rfl, rfl⟩ := hrel
          by_cases hlt : m < 3
          · go_wp2
            go_round
            case rel => exact ⟨m + 1, by omega, by go_num, rfl⟩
            case measure => simp [intOf]; omega
          · obtain rfl : m = 3 := by omega
            clear hlt
            go_wp2
            generalize ht : turns 3 h0 = h1
            have Ht := Lib.hid ht
            clear ht
            go_loopw [13, 55] (fun _ i wr => ∃ j : Nat, j ≤ 8 ∧ i = .int .i64 j ∧ wr.heap[w.heap.size + 1]? = some (.cells (cells (outp h1 j)) 36 (0, 0)) ∧ Below w.heap.size (w.setCell ⟨D, o, none⟩ (.int .i64 (v+1))) wr) (fun _ i _ => 8 - (intOf i).toNat)
            case atStart => exact ⟨0, by omega, rfl, HO.out, hbd⟩
            case round =>
              obtain ⟨m, hm, rfl, hro, hrb⟩ := hrel
              by_cases hlt : m < 8
              · have hoc : wr.cell? ⟨w.heap.size + 1, m, none⟩ = some (.int .u8 ((outp h1 m).getD m 0).toNat) := by
                  rw [cell_of_row _ _ _ _ _ _ hro]
                  have := cells_get (outp h1 m) m (by rw [outp_length _ _ hm]; exact hlt)
                  simpa [List.getD, outp_length _ _ hm, hlt] using this
                have hof : wr.frozen? ⟨w.heap.size + 1, m, none⟩ = false := frozen_of_row _ _ _ _ _ hro
                have hro := Lib.hid hro
                go_wp2
                go_roundw
                case rel => exact ⟨m + 1, by omega, by go_num, by rw [heap_setCell_same _ _ _ _ _ _ hro.out, outp_step h1 m hlt], hrb.setCell (by simp) _⟩
                case measure => simp [intOf]; omega
              · obtain rfl : m = 8 := by omega
                clear hlt
                rw [outp_all] at hro
                have hro' := Lib.hid hro
                have hroi := run_loadVar_row (P := Tryz.prog) wr (w.heap.size + 1) _ 36 _ _ _ hro Tryz.underlying36 rfl (by rw [infoSecret, cells_size, outb_length])
                clear hro
                go_wp2_with (first | (refine wpList_load_row rfl 36 _ rfl (w.heap.size + 1) rfl _ _ _ _ hro'.out Tryz.underlying36 rfl (by rw [infoSecret, cells_size, outb_length]) ?_) | (refine wpList_store_row rfl 36 _ _ rfl (w.heap.size + 1) _ rfl rfl _ _ hro'.out (by rw [infoSecret, cells_size, outb_length]) rfl (cells_one _) ?_))
                refine bodyPost_ret (results_cell_row rfl _ _ (w.heap.size + 1) _ _ _ _ rfl (setRow_heap _ _ _ _ _ _ hro'.out) Tryz.underlying36 rfl (by rw [infoSecret, cells_size, outb_length])) rfl ⟨?_, below_setRow hrb (by simp) _⟩
                rw [Hkd.out, Hh.out, fin3, Ht.out]
end Go.Proofs.YtccidllcjaaeeabGreatDoor
/- The walk of the reference's Derive: it returns the eight bytes that the plain law tells; nothing that was there changes. Conditions: the secret has eight bytes, the label at most 65536. -/
namespace Go.Proofs.YtccidllcjaaeeabGreatDoor
set_option maxRecDepth 100000
open Go.RowKit
set_option maxRecDepth 100000 in
set_option maxHeartbeats 1000000 in
theorem refDerive_any (w : World) (k : List UInt8) (label : ByteArray) (n : Int) (hk0 : k.length = 8) (hl : label.size ≤ 65536) :
    Calls Tryz.prog 55 #[.agg (cells k), .string label, .int .i64 n] w fun e w' => e = .returned (.agg (cells (kd k label.data.toList n))) ∧ Below w.heap.size w w' := by
  have hcell : ∀ j, j < 8 → (cells k)[j]? = some (.int .u8 (k.getD j 0).toNat) := by
    intro j hj
    have := cells_get k j (by omega)
    rw [Array.getElem?_toList] at this
    rw [this, List.getD_eq_getElem?_getD, List.getElem?_eq_getElem (by omega)]; rfl
  have Hcell := Lib.hid hcell
  have Hk := Lib.hid hk0
  clear hcell hk0
  go_enter Tryz.func55, Tryz.ntmps55
  go_wp2
  generalize hW : World.alloc (World.alloc _ _) _ = W
  have hS : W.heap[w.heap.size]? = some (.cells (cells k) 36 (0, 0)) := by rw [← hW]; exact heap_alloc2_old w _ _
  have hO : W.heap[w.heap.size + 1]? = some (.cells (cells [0, 0, 0, 0, 0, 0, 0, 0]) 36 (0, 0)) := by rw [← hW]; exact heap_alloc2_new w _ _
  have hWs : W.heap.size = w.heap.size + 2 := by rw [← hW]; simp
  have hWb : Below w.heap.size w W := by rw [← hW]; exact ((Below.refl _ _).alloc (Nat.le_refl _) _).alloc (by simp) _
  have HS := Lib.hid hS
  have HO := Lib.hid hO
  have HWs := Lib.hid hWs
  clear hS hO hWs hW
  go_loop [7, 8] (fun h i => ∃ j : Nat, j ≤ 8 ∧ i = .int .i64 j ∧ h = .int .u64 (fnv 14695981039346656037 (k.take j))) (fun _ i => 8 - (intOf i).toNat)
  case atStart => exact ⟨0, Nat.zero_le _, rfl, rfl⟩
  case round =>
    obtain ⟨j, hj, rfl, rfl⟩ := hrel
    by_cases hlt : j < 8
    · have hc : W.cell? ⟨w.heap.size, j, none⟩ = some (.int .u8 (k.getD j 0).toNat) := by rw [cell_of_row _ _ _ _ _ _ HS.out]; exact Hcell.out j hlt
      have Hs := Lib.hid (fnv_take 14695981039346656037 k j (by rw [Hk.out]; exact hlt))
      go_wp2
      go_round
      case rel => exact ⟨j + 1, by omega, by go_num, by rw [Hs.out]; rfl⟩
      case measure => simp [intOf]; omega
    · obtain rfl : j = 8 := by omega
      have hT := List.take_of_length_le (l := k) (i := 8) (by rw [Hk.out]; omega)
      clear hlt
      go_wp2
      clear hT
      generalize hh : fnv 14695981039346656037 k = h0
      have Hh := Lib.hid hh
      clear hh
      go_loop [7, 9] (fun h i => ∃ j : Nat, j ≤ label.size ∧ i = .int .i64 j ∧ h = .int .u64 (fnv h0 (label.data.toList.take j))) (fun _ i => label.size - (intOf i).toNat)
      case atStart => exact ⟨0, Nat.zero_le _, rfl, rfl⟩
      case round =>
        obtain ⟨j, hj, rfl, rfl⟩ := hrel
        by_cases hlt : j < label.size
        · have Hs := Lib.hid (fnv_take h0 label.data.toList j (by simpa using hlt))
          go_wp2
          go_round
          case rel => exact ⟨j + 1, by omega, by go_num, by rw [Hs.out, bytes_getD _ _ hlt]; rfl⟩
          case measure => simp [intOf]; omega
        · have hT := List.take_of_length_le (l := label.data.toList) (i := j) (by simpa using Nat.le_of_not_lt hlt)
          go_wp2
          clear hT
          generalize hh : fnv h0 label.data.toList = h1
          have Hh1 := Lib.hid hh
          clear hh
          go_loop [7, 10, 11] (fun h x i => ∃ j : Nat, j ≤ 4 ∧ i = .int .i64 j ∧ h = .int .u64 (fnv h1 ((be4 n).take j)) ∧ x = .int .u32 (num32 n j)) (fun _ _ i => 4 - (intOf i).toNat)
          case atStart => exact ⟨0, Nat.zero_le _, rfl, rfl, rfl⟩
          case round =>
            obtain ⟨m, hm, rfl, rfl, rfl⟩ := hrel
            by_cases hlt : m < 4
            · have Hs := Lib.hid (fnv_take h1 (be4 n) m hlt)
              obtain ⟨hb, hb0, hb1⟩ := num32_byte n m hlt
              have Hb := Lib.hid hb
              clear hb
              go_wp2
              go_round
              case rel => exact ⟨m + 1, by omega, by go_num, by rw [Hs.out, fstep, u64_byte, ← Hb.out], by rw [num32, u32_wrap]⟩
              case measure => simp [intOf]; omega
            · obtain rfl : m = 4 := by omega
              have hT := List.take_of_length_le (l := be4 n) (i := 4) (Nat.le_refl _)
              clear hlt
              go_wp2
              clear hT
              generalize hh : fnv h1 (be4 n) = h2
              have Hh2 := Lib.hid hh
              clear hh
              go_loop [7, 12] (fun h i => ∃ j : Nat, j ≤ 3 ∧ i = .int .i64 j ∧ h = .int .u64 (turns j h2)) (fun _ i => 3 - (intOf i).toNat)
              case atStart => exact ⟨0, by omega, rfl, rfl⟩
              case round =>
                obtain ⟨m, hm, rfl, rfl⟩ := hrel
                by_cases hlt : m < 3
                · go_wp2
                  go_round
                  case rel => exact ⟨m + 1, by omega, by go_num, rfl⟩
                  case measure => simp [intOf]; omega
                · obtain rfl : m = 3 := by omega
                  clear hlt
                  go_wp2
                  generalize ht : turns 3 h2 = h3
                  have Ht := Lib.hid ht
                  clear ht
                  go_loopw [14] (fun i wr => ∃ j : Nat, j ≤ 8 ∧ i = .int .i64 j ∧ wr.heap[W.heap.size]? = some (.cells (cells (outp h3 j)) 36 (0, 0)) ∧ Below W.heap.size W wr) (fun i _ => 8 - (intOf i).toNat)
                  case atStart => exact ⟨0, by omega, rfl, heap_alloc_new _ _, (Below.refl _ _).alloc (Nat.le_refl _) _⟩
                  case round =>
                    obtain ⟨m, hm, rfl, hro, hrb⟩ := hrel
                    by_cases hlt : m < 8
                    · have hoc : wr.cell? ⟨W.heap.size, m, none⟩ = some (.int .u8 ((outp h3 m).getD m 0).toNat) := by
                        rw [cell_of_row _ _ _ _ _ _ hro]
                        have := cells_get (outp h3 m) m (by rw [outp_length _ _ hm]; exact hlt)
                        simpa [List.getD, outp_length _ _ hm, hlt] using this
                      have hof : wr.frozen? ⟨W.heap.size, m, none⟩ = false := frozen_of_row _ _ _ _ _ hro
                      have hro := Lib.hid hro
                      go_wp2
                      have he : 56 - 8 * m = 8 * (7 - m) := by omega
                      have He := Lib.hid he
                      clear he
                      go_roundw
                      case rel => exact ⟨m + 1, by omega, by go_num, by rw [heap_setCell_same _ _ _ _ _ _ hro.out, He.out, outp_step h3 m hlt], hrb.setCell (Nat.le_refl _) _⟩
                      case measure => simp [intOf]; omega
                    · obtain rfl : m = 8 := by omega
                      clear hlt
                      rw [outp_all] at hro
                      have hR : wr.heap[w.heap.size + 1]? = some (.cells (cells [0, 0, 0, 0, 0, 0, 0, 0]) 36 (0, 0)) := by rw [hrb.block _ (by rw [HWs.out]; omega)]; exact HO.out
                      have Hro := Lib.hid hro
                      have HR := Lib.hid hR
                      clear hro hR
                      go_wp2_with (first | (refine wpList_load_row rfl 36 _ rfl W.heap.size rfl _ _ _ _ Hro.out Tryz.underlying36 rfl (by rw [infoSecret, cells_size, outb_length]) ?_) | (refine wpList_store_row rfl 36 _ _ rfl (w.heap.size + 1) _ rfl rfl _ _ HR.out (by rw [infoSecret, cells_size, outb_length]) (by rw [cells_size, cells_size, outb_length]; rfl) (cells_one _) ?_))
                      refine bodyPost_ret (results_cell_row rfl _ _ (w.heap.size + 1) _ _ _ _ rfl (setRow_heap _ _ _ _ _ _ HR.out) Tryz.underlying36 rfl (by rw [infoSecret, cells_size, outb_length])) rfl ⟨?_, below_setRow (hWb.trans (hrb.mono (by rw [HWs.out]; omega))) (by simp) _⟩
                      rw [kd_of _ _ _ _ _ _ _ Hh.out Hh1.out Hh2.out Ht.out]
end Go.Proofs.YtccidllcjaaeeabGreatDoor
/- Proved here: epochlaw.Derives returns true for every input (and changes nothing that was there). No condition. (The row's step began as the shell that proof-skeleton.mjs prints.) -/
namespace Go.Proofs.YtccidllcjaaeeabGreatDoor
set_option maxRecDepth 100000
open Go.RowKit
set_option maxRecDepth 100000 in
set_option maxHeartbeats 400000 in
theorem secret_any (w : World) (s : ByteArray) :
    Calls Tryz.prog 6 #[.string s] w fun e w' => e = .returned (.agg (cells (sec s))) ∧ Below w.heap.size w w' := by
  have hi : (Tryz.prog.info? 5).map (·.size) = some 1 := by kernel_rfl
  go_enter Tryz.func6, Tryz.ntmps6
  go_upto_region 2 with (fail)
  generalize hW : World.alloc (World.alloc _ _) _ = W
  have hO : W.heap[w.heap.size]? = some (.cells (cells [0, 0, 0, 0, 0, 0, 0, 0]) 36 (0, 0)) := by rw [← hW]; exact heap_alloc2_old w _ _
  have hS : W.heap[w.heap.size + 1]? = some (.cells (cells [0, 0, 0, 0, 0, 0, 0, 0]) 36 (0, 0)) := by rw [← hW]; exact heap_alloc2_new w _ _
  have hWb : Below w.heap.size w W := by rw [← hW]; exact ((Below.refl _ _).alloc (Nat.le_refl _) _).alloc (by simp) _
  have HS := Lib.hid hS
  have HO := Lib.hid hO
  clear hS hO hW
  have h8 : (cells (sec s)).size = 8 := by rw [cells_size, sec_length]
  have H8 := Lib.hid h8
  clear h8
  have hS2 : (W.setRow (w.heap.size + 1) (cells (sec s))).heap[w.heap.size + 1]? = some (.cells (cells (sec s)) 36 (0, 0)) := setRow_heap _ _ _ _ _ _ HS.out
  have hO2 : (W.setRow (w.heap.size + 1) (cells (sec s))).heap[w.heap.size]? = some (.cells (cells [0, 0, 0, 0, 0, 0, 0, 0]) 36 (0, 0)) := by rw [setRow_other _ _ _ _ (by omega)]; exact HO.out
  have HS2 := Lib.hid hS2
  have HO2 := Lib.hid hO2
  clear hS2 hO2
  go_wp2_with (first | (refine wpList_copy_string rfl _ _ 73 9 rfl 5 Tryz.underlying73 hi (w.heap.size + 1) 8 8 rfl s rfl _ _ HS.out (by rw [cells_size]; rfl) ?_; rw [sec_cells]) | (refine wpList_load_row rfl 36 _ rfl (w.heap.size + 1) rfl _ _ _ _ HS2.out Tryz.underlying36 rfl (by rw [infoSecret, cells_size, sec_length]) ?_) | (refine wpList_store_row rfl 36 _ _ rfl w.heap.size _ rfl rfl _ _ HO2.out (by rw [infoSecret, cells_size, sec_length]) (by rw [cells_size, cells_size, sec_length]; rfl) (cells_one _) ?_))
  refine bodyPost_ret (results_cell_row rfl _ _ w.heap.size _ _ _ _ rfl (setRow_heap _ _ _ _ _ _ HO2.out) Tryz.underlying36 rfl (by rw [infoSecret, cells_size, sec_length])) rfl ⟨rfl, below_setRow (below_setRow hWb (by simp) _) (by simp) _⟩


theorem sizeU8 (w : World) : (sizeOf 5).run Tryz.prog w = .ok 1 w := by kernel_rfl
theorem eqGuardSecret : Tryz.prog.eqGuardType Tryz.prog.depth 36 = false := by kernel_rfl
/-- '==' of two secrets. -/
theorem wpList_eql_secret {w : World} {ops : Array Oper} {rest : List Oper} {o : Oper} {a : Act} {Q : Exit → Act → World → Prop} (hgd : o.guard = none) (x y : Operand)
    (ho : o.op = .binOp .eql 36 x y 36) (k l : List UInt8) (hx : a.eval x = .agg (cells k)) (hy : a.eval y = .agg (cells l)) (hk : k.length = 8) (hl : l.length = 8)
    (h : wpList Tryz.prog ops Q rest (a.put o.dst (.bool (k == l))) w) : wpList Tryz.prog ops Q (o :: rest) a w := by
  refine wpList_plain hgd fun K hK => ?_
  have h1 := run_eqGuard_agg (P := Tryz.prog) (w := w) .eql 36 x y (cells k) (cells l) eqGuardSecret
  have h2 : (binOp .eql 36 (.agg (cells k)) (.agg (cells l))).run Tryz.prog w = .ok (.bool (k == l)) w := run_eql_bytes w 36 5 8 Tryz.underlying36 Tryz.underlying5 sizeU8 k l hk hl
  unfold Oper.wp execOp
  simp only [ho, hx, hy, Sem.run_bind, h1, h2, Sem.run_pure, Result.andThen_ok]
  exact hK _ _ h
end Go.Proofs.YtccidllcjaaeeabGreatDoor
/- Plain law, no program: sealing and opening in terms of what Derive answers: the mixed text, the sum, the tag; opening what was sealed gives the text back. No condition. -/
namespace Go.Proofs.YtccidllcjaaeeabGreatDoor
set_option maxRecDepth 100000
open Go.RowKit

theorem u8_xor8 (a b : UInt8) : bits .xor .u8 (a.toNat : Int) (b.toNat : Int) = ((a ^^^ b).toNat : Int) := by
  rw [u8_xor_nat _ _ a.toNat_lt b.toNat_lt, UInt8.toNat_xor]
theorem xor_twice (a b : UInt8) : (a ^^^ b) ^^^ b = a := by
  rw [UInt8.xor_assoc, UInt8.xor_self, UInt8.xor_zero]

def lStream : List UInt8 := [115, 116, 114, 101, 97, 109]
def lTag : List UInt8 := [116, 97, 103]
/-- The stream's byte at a place. -/
def strm (k : List UInt8) (j : Nat) : UInt8 := (kd k lStream ((j / 8 : Nat) : Int)).getD (j % 8) 0
/-- The text of which the first m bytes are mixed. -/
def mixP (k : List UInt8) : Nat → List UInt8 → List UInt8
  | 0, t => t
  | m + 1, t => (mixP k m t).set m ((t.getD m 0) ^^^ strm k m)
def mixL (k t : List UInt8) : List UInt8 := mixP k t.length t
theorem mixP_length (k : List UInt8) (m : Nat) (t : List UInt8) : (mixP k m t).length = t.length := by
  induction m with
  | zero => rfl
  | succ m ih => rw [mixP, List.length_set, ih]
theorem mixL_length (k t : List UInt8) : (mixL k t).length = t.length := mixP_length _ _ _
theorem mixP_get (k : List UInt8) (m : Nat) (t : List UInt8) (j : Nat) (hj : j < t.length) :
    (mixP k m t).getD j 0 = if j < m then t.getD j 0 ^^^ strm k j else t.getD j 0 := by
  induction m with
  | zero => simp [mixP]
  | succ m ih =>
    have hl := mixP_length k m t
    rw [mixP, List.getD_eq_getElem?_getD, List.getElem?_set]
    rw [List.getD_eq_getElem?_getD] at ih
    by_cases h : m = j
    · subst h
      rw [if_pos rfl, if_pos (by omega), if_pos (by omega)]; rfl
    · rw [if_neg h, ih]
      by_cases h2 : j < m
      · rw [if_pos h2, if_pos (by omega)]
      · rw [if_neg h2, if_neg (by omega)]
theorem mixP_at (k : List UInt8) (m : Nat) (t : List UInt8) (hm : m < t.length) : (mixP k m t).getD m 0 = t.getD m 0 := by
  rw [mixP_get k m t m hm, if_neg (by omega)]
theorem getD_ext {l l' : List UInt8} (hl : l.length = l'.length) (h : ∀ j, j < l.length → l.getD j 0 = l'.getD j 0) : l = l' := by
  refine List.ext_getElem hl fun j h1 h2 => ?_
  have := h j h1
  rwa [List.getD_eq_getElem?_getD, List.getD_eq_getElem?_getD, List.getElem?_eq_getElem h1, List.getElem?_eq_getElem h2] at this
theorem mixL_twice (k t : List UInt8) : mixL k (mixL k t) = t := by
  refine getD_ext (by rw [mixL_length, mixL_length]) fun j hj => ?_
  rw [mixL_length, mixL_length] at hj
  rw [mixL, mixP_get _ _ _ _ (by rw [mixL_length]; exact hj), mixL_length, if_pos hj, mixL, mixP_get _ _ _ _ hj, if_pos hj, xor_twice]

def fstep32 (h : Int) (b : UInt8) : Int := IntKind.u32.wrap (bits BinOp.xor IntKind.u32 h (IntKind.u32.wrap ↑b.toNat) * 16777619)
def fnv32 (h : Int) (l : List UInt8) : Int := l.foldl fstep32 h
theorem fnv32_append (h : Int) (l m : List UInt8) : fnv32 h (l ++ m) = fnv32 (fnv32 h l) m := by simp [fnv32]
theorem fnv32_take (h : Int) (l : List UInt8) (j : Nat) (hj : j < l.length) : fnv32 h (l.take (j + 1)) = fstep32 (fnv32 h (l.take j)) (l.getD j 0) := by
  rw [List.take_succ_eq_append_getElem hj, fnv32_append]
  simp [List.getD, hj, fnv32]
theorem u32_byte (b : UInt8) : IntKind.u32.wrap ↑b.toNat = ↑b.toNat := by
  have := b.toNat_lt
  simp [IntKind.wrap, show IntKind.u32.signed = false from rfl, show IntKind.u32.bits = 32 from rfl]
  omega
theorem fstep32_range (h : Int) (b : UInt8) : 0 ≤ fstep32 h b ∧ fstep32 h b < 4294967296 := by
  unfold fstep32
  rw [u32_wrap]
  omega
theorem fnv32_range (h : Int) (l : List UInt8) (h0 : 0 ≤ h) (h1 : h < 4294967296) : 0 ≤ fnv32 h l ∧ fnv32 h l < 4294967296 := by
  induction l generalizing h with
  | nil => exact ⟨h0, h1⟩
  | cons b l ih => exact ih _ (fstep32_range h b).1 (fstep32_range h b).2
/-- SUM of a head and a text. -/
def sum32 (head t : List UInt8) : Int := fnv32 2166136261 (head ++ 0 :: t)
def sumL (head t : List UInt8) : Int := bits .and .u32 (sum32 head t) 2147483647
theorem sumL_range (head t : List UInt8) : 0 ≤ sumL head t ∧ sumL head t ≤ 2147483647 := by
  have h := fnv32_range 2166136261 (head ++ 0 :: t) (by decide) (by decide)
  have h0 : 0 ≤ sum32 head t := h.1
  have h1 : sum32 head t < 4294967296 := h.2
  unfold sumL
  rw [u32_and _ _ h0 h1 (by decide) (by decide)]
  have := Nat.and_le_right (n := (sum32 head t).toNat) (m := (2147483647 : Int).toNat)
  have e : (2147483647 : Int).toNat = 2147483647 := rfl
  rw [e] at this ⊢
  omega
theorem sumL_wrap (head t : List UInt8) : wrap64 (bits BinOp.and IntKind.u32 (sum32 head t) 2147483647) = sumL head t := by
  have h := sumL_range head t
  exact IntWalk.wrap64_in _ (by unfold sumL at h; omega)
def tagL (k head t : List UInt8) : List UInt8 := (kd k lTag (sumL head t)).take 4
theorem tagL_length (k head t : List UInt8) : (tagL k head t).length = 4 := rfl
def sealL (k head t : List UInt8) : List UInt8 := mixL k t ++ tagL k head (mixL k t)
theorem sealL_length (k head t : List UInt8) : (sealL k head t).length = t.length + 4 := by simp [sealL, mixL_length, tagL_length]
/-- Does it open? -/
def opensB (k head s : List UInt8) : Bool := decide (4 ≤ s.length) && (tagL k head (s.take (s.length - 4)) == s.drop (s.length - 4))
def openT (k s : List UInt8) : List UInt8 := mixL k (s.take (s.length - 4))
theorem opens_sealed (k head t : List UInt8) : opensB k head (sealL k head t) = true := by
  have hl : (mixL k t).length = (sealL k head t).length - 4 := by rw [sealL_length, mixL_length]; omega
  rw [opensB, ← hl, sealL, List.take_left, List.drop_left, ← sealL, sealL_length]
  simp
theorem openT_sealed (k head t : List UInt8) : openT k (sealL k head t) = t := by
  have hl : (mixL k t).length = (sealL k head t).length - 4 := by rw [sealL_length, mixL_length]; omega
  rw [openT, ← hl, sealL, List.take_left, mixL_twice]
/-- The reference's way to open: seal again what was mixed back. -/
theorem opensB_ref (k head s : List UInt8) (h : 4 ≤ s.length) : (sealL k head (openT k s) == s) = opensB k head s := by
  rw [opensB, Bool.eq_iff_iff]
  simp only [beq_iff_eq, Bool.and_eq_true, decide_eq_true_eq, h, true_and]
  have e : sealL k head (openT k s) = s.take (s.length - 4) ++ tagL k head (s.take (s.length - 4)) := by rw [sealL, openT, mixL_twice]
  rw [e]
  constructor
  · intro h1
    have h2 := congrArg (List.drop (s.length - 4)) h1
    rw [List.drop_left' (by rw [List.length_take]; omega)] at h2
    exact h2
  · intro h1
    rw [h1, List.take_append_drop]
end Go.Proofs.YtccidllcjaaeeabGreatDoor
/- How a slice of bytes reads in memory, and how the reading is carried on; the walk of bytes.Clone. No condition. -/
namespace Go.Proofs.YtccidllcjaaeeabGreatDoor
set_option maxRecDepth 100000
open Go.RowKit
def Rd (w : World) (p : Option Addr) (l : List UInt8) : Prop :=
  0 < l.length → ∃ b o, p = some ⟨b, o, none⟩ ∧ ∀ j, j < l.length → w.cell? ⟨b, o + j, none⟩ = some (.int .u8 (l.getD j 0).toNat)
theorem Rd.empty (w : World) (p : Option Addr) : Rd w p [] := fun h => absurd h (by simp)
theorem Rd.keep {w w' : World} {p : Option Addr} {l : List UInt8} (h : Rd w p l) (hk : ∀ a u, w.cell? a = some (.int .u8 u) → w'.cell? a = some (.int .u8 u)) : Rd w' p l := by
  intro hl
  obtain ⟨b, o, rfl, hc⟩ := h hl
  exact ⟨b, o, rfl, fun j hj => hk _ _ (hc j hj)⟩
theorem Rd.below {w w' : World} {p : Option Addr} {l : List UInt8} (h : Rd w p l) (hb : Below w.heap.size w w') : Rd w' p l :=
  h.keep fun a u hc => by rw [hb.cell (block_lt_of_cell hc)]; exact hc
theorem Rd.alloc {w : World} {p : Option Addr} {l : List UInt8} (h : Rd w p l) (o : Obj) : Rd (w.alloc o) p l :=
  h.below (balloc (Below.refl _ _) o)
theorem size_setCell (w : World) (a : Addr) (u : Value) : (w.setCell a u).heap.size = w.heap.size := by simp [World.setCell]
theorem Rd.count {w w' : World} {p : Option Addr} {l : List UInt8} (h : Rd w p l) {D o : Nat} {v x : Int} (hx : w.cell? ⟨D, o, none⟩ = some (.int .i64 v)) (hb : Below w.heap.size (w.setCell ⟨D, o, none⟩ (.int .i64 x)) w') : Rd w' p l :=
  h.keep fun a u hc => by
    have hlt := block_lt_of_cell hc
    rw [hb.cell hlt, World.cell?_setCell_other]
    · exact hc
    · intro e
      rw [← e, hx] at hc
      cases hc
theorem Rd.own {w : World} {base e : Nat} {p : Option Addr} {c : Nat} {l : List UInt8} (h : w.ownsRow base e 1 (.slice p l.length c) l.length (cells l).toList) : Rd w p l := by
  intro hl
  obtain ⟨g, cap, e1, _, _⟩ := ownsRow_pos h hl
  cases e1
  refine ⟨g, 0, rfl, fun j hj => ?_⟩
  rw [Nat.zero_add, h.cellAt j (by omega), cells_get _ _ hj, List.getD_eq_getElem?_getD, List.getElem?_eq_getElem hj]
  rfl
theorem Rd.take {w : World} {p : Option Addr} {l : List UInt8} (h : Rd w p l) (n : Nat) : Rd w p (l.take n) := by
  intro hl
  rw [List.length_take] at hl
  obtain ⟨b, o, e, hc⟩ := h (by omega)
  refine ⟨b, o, e, fun j hj => ?_⟩
  rw [List.length_take] at hj
  rw [hc j (by omega), List.getD_eq_getElem?_getD, List.getD_eq_getElem?_getD, List.getElem?_take, if_pos (by omega)]
theorem Rd.drop {w : World} {b o : Nat} {l : List UInt8} (h : Rd w (some ⟨b, o, none⟩) l) (n : Nat) : Rd w (some ⟨b, o + n, none⟩) (l.drop n) := by
  intro hl
  rw [List.length_drop] at hl
  obtain ⟨b', o', e, hc⟩ := h (by omega)
  cases e
  refine ⟨b, o + n, rfl, fun j hj => ?_⟩
  rw [List.length_drop] at hj
  rw [Nat.add_assoc, hc (n + j) (by omega), List.getD_eq_getElem?_getD, List.getD_eq_getElem?_getD, List.getElem?_drop]
theorem Rd.row {w : World} {b t : Nat} {fr : Nat × Nat} {l : List UInt8} (h : w.heap[b]? = some (.cells (cells l) t fr)) : Rd w (some ⟨b, 0, none⟩) l := by
  intro hl
  refine ⟨b, 0, rfl, fun j hj => ?_⟩
  have := cells_get l j hj
  rw [Array.getElem?_toList] at this
  rw [Nat.zero_add, cell_of_row _ _ _ _ _ _ h, this, List.getD_eq_getElem?_getD, List.getElem?_eq_getElem hj]
  rfl
/-- What an append reads. -/
theorem Rd.news {w : World} {b o : Nat} {l : List UInt8} (h : Rd w (some ⟨b, o, none⟩) l) : ∀ j u, (cells l).toList[j]? = some u → w.cell? ((⟨b, o, none⟩ : Addr).add j) = some u := by
  intro j u hj
  have hlt : j < l.length := by
    have := (List.getElem?_eq_some_iff.1 hj).1
    simpa [cells] using this
  obtain ⟨b', o', e, hc⟩ := h (by omega)
  cases e
  rw [Addr.add_lit, hc j hlt, ← hj, cells_get _ _ hlt, List.getD_eq_getElem?_getD, List.getElem?_eq_getElem hlt]
  rfl
theorem cells_oneCell (l : List UInt8) : ∀ u ∈ (cells l).toList, u.oneCell' = true := by
  intro u hu
  simp only [cells, List.mem_map] at hu
  obtain ⟨b, _, rfl⟩ := hu
  rfl
theorem cells_len (l : List UInt8) : (cells l).toList.length = l.length := by simp [cells]

theorem eql_nil (w : World) (a : Option Addr) (n c : Nat) : (binOp .eql 73 (.slice a n c) (.slice none 0 0)).run Tryz.prog w = .ok (.bool a.isNone) w := Lib.run_eql_slice_nil w 73 5 a n c 0 0 Tryz.underlying73
set_option maxRecDepth 100000 in
set_option maxHeartbeats 400000 in
theorem clone_any (w : World) (p : Option Addr) (cap : Nat) (l : List UInt8) (hp : p = none → cap = 0 ∧ l = []) (hs : p ≠ none → ∃ b o, p = some ⟨b, o, none⟩) (hl : l.length ≤ 140737488355328) (hr : Rd w p l) :
    Calls Tryz.prog 120 #[.slice p l.length cap] w fun e w' => ∃ v, e = .returned v ∧ w'.ownsRow w.heap.size 5 1 v l.length (cells l).toList ∧ Below w.heap.size w w' := by
  obtain ⟨i0, hi, hz0, hz1, hz2⟩ := info_parts infoU8
  cases p with
  | none =>
    obtain ⟨rfl, rfl⟩ := hp rfl
    have he := eql_nil w none 0 0
    go_enter Tryz.func120, Tryz.ntmps120
    go_wp2
    go_ret
    exact ⟨_, rfl, World.ownsRow_nil _ _ _ _, Below.refl _ _⟩
  | some a =>
    obtain ⟨b, o, e⟩ := hs (by simp)
    cases e
    have he := eql_nil w (some ⟨b, o, none⟩) l.length cap
    simp only [Option.isNone] at he
    go_enter Tryz.func120, Tryz.ntmps120
    go_wp2_with (at_builtin; go_must (refine wpList_append_own _ rfl _ _ 73 rfl w.heap.size 5 i0 (.int .u8 0) 1 1 Tryz.underlying73 hi hz0 hz1 hz2 rfl (by decide) _ 0 [] rfl (World.ownsRow_made w #[] 0 (Nat.le_refl _) (by decide) rfl) ⟨b, o, none⟩ l.length cap (cells l).toList rfl (by rw [cells_len, Nat.mul_one]) (cell_old_row hr.news _) (cells_oneCell l) (by unfold maxLen; omega) (by omega) (by simp) ?_); intro v1 w1 hown hg hz)
    go_ret
    rw [Nat.zero_add, List.nil_append] at hown
    exact ⟨_, rfl, hown, (balloc (Below.refl _ _) _).grown hg (by simp) (fun k hk => by cases hk; exact Nat.le_refl _)⟩
/-- 'string(b)'. -/
theorem conv_str (w : World) (p : Option Addr) (c : Nat) (l : List UInt8) (h : Rd w p l) : (convert 73 9 (.slice p l.length c)).run Tryz.prog w = .ok (.string ⟨l.toArray⟩) w := by
  rcases Nat.eq_zero_or_pos l.length with hn | hn
  · obtain rfl : l = [] := List.eq_nil_of_length_eq_zero hn
    rw [List.length_nil, run_convert_bytes_string w 73 9 5 _ 0 c Tryz.underlying73 Tryz.underlying5 Tryz.underlying9]
    cases p <;> simp [Conv.bytesToString, loadCells, loadCellsFrom] <;> rfl
  · obtain ⟨b, o, rfl, hc⟩ := h hn
    have := run_convert_bytes_arg (P := Tryz.prog) w 73 5 Tryz.underlying73 Tryz.underlying5 b o l.length c (l.map fun b => (b.toNat : Int)) (by simp) (fun i hi => by
      rw [hc i hi]
      simp [List.getD, hi]) 9 Tryz.underlying9
    rw [this]
    congr 3
    simp [strOfNums, Function.comp_def]
set_option maxRecDepth 100000 in
set_option maxHeartbeats 400000 in
theorem equal_any (w : World) (p q : Option Addr) (c d : Nat) (l m : List UInt8) (hl : Rd w p l) (hm : Rd w q m) :
    Calls Tryz.prog 125 #[.slice p l.length c, .slice q m.length d] w fun e w' => e = .returned (.bool (l == m)) ∧ w' = w := by
  have h1 := conv_str w p c l hl
  have h2 := conv_str w q d m hm
  go_enter Tryz.func125, Tryz.ntmps125
  go_wp2
  go_ret
  exact ⟨rfl, rfl⟩
end Go.Proofs.YtccidllcjaaeeabGreatDoor
/- The walk of kdf's mix: a new slice that holds the mixed text; one secret is derived for each eight bytes begun. Conditions: the key has eight bytes, the text at most 65540, the counter is far from its end. -/
namespace Go.Proofs.YtccidllcjaaeeabGreatDoor
set_option maxRecDepth 100000
open Go.RowKit
theorem cnt_cell {w wr : World} {D o : Nat} {u x : Value} (hb : Below w.heap.size (w.setCell ⟨D, o, none⟩ x) wr) (hx : w.cell? ⟨D, o, none⟩ = some u) : wr.cell? ⟨D, o, none⟩ = some x := by
  rw [hb.cell (block_lt_of_cell hx)]
  exact World.cell?_setCell_same _ _ _ hx
theorem cnt_frozen {w wr : World} {D o : Nat} {u x : Value} (hb : Below w.heap.size (w.setCell ⟨D, o, none⟩ x) wr) (hx : w.cell? ⟨D, o, none⟩ = some u) (hf : w.frozen? ⟨D, o, none⟩ = false) : wr.frozen? ⟨D, o, none⟩ = false := by
  rw [hb.frozen (block_lt_of_cell hx), World.frozen?_setCell]
  exact hf
theorem setCell_twice (w : World) (a : Addr) (u x : Value) : (w.setCell a u).setCell a x = w.setCell a x := by
  simp only [World.setCell]
  congr 1
  apply Array.ext_getElem?
  intro i
  simp only [Array.getElem?_modify]
  by_cases h : a.block = i
  · simp only [h, if_true, Option.map_map]
    congr 1
    funext ob
    cases ob <;> simp
    split <;> simp
  · simp only [h, if_false]
theorem setCell_self {w : World} {a : Addr} {u : Value} (h : w.cell? a = some u) : w.setCell a u = w := by
  unfold World.cell? at h
  split at h
  · rename_i c e fr hb
    split at h
    · cases h
    · rename_i hs
      have hs' : a.spot.isSome = false := by simpa using hs
      have hc : c.setIfInBounds a.off u = c := by
        apply Array.ext_getElem?
        intro i
        rw [Array.getElem?_setIfInBounds]
        split
        · rename_i hi; subst hi
          split
          · exact h.symm
          · rename_i hlt
            rw [Array.getElem?_eq_none (by omega)]
        · rfl
      have hheap : (w.setCell a u).heap = w.heap := by
        simp only [World.setCell]
        apply Array.ext_getElem?
        intro i
        rw [Array.getElem?_modify]
        by_cases hi : a.block = i
        · subst hi
          rw [if_pos rfl, hb]
          simp [hs', hc]
        · rw [if_neg hi]
      show { w with heap := (w.setCell a u).heap } = w
      rw [hheap]
  · cases h
theorem cnt_next {w wr w1 : World} {p : Addr} {x y : Value} (hb : Below w.heap.size (w.setCell p x) wr) (h1 : Below wr.heap.size (wr.setCell p y) w1) : Below w.heap.size (w.setCell p y) w1 := by
  have h2 := below_setCell hb p y
  rw [setCell_twice] at h2
  have := hb.size
  rw [size_setCell] at this
  exact h2.trans (h1.mono this)

theorem mix_step {w : World} {b e g n c : Nat} {k l : List UInt8} (j t : Nat) (ht : t < 8) (h : w.ownsRow b e 1 (.slice (some ⟨g, 0, none⟩) n c) n (cells (mixP k (8 * j + t) l)).toList) :
    (w.setCell ⟨g, j * 8 + t, none⟩ (.int .u8 (bits BinOp.xor IntKind.u8 ↑(l[8 * j + t]?.getD 0).toNat ↑((kd k lStream ↑j)[t]?.getD 0).toNat))).ownsRow b e 1 (.slice (some ⟨g, 0, none⟩) n c) n (cells (mixP k (8 * j + (t + 1)) l)).toList := by
  have h1 := (h.stored (8 * j + t) (.int .u8 (bits BinOp.xor IntKind.u8 ↑(l[8 * j + t]?.getD 0).toNat ↑((kd k lStream ↑j)[t]?.getD 0).toNat))).1
  rw [show j * 8 + t = 8 * j + t from by omega]
  rw [u8_xor8, cells_set] at h1
  rw [u8_xor8, show 8 * j + (t + 1) = 8 * j + t + 1 from by omega, mixP, strm, show (8 * j + t) / 8 = j from by omega, show (8 * j + t) % 8 = t from by omega]
  exact h1
theorem lStream_eq : (⟨#[115, 116, 114, 101, 97, 109]⟩ : ByteArray).data.toList = lStream := rfl
set_option maxRecDepth 100000 in
set_option maxHeartbeats 1000000 in
theorem mix_any (D o : Nat) (v : Int) (w : World) (k : List UInt8) (p : Option Addr) (cap : Nat) (l : List UInt8) (hk : k.length = 8)
    (hx : w.cell? ⟨D, o, none⟩ = some (.int .i64 v)) (hf : w.frozen? ⟨D, o, none⟩ = false) (hb0 : 0 ≤ v) (hb1 : v ≤ 4611686018427000000)
    (hp : p = none → cap = 0 ∧ l = []) (hs : p ≠ none → ∃ b o, p = some ⟨b, o, none⟩) (hl : l.length ≤ 65540) (hr : Rd w p l) :
    Calls Tryz.prog 89 #[.pointer (some ⟨D, o, none⟩), .agg (cells k), .slice p l.length cap] w fun e w' =>
      ∃ r, e = .returned r ∧ w'.ownsRow w.heap.size 5 1 r l.length (cells (mixL k l)).toList ∧ Below w.heap.size (w.setCell ⟨D, o, none⟩ (.int .i64 (v + ((l.length + 7) / 8 : Nat)))) w' := by
  have hD := block_lt_of_cell hx
  have Hk := Lib.hid hk
  clear hk
  go_enter Tryz.func89, Tryz.ntmps89
  go_wp2_with fail
  refine (clone_any _ p cap l hp hs (by omega) (hr.alloc _)).mono ?_
  rintro e w1 ⟨out, rfl, hown, hbel⟩
  have hkey : w1.heap[w.heap.size]? = some (.cells (cells k) 36 (0, 0)) := by
    rw [hbel.block _ (by simp)]; exact heap_alloc_new _ _
  have hown0 : w1.ownsRow (w.heap.size + 1) 5 1 out l.length (cells (mixP k 0 l)).toList := ownsRow_mono hown (by simp)
  have hb : Below w.heap.size (w.setCell ⟨D, o, none⟩ (.int .i64 (v + ((0 : Nat) : Int)))) w1 := by
    have h1 : Below w.heap.size w w1 := bnext (balloc (Below.refl _ _) _) hbel
    have h2 : w.setCell ⟨D, o, none⟩ (.int .i64 (v + ((0 : Nat) : Int))) = w := by
      rw [show v + ((0 : Nat) : Int) = v from by omega]
      exact setCell_self hx
    rw [h2]; exact h1
  have hlen : ∀ m, (mixP k m l).length = l.length := fun m => mixP_length k m l
  have Hkey := Lib.hid hkey
  have Hown0 := Lib.hid hown0
  have Hlen := Lib.hid hlen
  clear hkey hown hown0 hlen
  generalize hN : l.length = N at *
  have HN := Lib.hid hN
  clear hN
  go_upto_region 2 with (fail)
  obtain ⟨q, c, rfl, hq⟩ := ownsRow_slice Hown0.out
  have Hq := Lib.hid hq
  clear hq
  go_wp2
  go_loopw [8, 9, 10] (fun i _ _ wr => ∃ j : Nat, i = .int .i64 j ∧ (j = 0 ∨ 8 * (j - 1) < N) ∧ wr.ownsRow (w.heap.size + 1) 5 1 (.slice q N c) N (cells (mixP k (min N (8 * j)) l)).toList ∧ Below w.heap.size (w.setCell ⟨D, o, none⟩ (.int .i64 (v + (j : Int)))) wr ∧ wr.heap[w.heap.size]? = some (.cells (cells k) 36 (0, 0))) (fun i _ _ _ => 70000 - (intOf i).toNat)
  case atStart => exact ⟨0, rfl, .inl rfl, by rw [Nat.mul_zero, Nat.min_zero]; exact Hown0.out, hb, Hkey.out⟩
  case round =>
    obtain ⟨j, rfl, hj, hro, hrb, hrk⟩ := hrel
    obtain ⟨wo, rfl⟩ : ∃ wo : World, wo = wr := ⟨_, rfl⟩
    have Hro := Lib.hid hro
    have Hrk := Lib.hid hrk
    have hc := cnt_cell hrb hx
    have hcf := cnt_frozen hrb hx hf
    clear hro hrk
    by_cases hlt : 8 * j < N
    · obtain ⟨g, rfl, hg1, hg2, hNc⟩ : ∃ g, q = some ⟨g, 0, none⟩ ∧ w.heap.size + 1 ≤ g ∧ g < w1.heap.size ∧ N ≤ c := by
        rcases Hq.out with ⟨_, _, h⟩ | h
        · omega
        · exact h
      have hcj : ¬ c = j * 8 := by omega
      obtain ⟨M, hM⟩ : ∃ M, M = min N (8 * (j + 1)) - 8 * j := ⟨_, rfl⟩
      have hM0 : M ≤ 8 := by omega
      have hM1 : M + 8 * j ≤ N := by omega
      have hM2 : min N (8 * (j + 1)) = 8 * j + M := by omega
      have hMin : min N (8 * j) = 8 * j := by omega
      have HM2 := Lib.hid hM2
      have HMin := Lib.hid hMin
      have h8a : ¬ (j + 1) * 8 < N → N - j * 8 = M := by omega
      have h8b : (j + 1) * 8 < N → (j + 1) * 8 - j * 8 = M := by omega
      have H8a := Lib.hid h8a
      have H8b := Lib.hid h8b
      clear hM hM2 hMin h8a h8b
      by_cases h8 : (j + 1) * 8 < N
      all_goals
        go_wp2_with (first | (refine wpList_load_row rfl 36 _ rfl w.heap.size rfl _ _ _ _ Hrk.out Tryz.underlying36 rfl (by rw [infoSecret, cells_size, Hk.out]) ?_) | (go_at_call 88; go_must (refine (derive_any D o (v + (j : Int)) _ k _ _ Hk.out (by decide) hc hcf (by omega) (by omega)).mono ?_); rintro e w2 ⟨rfl, hb2⟩; rw [lStream_eq]) | (refine wpList_store_row rfl 36 _ _ rfl _ _ rfl rfl _ _ (heap_alloc_new _ _) (by rw [infoSecret, cells_size, kd_length]) (by rw [cells_size, kd_length]; rfl) (cells_one _) ?_; rw [World.setRow_alloc_new]))
        first
          | rw [H8a.out h8]
          | rw [H8b.out h8]
        clear h8 hcj
        have hb2' : Below w.heap.size (w.setCell ⟨D, o, none⟩ (.int .i64 (v + ((j + 1 : Nat) : Int)))) w2 := by
          rw [show v + ((j + 1 : Nat) : Int) = v + (j : Int) + 1 from by omega]
          exact cnt_next hrb hb2
        have hsz : wo.heap.size ≤ w2.heap.size := by have := hb2.size; rwa [size_setCell] at this
        have hgr : g < wo.heap.size := Hro.out.lt g rfl |>.2
        have hgD : g ≠ D := by omega
        have hg2 : w2.heap[g]? = wo.heap[g]? := by rw [hb2.block _ hgr, heap_setCell_other _ _ _ _ hgD]
        have hro2 := ownsRow_same (ownsRow_same Hro.out hg2) (Below.heap_alloc w2 (.cells (cells (kd k lStream j)) 36) g (by omega))
        have hk2 : (w2.alloc (.cells (cells (kd k lStream j)) 36)).heap[w.heap.size]? = some (.cells (cells k) 36 (0, 0)) := by
          rw [Below.heap_alloc _ _ _ (by omega), hb2.block _ (by omega), heap_setCell_other _ _ _ _ (by simp; omega)]
          exact Hrk.out
        rw [HMin.out] at hro2
        have Hro2 := Lib.hid hro2
        have Hk2 := Lib.hid hk2
        have hS : w2.heap.size ≠ g := by omega
        have hgw : w.heap.size + 1 ≤ w2.heap.size := by omega
        clear hro2 hk2 hg2
        go_loopw [10, 35] (fun _ i wq => ∃ t : Nat, t ≤ M ∧ i = .int .i64 t ∧ wq.ownsRow (w.heap.size + 1) 5 1 (.slice (some ⟨g, 0, none⟩) N c) N (cells (mixP k (8 * j + t) l)).toList ∧ Below w.heap.size (w.setCell ⟨D, o, none⟩ (.int .i64 (v + ((j + 1 : Nat) : Int)))) wq ∧ wq.heap[w.heap.size]? = some (.cells (cells k) 36 (0, 0)) ∧ wq.heap[w2.heap.size]? = some (.cells (cells (kd k lStream j)) 36 (0, 0))) (fun _ i _ => M - (intOf i).toNat)
        case atStart => exact ⟨0, Nat.zero_le _, rfl, Hro2.out, hb2'.alloc (by omega) _, Hk2.out, heap_alloc_new _ _⟩
        case round =>
          obtain ⟨t, ht, rfl, hqo, hqb, hqk, hqs⟩ := hrel
          have Hqo := Lib.hid hqo
          have Hqk := Lib.hid hqk
          have Hqs := Lib.hid hqs
          clear hqo hqk hqs
          by_cases hlt2 : t < M
          · have hcg : wr.cell? ⟨g, j * 8 + t, none⟩ = some (.int .u8 (l.getD (8 * j + t) 0).toNat) := by
              rw [show j * 8 + t = 8 * j + t from by omega, own_cell Hqo.out (Hlen.out _) _ (by omega), mixP_at _ _ _ (by rw [HN.out]; omega)]
            have hcs : wr.cell? ⟨w2.heap.size, t, none⟩ = some (.int .u8 ((kd k lStream j).getD t 0).toNat) := row_cell Hqs.out t (by rw [kd_length]; omega)
            have hfg : wr.frozen? ⟨g, j * 8 + t, none⟩ = false := Hqo.out.frozenAt _
            have ht8 : t < 8 := by omega
            have htN : j * 8 + t < N := by omega
            go_wp2
            go_region
            go_wp2
            go_roundw
            case rel =>
              have hf1 : w.heap.size ≠ g := by omega
              refine ⟨t + 1, by omega, by go_num, (mix_step j t ht8 Hqo.out).drew, (hqb.setCell (by simp; omega) _).drew, ?_, ?_⟩
              · rw [heap_drew, heap_setCell_other _ _ _ _ hf1]; exact Hqk.out
              · rw [heap_drew, heap_setCell_other _ _ _ _ hS]; exact Hqs.out
            case measure => simp [intOf]; omega
          · obtain rfl : t = M := by omega
            clear hlt2
            go_wp2
            go_roundw
            case rel => exact ⟨j + 1, by go_num, .inr (by omega), by rw [HM2.out]; exact Hqo.out, hqb, Hqk.out⟩
            case measure => simp [intOf]; omega
    · have hj8 : (v + (((N + 7) / 8 : Nat) : Int)) = v + (j : Int) := by omega
      have hm : min N (8 * j) = N := by omega
      have Hj8 := Lib.hid hj8
      have Hm := Lib.hid hm
      clear hj8 hm
      go_wp2
      go_ret
      refine ⟨_, rfl, ?_, ?_⟩
      · have h := Hro.out
        rw [Hm.out, ← HN.out] at h
        rw [← HN.out]
        exact ownsRow_mono h (by omega)
      · rw [HN.out, Hj8.out]; exact hrb
end Go.Proofs.YtccidllcjaaeeabGreatDoor
/- The walk of kdf's tag: four bytes of what is derived out of the key and SUM; one secret is derived. Conditions: the key has eight bytes, the counter is far from its end. -/
namespace Go.Proofs.YtccidllcjaaeeabGreatDoor
set_option maxRecDepth 100000
open Go.RowKit
set_option maxRecDepth 100000 in
set_option maxHeartbeats 400000 in
theorem add1_any (w : World) (H : Nat) (h0 : Int) (p : Option Addr) (cap : Nat) (l : List UInt8) (hl : l.length ≤ 9223372036854775807)
    (hh : w.heap[H]? = some (.cells #[.int .u32 h0] 56 (0, 0))) (hr : Rd w p l) :
    Calls Tryz.prog 121 #[.slice p l.length cap, .pointer (some ⟨H, 0, none⟩)] w fun e w' => e = .returned (.tuple #[]) ∧ w' = w.setRow H #[.int .u32 (fnv32 h0 l)] := by
  have Hh := Lib.hid hh
  clear hh
  generalize hN : l.length = N at *
  have HN := Lib.hid hN
  clear hN
  go_enter Tryz.func121, Tryz.ntmps121
  go_wp2
  go_loopw [4, 7] (fun _ i wr => ∃ j : Nat, j ≤ N ∧ i = .int .i64 j ∧ wr = w.setRow H #[.int .u32 (fnv32 h0 (l.take j))]) (fun _ i _ => N - (intOf i).toNat)
  case atStart => exact ⟨0, Nat.zero_le _, rfl, (setRow_self w H _ _ _ Hh.out).symm⟩
  case round =>
    obtain ⟨j, hj, rfl, rfl⟩ := hrel
    by_cases hlt : j < N
    · obtain ⟨b, o, rfl, hc⟩ := hr (by rw [HN.out]; omega)
      have hc := hc j (by rw [HN.out]; omega)
      have hbH : b ≠ H := by
        rintro rfl
        rw [cell_of_row _ _ _ _ _ _ Hh.out] at hc
        rcases Nat.eq_zero_or_pos (o + j) with h | h
        · simp [h] at hc
        · rw [Array.getElem?_eq_none (by simp; omega)] at hc; cases hc
      have hcb : (w.setRow H #[.int .u32 (fnv32 h0 (l.take j))]).cell? ⟨b, o + j, none⟩ = some (.int .u8 (l.getD j 0).toNat) := by
        rw [World.cell?_of_block (w := w) (setRow_other w H b _ hbH)]; exact hc
      have hrow := setRow_heap w H _ #[.int .u32 (fnv32 h0 (l.take j))] _ _ Hh.out
      have hcH : (w.setRow H #[.int .u32 (fnv32 h0 (l.take j))]).cell? ⟨H, 0, none⟩ = some (.int .u32 (fnv32 h0 (l.take j))) := by rw [cell_of_row _ _ _ _ _ _ hrow]; rfl
      have hfH : (w.setRow H #[.int .u32 (fnv32 h0 (l.take j))]).frozen? ⟨H, 0, none⟩ = false := frozen_of_row _ _ _ _ _ hrow
      have Hs := Lib.hid (fnv32_take h0 l j (by rw [HN.out]; exact hlt))
      have Hrow := Lib.hid hrow
      clear hc hrow
      generalize hW : w.setRow H #[.int .u32 (fnv32 h0 (l.take j))] = W at *
      have HW := Lib.hid hW
      clear hW
      go_wp2
      go_roundw
      case rel =>
        refine ⟨j + 1, by omega, by go_num, ?_⟩
        rw [setCell_eq_setRow _ _ _ _ _ _ _ Hrow.out, ← HW.out, setRow_setRow, Hs.out, fstep32, u32_wrap, u32_wrap]
        rfl
      case measure => simp [intOf]; omega
    · have hT := List.take_of_length_le (l := l) (i := j) (by rw [HN.out]; omega)
      go_wp2
      go_end0
      exact ⟨rfl, rfl⟩

theorem lTag_eq : (⟨#[116, 97, 103]⟩ : ByteArray).data.toList = lTag := rfl
set_option maxRecDepth 100000 in
set_option maxHeartbeats 1000000 in
theorem tag_any (D o : Nat) (v : Int) (w : World) (k : List UInt8) (p1 p2 : Option Addr) (c1 c2 : Nat) (head l : List UInt8) (hk : k.length = 8)
    (hx : w.cell? ⟨D, o, none⟩ = some (.int .i64 v)) (hf : w.frozen? ⟨D, o, none⟩ = false) (hb0 : 0 ≤ v) (hb1 : v ≤ 4611686018427000000)
    (hl1 : head.length ≤ 9223372036854775807) (hl2 : l.length ≤ 9223372036854775807) (hr1 : Rd w p1 head) (hr2 : Rd w p2 l) :
    Calls Tryz.prog 90 #[.pointer (some ⟨D, o, none⟩), .agg (cells k), .slice p1 head.length c1, .slice p2 l.length c2] w fun e w' =>
      ∃ T, e = .returned (.slice (some ⟨T, 0, none⟩) 4 8) ∧ w.heap.size ≤ T ∧ w'.heap[T]? = some (.cells (cells (kd k lTag (sumL head l))) 36 (0, 0)) ∧ Below w.heap.size (w.setCell ⟨D, o, none⟩ (.int .i64 (v + 1))) w' := by
  have hD := block_lt_of_cell hx
  have Hk := Lib.hid hk
  clear hk
  go_enter Tryz.func90, Tryz.ntmps90
  go_wp2_with fail
  generalize hW : World.alloc (World.alloc _ _) _ = W
  have hH : W.heap[w.heap.size + 1]? = some (.cells #[.int .u32 2166136261] 56 (0, 0)) := by rw [← hW]; exact heap_alloc2_new w _ _
  have hK : W.heap[w.heap.size]? = some (.cells (cells k) 36 (0, 0)) := by rw [← hW]; exact heap_alloc2_old w _ _
  have hB : Below w.heap.size w W := by rw [← hW]; exact balloc (balloc (Below.refl _ _) _) _
  have hS : W.heap.size = w.heap.size + 2 := by rw [← hW]; simp
  clear hW
  refine (add1_any W (w.heap.size + 1) 2166136261 p1 c1 head hl1 hH (hr1.below hB)).mono ?_
  rintro e w1 ⟨rfl, hw1⟩
  have hB1 : Below w.heap.size w w1 := by rw [hw1]; exact below_setRow hB (by omega) _
  have hS1 : w1.heap.size = w.heap.size + 2 := by rw [hw1]; simpa using hS
  have hH1 : w1.heap[w.heap.size + 1]? = some (.cells #[.int .u32 (fnv32 2166136261 head)] 56 (0, 0)) := by rw [hw1]; exact setRow_heap _ _ _ _ _ _ hH
  have hK1 : w1.heap[w.heap.size]? = some (.cells (cells k) 36 (0, 0)) := by rw [hw1, setRow_other _ _ _ _ (by omega)]; exact hK
  have HK1 := Lib.hid hK1
  have HH1 := Lib.hid hH1
  have HS1 := Lib.hid hS1
  clear hw1 hH hK hB hS hK1 hH1 hS1
  go_wp2_with fail
  have hH2 : (w1.alloc (.cells (cells [0]) 5)).heap[w.heap.size + 1]? = some (.cells #[.int .u32 (fnv32 2166136261 head)] 56 (0, 0)) := by
    rw [Below.heap_alloc _ _ _ (by rw [HS1.out]; omega)]; exact HH1.out
  refine (add1_any (w1.alloc (.cells (cells [0]) 5)) (w.heap.size + 1) _ (some ⟨w1.heap.size, 0, none⟩) 1 [0] (by decide) hH2 (Rd.row (heap_alloc_new _ _))).mono ?_
  rintro e w2 ⟨rfl, hw2⟩
  have hB2 : Below w.heap.size w w2 := by rw [hw2]; exact below_setRow (balloc hB1 _) (by omega) _
  have hS2 : w2.heap.size = w.heap.size + 3 := by rw [hw2]; simp [HS1.out]
  have hH2' : w2.heap[w.heap.size + 1]? = some (.cells #[.int .u32 (fnv32 (fnv32 2166136261 head) [0])] 56 (0, 0)) := by rw [hw2]; exact setRow_heap _ _ _ _ _ _ hH2
  have hK2 : w2.heap[w.heap.size]? = some (.cells (cells k) 36 (0, 0)) := by rw [hw2, setRow_other _ _ _ _ (by omega), Below.heap_alloc _ _ _ (by rw [HS1.out]; omega)]; exact HK1.out
  have HK2 := Lib.hid hK2
  have HH2 := Lib.hid hH2'
  have HS2 := Lib.hid hS2
  clear hw2 hH2 hK2 hH2' hS2
  go_wp2_with fail
  refine (add1_any w2 (w.heap.size + 1) _ p2 c2 l hl2 HH2.out (hr2.below hB2)).mono ?_
  rintro e w3 ⟨rfl, hw3⟩
  have hB3 : Below w.heap.size w w3 := by rw [hw3]; exact below_setRow hB2 (by omega) _
  have hH3 : w3.heap[w.heap.size + 1]? = some (.cells #[.int .u32 (fnv32 (fnv32 (fnv32 2166136261 head) [0]) l)] 56 (0, 0)) := by rw [hw3]; exact setRow_heap _ _ _ _ _ _ HH2.out
  have hK3 : w3.heap[w.heap.size]? = some (.cells (cells k) 36 (0, 0)) := by rw [hw3, setRow_other _ _ _ _ (by omega)]; exact HK2.out
  have hsum : fnv32 (fnv32 (fnv32 2166136261 head) [0]) l = sum32 head l := by rw [sum32, ← fnv32_append, ← fnv32_append]; simp
  rw [hsum] at hH3
  have hc : w3.cell? ⟨w.heap.size + 1, 0, none⟩ = some (.int .u32 (sum32 head l)) := by rw [cell_of_row _ _ _ _ _ _ hH3]; rfl
  have hsr := fnv32_range 2166136261 (head ++ 0 :: l) (by decide) (by decide)
  have hsr0 : 0 ≤ sum32 head l := hsr.1
  have hsr1 : sum32 head l < 4294967296 := hsr.2
  have HK3 := Lib.hid hK3
  have hx3 : w3.cell? ⟨D, o, none⟩ = some (.int .i64 v) := by rw [hB3.cell hD]; exact hx
  have hf3 : w3.frozen? ⟨D, o, none⟩ = false := by rw [hB3.frozen hD]; exact hf
  clear hw3 hH3 hK3 hsum hsr
  go_wp2_with (first | (refine wpList_load_row rfl 36 _ rfl w.heap.size rfl _ _ _ _ HK3.out Tryz.underlying36 rfl (by rw [infoSecret, cells_size, Hk.out]) ?_))
  rw [sumL_wrap]
  refine (derive_any D o v _ k _ _ Hk.out (by decide) hx3 hf3 hb0 (by omega)).mono ?_
  rintro e w4 ⟨rfl, hb4⟩
  rw [lTag_eq]
  have hB4 : Below w.heap.size (w.setCell ⟨D, o, none⟩ (.int .i64 (v + 1))) w4 := (below_setCell hB3 _ _).trans (hb4.mono hB3.size)
  have hsz : w.heap.size ≤ w4.heap.size := by have := hB4.size; rwa [size_setCell] at this
  go_wp2_with (first | (refine wpList_store_row rfl 36 _ _ rfl _ _ rfl rfl _ _ (heap_alloc_new _ _) (by rw [infoSecret, cells_size, kd_length]) (by rw [cells_size, kd_length]; rfl) (cells_one _) ?_; rw [World.setRow_alloc_new]))
  go_ret
  exact ⟨_, rfl, hsz, heap_alloc_new _ _, hB4.alloc hsz _⟩
end Go.Proofs.YtccidllcjaaeeabGreatDoor
/- The walks of kdf's Seal and Open, and of the calls Seal and Open: they compute what the plain law tells. Conditions: the key has eight bytes, text and head at most 65540, the counter is far from its end. -/
namespace Go.Proofs.YtccidllcjaaeeabGreatDoor
set_option maxRecDepth 100000
open Go.RowKit
theorem ownsRow_keep {w w' : World} {b : Nat} {e size : Nat} {v : Value} {n : Nat} {xs : List Value} (h : w.ownsRow b e size v n xs) (hk : ∀ g, b ≤ g → g < w.heap.size → w'.heap[g]? = w.heap[g]?) : w'.ownsRow b e size v n xs := by
  obtain ⟨h1, h2⟩ := h
  refine ⟨h1, ?_⟩
  rcases h2 with h2 | ⟨g, cap, cur, a1, a2, a3, a4⟩
  · exact .inl h2
  · exact .inr ⟨g, cap, cur, a1, a2, (hk g a2 (Array.getElem?_eq_some_iff.1 a3).1).trans a3, a4⟩
theorem bdrewN {B : Nat} {a w : World} (h : Below B a w) (n : Nat) : Below B a (w.drewN n) := ⟨h.os, h.tape, h.output, h.size, h.block⟩
theorem range_row {w : World} {b t : Nat} {fr : Nat × Nat} {l : List UInt8} (h : w.heap[b]? = some (.cells (cells l) t fr)) : w.rangeAt b 0 (cells l).toList := by
  intro j v hv
  rw [Nat.zero_add, cell_of_row _ _ _ _ _ _ h]
  simpa using hv
theorem eight {k : List UInt8} (h : k.length = 8) : ∃ a0 a1 a2 a3 a4 a5 a6 a7, k = [a0, a1, a2, a3, a4, a5, a6, a7] := by
  match k, h with
  | [a, b, c, d, e, f, g, h], _ => exact ⟨a, b, c, d, e, f, g, h, rfl⟩
theorem eight_cells {w : World} {b t : Nat} {fr : Nat × Nat} {a0 a1 a2 a3 a4 a5 a6 a7 : UInt8} (h : w.heap[b]? = some (.cells (cells [a0, a1, a2, a3, a4, a5, a6, a7]) t fr)) :
    w.cell? ⟨b, 0, none⟩ = some (.int .u8 a0.toNat) ∧ w.cell? ⟨b, 1, none⟩ = some (.int .u8 a1.toNat) ∧ w.cell? ⟨b, 2, none⟩ = some (.int .u8 a2.toNat) ∧ w.cell? ⟨b, 3, none⟩ = some (.int .u8 a3.toNat) ∧ w.cell? ⟨b, 4, none⟩ = some (.int .u8 a4.toNat) ∧ w.cell? ⟨b, 5, none⟩ = some (.int .u8 a5.toNat) ∧ w.cell? ⟨b, 6, none⟩ = some (.int .u8 a6.toNat) ∧ w.cell? ⟨b, 7, none⟩ = some (.int .u8 a7.toNat) := by
  refine ⟨?_, ?_, ?_, ?_, ?_, ?_, ?_, ?_⟩ <;> (rw [cell_of_row _ _ _ _ _ _ h]; rfl)
/-- One thing or the other, by a Bool. -/
def Either (b : Bool) (A B : Prop) : Prop := match b with
  | true => A
  | false => B
theorem cnt_other {w w' : World} {D o g : Nat} {x : Value} (h : Below w.heap.size (w.setCell ⟨D, o, none⟩ x) w') (hg : g < w.heap.size) (hD : g ≠ D) : w'.heap[g]? = w.heap[g]? := by
  rw [h.block g hg, heap_setCell_other _ _ _ _ hD]
theorem cnt_size {w w' : World} {p : Addr} {x : Value} (h : Below w.heap.size (w.setCell p x) w') : w.heap.size ≤ w'.heap.size := by
  have := h.size; rwa [size_setCell] at this
theorem cnt_base {w a w' : World} {p : Addr} {x : Value} (hb : Below w.heap.size w a) (h : Below a.heap.size (a.setCell p x) w') : Below w.heap.size (w.setCell p x) w' :=
  (below_setCell hb p x).trans (h.mono hb.size)

set_option maxRecDepth 100000 in
set_option maxHeartbeats 1000000 in
theorem seal_any (D o : Nat) (v : Int) (w : World) (k : List UInt8) (p1 p2 : Option Addr) (c1 c2 : Nat) (head l : List UInt8) (hk : k.length = 8)
    (hx : w.cell? ⟨D, o, none⟩ = some (.int .i64 v)) (hf : w.frozen? ⟨D, o, none⟩ = false) (hb0 : 0 ≤ v) (hb1 : v ≤ 4611686018426000000)
    (hl1 : head.length ≤ 9223372036854775807) (hr1 : Rd w p1 head)
    (hp : p2 = none → c2 = 0 ∧ l = []) (hs : p2 ≠ none → ∃ b o, p2 = some ⟨b, o, none⟩) (hl2 : l.length ≤ 65540) (hr2 : Rd w p2 l) :
    Calls Tryz.prog 59 #[.pointer (some ⟨D, o, none⟩), .agg (cells k), .slice p1 head.length c1, .slice p2 l.length c2] w fun e w' =>
      ∃ r, e = .returned r ∧ w'.ownsRow w.heap.size 5 1 r (l.length + 4) (cells (sealL k head l)).toList ∧ Below w.heap.size (w.setCell ⟨D, o, none⟩ (.int .i64 (v + ((l.length + 7) / 8 : Nat) + 1))) w' := by
  obtain ⟨i0, hi, hz0, hz1, hz2⟩ := info_parts infoU8
  have hD : D < w.heap.size := block_lt_of_cell hx
  have Hk := Lib.hid hk
  clear hk
  go_enter Tryz.func59, Tryz.ntmps59
  go_wp2_with (first | (refine wpList_load_row rfl 36 _ rfl w.heap.size rfl _ _ _ _ (heap_alloc_new _ _) Tryz.underlying36 rfl (by rw [infoSecret, cells_size, Hk.out]) ?_))
  have hB0 : Below w.heap.size w (w.alloc (.cells (cells k) 36)) := balloc (Below.refl _ _) _
  refine (mix_any D o v _ k p2 c2 l Hk.out (by rw [hB0.cell hD]; exact hx) (by rw [hB0.frozen hD]; exact hf) hb0 (by omega) hp hs hl2 (hr2.alloc _)).mono ?_
  rintro e w1 ⟨r, rfl, hown, hbel⟩
  have hb1' := cnt_base hB0 hbel
  have hK1 : w1.heap[w.heap.size]? = some (.cells (cells k) 36 (0, 0)) := by
    rw [cnt_other hbel (by simp) (by omega)]; exact heap_alloc_new _ _
  have hown : w1.ownsRow (w.heap.size + 1) 5 1 r l.length (cells (mixL k l)).toList := by simpa using hown
  obtain ⟨q, c, rfl, hq⟩ := ownsRow_slice hown
  have HK1 := Lib.hid hK1
  have Hq := Lib.hid hq
  have Hown := Lib.hid hown
  have hml := mixL_length k l
  have Hml := Lib.hid hml
  clear hK1 hq hown hml
  go_wp2_with (first | (refine wpList_load_row rfl 36 _ rfl w.heap.size rfl _ _ _ _ HK1.out Tryz.underlying36 rfl (by rw [infoSecret, cells_size, Hk.out]) ?_))
  have hrm : Rd w1 q (mixL k l) := by
    have := Hown.out
    rw [← Hml.out] at this
    exact Rd.own this
  rw [← Hml.out]
  refine (tag_any D o _ w1 k p1 q c1 c head (mixL k l) Hk.out (cnt_cell hb1' hx) (cnt_frozen hb1' hx hf) (by omega) (by omega) hl1 (by rw [Hml.out]; omega) (hr1.count hx hb1') hrm).mono ?_
  rintro e w2 ⟨T, rfl, hT, hTr, hb2⟩
  rw [Hml.out]
  have hB2 := cnt_next hb1' hb2
  have ho2 : w2.ownsRow (w.heap.size + 1) 5 1 (.slice q l.length c) l.length (cells (mixL k l)).toList :=
    ownsRow_keep Hown.out fun g h1 h2 => cnt_other hb2 h2 (by omega)
  have htg := (Rd.row hTr).take 4
  have hsz := cnt_size hB2
  have hs1 : w.heap.size + 1 ≤ w1.heap.size := by have := cnt_size hbel; simpa using this
  have hs2 := cnt_size hb2
  clear hTr
  go_wp2_with (at_builtin; go_must (refine wpList_append_own _ rfl _ _ 73 rfl (w.heap.size + 1) 5 i0 (.int .u8 0) 1 1 Tryz.underlying73 hi hz0 hz1 hz2 rfl (by decide) _ l.length (cells (mixL k l)).toList rfl ho2 ⟨T, 0, none⟩ 4 8 (cells (tagL k head (mixL k l))).toList rfl rfl htg.news (cells_oneCell _) (by unfold maxLen; omega) (by omega) (Nat.le_trans hs1 hs2) ?_); intro v3 w3 hown3 hg3 _)
  go_ret
  refine ⟨_, rfl, ?_, ?_⟩
  · rw [cells_append] at hown3
    exact ownsRow_mono hown3 (by omega)
  · exact hB2.grown hg3 hsz fun g hg => by have := (ho2.lt g hg).1; omega

set_option maxRecDepth 100000 in
set_option maxHeartbeats 1000000 in
theorem open_short (D o : Nat) (w : World) (k : List UInt8) (v1 v3 : Option Addr) (c1 n1 c3 n : Nat) (hn : n < 4) :
    Calls Tryz.prog 95 #[.pointer (some ⟨D, o, none⟩), .agg (cells k), .slice v1 n1 c1, .slice v3 n c3] w fun e w' =>
      e = .returned (.tuple #[.slice none 0 0, .bool false]) ∧ Below w.heap.size w w' := by
  have h1 : (n : Int) < 4 := by omega
  have h0 : (0 : Int) ≤ n := by omega
  go_enter Tryz.func95, Tryz.ntmps95
  have hd : decide ((n : Int) - 4 < 0) = true := by simp; omega
  go_wp2
  go_quiet (fail)
  go_wp2
  go_ret2
  exact ⟨rfl, bdrewN (balloc (Below.refl _ _) _) _⟩

theorem tag_read {w : World} {T t : Nat} {fr : Nat × Nat} {k head l : List UInt8} (h : w.heap[T]? = some (.cells (cells (kd k lTag (sumL head l))) t fr)) : Rd w (some ⟨T, 0, none⟩) (tagL k head l) := by
  unfold tagL
  exact (Rd.row h).take 4
theorem eight_cells' {w : World} {b t : Nat} {fr : Nat × Nat} {k : List UInt8} {a0 a1 a2 a3 a4 a5 a6 a7 : UInt8} (hk : k = [a0, a1, a2, a3, a4, a5, a6, a7]) (h : w.heap[b]? = some (.cells (cells k) t fr)) :
    w.cell? ⟨b, 0, none⟩ = some (.int .u8 a0.toNat) ∧ w.cell? ⟨b, 1, none⟩ = some (.int .u8 a1.toNat) ∧ w.cell? ⟨b, 2, none⟩ = some (.int .u8 a2.toNat) ∧ w.cell? ⟨b, 3, none⟩ = some (.int .u8 a3.toNat) ∧ w.cell? ⟨b, 4, none⟩ = some (.int .u8 a4.toNat) ∧ w.cell? ⟨b, 5, none⟩ = some (.int .u8 a5.toNat) ∧ w.cell? ⟨b, 6, none⟩ = some (.int .u8 a6.toNat) ∧ w.cell? ⟨b, 7, none⟩ = some (.int .u8 a7.toNat) := by
  subst hk
  exact eight_cells h
theorem tag_at (D o : Nat) (v : Int) (w : World) (k : List UInt8) (p1 p2 : Option Addr) (c1 c2 n1 n2 : Nat) (head l : List UInt8) (hn1 : head.length = n1) (hn2 : l.length = n2) (hk : k.length = 8)
    (hx : w.cell? ⟨D, o, none⟩ = some (.int .i64 v)) (hf : w.frozen? ⟨D, o, none⟩ = false) (hb0 : 0 ≤ v) (hb1 : v ≤ 4611686018427000000)
    (hl1 : n1 ≤ 9223372036854775807) (hl2 : n2 ≤ 9223372036854775807) (hr1 : Rd w p1 head) (hr2 : Rd w p2 l) :
    Calls Tryz.prog 90 #[.pointer (some ⟨D, o, none⟩), .agg (cells k), .slice p1 n1 c1, .slice p2 n2 c2] w fun e w' =>
      ∃ T, e = .returned (.slice (some ⟨T, 0, none⟩) 4 8) ∧ w.heap.size ≤ T ∧ Rd w' (some ⟨T, 0, none⟩) (tagL k head l) ∧ Below w.heap.size (w.setCell ⟨D, o, none⟩ (.int .i64 (v + 1))) w' := by
  subst hn1 hn2
  exact (tag_any D o v w k p1 p2 c1 c2 head l hk hx hf hb0 hb1 hl1 hl2 hr1 hr2).mono fun e w' ⟨T, h1, h2, h3, h4⟩ => ⟨T, h1, h2, tag_read h3, h4⟩
theorem mix_at (D o : Nat) (v : Int) (w : World) (k : List UInt8) (p : Option Addr) (cap n : Nat) (l : List UInt8) (hn : l.length = n) (hk : k.length = 8)
    (hx : w.cell? ⟨D, o, none⟩ = some (.int .i64 v)) (hf : w.frozen? ⟨D, o, none⟩ = false) (hb0 : 0 ≤ v) (hb1 : v ≤ 4611686018427000000)
    (hp : p = none → cap = 0 ∧ l = []) (hs : p ≠ none → ∃ b o, p = some ⟨b, o, none⟩) (hl : n ≤ 65540) (hr : Rd w p l) :
    Calls Tryz.prog 89 #[.pointer (some ⟨D, o, none⟩), .agg (cells k), .slice p n cap] w fun e w' =>
      ∃ r, e = .returned r ∧ w'.ownsRow w.heap.size 5 1 r n (cells (mixL k l)).toList ∧ Below w.heap.size (w.setCell ⟨D, o, none⟩ (.int .i64 (v + ((n + 7) / 8 : Nat)))) w' := by
  subst hn
  exact mix_any D o v w k p cap l hk hx hf hb0 hb1 hp hs hl hr
theorem equal_at (w : World) (p q : Option Addr) (c d n1 n2 : Nat) (l m : List UInt8) (hn1 : l.length = n1) (hn2 : m.length = n2) (hl : Rd w p l) (hm : Rd w q m) :
    Calls Tryz.prog 125 #[.slice p n1 c, .slice q n2 d] w fun e w' => e = .returned (.bool (l == m)) ∧ w' = w := by
  subst hn1 hn2
  exact equal_any w p q c d l m hl hm
set_option maxRecDepth 100000 in
set_option maxHeartbeats 1000000 in
theorem open_any (D o : Nat) (v : Int) (w : World) (k : List UInt8) (p1 : Option Addr) (b3 o3 c1 c3 : Nat) (head s : List UInt8) (hk : k.length = 8)
    (hx : w.cell? ⟨D, o, none⟩ = some (.int .i64 v)) (hf : w.frozen? ⟨D, o, none⟩ = false) (hb0 : 0 ≤ v) (hb1 : v ≤ 4611686018426000000)
    (hl1 : head.length ≤ 9223372036854775807) (hr1 : Rd w p1 head)
    (hl2 : s.length ≤ 65540) (h4 : 4 ≤ s.length) (hc3 : s.length ≤ c3) (hr2 : Rd w (some ⟨b3, o3, none⟩) s) :
    Calls Tryz.prog 95 #[.pointer (some ⟨D, o, none⟩), .agg (cells k), .slice p1 head.length c1, .slice (some ⟨b3, o3, none⟩) s.length c3] w fun e w' =>
      Either (opensB k head s) (∃ r, e = .returned (.tuple #[r, .bool true]) ∧ w'.ownsRow w.heap.size 5 1 r (s.length - 4) (cells (openT k s)).toList ∧ Below w.heap.size (w.setCell ⟨D, o, none⟩ (.int .i64 (v + 1 + ((s.length - 4 + 7) / 8 : Nat)))) w')
      (e = .returned (.tuple #[.slice none 0 0, .bool false]) ∧ Below w.heap.size (w.setCell ⟨D, o, none⟩ (.int .i64 (v + 1))) w') := by
  have hD : D < w.heap.size := block_lt_of_cell hx
  have Hk := Lib.hid hk
  clear hk
  have Hs1 : Hid ((s.take (s.length - 4)).length = s.length - 4) := Lib.hid (by rw [List.length_take]; omega)
  have Hs2 : Hid ((s.drop (s.length - 4)).length = s.length - (s.length - 4)) := Lib.hid (by rw [List.length_drop])
  have hd : decide ((s.length : Int) - 4 < 0) = false := by simp; omega
  generalize hN : s.length = N at *
  have HN := Lib.hid hN
  clear hN
  have hc4 : ¬ c3 = N - 4 := by omega
  have hi0 : (0 : Int) ≤ (N : Int) - 4 := by omega
  have hi3 : (4 : Int) ≤ (N : Int) := by omega
  have hi4 : (N : Int) ≤ (c3 : Int) + 4 := by omega
  have hi5 : (N : Int) ≤ (c3 : Int) := by omega
  have hi6 : ((N : Int) - 4).toNat = N - 4 := by omega
  have hi7 : IntKind.i64.wrap ((N : Int) - 4) = (N : Int) - 4 := IntWalk.i64_in _ (by omega)
  have hi1 : (N : Int) - 4 ≤ (N : Int) := by omega
  have hi2 : (N : Int) - 4 ≤ (c3 : Int) := by omega
  go_enter Tryz.func95, Tryz.ntmps95
  go_upto_region 2 with (fail)
  generalize hW : World.alloc _ _ = W
  have hKW : W.heap[w.heap.size]? = some (.cells (cells k) 36 (0, 0)) := by rw [← hW]; exact heap_alloc_new _ _
  have hBW : Below w.heap.size w W := by rw [← hW]; exact balloc (Below.refl _ _) _
  have hsW : w.heap.size < W.heap.size := by rw [← hW]; simp
  clear hW
  obtain ⟨a0, a1, a2, a3, a4, a5, a6, a7, hk8⟩ := eight Hk.out
  have Hk8 := Lib.hid hk8
  clear hk8
  have Hc : Hid (#[Value.int .u8 a0.toNat, .int .u8 a1.toNat, .int .u8 a2.toNat, .int .u8 a3.toNat, .int .u8 a4.toNat, .int .u8 a5.toNat, .int .u8 a6.toNat, .int .u8 a7.toNat] = cells k) := Lib.hid (by rw [Hk8.out]; rfl)
  obtain ⟨e0, e1, e2, e3, e4, e5, e6, e7⟩ := eight_cells' Hk8.out hKW
  have HKW := Lib.hid hKW
  clear hKW
  obtain ⟨bq, Hbq⟩ : ∃ bq : Bool, Hid ((tagL k head (s.take (N - 4)) == s.drop (N - 4)) = bq) := ⟨_, Lib.hid rfl⟩
  go_cut [29] (fun s29 wx => s29 = .bool (!bq) ∧ wx.heap[w.heap.size]? = some (.cells (cells k) 36 (0, 0)) ∧ Below w.heap.size (w.setCell ⟨D, o, none⟩ (.int .i64 (v + 1))) wx ∧ w.heap.size < wx.heap.size)
  case first =>
    have Q1 : W.drew.cell? ⟨D, o, none⟩ = some (.int .i64 v) := by rw [World.cell?_drew, hBW.cell hD]; exact hx
    have Q2 : W.drew.frozen? ⟨D, o, none⟩ = false := by rw [World.frozen?_drew, hBW.frozen hD]; exact hf
    have Q3 : v ≤ 4611686018427000000 := by omega
    have Q4 : N - 4 ≤ 9223372036854775807 := by omega
    have Q5 : Rd W.drew p1 head := hr1.below hBW.drew
    have Q6 : Rd W.drew (some ⟨b3, o3, none⟩) (s.take (N - 4)) := (hr2.below hBW.drew).take _
    have Q7' : ∀ w2, Below W.drew.heap.size (W.drew.setCell ⟨D, o, none⟩ (.int .i64 (v + 1))) w2 → w2.heap[w.heap.size]? = some (.cells (cells k) 36 (0, 0)) := fun w2 h => by
      rw [cnt_other h hsW (by omega)]; exact HKW.out
    have Q8' : ∀ w2, Below W.drew.heap.size (W.drew.setCell ⟨D, o, none⟩ (.int .i64 (v + 1))) w2 → Rd w2 (some ⟨b3, o3 + (N - 4), none⟩) (s.drop (N - 4)) := fun w2 h => by
      have := (hr2.below hBW.drew).count Q1 h
      exact this.drop _
    have Q7 := Lib.hid Q7'
    have Q8 := Lib.hid Q8'
    clear Q7' Q8'
    go_region_held3 (fun w' => w'.cell? ⟨w.heap.size, 0, none⟩ = some (.int .u8 a0.toNat) ∧ w'.cell? ⟨w.heap.size, 1, none⟩ = some (.int .u8 a1.toNat) ∧ w'.cell? ⟨w.heap.size, 2, none⟩ = some (.int .u8 a2.toNat) ∧ w'.cell? ⟨w.heap.size, 3, none⟩ = some (.int .u8 a3.toNat) ∧ w'.cell? ⟨w.heap.size, 4, none⟩ = some (.int .u8 a4.toNat) ∧ w'.cell? ⟨w.heap.size, 5, none⟩ = some (.int .u8 a5.toNat) ∧ w'.cell? ⟨w.heap.size, 6, none⟩ = some (.int .u8 a6.toNat) ∧ w'.cell? ⟨w.heap.size, 7, none⟩ = some (.int .u8 a7.toNat)) (refine ⟨?_, ?_, ?_, ?_, ?_, ?_, ?_, ?_⟩ <;> (first | assumption | (simp only [World.cell?_drew]; assumption))) (first | (go_at_call 90; (rw [Hc.out]; refine (tag_at D o v _ k p1 _ c1 _ _ _ head (s.take (N - 4)) rfl Hs1.out Hk.out ?_ ?_ hb0 ?_ hl1 ?_ ?_ ?_).mono ?_); exact Q1; exact Q2; exact Q3; exact Q4; exact Q5; exact Q6; rintro e w2 ⟨T, rfl, hT, hTr, hb2⟩; have hrow2 := Lib.hid (Q7.out _ hb2); obtain ⟨k0, k1, k2, k3, k4, k5, k6, k7⟩ := eight_cells' Hk8.out hrow2.out) | (go_at_call 125; go_must (refine (equal_at _ _ _ _ _ _ _ (tagL k head (s.take (N - 4))) (s.drop (N - 4)) (tagL_length _ _ _) Hs2.out ?_ ?_).mono ?_; exact hTr; exact Q8.out _ hb2; rintro e w3 ⟨rfl, rfl⟩; rw [Hbq.out])))
    go_wp2_with fail
    go_meet
    exact ⟨rfl, hrow2.out, cnt_base hBW.drew hb2, Nat.lt_of_lt_of_le (show w.heap.size < W.drew.heap.size from hsW) (cnt_size hb2)⟩
  case rest =>
    obtain ⟨rfl, hkr, hbb, hsc⟩ := hcut
    have hop : opensB k head s = bq := by
      rw [opensB, HN.out, Hbq.out]
      simp [h4]
    have Hop := Lib.hid hop
    clear hop e0 e1 e2 e3 e4 e5 e6 e7
    have Hkr := Lib.hid hkr
    clear hkr
    cases bq with
    | false =>
      go_wp2
      go_ret2
      rw [Hop.out]
      exact ⟨rfl, hbb⟩
    | true =>
      obtain ⟨e0, e1, e2, e3, e4, e5, e6, e7⟩ := eight_cells' Hk8.out Hkr.out
      have Q1 : wc.drew.cell? ⟨D, o, none⟩ = some (.int .i64 (v + 1)) := by rw [World.cell?_drew]; exact cnt_cell hbb hx
      have Q2 : wc.drew.frozen? ⟨D, o, none⟩ = false := by rw [World.frozen?_drew]; exact cnt_frozen hbb hx hf
      have Q3 : v + 1 ≤ 4611686018427000000 := by omega
      have Q6 : Rd wc.drew (some ⟨b3, o3, none⟩) (s.take (N - 4)) := by
        have h := (hr2.count hx hbb).take (N - 4)
        exact h.below (Below.refl _ _).drew
      have Q7' : ∀ w2, Below wc.drew.heap.size (wc.drew.setCell ⟨D, o, none⟩ (.int .i64 (v + 1 + ((N - 4 + 7) / 8 : Nat)))) w2 → w2.heap[w.heap.size]? = some (.cells (cells k) 36 (0, 0)) := fun w2 h => by
        rw [cnt_other h hsc (by omega)]; exact Hkr.out
      have Q7 := Lib.hid Q7'
      clear Q7'
      have Q8 : some (⟨b3, o3, none⟩ : Addr) = none → c3 = 0 ∧ s.take (N - 4) = [] := fun h => by cases h
      have Q9 : some (⟨b3, o3, none⟩ : Addr) ≠ none → ∃ b o, some (⟨b3, o3, none⟩ : Addr) = some ⟨b, o, none⟩ := fun _ => ⟨_, _, rfl⟩
      have Q8h := Lib.hid Q8
      have Q9h := Lib.hid Q9
      clear Q8 Q9
      have hv1 : 0 ≤ v + 1 := by omega
      have hn65 : N - 4 ≤ 65540 := by omega
      simp only [Bool.not_true]
      go_upto_region 4 with (fail)
      go_region_held3 (fun w' => w'.cell? ⟨w.heap.size, 0, none⟩ = some (.int .u8 a0.toNat) ∧ w'.cell? ⟨w.heap.size, 1, none⟩ = some (.int .u8 a1.toNat) ∧ w'.cell? ⟨w.heap.size, 2, none⟩ = some (.int .u8 a2.toNat) ∧ w'.cell? ⟨w.heap.size, 3, none⟩ = some (.int .u8 a3.toNat) ∧ w'.cell? ⟨w.heap.size, 4, none⟩ = some (.int .u8 a4.toNat) ∧ w'.cell? ⟨w.heap.size, 5, none⟩ = some (.int .u8 a5.toNat) ∧ w'.cell? ⟨w.heap.size, 6, none⟩ = some (.int .u8 a6.toNat) ∧ w'.cell? ⟨w.heap.size, 7, none⟩ = some (.int .u8 a7.toNat)) (refine ⟨?_, ?_, ?_, ?_, ?_, ?_, ?_, ?_⟩ <;> (first | assumption | (simp only [World.cell?_drew]; assumption))) (first | (go_at_call 89; rw [Hc.out]; refine (mix_at D o (v + 1) _ k _ c3 _ (s.take (N - 4)) Hs1.out Hk.out ?_ ?_ hv1 ?_ Q8h.out Q9h.out hn65 ?_).mono ?_; exact Q1; exact Q2; exact Q3; exact Q6; rintro e w2 ⟨r, rfl, hro, hb2⟩; have hrow2 := Lib.hid (Q7.out _ hb2); obtain ⟨k0, k1, k2, k3, k4, k5, k6, k7⟩ := eight_cells' Hk8.out hrow2.out))
      go_wp2_with fail
      go_ret2
      rw [Hop.out]
      refine ⟨r, rfl, ?_, cnt_next hbb.drew hb2⟩
      rw [openT, HN.out]
      exact ownsRow_mono hro (cnt_size hbb.drew)
end Go.Proofs.YtccidllcjaaeeabGreatDoor
/- The walks of the calls Seal and Open (package epoch) and of the reference's mixed, sum, Seal and Open: both sides compute what the plain law tells. Conditions: the key has eight bytes, the texts at most 65540. -/
namespace Go.Proofs.YtccidllcjaaeeabGreatDoor
set_option maxRecDepth 100000
open Go.RowKit


/-- A block that begins with these bytes, none of which is frozen. -/
def BufAt (w : World) (B : Nat) (L : List UInt8) : Prop :=
  ∃ cs lo hi, w.heap[B]? = some (.cells cs 5 (lo, hi)) ∧ cs.size ≤ lo ∧ L.length ≤ cs.size ∧ ∀ j, j < L.length → cs[j]? = some (.int .u8 (L.getD j 0).toNat)
theorem BufAt.cell {w : World} {B : Nat} {L : List UInt8} (h : BufAt w B L) (j : Nat) (hj : j < L.length) : w.cell? ⟨B, j, none⟩ = some (.int .u8 (L.getD j 0).toNat) := by
  obtain ⟨cs, lo, hi, h1, _, _, h4⟩ := h
  rw [cell_of_row _ _ _ _ _ _ h1]
  exact h4 j hj
theorem BufAt.frozen {w : World} {B : Nat} {L : List UInt8} (h : BufAt w B L) (j : Nat) (hj : j < L.length) : w.frozen? ⟨B, j, none⟩ = false := by
  obtain ⟨cs, lo, hi, h1, h2, h3, _⟩ := h
  simp [World.frozen?, h1]
  omega
theorem BufAt.rd {w : World} {B : Nat} {L : List UInt8} (h : BufAt w B L) : Rd w (some ⟨B, 0, none⟩) L :=
  fun _ => ⟨B, 0, rfl, fun j hj => by rw [Nat.zero_add]; exact h.cell j hj⟩
theorem BufAt.keep {w w' : World} {B : Nat} {L : List UInt8} (h : BufAt w B L) (hb : w'.heap[B]? = w.heap[B]?) : BufAt w' B L := by
  obtain ⟨cs, lo, hi, h1, h2⟩ := h
  exact ⟨cs, lo, hi, hb.trans h1, h2⟩
theorem BufAt.set {w : World} {B : Nat} {L : List UInt8} (h : BufAt w B L) (i : Nat) (b : UInt8) (hi : i < L.length) : BufAt (w.setCell ⟨B, i, none⟩ (.int .u8 b.toNat)) B (L.set i b) := by
  obtain ⟨cs, lo, hi', h1, h2, h3, h4⟩ := h
  refine ⟨cs.setIfInBounds i (.int .u8 b.toNat), lo, hi', ?_, by simpa using h2, by simpa using h3, ?_⟩
  · rw [setCell_eq_setRow w B i cs _ _ _ h1]
    exact setRow_heap _ _ _ _ _ _ h1
  · intro j hj
    rw [List.length_set] at hj
    rw [Array.getElem?_setIfInBounds, List.getD_eq_getElem?_getD, List.getElem?_set]
    by_cases e : i = j
    · subst e
      rw [if_pos rfl, if_pos rfl, if_pos (by omega), if_pos hj]; rfl
    · rw [if_neg e, if_neg e, ← List.getD_eq_getElem?_getD]
      exact h4 j hj
theorem bytes_below (w : World) (s : ByteArray) : Below w.heap.size w (Lib.bytesWorld w 5 s) :=
  ⟨rfl, rfl, rfl, by rw [Lib.bytesWorld_size]; omega, fun k hk => Lib.bytesWorld_at_old w _ s k hk⟩
theorem bytes_buf (w : World) (s : ByteArray) : BufAt (Lib.bytesWorld w 5 s) w.heap.size s.data.toList := by
  refine ⟨_, _, _, Lib.bytesWorld_at_new w _ s, Nat.le_refl _, by simp [Lib.bytesCells], fun j hj => ?_⟩
  have := Lib.bytesWorld_cell w 5 s j (by simpa using hj)
  rwa [cell_of_row _ _ _ _ _ _ (Lib.bytesWorld_at_new w _ s)] at this
theorem conv_bytes (w : World) (s : ByteArray) : (convert 9 73 (.string s)).run Tryz.prog w = .ok (.slice (some ⟨w.heap.size, 0, none⟩) s.size (grownCap w s.size 0 5)) (Lib.bytesWorld w 5 s) :=
  Lib.run_convert_string_bytes w 9 73 5 s Tryz.underlying9 Tryz.underlying73 Tryz.underlying5

set_option maxRecDepth 100000 in
set_option maxHeartbeats 1000000 in
theorem mixed_any (w : World) (k : List UInt8) (s : ByteArray) (hk : k.length = 8) (hl : s.size ≤ 65540) :
    Calls Tryz.prog 62 #[.agg (cells k), .string s] w fun e w' =>
      e = .returned (.string ⟨(mixL k s.data.toList).toArray⟩) ∧ Below w.heap.size w w' := by
  have Hk := Lib.hid hk
  clear hk
  go_enter Tryz.func62, Tryz.ntmps62
  go_upto_region 1 with (fail)
  generalize hW : World.alloc _ _ = W
  have hS : W.heap[w.heap.size]? = some (.cells (cells k) 36 (0, 0)) := by rw [← hW]; exact heap_alloc_new w _
  have hWb : Below w.heap.size w W := by rw [← hW]; exact balloc (Below.refl _ _) _
  have hWs : W.heap.size = w.heap.size + 1 := by rw [← hW]; simp
  clear hW
  have hconv := conv_bytes W s
  have hbb := bytes_below W s
  have hbuf := bytes_buf W s
  have hsz := Lib.bytesWorld_size W 5 s
  generalize Lib.bytesWorld W 5 s = W2 at *
  generalize grownCap W s.size 0 5 = cap at *
  have hk2 : W2.heap[w.heap.size]? = some (.cells (cells k) 36 (0, 0)) := by rw [hbb.block _ (by omega)]; exact hS
  have hW2 : Below w.heap.size w W2 := bnext hWb hbb
  have Hk2 := Lib.hid hk2
  have Hbuf := Lib.hid hbuf
  have Hsz := Lib.hid hsz
  have HWs := Lib.hid hWs
  clear hk2 hbuf hsz hS hWs
  have hlen : s.data.toList.length = s.size := by simp
  generalize hL : s.data.toList = L at *
  have HL := Lib.hid hL
  have Hlen := Lib.hid hlen
  clear hL hlen
  go_wp2
  generalize hN : s.size = N at *
  have HN := Lib.hid hN
  clear hN
  clear hconv
  have hlt0 : W.heap.size < W2.heap.size := by rw [Hsz.out]; omega
  go_loopw [6, 7] (fun i _ wr => ∃ j : Nat, j ≤ N ∧ i = .int .i64 j ∧ BufAt wr W.heap.size (mixP k j L) ∧ Below w.heap.size w wr ∧ wr.heap[w.heap.size]? = some (.cells (cells k) 36 (0, 0)) ∧ W.heap.size < wr.heap.size) (fun i _ _ => N - (intOf i).toNat)
  case atStart => exact ⟨0, Nat.zero_le _, rfl, Hbuf.out, hW2, Hk2.out, hlt0⟩
  case round =>
    obtain ⟨j, hj, rfl, hbuf, hrb, hrk, hrs⟩ := hrel
    have Hbf := Lib.hid hbuf
    have Hrk := Lib.hid hrk
    clear hbuf hrk
    have hml : (mixP k j L).length = N := by rw [mixP_length, Hlen.out]
    have Hml := Lib.hid hml
    clear hml
    by_cases hlt : j < N
    · go_wp2_with (first | (refine wpList_load_row rfl 36 _ rfl w.heap.size rfl _ _ _ _ Hrk.out Tryz.underlying36 rfl (by rw [infoSecret, cells_size, Hk.out]) ?_))
      refine (refDerive_any _ k _ _ Hk.out (by decide)).mono ?_
      rintro e w3 ⟨rfl, hb3⟩
      rw [lStream_eq]
      have hdv : ((j : Int) / 8) = ((j / 8 : Nat) : Int) := by omega
      have hbuf3 : BufAt w3 W.heap.size (mixP k j L) := Hbf.out.keep (hb3.block _ hrs)
      have hk3 : w3.heap[w.heap.size]? = some (.cells (cells k) 36 (0, 0)) := by rw [hb3.block _ (by rw [HWs.out] at hrs; omega)]; exact Hrk.out
      have hs3 : W.heap.size < w3.heap.size := Nat.lt_of_lt_of_le hrs hb3.size
      rw [hdv]
      generalize hq : kd k lStream ((j / 8 : Nat) : Int) = q
      have hql : q.length = 8 := by rw [← hq]; exact kd_length _ _ _
      have Hq := Lib.hid hq
      have Hql := Lib.hid hql
      have Hb3 := Lib.hid hbuf3
      have Hk3 := Lib.hid hk3
      clear hq hql hbuf3 hk3 hdv
      go_wp2_with (first | (refine wpList_store_row rfl 36 _ _ rfl _ _ rfl rfl _ _ (heap_alloc_new _ _) (by rw [infoSecret, cells_size, Hql.out]) (by rw [cells_size, Hql.out]; rfl) (cells_one _) ?_; rw [World.setRow_alloc_new]))
      have hcb : (w3.alloc (.cells (cells q) 36)).cell? ⟨W.heap.size, j, none⟩ = some (.int .u8 (L.getD j 0).toNat) := by
        rw [World.cell?_alloc_past _ _ _ hs3, Hb3.out.cell j (by rw [Hml.out]; exact hlt), mixP_at _ _ _ (by rw [Hlen.out]; exact hlt)]
      have hcs : (w3.alloc (.cells (cells q) 36)).cell? ⟨w3.heap.size, j % 8, none⟩ = some (.int .u8 (q.getD (j % 8) 0).toNat) := row_cell (heap_alloc_new _ _) _ (by rw [Hql.out]; omega)
      have hfb : (w3.alloc (.cells (cells q) 36)).frozen? ⟨W.heap.size, j, none⟩ = false := by
        rw [World.frozen?_alloc_old _ _ _ (by simp; omega)]
        exact Hb3.out.frozen j (by rw [Hml.out]; exact hlt)
      have htm : ((j : Int)).tmod 8 = ((j % 8 : Nat) : Int) := by rw [Int.tmod_eq_emod_of_nonneg (by omega)]; omega
      have hst : strm k j = q.getD (j % 8) 0 := by rw [strm, Hq.out]
      have hj8 : j % 8 < 8 := by omega
      generalize hr : j % 8 = r at *
      have Hst := Lib.hid hst
      clear hr hst
      have hr8 : (r : Int) < 8 := by omega
      go_region
      all_goals
        clear htm
        go_wp2
        go_roundw
        case rel =>
          refine ⟨j + 1, by omega, by go_num, ?_, ?_, ?_, ?_⟩
          · have hb := Hb3.out.set j ((L.getD j 0) ^^^ strm k j) (by rw [Hml.out]; exact hlt)
            rw [← u8_xor8, Hst.out] at hb
            rw [mixP, Hst.out]
            exact hb.keep (Below.heap_alloc _ _ _ (by rw [size_setCell]; exact hs3))
          · exact (balloc (bnext hrb hb3 |>.setCell (p := ⟨W.heap.size, j, none⟩) (by show w.heap.size ≤ W.heap.size; rw [HWs.out]; omega) _) _).drew
          · rw [heap_drew, Below.heap_alloc _ _ _ (by rw [size_setCell]; rw [HWs.out] at hs3; omega), heap_setCell_other _ _ _ _ (by rw [HWs.out]; simp)]; exact Hk3.out
          · simp; omega
        case measure => simp [intOf]; omega
    · obtain rfl : j = N := by omega
      clear hlt
      have hcs := conv_str wr (some ⟨W.heap.size, 0, none⟩) cap (mixP k j L) Hbf.out.rd
      rw [Hml.out] at hcs
      go_wp2
      go_ret
      refine ⟨?_, hrb⟩
      rw [HL.out, mixL, Hlen.out]
      rfl
end Go.Proofs.YtccidllcjaaeeabGreatDoor
