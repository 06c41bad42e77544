/- A slice of steps that came in, for the cards: what its cells hold. No condition of its own. -/
import Derived.Test.YtccidllcjaaeeabGreatDoorH6
import Derived.Deep.Slices
import Derived.Lib.SmallJoins
namespace Go.Proofs.YtccidllcjaaeeabGreatDoor
set_option maxRecDepth 100000
open Go Go.ChangeShapes Go.WideShapes Go.RowKit Go.Deep Go.ChangeAt
/-- A step. -/
structure OpV where
  kind : Int
  a : Int
  b : Int
  s : ByteArray
instance : Inhabited OpV := ⟨⟨0, 0, 0, ByteArray.empty⟩⟩
def opAt (W : World) (a : Addr) (x : OpV) : Prop := W.cell? a = some (.int .i64 x.kind) ∧ W.cell? (a.add 1) = some (.int .i64 x.a) ∧ W.cell? (a.add 2) = some (.int .i64 x.b) ∧ W.cell? (a.add 3) = some (.string x.s) ∧ (Lit.int .i64 x.a).wf = true ∧ (Lit.int .i64 x.b).wf = true ∧ x.s.size ≤ maxLen ∧ (Lit.int .i64 x.kind).wf = true
def OpsAt (W : World) (v : Value) (L : List OpV) : Prop := (v = .slice none 0 0 ∧ L = []) ∨ ∃ (a : Addr) (cap : Nat), v = .slice (some a) L.length cap ∧ L.length ≤ cap ∧ cap ≤ maxLen ∧ ∀ (i : Nat) (h : i < L.length), opAt W (a.add (i * 4)) L[i]
theorem op_cells : Tryz.prog.cellsOf 44 = 4 := by kernel_rfl
theorem op_int : Tryz.prog.cellsOf 3 = 1 := by kernel_rfl
theorem op_str : Tryz.prog.cellsOf 9 = 1 := by kernel_rfl
section
variable {H : Type} {enc : TypeId × Value → H}
theorem op_of_trod {W : World} {sp : Nat → Bool} {held : Bool} {n : Nat} {cs : List Value} {x : DataW H × List MemPlace} {f0 f1 f2 f3 : Field} (hu : Tryz.prog.underlying 44 = some (.struct #[f0, f1, f2, f3])) (hf : f0.type = 3 ∧ f0.offset = 0 ∧ f1.type = 3 ∧ f1.offset = 1 ∧ f2.type = 3 ∧ f2.offset = 2 ∧ f3.type = 9 ∧ f3.offset = 3)
    (h : DataW.trod enc Tryz.prog W 0 sp held n 44 cs = some x) (hl : cs.length = 4) : ∃ y : OpV, cs = [.int .i64 y.kind, .int .i64 y.a, .int .i64 y.b, .string y.s] ∧ (Lit.int .i64 y.a).wf = true ∧ (Lit.int .i64 y.b).wf = true ∧ y.s.size ≤ maxLen ∧ (Lit.int .i64 y.kind).wf = true := by
  match cs, hl with
  | [c0, c1, c2, c3], _ =>
    obtain ⟨t0, o0, t1, o1, t2, o2, t3, o3⟩ := hf
    obtain ⟨y0, y1, y2, y3, m, rfl, _, u0, u1, u2, u3⟩ := Go.Joins.trod_struct4 hu h
    simp only [t0, t1, t2, t3, o0, o1, o2, o3, op_int, op_str, List.drop, List.take] at u0 u1 u2 u3
    obtain ⟨k, e0, _, w0⟩ := DataW.trod_int Tryz.underlying3 u0
    obtain ⟨a, e1, _, w1⟩ := DataW.trod_int Tryz.underlying3 u1
    obtain ⟨b, e2, _, w2⟩ := DataW.trod_int Tryz.underlying3 u2
    obtain ⟨s, e3, _, w3⟩ := DataW.trod_string Tryz.underlying9 u3
    simp only [List.cons.injEq, and_true] at e0 e1 e2 e3
    subst e0 e1 e2 e3
    exact ⟨⟨k, a, b, s⟩, rfl, w1, w2, w3, w0⟩
theorem op_fields : ∃ f0 f1 f2 f3 : Field, Tryz.prog.underlying 44 = some (.struct #[f0, f1, f2, f3]) ∧ f0.type = 3 ∧ f0.offset = 0 ∧ f1.type = 3 ∧ f1.offset = 1 ∧ f2.type = 3 ∧ f2.offset = 2 ∧ f3.type = 9 ∧ f3.offset = 3 :=
  ⟨_, _, _, _, Tryz.underlying44, rfl, rfl, rfl, rfl, rfl, rfl, rfl, rfl⟩
theorem ops_of_trod {W : World} {base : Nat} {v : Value} {d : DataW H} {ps : List MemPlace} (hv : Value.okWide Tryz.prog W .any base 23 v) (h : DataW.Trod enc Tryz.prog W 0 (fun _ => true) true 23 v d ps) : ∃ L, OpsAt W v L := by
  obtain ⟨a0, len, cap, rfl⟩ := okWide_slice Tryz.underlying23 hv
  obtain ⟨fuel, hf⟩ := h
  obtain ⟨f0, f1, f2, f3, hu, hfs⟩ := op_fields
  rcases open_slice Tryz.underlying23 hf with ⟨hcs, _⟩ | ⟨a, len', cap', m, n, D, Pl, hcs, _, hl, hm, hmm, _, hall⟩
  · have e : Value.slice a0 len cap = .slice none 0 0 := by simpa [Value.cells] using hcs
    exact ⟨[], .inl ⟨e, rfl⟩⟩
  · have e : Value.slice a0 len cap = .slice (some a) len' cap' := by simpa [Value.cells] using hcs
    simp only [if_true] at hmm
    rw [op_cells] at hall
    have key : ∀ i, i < m → ∃ y : OpV, opAt W (a.add (i * 4)) y := fun i hi => by
      obtain ⟨cs, h1, h2⟩ := hall i hi
      obtain ⟨_, hlen, hcell⟩ := World.cells?_some h1
      obtain ⟨y, rfl, w1, w2, w3, w0⟩ := op_of_trod hu hfs h2 hlen
      have c0 := hcell 0 (by omega)
      have c1 := hcell 1 (by omega)
      have c2 := hcell 2 (by omega)
      have c3 := hcell 3 (by omega)
      refine ⟨y, ?_, ?_, ?_, ?_, w1, w2, w3, w0⟩
      · simpa [Addr.add] using c0
      · simpa using c1
      · simpa using c2
      · simpa using c3
    obtain ⟨Y, hY⟩ := choose_lt (α := OpV) (p := fun i y => opAt W (a.add (i * 4)) y) (h := key)
    refine ⟨(List.range len').map Y, .inr ⟨a, cap', by rw [e, List.length_map, List.length_range], by rw [List.length_map, List.length_range]; omega, hm, fun i hi => ?_⟩⟩
    rw [List.length_map, List.length_range] at hi
    rw [List.getElem_map, List.getElem_range]
    exact hY i (by omega)
end
end Go.Proofs.YtccidllcjaaeeabGreatDoor
