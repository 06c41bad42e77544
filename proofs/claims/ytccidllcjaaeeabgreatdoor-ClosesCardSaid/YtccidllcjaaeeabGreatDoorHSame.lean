/- The walk of epochkeep's same: two lists of items that are equal are the same. Conditions: the rows read. -/
import Derived.Test.YtccidllcjaaeeabGreatDoorHItems
import Derived.BigQuiet
import Derived.Laws.StructEq
namespace Go.Proofs.YtccidllcjaaeeabGreatDoor
set_option maxRecDepth 100000
open Go Go.Maps Go.RowKit
open Go.Shelf Go.Lib Go.Sort Go.MuLone
theorem part_kind (d : DItem) (h : d.s.length = 8) (w : World) : (part 86 (icells d) 0).run Tryz.prog w = .ok (.int .i64 d.kind) w := by
  obtain ⟨k, a, b, g, s⟩ := d
  obtain ⟨a0, a1, a2, a3, a4, a5, a6, a7, rfl⟩ := eight h
  kernel_rfl
theorem part_int (d : DItem) (h : d.s.length = 8) (w : World) : (part 3 (icells d) 1).run Tryz.prog w = .ok (.int .i64 d.a) w ∧ (part 3 (icells d) 2).run Tryz.prog w = .ok (.int .i64 d.b) w ∧ (part 3 (icells d) 3).run Tryz.prog w = .ok (.int .i64 d.g) w := by
  obtain ⟨k, a, b, g, s⟩ := d
  obtain ⟨a0, a1, a2, a3, a4, a5, a6, a7, rfl⟩ := eight h
  exact ⟨by kernel_rfl, by kernel_rfl, by kernel_rfl⟩
theorem part_sec (d : DItem) (h : d.s.length = 8) (w : World) : (part 36 (icells d) 4).run Tryz.prog w = .ok (.agg (cells d.s)) w := by
  obtain ⟨k, a, b, g, s⟩ := d
  obtain ⟨a0, a1, a2, a3, a4, a5, a6, a7, rfl⟩ := eight h
  kernel_rfl
theorem neq_items (d e : DItem) (hd : d.s.length = 8) (he : e.s.length = 8) : ∃ b : Bool, (d = e → b = false) ∧ ∀ w, (binOp .neq 88 (.agg (icells d)) (.agg (icells e))).run Tryz.prog w = .ok (.bool b) w := by
  refine ⟨!(((d.kind : Int) == e.kind) && ((d.a : Int) == e.a) && ((d.b : Int) == e.b) && ((d.g : Int) == e.g) && (d.s == e.s)), fun h => by subst h; simp, fun w => ?_⟩
  have hs : (Op.equalIn 9999 36 (.agg (cells d.s)) (.agg (cells e.s))).run Tryz.prog w = .ok (d.s == e.s) w := run_equalIn_bytes w 9997 36 5 8 Tryz.underlying36 Tryz.underlying5 sizeU8 d.s e.s hd he
  have h0 : (Op.equalIn 9999 86 (.int .i64 d.kind) (.int .i64 e.kind)).run Tryz.prog w = .ok ((d.kind : Int) == e.kind) w := run_equalIn_int w 9998 86 .i64 .i64 _ _ Tryz.underlying86
  have h1 := fun a b : Int => run_equalIn_int (P := Tryz.prog) w 9998 3 .i64 .i64 a b Tryz.underlying3
  have hf : (Tryz.prog.fieldsOf 88).toList.map (fun f => (f.name, f.type, f.offset)) = [("Kind", 86, 0), ("From", 3, 1), ("To", 3, 2), ("Generation", 3, 3), ("Secret", 36, 4)] := by kernel_rfl
  have hu : Tryz.prog.underlying 88 = some (.struct (Tryz.prog.fieldsOf 88)) := by kernel_rfl
  rw [run_neq_struct, run_equalIn_agg w 9999 88 _ _ hu (by kernel_rfl)]
  generalize (Tryz.prog.fieldsOf 88).toList = fs at hf
  obtain ⟨p1, p2, p3⟩ := part_int d hd w
  obtain ⟨q1, q2, q3⟩ := part_int e he w
  have p0 := part_kind d hd w
  have q0 := part_kind e he w
  have p4 := part_sec d hd w
  have q4 := part_sec e he w
  obtain ⟨f0, f1, f2, f3, f4, rfl⟩ : ∃ f0 f1 f2 f3 f4, fs = [f0, f1, f2, f3, f4] := by
    have hl := congrArg List.length hf
    simp only [List.length_map, List.length_cons, List.length_nil] at hl
    rcases fs with _ | ⟨f0, _ | ⟨f1, _ | ⟨f2, _ | ⟨f3, _ | ⟨f4, _ | ⟨f5, r⟩⟩⟩⟩⟩⟩
    · cases hl
    · cases hl
    · cases hl
    · cases hl
    · cases hl
    · exact ⟨f0, f1, f2, f3, f4, rfl⟩
    · simp at hl
  simp only [List.map_cons, List.map_nil, List.cons.injEq, Prod.mk.injEq, and_true] at hf
  obtain ⟨⟨n0, t0, o0⟩, ⟨n1, t1, o1⟩, ⟨n2, t2, o2⟩, ⟨n3, t3, o3⟩, n4, t4, o4⟩ := hf
  simp only [Op.eqFields, n0, n1, n2, n3, n4, t0, t1, t2, t3, t4, o0, o1, o2, o3, o4, Sem.run_bind, Sem.run_ite, p0, p1, p2, p3, p4, q0, q1, q2, q3, q4, h0, h1, hs, Result.andThen_ok, Sem.run_pure]
  cases (d.kind : Int) == e.kind <;> cases (d.a : Int) == e.a <;> cases (d.b : Int) == e.b <;> cases (d.g : Int) == e.g <;> cases d.s == e.s <;> rfl
theorem eqGuardItem : Tryz.prog.eqGuardType Tryz.prog.depth 88 = false := by kernel_rfl
/-- A bool that is true where the lists are equal. -/
def SameV (D E : List DItem) (v : Value) : Prop := ∃ b : Bool, v = .bool b ∧ (D = E → b = true)
end Go.Proofs.YtccidllcjaaeeabGreatDoor
