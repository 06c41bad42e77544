/- The walk of epochkeep's same: two lists of items that are equal are the same. Conditions: the rows read. -/
import Derived.Test.YtccidllcjaaeeaaGreatDoorHItems
import Derived.BigQuiet
import Derived.Laws.StructEq
namespace Go.Proofs.YtccidllcjaaeeaaGreatDoor
set_option maxRecDepth 100000
open Go Go.Maps Go.RowKit
open Go.Shelf Go.Lib Go.Sort Go.MuLone
theorem part_kind (d : DItem) (h : d.s.length = 8) (w : World) : (part 46 (icells d) 0).run Tryz.prog w = .ok (.int .i64 d.kind) w := by
  obtain ⟨k, a, b, g, s⟩ := d
  obtain ⟨a0, a1, a2, a3, a4, a5, a6, a7, rfl⟩ := eight h
  kernel_rfl
theorem part_int (d : DItem) (h : d.s.length = 8) (w : World) : (part 3 (icells d) 1).run Tryz.prog w = .ok (.int .i64 d.a) w ∧ (part 3 (icells d) 2).run Tryz.prog w = .ok (.int .i64 d.b) w ∧ (part 3 (icells d) 3).run Tryz.prog w = .ok (.int .i64 d.g) w := by
  obtain ⟨k, a, b, g, s⟩ := d
  obtain ⟨a0, a1, a2, a3, a4, a5, a6, a7, rfl⟩ := eight h
  exact ⟨by kernel_rfl, by kernel_rfl, by kernel_rfl⟩
theorem part_sec (d : DItem) (h : d.s.length = 8) (w : World) : (part 48 (icells d) 4).run Tryz.prog w = .ok (.agg (cells d.s)) w := by
  obtain ⟨k, a, b, g, s⟩ := d
  obtain ⟨a0, a1, a2, a3, a4, a5, a6, a7, rfl⟩ := eight h
  kernel_rfl
theorem neq_items (d e : DItem) (hd : d.s.length = 8) (he : e.s.length = 8) : ∃ b : Bool, (d = e → b = false) ∧ ∀ w, (binOp .neq 50 (.agg (icells d)) (.agg (icells e))).run Tryz.prog w = .ok (.bool b) w := by
  refine ⟨!(((d.kind : Int) == e.kind) && ((d.a : Int) == e.a) && ((d.b : Int) == e.b) && ((d.g : Int) == e.g) && (d.s == e.s)), fun h => by subst h; simp, fun w => ?_⟩
  have hs : (Op.equalIn 9999 48 (.agg (cells d.s)) (.agg (cells e.s))).run Tryz.prog w = .ok (d.s == e.s) w := run_equalIn_bytes w 9997 48 5 8 Tryz.underlying48 Tryz.underlying5 sizeU8 d.s e.s hd he
  have h0 : (Op.equalIn 9999 46 (.int .i64 d.kind) (.int .i64 e.kind)).run Tryz.prog w = .ok ((d.kind : Int) == e.kind) w := run_equalIn_int w 9998 46 .i64 .i64 _ _ Tryz.underlying46
  have h1 := fun a b : Int => run_equalIn_int (P := Tryz.prog) w 9998 3 .i64 .i64 a b Tryz.underlying3
  have hf : (Tryz.prog.fieldsOf 50).toList.map (fun f => (f.name, f.type, f.offset)) = [("Kind", 46, 0), ("From", 3, 1), ("To", 3, 2), ("Generation", 3, 3), ("Secret", 48, 4)] := by kernel_rfl
  have hu : Tryz.prog.underlying 50 = some (.struct (Tryz.prog.fieldsOf 50)) := by kernel_rfl
  rw [run_neq_struct, run_equalIn_agg w 9999 50 _ _ hu (by kernel_rfl)]
  generalize (Tryz.prog.fieldsOf 50).toList = fs at hf
  obtain ⟨p1, p2, p3⟩ := part_int d hd w
  obtain ⟨q1, q2, q3⟩ := part_int e he w
  have p0 := part_kind d hd w
  have q0 := part_kind e he w
  have p4 := part_sec d hd w
  have q4 := part_sec e he w
  obtain ⟨f0, f1, f2, f3, f4, rfl⟩ : ∃ f0 f1 f2 f3 f4, fs = [f0, f1, f2, f3, f4] := by
    have hl := congrArg List.length hf
    simp only [List.length_map, List.length_cons, List.length_nil] at hl
    rcases fs with _ | ⟨f0, _ | ⟨f1, _ | ⟨f2, _ | ⟨f3, _ | ⟨f4, _ | ⟨f5, r⟩⟩⟩⟩⟩⟩
    · cases hl
    · cases hl
    · cases hl
    · cases hl
    · cases hl
    · exact ⟨f0, f1, f2, f3, f4, rfl⟩
    · simp at hl
  simp only [List.map_cons, List.map_nil, List.cons.injEq, Prod.mk.injEq, and_true] at hf
  obtain ⟨⟨n0, t0, o0⟩, ⟨n1, t1, o1⟩, ⟨n2, t2, o2⟩, ⟨n3, t3, o3⟩, n4, t4, o4⟩ := hf
  simp only [Op.eqFields, n0, n1, n2, n3, n4, t0, t1, t2, t3, t4, o0, o1, o2, o3, o4, Sem.run_bind, Sem.run_ite, p0, p1, p2, p3, p4, q0, q1, q2, q3, q4, h0, h1, hs, Result.andThen_ok, Sem.run_pure]
  cases (d.kind : Int) == e.kind <;> cases (d.a : Int) == e.a <;> cases (d.b : Int) == e.b <;> cases (d.g : Int) == e.g <;> cases d.s == e.s <;> rfl
theorem eqGuardItem : Tryz.prog.eqGuardType Tryz.prog.depth 50 = false := by kernel_rfl
/-- A bool that is true where the lists are equal. -/
def SameV (D E : List DItem) (v : Value) : Prop := ∃ b : Bool, v = .bool b ∧ (D = E → b = true)
set_option maxHeartbeats 4000000 in
theorem same_any (w : World) (base base2 : Nat) (v1 v2 : Value) (D E : List DItem) (h1 : w.ownsRow base 50 12 v1 D.length (itemsV D)) (h2 : w.ownsRow base2 50 12 v2 E.length (itemsV E)) (hd8 : ∀ d ∈ D, d.s.length = 8) (he8 : ∀ d ∈ E, d.s.length = 8) :
    Calls Tryz.prog 23 #[v1, v2] w fun e w' => ∃ v, e = .returned v ∧ SameV D E v ∧ Below w.heap.size w w' := by
  obtain ⟨p1, c1, rfl⟩ := row_form h1
  obtain ⟨p2, c2, rfl⟩ := row_form h2
  by_cases hl : D.length = E.length
  · obtain ⟨n, hn⟩ : ∃ n, n = D.length := ⟨_, rfl⟩
    rw [← hl] at h2 ⊢
    rw [← hn] at h1 h2 ⊢
    have H1 := Lib.hid h1
    have H2 := Lib.hid h2
    have Hn := Lib.hid hn
    have Hl := Lib.hid hl
    have Hd8 := Lib.hid hd8
    have He8 := Lib.hid he8
    have hcap := row_cap h1
    have hbig : n ≤ 9223372036854775807 := by unfold maxLen at hcap; omega
    clear h1 h2 hn hl hd8 he8
    go_enter Tryz.func23, Tryz.ntmps23
    go_upto_region 4 with (fail)
    go_loopw [5] (fun iv wr => ∃ i : Nat, i ≤ n ∧ iv = .int .i64 i ∧ Below w.heap.size w wr) (fun iv _ => n - (intOf iv).toNat)
    case atStart => exact ⟨0, Nat.zero_le _, rfl, Below.refl _ _⟩
    case round =>
      obtain ⟨i, hin, rfl, hb⟩ := hrel
      have Hb := Lib.hid hb
      clear hb
      by_cases hi : i < n
      · have hiI : (i : Int) < (n : Nat) := by omega
        have hi0 : (0 : Int) ≤ (i : Nat) := by omega
        have hiD : i < D.length := by have := Hn.out; omega
        have hiE : i < E.length := by have := Hn.out; have := Hl.out; omega
        obtain ⟨d, hd⟩ : ∃ d, d = D[i] := ⟨_, rfl⟩
        obtain ⟨e, he⟩ : ∃ e, e = E[i] := ⟨_, rfl⟩
        have r1 := ownsRow_below H1.out Hb.out
        have r2 := ownsRow_below H2.out Hb.out
        obtain ⟨g1, rfl⟩ : ∃ g1, p1 = some ⟨g1, 0, none⟩ := by
          rcases r1.2 with ⟨_, h0⟩ | ⟨g1, cap, cur, e, _⟩
          · omega
          · cases e; exact ⟨g1, rfl⟩
        obtain ⟨g2, rfl⟩ : ∃ g2, p2 = some ⟨g2, 0, none⟩ := by
          rcases r2.2 with ⟨_, h0⟩ | ⟨g2, cap, cur, e, _⟩
          · omega
          · cases e; exact ⟨g2, rfl⟩
        have q1 : wr.rangeAt g1 (i * 12) (icells d).toList := by
          rw [hd]; exact item_range (by rw [← Hn.out]; exact r1) Hd8.out i hiD
        have q2 : wr.rangeAt g2 (i * 12) (icells e).toList := by
          rw [he]; exact item_range (by rw [← Hl.out, ← Hn.out]; exact r2) He8.out i hiE
        have hs1 : (Tryz.prog.info? 50).map (·.size) = some (icells d).toList.length := by
          rw [infoItemS, Array.length_toList, icells_size _ (by rw [hd]; exact Hd8.out _ (List.getElem_mem _))]
        have hs2 : (Tryz.prog.info? 50).map (·.size) = some (icells e).toList.length := by
          rw [infoItemS, Array.length_toList, icells_size _ (by rw [he]; exact He8.out _ (List.getElem_mem _))]
        obtain ⟨b, hbe, hrun⟩ := neq_items d e (by rw [hd]; exact Hd8.out _ (List.getElem_mem _)) (by rw [he]; exact He8.out _ (List.getElem_mem _))
        have hg := eqGuardItem
        have hd8' : d.s.length = 8 := by rw [hd]; exact Hd8.out _ (List.getElem_mem _)
        have he8' : e.s.length = 8 := by rw [he]; exact He8.out _ (List.getElem_mem _)
        obtain ⟨x0, x1, x2, x3, x4, x5, x6, x7, xs⟩ := eight hd8'
        obtain ⟨y0, y1, y2, y3, y4, y5, y6, y7, ys⟩ := eight he8'
        have k0 : wr.drew.cell? ⟨g1, i * 12, none⟩ = some (.int .i64 d.kind) := q1 0 _ (by rw [Array.getElem?_toList, icells, cells, xs]; rfl)
        have k1 : wr.drew.cell? ⟨g1, i * 12 + 1, none⟩ = some (.int .i64 d.a) := q1 1 _ (by rw [Array.getElem?_toList, icells, cells, xs]; rfl)
        have k2 : wr.drew.cell? ⟨g1, i * 12 + 2, none⟩ = some (.int .i64 d.b) := q1 2 _ (by rw [Array.getElem?_toList, icells, cells, xs]; rfl)
        have k3 : wr.drew.cell? ⟨g1, i * 12 + 3, none⟩ = some (.int .i64 d.g) := q1 3 _ (by rw [Array.getElem?_toList, icells, cells, xs]; rfl)
        have k4 : wr.drew.cell? ⟨g1, i * 12 + 4, none⟩ = some (.int .u8 x0.toNat) := q1 4 _ (by rw [Array.getElem?_toList, icells, cells, xs]; rfl)
        have k5 : wr.drew.cell? ⟨g1, i * 12 + 5, none⟩ = some (.int .u8 x1.toNat) := q1 5 _ (by rw [Array.getElem?_toList, icells, cells, xs]; rfl)
        have k6 : wr.drew.cell? ⟨g1, i * 12 + 6, none⟩ = some (.int .u8 x2.toNat) := q1 6 _ (by rw [Array.getElem?_toList, icells, cells, xs]; rfl)
        have k7 : wr.drew.cell? ⟨g1, i * 12 + 7, none⟩ = some (.int .u8 x3.toNat) := q1 7 _ (by rw [Array.getElem?_toList, icells, cells, xs]; rfl)
        have k8 : wr.drew.cell? ⟨g1, i * 12 + 8, none⟩ = some (.int .u8 x4.toNat) := q1 8 _ (by rw [Array.getElem?_toList, icells, cells, xs]; rfl)
        have k9 : wr.drew.cell? ⟨g1, i * 12 + 9, none⟩ = some (.int .u8 x5.toNat) := q1 9 _ (by rw [Array.getElem?_toList, icells, cells, xs]; rfl)
        have k10 : wr.drew.cell? ⟨g1, i * 12 + 10, none⟩ = some (.int .u8 x6.toNat) := q1 10 _ (by rw [Array.getElem?_toList, icells, cells, xs]; rfl)
        have k11 : wr.drew.cell? ⟨g1, i * 12 + 11, none⟩ = some (.int .u8 x7.toNat) := q1 11 _ (by rw [Array.getElem?_toList, icells, cells, xs]; rfl)
        have l0 : wr.drew.cell? ⟨g2, i * 12, none⟩ = some (.int .i64 e.kind) := q2 0 _ (by rw [Array.getElem?_toList, icells, cells, ys]; rfl)
        have l1 : wr.drew.cell? ⟨g2, i * 12 + 1, none⟩ = some (.int .i64 e.a) := q2 1 _ (by rw [Array.getElem?_toList, icells, cells, ys]; rfl)
        have l2 : wr.drew.cell? ⟨g2, i * 12 + 2, none⟩ = some (.int .i64 e.b) := q2 2 _ (by rw [Array.getElem?_toList, icells, cells, ys]; rfl)
        have l3 : wr.drew.cell? ⟨g2, i * 12 + 3, none⟩ = some (.int .i64 e.g) := q2 3 _ (by rw [Array.getElem?_toList, icells, cells, ys]; rfl)
        have l4 : wr.drew.cell? ⟨g2, i * 12 + 4, none⟩ = some (.int .u8 y0.toNat) := q2 4 _ (by rw [Array.getElem?_toList, icells, cells, ys]; rfl)
        have l5 : wr.drew.cell? ⟨g2, i * 12 + 5, none⟩ = some (.int .u8 y1.toNat) := q2 5 _ (by rw [Array.getElem?_toList, icells, cells, ys]; rfl)
        have l6 : wr.drew.cell? ⟨g2, i * 12 + 6, none⟩ = some (.int .u8 y2.toNat) := q2 6 _ (by rw [Array.getElem?_toList, icells, cells, ys]; rfl)
        have l7 : wr.drew.cell? ⟨g2, i * 12 + 7, none⟩ = some (.int .u8 y3.toNat) := q2 7 _ (by rw [Array.getElem?_toList, icells, cells, ys]; rfl)
        have l8 : wr.drew.cell? ⟨g2, i * 12 + 8, none⟩ = some (.int .u8 y4.toNat) := q2 8 _ (by rw [Array.getElem?_toList, icells, cells, ys]; rfl)
        have l9 : wr.drew.cell? ⟨g2, i * 12 + 9, none⟩ = some (.int .u8 y5.toNat) := q2 9 _ (by rw [Array.getElem?_toList, icells, cells, ys]; rfl)
        have l10 : wr.drew.cell? ⟨g2, i * 12 + 10, none⟩ = some (.int .u8 y6.toNat) := q2 10 _ (by rw [Array.getElem?_toList, icells, cells, ys]; rfl)
        have l11 : wr.drew.cell? ⟨g2, i * 12 + 11, none⟩ = some (.int .u8 y7.toNat) := q2 11 _ (by rw [Array.getElem?_toList, icells, cells, ys]; rfl)
        have hrun' : ∀ w, (binOp .neq 50 (.agg #[.int .i64 d.kind, .int .i64 d.a, .int .i64 d.b, .int .i64 d.g, .int .u8 x0.toNat, .int .u8 x1.toNat, .int .u8 x2.toNat, .int .u8 x3.toNat, .int .u8 x4.toNat, .int .u8 x5.toNat, .int .u8 x6.toNat, .int .u8 x7.toNat]) (.agg #[.int .i64 e.kind, .int .i64 e.a, .int .i64 e.b, .int .i64 e.g, .int .u8 y0.toNat, .int .u8 y1.toNat, .int .u8 y2.toNat, .int .u8 y3.toNat, .int .u8 y4.toNat, .int .u8 y5.toNat, .int .u8 y6.toNat, .int .u8 y7.toNat])).run Tryz.prog w = .ok (.bool b) w := fun w => by
          have h := hrun w
          rw [icells, icells, cells, cells, xs, ys] at h
          exact h
        have Hd := Lib.hid hd
        have He := Lib.hid he
        have Hbe := Lib.hid hbe
        clear hd he hbe r1 r2 q1 q2 hs1 hs2 hrun hd8' he8' xs ys
        go_upto_region 6 with (fail)
        cases b with
        | false =>
          go_region_held3 (fun w' => w'.cell? ⟨g1, i * 12, none⟩ = some (.int .i64 d.kind) ∧ w'.cell? ⟨g1, i * 12 + 1, none⟩ = some (.int .i64 d.a) ∧ w'.cell? ⟨g1, i * 12 + 2, none⟩ = some (.int .i64 d.b) ∧ w'.cell? ⟨g1, i * 12 + 3, none⟩ = some (.int .i64 d.g) ∧ w'.cell? ⟨g1, i * 12 + 4, none⟩ = some (.int .u8 x0.toNat) ∧ w'.cell? ⟨g1, i * 12 + 5, none⟩ = some (.int .u8 x1.toNat) ∧ w'.cell? ⟨g1, i * 12 + 6, none⟩ = some (.int .u8 x2.toNat) ∧ w'.cell? ⟨g1, i * 12 + 7, none⟩ = some (.int .u8 x3.toNat) ∧ w'.cell? ⟨g1, i * 12 + 8, none⟩ = some (.int .u8 x4.toNat) ∧ w'.cell? ⟨g1, i * 12 + 9, none⟩ = some (.int .u8 x5.toNat) ∧ w'.cell? ⟨g1, i * 12 + 10, none⟩ = some (.int .u8 x6.toNat) ∧ w'.cell? ⟨g1, i * 12 + 11, none⟩ = some (.int .u8 x7.toNat) ∧ w'.cell? ⟨g2, i * 12, none⟩ = some (.int .i64 e.kind) ∧ w'.cell? ⟨g2, i * 12 + 1, none⟩ = some (.int .i64 e.a) ∧ w'.cell? ⟨g2, i * 12 + 2, none⟩ = some (.int .i64 e.b) ∧ w'.cell? ⟨g2, i * 12 + 3, none⟩ = some (.int .i64 e.g) ∧ w'.cell? ⟨g2, i * 12 + 4, none⟩ = some (.int .u8 y0.toNat) ∧ w'.cell? ⟨g2, i * 12 + 5, none⟩ = some (.int .u8 y1.toNat) ∧ w'.cell? ⟨g2, i * 12 + 6, none⟩ = some (.int .u8 y2.toNat) ∧ w'.cell? ⟨g2, i * 12 + 7, none⟩ = some (.int .u8 y3.toNat) ∧ w'.cell? ⟨g2, i * 12 + 8, none⟩ = some (.int .u8 y4.toNat) ∧ w'.cell? ⟨g2, i * 12 + 9, none⟩ = some (.int .u8 y5.toNat) ∧ w'.cell? ⟨g2, i * 12 + 10, none⟩ = some (.int .u8 y6.toNat) ∧ w'.cell? ⟨g2, i * 12 + 11, none⟩ = some (.int .u8 y7.toNat)) (refine ⟨?_, ?_, ?_, ?_, ?_, ?_, ?_, ?_, ?_, ?_, ?_, ?_, ?_, ?_, ?_, ?_, ?_, ?_, ?_, ?_, ?_, ?_, ?_, ?_⟩ <;> assumption) (fail)
          go_wp2_with fail
          go_roundw
          case rel => exact ⟨i + 1, by omega, by simp, Hb.out.drew⟩
          case measure => simp only [intOf]; omega
        | true =>
          go_region_held3 (fun w' => w'.cell? ⟨g1, i * 12, none⟩ = some (.int .i64 d.kind) ∧ w'.cell? ⟨g1, i * 12 + 1, none⟩ = some (.int .i64 d.a) ∧ w'.cell? ⟨g1, i * 12 + 2, none⟩ = some (.int .i64 d.b) ∧ w'.cell? ⟨g1, i * 12 + 3, none⟩ = some (.int .i64 d.g) ∧ w'.cell? ⟨g1, i * 12 + 4, none⟩ = some (.int .u8 x0.toNat) ∧ w'.cell? ⟨g1, i * 12 + 5, none⟩ = some (.int .u8 x1.toNat) ∧ w'.cell? ⟨g1, i * 12 + 6, none⟩ = some (.int .u8 x2.toNat) ∧ w'.cell? ⟨g1, i * 12 + 7, none⟩ = some (.int .u8 x3.toNat) ∧ w'.cell? ⟨g1, i * 12 + 8, none⟩ = some (.int .u8 x4.toNat) ∧ w'.cell? ⟨g1, i * 12 + 9, none⟩ = some (.int .u8 x5.toNat) ∧ w'.cell? ⟨g1, i * 12 + 10, none⟩ = some (.int .u8 x6.toNat) ∧ w'.cell? ⟨g1, i * 12 + 11, none⟩ = some (.int .u8 x7.toNat) ∧ w'.cell? ⟨g2, i * 12, none⟩ = some (.int .i64 e.kind) ∧ w'.cell? ⟨g2, i * 12 + 1, none⟩ = some (.int .i64 e.a) ∧ w'.cell? ⟨g2, i * 12 + 2, none⟩ = some (.int .i64 e.b) ∧ w'.cell? ⟨g2, i * 12 + 3, none⟩ = some (.int .i64 e.g) ∧ w'.cell? ⟨g2, i * 12 + 4, none⟩ = some (.int .u8 y0.toNat) ∧ w'.cell? ⟨g2, i * 12 + 5, none⟩ = some (.int .u8 y1.toNat) ∧ w'.cell? ⟨g2, i * 12 + 6, none⟩ = some (.int .u8 y2.toNat) ∧ w'.cell? ⟨g2, i * 12 + 7, none⟩ = some (.int .u8 y3.toNat) ∧ w'.cell? ⟨g2, i * 12 + 8, none⟩ = some (.int .u8 y4.toNat) ∧ w'.cell? ⟨g2, i * 12 + 9, none⟩ = some (.int .u8 y5.toNat) ∧ w'.cell? ⟨g2, i * 12 + 10, none⟩ = some (.int .u8 y6.toNat) ∧ w'.cell? ⟨g2, i * 12 + 11, none⟩ = some (.int .u8 y7.toNat)) (refine ⟨?_, ?_, ?_, ?_, ?_, ?_, ?_, ?_, ?_, ?_, ?_, ?_, ?_, ?_, ?_, ?_, ?_, ?_, ?_, ?_, ?_, ?_, ?_, ?_⟩ <;> assumption) (fail)
          go_wp2_with fail
          go_ret
          refine ⟨_, rfl, ⟨false, rfl, fun h => ?_⟩, Hb.out.drew⟩
          subst h
          have := Hbe.out (by rw [Hd.out, He.out])
          cases this
      · have hiI : ¬ (i : Int) < (n : Nat) := by omega
        go_wp2_with fail
        go_ret
        exact ⟨_, rfl, ⟨true, rfl, fun _ => rfl⟩, Hb.out⟩
  · have hlI : ¬ ((D.length : Nat) : Int) = (E.length : Nat) := by omega
    go_enter Tryz.func23, Tryz.ntmps23
    go_wp2
    go_ret
    exact ⟨_, rfl, ⟨false, rfl, fun e => absurd (congrArg List.length e) hl⟩, Below.refl _ _⟩
end Go.Proofs.YtccidllcjaaeeaaGreatDoor
