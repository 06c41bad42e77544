/- Reading a row of items, one by one; what is kept behind one opened message. Conditions: stated in each. -/
import Derived.Test.YtccidllcjaaeeabGreatDoorHDump
namespace Go.Proofs.YtccidllcjaaeeabGreatDoor
set_option maxRecDepth 100000
open Go Go.Maps Go.RowKit
open Go.Shelf Go.Lib Go.Sort Go.MuLone
theorem infoItemS : (Tryz.prog.info? 88).map (·.size) = some 12 := by kernel_rfl
theorem icells_one (d : DItem) (h : d.s.length = 8) : (icells d).all (·.oneCell') = true :=
  Array.all_eq_true_iff_forall_mem.2 fun v hv => encI_one d v (by rw [encI_eq d h]; simpa using hv)
theorem itemsV_get (D : List DItem) (h8 : ∀ d ∈ D, d.s.length = 8) (i j : Nat) (hi : i < D.length) (hj : j < 12) : (itemsV D)[i * 12 + j]? = (icells D[i]).toList[j]? := by
  have key : ∀ (l : List DItem) (i j : Nat) (hi : i < l.length), j < 12 → (l.flatMap encI)[i * 12 + j]? = (encI l[i])[j]? := by
    intro l
    induction l with
    | nil => intro i j hi; simp at hi
    | cons d l ih =>
      intro i j hi hj
      rw [List.flatMap_cons]
      cases i with
      | zero => rw [List.getElem?_append_left (by rw [encI_len]; omega)]; simp
      | succ i =>
        rw [List.getElem?_append_right (by rw [encI_len]; omega), encI_len, show (i + 1) * 12 + j - 12 = i * 12 + j by omega, ih i j (by simpa using hi) hj]
        rfl
  rw [itemsV, key D i j hi hj, encI_eq _ (h8 _ (List.getElem_mem hi))]
theorem item_range {w : World} {base g c : Nat} {D : List DItem} (h : w.ownsRow base 88 12 (.slice (some ⟨g, 0, none⟩) D.length c) D.length (itemsV D)) (h8 : ∀ d ∈ D, d.s.length = 8) (i : Nat) (hi : i < D.length) : w.rangeAt g (i * 12) (icells D[i]).toList := fun j v hv => by
  have hj : j < 12 := by
    have := (List.getElem?_eq_some_iff.1 hv).1
    rwa [Array.length_toList, icells_size _ (h8 _ (List.getElem_mem hi))] at this
  have h1 : (itemsV D)[i * 12 + j]? = some v := by rw [itemsV_get D h8 i j hi hj]; exact hv
  rcases h.2 with ⟨e, _⟩ | ⟨g', cap, cur, e, _, h3, h4, h5, h6, h7⟩
  · cases e
  · cases e
    rw [cell_of_row _ _ _ _ _ _ h3]
    rw [← h7, List.getElem?_take_of_lt (by omega)] at h1
    simpa using h1
theorem item_fields {W : World} {B : Nat} {d : DItem} (h : W.heap[B]? = some (.cells (icells d) 88 (0, 0))) :
    W.cell? ⟨B, 0, none⟩ = some (.int .i64 d.kind) ∧ W.cell? ⟨B, 1, none⟩ = some (.int .i64 d.a) ∧ W.cell? ⟨B, 2, none⟩ = some (.int .i64 d.b) ∧ W.cell? ⟨B, 3, none⟩ = some (.int .i64 d.g) := by
  refine ⟨?_, ?_, ?_, ?_⟩ <;> (rw [cell_of_row _ _ _ _ _ _ h, icells, Array.getElem?_append_left (by simp)]; rfl)
/-- The state behind one message of generation g ≤ 5 of member x. -/
theorem open_M (root : List UInt8) (n y x g : Nat) (c : Int) : (openN (st0 root n y) x g c).closed = false ∧ (openN (st0 root n y) x g c).n = n ∧ ((openN (st0 root n y) x g c).M x).begun = true ∧ ((openN (st0 root n y) x g c).M x).next = g + 1 ∧ (∀ k ∈ ((openN (st0 root n y) x g c).M x).over, k < g) ∧ ∀ m, m ≠ x → (openN (st0 root n y) x g c).M m = mem0 := by
  have e : openN (st0 root n y) x g c = openS (st0 root n y) x g c := by unfold openN; rw [if_neg (by show ¬ g < 0; omega)]
  rw [e]
  have eM : (openS (st0 root n y) x g c).M x = ⟨true, g + 1, (allG (st0 root n y) x g).drop ((allG (st0 root n y) x g).length - 4)⟩ := if_pos rfl
  refine ⟨rfl, rfl, by rw [eM], by rw [eM], fun k hk => ?_, fun m hm => if_neg hm⟩
  rw [eM] at hk
  rcases (allG_mem _ _ _ _).1 (List.mem_of_mem_drop hk) with h | h
  · simp [st0, mem0] at h
  · exact h.2
theorem dump_one {s : GSt} {x g : Nat} (hI : GInv s) (hb : (s.M x).begun = true) (hg : (s.M x).next = g + 1) (ho : ∀ k ∈ (s.M x).over, k < g) (hm : ∀ m, m ≠ x → s.M m = mem0) :
    ∀ d ∈ dumpL s, (d.kind = 0 ∧ ¬ (d.a ≤ x ∧ x < d.b)) ∨ (d.kind = 1 ∧ d.a = x ∧ d.g = g + 1) ∨ (d.kind = 2 ∧ d.a = x ∧ d.g < g) := by
  intro d hd
  rw [dumpL, List.mem_append, List.mem_append] at hd
  rcases hd with hd | hd | hd
  · obtain ⟨q, hq, rfl⟩ := List.mem_map.1 hd
    refine .inl ⟨rfl, fun ⟨h1, h2⟩ => ?_⟩
    have := ((tree_in hI).1 q hq).2.2.2 x h1 h2
    rw [hb] at this; cases this
  · obtain ⟨m, h1, h2, h3, rfl⟩ := mem_heads.1 hd
    by_cases hx : m = x
    · subst hx; exact .inr (.inl ⟨rfl, rfl, hg⟩)
    · rw [hm m hx] at h2; cases h2
  · obtain ⟨m, k, h1, h2, rfl⟩ := mem_kepts.1 hd
    by_cases hx : m = x
    · subst hx; exact .inr (.inr ⟨rfl, rfl, ho k h2⟩)
    · rw [hm m hx] at h2; simp [mem0] at h2
def isHead (d : DItem) : Bool := d.kind == 1
theorem heads_count {s : GSt} {x : Nat} (hx : x < s.n) (hb : (s.M x).begun = true) (hn : (s.M x).next ≤ 65535) (hm : ∀ m, m ≠ x → s.M m = mem0) : (dumpL s).countP isHead = 1 := by
  have h1 : ((treeL s).map nodeI).countP isHead = 0 := List.countP_eq_zero.2 fun d hd => by
    obtain ⟨q, _, rfl⟩ := List.mem_map.1 hd
    simp [isHead, nodeI]
  have h2 : (keptsL s).countP isHead = 0 := List.countP_eq_zero.2 fun d hd => by
    obtain ⟨m, k, _, _, rfl⟩ := mem_kepts.1 hd
    simp [isHead, keptI]
  have h3 : (headsL s).countP isHead = (headsL s).length := List.countP_eq_length.2 fun d hd => by
    obtain ⟨m, _, _, _, rfl⟩ := mem_heads.1 hd
    simp [isHead, headI]
  have h4 : (headsL s).length = 1 := by
    rw [headsL, List.length_map]
    have hp : ((List.range s.n).filter (headB s)).Perm [x] := (List.perm_ext_iff_of_nodup (List.nodup_range.sublist List.filter_sublist) (by simp)).2 fun m => by
      rw [List.mem_filter, List.mem_range, headB_iff, List.mem_singleton]
      constructor
      · rintro ⟨_, h, _⟩
        by_cases hmx : m = x
        · exact hmx
        · rw [hm m hmx] at h; cases h
      · rintro rfl; exact ⟨hx, hb, hn⟩
    exact hp.length_eq
  rw [dumpL, List.countP_append, List.countP_append, h1, h2, h3, h4]
theorem dump_len {s : GSt} (hI : GInv s) : (dumpL s).length ≤ 1032 := by
  rw [dumpL, List.length_append, List.length_append, List.length_map]
  have h1 : (headsL s).length ≤ 16 := by
    rw [headsL, List.length_map]
    exact Nat.le_trans (List.length_filter_le _ _) (by rw [List.length_range]; exact hI.n16)
  have h2 := kepts_len hI
  have h3 := (tree_in hI).2.2
  omega
theorem count_take (D : List DItem) (i : Nat) (hi : i < D.length) : (D.take (i + 1)).countP isHead = (D.take i).countP isHead + (if isHead D[i] then 1 else 0) := by
  rw [List.take_succ_eq_append_getElem hi, List.countP_append, List.countP_singleton]
end Go.Proofs.YtccidllcjaaeeabGreatDoor
