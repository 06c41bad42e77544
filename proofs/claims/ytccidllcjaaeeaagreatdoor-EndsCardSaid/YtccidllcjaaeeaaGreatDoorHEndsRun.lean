/- A sender that protects empty texts, up to the last generation and past it. Conditions: stated in each. -/
import Derived.Test.YtccidllcjaaeeaaGreatDoorHItems
namespace Go.Proofs.YtccidllcjaaeeaaGreatDoor
set_option maxRecDepth 100000
open Go Go.Maps Go.RowKit
open Go.Shelf Go.Lib Go.Sort Go.MuLone
def SndX (w : World) (lo : Nat) (p : GPl) (rt : List UInt8) (n x i : Nat) : Prop :=
  ∃ (s : GSt) (T : Value), s.root = rt ∧ s.n = n ∧ s.own = x ∧ s.closed = false ∧ GInv s ∧ (s.M x).next = i ∧ (s.M x).over = [] ∧ (0 < i → (s.M x).begun = true) ∧ (∀ m, m ≠ x → s.M m = mem0) ∧ 0 ≤ s.cnt ∧ s.cnt ≤ 200 * i ∧ GroupAt w lo { p with T := T } s i ∧ EG w
theorem sndX_zero {w : World} {lo n x : Nat} {p : GPl} {rt : List UInt8} (h : GroupAt w lo p (st0 rt n x) 0) (hI : GInv (st0 rt n x)) (hE : EG w) : SndX w lo p rt n x 0 :=
  ⟨st0 rt n x, p.T, rfl, rfl, rfl, rfl, hI, rfl, rfl, fun h => absurd h (by omega), fun _ _ => rfl, Int.le_refl _, Int.le_refl _, h, hE⟩
theorem sndX_below {w w' : World} {lo n x i : Nat} {p : GPl} {rt : List UInt8} (h : SndX w lo p rt n x i) (hb : Below w.heap.size w w') : SndX w' lo p rt n x i := by
  obtain ⟨s, T, h1, h2, h3, h4, h5, h6, h7, h8, h9, h10, h11, h12, h13⟩ := h
  exact ⟨s, T, h1, h2, h3, h4, h5, h6, h7, h8, h9, h10, h11, group_below h12 hb, h13.below hb⟩
theorem sndX_go (w : World) (lo n x i : Nat) (p : GPl) (rt : List UInt8) (h : SndX w lo p rt n x i) (hmu : p.mu = 0) (hlo : 0 < lo) (hls : lo ≤ w.heap.size) (hi : i ≤ 65535) :
    Calls Tryz.prog 12 #[.pointer (some ⟨p.G, 0, none⟩), .slice none 0 0] w fun e w' => ∃ v, e = .returned (.tuple #[v, .int .i64 0]) ∧
      w'.ownsRow w.heap.size 5 1 v 7 (cells (frameL (st0 rt n x) x i [])).toList ∧ SndX w' lo p rt n x (i + 1) ∧ Below lo w w' := by
  obtain ⟨s, T, h1, h2, h3, h4, h5, h6, h7, h8, h9, h10, h11, h12, h13⟩ := h
  subst h3
  have hfr : frameL s s.own (s.M s.own).next [] = frameL (st0 rt n s.own) s.own i [] := by
    rw [h6]; exact frameL_root h1 h2 _ _ _
  refine (Protect_ok w lo i { p with T := T } s none 0 [] h12 hmu hlo h13 h5 h4 (by simp) (by omega) h10 (by omega) (by omega) (fun _ => ⟨rfl, rfl⟩) (fun h => absurd rfl h) (Rd.empty _ _) (fun b o e => by cases e)).mono ?_
  rintro e w' ⟨v, T', c', rfl, ho, hA', hF, hT, hc1, hc2⟩
  have hd := depthF_le 16 s.n s.own
  rw [hfr] at ho
  have eM : (protS s c').M s.own = ⟨true, (s.M s.own).next + 1, (s.M s.own).over⟩ := if_pos rfl
  refine ⟨v, rfl, ho, ⟨protS s c', T', h1, h2, rfl, h4, inv_protS h5 c' (by omega), by rw [eM, h6], by rw [eM]; exact h7, fun _ => by rw [eM], fun m hm => (if_neg hm).trans (h9 m hm), ?_, ?_, hA', eg_frm h13 h12 hlo hF⟩, frm_lo h12 hF (Nat.le_refl _) hls⟩
  · show 0 ≤ c'; omega
  · show c' ≤ 200 * ((i + 1 : Nat) : Int)
    simp only [List.length_nil] at hc2
    omega
theorem sndX_spent (w : World) (lo n x : Nat) (p : GPl) (rt : List UInt8) (h : SndX w lo p rt n x 65536) (hmu : p.mu = 0) (hlo : 0 < lo) (hls : lo ≤ w.heap.size) :
    Calls Tryz.prog 12 #[.pointer (some ⟨p.G, 0, none⟩), .slice none 0 0] w fun e w' => e = .returned (.tuple #[.slice none 0 0, .int .i64 8]) ∧ SndX w' lo p rt n x 65536 ∧ Below lo w w' := by
  obtain ⟨s, T, h1, h2, h3, h4, h5, h6, h7, h8, h9, h10, h11, h12, h13⟩ := h
  subst h3
  refine (Protect_no w lo 65536 { p with T := T } s none 0 0 8 h12 hmu hlo h13 h5 (by rw [protNo, if_neg (by rw [h4]; simp), if_neg (by omega), if_pos (by omega)])).mono ?_
  rintro e w' ⟨rfl, hA', hF⟩
  exact ⟨rfl, ⟨s, T, h1, h2, rfl, h4, h5, h6, h7, h8, h9, h10, h11, hA', eg_frm h13 h12 hlo hF⟩, frm_lo h12 hF (Nat.le_refl _) hls⟩
theorem parts_cover : ∀ (d : Nat) (p : TPart) (B : Nat → Bool) (m : Nat), p.b - p.a ≤ d + 1 → p.a ≤ m → m < p.b → B m = false → ∃ q ∈ partsT d p B, q.a ≤ m ∧ m < q.b
  | 0, p, B, m, h, h1, h2, hm => by
    have hB : anyB B p.a p.b = false := anyB_not.2 fun j k1 k2 => by
      have : j = m := by omega
      rw [this]; exact hm
    exact ⟨p, by rw [partsT_none hB]; exact List.mem_singleton.2 rfl, h1, h2⟩
  | d + 1, p, B, m, h, h1, h2, hm => by
    cases hB : anyB B p.a p.b with
    | false => exact ⟨p, by rw [partsT_none hB]; exact List.mem_singleton.2 rfl, h1, h2⟩
    | true =>
      have hgt : 1 < p.b - p.a := by
        rcases Nat.lt_or_ge 1 (p.b - p.a) with h3 | h3
        · exact h3
        · obtain ⟨j, k1, k2, k3⟩ := (anyB_iff _ _ _).1 hB
          have : j = m := by omega
          rw [this, hm] at k3; cases k3
      obtain ⟨e1, e2, e3⟩ := pL_size hgt
      have eL : (pL p).a = p.a := rfl
      have eR : (pR p).a = p.a + splitN (p.b - p.a) := rfl
      have eR2 : (pR p).b = p.b := rfl
      have ep : partsT (d + 1) p B = partsT d (pL p) B ++ partsT d (pR p) B := by
        rw [partsT, if_pos hB, if_neg (by omega)]
      rw [ep]
      rcases Nat.lt_or_ge m (p.a + splitN (p.b - p.a)) with h3 | h3
      · obtain ⟨q, hq, k1, k2⟩ := parts_cover d (pL p) B m (by omega) (by omega) (by omega) hm
        exact ⟨q, List.mem_append_left _ hq, k1, k2⟩
      · obtain ⟨q, hq, k1, k2⟩ := parts_cover d (pR p) B m (by omega) (by omega) (by omega) hm
        exact ⟨q, List.mem_append_right _ hq, k1, k2⟩
theorem kepts_nil {s : GSt} (h : ∀ m, (s.M m).over = []) : keptsL s = [] := by
  unfold keptsL
  rw [List.flatMap_eq_nil_iff]
  intro m _
  rw [h m]; rfl
theorem dump_last {s : GSt} {x i : Nat} (hx : x < s.n) (hb : (s.M x).begun = true) (hn : (s.M x).next = i) (hi : i ≤ 65535) (ho : (s.M x).over = []) (hm : ∀ m, m ≠ x → s.M m = mem0) :
    ∃ k, ∃ hk : k < (dumpL s).length, (dumpL s).length = k + 1 ∧ (dumpL s)[k].kind = 1 ∧ (dumpL s)[k].a = x ∧ (dumpL s)[k].g = i := by
  have hk : keptsL s = [] := kepts_nil fun m => by
    by_cases h : m = x
    · subst h; exact ho
    · rw [hm m h]; rfl
  have hp : ((List.range s.n).filter (headB s)) = [x] := by
    have h1 : ((List.range s.n).filter (headB s)).Perm [x] := (List.perm_ext_iff_of_nodup (List.nodup_range.sublist List.filter_sublist) (by simp)).2 fun m => by
      rw [List.mem_filter, List.mem_range, headB_iff, List.mem_singleton]
      constructor
      · rintro ⟨_, h, _⟩
        by_cases hmx : m = x
        · exact hmx
        · rw [hm m hmx] at h; cases h
      · rintro rfl; exact ⟨hx, hb, by omega⟩
    exact List.perm_singleton.1 h1
  have e : dumpL s = (treeL s).map nodeI ++ [headI s x] := by rw [dumpL, headsL, hp, hk]; rfl
  refine ⟨(treeL s).length, by rw [e]; simp, by rw [e]; simp, ?_⟩
  have e2 : ∀ (h : (treeL s).length < (dumpL s).length), (dumpL s)[(treeL s).length] = headI s x := by
    rw [e]; intro h
    rw [List.getElem_append_right (by simp)]
    simp
  rw [e2]
  exact ⟨rfl, rfl, hn⟩
theorem dump_spent {s : GSt} {x : Nat} (hI : GInv s) (hc : s.closed = false) (hx : x < s.n) (h2 : 2 ≤ s.n) (hb : (s.M x).begun = true) (hn : 65535 < (s.M x).next) (ho : (s.M x).over = []) (hm : ∀ m, m ≠ x → s.M m = mem0) :
    0 < (dumpL s).length ∧ ∀ d ∈ dumpL s, d.kind = 0 ∧ ¬ (d.a ≤ x ∧ x < d.b) := by
  have hk : keptsL s = [] := kepts_nil fun m => by
    by_cases h : m = x
    · subst h; exact ho
    · rw [hm m h]; rfl
  have hh : headsL s = [] := by
    rw [headsL, List.map_eq_nil_iff, List.filter_eq_nil_iff]
    intro m _ h
    rw [headB_iff] at h
    by_cases hmx : m = x
    · subst hmx; omega
    · rw [hm m hmx] at h; cases h.1
  have e : dumpL s = (treeL s).map nodeI := by rw [dumpL, hk, hh]; simp
  rw [e]
  constructor
  · obtain ⟨m, hm1, hm2⟩ : ∃ m, m < s.n ∧ m ≠ x := by
      by_cases h : x = 0
      · exact ⟨1, by omega, by omega⟩
      · exact ⟨0, by omega, by omega⟩
    obtain ⟨q, hq, _⟩ := parts_cover 16 ⟨0, s.n, s.root⟩ (fun i => (s.M i).begun) m (show s.n - 0 ≤ 17 by have := hI.n16; omega) (Nat.zero_le _) hm1 (by show (s.M m).begun = false; rw [hm m hm2]; rfl)
    have hq' : q ∈ treeL s := by rw [treeL, if_neg (by rw [hc]; simp)]; exact hq
    rw [List.length_map]
    exact List.length_pos_of_mem hq'
  · intro d hd
    obtain ⟨q, hq, rfl⟩ := List.mem_map.1 hd
    refine ⟨rfl, fun ⟨h1, h2⟩ => ?_⟩
    have := ((tree_in hI).1 q hq).2.2.2 x h1 h2
    rw [hb] at this; cases this
theorem sndX_dump (w : World) (lo n x i : Nat) (p : GPl) (rt : List UInt8) (h : SndX w lo p rt n x i) (hmu : p.mu = 0) (hlo : 0 < lo) (hls : lo ≤ w.heap.size) (hi0 : 0 < i) (hi : i ≤ 70000) (hx : x < n) (hn2 : 2 ≤ n) :
    ∃ D : List DItem, (∀ d ∈ D, d.s.length = 8) ∧ D.length ≤ 1032 ∧ (i ≤ 65535 → ∃ k, ∃ hk : k < D.length, D.length = k + 1 ∧ D[k].kind = 1 ∧ D[k].a = x ∧ D[k].g = i) ∧ (65535 < i → 0 < D.length ∧ ∀ d ∈ D, d.kind = 0 ∧ ¬ (d.a ≤ x ∧ x < d.b)) ∧
    Calls Tryz.prog 17 #[.pointer (some ⟨p.G, 0, none⟩)] w fun e w' => ∃ v, e = .returned v ∧ w'.ownsRow w.heap.size 50 12 v D.length (itemsV D) ∧ SndX w' lo p rt n x i ∧ Below lo w w' := by
  obtain ⟨s, T, h1, h2, h3, h4, h5, h6, h7, h8, h9, h10, h11, h12, h13⟩ := h
  refine ⟨dumpL s, dump_len8 h5, dump_len h5, fun hi2 => dump_last (by omega) (h8 hi0) h6 hi2 h7 h9, fun hi2 => dump_spent h5 h4 (by omega) (by omega) (h8 hi0) (by omega) h7 h9, ?_⟩
  refine (Dump_open w lo i { p with T := T } s h12 h5 hmu h4 (by omega)).mono ?_
  rintro e w' ⟨v, rfl, ho, hA', hF⟩
  exact ⟨v, rfl, ho, ⟨s, T, h1, h2, h3, h4, h5, h6, h7, h8, h9, h10, h11, hA', eg_frm h13 h12 hlo hF⟩, frm_lo h12 hF (Nat.le_refl _) hls⟩
end Go.Proofs.YtccidllcjaaeeaaGreatDoor
