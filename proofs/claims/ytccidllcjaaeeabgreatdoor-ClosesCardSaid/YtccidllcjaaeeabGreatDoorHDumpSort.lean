/- What is kept, sorted by slices.SortFunc: the rows of items, their order, the sort's contract at them. Conditions: the items' keys rise. -/
import Derived.Test.YtccidllcjaaeeabGreatDoorHDumpCmp
import Derived.Sort.OwnSortedInts
namespace Go.Proofs.YtccidllcjaaeeabGreatDoor
set_option maxRecDepth 100000
open Go Go.Maps Go.RowKit
open Go.Shelf Go.Lib Go.Sort Go.MuLone
def padS (s : List UInt8) : List UInt8 := (s ++ [0, 0, 0, 0, 0, 0, 0, 0]).take 8
theorem padS_len (s : List UInt8) : (padS s).length = 8 := by simp [padS]
theorem padS_eq (s : List UInt8) (h : s.length = 8) : padS s = s := by rw [padS, ← h]; simp
def padI (d : DItem) : DItem := { d with s := padS d.s }
def encI (d : DItem) : List Value := (icells (padI d)).toList
theorem encI_len (d : DItem) : (encI d).length = 12 := by rw [encI, Array.length_toList]; exact icells_size _ (padS_len _)
theorem encI_eq (d : DItem) (h : d.s.length = 8) : encI d = (icells d).toList := by
  rw [encI, padI, padS_eq _ h]
theorem encI_one (d : DItem) : ∀ v ∈ encI d, v.oneCell' = true := fun v hv => by
  rw [encI, icells, Array.toList_append, List.mem_append] at hv
  rcases hv with hv | hv
  · simp at hv
    rcases hv with rfl | rfl | rfl | rfl <;> rfl
  · exact cells_oneCell _ v (by simpa using hv)
abbrev K3 := Nat × Nat × Nat
def keyI (d : DItem) : K3 := (d.kind, d.a, d.g)
def getI (D : List DItem) (k : K3) : DItem := match D.find? (fun d => decide (keyI d = k)) with
  | some d => d
  | none => ⟨k.1, k.2.1, 0, k.2.2, []⟩
theorem getI_key (D : List DItem) (k : K3) : keyI (getI D k) = k := by
  unfold getI
  cases h : D.find? (fun d => decide (keyI d = k)) with
  | none => rfl
  | some d => simpa using List.find?_some h
def encK (D : List DItem) (k : K3) : List Value := encI (getI D k)
def itemsV (l : List DItem) : List Value := l.flatMap encI
theorem itemsV_len (l : List DItem) : (itemsV l).length = l.length * 12 := by
  induction l with
  | nil => rfl
  | cons p l ih => simp only [itemsV, List.flatMap_cons, List.length_append, encI_len, List.length_cons] at *; omega
theorem itemsV_append (l k : List DItem) : itemsV (l ++ k) = itemsV l ++ itemsV k := by simp [itemsV]
theorem itemsV_one (l : List DItem) : ∀ v ∈ itemsV l, v.oneCell' = true := by
  intro v hv
  rw [itemsV, List.mem_flatMap] at hv
  obtain ⟨p, _, hp⟩ := hv
  exact encI_one p v hp
theorem flat_get {α : Type} [Inhabited α] (enc : α → List Value) (k : Nat) (hk : ∀ x, (enc x).length = k) : ∀ (l : List α) (j i : Nat), j < l.length → i < k → (l.flatMap enc)[j * k + i]? = (enc l[j]!)[i]?
  | [], _, _, h, _ => absurd h (Nat.not_lt_zero _)
  | p :: l, 0, i, _, hi => by
    simp only [List.flatMap_cons]
    rw [List.getElem?_append_left (by rw [hk]; omega)]
    simp
  | p :: l, j + 1, i, h, hi => by
    have ih := flat_get enc k hk l j i (by simpa using h) hi
    simp only [List.flatMap_cons]
    have e : (j + 1) * k + i - k = j * k + i := by rw [Nat.add_mul]; omega
    rw [List.getElem?_append_right (by rw [hk, Nat.add_mul]; omega), hk, e, ih]
    simp
theorem flat_len {α : Type} (enc : α → List Value) (k : Nat) (hk : ∀ x, (enc x).length = k) (l : List α) : (l.flatMap enc).length = l.length * k := by
  induction l with
  | nil => simp
  | cons p l ih => rw [List.flatMap_cons, List.length_append, hk, ih, List.length_cons, Nat.add_mul]; omega
theorem flatK_flat {α : Type} [Inhabited α] (enc : α → List Value) (k : Nat) (hk : ∀ x, (enc x).length = k) (hk0 : 0 < k) (l : List α) : (flatK enc k l.toArray).toList = l.flatMap enc := by
  apply List.ext_getElem?
  intro t
  by_cases ht : t < l.length * k
  · have h1 := get_flatK enc k l.toArray t (by simpa using ht)
    have hs : t < (flatK enc k l.toArray).size := by simpa using ht
    rw [getElem!_pos (flatK enc k l.toArray) t hs] at h1
    rw [Array.getElem?_toList, Array.getElem?_eq_getElem hs, h1]
    have hd : t / k < l.length := Nat.div_lt_of_lt_mul (by rwa [Nat.mul_comm] at ht)
    have hm : t % k < k := Nat.mod_lt _ hk0
    have h2 := flat_get enc k hk l (t / k) (t % k) hd hm
    rw [show t / k * k + t % k = t by rw [Nat.mul_comm]; exact Nat.div_add_mod t k] at h2
    rw [h2]
    have h3 : t % k < (enc l.toArray[t / k]!).length := by rw [hk]; exact hm
    rw [getElem!_pos (enc l.toArray[t / k]!) (t % k) h3]
    have h4 : l.toArray[t / k]! = l[t / k]! := by simp
    simp only [h4] at h3 ⊢
    rw [List.getElem?_eq_getElem h3]
  · rw [List.getElem?_eq_none (by simp; omega), List.getElem?_eq_none (by rw [flat_len enc k hk]; omega)]
/-- The order of keys. -/
def lexlt (x y : K3) : Prop := x.1 < y.1 ∨ (x.1 = y.1 ∧ (x.2.1 < y.2.1 ∨ (x.2.1 = y.2.1 ∧ x.2.2 < y.2.2)))
instance (x y : K3) : Decidable (lexlt x y) := by unfold lexlt; infer_instance
def cfK (x y : K3) : Int := or3 (cmpI x.1 y.1) (cmpI x.2.1 y.2.1) (cmpI x.2.2 y.2.2)
theorem or3_neg (a b c : Int) : or3 a b c < 0 ↔ a < 0 ∨ (a = 0 ∧ (b < 0 ∨ (b = 0 ∧ c < 0))) := by
  unfold or3
  by_cases ha : a = 0
  · subst ha
    by_cases hb : b = 0
    · subst hb
      simp
    · simp [hb]
  · simp [ha]
theorem cmpI_neg (x y : Nat) : cmpI x y < 0 ↔ x < y := by
  unfold cmpI
  by_cases h : x < y
  · have h' : (x : Int) < y := by omega
    simp [h, h']
  · have h' : ¬ (x : Int) < y := by omega
    by_cases k : (y : Int) < x <;> simp [h, h', k]
theorem cmpI_zero (x y : Nat) : cmpI x y = 0 ↔ x = y := by
  unfold cmpI
  by_cases h : (x : Int) < y
  · have h' : ¬ x = y := by omega
    simp [h, h']
  · by_cases k : (y : Int) < x
    · have h' : ¬ x = y := by omega
      simp [h, k, h']
    · have h' : x = y := by omega
      simp [h']
theorem lt_lex (x y : K3) : ltOf cfK x y = decide (lexlt x y) := by
  unfold ltOf
  have e : cfK x y < 0 ↔ lexlt x y := by
    rw [cfK, or3_neg, cmpI_neg, cmpI_zero, cmpI_neg, cmpI_zero, cmpI_neg]; rfl
  exact decide_eq_decide.2 e
theorem lt_true {x y : K3} : ltOf cfK x y = true ↔ lexlt x y := by rw [lt_lex]; exact decide_eq_true_iff
theorem lt_false {x y : K3} : ltOf cfK x y = false ↔ ¬ lexlt x y := by rw [lt_lex]; exact decide_eq_false_iff_not
theorem lex_irrefl (x : K3) : ¬ lexlt x x := by
  obtain ⟨a, b, c⟩ := x
  intro h
  simp only [lexlt] at h
  omega
theorem lex_trans {x y z : K3} (h : lexlt x y) (k : lexlt y z) : lexlt x z := by
  obtain ⟨a, b, c⟩ := x
  obtain ⟨d, e, f⟩ := y
  obtain ⟨a', b', c'⟩ := z
  simp only [lexlt] at *
  omega
theorem lex_ntrans {x y z : K3} (h : ¬ lexlt x y) (k : ¬ lexlt y z) : ¬ lexlt x z := by
  obtain ⟨a, b, c⟩ := x
  obtain ⟨d, e, f⟩ := y
  obtain ⟨a', b', c'⟩ := z
  simp only [lexlt] at *
  omega
theorem lex_tot {x y : K3} (h : ¬ lexlt x y) (k : ¬ lexlt y x) : x = y := by
  obtain ⟨a, b, c⟩ := x
  obtain ⟨d, e, f⟩ := y
  simp only [lexlt] at *
  have h3 : a = d := by omega
  have h4 : b = e := by omega
  have h5 : c = f := by omega
  rw [h3, h4, h5]
theorem swoK : SWO (ltOf cfK) where
  irrefl x := lt_false.2 (lex_irrefl x)
  trans _ _ _ h1 h2 := lt_true.2 (lex_trans (lt_true.1 h1) (lt_true.1 h2))
  ntrans _ _ _ h1 h2 := lt_false.2 (lex_ntrans (lt_false.1 h1) (lt_false.1 h2))
theorem totK (x y : K3) (h1 : ltOf cfK x y = false) (h2 : ltOf cfK y x = false) : x = y := lex_tot (lt_false.1 h1) (lt_false.1 h2)
def Rise (D : List DItem) : Prop := (D.map keyI).Pairwise lexlt
theorem sortK_eq {D : List DItem} {ks : List K3} (hD : Rise D) (hp : ks.Perm (D.map keyI)) : ks.mergeSort (fun x y => !(ltOf cfK) y x) = D.map keyI := by
  have ge : ∀ a b : K3, (!(ltOf cfK) b a) = true ↔ ¬ lexlt b a := fun a b => by rw [Bool.not_eq_true', lt_false]
  refine List.Perm.eq_of_pairwise (le := fun a b => (!(ltOf cfK) b a) = true) (fun a b _ _ h k => ?_) (List.pairwise_mergeSort (fun a b c h k => ?_) (fun a b => ?_) ks) (hD.imp fun h => ?_) ((List.mergeSort_perm ks _).trans hp)
  · exact lex_tot ((ge b a).1 k) ((ge a b).1 h)
  · exact (ge a c).2 (lex_ntrans ((ge b c).1 k) ((ge a b).1 h))
  · rw [Bool.or_eq_true, ge, ge]
    by_cases h : lexlt b a
    · exact .inr fun k => lex_irrefl _ (lex_trans h k)
    · exact .inl h
  · exact (ge _ _).2 fun k => lex_irrefl _ (lex_trans h k)
theorem rise_get : ∀ {D : List DItem}, Rise D → ∀ d ∈ D, getI D (keyI d) = d
  | [], _, d, h => absurd h (by simp)
  | e :: D, hD, d, h => by
    obtain ⟨h1, h2⟩ := List.pairwise_cons.1 hD
    unfold getI
    by_cases hk : keyI e = keyI d
    · rw [List.find?_cons_of_pos (by simpa using hk)]
      rcases List.mem_cons.1 h with rfl | hd
      · rfl
      · have := h1 (keyI d) (List.mem_map.2 ⟨d, hd, rfl⟩)
        rw [hk] at this
        simp only [lexlt] at this
        omega
    · rw [List.find?_cons_of_neg (by simpa using hk)]
      rcases List.mem_cons.1 h with rfl | hd
      · exact absurd rfl hk
      · exact rise_get h2 d hd
theorem rise_map {D : List DItem} (hD : Rise D) : (D.map keyI).map (getI D) = D := by
  rw [List.map_map]
  conv => rhs; rw [← List.map_id D]
  exact List.map_congr_left fun d hd => rise_get hD d hd
theorem holds_id {w : World} {g : Nat} {cur : Array Value} {e : TypeId} {F : Array Value} (hb : w.heap[g]? = some (.cells cur e (0, 0))) (ht : cur.toList.take F.size = F.toList) : Holds id w g 0 F := by
  intro j hj
  refine ⟨?_, by simp [World.frozen?, hb]⟩
  have h1 : (cur.toList.take F.size)[j]? = F.toList[j]? := by rw [ht]
  rw [List.getElem?_take_of_lt hj] at h1
  simp only [World.cell?, hb, Nat.zero_add]
  simp only [Option.isSome_none, Bool.false_eq_true, if_false]
  rw [← Array.getElem?_toList, h1]
  simp [hj]
theorem heap_id {w : World} {g n : Nat} {os : Array Obj} {cur : Array Value} {e : TypeId} {fr : Nat × Nat} (d : Array Value) (hb : w.heap[g]? = some (.cells cur e fr)) :
    (Go.Sort.grow (putRow id (Sort.ahead w n) g 0 d) os).heap[g]? = some (.cells (putCells id 0 d cur) e fr) := by
  have hg : g < w.heap.size := (Array.getElem?_eq_some_iff.1 hb).1
  rw [heap_grow_old _ _ (by simpa using hg)]
  simp [putRow, mapBlock, Sort.ahead, Array.getElem?_modify, hb, onCells]
theorem grownBy_id {w : World} {g n : Nat} {os : Array Obj} (d : Array Value) : w.grownBy (Go.Sort.grow (putRow id (Sort.ahead w n) g 0 d) os) (some g) := by
  refine ⟨rfl, rfl, rfl, by simp, fun k hk hne => ?_⟩
  rw [heap_grow_old _ _ (by simpa using hk)]
  have : g ≠ k := fun e => hne (by rw [e])
  simp [putRow, mapBlock, Sort.ahead, Array.getElem?_modify, this]
theorem take_id (cur : Array Value) (F : Array Value) (h : F.size ≤ cur.size) : (putCells id 0 F cur).toList.take F.size = F.toList := by
  apply List.ext_getElem?
  intro j
  by_cases hj : j < F.size
  · rw [List.getElem?_take_of_lt hj, Array.getElem?_toList]
    simp [putCells, hj, show j < cur.size by omega]
  · rw [List.getElem?_take_eq_none (by omega), List.getElem?_eq_none (by simp; omega)]
theorem infoItem : (Tryz.prog.info? 88).map (fun i => (i.zero.map (·.cells.size), i.size, i.bytes)) = some (some 12, 12, 40) := by kernel_rfl
theorem agg_item (w : World) : (isAgg 88).run Tryz.prog w = .ok true w := by kernel_rfl
theorem size_item (w : World) : (Go.sizeOf 88).run Tryz.prog w = .ok 12 w := by kernel_rfl
/-- slices.SortFunc at a row of items. -/
theorem sortItems_any (w : World) (base : Nat) (D : List DItem) (ks : List K3) (sv : Value) (hD : Rise D) (hp : ks.Perm (D.map keyI)) (h : w.ownsRow base 88 12 sv ks.length (itemsV (ks.map (getI D)))) (hz : ks.length ≤ 1000000000) :
    Calls Tryz.prog 29 #[sv, .func (.func 30) #[] #[]] w fun e w' => e = .returned (.tuple #[]) ∧ w'.ownsRow base 88 12 sv D.length (itemsV D) ∧ w.grownBy w' sv.ownBlock := by
  have hlen : ks.length = D.length := by rw [hp.length_eq, List.length_map]
  have h' := h
  obtain ⟨_, h2⟩ := h
  rcases h2 with ⟨rfl, h0⟩ | ⟨g, cap, cur, rfl, h2, h3, h4, h5, h6, h7⟩
  · have e0 : D = [] := List.eq_nil_of_length_eq_zero (by omega)
    subst e0
    refine (AnyF.slices_SortFunc_none (P := Tryz.prog) (ρ := Tryz.lays35_ren) Tryz.lays35 none 0 (.func (.func 30) #[] #[]) w).mono ?_
    rintro e w' ⟨rfl, rfl⟩
    exact ⟨rfl, World.ownsRow_nil _ _ _ _, rfl, rfl, rfl, Nat.le_refl _, fun _ _ _ => rfl⟩
  · have hfl : (flatK (encK D) 12 ks.toArray).toList = itemsV (ks.map (getI D)) := by
      rw [flatK_flat (encK D) 12 (fun x => encI_len _) (by decide)]
      rw [itemsV, List.flatMap_map]; rfl
    have hF : HoldsK (encK D) 12 w g 0 ks.toArray := holds_id h3 (by rw [hfl, ← h7]; simp)
    have eg : ∀ args w, (callFunc 30 args).run Tryz.prog w = .ok (.enter 30 args) w := enters_of Tryz.func30 (by kernel_rfl) rfl
    have hcmp : CmpLays Tryz.prog 30 #[] (encK D) 12 cfK g 0 ks.toArray.size w := fun m os dk _ x y => by
      have hc := closure_any (sortWorldK (encK D) 12 w g 0 m dk os) (padI (getI D x)) (padI (getI D y))
      have e1 : cfI (padI (getI D x)) (padI (getI D y)) = cfK x y := by
        have k1 : cfI (padI (getI D x)) (padI (getI D y)) = cfK (keyI (getI D x)) (keyI (getI D y)) := rfl
        rw [k1, getI_key, getI_key]
      rw [e1] at hc
      exact hc
    have hs := AnyQ.slices_SortFunc_total (P := Tryz.prog) (ρ := Tryz.lays35_ren) Tryz.lays35 12 agg_item size_item (encK D) (fun x => encI_len _) (fun x => encI_one _) cfK swoK 30 #[] g 0 cap ks.toArray w eg hcmp hF (Array.getElem?_eq_some_iff.1 h3).1 (by simp; omega) totK
    refine hs.mono ?_
    rintro e w' ⟨rfl, n, os, rfl⟩
    have hsz : ks.toArray.toList.mergeSort (fun x y => !(ltOf cfK) y x) = D.map keyI := sortK_eq hD hp
    rw [hsz]
    have hfd : (flatK (encK D) 12 (D.map keyI).toArray).toList = itemsV D := by
      rw [flatK_flat (encK D) 12 (fun x => encI_len _) (by decide)]
      have e2 : (D.map keyI).flatMap (encK D) = itemsV ((D.map keyI).map (getI D)) := by rw [itemsV, List.flatMap_map, List.map_map, List.flatMap_map]; rfl
      rw [e2, rise_map hD]
    have hfs : (flatK (encK D) 12 (D.map keyI).toArray).size = D.length * 12 := by simp
    refine ⟨rfl, ⟨itemsV_len D, .inr ⟨g, cap, _, by rw [hlen], h2, heap_id _ h3, by omega, h5, by simp [putCells, h6], ?_⟩⟩, grownBy_id _⟩
    rw [← hfd, ← hfs]
    exact take_id cur _ (by rw [hfs, h6]; exact Nat.mul_le_mul_right _ (by omega))
end Go.Proofs.YtccidllcjaaeeabGreatDoor
