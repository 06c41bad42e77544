/- What holds in Comes behind its first loop, a call of the receiver there, and slices of ints cut in two. Conditions: stated in each. -/
import Derived.Test.YtccidllcjaaeeabGreatDoorH6
import Derived.Laws.AppendOwnNone
namespace Go.Proofs.YtccidllcjaaeeabGreatDoor
set_option maxRecDepth 100000
open Go Go.Maps Go.RowKit
open Go.Shelf Go.Lib Go.Sort Go.MuLone
theorem frame_size (s : GSt) (m g : Nat) (l : List UInt8) : (frameL s m g l).length = l.length + 7 := by
  rw [frame_bytes]
  simp [sealL_length]
def textB (TL : List ByteArray) (i : Nat) : List UInt8 := textL (TL.getD i ByteArray.empty).data.toList
theorem textB_le (TL : List ByteArray) (i : Nat) : (textB TL i).length ≤ 40 := Nat.le_trans (Nat.le_of_eq List.length_take) (Nat.min_le_left _ _)
def frameB (rt : List UInt8) (n x : Nat) (TL : List ByteArray) (i : Nat) : ByteArray := ⟨(frameL (st0 rt n x) x i (textB TL i)).toArray⟩
theorem frameB_list (rt : List UInt8) (n x : Nat) (TL : List ByteArray) (i : Nat) : (frameB rt n x TL i).data.toList = frameL (st0 rt n x) x i (textB TL i) := rfl
theorem frameB_size (rt : List UInt8) (n x : Nat) (TL : List ByteArray) (i : Nat) : (frameB rt n x TL i).size = (textB TL i).length + 7 := by
  have : (frameB rt n x TL i).size = (frameL (st0 rt n x) x i (textB TL i)).length := rfl
  rw [this, frame_size]
def frs (rt : List UInt8) (n x : Nat) (TL : List ByteArray) (k : Nat) : List Value := (List.range k).map fun i => .string (frameB rt n x TL i)
theorem frs_succ (rt : List UInt8) (n x : Nat) (TL : List ByteArray) (k : Nat) : frs rt n x TL (k + 1) = frs rt n x TL k ++ [.string (frameB rt n x TL k)] := by
  unfold frs
  rw [List.range_succ, List.map_append]; rfl
theorem frs_len (rt : List UInt8) (n x : Nat) (TL : List ByteArray) (k : Nat) : (frs rt n x TL k).length = k := by simp [frs]
theorem frs_at (rt : List UInt8) (n x : Nat) (TL : List ByteArray) (k i : Nat) (h : i < k) : (frs rt n x TL k)[i]? = some (.string (frameB rt n x TL i)) := by simp [frs, h]
def strV (TL : List ByteArray) : List Value := TL.map Value.string
theorem strV_at (TL : List ByteArray) (i : Nat) (h : i < TL.length) : (strV TL)[i]? = some (.string (TL.getD i ByteArray.empty)) := by simp [strV, h]
/-- A row's cells, one by one. -/
theorem cell_of_own {w : World} {base e n c : Nat} {p : Option Addr} {xs : List Value} (h : w.ownsRow base e 1 (.slice p n c) n xs) (j : Nat) (u : Value) (hu : xs[j]? = some u) : ∃ g, p = some ⟨g, 0, none⟩ ∧ w.cell? ⟨g, j, none⟩ = some u ∧ n ≤ c := by
  obtain ⟨hl, h⟩ := h
  have hj := (List.getElem?_eq_some_iff.1 hu).1
  rcases h with ⟨_, h0⟩ | ⟨g, cap, cur, e1, _, h3, h4, _, _, h7⟩
  · omega
  · cases e1
    refine ⟨g, rfl, ?_, h4⟩
    rw [cell_of_row _ _ _ _ _ _ h3]
    rw [← h7, List.getElem?_take_of_lt (by omega)] at hu
    simpa using hu
theorem row_form {w : World} {base e size n : Nat} {v : Value} {xs : List Value} (h : w.ownsRow base e size v n xs) : ∃ p c, v = .slice p n c := by
  obtain ⟨_, h⟩ := h
  rcases h with ⟨rfl, rfl⟩ | ⟨g, cap, cur, rfl, _⟩
  · exact ⟨none, 0, rfl⟩
  · exact ⟨_, cap, rfl⟩
theorem row_none {w : World} {base e size n c : Nat} {xs : List Value} (h : w.ownsRow base e size (.slice none n c) n xs) : n = 0 ∧ c = 0 := by
  obtain ⟨_, h⟩ := h
  rcases h with ⟨e1, rfl⟩ | ⟨g, cap, cur, e1, _⟩
  · cases e1; exact ⟨rfl, rfl⟩
  · cases e1
theorem row_cap {w : World} {base e size n c : Nat} {p : Option Addr} {xs : List Value} (h : w.ownsRow base e size (.slice p n c) n xs) : n ≤ c ∧ c ≤ maxLen := by
  obtain ⟨_, h⟩ := h
  rcases h with ⟨e1, rfl⟩ | ⟨g, cap, cur, e1, _, _, h4, h5, _⟩
  · cases e1; exact ⟨Nat.le_refl _, Nat.zero_le _⟩
  · cases e1; exact ⟨h4, h5⟩
theorem elem_ints : Tryz.prog.underlying 22 = some (.slice (Tryz.prog.elem 22)) := by kernel_rfl
theorem size_ints (W : World) : (sizeOf (Tryz.prog.elem 22)).run Tryz.prog W = .ok 1 W := by kernel_rfl
theorem cut_front (W : World) (p : Option Addr) (n cap a : Nat) (h : a ≤ cap) : (Instr.sliceAt 22 (.slice p n cap) none (some (.int .i64 a)) none).run Tryz.prog W = .ok (.slice p a cap) W := by
  rw [run_sliceAt_slice _ _ _ _ _ _ elem_ints, run_slice_h _ _ _ _ _ elem_ints _ _ (by omega) (by omega), size_ints]
  cases p with
  | none => simp [Result.andThen, sliced]
  | some ad => simp [Result.andThen, sliced, show ad.add 0 = ad by cases ad; simp [Addr.add]]
def backP (p : Option Addr) (cap a : Nat) : Option Addr := if cap = a then p else p.map (·.add (a * 1))
theorem cut_back (W : World) (p : Option Addr) (n cap a : Nat) (h : a ≤ n) : (Instr.sliceAt 22 (.slice p n cap) (some (.int .i64 a)) none none).run Tryz.prog W = .ok (.slice (backP p cap a) (n - a) (cap - a)) W := by
  rw [run_sliceAt_slice _ _ _ _ _ _ elem_ints, run_slice_l _ _ _ _ _ elem_ints _ _ (by omega) (by omega), size_ints]
  simp [Result.andThen, sliced, backP]
theorem back_none {p : Option Addr} {cap a : Nat} (h : backP p cap a = none) : p = none := by
  unfold backP at h
  split at h
  · exact h
  · cases p with
    | none => rfl
    | some ad => cases h
theorem back_cells {w : World} {base e n c a : Nat} {p : Option Addr} {xs : List Value} (h : w.ownsRow base e 1 (.slice p n c) n xs) (ad : Addr) (had : backP p c a = some ad) (j : Nat) (u : Value) (hu : (xs.drop a)[j]? = some u) : w.cell? (ad.add j) = some u := by
  rw [List.getElem?_drop] at hu
  have hj := (List.getElem?_eq_some_iff.1 hu).1
  have hl := h.1
  obtain ⟨g, rfl, hc, hn⟩ := cell_of_own h _ _ hu
  unfold backP at had
  rw [if_neg (by omega)] at had
  simp only [Option.map_some, Option.some.injEq] at had
  subst had
  rw [Addr.add_lit, Addr.add_lit, Nat.zero_add, Nat.mul_one]
  exact hc
theorem front_cells {w : World} {base e n c a : Nat} {p : Option Addr} {xs : List Value} (h : w.ownsRow base e 1 (.slice p n c) n xs) (ad : Addr) (had : p = some ad) (j : Nat) (u : Value) (hu : (xs.take a)[j]? = some u) : w.cell? (ad.add j) = some u := by
  have hj := (List.getElem?_eq_some_iff.1 hu).1
  rw [List.length_take] at hj
  rw [List.getElem?_take_of_lt (by omega)] at hu
  obtain ⟨g, rfl, hc, hn⟩ := cell_of_own h _ _ hu
  cases had
  rw [Addr.add_lit, Nat.zero_add]
  exact hc
/-- An append whose source may be nil. -/
theorem wpList_append_opt {P : Program} (w : World) {ops : Array Oper} {rest : List Oper} {o : Oper} {a : Act} {Q : Exit → Act → World → Prop} (hgd : o.guard = none) (s x : Operand) (t : TypeId)
    (ho : o.op = .call { callee := .builtin .append, args := #[s, x], argTypes := #[t, t] })
    (base : Nat) (e : TypeId) (i : TypeInfo) (z : Value) (size bytes : Nat) (ht : P.underlying t = some (.slice e)) (hi : P.info? e = some i) (hz : i.zero = some z)
    (hsize : i.size = size) (hby : i.bytes = bytes) (hzs : z.cells.size = size) (hsz : 0 < size)
    (v : Value) (n : Nat) (xs : List Value) (hs : a.eval s = v) (hown : w.ownsRow base e size v n xs)
    (ao : Option Addr) (m c : Nat) (news : List Value) (hx : a.eval x = .slice ao m c) (hl : news.length = m * size) (hnone : ao = none → m = 0 ∧ c = 0) (hnews : ∀ ad, ao = some ad → ∀ j u, news[j]? = some u → w.cell? (ad.add j) = some u) (h1 : ∀ u ∈ news, u.oneCell' = true)
    (h63 : n + m ≤ maxLen) (hbytes : (n + m) * bytes ≤ 140737488355328) (hbase : base ≤ w.heap.size)
    (h : ∀ v' w', w'.ownsRow base e size v' (n + m) (xs ++ news) → w.grownBy w' v.ownBlock → wpList P ops Q rest (a.put o.dst v') w') : wpList P ops Q (o :: rest) a w := by
  cases ao with
  | some ad => exact wpList_append_own w hgd s x t ho base e i z size bytes ht hi hz hsize hby hzs hsz v n xs hs hown ad m c news hx hl (hnews ad rfl) h1 h63 hbytes hbase fun v' w' h1 h2 _ => h v' w' h1 h2
  | none =>
    obtain ⟨rfl, rfl⟩ := hnone rfl
    have hnews : news = [] := List.eq_nil_of_length_eq_zero (by simpa using hl)
    subst hnews
    exact wpList_append_own_none hgd s x t ho base e i size ht hi v n xs hs hown hx (h v w (by simpa using hown) ⟨rfl, rfl, rfl, Nat.le_refl _, fun _ _ _ => rfl⟩)
/-- What holds behind the first loop: the receiver behind j calls, the texts and the frames. -/
def MidR (w wr : World) (M : Nat) (q : GPl) (rt : List UInt8) (n y x f j : Nat) (D : List Nat) (vt fv : Value) (TL : List ByteArray) : Prop :=
  RcvR wr M q rt n y x f j D ∧ wr.ownsRow w.heap.size 9 1 vt TL.length (strV TL) ∧ wr.ownsRow w.heap.size 9 1 fv TL.length (frs rt n x TL TL.length) ∧ Below w.heap.size w wr
theorem ownsRow_below {w w' : World} {base e size n : Nat} {v : Value} {xs : List Value} (h : w.ownsRow base e size v n xs) (hb : Below w.heap.size w w') : w'.ownsRow base e size v n xs :=
  ownsRow_blk h fun b hbb => hb.block b (h.lt b hbb).2
theorem mid_below {w wr w' : World} {M n y x f j : Nat} {q : GPl} {rt : List UInt8} {D : List Nat} {vt fv : Value} {TL : List ByteArray} (h : MidR w wr M q rt n y x f j D vt fv TL) (hb : Below wr.heap.size wr w') : MidR w w' M q rt n y x f j D vt fv TL :=
  ⟨rcvR_below h.1 hb, ownsRow_below h.2.1 hb, ownsRow_below h.2.2.1 hb, bnext h.2.2.2 hb⟩
theorem mid_next {w wr : World} {M n y x f t j : Nat} {q : GPl} {rt : List UInt8} {D : List Nat} {vt fv : Value} {TL : List ByteArray} (h : MidR w wr M q rt n y x f j D vt fv TL) (hf : f ≤ t) (hD : ∀ z, z ∈ D ↔ f ≤ z ∧ z < t) : MidR w wr M q rt n y x t j [] vt fv TL :=
  ⟨rcvR_next h.1 hf hD, h.2⟩
theorem bstep {w w1 w2 : World} (h : Below w.heap.size w w1) (k : Below w.heap.size w1 w2) : Below w.heap.size w w2 := h.trans k
theorem mid_good (w wr : World) (M n y x f j g : Nat) (q : GPl) (rt : List UInt8) (D D' : List Nat) (vt fv : Value) (TL : List ByteArray) (h : MidR w wr M q rt n y x f j D vt fv TL) (hM : w.heap.size ≤ M) (hM0 : 0 < M) (hmu : q.mu = 0) (hx : x < n) (hxy : x ≠ y) (hj : j ≤ 10000)
    (h1g : f ≤ g) (h2g : g < f + 5) (hgD : g ∉ D) (hD : ∀ z, z ∈ D' ↔ z = g ∨ z ∈ D) (hg : g ≤ 65535) :
    ∃ (cp : Nat) (V : World), (convert 9 73 (.string (frameB rt n x TL g))).run Tryz.prog wr = .ok (.slice (some ⟨wr.heap.size, 0, none⟩) ((textB TL g).length + 7) cp) V ∧
      Calls Tryz.prog 22 #[.pointer (some ⟨q.G, 0, none⟩), .slice (some ⟨wr.heap.size, 0, none⟩) ((textB TL g).length + 7) cp] V fun e w' => ∃ p c, e = .returned (.tuple #[.agg #[.int .i64 x, .int .i64 g, .slice p (textB TL g).length c], .int .i64 0]) ∧
      Rd w' p (textB TL g) ∧ MidR w w' M q rt n y x f (j + 1) D' vt fv TL ∧ Stay wr w' ∧ wr.heap.size ≤ w'.heap.size := by
  obtain ⟨h1, h2, h3, h4⟩ := h
  have hcv := conv_bytes wr (frameB rt n x TL g)
  have hb := bytes_below wr (frameB rt n x TL g)
  have hbuf := bytes_buf wr (frameB rt n x TL g)
  have hcp := grownCap_ge wr (frameB rt n x TL g).size 0 5
  rw [frameB_list] at hbuf
  rw [frameB_size] at hcv hcp
  refine ⟨_, _, hcv, ?_⟩
  generalize Lib.bytesWorld wr 5 (frameB rt n x TL g) = V at hb hbuf ⊢
  refine (rcv_good wr V M n y x f j g _ q rt (textB TL g) D D' h1 hb hmu hM0 (textB_le _ _) hx hxy hj h1g h2g hgD hD hg hcp hbuf).mono ?_
  rintro e w' ⟨r, rfl, hor, hR, hS, hB⟩
  obtain ⟨p, c, rfl⟩ := row_form hor
  have hor' : w'.ownsRow V.heap.size 5 1 (.slice p (textB TL g).length c) (textB TL g).length (cells (textB TL g)).toList := hor
  have hB1 := hB w.heap.size hM (Nat.le_trans h4.size hb.size)
  refine ⟨p, c, rfl, Rd.own hor', ⟨hR, hS.own (ownsRow_below h2 hb) (by decide) (by decide), hS.own (ownsRow_below h3 hb) (by decide) (by decide), bstep (bnext h4 hb) hB1⟩, fun b cs ty fr hc e1 e2 => ?_, Nat.le_trans hb.size hB1.size⟩
  have e3 := hb.block b (Array.getElem?_eq_some_iff.1 hc).1
  exact (hS b cs ty fr (e3.trans hc) e1 e2).trans e3
theorem mid_bad (w wr : World) (M n y x f j g : Nat) (q : GPl) (rt : List UInt8) (D : List Nat) (vt fv : Value) (TL : List ByteArray) (h : MidR w wr M q rt n y x f j D vt fv TL) (hM : w.heap.size ≤ M) (hM0 : 0 < M) (hmu : q.mu = 0) (hx : x < n) (hxy : x ≠ y) (hj : j ≤ 10000)
    (hgD : g < f ∨ g ∈ D) (hg : g ≤ 65535) :
    ∃ (cp : Nat) (V : World), (convert 9 73 (.string (frameB rt n x TL g))).run Tryz.prog wr = .ok (.slice (some ⟨wr.heap.size, 0, none⟩) ((textB TL g).length + 7) cp) V ∧
      Calls Tryz.prog 22 #[.pointer (some ⟨q.G, 0, none⟩), .slice (some ⟨wr.heap.size, 0, none⟩) ((textB TL g).length + 7) cp] V fun e w' => e = .returned (.tuple #[msg0, .int .i64 5]) ∧
      MidR w w' M q rt n y x f (j + 1) D vt fv TL ∧ Stay wr w' ∧ wr.heap.size ≤ w'.heap.size := by
  obtain ⟨h1, h2, h3, h4⟩ := h
  have hcv := conv_bytes wr (frameB rt n x TL g)
  have hb := bytes_below wr (frameB rt n x TL g)
  have hbuf := bytes_buf wr (frameB rt n x TL g)
  have hcp := grownCap_ge wr (frameB rt n x TL g).size 0 5
  rw [frameB_list] at hbuf
  rw [frameB_size] at hcv hcp
  refine ⟨_, _, hcv, ?_⟩
  generalize Lib.bytesWorld wr 5 (frameB rt n x TL g) = V at hb hbuf ⊢
  refine (rcv_bad wr V M n y x f j g _ q rt (textB TL g) D h1 hb hmu hM0 (textB_le _ _) hx hxy hj hgD hg hcp hbuf).mono ?_
  rintro e w' ⟨rfl, hR, hS, hB⟩
  have hB1 := hB w.heap.size hM (Nat.le_trans h4.size hb.size)
  refine ⟨rfl, ⟨hR, hS.own (ownsRow_below h2 hb) (by decide) (by decide), hS.own (ownsRow_below h3 hb) (by decide) (by decide), bstep (bnext h4 hb) hB1⟩, fun b cs ty fr hc e1 e2 => ?_, Nat.le_trans hb.size hB1.size⟩
  have e3 := hb.block b (Array.getElem?_eq_some_iff.1 hc).1
  exact (hS b cs ty fr (e3.trans hc) e1 e2).trans e3
end Go.Proofs.YtccidllcjaaeeabGreatDoor
