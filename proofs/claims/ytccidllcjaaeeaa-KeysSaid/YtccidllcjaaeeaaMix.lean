/- The walk of kdf's mix: a new slice that holds the mixed text; one secret is derived for each eight bytes begun. Conditions: the key has eight bytes, the text at most 65540, the counter is far from its end. -/
import Derived.Test.YtccidllcjaaeeaaRd
namespace Go.Proofs.Ytccidllcjaaeeaa
open Go.RowKit
theorem cnt_cell {w wr : World} {D o : Nat} {u x : Value} (hb : Below w.heap.size (w.setCell ⟨D, o, none⟩ x) wr) (hx : w.cell? ⟨D, o, none⟩ = some u) : wr.cell? ⟨D, o, none⟩ = some x := by
  rw [hb.cell (block_lt_of_cell hx)]
  exact World.cell?_setCell_same _ _ _ hx
theorem cnt_frozen {w wr : World} {D o : Nat} {u x : Value} (hb : Below w.heap.size (w.setCell ⟨D, o, none⟩ x) wr) (hx : w.cell? ⟨D, o, none⟩ = some u) (hf : w.frozen? ⟨D, o, none⟩ = false) : wr.frozen? ⟨D, o, none⟩ = false := by
  rw [hb.frozen (block_lt_of_cell hx), World.frozen?_setCell]
  exact hf
theorem setCell_twice (w : World) (a : Addr) (u x : Value) : (w.setCell a u).setCell a x = w.setCell a x := by
  simp only [World.setCell]
  congr 1
  apply Array.ext_getElem?
  intro i
  simp only [Array.getElem?_modify]
  by_cases h : a.block = i
  · simp only [h, if_true, Option.map_map]
    congr 1
    funext ob
    cases ob <;> simp
    split <;> simp
  · simp only [h, if_false]
theorem setCell_self {w : World} {a : Addr} {u : Value} (h : w.cell? a = some u) : w.setCell a u = w := by
  unfold World.cell? at h
  split at h
  · rename_i c e fr hb
    split at h
    · cases h
    · rename_i hs
      have hs' : a.spot.isSome = false := by simpa using hs
      have hc : c.setIfInBounds a.off u = c := by
        apply Array.ext_getElem?
        intro i
        rw [Array.getElem?_setIfInBounds]
        split
        · rename_i hi; subst hi
          split
          · exact h.symm
          · rename_i hlt
            rw [Array.getElem?_eq_none (by omega)]
        · rfl
      have hheap : (w.setCell a u).heap = w.heap := by
        simp only [World.setCell]
        apply Array.ext_getElem?
        intro i
        rw [Array.getElem?_modify]
        by_cases hi : a.block = i
        · subst hi
          rw [if_pos rfl, hb]
          simp [hs', hc]
        · rw [if_neg hi]
      show { w with heap := (w.setCell a u).heap } = w
      rw [hheap]
  · cases h
theorem cnt_next {w wr w1 : World} {p : Addr} {x y : Value} (hb : Below w.heap.size (w.setCell p x) wr) (h1 : Below wr.heap.size (wr.setCell p y) w1) : Below w.heap.size (w.setCell p y) w1 := by
  have h2 := below_setCell hb p y
  rw [setCell_twice] at h2
  have := hb.size
  rw [size_setCell] at this
  exact h2.trans (h1.mono this)

theorem mix_step {w : World} {b e g n c : Nat} {k l : List UInt8} (j t : Nat) (ht : t < 8) (h : w.ownsRow b e 1 (.slice (some ⟨g, 0, none⟩) n c) n (cells (mixP k (8 * j + t) l)).toList) :
    (w.setCell ⟨g, j * 8 + t, none⟩ (.int .u8 (bits BinOp.xor IntKind.u8 ↑(l[8 * j + t]?.getD 0).toNat ↑((kd k lStream ↑j)[t]?.getD 0).toNat))).ownsRow b e 1 (.slice (some ⟨g, 0, none⟩) n c) n (cells (mixP k (8 * j + (t + 1)) l)).toList := by
  have h1 := (h.stored (8 * j + t) (.int .u8 (bits BinOp.xor IntKind.u8 ↑(l[8 * j + t]?.getD 0).toNat ↑((kd k lStream ↑j)[t]?.getD 0).toNat))).1
  rw [show j * 8 + t = 8 * j + t from by omega]
  rw [u8_xor8, cells_set] at h1
  rw [u8_xor8, show 8 * j + (t + 1) = 8 * j + t + 1 from by omega, mixP, strm, show (8 * j + t) / 8 = j from by omega, show (8 * j + t) % 8 = t from by omega]
  exact h1
theorem lStream_eq : (⟨#[115, 116, 114, 101, 97, 109]⟩ : ByteArray).data.toList = lStream := rfl
set_option maxHeartbeats 1000000 in
theorem mix_any (D o : Nat) (v : Int) (w : World) (k : List UInt8) (p : Option Addr) (cap : Nat) (l : List UInt8) (hk : k.length = 8)
    (hx : w.cell? ⟨D, o, none⟩ = some (.int .i64 v)) (hf : w.frozen? ⟨D, o, none⟩ = false) (hb0 : 0 ≤ v) (hb1 : v ≤ 4611686018427000000)
    (hp : p = none → cap = 0 ∧ l = []) (hs : p ≠ none → ∃ b o, p = some ⟨b, o, none⟩) (hl : l.length ≤ 65540) (hr : Rd w p l) :
    Calls Try.prog 32 #[.pointer (some ⟨D, o, none⟩), .agg (cells k), .slice p l.length cap] w fun e w' =>
      ∃ r, e = .returned r ∧ w'.ownsRow w.heap.size 5 1 r l.length (cells (mixL k l)).toList ∧ Below w.heap.size (w.setCell ⟨D, o, none⟩ (.int .i64 (v + ((l.length + 7) / 8 : Nat)))) w' := by
  have hD := block_lt_of_cell hx
  have Hk := Lib.hid hk
  clear hk
  go_enter Try.func32, Try.ntmps32
  go_wp2_with fail
  refine (clone_any _ p cap l hp hs (by omega) (hr.alloc _)).mono ?_
  rintro e w1 ⟨out, rfl, hown, hbel⟩
  have hkey : w1.heap[w.heap.size]? = some (.cells (cells k) 26 (0, 0)) := by
    rw [hbel.block _ (by simp)]; exact heap_alloc_new _ _
  have hown0 : w1.ownsRow (w.heap.size + 1) 5 1 out l.length (cells (mixP k 0 l)).toList := ownsRow_mono hown (by simp)
  have hb : Below w.heap.size (w.setCell ⟨D, o, none⟩ (.int .i64 (v + ((0 : Nat) : Int)))) w1 := by
    have h1 : Below w.heap.size w w1 := bnext (balloc (Below.refl _ _) _) hbel
    have h2 : w.setCell ⟨D, o, none⟩ (.int .i64 (v + ((0 : Nat) : Int))) = w := by
      rw [show v + ((0 : Nat) : Int) = v from by omega]
      exact setCell_self hx
    rw [h2]; exact h1
  have hlen : ∀ m, (mixP k m l).length = l.length := fun m => mixP_length k m l
  have Hkey := Lib.hid hkey
  have Hown0 := Lib.hid hown0
  have Hlen := Lib.hid hlen
  clear hkey hown hown0 hlen
  generalize hN : l.length = N at *
  have HN := Lib.hid hN
  clear hN
  go_upto_region 2 with (fail)
  obtain ⟨q, c, rfl, hq⟩ := ownsRow_slice Hown0.out
  have Hq := Lib.hid hq
  clear hq
  go_wp2
  go_loopw [8, 9, 10] (fun i _ _ wr => ∃ j : Nat, i = .int .i64 j ∧ (j = 0 ∨ 8 * (j - 1) < N) ∧ wr.ownsRow (w.heap.size + 1) 5 1 (.slice q N c) N (cells (mixP k (min N (8 * j)) l)).toList ∧ Below w.heap.size (w.setCell ⟨D, o, none⟩ (.int .i64 (v + (j : Int)))) wr ∧ wr.heap[w.heap.size]? = some (.cells (cells k) 26 (0, 0))) (fun i _ _ _ => 70000 - (intOf i).toNat)
  case atStart => exact ⟨0, rfl, .inl rfl, by rw [Nat.mul_zero, Nat.min_zero]; exact Hown0.out, hb, Hkey.out⟩
  case round =>
    obtain ⟨j, rfl, hj, hro, hrb, hrk⟩ := hrel
    obtain ⟨wo, rfl⟩ : ∃ wo : World, wo = wr := ⟨_, rfl⟩
    have Hro := Lib.hid hro
    have Hrk := Lib.hid hrk
    have hc := cnt_cell hrb hx
    have hcf := cnt_frozen hrb hx hf
    clear hro hrk
    by_cases hlt : 8 * j < N
    · obtain ⟨g, rfl, hg1, hg2, hNc⟩ : ∃ g, q = some ⟨g, 0, none⟩ ∧ w.heap.size + 1 ≤ g ∧ g < w1.heap.size ∧ N ≤ c := by
        rcases Hq.out with ⟨_, _, h⟩ | h
        · omega
        · exact h
      have hcj : ¬ c = j * 8 := by omega
      obtain ⟨M, hM⟩ : ∃ M, M = min N (8 * (j + 1)) - 8 * j := ⟨_, rfl⟩
      have hM0 : M ≤ 8 := by omega
      have hM1 : M + 8 * j ≤ N := by omega
      have hM2 : min N (8 * (j + 1)) = 8 * j + M := by omega
      have hMin : min N (8 * j) = 8 * j := by omega
      have HM2 := Lib.hid hM2
      have HMin := Lib.hid hMin
      have h8a : ¬ (j + 1) * 8 < N → N - j * 8 = M := by omega
      have h8b : (j + 1) * 8 < N → (j + 1) * 8 - j * 8 = M := by omega
      have H8a := Lib.hid h8a
      have H8b := Lib.hid h8b
      clear hM hM2 hMin h8a h8b
      by_cases h8 : (j + 1) * 8 < N
      all_goals
        go_wp2_with (first | (refine wpList_load_row rfl 26 _ rfl w.heap.size rfl _ _ _ _ Hrk.out Try.underlying26 rfl (by rw [infoSecret, cells_size, Hk.out]) ?_) | (go_at_call 19; go_must (refine (derive_any D o (v + (j : Int)) _ k _ _ Hk.out (by decide) hc hcf (by omega) (by omega)).mono ?_); rintro e w2 ⟨rfl, hb2⟩; rw [lStream_eq]) | (refine wpList_store_row rfl 26 _ _ rfl _ _ rfl rfl _ _ (heap_alloc_new _ _) (by rw [infoSecret, cells_size, kd_length]) (by rw [cells_size, kd_length]; rfl) (cells_one _) ?_; rw [World.setRow_alloc_new]))
        first
          | rw [H8a.out h8]
          | rw [H8b.out h8]
        clear h8 hcj
        have hb2' : Below w.heap.size (w.setCell ⟨D, o, none⟩ (.int .i64 (v + ((j + 1 : Nat) : Int)))) w2 := by
          rw [show v + ((j + 1 : Nat) : Int) = v + (j : Int) + 1 from by omega]
          exact cnt_next hrb hb2
        have hsz : wo.heap.size ≤ w2.heap.size := by have := hb2.size; rwa [size_setCell] at this
        have hgr : g < wo.heap.size := Hro.out.lt g rfl |>.2
        have hgD : g ≠ D := by omega
        have hg2 : w2.heap[g]? = wo.heap[g]? := by rw [hb2.block _ hgr, heap_setCell_other _ _ _ _ hgD]
        have hro2 := ownsRow_same (ownsRow_same Hro.out hg2) (Below.heap_alloc w2 (.cells (cells (kd k lStream j)) 26) g (by omega))
        have hk2 : (w2.alloc (.cells (cells (kd k lStream j)) 26)).heap[w.heap.size]? = some (.cells (cells k) 26 (0, 0)) := by
          rw [Below.heap_alloc _ _ _ (by omega), hb2.block _ (by omega), heap_setCell_other _ _ _ _ (by simp; omega)]
          exact Hrk.out
        rw [HMin.out] at hro2
        have Hro2 := Lib.hid hro2
        have Hk2 := Lib.hid hk2
        have hS : w2.heap.size ≠ g := by omega
        have hgw : w.heap.size + 1 ≤ w2.heap.size := by omega
        clear hro2 hk2 hg2
        go_loopw [10, 35] (fun _ i wq => ∃ t : Nat, t ≤ M ∧ i = .int .i64 t ∧ wq.ownsRow (w.heap.size + 1) 5 1 (.slice (some ⟨g, 0, none⟩) N c) N (cells (mixP k (8 * j + t) l)).toList ∧ Below w.heap.size (w.setCell ⟨D, o, none⟩ (.int .i64 (v + ((j + 1 : Nat) : Int)))) wq ∧ wq.heap[w.heap.size]? = some (.cells (cells k) 26 (0, 0)) ∧ wq.heap[w2.heap.size]? = some (.cells (cells (kd k lStream j)) 26 (0, 0))) (fun _ i _ => M - (intOf i).toNat)
        case atStart => exact ⟨0, Nat.zero_le _, rfl, Hro2.out, hb2'.alloc (by omega) _, Hk2.out, heap_alloc_new _ _⟩
        case round =>
          obtain ⟨t, ht, rfl, hqo, hqb, hqk, hqs⟩ := hrel
          have Hqo := Lib.hid hqo
          have Hqk := Lib.hid hqk
          have Hqs := Lib.hid hqs
          clear hqo hqk hqs
          by_cases hlt2 : t < M
          · have hcg : wr.cell? ⟨g, j * 8 + t, none⟩ = some (.int .u8 (l.getD (8 * j + t) 0).toNat) := by
              rw [show j * 8 + t = 8 * j + t from by omega, own_cell Hqo.out (Hlen.out _) _ (by omega), mixP_at _ _ _ (by rw [HN.out]; omega)]
            have hcs : wr.cell? ⟨w2.heap.size, t, none⟩ = some (.int .u8 ((kd k lStream j).getD t 0).toNat) := row_cell Hqs.out t (by rw [kd_length]; omega)
            have hfg : wr.frozen? ⟨g, j * 8 + t, none⟩ = false := Hqo.out.frozenAt _
            have ht8 : t < 8 := by omega
            have htN : j * 8 + t < N := by omega
            go_wp2
            go_region
            go_wp2
            go_roundw
            case rel =>
              have hf1 : w.heap.size ≠ g := by omega
              refine ⟨t + 1, by omega, by go_num, (mix_step j t ht8 Hqo.out).drew, (hqb.setCell (by simp; omega) _).drew, ?_, ?_⟩
              · rw [heap_drew, heap_setCell_other _ _ _ _ hf1]; exact Hqk.out
              · rw [heap_drew, heap_setCell_other _ _ _ _ hS]; exact Hqs.out
            case measure => simp [intOf]; omega
          · obtain rfl : t = M := by omega
            clear hlt2
            go_wp2
            go_roundw
            case rel => exact ⟨j + 1, by go_num, .inr (by omega), by rw [HM2.out]; exact Hqo.out, hqb, Hqk.out⟩
            case measure => simp [intOf]; omega
    · have hj8 : (v + (((N + 7) / 8 : Nat) : Int)) = v + (j : Int) := by omega
      have hm : min N (8 * j) = N := by omega
      have Hj8 := Lib.hid hj8
      have Hm := Lib.hid hm
      clear hj8 hm
      go_wp2
      go_ret
      refine ⟨_, rfl, ?_, ?_⟩
      · have h := Hro.out
        rw [Hm.out, ← HN.out] at h
        rw [← HN.out]
        exact ownsRow_mono h (by omega)
      · rw [HN.out, Hj8.out]; exact hrb
end Go.Proofs.Ytccidllcjaaeeaa
