/- The document's Unprotect, where a frame is refused ahead of its opening. Conditions: the group reads as its state. -/
import Derived.Test.YtccidllcjaaeeabGreatDoorHRefAmong
import Derived.StillTailTactics
import Derived.BigQuiet
namespace Go.Proofs.YtccidllcjaaeeabGreatDoor
set_option maxRecDepth 100000
open Go Go.Maps Go.RowKit
open Go.Shelf Go.Lib Go.Sort Go.MuLone
theorem results_tmp4 {fn : Func} {t u v x : Tmp} (h : fn.results = #[.tmp t, .tmp u, .tmp v, .tmp x]) (tmps : Array Value) (P : Program) (w : World) :
    (results fn tmps).run P w = .ok (.tuple #[tmps.getD t undef, tmps.getD u undef, tmps.getD v undef, tmps.getD x undef]) w := by
  simp [results, h]
theorem RefAt.drewN {w : World} {lo R B : Nat} {s : GSt} {st : Int} (h : RefAt w lo R B s st) (k : Nat) : RefAt (w.drewN k) lo R B s st := h.keep fun _ _ _ _ _ => rfl
theorem RFrm.drewN {w w' : World} {R B : Nat} (h : RFrm w w' R B) (k : Nat) : RFrm w (w'.drewN k) R B := ⟨h.os, h.tape, h.output, h.size, h.block⟩
theorem first_byte {f : ByteArray} {x0 : UInt8} {tl : List UInt8} (h : f.data.toList = x0 :: tl) (h0 : 0 < f.size) : f[0] = x0 := by
  rw [← bytes_getD f 0 h0, h]; rfl
theorem second_byte {f : ByteArray} {x0 x1 : UInt8} {tl : List UInt8} (h : f.data.toList = x0 :: x1 :: tl) (h0 : 1 < f.size) : f[1] = x1 := by
  rw [← bytes_getD f 1 h0, h]; rfl
theorem third_byte {f : ByteArray} {x0 x1 x2 : UInt8} {tl : List UInt8} (h : f.data.toList = x0 :: x1 :: x2 :: tl) (h0 : 2 < f.size) : f[2] = x2 := by
  rw [← bytes_getD f 2 h0, h]; rfl
set_option maxHeartbeats 8000000 in
theorem refUn_no (w : World) (lo R B : Nat) (s : GSt) (st : Int) (f : ByteArray) (c : Int) (h : RefAt w lo R B s st) (hI : GInv s) (hf : f.size ≤ 9223372036854775807) (hc : unprotNo s f.data.toList = some c) :
    Calls Tryz.prog 23 #[.pointer (some ⟨R, 0, none⟩), .string f] w fun e w' => e = .returned (.tuple #[.int .i64 0, .int .i64 0, .string ⟨#[]⟩, .int .i64 c]) ∧ RefAt w' lo R B s 0 ∧ RFrm w w' R B := by
  have hl : f.data.toList.length = f.size := by simp
  obtain ⟨_, _, _, _, _, c12, fz⟩ := h.fields
  have hfz := fz 12
  obtain ⟨X, hX⟩ : ∃ X, X = w.setCell ⟨R, 12, none⟩ (.int .i64 0) := ⟨_, rfl⟩
  have hst := h.steps 0
  rw [← hX] at hst
  have hfr := RFrm.set (w := w) (R := R) (B := B) R 12 (.int .i64 0) (.inl rfl)
  rw [← hX] at hfr
  obtain ⟨_, x8, x9, x10, x11, _, _⟩ := hst.fields
  have hown := hI.own
  have hn16 := hI.n16
  obtain ⟨own, ho⟩ : ∃ own, own = s.own := ⟨_, rfl⟩
  obtain ⟨n, hn⟩ : ∃ n, n = s.n := ⟨_, rfl⟩
  rw [← ho] at x9 hown
  rw [← hn] at x8 x10 hn16 hown
  obtain ⟨m, hm⟩ : ∃ m, m = f.size := ⟨_, rfl⟩
  have hfm : (f.size : Int) = (m : Nat) := by rw [hm]
  rw [← hm] at hf hl
  have HX := Lib.hid hX
  have Hst := Lib.hid hst
  have Hfr := Lib.hid hfr
  have Ho := Lib.hid ho
  have Hn := Lib.hid hn
  have Hm := Lib.hid hm
  have Hl := Lib.hid hl
  unfold unprotNo at hc
  clear h fz hX hst hfr ho hn hm hl
  cases hcl : s.closed with
  | true =>
    rw [hcl] at x11
    rw [if_pos hcl] at hc
    cases hc
    clear hfm
    go_enter Tryz.func23, Tryz.ntmps23
    go_upto_region 2 with (fail)
    rw [← HX.out]
    go_wp2
    refine bodyPost_ret (results_tmp4 rfl _ _ _) rfl ⟨rfl, Hst.out, Hfr.out⟩
  | false =>
    rw [hcl] at x11
    rw [if_neg (by rw [hcl]; simp)] at hc
    by_cases h7 : m < 7
    · have d7 : decide ((f.size : Int) < 7) = true := decide_eq_true (by omega)
      have hc3 : c = 3 := by
        cases hfl : f.data.toList with
        | nil => rw [hfl] at hc; cases hc; rfl
        | cons x0 tl =>
          have hL := Hl.out
          rw [hfl] at hc hL
          simp only at hc
          rw [if_pos (Or.inl (by omega))] at hc
          cases hc; rfl
      subst hc3
      clear hc hfm
      go_enter Tryz.func23, Tryz.ntmps23
      go_upto_region 2 with (fail)
      rw [← HX.out]
      go_upto_region 4 with (fail)
      go_quiet (fail)
      go_wp2
      refine bodyPost_ret (results_tmp4 rfl _ _ _) rfl ⟨rfl, Hst.out.drewN _, Hfr.out.drewN _⟩
    · obtain ⟨x0, tl, hx⟩ : ∃ x0 tl, f.data.toList = x0 :: tl := by
        cases hfl : f.data.toList with
        | nil => have hL := Hl.out; rw [hfl] at hL; simp at hL; omega
        | cons x0 tl => exact ⟨x0, tl, rfl⟩
      have hL := Hl.out
      rw [hx] at hc hL
      simp only at hc
      rw [hL] at hc
      have hz : 0 < f.size := by rw [← Hm.out]; omega
      have hb0 := first_byte hx hz
      obtain ⟨v0, hv0⟩ : ∃ v0, v0 = x0.toNat := ⟨_, rfl⟩
      have hv1 : v0 < 256 := by rw [hv0]; exact x0.toNat_lt
      have hb : (f[0]'hz).toNat = v0 := by rw [hb0, hv0]
      rw [← hv0, ← Hn.out, ← Ho.out] at hc
      have hzI : (0 : Int) < (f.size : Nat) := by omega
      have d7 : decide ((f.size : Int) < 7) = false := decide_eq_false (by omega)
      clear hb0 hv0 hL hx
      by_cases h47 : 47 < m
      · have d47 : decide ((47 : Int) < (f.size : Nat)) = true := decide_eq_true (by omega)
        rw [if_pos (Or.inr (Or.inl h47))] at hc
        cases hc
        clear hfm
        go_enter Tryz.func23, Tryz.ntmps23
        go_upto_region 2 with (fail)
        rw [← HX.out]
        go_upto_region 4 with (fail)
        go_quiet (fail)
        go_wp2
        refine bodyPost_ret (results_tmp4 rfl _ _ _) rfl ⟨rfl, Hst.out.drewN _, Hfr.out.drewN _⟩
      · have d47 : decide ((47 : Int) < (f.size : Nat)) = false := decide_eq_false (by omega)
        by_cases hxn : n ≤ v0
        · have dx : decide ((n : Int) ≤ (v0 : Int)) = true := decide_eq_true (by omega)
          rw [if_pos (Or.inr (Or.inr hxn))] at hc
          cases hc
          clear hfm
          go_enter Tryz.func23, Tryz.ntmps23
          go_upto_region 2 with (fail)
          rw [← HX.out]
          go_upto_region 4 with (fail)
          go_quiet (fail)
          go_wp2
          refine bodyPost_ret (results_tmp4 rfl _ _ _) rfl ⟨rfl, Hst.out.drewN _, Hfr.out.drewN _⟩
        · have dx : decide ((n : Int) ≤ (v0 : Int)) = false := decide_eq_false (by omega)
          rw [if_neg (by omega)] at hc
          by_cases hxo : v0 = own
          · rw [if_pos hxo] at hc
            cases hc
            subst hxo
            clear hfm
            go_enter Tryz.func23, Tryz.ntmps23
            go_upto_region 2 with (fail)
            rw [← HX.out]
            go_upto_region 4 with (fail)
            go_quiet (fail)
            go_wp2
            refine bodyPost_ret (results_tmp4 rfl _ _ _) rfl ⟨rfl, Hst.out.drewN _, Hfr.out.drewN _⟩
          · rw [if_neg hxo] at hc
            cases hc
end Go.Proofs.YtccidllcjaaeeabGreatDoor
