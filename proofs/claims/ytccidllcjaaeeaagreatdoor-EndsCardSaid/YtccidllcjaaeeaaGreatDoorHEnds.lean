/- The walk of epochkeep's Ends. Conditions: its numbers are ints; the errors' type word lies. -/
import Derived.Test.YtccidllcjaaeeaaGreatDoorHEndsRun
import Derived.BigQuiet
namespace Go.Proofs.YtccidllcjaaeeaaGreatDoor
set_option maxRecDepth 100000
open Go Go.Maps Go.RowKit
open Go.Shelf Go.Lib Go.Sort Go.MuLone
theorem and_255 (a : Nat) (ha : a < 1000000) : bits BinOp.and IntKind.i64 (a : Int) 255 = ((a % 256 : Nat) : Int) := by
  have e1 : BitVec.ofInt IntKind.i64.bits (a : Int) = BitVec.ofNat 64 a := BitVec.ofInt_natCast _ _
  have e2 : BitVec.ofInt IntKind.i64.bits 255 = BitVec.ofNat 64 255 := BitVec.ofInt_natCast 64 255
  show IntKind.i64.wrap ((BitVec.ofInt IntKind.i64.bits (a : Int) &&& BitVec.ofInt IntKind.i64.bits 255).toNat : Nat) = _
  rw [e1, e2]
  have e3 : (BitVec.ofNat 64 a &&& BitVec.ofNat 64 255).toNat = a % 256 := by
    rw [BitVec.toNat_and, BitVec.toNat_ofNat, BitVec.toNat_ofNat, Nat.mod_eq_of_lt (by omega), Nat.mod_eq_of_lt (by omega)]
    exact Nat.and_two_pow_sub_one_eq_mod a 8
  have e4 : ∀ x : BitVec 64, x.toNat = a % 256 → IntKind.i64.wrap (x.toNat : Nat) = ((a % 256 : Nat) : Int) := fun x h => by
    rw [h]; simp [IntKind.wrap, IntKind.bits, IntKind.signed]; omega
  exact e4 _ e3
set_option maxHeartbeats 8000000 in
theorem ends_any (w : World) (root : ByteArray) (c a : Int) (h1 : -9223372036854775808 ≤ c) (h2 : c ≤ 9223372036854775807) (h3 : -9223372036854775808 ≤ a) (h4 : a ≤ 9223372036854775807) (hEG : EG w) :
    Calls Tryz.prog 5 #[.string root, .int .i64 c, .int .i64 a] w fun e w' => e = .returned (.bool true) ∧ Below w.heap.size w w' := by
  obtain ⟨n, hn⟩ : ∃ n, n = 2 + pickN c 15 := ⟨_, rfl⟩
  obtain ⟨x, hx⟩ : ∃ x, x = pickN a n := ⟨_, rfl⟩
  have hpair := pair_any w root c a n x h1 h2 h3 h4 hn hx
  have Hpair := Lib.hid hpair
  have Hn := Lib.hid hn
  have Hx := Lib.hid hx
  clear hpair hn hx
  go_enter Tryz.func5, Tryz.ntmps5
  go_upto_region 2 with (go_at_call 11; refine Hpair.out.mono ?_; rintro e w1 ⟨p, q, rfl, hP⟩; have HP := Lib.hid hP; clear hP; go_frame)
  obtain ⟨hp0, hq0, hb1, M, hM, hA1, hpM, hB1⟩ := HP.out
  have hr8 : (sec root).length = 8 := sec_length _
  have hxn : x < n := by rw [Hx.out]; exact pickN_lt a n (by have := Hn.out; omega)
  have hn16 : n ≤ 16 := by have := pickN_lt c 15 (by omega); have := Hn.out; omega
  have hn2 : 2 ≤ n := by have := Hn.out; omega
  have hx16 : x < 16 := by omega
  have hw0 : 0 < w.heap.size := Nat.lt_of_le_of_lt (Nat.zero_le _) (block_lt_of_cell hEG)
  have hS1 := sndX_zero hA1 (inv_st0 _ _ _ hr8 hxn hn16) (hEG.below hb1)
  have HS1 := Lib.hid hS1
  have Hb1 := Lib.hid hb1
  clear hb1 hA1 hpM hB1 hS1 HP
  obtain ⟨E, hE⟩ : ∃ E : Nat, E = 65536 := ⟨_, rfl⟩
  have HE := Lib.hid hE
  clear hE
  go_upto_region 5 with (fail)
  go_loopw [10] (fun iv wr => ∃ (z : Int), 0 ≤ z ∧ z ≤ 65536 ∧ iv = .int .i64 z ∧ SndX wr w.heap.size p (sec root) n x z.toNat ∧ Below w.heap.size w wr) (fun iv _ => E - (intOf iv).toNat)
  case atStart => exact ⟨0, Int.le_refl _, by omega, rfl, HS1.out, Hb1.out⟩
  case round =>
    obtain ⟨z, hz0, hz6, rfl, hS, hb⟩ := hrel
    have HS := Lib.hid hS
    have Hb := Lib.hid hb
    clear hS hb
    obtain ⟨i, hiz⟩ : ∃ i, i = z.toNat := ⟨_, rfl⟩
    have Hiz := Lib.hid hiz
    clear hiz
    by_cases hi : z < 65536
    · by_cases hlast : z = 65535
      · obtain rfl := hlast
        have hS := HS.out
        rw [← Hiz.out] at hS
        have hi5 : (i : Int) = 65535 := by have := Hiz.out; omega
        have Hi5 := Lib.hid hi5
        clear hi5
        obtain ⟨D, hd8, hdl, hlastD, _, hdump⟩ := sndX_dump wr w.heap.size n x i p (sec root) hS hp0 hw0 Hb.out.size (by have := Hi5.out; omega) (by have := Hi5.out; omega) hxn hn2
        obtain ⟨k, hk, hDk, hkk, hka, hkg⟩ := hlastD (by have := Hi5.out; omega)
        have Hd8 := Lib.hid hd8
        have Hdump := Lib.hid hdump
        have hkI : ((D.length : Nat) : Int) - 1 = (k : Nat) := by omega
        have hkl : (k : Int) < (D.length : Nat) := by omega
        have hk0 : (0 : Int) ≤ (k : Nat) := by omega
        have hk00 : ¬ (k : Int) < 0 := by omega
        have HDk := Lib.hid hDk
        have Hkk := Lib.hid hkk
        have Hka := Lib.hid hka
        have Hkg := Lib.hid hkg
        clear hd8 hdump hlastD hDk hkk hka hkg hS
        go_upto_region 9 with (go_at_call 17; refine Hdump.out.mono ?_; rintro e w9 ⟨v, rfl, ho9, hS9, hb9⟩; have Ho9 := Lib.hid ho9; have HS9 := Lib.hid hS9; have Hb9 := Lib.hid hb9; clear ho9 hS9 hb9; go_frame)
        obtain ⟨p9, c9, rfl⟩ := row_form Ho9.out
        obtain ⟨g9, rfl⟩ : ∃ g9, p9 = some ⟨g9, 0, none⟩ := by
          rcases Ho9.out.2 with ⟨_, h0⟩ | ⟨g9, cap, cur, e, _⟩
          · omega
          · cases e; exact ⟨g9, rfl⟩
        have hrg := item_range Ho9.out Hd8.out k hk
        have hcell : ∀ j u, (icells D[k])[j]? = some u → w9.cell? ⟨g9, k * 12 + j, none⟩ = some u := fun j u hu => hrg j u (by rw [Array.getElem?_toList]; exact hu)
        have k0 : w9.cell? ⟨g9, k * 12, none⟩ = some (.int .i64 1) := hcell 0 _ (by rw [icells, Array.getElem?_append_left (by simp), Hkk.out]; rfl)
        have k1 : w9.cell? ⟨g9, k * 12 + 1, none⟩ = some (.int .i64 x) := hcell 1 _ (by rw [icells, Array.getElem?_append_left (by simp), Hka.out]; rfl)
        have k3 : w9.cell? ⟨g9, k * 12 + 3, none⟩ = some (.int .i64 65535) := hcell 3 _ (by rw [icells, Array.getElem?_append_left (by simp), Hkg.out, ← Hi5.out]; rfl)
        clear hrg hcell
        go_upto_region 12 with (fail)
        have hbw9 := Hb.out.trans Hb9.out
        have Hbw9 := Lib.hid hbw9
        clear hbw9
        have hS := HS9.out
        have hgo := sndX_go w9 w.heap.size n x i p (sec root) hS hp0 hw0 Hbw9.out.size (by have := Hi5.out; omega)
        have Hgo := Lib.hid hgo
        clear hgo hS
        go_upto_region 13 with (go_at_call 12; refine Hgo.out.mono ?_; rintro e w7 ⟨v7, rfl, ho7, hS7, hb7⟩; have Ho7 := Lib.hid ho7; have HS7 := Lib.hid hS7; have Hb7 := Lib.hid hb7; clear ho7 hS7 hb7; go_frame)
        obtain ⟨g7, c7, rfl, hcA, hcB⟩ := Ho7.out.form (by omega)
        have b0 : w7.cell? ⟨g7, 0, none⟩ = some (.int .u8 x) := by
          obtain ⟨g', e1, e2, _⟩ := cell_of_own Ho7.out 0 (.int .u8 (UInt8.ofNat x).toNat) rfl
          cases e1
          rwa [show (UInt8.ofNat x).toNat = x by rw [UInt8.toNat_ofNat']; omega] at e2
        have b1 : w7.cell? ⟨g7, 1, none⟩ = some (.int .u8 255) := by
          obtain ⟨g', e1, e2, _⟩ := cell_of_own Ho7.out 1 (.int .u8 (UInt8.ofNat (i / 256)).toNat) rfl
          cases e1
          rwa [show (((UInt8.ofNat (i / 256)).toNat : Nat) : Int) = 255 by rw [UInt8.toNat_ofNat']; have := Hiz.out; omega] at e2
        have b2 : w7.cell? ⟨g7, 2, none⟩ = some (.int .u8 255) := by
          obtain ⟨g', e1, e2, _⟩ := cell_of_own Ho7.out 2 (.int .u8 (UInt8.ofNat (i % 256)).toNat) rfl
          cases e1
          rwa [show (((UInt8.ofNat (i % 256)).toNat : Nat) : Int) = 255 by rw [UInt8.toNat_ofNat']; have := Hiz.out; omega] at e2
        have hand : bits BinOp.and IntKind.i64 65535 255 = 255 := by
          have := and_255 i (by have := Hi5.out; omega)
          rw [Hi5.out] at this
          rw [this]
          have := Hi5.out
          omega
        go_wp2_with fail
        go_roundw
        case rel =>
          have e : (65535 + 1 : Int).toNat = i + 1 := by have := Hi5.out; omega
          exact ⟨65535 + 1, by omega, by omega, rfl, by rw [e]; exact HS7.out, Hbw9.out.trans Hb7.out⟩
        case measure => simp only [intOf]; have := HE.out; omega
      · have hS := HS.out
        rw [← Hiz.out] at hS
        have hgo := sndX_go wr w.heap.size n x i p (sec root) hS hp0 hw0 Hb.out.size (by have := Hiz.out; omega)
        have Hgo := Lib.hid hgo
        clear hgo hS
        go_upto_region 13 with (go_at_call 12; refine Hgo.out.mono ?_; rintro e w7 ⟨v7, rfl, ho7, hS7, hb7⟩; have Ho7 := Lib.hid ho7; have HS7 := Lib.hid hS7; have Hb7 := Lib.hid hb7; clear ho7 hS7 hb7; go_frame)
        obtain ⟨g7, c7, rfl, hcA, hcB⟩ := Ho7.out.form (by omega)
        have b0 : w7.cell? ⟨g7, 0, none⟩ = some (.int .u8 x) := by
          obtain ⟨g', e1, e2, _⟩ := cell_of_own Ho7.out 0 (.int .u8 (UInt8.ofNat x).toNat) rfl
          cases e1
          rwa [show (UInt8.ofNat x).toNat = x by rw [UInt8.toNat_ofNat']; omega] at e2
        have b1 : w7.cell? ⟨g7, 1, none⟩ = some (.int .u8 (z / 256)) := by
          obtain ⟨g', e1, e2, _⟩ := cell_of_own Ho7.out 1 (.int .u8 (UInt8.ofNat (i / 256)).toNat) rfl
          cases e1
          rwa [show (((UInt8.ofNat (i / 256)).toNat : Nat) : Int) = (z / 256) by rw [UInt8.toNat_ofNat']; have := Hiz.out; omega] at e2
        have b2 : w7.cell? ⟨g7, 2, none⟩ = some (.int .u8 (z % 256)) := by
          obtain ⟨g', e1, e2, _⟩ := cell_of_own Ho7.out 2 (.int .u8 (UInt8.ofNat (i % 256)).toNat) rfl
          cases e1
          rwa [show (((UInt8.ofNat (i % 256)).toNat : Nat) : Int) = (z % 256) by rw [UInt8.toNat_ofNat']; have := Hiz.out; omega] at e2
        have hz10 : 0 ≤ z / 256 := by omega
        have hz11 : z / 256 < 256 := by omega
        have hz20 : 0 ≤ z % 256 := by omega
        have hz21 : z % 256 < 256 := by omega
        have hand : bits BinOp.and IntKind.i64 z 255 = z % 256 := by
          have h1 := and_255 i (by have := Hiz.out; omega)
          have h2 : (i : Int) = z := by have := Hiz.out; omega
          rw [h2] at h1
          rw [h1]
          have := Hiz.out
          omega
        go_wp2_with fail
        go_roundw
        case rel =>
          have e : (z + 1).toNat = i + 1 := by have := Hiz.out; omega
          exact ⟨z + 1, by omega, by omega, rfl, by rw [e]; exact HS7.out, Hb.out.trans Hb7.out⟩
        case measure => simp only [intOf]; have := HE.out; omega
    · obtain rfl : z = 65536 := by omega
      have hS : SndX wr w.heap.size p (sec root) n x E := by rw [HE.out]; exact HS.out
      have hsp := sndX_spent wr w.heap.size n x p (sec root) HS.out hp0 hw0 Hb.out.size
      have Hsp := Lib.hid hsp
      clear hsp hS
      go_upto_region 16 with (go_at_call 12; refine Hsp.out.mono ?_; rintro e w8 ⟨rfl, hS8, hb8⟩; have HS8 := Lib.hid hS8; have Hb8 := Lib.hid hb8; clear hS8 hb8; go_frame)
      have hb8 := Hb.out.trans Hb8.out
      have hS8 : SndX w8 w.heap.size p (sec root) n x E := by rw [HE.out]; exact HS8.out
      obtain ⟨D, hd8, hdl, _, hspD, hdump⟩ := sndX_dump w8 w.heap.size n x E p (sec root) hS8 hp0 hw0 hb8.size (by have := HE.out; omega) (by have := HE.out; omega) hxn hn2
      obtain ⟨hD0, hDs⟩ := hspD (by have := HE.out; omega)
      have Hd8 := Lib.hid hd8
      have Hdump := Lib.hid hdump
      have HDs := Lib.hid hDs
      have Hbw8 := Lib.hid hb8
      have hDI : (0 : Int) < (D.length : Nat) := by omega
      clear hd8 hdump hspD hDs hb8 hS8
      go_upto_region 18 with (go_at_call 17; refine Hdump.out.mono ?_; rintro e w9 ⟨v, rfl, ho9, hS9, hb9⟩; have Ho9 := Lib.hid ho9; have Hb9 := Lib.hid hb9; clear ho9 hS9 hb9; go_frame)
      obtain ⟨p9, c9, rfl⟩ := row_form Ho9.out
      obtain ⟨g9, rfl⟩ : ∃ g9, p9 = some ⟨g9, 0, none⟩ := by
        rcases Ho9.out.2 with ⟨_, h0⟩ | ⟨g9, cap, cur, e, _⟩
        · omega
        · cases e; exact ⟨g9, rfl⟩
      have hbw9 := Hbw8.out.trans Hb9.out
      have Hbw9 := Lib.hid hbw9
      clear hbw9
      go_loopw [18] (fun iv wr => ∃ k : Nat, k ≤ D.length ∧ iv = .int .i64 k ∧ wr = w9) (fun iv _ => D.length - (intOf iv).toNat)
      case atStart => exact ⟨0, Nat.zero_le _, rfl, rfl⟩
      case round =>
        obtain ⟨k, hkD, rfl, hw9⟩ := hrel
        obtain rfl := hw9
        by_cases hk : k < D.length
        · have hkI : (k : Int) < (D.length : Nat) := by omega
          have hk0 : (0 : Int) ≤ (k : Nat) := by omega
          obtain ⟨d, hd⟩ : ∃ d, d = D[k] := ⟨_, rfl⟩
          have hdm : d ∈ D := by rw [hd]; exact List.getElem_mem _
          obtain ⟨hkk, hno⟩ := HDs.out d hdm
          have hrg := item_range Ho9.out Hd8.out k hk
          rw [← hd] at hrg
          have hcell : ∀ j u, (icells d)[j]? = some u → wr.cell? ⟨g9, k * 12 + j, none⟩ = some u := fun j u hu => hrg j u (by rw [Array.getElem?_toList]; exact hu)
          have k0 : wr.cell? ⟨g9, k * 12, none⟩ = some (.int .i64 0) := hcell 0 _ (by rw [icells, Array.getElem?_append_left (by simp), hkk]; rfl)
          have k1 : wr.cell? ⟨g9, k * 12 + 1, none⟩ = some (.int .i64 d.a) := hcell 1 _ (by rw [icells, Array.getElem?_append_left (by simp)]; rfl)
          have k2 : wr.cell? ⟨g9, k * 12 + 2, none⟩ = some (.int .i64 d.b) := hcell 2 _ (by rw [icells, Array.getElem?_append_left (by simp)]; rfl)
          clear hrg hcell hkk hd
          by_cases hax : d.a ≤ x
          · have haI : (d.a : Int) ≤ (x : Nat) := by omega
            have hbI : ¬ (x : Int) < (d.b : Nat) := by omega
            go_wp2_with fail
            go_roundw
            case rel => exact ⟨k + 1, by omega, by simp, trivial⟩
            case measure => simp only [intOf]; omega
          · have haI : ¬ (d.a : Int) ≤ (x : Nat) := by omega
            go_wp2_with fail
            go_roundw
            case rel => exact ⟨k + 1, by omega, by simp, trivial⟩
            case measure => simp only [intOf]; omega
        · have hkI : ¬ (k : Int) < (D.length : Nat) := by omega
          go_wp2_with fail
          go_ret
          exact ⟨rfl, Hbw9.out⟩
end Go.Proofs.YtccidllcjaaeeaaGreatDoor
