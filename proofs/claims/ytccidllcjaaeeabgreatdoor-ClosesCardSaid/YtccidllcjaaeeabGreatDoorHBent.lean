/- The walks of epochlaw's pick and bent. Conditions: the numbers are ints; the strings are of a bounded length. -/
import Derived.Test.YtccidllcjaaeeabGreatDoorH6
import Derived.Test.YtccidllcjaaeeabGreatDoorH1
import Derived.BigQuiet
namespace Go.Proofs.YtccidllcjaaeeabGreatDoor
set_option maxRecDepth 100000
open Go Go.Maps Go.RowKit
open Go.Shelf Go.Lib
theorem lpick_any (w : World) (c : Int) (n : Nat) (h1 : -9223372036854775808 ≤ c) (h2 : c ≤ 9223372036854775807) (hn : 0 < n) (hn2 : n ≤ 1000000) :
    Calls Tryz.prog 12 #[.int .i64 c, .int .i64 n] w fun e w' => e = .returned (.int .i64 (pickN c n)) ∧ w' = w := by
  have hn0 : ¬ (n : Int) = 0 := by omega
  by_cases hc : c < 0
  · go_enter Tryz.func12, Tryz.ntmps12
    go_wp2
    go_ret
    refine ⟨?_, rfl⟩
    have e1 : -((c + 1).tmod (n : Int)) = (pickN c n : Nat) := by
      rw [← Int.neg_tmod, Int.tmod_eq_emod_of_nonneg (by omega), pickN, if_pos hc, Int.natCast_emod, Int.toNat_of_nonneg (by omega)]
    rw [← e1]; rfl
  · go_enter Tryz.func12, Tryz.ntmps12
    go_wp2
    go_ret
    refine ⟨?_, rfl⟩
    have e1 : c % (n : Int) = (pickN c n : Nat) := by
      rw [pickN, if_neg (by omega), Int.natCast_emod, Int.toNat_of_nonneg (by omega)]
    rw [← e1]; rfl
set_option maxHeartbeats 2000000 in
/-- bent: some frame of the same length. -/
theorem bent_any (w : World) (f s : ByteArray) (hf : f.size ≤ 65536) (hs : s.size ≤ 65536) :
    Calls Tryz.prog 14 #[.string f, .string s] w fun e w' => ∃ g : ByteArray, e = .returned (.string g) ∧ g.size = f.size ∧ Below w.heap.size w w' := by
  obtain ⟨V, hV⟩ : ∃ V, V = Lib.bytesWorld w 5 f := ⟨_, rfl⟩
  obtain ⟨cp, hcp⟩ : ∃ cp, cp = grownCap w f.size 0 5 := ⟨_, rfl⟩
  have hVb : Below w.heap.size w V := by rw [hV]; exact bytes_below _ _
  have hbuf : BufAt V w.heap.size f.data.toList := by rw [hV]; exact bytes_buf _ _
  have hcv := conv_bytes w f
  rw [← hcp, ← hV] at hcv
  obtain ⟨n, hn⟩ : ∃ n, n = f.size := ⟨_, rfl⟩
  obtain ⟨m, hm⟩ : ∃ m, m = s.size := ⟨_, rfl⟩
  have hl : f.data.toList.length = n := by rw [hn]; simp
  rw [← hn] at hcv hf ⊢
  have hm0 := hm
  rw [← hm] at hs
  have Hn := Lib.hid hn
  have Hm := Lib.hid hm
  have Hl := Lib.hid hl
  have HVb := Lib.hid hVb
  have Hbuf := Lib.hid hbuf
  clear hn hm hl hVb hbuf hcp hV
  go_enter Tryz.func14, Tryz.ntmps14
  go_upto_region 3 with (fail)
  clear hcv
  go_loopw [6, 7] (fun iv _ wr => ∃ i : Nat, i ≤ m + 1 ∧ iv = .int .i64 i ∧ (∃ L : List UInt8, L.length = n ∧ BufAt wr w.heap.size L) ∧ Below w.heap.size w wr) (fun iv _ _ => m + 2 - (intOf iv).toNat)
  case atStart => exact ⟨0, Nat.zero_le _, rfl, ⟨_, Hl.out, Hbuf.out⟩, HVb.out⟩
  case round =>
    obtain ⟨i, hi, rfl, ⟨L, hL, hb⟩, hB⟩ := hrel
    have Hb := Lib.hid hb
    have HL := Lib.hid hL
    have HB := Lib.hid hB
    clear hb hL hB
    have hms : (s.size : Int) = (m : Nat) := by rw [Hm.out]
    by_cases h1 : i + 1 < m ∧ 0 < n
    · obtain ⟨h1, h2⟩ := h1
      have hlt : i < s.size := by rw [← Hm.out]; omega
      have hlt2 : i + 1 < s.size := by rw [← Hm.out]; omega
      have g1 : (i : Int) + 1 < (s.size : Nat) := by omega
      have g2 : (0 : Int) < (n : Nat) := by omega
      have g3 : ¬ (n : Int) = 0 := by omega
      have g4 : (i : Int) < (s.size : Nat) := by omega
      have g5 : (0 : Int) ≤ (i : Nat) := by omega
      have g6 : (0 : Int) ≤ (i : Int) + 1 := by omega
      have g7 : ((i : Int) + 1).toNat = i + 1 := by omega
      clear hms
      go_upto_region 6 with (fail)
      obtain ⟨k, hk, hkn⟩ : ∃ k : Nat, (wrap64 ((s[i].toNat : Nat) : Int)).tmod (n : Int) = (k : Nat) ∧ k < n := by
        have h256 := s[i].toNat_lt
        refine ⟨s[i].toNat % n, ?_, Nat.mod_lt _ h2⟩
        rw [IntWalk.wrap64_in _ ⟨by omega, by omega⟩, Int.tmod_eq_emod_of_nonneg (by omega), Int.natCast_emod]
      rw [hk]
      have k1 : (k : Int) < (n : Nat) := by omega
      have k2 : (0 : Int) ≤ (k : Nat) := by omega
      have kc := Hb.out.cell k (by rw [HL.out]; exact hkn)
      have kf := Hb.out.frozen k (by rw [HL.out]; exact hkn)
      clear hk
      go_region
      all_goals
        rw [u8_xor8]
        go_wp2
        go_roundw
        case rel => exact ⟨i + 2, by omega, by go_num, ⟨_, by rw [List.length_set]; exact HL.out, (Hb.out.set k (L.getD k 0 ^^^ s[i + 1]) (by rw [HL.out]; exact hkn)).keep rfl⟩, (HB.out.setCell (p := ⟨w.heap.size, k, none⟩) (Nat.le_refl _) _).drew⟩
        case measure => simp [intOf]; omega
    · have hcs := conv_str wr (some ⟨w.heap.size, 0, none⟩) cp L Hb.out.rd
      rw [HL.out] at hcs
      by_cases h2 : i + 1 < m
      · obtain rfl : n = 0 := by omega
        have d1 : decide ((i : Int) + 1 < (s.size : Nat)) = true := decide_eq_true (by omega)
        clear hms h1
        go_wp2
        go_ret
        exact ⟨⟨L.toArray⟩, rfl, by show L.toArray.size = 0; simp [HL.out], HB.out⟩
      · have d1 : decide ((i : Int) + 1 < (s.size : Nat)) = false := decide_eq_false (by omega)
        clear hms h1
        go_wp2
        go_ret
        exact ⟨⟨L.toArray⟩, rfl, by show L.toArray.size = n; simp [HL.out], HB.out⟩
end Go.Proofs.YtccidllcjaaeeabGreatDoor
