/- The walks of the reference's sum, Seal and Open: they compute what the plain law tells. Conditions: the key has eight bytes, the texts at most 65540. -/
import Derived.Test.YtccidllcjaaeeabGreatDoorH1
namespace Go.Proofs.YtccidllcjaaeeabGreatDoor
set_option maxRecDepth 100000
open Go.RowKit
set_option maxRecDepth 100000 in
set_option maxHeartbeats 1000000 in
theorem sum_any (w : World) (h s : ByteArray) (hh : h.size ≤ 65540) (hl : s.size ≤ 65540) :
    Calls Tryz.prog 63 #[.string h, .string s] w fun e w' => e = .returned (.int .i64 (sumL h.data.toList s.data.toList)) ∧ w' = w := by
  have hS : (h ++ ⟨#[0]⟩ ++ s).data.toList = h.data.toList ++ 0 :: s.data.toList := by simp
  have hn : (h ++ ⟨#[0]⟩ ++ s).size = h.size + 1 + s.size := by simp [ByteArray.size_append]; rfl
  go_enter Tryz.func63, Tryz.ntmps63
  go_wp2
  generalize h ++ ⟨#[0]⟩ ++ s = S at *
  generalize hN : S.size = N at *
  have hN' : N ≤ 131082 := by omega
  have HS := Lib.hid hS
  have HN := Lib.hid hN
  clear hS hn hN
  go_loop [6, 7] (fun x i => ∃ j : Nat, j ≤ N ∧ i = .int .i64 j ∧ x = .int .u32 (fnv32 2166136261 (S.data.toList.take j))) (fun _ i => N - (intOf i).toNat)
  case atStart => exact ⟨0, Nat.zero_le _, rfl, rfl⟩
  case round =>
    obtain ⟨j, hj, rfl, rfl⟩ := hrel
    by_cases hlt : j < N
    · have hlt' : j < S.size := by rw [HN.out]; exact hlt
      have Hs := Lib.hid (fnv32_take 2166136261 S.data.toList j (by simpa using hlt'))
      go_wp2
      go_round
      case rel => exact ⟨j + 1, by omega, by go_num, by rw [Hs.out, bytes_getD _ _ hlt', fstep32, u32_wrap, u32_wrap]⟩
      case measure => simp [intOf]; omega
    · have hT := List.take_of_length_le (l := S.data.toList) (i := j) (by simpa [HN.out] using Nat.le_of_not_lt hlt)
      have hr := fnv32_range 2166136261 S.data.toList (by decide) (by decide)
      have hr0 := hr.1
      have hr1 := hr.2
      clear hr
      have hge : ¬ j < S.size := by rw [HN.out]; exact hlt
      go_wp2
      go_ret
      refine ⟨?_, rfl⟩
      show Ending.returned (Value.int .i64 (wrap64 (bits BinOp.and IntKind.u32 (fnv32 2166136261 S.data.toList) 2147483647))) = _
      rw [HS.out, ← sum32, sumL_wrap]
theorem toList_data (s : ByteArray) : s.toList = s.data.toList := by
  exact ByteArray.toList_eq s
theorem str_append (a b : List UInt8) : ((⟨a.toArray⟩ : ByteArray) ++ ⟨b.toArray⟩) = ⟨(a ++ b).toArray⟩ := by
  apply ByteArray.ext
  simp
set_option maxRecDepth 100000 in
set_option maxHeartbeats 1000000 in
theorem refSeal_any (w : World) (k : List UInt8) (h s : ByteArray) (hk : k.length = 8) (hh : h.size ≤ 65540) (hl : s.size ≤ 65540) :
    Calls Tryz.prog 40 #[.agg (cells k), .string h, .string s] w fun e w' => e = .returned (.string ⟨(sealL k h.data.toList s.data.toList).toArray⟩) ∧ Below w.heap.size w w' := by
  have Hk := Lib.hid hk
  clear hk
  have hml := mixL_length k s.data.toList
  go_enter Tryz.func40, Tryz.ntmps40
  go_wp2_with (first | (refine wpList_load_row rfl 36 _ rfl w.heap.size rfl _ _ _ _ (heap_alloc_new _ _) Tryz.underlying36 rfl (by rw [infoSecret, cells_size, Hk.out]) ?_))
  refine (mixed_any _ k s Hk.out hl).mono ?_
  rintro e w1 ⟨rfl, hb1⟩
  have hB1 : Below w.heap.size w w1 := bnext (balloc (Below.refl _ _) _) hb1
  have hk1 : w1.heap[w.heap.size]? = some (.cells (cells k) 36 (0, 0)) := by rw [hb1.block _ (by simp)]; exact heap_alloc_new _ _
  have Hk1 := Lib.hid hk1
  clear hk1
  have hms : (⟨(mixL k s.data.toList).toArray⟩ : ByteArray).size = s.size := by
    show (mixL k s.data.toList).toArray.size = s.size
    rw [List.size_toArray, mixL_length]; simp
  generalize hM : mixL k s.data.toList = M at *
  clear hml
  go_wp2_with fail
  refine (sum_any _ h ⟨M.toArray⟩ hh (by rw [hms]; exact hl)).mono ?_
  rintro e w2 ⟨rfl, rfl⟩
  rw [show (⟨M.toArray⟩ : ByteArray).data.toList = M from rfl]
  have HM := Lib.hid hM
  have Hms := Lib.hid hms
  clear hM hms
  go_wp2_with (first | (refine wpList_load_row rfl 36 _ rfl w.heap.size rfl _ _ _ _ Hk1.out Tryz.underlying36 rfl (by rw [infoSecret, cells_size, Hk.out]) ?_))
  refine (refDerive_any _ k _ _ Hk.out (by decide)).mono ?_
  rintro e w3 ⟨rfl, hb3⟩
  rw [lTag_eq]
  have hcs := conv_str (w3.alloc (.cells (cells (kd k lTag (sumL h.data.toList M))) 36)) (some ⟨w3.heap.size, 0, none⟩) 8 (tagL k h.data.toList M) (tag_read (heap_alloc_new _ _))
  rw [tagL_length] at hcs
  have hml : M.length = s.size := by have h := mixL_length k s.data.toList; rw [HM.out] at h; rw [h]; simp
  generalize htg : tagL k h.data.toList M = tg at *
  have htl : tg.length = 4 := by rw [← htg]; exact tagL_length _ _ _
  have Htg := Lib.hid htg
  have hcl : M.length + tg.length ≤ 70000 := by omega
  clear htg htl hml
  go_wp2_with (first | (refine wpList_store_row rfl 36 _ _ rfl _ _ rfl rfl _ _ (heap_alloc_new _ _) (by rw [infoSecret, cells_size, kd_length]) (by rw [cells_size, kd_length]; rfl) (cells_one _) ?_; rw [World.setRow_alloc_new]))
  go_ret
  refine ⟨?_, balloc (bnext hB1 hb3) _⟩
  show Ending.returned (Value.string (⟨M.toArray⟩ ++ ⟨tg.toArray⟩)) = _
  rw [sealL, HM.out, Htg.out, str_append]

set_option maxRecDepth 100000 in
set_option maxHeartbeats 1000000 in
theorem refOpen_any (w : World) (k : List UInt8) (h s : ByteArray) (hk : k.length = 8) (hh : h.size ≤ 65540) (hl : s.size ≤ 65540) :
    Calls Tryz.prog 43 #[.agg (cells k), .string h, .string s] w fun e w' =>
      Either (opensB k h.data.toList s.data.toList) (e = .returned (.tuple #[.string ⟨(openT k s.data.toList).toArray⟩, .bool true]) ∧ Below w.heap.size w w')
      (e = .returned (.tuple #[.string ⟨#[]⟩, .bool false]) ∧ Below w.heap.size w w') := by
  have Hk := Lib.hid hk
  clear hk
  by_cases h4 : s.size < 4
  · have hop : opensB k h.data.toList s.data.toList = false := by rw [opensB]; simp; omega
    have Hop := Lib.hid hop
    clear hop
    have hi : (s.size : Int) < 4 := by omega
    have hd : decide ((s.size : Int) - 4 < 0) = true := by simp; omega
    go_enter Tryz.func43, Tryz.ntmps43
    go_wp2
    go_ret2
    rw [Hop.out]
    exact ⟨rfl, balloc (Below.refl _ _) _⟩
  · have hi : (4 : Int) ≤ s.size := by omega
    go_enter Tryz.func43, Tryz.ntmps43
    go_upto_region 4 with (fail)
    generalize hW : World.alloc _ _ = W
    have hKW : W.heap[w.heap.size]? = some (.cells (cells k) 36 (0, 0)) := by rw [← hW]; exact heap_alloc_new _ _
    have hBW : Below w.heap.size w W := by rw [← hW]; exact balloc (Below.refl _ _) _
    have hsW : w.heap.size < W.heap.size := by rw [← hW]; simp
    clear hW
    obtain ⟨a0, a1, a2, a3, a4, a5, a6, a7, hk8⟩ := eight Hk.out
    have Hk8 := Lib.hid hk8
    clear hk8
    have Hc : Hid (#[Value.int .u8 a0.toNat, .int .u8 a1.toNat, .int .u8 a2.toNat, .int .u8 a3.toNat, .int .u8 a4.toNat, .int .u8 a5.toNat, .int .u8 a6.toNat, .int .u8 a7.toNat] = cells k) := Lib.hid (by rw [Hk8.out]; rfl)
    obtain ⟨e0, e1, e2, e3, e4, e5, e6, e7⟩ := eight_cells' Hk8.out hKW
    have HKW := Lib.hid hKW
    clear hKW
    have hi6 : ((s.size : Int) - 4).toNat = s.size - 4 := by omega
    have hi7 : (s.size : Int) - 4 ≤ (s.size : Int) := by omega
    have hl4 : (s.extract 0 (s.size - 4)).size ≤ 65540 := by rw [ByteArray.size_extract]; omega
    have hd4 : (s.extract 0 (s.size - 4)).data.toList = s.data.toList.take (s.size - 4) := by simp
    have Hl4 := Lib.hid hl4
    have Hd4 := Lib.hid hd4
    clear hl4 hd4
    go_cut [9] (fun s9 wx => s9 = .string ⟨(openT k s.data.toList).toArray⟩ ∧ wx.heap[w.heap.size]? = some (.cells (cells k) 36 (0, 0)) ∧ Below w.heap.size w wx)
    case first =>
      go_region_held3 (fun w' => w'.cell? ⟨w.heap.size, 0, none⟩ = some (.int .u8 a0.toNat) ∧ w'.cell? ⟨w.heap.size, 1, none⟩ = some (.int .u8 a1.toNat) ∧ w'.cell? ⟨w.heap.size, 2, none⟩ = some (.int .u8 a2.toNat) ∧ w'.cell? ⟨w.heap.size, 3, none⟩ = some (.int .u8 a3.toNat) ∧ w'.cell? ⟨w.heap.size, 4, none⟩ = some (.int .u8 a4.toNat) ∧ w'.cell? ⟨w.heap.size, 5, none⟩ = some (.int .u8 a5.toNat) ∧ w'.cell? ⟨w.heap.size, 6, none⟩ = some (.int .u8 a6.toNat) ∧ w'.cell? ⟨w.heap.size, 7, none⟩ = some (.int .u8 a7.toNat)) (refine ⟨?_, ?_, ?_, ?_, ?_, ?_, ?_, ?_⟩ <;> (first | assumption | (simp only [World.cell?_drew]; assumption))) (first | (go_at_call 62; rw [Hc.out]; refine (mixed_any _ k (s.extract 0 (s.size - 4)) Hk.out Hl4.out).mono ?_; rintro e w2 ⟨rfl, hb2⟩; have hrow2 := Lib.hid ((hb2.block _ hsW).trans HKW.out); rw [Hd4.out]; obtain ⟨k0, k1, k2, k3, k4, k5, k6, k7⟩ := eight_cells' Hk8.out hrow2.out))
      go_wp2_with fail
      go_meet
      refine ⟨?_, hrow2.out, bnext hBW.drew hb2⟩
      rw [openT, Array.length_toList]
      rfl
    case rest =>
      obtain ⟨rfl, hkr, hbb⟩ := hcut
      have Hkr := Lib.hid hkr
      have hot : (openT k s.data.toList).length = s.size - 4 := by
        rw [openT, mixL_length, List.length_take]; simp
      have hos : (⟨(openT k s.data.toList).toArray⟩ : ByteArray).size ≤ 65540 := by
        show (openT k s.data.toList).toArray.size ≤ _
        rw [List.size_toArray, hot]; omega
      have href := opensB_ref k h.data.toList s.data.toList (by simp; omega)
      clear hkr e0 e1 e2 e3 e4 e5 e6 e7 hot
      generalize hT : openT k s.data.toList = T at *
      have HT := Lib.hid hT
      clear hT
      go_wp2_with (first | (refine wpList_load_row rfl 36 _ rfl w.heap.size rfl _ _ _ _ Hkr.out Tryz.underlying36 rfl (by rw [infoSecret, cells_size, Hk.out]) ?_))
      refine (refSeal_any _ k h ⟨T.toArray⟩ Hk.out hh hos).mono ?_
      rintro e w3 ⟨rfl, hb3⟩
      rw [show (⟨T.toArray⟩ : ByteArray).data.toList = T from rfl]
      generalize sealL k h.data.toList T = R at *
      have Href := Lib.hid href
      clear href
      cases hop : opensB k h.data.toList s.data.toList with
      | true =>
        have hR : (!R == s.toList) = false := by rw [toList_data, Href.out, hop]; rfl
        have Hop := Lib.hid hop
        clear hop
        go_wp2
        go_ret2
        rw [Hop.out, HT.out]
        exact ⟨rfl, bnext hbb hb3⟩
      | false =>
        have hR : (!R == s.toList) = true := by rw [toList_data, Href.out, hop]; rfl
        have Hop := Lib.hid hop
        clear hop
        go_wp2
        go_ret2
        rw [Hop.out]
        exact ⟨rfl, bnext hbb hb3⟩
end Go.Proofs.YtccidllcjaaeeabGreatDoor
