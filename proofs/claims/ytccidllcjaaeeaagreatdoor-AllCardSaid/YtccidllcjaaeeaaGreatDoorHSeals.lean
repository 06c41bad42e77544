/- The walk of the law Seals: it returns true. Condition: the lengths are ints. -/
import Derived.Test.YtccidllcjaaeeaaGreatDoorHRefSeal
namespace Go.Proofs.YtccidllcjaaeeaaGreatDoor
set_option maxRecDepth 100000
open Go.RowKit
set_option maxRecDepth 100000 in
set_option maxHeartbeats 400000 in
theorem seals_long (w : World) (key h t b : ByteArray) (hl : 65536 < h.size ∨ 65536 < t.size ∨ 65536 < b.size) :
    Calls Tryz.prog 19 #[.string key, .string h, .string t, .string b] w fun e w' => e = .returned (.bool true) ∧ Below w.heap.size w w' := by
  by_cases h1 : 65536 < h.size
  · have hd : decide ((65536 : Int) < h.size) = true := by simp; omega
    go_enter Tryz.func19, Tryz.ntmps19
    go_wp2_with fail
    go_ret
    exact ⟨rfl, Below.refl _ _⟩
  · by_cases h2 : 65536 < t.size
    · have hd1 : decide ((65536 : Int) < h.size) = false := by simp; omega
      have hd2 : decide ((65536 : Int) < t.size) = true := by simp; omega
      go_enter Tryz.func19, Tryz.ntmps19
      go_wp2_with fail
      go_ret
      exact ⟨rfl, Below.refl _ _⟩
    · have hd1 : decide ((65536 : Int) < h.size) = false := by simp; omega
      have hd2 : decide ((65536 : Int) < t.size) = false := by simp; omega
      have hd3 : decide ((65536 : Int) < b.size) = true := by simp; omega
      go_enter Tryz.func19, Tryz.ntmps19
      go_wp2_with fail
      go_ret
      exact ⟨rfl, Below.refl _ _⟩
/-- What a converted string leaves: a block with its bytes. -/
theorem buf_next {w w' : World} {B : Nat} {L : List UInt8} (h : BufAt w B L) (hB : B < w.heap.size) (hb : Below w.heap.size w w') : BufAt w' B L := h.keep (hb.block _ hB)

/-- What opening gives. -/
def openL (k head s : List UInt8) : List UInt8 := if opensB k head s = true then openT k s else []
theorem openL_sealed (k head t : List UInt8) : openL k head (sealL k head t) = t := by rw [openL, if_pos (opens_sealed _ _ _), openT_sealed]
theorem epochOpen_flat (w : World) (k : List UInt8) (p1 p3 : Option Addr) (c1 c3 n1 n3 : Nat) (head s : List UInt8) (hn1 : head.length = n1) (hn3 : s.length = n3) (hk : k.length = 8)
    (hl1 : n1 ≤ 9223372036854775807) (hr1 : Rd w p1 head) (hl3 : n3 ≤ 65540) (hc3 : n3 ≤ c3) (hr3 : Rd w p3 s) :
    Calls Tryz.prog 45 #[.agg (cells k), .slice p1 n1 c1, .slice p3 n3 c3] w fun e w' =>
      ∃ q c, e = .returned (.tuple #[.slice q (openL k head s).length c, .bool (opensB k head s)]) ∧ Rd w' q (openL k head s) ∧ Below w.heap.size w w' := by
  refine (epochOpen_any w k p1 p3 c1 c3 n1 n3 head s hn1 hn3 hk hl1 hr1 hl3 hc3 hr3).mono fun e w' hE => ?_
  cases hop : opensB k head s with
  | true =>
    rw [hop] at hE
    obtain ⟨r, rfl, hro, hb⟩ := hE
    obtain ⟨q, c, rfl, _⟩ := ownsRow_slice hro
    have hlen : (openT k s).length = n3 - 4 := by rw [openT, mixL_length, List.length_take, hn3]; omega
    rw [openL, if_pos hop, ← hlen]
    rw [← hlen] at hro
    exact ⟨q, c, rfl, Rd.own hro, hb⟩
  | false =>
    rw [hop] at hE
    obtain ⟨rfl, hb⟩ := hE
    rw [openL, if_neg (by rw [hop]; decide)]
    exact ⟨none, 0, rfl, Rd.empty _ _, hb⟩
theorem refOpen_flat (w : World) (k : List UInt8) (h s : ByteArray) (hk : k.length = 8) (hh : h.size ≤ 65540) (hl : s.size ≤ 65540) :
    Calls Tryz.prog 46 #[.agg (cells k), .string h, .string s] w fun e w' =>
      e = .returned (.tuple #[.string ⟨(openL k h.data.toList s.data.toList).toArray⟩, .bool (opensB k h.data.toList s.data.toList)]) ∧ Below w.heap.size w w' := by
  refine (refOpen_any w k h s hk hh hl).mono fun e w' hE => ?_
  cases hop : opensB k h.data.toList s.data.toList with
  | true =>
    rw [hop] at hE
    obtain ⟨rfl, hb⟩ := hE
    rw [openL, if_pos hop]
    exact ⟨rfl, hb⟩
  | false =>
    rw [hop] at hE
    obtain ⟨rfl, hb⟩ := hE
    rw [openL, if_neg (by rw [hop]; decide)]
    exact ⟨rfl, hb⟩

set_option maxRecDepth 100000 in
set_option maxHeartbeats 2000000 in
theorem seals_any (w : World) (key h t b : ByteArray) (h1 : h.size ≤ 65536) (h2 : t.size ≤ 65536) (h3 : b.size ≤ 65536) :
    Calls Tryz.prog 19 #[.string key, .string h, .string t, .string b] w fun e w' => e = .returned (.bool true) ∧ Below w.heap.size w w' := by
  have hd1 : decide ((65536 : Int) < h.size) = false := by simp; omega
  have hd2 : decide ((65536 : Int) < t.size) = false := by simp; omega
  have hd3 : decide ((65536 : Int) < b.size) = false := by simp; omega
  go_enter Tryz.func19, Tryz.ntmps19
  have hcv1 := conv_bytes w h
  have b1 := bytes_below w h
  have f1 := bytes_buf w h
  have s1 := Lib.bytesWorld_size w 5 h
  generalize Lib.bytesWorld w 5 h = W1 at *
  have hcv2 := conv_bytes W1 t
  have b2 := bytes_below W1 t
  have f2 := bytes_buf W1 t
  have s2 := Lib.bytesWorld_size W1 5 t
  generalize Lib.bytesWorld W1 5 t = W2 at *
  have hcv3 := conv_bytes W2 b
  have b3 := bytes_below W2 b
  have f3 := bytes_buf W2 b
  have s3 := Lib.bytesWorld_size W2 5 b
  generalize Lib.bytesWorld W2 5 b = W3 at *
  have q1 : Rd W3 (some ⟨w.heap.size, 0, none⟩) h.data.toList := (f1.rd.below b2).below b3
  have q2 : Rd W3 (some ⟨W1.heap.size, 0, none⟩) t.data.toList := f2.rd.below b3
  have q3 : Rd W3 (some ⟨W2.heap.size, 0, none⟩) b.data.toList := f3.rd
  have hB : Below w.heap.size w W3 := bnext (bnext b1 b2) b3
  have c3 : b.size ≤ grownCap W2 b.size 0 5 := grownCap_ge _ _ _ _
  generalize grownCap w h.size 0 5 = g1 at *
  generalize grownCap W1 t.size 0 5 = g2 at *
  generalize grownCap W2 b.size 0 5 = g3 at *
  have hl1 : h.data.toList.length = h.size := by simp
  have hl2 : t.data.toList.length = t.size := by simp
  have hl3 : b.data.toList.length = b.size := by simp
  have Hl1 := Lib.hid hl1
  have Hl2 := Lib.hid hl2
  have Hl3 := Lib.hid hl3
  clear hl1 hl2 hl3 s1 s2 s3
  have hk := sec_length key
  have Hk := Lib.hid hk
  clear hk
  go_upto_region 6 with (fail)
  clear hcv1 hcv2 hcv3
  generalize hsk : sec key = k at *
  have Hsk := Lib.hid hsk
  clear hsk
  go_wp2_with fail
  refine (secret_any _ _).mono ?_; rintro e w1 ⟨rfl, e1⟩
  rw [Hsk.out]
  have r1 := bnext hB e1
  go_wp2_with fail
  refine (epochSeal_any _ k _ _ _ _ _ _ h.data.toList t.data.toList Hl1.out Hl2.out Hk.out (by omega) (q1.below e1) (fun hh => by cases hh) (fun _ => ⟨_, _, rfl⟩) (by omega) (q2.below e1)).mono ?_
  rintro e w2 ⟨x, rfl, hx, e2⟩
  have r2 := bnext r1 e2
  obtain ⟨qx, cx, rfl, hqx⟩ := ownsRow_slice hx
  have hxl : t.size + 4 ≤ cx := by
    rcases hqx with ⟨_, _, h⟩ | ⟨_, _, _, _, h⟩
    · omega
    · exact h
  have hsl : (sealL k h.data.toList t.data.toList).length = t.size + 4 := by rw [sealL_length, Hl2.out]
  have hos := opens_sealed k h.data.toList t.data.toList
  have hol := openL_sealed k h.data.toList t.data.toList
  generalize hxx : sealL k h.data.toList t.data.toList = X at *
  have rx : Rd w2 qx X := by rw [← hsl] at hx; exact Rd.own hx
  have Hxx := Lib.hid hxx
  have Hsl := Lib.hid hsl
  have Hos := Lib.hid hos
  have Hol := Lib.hid hol
  clear hxx hsl hos hol hx hqx
  go_wp2_with fail
  refine (secret_any _ _).mono ?_; rintro e w3 ⟨rfl, e3⟩
  rw [Hsk.out]
  have r3 := bnext r2 e3
  go_wp2_with fail
  refine (refSeal_any _ k h t Hk.out (by omega) (by omega)).mono ?_
  rintro e w4 ⟨rfl, e4⟩
  rw [Hxx.out]
  have r4 := bnext r3 e4
  go_wp2_with fail
  refine (secret_any _ _).mono ?_; rintro e w5 ⟨rfl, e5⟩
  rw [Hsk.out]
  have r5 := bnext r4 e5
  go_wp2_with fail
  have m5 : Below W3.heap.size W3 w5 := bnext (bnext (bnext (bnext e1 e2) e3) e4) e5
  refine (epochOpen_flat _ k _ _ _ _ _ _ h.data.toList b.data.toList Hl1.out Hl3.out Hk.out (by omega) (q1.below m5) (by omega) c3 (q3.below m5)).mono ?_
  rintro e w6 ⟨qp, cp, rfl, hp, e6⟩
  generalize hpp : openL k h.data.toList b.data.toList = L at *
  generalize hob : opensB k h.data.toList b.data.toList = ob at *
  have Hpp := Lib.hid hpp
  have Hob := Lib.hid hob
  clear hpp hob
  have r6 := bnext r5 e6
  go_wp2_with fail
  refine (secret_any _ _).mono ?_; rintro e w7 ⟨rfl, e7⟩
  rw [Hsk.out]
  have r7 := bnext r6 e7
  go_wp2_with fail
  refine (refOpen_flat _ k h b Hk.out (by omega) (by omega)).mono ?_
  rintro e w8 ⟨rfl, e8⟩
  rw [Hpp.out, Hob.out]
  have r8 := bnext r7 e8
  go_wp2_with fail
  refine (secret_any _ _).mono ?_; rintro e w9 ⟨rfl, e9⟩
  rw [Hsk.out]
  have r9 := bnext r8 e9
  go_wp2_with fail
  have m9 : Below w2.heap.size w2 w9 := bnext (bnext (bnext (bnext (bnext (bnext e3 e4) e5) e6) e7) e8) e9
  have n9 : Below W3.heap.size W3 w9 := bnext (bnext (bnext (bnext m5 e6) e7) e8) e9
  refine (epochOpen_flat _ k _ _ _ _ _ _ h.data.toList X Hl1.out Hsl.out Hk.out (by omega) (q1.below n9) (by omega) hxl (rx.below m9)).mono ?_
  rintro e wA ⟨qr, cr, rfl, hr, eA⟩
  rw [Hol.out] at hr
  rw [Hol.out, Hos.out]
  have rA := bnext r9 eA
  have mA := bnext m9 eA
  have nA := bnext n9 eA
  have pA : Below w6.heap.size w6 wA := bnext (bnext (bnext e7 e8) e9) eA
  have k1 := conv_str wA qx cx X (rx.below mA)
  rw [Hsl.out] at k1
  have k2 := conv_str wA qp cp L (hp.below pA)
  have k3 := conv_str wA qr cr t.data.toList hr
  have k4 := conv_str wA (some ⟨w.heap.size, 0, none⟩) g1 h.data.toList (q1.below nA)
  have k5 := conv_str wA (some ⟨W1.heap.size, 0, none⟩) g2 t.data.toList (q2.below nA)
  have k6 := conv_str wA (some ⟨W2.heap.size, 0, none⟩) g3 b.data.toList (q3.below nA)
  rw [Hl1.out] at k4
  rw [Hl2.out] at k3 k5
  rw [Hl3.out] at k6
  rw [Hl2.out]
  have u1 : (⟨t.data.toList.toArray⟩ : ByteArray) = t := by simp
  have u2 : (⟨h.data.toList.toArray⟩ : ByteArray) = h := by simp
  have u3 : (⟨b.data.toList.toArray⟩ : ByteArray) = b := by simp
  rw [u1] at k3 k5
  rw [u2] at k4
  rw [u3] at k6
  clear u1 u2 u3
  go_wp2
  go_ret
  exact ⟨rfl, rA⟩
end Go.Proofs.YtccidllcjaaeeaaGreatDoor
