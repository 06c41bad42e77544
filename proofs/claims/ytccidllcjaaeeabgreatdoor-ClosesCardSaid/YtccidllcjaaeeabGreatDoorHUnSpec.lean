/- What Unprotect answers to any bytes, in any state: the member's side. Conditions: the group lies and reads as its state; its lock is free; the errors' type word lies; the bytes lie in a block of their own. -/
import Derived.Test.YtccidllcjaaeeabGreatDoorHSideMem
namespace Go.Proofs.YtccidllcjaaeeabGreatDoor
set_option maxRecDepth 100000
open Go Go.Maps Go.RowKit
open Go.Shelf Go.Lib Go.Sort Go.MuLone
def unWho (l : List UInt8) : Nat := (l.getD 0 0).toNat
def unGen (l : List UInt8) : Nat := 256 * (l.getD 1 0).toNat + (l.getD 2 0).toNat
/-- The fault, if any. -/
def unNo (s : GSt) (l : List UInt8) : Option Int := match unprotNo s l with
  | some c => some c
  | none => openC s (unWho l) (unGen l) (l.take 3) (l.drop 3)
def unCode (s : GSt) (l : List UInt8) : Int := (unNo s l).getD 0
def unW (s : GSt) (l : List UInt8) : Nat := if (unNo s l).isSome then 0 else unWho l
def unG (s : GSt) (l : List UInt8) : Nat := if (unNo s l).isSome then 0 else unGen l
def unText (s : GSt) (l : List UInt8) : List UInt8 := if (unNo s l).isSome then [] else openT (keyS s (unWho l) (unGen l)) (l.drop 3)
def unNext (s : GSt) (l : List UInt8) (c : Int) : GSt := if (unNo s l).isSome then { s with cnt := c } else openN s (unWho l) (unGen l) c
def unSteps (s : GSt) (l : List UInt8) : Nat := if unNo s l = none ∨ unNo s l = some 7 then boundR s (unWho l) (unGen l) (l.length - 7) else 0
theorem unNo_ne {s : GSt} {l : List UInt8} {c : Int} (h : unNo s l = some c) : c ≠ 0 := by
  unfold unNo at h
  cases hu : unprotNo s l with
  | some x =>
    rw [hu] at h
    cases h
    exact unprotNo_ne hu
  | none =>
    rw [hu] at h
    exact openC_ne h
theorem unNext_cnt (s : GSt) (l : List UInt8) (c : Int) : (unNext s l c).cnt = c := by
  unfold unNext
  split
  · rfl
  · exact (openN_own _ _ _ _).2.2.2.2
theorem unGen_le (l : List UInt8) : unGen l ≤ 65535 := by
  have h1 := (l.getD 1 0).toNat_lt
  have h2 := (l.getD 2 0).toNat_lt
  unfold unGen
  omega
theorem inv_unNext {s : GSt} (hI : GInv s) (l : List UInt8) (c : Int) : GInv (unNext s l c) := by
  unfold unNext
  split
  · exact inv_cnt hI c
  · exact inv_openN hI _ _ c (unGen_le l)
theorem unNext_closed (s : GSt) (l : List UInt8) (c : Int) : (unNext s l c).closed = s.closed := by
  unfold unNext
  split
  · rfl
  · exact (openN_own _ _ _ _).2.2.2.1
/-- What passes the first faults. -/
theorem unprot_none {s : GSt} {l : List UInt8} (h : unprotNo s l = none) : s.closed = false ∧ ∃ x0 x1 x2 sl, l = x0 :: x1 :: x2 :: sl ∧ 7 ≤ l.length ∧ l.length ≤ 47 ∧ x0.toNat < s.n ∧ x0.toNat ≠ s.own := by
  unfold unprotNo at h
  split at h
  · cases h
  · rename_i hc
    refine ⟨by simpa using hc, ?_⟩
    match l, h with
    | [], h => cases h
    | x0 :: tl, h =>
      simp only at h
      split at h
      · cases h
      · rename_i hno
        split at h
        · cases h
        · rename_i hown
          match tl, hno with
          | x1 :: x2 :: sl, hno => exact ⟨x0, x1, x2, sl, rfl, by omega, by omega, by omega, hown⟩
          | [], hno => exact absurd (Or.inl (by simp)) hno
          | [x1], hno => exact absurd (Or.inl (by simp)) hno
theorem openT_length (k sl : List UInt8) : (openT k sl).length = sl.length - 4 := by
  unfold openT
  rw [mixL_length, List.length_take]
  omega
theorem unText_len (s : GSt) (l : List UInt8) : (unText s l).length ≤ 40 := by
  unfold unText
  cases hu : unNo s l with
  | some c => exact Nat.zero_le _
  | none =>
    have hp : unprotNo s l = none := by
      unfold unNo at hu
      cases h : unprotNo s l with
      | some x => rw [h] at hu; cases hu
      | none => rfl
    obtain ⟨_, x0, x1, x2, sl, rfl, _, h47, _⟩ := unprot_none hp
    show (openT _ _).length ≤ 40
    rw [openT_length]
    simp at h47 ⊢
    omega
/-- The member's Unprotect, in any state. -/
theorem gu_any (w : World) (t b cap : Nat) (p : GPl) (s : GSt) (l : List UInt8) (hA : GroupAt w 1 p s t) (hmu : p.mu = 0) (hEG : EG w) (hI : GInv s) (h0 : 0 ≤ s.cnt) (h1 : s.cnt ≤ 4611686010000000000) (ht : t < 1000000000000) (hbuf : BufAt w b l) (hcap : l.length ≤ cap) (hl : l.length ≤ 9223372036854775807) :
    Calls Tryz.prog 22 #[.pointer (some ⟨p.G, 0, none⟩), .slice (some ⟨b, 0, none⟩) l.length cap] w fun e w' => ∃ (v T' : Value) (c' : Int), e = .returned (.tuple #[.agg #[.int .i64 (unW s l), .int .i64 (unG s l), v], .int .i64 (unCode s l)]) ∧
      w'.ownsRow w.heap.size 5 1 v (unText s l).length (cells (unText s l)).toList ∧ GroupAt w' 1 { p with T := T' } (unNext s l c') (t + 5) ∧ Frm w w' p ∧ TreeNew w p.T T' ∧ s.cnt ≤ c' ∧ c' ≤ s.cnt + unSteps s l ∧ (unCode s l = 0 → s.cnt < c') ∧ EG w' := by
  obtain ⟨cs, lo, hi, hcs, _⟩ := id hbuf
  have hap : ∀ b' o, (some ⟨b, 0, none⟩ : Option Addr) = some ⟨b', o, none⟩ → 0 < l.length → b' < w.heap.size ∧ Apart p b' := fun b' o e _ => by
    cases e
    exact ⟨(Array.getElem?_eq_some_iff.1 hcs).1, group_apart hA hcs (by decide) (by decide)⟩
  cases hu : unprotNo s l with
  | some c =>
    have hn : unNo s l = some c := by rw [unNo, hu]
    have e1 : unCode s l = c := by rw [unCode, hn]; rfl
    have e2 : unText s l = [] := by rw [unText, hn]; rfl
    have e3 : ∀ c', unNext s l c' = { s with cnt := c' } := fun c' => by rw [unNext, hn]; rfl
    have e4 : unW s l = 0 := by rw [unW, hn]; rfl
    have e5 : unG s l = 0 := by rw [unG, hn]; rfl
    rw [e1, e2, e4, e5]
    refine (Unprotect_no w 1 t cap p s (some ⟨b, 0, none⟩) l c hA hmu (by omega) hEG hI hl (fun _ => ⟨_, _, rfl⟩) hbuf.rd hap hu).mono ?_
    rintro e w' ⟨rfl, hA', hF⟩
    exact ⟨.slice none 0 0, p.T, s.cnt, rfl, World.ownsRow_nil _ _ _ _, by rw [e3]; exact group_more hA' (by omega), hF, .inl rfl, Int.le_refl _, by omega, fun e => absurd e (unprotNo_ne hu), eg_frm hEG hA (by omega) hF⟩
  | none =>
    obtain ⟨hc, x0, x1, x2, sl, rfl, hl7, hl47, hxn, hxo⟩ := unprot_none hu
    have hn : unNo s (x0 :: x1 :: x2 :: sl) = openC s x0.toNat (256 * x1.toNat + x2.toNat) [x0, x1, x2] sl := by rw [unNo, hu]; rfl
    have hlen : (x0 :: x1 :: x2 :: sl).length = sl.length + 3 := by simp
    refine (Unprotect_go w 1 t x0.toNat x1.toNat x2.toNat p s b 0 cap (x0 :: x1 :: x2 :: sl).length x0 x1 x2 sl hA hmu (by omega) hEG hI hc rfl rfl rfl hxn hxo hlen hl7 hl47 hcap h0 h1 ht hbuf.rd (hap b 0 rfl (by simp))).mono ?_
    rintro e w' ⟨c', hc1, ⟨hc2, hct⟩, hO⟩
    have hle := hct.le
    cases ho : openC s x0.toNat (256 * x1.toNat + x2.toNat) [x0, x1, x2] sl with
    | none =>
      rw [ho] at hO hn hct
      obtain ⟨r, rfl, hor, T', hA', hF, hT⟩ := hO
      have e1 : unCode s (x0 :: x1 :: x2 :: sl) = 0 := by rw [unCode, hn]; rfl
      have e2 : unText s (x0 :: x1 :: x2 :: sl) = openT (keyS s x0.toNat (256 * x1.toNat + x2.toNat)) sl := by rw [unText, hn]; rfl
      have e3 : ∀ c', unNext s (x0 :: x1 :: x2 :: sl) c' = openN s x0.toNat (256 * x1.toNat + x2.toNat) c' := fun c' => by rw [unNext, hn]; rfl
      have e4 : unW s (x0 :: x1 :: x2 :: sl) = x0.toNat := by rw [unW, hn]; rfl
      have e5 : unG s (x0 :: x1 :: x2 :: sl) = 256 * x1.toNat + x2.toNat := by rw [unG, hn]; rfl
      have e6 : unSteps s (x0 :: x1 :: x2 :: sl) = boundR s x0.toNat (256 * x1.toNat + x2.toNat) ((x0 :: x1 :: x2 :: sl).length - 7) := by rw [unSteps, if_pos (.inl hn)]; rfl
      rw [e1, e2, e4, e5, e6]
      have h7 : (openT (keyS s x0.toNat (256 * x1.toNat + x2.toNat)) sl).length = (x0 :: x1 :: x2 :: sl).length - 7 := by rw [openT_length]; omega
      rw [← h7] at hor
      refine ⟨r, T', c', rfl, hor, by rw [e3]; exact hA', hF, hT, hc1, ?_, fun _ => hct.up rfl, eg_frm hEG hA (by omega) hF⟩
      unfold boundR
      omega
    | some c =>
      rw [ho] at hO hn hct
      obtain ⟨rfl, hA', hF⟩ := hO
      have e1 : unCode s (x0 :: x1 :: x2 :: sl) = c := by rw [unCode, hn]; rfl
      have e2 : unText s (x0 :: x1 :: x2 :: sl) = [] := by rw [unText, hn]; rfl
      have e3 : ∀ c', unNext s (x0 :: x1 :: x2 :: sl) c' = { s with cnt := c' } := fun c' => by rw [unNext, hn]; rfl
      have e4 : unW s (x0 :: x1 :: x2 :: sl) = 0 := by rw [unW, hn]; rfl
      have e5 : unG s (x0 :: x1 :: x2 :: sl) = 0 := by rw [unG, hn]; rfl
      rw [e1, e2, e4, e5]
      refine ⟨.slice none 0 0, p.T, c', rfl, World.ownsRow_nil _ _ _ _, by rw [e3]; exact group_more hA' (by omega), hF, .inl rfl, hc1, ?_, fun e => absurd e (openC_ne ho), eg_frm hEG hA (by omega) hF⟩
      by_cases h7 : c = 7
      · subst h7
        rw [unSteps, if_pos (.inr hn)]
        show c' ≤ s.cnt + (boundR s x0.toNat (256 * x1.toNat + x2.toNat) ((x0 :: x1 :: x2 :: sl).length - 7) : Nat)
        unfold boundR
        omega
      · have := hct.same c rfl h7
        omega
theorem unSteps_le (s : GSt) (l : List UInt8) : unSteps s l ≤ 400 := by
  unfold unSteps
  split
  · rename_i hn
    have hp : unprotNo s l = none := by
      unfold unNo at hn
      cases hp : unprotNo s l with
      | some x =>
        rw [hp] at hn
        rcases hn with hn | hn
        · cases hn
        · cases hn
          unfold unprotNo at hp
          split at hp
          · cases hp
          · split at hp
            · split at hp
              · cases hp
              · split at hp
                · cases hp
                · cases hp
            · cases hp
      | none => rfl
    have ho : openC s (unWho l) (unGen l) (l.take 3) (l.drop 3) = none ∨ openC s (unWho l) (unGen l) (l.take 3) (l.drop 3) = some 7 := by
      rw [unNo, hp] at hn
      exact hn
    have hfar : unGen l ≤ (s.M (unWho l)).next + 5 := by
      unfold openC at ho
      split at ho
      · omega
      · split at ho
        · rcases ho with ho | ho <;> cases ho
        · omega
    obtain ⟨_, _, _, _, _, _, _, h47, _⟩ := unprot_none hp
    have hd := depthF_le 16 s.n (unWho l)
    unfold boundR
    omega
  · omega
end Go.Proofs.YtccidllcjaaeeabGreatDoor
