/- The document's Unprotect of any bytes, in any state. Conditions: the group reads as its state; the bytes are of a bounded length. -/
import Derived.Test.YtccidllcjaaeeabGreatDoorHRefUnGo
namespace Go.Proofs.YtccidllcjaaeeabGreatDoor
set_option maxRecDepth 100000
open Go Go.Maps Go.RowKit
open Go.Shelf Go.Lib Go.Sort Go.MuLone
theorem openC_codes {s : GSt} {m g : Nat} {h sl : List UInt8} {c : Int} (e : openC s m g h sl = some c) : c = 5 ∨ c = 6 ∨ c = 7 := by
  unfold openC at e
  split at e
  · split at e
    · split at e
      · cases e
      · cases e; exact .inr (.inr rfl)
    · cases e; exact .inl rfl
  · split at e
    · cases e; exact .inr (.inl rfl)
    · split at e
      · cases e
      · cases e; exact .inr (.inr rfl)
theorem unprotNo_seven {s : GSt} {l : List UInt8} : unprotNo s l ≠ some 7 := by
  intro e
  unfold unprotNo at e
  split at e
  · cases e
  · split at e
    · split at e
      · cases e
      · split at e
        · cases e
        · cases e
    · cases e
theorem RefAt.cnt {w : World} {lo R B : Nat} {s : GSt} {st : Int} (h : RefAt w lo R B s st) (c : Int) : RefAt w lo R B { s with cnt := c } st := ⟨h.grp, h.mem, h.loR, h.loB⟩
theorem ru_any (w : World) (R B : Nat) (s : GSt) (st : Int) (f : ByteArray) (h : RefAt w 1 R B s st) (hI : GInv s) (hf : f.size ≤ 9223372036854775807) :
    Calls Tryz.prog 23 #[.pointer (some ⟨R, 0, none⟩), .string f] w fun e w' => e = .returned (.tuple #[.int .i64 (unW s f.data.toList), .int .i64 (unG s f.data.toList), .string ⟨(unText s f.data.toList).toArray⟩, .int .i64 (unCode s f.data.toList)]) ∧ (∀ c', RefAt w' 1 R B (unNext s f.data.toList c') (unSteps s f.data.toList)) ∧ RFrm w w' R B := by
  cases hu : unprotNo s f.data.toList with
  | some c =>
    have hn : unNo s f.data.toList = some c := by rw [unNo, hu]
    have e1 : unCode s f.data.toList = c := by rw [unCode, hn]; rfl
    have e2 : unText s f.data.toList = [] := by rw [unText, hn]; rfl
    have e3 : ∀ c', unNext s f.data.toList c' = { s with cnt := c' } := fun c' => by rw [unNext, hn]; rfl
    have e4 : unW s f.data.toList = 0 := by rw [unW, hn]; rfl
    have e5 : unG s f.data.toList = 0 := by rw [unG, hn]; rfl
    have e6 : unSteps s f.data.toList = 0 := by
      rw [unSteps, hn, if_neg]
      rintro (e | e)
      · cases e
      · exact unprotNo_seven (hu.trans e)
    rw [e1, e2, e4, e5, e6]
    refine (refUn_no w 1 R B s st f c h hI hf hu).mono ?_
    rintro e w' ⟨rfl, hr, hfr⟩
    exact ⟨rfl, fun c' => by rw [e3]; exact hr.cnt c', hfr⟩
  | none =>
    obtain ⟨hc, x0, x1, x2, sl, hl, h7, h47, hxn, hxo⟩ := unprot_none hu
    have hsz : f.data.toList.length = f.size := by simp
    have hn : unNo s f.data.toList = openC s x0.toNat (256 * x1.toNat + x2.toNat) [x0, x1, x2] sl := by rw [unNo, hu, hl]; rfl
    have hwho : unWho f.data.toList = x0.toNat := by rw [hl]; rfl
    have hgen : unGen f.data.toList = 256 * x1.toNat + x2.toNat := by rw [hl]; rfl
    have hdr : f.data.toList.drop 3 = sl := by rw [hl]; rfl
    refine (refUn_go w 1 R B x0.toNat x1.toNat x2.toNat _ s st f x0 x1 x2 sl h hI hc hl (by omega) (by omega) rfl hxn hxo rfl rfl rfl).mono ?_
    intro e w' hO
    cases ho : openC s x0.toNat (256 * x1.toNat + x2.toNat) [x0, x1, x2] sl with
    | none =>
      rw [ho] at hO hn
      obtain ⟨rfl, hr, hfr⟩ := hO
      refine ⟨?_, fun c' => ?_, hfr⟩
      · rw [unW, unG, unText, unCode, hn, hwho, hgen, hdr]; rfl
      · have e3 : unNext s f.data.toList c' = openN s x0.toNat (256 * x1.toNat + x2.toNat) c' := by rw [unNext, hn, hwho, hgen]; rfl
        have e6 : unSteps s f.data.toList = boundR s x0.toNat (256 * x1.toNat + x2.toNat) (f.size - 7) := by rw [unSteps, if_pos (.inl hn), hwho, hgen, hsz]
        rw [e3, e6]; exact hr c'
    | some c =>
      rw [ho] at hO hn
      obtain ⟨rfl, hr, hfr⟩ := hO
      refine ⟨?_, fun c' => ?_, hfr⟩
      · rw [unW, unG, unText, unCode, hn]; rfl
      · have e3 : unNext s f.data.toList c' = { s with cnt := c' } := by rw [unNext, hn]; rfl
        have hr' := hr.cnt c'
        by_cases h7 : c = 7
        · subst h7
          rw [if_pos rfl] at hr'
          have e6 : unSteps s f.data.toList = boundR s x0.toNat (256 * x1.toNat + x2.toNat) (f.size - 7) := by rw [unSteps, if_pos (.inr hn), hwho, hgen, hsz]
          rw [e3, e6]
          exact hr'
        · rw [if_neg h7] at hr'
          have e6 : unSteps s f.data.toList = 0 := by
            rw [unSteps, if_neg]
            rintro (e | e)
            · rw [hn] at e; cases e
            · rw [hn] at e; exact h7 (Option.some.inj e)
          rw [e3, e6]
          exact hr'
end Go.Proofs.YtccidllcjaaeeabGreatDoor
