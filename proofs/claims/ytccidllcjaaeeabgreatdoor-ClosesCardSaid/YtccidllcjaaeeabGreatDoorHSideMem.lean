/- A side through one step: what the member's call, the document's and the count leave behind; Protect of either, in any state. Conditions: stated in each. -/
import Derived.Test.YtccidllcjaaeeabGreatDoorHSideAt
namespace Go.Proofs.YtccidllcjaaeeabGreatDoor
set_option maxRecDepth 100000
open Go Go.Maps Go.RowKit
open Go.Shelf Go.Lib Go.Sort Go.MuLone
theorem side_ne {w : World} {P : Nat → Prop} {d : SPl} {s : GSt} {u : Nat} (h : SideAt w P d s u) : d.S ≠ d.R ∧ d.S ≠ d.B ∧ Apart d.p d.S ∧ Apart d.p d.R ∧ Apart d.p d.B := by
  obtain ⟨h1, _, h3, ⟨st, ⟨⟨cs, r1, _⟩, ⟨ms, r3, _⟩, _, _⟩⟩, _⟩ := h
  refine ⟨fun e => ?_, fun e => ?_, group_apart h3 h1 (by decide) (by decide), group_apart h3 r1 (by decide) (by decide), group_apart h3 r3 (by decide) (by decide)⟩
  · rw [e, r1] at h1; injection h1 with h1; injection h1 with _ h1; exact absurd h1 (by decide)
  · rw [e, r3] at h1; injection h1 with h1; injection h1 with _ h1; exact absurd h1 (by decide)
theorem SideAt.below {w w' : World} {P : Nat → Prop} {d : SPl} {s : GSt} {u : Nat} (h : SideAt w P d s u) (hb : Below w.heap.size w w') : SideAt w' P d s u := by
  obtain ⟨h1, h2, h3, ⟨st, h4⟩, h5, h6, h7, h8⟩ := h
  exact ⟨(hb.block _ (Array.getElem?_eq_some_iff.1 h1).1).trans h1, h2, group_below h3 hb, ⟨st, h4.below hb⟩, h5, h6, h7, h8⟩
/-- A block of another type is none of a side's. -/
theorem side_other {w : World} {P : Nat → Prop} {d : SPl} {s : GSt} {u : Nat} (h : SideAt w P d s u) {b : Nat} {cs : Array Value} {ty : TypeId} {fr : Nat × Nat} (hb : w.heap[b]? = some (.cells cs ty fr)) (t1 : ty ≠ 49) (t2 : ty ≠ 72) (t3 : ty ≠ 42) (t4 : ty ≠ 76) (t5 : ty ≠ 111) : ¬ OwnS d b := by
  have ha := group_apart h.grp hb t1 t2
  obtain ⟨h1, _, h3, ⟨st, ⟨⟨cs1, r1, _⟩, ⟨ms, r3, _⟩, _, _⟩⟩, _⟩ := h
  rintro (e | e | e | e | e | e | e)
  · rw [e, h1] at hb; injection hb with hb; injection hb with _ hb; exact t3 hb.symm
  · rw [e, r1] at hb; injection hb with hb; injection hb with _ hb; exact t4 hb.symm
  · rw [e, r3] at hb; injection hb with hb; injection hb with _ hb; exact t5 hb.symm
  · exact ha.1 e
  · exact ha.2.1 e
  · exact ha.2.2.1 e
  · exact ha.2.2.2 e
theorem SideAt.turn {w w' : World} {P Q : Nat → Prop} {d : SPl} {s : GSt} {u : Nat} (h : SideAt w P d s u) (hk : ∀ b, OwnS d b → w'.heap[b]? = w.heap[b]?) (hi : ∀ (b : Nat) (cs : Array Value), w.heap[b]? = some (.cells cs 3 (0, 0)) → w'.heap[b]? = w.heap[b]?) (hQ : ∀ b, OwnS d b → Q b) : SideAt w' Q d s u := by
  obtain ⟨h1, h2, h3, ⟨st, h4⟩, h5, h6, h7, _⟩ := h
  exact ⟨(hk _ (.inl rfl)).trans h1, h2, group_keep h3 fun b hb => hk b (OwnS.grp hb), ⟨st, h4.same (hk _ (.inr (.inl rfl))) (hk _ (.inr (.inr (.inl rfl)))) hi⟩, h5, h6, h7, hQ⟩
theorem side_lt {w : World} {P : Nat → Prop} {d : SPl} {s : GSt} {u : Nat} (h : SideAt w P d s u) : ∀ b, OwnS d b → b < w.heap.size := by
  have hl := group_lt h.grp
  obtain ⟨h1, _, h3, ⟨st, ⟨⟨cs1, r1, _⟩, ⟨ms, r3, _⟩, _, _⟩⟩, _⟩ := h
  rintro b (rfl | rfl | rfl | hb)
  · exact (Array.getElem?_eq_some_iff.1 h1).1
  · exact (Array.getElem?_eq_some_iff.1 r1).1
  · exact (Array.getElem?_eq_some_iff.1 r3).1
  · exact (hl b hb).2
/-- The document's group behind a call of the member's. -/
theorem side_ref {w w1 w2 : World} {P : Nat → Prop} {d : SPl} {s : GSt} {u : Nat} (h : SideAt w P d s u) (hb : Below w.heap.size w w1) (hF : Frm w1 w2 d.p) : ∃ st, RefAt w2 1 d.R d.B s st := by
  obtain ⟨_, _, h3, ⟨st, h4⟩, _⟩ := h.below hb
  exact ⟨st, h4.stay (frm_stay h3 hF)⟩
/-- The member's group and the count behind a call of the document's. -/
theorem side_mid {w w1 w2 w3 : World} {P : Nat → Prop} {d : SPl} {s s' : GSt} {u t' : Nat} {T' : Value} (h : SideAt w P d s u) (hb : Below w.heap.size w w1) (hF : Frm w1 w2 d.p) (hA : GroupAt w2 1 { d.p with T := T' } s' t') (hf : RFrm w2 w3 d.R d.B) :
    GroupAt w3 1 { d.p with T := T' } s' t' ∧ w3.heap[d.S]? = some (.cells #[.pointer (some ⟨d.p.G, 0, none⟩), .pointer (some ⟨d.R, 0, none⟩), .int .i64 s.cnt] 42 (0, 0)) := by
  have h1 := h.below hb
  obtain ⟨st, hr⟩ := side_ref h hb hF
  obtain ⟨n1, n2, _, _, _⟩ := side_ne h
  obtain ⟨b1, _, h3, _⟩ := h1
  have hs2 := (frm_stay h3 hF _ _ _ _ b1 (by decide) (by decide)).trans b1
  refine ⟨group_keep hA fun b hb2 => hf.block b (group_lt hA b hb2).2 (fun e => ?_) (fun e => ?_), (hf.block _ (Array.getElem?_eq_some_iff.1 hs2).1 n1 n2).trans hs2⟩
  · obtain ⟨⟨cs1, r1, _⟩, _⟩ := hr
    have ha := group_apart hA r1 (by decide) (by decide)
    rw [e] at hb2
    rcases hb2 with hb2 | hb2 | hb2 | hb2
    · exact ha.1 hb2
    · exact ha.2.1 hb2
    · exact ha.2.2.1 hb2
    · exact ha.2.2.2 hb2
  · obtain ⟨_, ⟨cs1, r1, _⟩, _⟩ := hr
    have ha := group_apart hA r1 (by decide) (by decide)
    rw [e] at hb2
    rcases hb2 with hb2 | hb2 | hb2 | hb2
    · exact ha.1 hb2
    · exact ha.2.1 hb2
    · exact ha.2.2.1 hb2
    · exact ha.2.2.2 hb2
/-- A side behind a step. -/
theorem side_mem {w w1 w2 w3 w4 : World} {P : Nat → Prop} {d : SPl} {s s' : GSt} {u t' : Nat} {T' : Value} {st : Int} (h : SideAt w P d s u) (hb : Below w.heap.size w w1) (hF : Frm w1 w2 d.p) (hT : TreeNew w1 d.p.T T') (hA : GroupAt w2 1 { d.p with T := T' } s' t') (ht : t' ≤ 5 * (u + 1)) (hf : RFrm w2 w3 d.R d.B) (hr : RefAt w3 1 d.R d.B s' st) (hS : w4.heap[d.S]? = some (.cells #[.pointer (some ⟨d.p.G, 0, none⟩), .pointer (some ⟨d.R, 0, none⟩), .int .i64 s'.cnt] 42 (0, 0))) (hf4 : RFrm w3 w4 d.S d.S) (hI : GInv s') (h0 : 0 ≤ s'.cnt) (h1 : s'.cnt ≤ 400 * (u + 1)) :
    SideAt w4 (Grown P w w4) { d with p := { d.p with T := T' } } s' (u + 1) ∧ PFrm w w4 P := by
  obtain ⟨hA3, hS3⟩ := side_mid h hb hF hA hf
  obtain ⟨stx, hrx⟩ := side_ref h hb hF
  have hlt := side_lt h
  have hb1 := h.below hb
  obtain ⟨n1, n2, _, _, _⟩ := side_ne h
  have hint4 : ∀ (b : Nat) (cs : Array Value), w3.heap[b]? = some (.cells cs 3 (0, 0)) → w4.heap[b]? = w3.heap[b]? := fun b cs hc => by
    have hne : b ≠ d.S := fun e => by rw [e, hS3] at hc; injection hc with hc; injection hc with _ hc; exact absurd hc (by decide)
    exact hf4.block b (Array.getElem?_eq_some_iff.1 hc).1 hne hne
  have hR3 : d.R < w3.heap.size := by obtain ⟨⟨cs1, r1, _⟩, _⟩ := hr; exact (Array.getElem?_eq_some_iff.1 r1).1
  have hB3 : d.B < w3.heap.size := by obtain ⟨_, ⟨cs1, r1, _⟩, _⟩ := hr; exact (Array.getElem?_eq_some_iff.1 r1).1
  have hP1 : PFrm w w1 P := PFrm.ofBelow P hb
  have hP2 : PFrm w1 w2 P := PFrm.ofGrp hF hb1.grp fun x hx => h.own x (OwnS.grp hx)
  have hP3 : PFrm w2 w3 P := PFrm.ofRef hf hrx (h.own _ (.inr (.inl rfl))) (h.own _ (.inr (.inr (.inl rfl))))
  have hP4 : PFrm w3 w4 P := ⟨hf4.os, hf4.tape, hf4.output, hf4.size, fun x hx hn => hf4.block x hx (fun e => hn (e ▸ h.own _ (.inl rfl))) (fun e => hn (e ▸ h.own _ (.inl rfl))), hint4⟩
  have hA4 : GroupAt w4 1 { d.p with T := T' } s' t' := group_keep hA3 fun b hb2 => by
    have ha := group_apart hA3 hS3 (by decide) (by decide)
    have hne : b ≠ d.S := fun e => by
      rw [e] at hb2
      rcases hb2 with hb2 | hb2 | hb2 | hb2
      · exact ha.1 hb2
      · exact ha.2.1 hb2
      · exact ha.2.2.1 hb2
      · exact ha.2.2.2 hb2
    exact hf4.block b (group_lt hA3 b hb2).2 hne hne
  refine ⟨⟨hS, h.mu, group_more hA4 ht, ⟨st, hr.same (hf4.block _ hR3 (Ne.symm n1) (Ne.symm n1)) (hf4.block _ hB3 (Ne.symm n2) (Ne.symm n2)) hint4⟩, hI, h0, h1, fun b hb2 => ?_⟩, ((hP1.trans hP2 fun _ _ h => h).trans hP3 fun _ _ h => h).trans hP4 fun _ _ h => h⟩
  rcases hb2 with e | e | e | e | e | e | e
  · exact .inl (h.own b (.inl e))
  · exact .inl (h.own b (.inr (.inl e)))
  · exact .inl (h.own b (.inr (.inr (.inl e))))
  · exact .inl (h.own b (OwnS.grp (.inl e)))
  · exact .inl (h.own b (OwnS.grp (.inr (.inl e))))
  · exact .inl (h.own b (OwnS.grp (.inr (.inr (.inl e)))))
  · have e' : T'.ownBlock = some b := e
    rcases hT with hT | hT
    · rw [hT] at e'
      exact .inl (h.own b (OwnS.grp (.inr (.inr (.inr e')))))
    · exact .inr ⟨Nat.le_trans hb.size (hT b e'), (group_lt hA4 b (.inr (.inr (.inr e')))).2⟩
/-- A row of bytes of one's own has turned. -/
theorem side_end {w w4 w6 : World} {P : Nat → Prop} {d : SPl} {s : GSt} {u g : Nat} {cs : Array Value} (h : SideAt w4 (Grown P w w4) d s u) (hP : PFrm w w4 P) (hf : RFrm w4 w6 g g) (hg : w.heap.size ≤ g) (hc : w4.heap[g]? = some (.cells cs 5 (0, 0))) :
    SideAt w6 (Grown P w w6) d s u ∧ PFrm w w6 P := by
  have hno := side_other h hc (by decide) (by decide) (by decide) (by decide) (by decide)
  have hint : ∀ (b : Nat) (cs : Array Value), w4.heap[b]? = some (.cells cs 3 (0, 0)) → w6.heap[b]? = w4.heap[b]? := fun b cs' hc' => by
    have hne : b ≠ g := fun e => by rw [e, hc] at hc'; injection hc' with hc'; injection hc' with _ hc'; exact absurd hc' (by decide)
    exact hf.block b (Array.getElem?_eq_some_iff.1 hc').1 hne hne
  refine ⟨h.turn (fun b hb => ?_) hint fun b hb => ?_, hP.over ⟨hf.os, hf.tape, hf.output, hf.size, fun x hx hn => ?_, hint⟩⟩
  · have hne : b ≠ g := fun e => hno (e ▸ hb)
    exact hf.block b (side_lt h b hb) hne hne
  · rcases h.own b hb with h1 | h1
    · exact .inl h1
    · exact .inr ⟨h1.1, Nat.lt_of_lt_of_le h1.2 hf.size⟩
  · have hne : x ≠ g := fun e => hn (e ▸ hg)
    exact hf.block x hx hne hne
theorem side_end0 {w w4 w6 : World} {P : Nat → Prop} {d : SPl} {s : GSt} {u : Nat} (h : SideAt w4 (Grown P w w4) d s u) (hP : PFrm w w4 P) (hf : Below w4.heap.size w4 w6) : SideAt w6 (Grown P w w6) d s u ∧ PFrm w w6 P := by
  refine ⟨(h.below hf).turn (fun _ _ => rfl) (fun _ _ _ => rfl) fun b hb => ?_, hP.below hf⟩
  rcases h.own b hb with h1 | h1
  · exact .inl h1
  · exact .inr ⟨h1.1, Nat.lt_of_lt_of_le h1.2 hf.size⟩
/-- What Protect answers: the code, the frame, the state behind. -/
def protCode (s : GSt) (n : Nat) : Int := (protNo s n).getD 0
def protFrame (s : GSt) (l : List UInt8) : List UInt8 := if (protNo s l.length).isSome then [] else frameL s s.own (s.M s.own).next l
def protNext (s : GSt) (n : Nat) (c : Int) : GSt := if (protNo s n).isSome then s else protS s c
def protSteps (s : GSt) (n : Nat) : Nat := if (protNo s n).isSome then 0 else boundR s s.own (s.M s.own).next n
theorem protNo_none {s : GSt} {n : Nat} (h : protNo s n = none) : s.closed = false ∧ n ≤ 40 ∧ (s.M s.own).next ≤ 65535 := by
  unfold protNo at h
  split at h
  · cases h
  · rename_i h1
    split at h
    · cases h
    · split at h
      · cases h
      · exact ⟨by simpa using h1, by omega, by omega⟩
theorem protNo_ne {s : GSt} {n : Nat} {c : Int} (h : protNo s n = some c) : c ≠ 0 ∧ 0 ≤ c ∧ c ≤ 9 := by
  unfold protNo at h
  split at h
  · cases h; decide
  · split at h
    · cases h; decide
    · split at h
      · cases h; decide
      · cases h
theorem inv_protNext {s : GSt} (hI : GInv s) (n : Nat) (c : Int) : GInv (protNext s n c) := by
  unfold protNext
  cases h : protNo s n with
  | some x => exact hI
  | none => exact inv_protS hI c (protNo_none h).2.2
theorem protFrame_len (s : GSt) (l : List UInt8) : (protFrame s l).length ≤ 47 := by
  unfold protFrame
  cases h : protNo s l.length with
  | some x => exact Nat.zero_le _
  | none =>
    have := (protNo_none h).2.1
    show (frameL _ _ _ _).length ≤ 47
    rw [frame_size]; omega
theorem protNext_cnt {w : World} {lo R B n : Nat} {s : GSt} {c c' st : Int} (h : RefAt w lo R B (protNext s n c) st) : RefAt w lo R B (protNext s n c') st := by
  unfold protNext at h ⊢
  cases hp : protNo s n with
  | some x => rw [hp] at h; exact h
  | none => rw [hp] at h; exact ⟨h.grp, h.mem, h.loR, h.loB⟩
/-- The member's Protect, in any state. -/
theorem gp_any (w : World) (t b cap : Nat) (p : GPl) (s : GSt) (l : List UInt8) (hA : GroupAt w 1 p s t) (hmu : p.mu = 0) (hEG : EG w) (hI : GInv s) (h0 : 0 ≤ s.cnt) (h1 : s.cnt ≤ 4611686010000000000) (ht : t < 1000000000000) (hbuf : BufAt w b l) :
    Calls Tryz.prog 20 #[.pointer (some ⟨p.G, 0, none⟩), .slice (some ⟨b, 0, none⟩) l.length cap] w fun e w' => ∃ (v T' : Value) (c' : Int), e = .returned (.tuple #[v, .int .i64 (protCode s l.length)]) ∧
      w'.ownsRow w.heap.size 5 1 v (protFrame s l).length (cells (protFrame s l)).toList ∧ GroupAt w' 1 { p with T := T' } (protNext s l.length c') (t + 1) ∧ Frm w w' p ∧ TreeNew w p.T T' ∧ (protNext s l.length c').cnt = c' ∧ s.cnt ≤ c' ∧ c' ≤ s.cnt + protSteps s l.length ∧ (protCode s l.length = 0 → s.cnt < c') ∧ EG w' := by
  cases hp : protNo s l.length with
  | some c =>
    have e1 : protCode s l.length = c := by rw [protCode, hp]; rfl
    have e2 : protFrame s l = [] := by rw [protFrame, hp]; rfl
    have e3 : ∀ c', protNext s l.length c' = s := fun c' => by rw [protNext, hp]; rfl
    rw [e1, e2]
    refine (Protect_no w 1 t p s (some ⟨b, 0, none⟩) cap l.length c hA hmu (by omega) hEG hI hp).mono ?_
    rintro e w' ⟨rfl, hA', hF⟩
    exact ⟨.slice none 0 0, p.T, s.cnt, rfl, World.ownsRow_nil _ _ _ _, by rw [e3]; exact group_more hA' (by omega), hF, .inl rfl, by rw [e3], Int.le_refl _, by omega, fun e => absurd e (protNo_ne hp).1, eg_frm hEG hA (by omega) hF⟩
  | none =>
    obtain ⟨hc, h40, hn⟩ := protNo_none hp
    have e1 : protCode s l.length = 0 := by rw [protCode, hp]; rfl
    have e2 : protFrame s l = frameL s s.own (s.M s.own).next l := by rw [protFrame, hp]; rfl
    have e3 : ∀ c', protNext s l.length c' = protS s c' := fun c' => by rw [protNext, hp]; rfl
    have e4 : protSteps s l.length = boundR s s.own (s.M s.own).next l.length := by rw [protSteps, hp]; rfl
    rw [e1, e2, e4]
    obtain ⟨cs, lo, hi, hcs, _⟩ := id hbuf
    refine (Protect_ok w 1 t p s (some ⟨b, 0, none⟩) cap l hA hmu (by omega) hEG hI hc h40 hn h0 h1 ht (fun e => by cases e) (fun _ => ⟨_, _, rfl⟩) hbuf.rd fun b' o e _ => by
      cases e
      exact ⟨(Array.getElem?_eq_some_iff.1 hcs).1, group_apart hA hcs (by decide) (by decide)⟩).mono ?_
    rintro e w' ⟨v, T', c', rfl, ho, hA', hF, hT, hc1, hc2⟩
    rw [← frame_size s s.own (s.M s.own).next l] at ho
    refine ⟨v, T', c', rfl, ho, by rw [e3]; exact hA', hF, hT, by rw [e3]; rfl, by omega, ?_, fun _ => hc1, eg_frm hEG hA (by omega) hF⟩
    unfold boundR
    have e5 : 2 * ((s.M s.own).next + 1 - (s.M s.own).next) = 2 := by omega
    rw [e5]
    omega
/-- The document's Protect, in any state. -/
theorem rp_any (w : World) (R B : Nat) (s : GSt) (st : Int) (text : ByteArray) (h : RefAt w 1 R B s st) (hI : GInv s) (ht : text.size ≤ 9223372036854775807) :
    Calls Tryz.prog 21 #[.pointer (some ⟨R, 0, none⟩), .string text] w fun e w' => e = .returned (.tuple #[.string ⟨(protFrame s text.data.toList).toArray⟩, .int .i64 (protCode s text.size)]) ∧ (∀ c', RefAt w' 1 R B (protNext s text.size c') (protSteps s text.size)) ∧ RFrm w w' R B := by
  have hsz : text.data.toList.length = text.size := rfl
  cases hp : protNo s text.size with
  | some c =>
    have e1 : protCode s text.size = c := by rw [protCode, hp]; rfl
    have e2 : protFrame s text.data.toList = [] := by rw [protFrame, hsz, hp]; rfl
    have e3 : ∀ c', protNext s text.size c' = s := fun c' => by rw [protNext, hp]; rfl
    have e4 : protSteps s text.size = 0 := by rw [protSteps, hp]; rfl
    rw [e1, e2, e4]
    refine (refProtect_no w 1 R B s st text c h hI ht hp).mono ?_
    rintro e w' ⟨rfl, hr, hf⟩
    exact ⟨rfl, fun c' => by rw [e3]; exact hr, hf⟩
  | none =>
    obtain ⟨hc, h40, hn⟩ := protNo_none hp
    have e1 : protCode s text.size = 0 := by rw [protCode, hp]; rfl
    have e2 : protFrame s text.data.toList = frameL s s.own (s.M s.own).next text.data.toList := by rw [protFrame, hsz, hp]; rfl
    have e3 : protNext s text.size s.cnt = protS s s.cnt := by rw [protNext, hp]; rfl
    have e4 : protSteps s text.size = boundR s s.own (s.M s.own).next text.size := by rw [protSteps, hp]; rfl
    rw [e1, e2, e4]
    refine (refProtect_ok w 1 R B s st text h hI hc h40 hn).mono ?_
    rintro e w' ⟨rfl, hr, hf⟩
    exact ⟨rfl, fun c' => protNext_cnt (c := s.cnt) (by rw [e3]; exact hr), hf⟩
theorem protSteps_le (s : GSt) (l : List UInt8) : protSteps s l.length ≤ 400 := by
  unfold protSteps
  cases h : protNo s l.length with
  | some x => exact Nat.zero_le _
  | none =>
    have := (protNo_none h).2.1
    have hd := depthF_le 16 s.n s.own
    show boundR _ _ _ _ ≤ 400
    unfold boundR
    have e5 : 2 * ((s.M s.own).next + 1 - (s.M s.own).next) = 2 := by omega
    rw [e5]
    omega
end Go.Proofs.YtccidllcjaaeeabGreatDoor
