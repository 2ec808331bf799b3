/- Contracts. -/
import Derived.Test.YtjfohhgmapipnaaT1
import Derived.Test.YtjfohhgmapipnaaVcRows
namespace Go.Proofs.Ytjfohhgmapipnaa
open Go.V
/-! ### The disk -/
/-- Nothing. -/
def E0 : Hp := fun _ => none
theorem E0_was {H : Hp} : Was E0 H := fun _ _ => rfl
theorem Buf.e0 {s : Nat} {A H : Hp} {p : Option Addr} {l k : Nat} {cells : List Value} (h : Buf s A H p l k cells) : Buf s E0 H p l k cells := h.base fun _ _ _ => rfl
/-- What there is, what was written since, how many steps, how many are left (if that is bounded). -/
structure DS where
  l : List BL
  w : List (Nat × BL)
  n : Nat
  left : Option Nat
def leftI : Option Nat → Int
  | none => -1
  | some k => k
def wc (x : Nat × BL) : List Value := [.int .i64 (x.1 : Nat), sv x.2]
theorem wc_len (x : Nat × BL) : (wc x).length = 2 := rfl
/-- Block d is a disk. -/
structure DkB (H : Hp) (d : Nat) (lp : Option Addr) (k : Nat) (wp : Option Addr) (k' : Nat) (s : DS) : Prop where
  r0 : rd H d 0 = some (.slice lp s.l.length k)
  r1 : rd H d 1 = some (.slice wp s.w.length k')
  r2 : rd H d 2 = some (.int .i64 (s.n : Nat))
  r3 : rd H d 3 = some (.int .i64 (leftI s.left))
  bl : Buf 1 E0 H lp s.l.length k (s.l.map sv)
  bw : Buf 2 E0 H wp s.w.length k' (s.w.flatMap wc)
  d1 : d ∉ blkL lp
  d2 : d ∉ blkL wp
  ap : ∀ x ∈ blkL lp, x ∉ blkL wp
  ok : ∀ x ∈ s.w, x.1 < s.l.length
  wn : s.w.length ≤ s.n
  lim : ∀ j, s.left = some j → j ≤ 9223372036854775807
def Dk (H : Hp) (d : Nat) (O : List Nat) (s : DS) : Prop := ∃ lp k wp k', O = d :: (blkL lp ++ blkL wp) ∧ DkB H d lp k wp k' s
theorem blk_there {s : Nat} {A H : Hp} {p : Option Addr} {l k : Nat} {cells : List Value} (h : Buf s A H p l k cells) : ∀ x ∈ blkL p, H x ≠ none := fun _ hx => h.there (blkL_mem h.zero hx)
section
variable {H H' : Hp} {d : Nat} {O P : List Nat} {s : DS} {lp wp : Option Addr} {k k' : Nat}
theorem DkB.mod (h : DkB H d lp k wp k' s) (hm : Mod P H H') (hd : ∀ x ∈ d :: (blkL lp ++ blkL wp), x ∉ P) : DkB H' d lp k wp k' s := by
  have hd0 : d ∉ P := hd d (by simp)
  exact ⟨hm.rd hd0 h.r0, hm.rd hd0 h.r1, hm.rd hd0 h.r2, hm.rd hd0 h.r3, h.bl.mod hm fun b o e => hd b (by simp [blkL, e]), h.bw.mod hm fun b o e => hd b (by simp [blkL, e]), h.d1, h.d2, h.ap, h.ok, h.wn, h.lim⟩
theorem Dk.mod (h : Dk H d O s) (hm : Mod P H H') (hd : ∀ x ∈ O, x ∉ P) : Dk H' d O s := by
  obtain ⟨lp, k, wp, k', rfl, h⟩ := h
  exact ⟨lp, k, wp, k', rfl, h.mod hm hd⟩
theorem Dk.le (h : Dk H d O s) (hm : Le H H') : Dk H' d O s := h.mod (P := []) hm.mod (by simp)
theorem DkB.there (h : DkB H d lp k wp k' s) : ∀ x ∈ d :: (blkL lp ++ blkL wp), H x ≠ none := by
  intro x hx
  rcases List.mem_cons.1 hx with rfl | hx
  · exact ne_none_of_rd h.r0
  rcases List.mem_append.1 hx with hx | hx
  · exact blk_there h.bl x hx
  · exact blk_there h.bw x hx
theorem Dk.there (h : Dk H d O s) : ∀ x ∈ O, H x ≠ none := by
  obtain ⟨lp, k, wp, k', rfl, h⟩ := h
  exact h.there
theorem Dk.hd (h : Dk H d O s) : d ∈ O := by obtain ⟨lp, k, wp, k', rfl, h⟩ := h; simp
end
/-- More blocks, new ones. -/
def Grew (H : Hp) (O O' : List Nat) : Prop := ∀ x ∈ O', x ∈ O ∨ H x = none
theorem Grew.refl {H : Hp} {O : List Nat} : Grew H O O := fun _ h => .inl h

def DS.on (s : DS) : Prop := s.left ≠ some 0
instance (s : DS) : Decidable s.on := by unfold DS.on; infer_instance
def DS.step (s : DS) : DS := { s with n := s.n + 1, left := s.left.map (· - 1) }
def DS.fits (s : DS) (i : Int) : Prop := 0 ≤ i ∧ i < (s.l.length : Int)
instance (s : DS) (i : Int) : Decidable (s.fits i) := by unfold DS.fits; infer_instance
def pad (b : BL) : BL := b ++ List.replicate (64 - b.length) 0
def DS.write (s : DS) (i : Int) (b : BL) : DS := if s.on then if s.fits i ∧ b.length ≤ 64 then { s.step with w := s.w ++ [(i.toNat, pad b)] } else s.step else s
def DS.writeE (s : DS) (i : Int) (b : BL) : Int := if s.on then if s.fits i ∧ b.length ≤ 64 then 0 else 10 else 23
def keepF (f : Nat → Bool) : Nat → List BL → List (Nat × BL) → List BL
  | _, l, [] => l
  | k, l, x :: r => keepF f (k + 1) (if f k then l.set x.1 x.2 else l) r
theorem keepF_len (f : Nat → Bool) : ∀ (k : Nat) (l : List BL) (w : List (Nat × BL)), (keepF f k l w).length = l.length
  | _, _, [] => rfl
  | k, l, x :: r => by rw [keepF, keepF_len]; split <;> simp
def DS.flush (s : DS) : DS := if s.on then { s.step with l := keepF (fun _ => true) 0 s.l s.w, w := [] } else s
def DS.flushE (s : DS) : Int := if s.on then 0 else 23
def kept (bits : Nat) (k : Nat) : Bool := decide (k < 64) && bits.testBit k
def DS.crash (s : DS) (bits : Nat) : DS := { s with l := keepF (kept bits) 0 s.l s.w, w := [], left := none }
def DS.limit (s : DS) (n : Int) : DS := { s with left := some n.toNat }
/-- The last write of a sector, if there is one. -/
def lastW (w : List (Nat × BL)) (i : Nat) : Option BL := (w.reverse.find? fun x => decide (x.1 = i)).map (·.2)
def DS.read (s : DS) (i : Int) : BL := if s.on then if s.fits i then (lastW s.w i.toNat).getD (s.l.getD i.toNat []) else [] else []
def DS.readE (s : DS) (i : Int) : Int := if s.on then if s.fits i then 0 else 10 else 23

section
variable {H : Hp} {d : Nat} {O : List Nat} {s : DS}
theorem leftI_zero : leftI s.left = 0 ↔ ¬ s.on := by
  unfold DS.on leftI
  cases s.left with
  | none => simp
  | some k => first | (simp; done) | (simp; omega)
/-- A change of the disk's numbers. -/
theorem DkB.nums {H : Hp} {lp wp : Option Addr} {k k' : Nat} {s : DS} (h : DkB H d lp k wp k' s) {n : Nat} {left : Option Nat} {H' : Hp} (hm : Mod [d] H H') (h0 : rd H' d 0 = rd H d 0) (h1 : rd H' d 1 = rd H d 1) (h2 : rd H' d 2 = some (.int .i64 (n : Nat))) (h3 : rd H' d 3 = some (.int .i64 (leftI left))) (hn : s.n ≤ n) (hlim : ∀ j, left = some j → j ≤ 9223372036854775807) :
    DkB H' d lp k wp k' { s with n := n, left := left } :=
  ⟨h0.trans h.r0, h1.trans h.r1, h2, h3, h.bl.mod hm fun b o e hb => by simp at hb; subst hb; exact h.d1 (by simp [blkL, e]), h.bw.mod hm fun b o e hb => by simp at hb; subst hb; exact h.d2 (by simp [blkL, e]), h.d1, h.d2, h.ap, h.ok, Nat.le_trans h.wn hn, hlim⟩

theorem sector_Disk_step.c {K : Bool → Hp → Prop} (hu : Dk H d O s) (hn : s.n ≤ 1000000000) (hoff : ¬ s.on → K false H) (hon : s.on → ∀ H', Dk H' d O s.step → Mod [d] H H' → K true H') : sector_Disk_step.C (some ⟨d, 0, none⟩) H K := by
  apply sector_Disk_step.of
  obtain ⟨lp, k, wp, k', rfl, h⟩ := hu
  refine nil (ldI_i h.r3 (bcd (fun h0 => hoff (leftI_zero.1 h0)) fun h0 => ?_))
  have on : s.on := Classical.not_not.1 fun hh => h0 (leftI_zero.2 hh)
  have hlim' : ∀ j, s.left.map (· - 1) = some j → j ≤ 9223372036854775807 := fun j hj => by
    cases hl : s.left with
    | none => rw [hl] at hj; cases hj
    | some m => rw [hl] at hj; simp at hj; have := h.lim m hl; omega
  refine nil (ldI_i h.r2 (chk (by omega) (nil (st h.r2 ?_))))
  have r3 : rd (wr H d 2 (.int .i64 ((s.n : Nat) + 1))) d 3 = some (.int .i64 (leftI s.left)) := by rw [rd_wr_off (by decide)]; exact h.r3
  refine nil (ldI_i r3 (bcd (fun h1 => ?_) fun h1 => ?_))
  · refine nil (ldI_i r3 (chk (by have := h.lim; unfold leftI at h1 ⊢; cases hl : s.left <;> rw [hl] at h1 <;> simp at h1 ⊢; have := this _ hl; omega) (nil (st r3 (hon on _ ⟨lp, k, wp, k', rfl, h.nums ((Mod.refl.wr (.inl (by simp))).wr (.inl (by simp))) ?_ ?_ ?_ ?_ (Nat.le_succ _) hlim'⟩ ((Mod.refl.wr (.inl (by simp))).wr (.inl (by simp))))))))
    · rw [rd_wr_off (by decide), rd_wr_off (by decide)]
    · rw [rd_wr_off (by decide), rd_wr_off (by decide)]
    · rw [rd_wr_off (by decide), rd_wr_self h.r2]; rfl
    · rw [rd_wr_self r3]
      unfold leftI at h1 ⊢
      cases hl : s.left with
      | none => rw [hl] at h1; simp at h1
      | some j => rw [hl] at h1; simp at h1 ⊢; omega
  · refine hon on _ ⟨lp, k, wp, k', rfl, h.nums (Mod.refl.wr (.inl (by simp))) ?_ ?_ ?_ ?_ (Nat.le_succ _) hlim'⟩ (Mod.refl.wr (.inl (by simp)))
    · rw [rd_wr_off (by decide)]
    · rw [rd_wr_off (by decide)]
    · rw [rd_wr_self h.r2]; rfl
    · rw [r3]
      unfold leftI at h1 ⊢
      cases hl : s.left with
      | none => rfl
      | some j =>
        rw [hl] at h1
        have : j = 0 := by simp at h1; omega
        subst this
        exact absurd hl on
theorem sector_Disk_there.c {i : Int} {K : Bool → Hp → Prop} (hu : Dk H d O s) (hK : K (decide (s.fits i)) H) : sector_Disk_there.C (some ⟨d, 0, none⟩) i H K := by
  apply sector_Disk_there.of
  obtain ⟨lp, k, wp, k', rfl, h⟩ := hu
  refine bcd (fun h0 => nil (ldL_i h.r0 ?_)) fun h0 => ?_
  · have e : decide (i < ((s.l.length : Nat) : Int)) = decide (s.fits i) := decide_eq_decide.2 ⟨fun h => ⟨h0, h⟩, fun h => h.2⟩
    rw [e]; exact hK
  · have e : decide (s.fits i) = false := decide_eq_false fun h => h0 h.1
    rw [e] at hK; exact hK
theorem sector_Disk_Len.c {K : Int → Hp → Prop} (hu : Dk H d O s) (hK : K (s.l.length : Nat) H) : sector_Disk_Len.C (some ⟨d, 0, none⟩) H K := by
  apply sector_Disk_Len.of
  obtain ⟨lp, k, wp, k', rfl, h⟩ := hu
  exact nil (ldL_i h.r0 hK)
theorem sector_Disk_Steps.c {K : Int → Hp → Prop} (hu : Dk H d O s) (hK : K (s.n : Nat) H) : sector_Disk_Steps.C (some ⟨d, 0, none⟩) H K := by
  apply sector_Disk_Steps.of
  obtain ⟨lp, k, wp, k', rfl, h⟩ := hu
  exact nil (ldI_i h.r2 hK)
theorem sector_Disk_Limit.c {n : Int} {K : Hp → Prop} (hu : Dk H d O s) (hn : n ≤ 9223372036854775807) (hK : ∀ H', Dk H' d O (s.limit n) → Mod [d] H H' → K H') : sector_Disk_Limit.C (some ⟨d, 0, none⟩) n H K := by
  apply sector_Disk_Limit.of
  obtain ⟨lp, k, wp, k', rfl, h⟩ := hu
  refine nil (st h.r3 (hK _ ⟨lp, k, wp, k', rfl, h.nums (Mod.refl.wr (.inl (by simp))) ?_ ?_ ?_ ?_ (Nat.le_refl _) (fun j hj => by simp at hj; omega)⟩ (Mod.refl.wr (.inl (by simp)))))
  · rw [rd_wr_off (by decide)]
  · rw [rd_wr_off (by decide)]
  · rw [rd_wr_off (by decide)]; exact h.r2
  · rw [rd_wr_self h.r3]; simp [leftI]
theorem sector_Disk_Write.c {i : Int} {b : BL} {K : Int → Hp → Prop} (hu : Dk H d O s) (hn : s.n ≤ 1000000000) (hK : ∀ H' O', Dk H' d O' (s.write i b) → Mod O H H' → Grew H O O' → K (s.writeE i b) H') : sector_Disk_Write.C (some ⟨d, 0, none⟩) i (mkB b) H K := by
  apply sector_Disk_Write.of
  unfold DS.write DS.writeE at hK
  refine sector_Disk_step.c hu hn (fun h0 => ?_) (fun on H1 h1 m1 => ?_)
  · rw [if_neg h0, if_neg h0] at hK
    exact bcn (fun _ => hK H O hu Mod.refl Grew.refl) (fun h => by cases h)
  rw [if_pos on, if_pos on] at hK
  have mO : Mod O H H1 := m1.mono (by simpa using hu.hd)
  refine bcn (fun h => by cases h) (fun _ => sector_Disk_there.c h1 ?_)
  have hf : s.step.fits i ↔ s.fits i := Iff.rfl
  refine bcn (fun h => ?_) (fun h => ?_)
  · have h := of_decide_eq_false h
    rw [hf] at h
    rw [if_neg (fun hh => h hh.1), if_neg (fun hh => h hh.1)] at hK
    exact hK H1 O h1 mO Grew.refl
  have hi := (hf.1 (of_decide_eq_true h))
  rw [sv_size]
  refine bcd (fun h => ?_) (fun hb => ?_)
  · rw [if_neg (fun hh => by omega), if_neg (fun hh => by omega)] at hK
    exact hK H1 O h1 mO Grew.refl
  rw [if_pos ⟨hi, by omega⟩, if_pos ⟨hi, by omega⟩] at hK
  unfold sector_Disk_Write.k1
  obtain ⟨lp, k, wp, k', rfl, h⟩ := h1
  refine nil (ldL_i h.r1 ?_)
  rw [sv_size]
  refine chk (by omega) ?_
  rw [show ((64 : Int) - (b.length : Nat)) = ((64 - b.length : Nat) : Int) by omega]
  refine strings_Repeat.c (by omega) fun H2 le2 => ?_
  have h2 := h.mod (P := []) le2.mod (by simp)
  have hsz : (mkB (List.replicate (64 - b.length) 0)).size = 64 - b.length := by rw [sv_size, List.length_replicate]
  refine ⟨by rw [h2.r1], by rw [hsz]; omega, by rw [h2.r1], ?_⟩
  have epad : mkB b ++ mkB (List.replicate (64 - b.length) 0) = mkB (pad b) := L_inj (by rw [L_append]; rfl)
  rw [epad]
  intro b5 hb5
  have h3 := h2.mod (P := []) (Le.upd (c := [.int .i64 i, .string (mkB (pad b))]) hb5).mod (by simp)
  refine ⟨by rw [h3.r1], ?_⟩
  have hi' : i = ((i.toNat : Nat) : Int) := by unfold DS.fits at hi; omega
  have hnew : (upd H2 b5 [.int .i64 i, .string (mkB (pad b))]) b5 = some (wc (i.toNat, pad b)) := by
    simp only [upd, if_true, wc]; rw [← hi']; rfl
  have hwn := h3.wn
  have hbm := (h3.bw.base (A' := dmn E0 (upd H2 b5 [.int .i64 i, .string (mkB (pad b))])) fun _ _ e => dmn_none e)
  refine hbm.pushAt hnew rfl (by decide) rfl (by decide) rfl rfl (by show (s.w.length + 1) * 24 ≤ _; have : s.step.w.length ≤ s.n + 1 := hwn; have : s.w.length ≤ s.n + 1 := this; omega) (fun p' c' H4 hB hp hm => ?_) dmn_le
  have hB4 := Buf.e0 hB
  have hd4 : d ∉ blkL wp := h3.d2
  have r1 := hm.rd hd4 h3.r1
  refine nil (st r1 ?_)
  have hlp : ∀ x ∈ blkL lp, x ∉ blkL wp := h3.ap
  have hp' : ∀ x ∈ blkL p', x ∈ blkL wp ∨ (upd H2 b5 [.int .i64 i, .string (mkB (pad b))]) x = none := fun x hx => by
    rcases hp with rfl | hp
    · exact .inl hx
    · exact .inr (hp x 0 (blkL_mem hB.zero hx))
  have t3 := h3.there
  have g1 : d ∉ blkL p' := fun hx => by
    rcases hp' d hx with h | h
    · exact hd4 h
    · exact t3 d (by simp) h
  have g2 : ∀ x ∈ blkL lp, x ∉ blkL p' := fun x hx hx' => by
    rcases hp' x hx' with h | h
    · exact hlp x hx h
    · exact t3 x (by simp [hx]) h
  have mw : Mod [d] H4 (wr H4 d 1 (.slice p' (s.w.length + 1) c')) := Mod.refl.wr (.inl (by simp))
  have hwl : (s.w ++ [(i.toNat, pad b)]).length = s.w.length + 1 := by simp
  refine hK _ (d :: (blkL lp ++ blkL p')) ⟨lp, k, p', c', rfl, ⟨?_, ?_, ?_, ?_, ?_, ?_, h3.d1, g1, g2, ?_, ?_, h3.lim⟩⟩ ?_ ?_
  · rw [rd_wr_off (by decide)]; exact hm.rd hd4 h3.r0
  · show rd _ d 1 = some (.slice p' (s.w ++ [(i.toNat, pad b)]).length c')
    rw [rd_wr_self r1, hwl]; rfl
  · rw [rd_wr_off (by decide)]; exact hm.rd hd4 h3.r2
  · rw [rd_wr_off (by decide)]; exact hm.rd hd4 h3.r3
  · refine (h3.bl.mod hm fun x o e => hlp x (by simp [blkL, e])).mod mw fun x o e hx => ?_
    simp at hx; subst hx; exact h3.d1 (by simp [blkL, e])
  · show Buf 2 E0 _ p' (s.w ++ [(i.toNat, pad b)]).length c' ((s.w ++ [(i.toNat, pad b)]).flatMap wc)
    rw [hwl, List.flatMap_append]
    have hB4' : Buf 2 E0 H4 p' (s.w.length + 1) c' (s.w.flatMap wc ++ wc (i.toNat, pad b)) := hB4
    rw [show [(i.toNat, pad b)].flatMap wc = wc (i.toNat, pad b) from by simp]
    refine hB4'.mod mw fun x o e hx => ?_
    simp at hx; subst hx; exact g1 (by simp [blkL, e])
  · intro x hx
    rcases List.mem_append.1 hx with hx | hx
    · exact h3.ok x hx
    · simp at hx; subst hx; unfold DS.fits at hi; show i.toNat < s.l.length; omega
  · show (s.w ++ [(i.toNat, pad b)]).length ≤ s.n + 1
    rw [hwl]; have : s.w.length ≤ s.n := by obtain ⟨_, _, _, _, _, h⟩ := hu; exact h.wn
    omega
  · refine Mod.wr ?_ (.inl (by simp))
    refine ((mO.trans le2.mod).trans (Le.upd hb5).mod).trans (hm.mono fun x hx => by simp [hx])
  · intro x hx
    rcases List.mem_cons.1 hx with rfl | hx
    · exact .inl (by simp)
    rcases List.mem_append.1 hx with hx | hx
    · exact .inl (by simp [hx])
    · rcases hp' x hx with h | h
      · exact .inl (by simp [h])
      · right
        have h5 := none_of_le (le2.trans (Le.upd hb5)) h
        cases hh : H x with
        | none => rfl
        | some c5 =>
          by_cases hxd : x = d
          · subst hxd; exact absurd h5 (ne_none_of_rd h.r0)
          · rw [m1 x (by simpa using hxd) _ hh] at h5; cases h5
end
end Go.Proofs.Ytjfohhgmapipnaa
