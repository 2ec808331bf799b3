/- For every file, lines and numbers ResolveSteps returns true, and what came in reads as it did: no condition. -/
import Derived.Test.YtganockeifkecaaDoorZ6
namespace Go.Proofs.YtganockeifkecaaDoor
open Go.V
open Go.ChangeShapes Go.WideShapes Go.ChangeAt Go.RowKit
theorem RdH.le {Hz Hy : Hp} {h : Hk} {x : HD} (w : RdH Hz h x) (l : Le Hz Hy) : RdH Hy h x := ⟨w.1.le l, w.2.1.le l, w.2.2.le l⟩
section
variable {ls : List Ln} {ps : List (Int × Int)}
theorem kilL_N {i k : Nat} : lnN (kilL ls k) i = lnN ls i := by
  unfold lnN kilL
  by_cases h : i = k
  · subst h
    by_cases hi : i < ls.length
    · simp [List.getD, hi, lnId]
    · simp [List.getD, hi]
  · simp [List.getD, List.getElem?_set_ne (Ne.symm h)]
theorem kilL_d {k : Nat} (hk : k < ls.length) : ((kilL ls k).getD k ⟨0, 0, [], true⟩).d = true := by unfold kilL; simp [List.getD, hk]
theorem plZ_no {id : Lid} (h : ∀ i ∈ alv ls, lnN ls i ≠ id) : plZ ls id = -1 := fstP_no fun i hi => decide_eq_false (h i hi)
theorem plZ_kil (hu : Uq ls) {k : Nat} (hk : k < ls.length) : plZ (wLs ls ls [lnN ls k]) (lnN ls k) = -1 := by
  have e : wLs ls ls [lnN ls k] = kilL ls k := by
    show kilL ls (atZ ls (lnN ls k)).toNat = _
    rw [atZ_of hu hk, Int.toNat_natCast]
  rw [e]
  refine plZ_no fun i hi h => ?_
  obtain ⟨h1, h2⟩ := alv_mem.1 hi
  have hl : (kilL ls k).length = ls.length := by simp [kilL]
  rw [hl] at h1
  rw [kilL_N] at h
  have := hu _ _ h1 hk h
  subst this
  rw [kilL_d hk] at h2; cases h2
theorem plZ_dead (hu : Uq ls) {k : Nat} (hk : k < ls.length) (h : plZ ls (lnN ls k) = -1) : ls[k].d = true := by
  cases e : ls[k].d with
  | true => rfl
  | false =>
    have hm : k ∈ alv ls := alv_mem.2 ⟨hk, by simp [List.getD, hk, e]⟩
    obtain ⟨j, hj, rfl⟩ := List.mem_iff_getElem.1 hm
    rw [plZ_of hu hj] at h
    omega
theorem plZ_at (hu : Uq ls) {k : Nat} (hk : k < ls.length) (h : ¬ plZ ls (lnN ls k) = -1) : ∃ j, ∃ hj : j < (alv ls).length, (alv ls)[j] = k ∧ plZ ls (lnN ls k) = (j : Int) := by
  by_cases hm : k ∈ alv ls
  · obtain ⟨j, hj, rfl⟩ := List.mem_iff_getElem.1 hm
    exact ⟨j, hj, rfl, plZ_of hu hj⟩
  · refine absurd (plZ_no fun i hi e => ?_) h
    have := hu _ _ (alv_mem.1 hi).1 hk e
    subst this
    exact hm hi
theorem ordR_kil (hu : Uq ls) {k : Nat} (hk : k < ls.length) {f : BL} {qs : List (Int × Int)} {b : Lid} : ordR f (wLs ls ls [lnN ls k]) qs b (lnN ls k) = (hk0, 14) := by
  unfold ordR; rw [if_pos (.inr (.inl (plZ_kil hu hk)))]
theorem dropR_kil (hu : Uq ls) {k : Nat} (hk : k < ls.length) {f : BL} : dropR f (wLs ls ls [lnN ls k]) (lnN ls k) = (hk0, 14) := by
  unfold dropR; rw [if_pos (plZ_kil hu hk)]
theorem ordR_two (hu : Uq ls) {f : BL} {k m : Nat} (hk : k < ls.length) (hm : m < ls.length) (h1 : ¬ plZ ls (lnN ls k) = -1) (h2 : ¬ plZ ls (lnN ls m) = -1) (hne : ¬ lnN ls k = lnN ls m) :
    ordR f ls (wPs ls ps [⟨lnN ls k, lnN ls m⟩]) (lnN ls k) (lnN ls m) = (hk0, 20) := by
  unfold ordR
  rw [if_neg (fun h => h.elim h1 fun h => h.elim h2 hne)]
  obtain ⟨i, hi, e1, e2⟩ := plZ_at hu hk h1
  obtain ⟨j, hj, e3, e4⟩ := plZ_at hu hm h2
  rw [e2, e4, hasM_nat, rM_cM hi hj, e1, e3]
  rw [if_pos]
  refine clo_ge (ofM_sup _ _) ?_
  unfold ofM
  rw [decide_eq_true ⟨hk, hm⟩, Bool.true_and, List.any_eq_true]
  refine ⟨((k : Int), (m : Int)), ?_, by simp⟩
  unfold wPs
  rw [List.mem_append]
  refine .inr ?_
  simp [atZ_of hu hk, atZ_of hu hm]
end
section
variable {f : ByteArray} {lp pp : Option Addr} {ll lc pl pc : Nat} {ls : List Ln} {ps : List (Int × Int)} {H Hz : Hp} {q0 pa pb p1 ka kb : Nat} {b : Lid} {xa : HD} {g : ByteArray} {K : Bool → Hp → Prop}
theorem wPs_len (es : List Ed) : (wPs ls ps es).length = ps.length + es.length := by unfold wPs; simp
theorem st5 (hu : Uq ls) (d : D3 H q0 f lp ll lc pp pl pc) (hL : Sn 4 lnC H lp ll lc ls) (hP : Sn 2 pairC H pp pl pc ps) (hT : Tz H) (hll : ll ≤ 200) (hpl : pl ≤ 1000) (hka : ka < ls.length) (lz : Le H Hz) (da : DL Hz pa (lnN ls ka)) (db : DL Hz pb b)
    (d1 : D4 Hz p1 g xa.ap xa.al xa.ac xa.ep xa.el xa.ec xa.kp xa.kl xa.kc) (wa : RdH Hz ⟨L f, [], [], [lnN ls ka]⟩ xa) (hK : ∀ Hw, Le H Hw → K true Hw) : centolaw15_ResolveSteps.k5 K pa q0 p1 pb 14 Hz := by
  unfold centolaw15_ResolveSteps.k5
  have d := d.le lz
  have hat := atZ_of hu hka
  have el := hL.len
  have ep := hP.len
  have hks : ∀ k ∈ [lnN ls ka], 0 ≤ atZ ls k := fun k hk => by
    simp only [List.mem_singleton] at hk
    subst hk; rw [hat]; omega
  have sz : ∀ {lp' : Option Addr} {ll' lc' : Nat} {Hx : Hp}, Sn 4 lnC Hx lp' ll' lc' (wLs ls ls [lnN ls ka]) → ll' ≤ 200 := fun h => by have := h.len; rw [wLs_len] at this; omega
  have sz2 : ∀ {lp' : Option Addr} {ll' lc' : Nat} {Hx : Hp}, Sn 2 pairC Hx lp' ll' lc' (wPs ls ps []) → ll' ≤ 1000000000 := fun h => by have := h.len; rw [wPs_len] at this; simp at this; omega
  refine d.get (d1.get (ldI_i db.1 (ldI_i db.2 (ldI_i da.1 (ldI_i da.2 ⟨?_, ?_⟩)))))
  · refine centolaw15_with.c (hL.le lz) (hP.le lz) hll (by omega) wa ⟨by simp, by simp⟩ hks ?_
    intro lp' ll' lc' pp' pl' pc' H7 l7 hL' hP'
    have da := da.le l7
    have db := db.le l7
    have l7z := lz.trans l7
    refine ⟨da.1, da.2, db.1, db.2, ?_, ?_⟩
    · refine resolve_Order.c hL' hP' (hT.le l7z) (sz hL') (sz2 hP') ?_
      rw [ordR_kil hu hka]
      exact fun Ha xa' la _ _ => D4.mk fun p2 Hb _ d2 lb => bcd (fun _ => hK _ (l7z.trans (la.trans lb))) fun h => absurd rfl h
    · refine newD4 fun p2 Ha hq de la => ?_
      have da := da.le la
      have db := db.le la
      have l7a := l7z.trans la
      refine ⟨da.1, da.2, db.1, db.2, ?_⟩
      refine resolve_Order.c (hL'.le la) (hP'.le la) (hT.le l7a) (sz hL') (sz2 hP') ?_
      rw [ordR_kil hu hka]
      exact fun Hb xb lb _ _ => put4h (de.le lb) fun Hc d2 m => bcd (fun _ => hK _ (m.le (l7a.trans lb) fun x hx => by simp at hx; subst hx; exact none_of_le l7z hq)) fun h => absurd rfl h
  · refine newD4 fun p2 Ha hq de la => ?_
    have da := da.le la
    have db := db.le la
    have d := d.le la
    have d1 := d1.le la
    have lza := lz.trans la
    refine ⟨da.1, da.2, db.1, db.2, d1.1, d1.2.1, d1.2.2.1, d1.2.2.2, d.1, d.2.1, d.2.2, ?_⟩
    refine centolaw15_with.c (hL.le lza) (hP.le lza) hll (by omega) (RdH.le wa la) ⟨by simp, by simp⟩ hks ?_
    intro lp' ll' lc' pp' pl' pc' H7 l7 hL' hP'
    have da := da.le l7
    have db := db.le l7
    have l7z := lza.trans l7
    refine ⟨da.1, da.2, db.1, db.2, ?_⟩
    refine resolve_Order.c hL' hP' (hT.le l7z) (sz hL') (sz2 hP') ?_
    rw [ordR_kil hu hka]
    exact fun Hb xb lb _ _ => put4h ((de.le l7).le lb) fun Hc d2 m => bcd (fun _ => hK _ (m.le (l7z.trans lb) fun x hx => by simp at hx; subst hx; exact none_of_le lz hq)) fun h => absurd rfl h
theorem st4 {i : Int} (hu : Uq ls) (d : D3 H q0 f lp ll lc pp pl pc) (hL : Sn 4 lnC H lp ll lc ls) (hP : Sn 2 pairC H pp pl pc ps) (hT : Tz H) (hll : ll ≤ 200) (hpl : pl ≤ 1000) (hka : ka < ls.length) (wi : 0 ≤ i ∧ i ≤ 255) (hi : Int.tmod i (ll : Int) = (ka : Int)) (lz : Le H Hz) (da : DL Hz pa (lnN ls ka)) (db : DL Hz pb b)
    (hK : ∀ Hw, Le H Hw → K true Hw) : centolaw15_ResolveSteps.k4 K pa q0 pb i Hz := by
  unfold centolaw15_ResolveSteps.k4
  have dz := d.le lz
  have hat := atZ_of hu hka
  have el := hL.len
  have ep := hP.len
  have hks : ∀ k ∈ [lnN ls ka], 0 ≤ atZ ls k := fun k hk => by
    simp only [List.mem_singleton] at hk
    subst hk; rw [hat]; omega
  have sz : ∀ {lp' : Option Addr} {ll' lc' : Nat} {Hx : Hp}, Sn 4 lnC Hx lp' ll' lc' (wLs ls ls [lnN ls ka]) → ll' ≤ 200 := fun h => by have := h.len; rw [wLs_len] at this; omega
  have sz2 : ∀ {lp' : Option Addr} {ll' lc' : Nat} {Hx : Hp}, Sn 2 pairC Hx lp' ll' lc' (wPs ls ps []) → ll' ≤ 1000000000 := fun h => by have := h.len; rw [wPs_len] at this; simp at this; omega
  refine dz.get (ldI_i da.1 (ldI_i da.2 (resolve_Drop.c (hL.le lz) (hP.le lz) (hT.le lz) hll (by omega) ?_)))
  by_cases hd : plZ ls (lnN ls ka) = -1
  · have e : dropR (L f) ls (lnN ls ka) = (hk0, 14) := by unfold dropR; rw [if_pos hd]
    rw [e]
    refine fun Ha xa la _ _ => D4.mk fun p1 Hb _ d1 lb => bcd (fun _ => bcd (fun _ => ?_) fun h => absurd rfl h) fun h => absurd (by decide) h
    have lab := la.trans lb
    have dz := dz.le lab
    obtain ⟨b1, o1, rfl, hr⟩ := ((hL.le lz).le lab).at hka
    refine ldL_i dz.2.1 (ldL_i dz.2.1 (chk (by omega) ⟨dz.2.1, dz.2.1, by omega, idxN ka hi (by omega) (nil (ldB_i (hr ka hka 3 _ rfl) ?_))⟩))
    rw [plZ_dead hu hka hd]
    exact hK _ (lz.trans lab)
  have e : dropR (L f) ls (lnN ls ka) = (⟨L f, [], [], [lnN ls ka]⟩, 0) := by unfold dropR; rw [if_neg hd]
  rw [e]
  refine fun Ha xa la wa _ => D4.mk fun p1 Hb _ d1 lb => bcd (fun h => absurd rfl h) fun _ => ?_
  have lab := la.trans lb
  have wa := RdH.le wa lb
  have dz := dz.le lab
  have da := da.le lab
  have db := db.le lab
  have lzb := lz.trans lab
  have k5 : ∀ Hy, Le Hb Hy → centolaw15_ResolveSteps.k5 K pa q0 p1 pb 14 Hy := fun Hy ly => st5 hu d hL hP hT hll hpl hka (lzb.trans ly) (da.le ly) (db.le ly) (d1.le ly) (RdH.le wa ly) hK
  refine dz.get (d1.get (ldI_i da.1 (ldI_i da.2 ⟨?_, ?_⟩)))
  · refine centolaw15_with.c (hL.le lzb) (hP.le lzb) hll (by omega) wa ⟨by simp, by simp⟩ hks ?_
    intro lp' ll' lc' pp' pl' pc' H7 l7 hL' hP'
    have da := da.le l7
    have l7z := lzb.trans l7
    refine ⟨da.1, da.2, ?_, ?_⟩
    · refine resolve_Drop.c hL' hP' (hT.le l7z) (sz hL') (sz2 hP') ?_
      rw [dropR_kil hu hka]
      exact fun Ha xa' la _ _ => D4.mk fun p2 Hb _ d2 lb => k5 _ (l7.trans (la.trans lb))
    · refine newD4 fun p2 Ha hq de la => ?_
      have da := da.le la
      have l7a := l7z.trans la
      refine ⟨da.1, da.2, ?_⟩
      refine resolve_Drop.c (hL'.le la) (hP'.le la) (hT.le l7a) (sz hL') (sz2 hP') ?_
      rw [dropR_kil hu hka]
      exact fun Hb xb lb _ _ => put4h (de.le lb) fun Hc d2 m => k5 _ (m.le ((l7.trans la).trans lb) fun x hx => by simp at hx; subst hx; exact none_of_le l7 hq)
  · refine newD4 fun p2 Ha hq de la => ?_
    have da := da.le la
    have dz := dz.le la
    have d1 := d1.le la
    have lza := lzb.trans la
    refine ⟨da.1, da.2, d1.1, d1.2.1, d1.2.2.1, d1.2.2.2, dz.1, dz.2.1, dz.2.2, ?_⟩
    refine centolaw15_with.c (hL.le lza) (hP.le lza) hll (by omega) (RdH.le wa la) ⟨by simp, by simp⟩ hks ?_
    intro lp' ll' lc' pp' pl' pc' H7 l7 hL' hP'
    have da := da.le l7
    have l7z := lza.trans l7
    refine ⟨da.1, da.2, ?_⟩
    refine resolve_Drop.c hL' hP' (hT.le l7z) (sz hL') (sz2 hP') ?_
    rw [dropR_kil hu hka]
    exact fun Hb xb lb _ _ => put4h ((de.le l7).le lb) fun Hc d2 m => k5 _ (m.le ((la.trans l7).trans lb) fun x hx => by simp at hx; subst hx; exact hq)
theorem st2 {i : Int} (hu : Uq ls) (d : D3 H q0 f lp ll lc pp pl pc) (hL : Sn 4 lnC H lp ll lc ls) (hP : Sn 2 pairC H pp pl pc ps) (hT : Tz H) (hll : ll ≤ 200) (hpl : pl ≤ 1000) (hka : ka < ls.length) (hkb : kb < ls.length) (wi : 0 ≤ i ∧ i ≤ 255) (hi : Int.tmod i (ll : Int) = (ka : Int)) (lz : Le H Hz) (da : DL Hz pa (lnN ls ka)) (db : DL Hz pb (lnN ls kb))
    (hK : ∀ Hw, Le H Hw → K true Hw) : centolaw15_ResolveSteps.k2 K q0 i pa pb Hz := by
  unfold centolaw15_ResolveSteps.k2
  have dz := d.le lz
  have el := hL.len
  have ep := hP.len
  have k4 : ∀ Hy, Le Hz Hy → centolaw15_ResolveSteps.k4 K pa q0 pb i Hy := fun Hy ly => st4 hu d hL hP hT hll hpl hka wi hi (lz.trans ly) (da.le ly) (db.le ly) hK
  refine dz.get (ldI_i da.1 (ldI_i da.2 (ldI_i db.1 (ldI_i db.2 (resolve_Order.c (hL.le lz) (hP.le lz) (hT.le lz) hll (by omega) ?_)))))
  by_cases h14 : plZ ls (lnN ls ka) = -1 ∨ plZ ls (lnN ls kb) = -1 ∨ lnN ls ka = lnN ls kb
  · have e : ordR (L f) ls ps (lnN ls ka) (lnN ls kb) = (hk0, 14) := by unfold ordR; rw [if_pos h14]
    rw [e]
    exact fun Ha xa la _ _ => D4.mk fun p1 Hb _ d1 lb => bcd (fun h => absurd h (by decide)) fun _ => k4 _ (la.trans lb)
  by_cases hM : hasM (rM ls ps) (plZ ls (lnN ls ka)) (plZ ls (lnN ls kb)) = true
  · have e : ordR (L f) ls ps (lnN ls ka) (lnN ls kb) = (hk0, 20) := by unfold ordR; rw [if_neg h14, if_pos hM]
    rw [e]
    exact fun Ha xa la _ _ => D4.mk fun p1 Hb _ d1 lb => bcd (fun h => absurd h (by decide)) fun _ => k4 _ (la.trans lb)
  have e : ordR (L f) ls ps (lnN ls ka) (lnN ls kb) = (⟨L f, [], [⟨lnN ls ka, lnN ls kb⟩], []⟩, 0) := by unfold ordR; rw [if_neg h14, if_neg hM]
  rw [e]
  refine fun Ha xa la wa _ => D4.mk fun p1 Hb _ d1 lb => bcd (fun _ => ?_) fun h => absurd rfl h
  have lab := la.trans lb
  have wa := RdH.le wa lb
  have dz := dz.le lab
  have da := da.le lab
  have db := db.le lab
  have lzb := lz.trans lab
  have n1 : xa.al = 0 := wa.1.len
  have n3 : xa.kl = 0 := wa.2.2.len
  have two : ∀ {g : BL}, ordR g ls (wPs ls ps [⟨lnN ls ka, lnN ls kb⟩]) (lnN ls ka) (lnN ls kb) = (hk0, 20) := ordR_two hu hka hkb (fun h => h14 (.inl h)) (fun h => h14 (.inr (.inl h))) fun h => h14 (.inr (.inr h))
  have k3 : ∀ Hy, Le Hb Hy → centolaw15_ResolveSteps.k3 K pa q0 p1 pb i 20 Hy := fun Hy ly => by
    unfold centolaw15_ResolveSteps.k3
    have d1 := d1.le ly
    exact bcd (fun h => absurd rfl h) fun _ => ldL_i d1.2.2.2 (bcd (fun h => absurd (by rw [n3]; rfl) h) fun _ => ldL_i d1.2.1 (bcd (fun h => absurd (by rw [n1]; rfl) h) fun _ => k4 _ (lab.trans ly)))
  have sz2 : ∀ {lp' : Option Addr} {ll' lc' : Nat} {Hx : Hp}, Sn 2 pairC Hx lp' ll' lc' (wPs ls ps [⟨lnN ls ka, lnN ls kb⟩]) → ll' ≤ 1000000000 := fun h => by have := h.len; rw [wPs_len] at this; simp at this; omega
  have sz : ∀ {lp' : Option Addr} {ll' lc' : Nat} {Hx : Hp}, Sn 4 lnC Hx lp' ll' lc' ls → ll' ≤ 200 := fun h => by have := h.len; omega
  refine dz.get (d1.get (ldI_i da.1 (ldI_i da.2 (ldI_i db.1 (ldI_i db.2 ⟨?_, ?_⟩)))))
  · refine centolaw15_with.c (hL.le lzb) (hP.le lzb) hll (by omega) wa ⟨by simp, by simp⟩ (fun k hk => by cases hk) ?_
    intro lp' ll' lc' pp' pl' pc' H7 l7 hL' hP'
    have hL' : Sn 4 lnC H7 lp' ll' lc' ls := hL'
    have da := da.le l7
    have db := db.le l7
    have l7z := lzb.trans l7
    refine ⟨db.1, db.2, da.1, da.2, ?_, ?_⟩
    · refine resolve_Order.c hL' hP' (hT.le l7z) (sz hL') (sz2 hP') ?_
      rw [two]
      exact fun Ha xa' la _ _ => D4.mk fun p2 Hb _ d2 lb => k3 _ (l7.trans (la.trans lb))
    · refine newD4 fun p2 Ha hq de la => ?_
      have da := da.le la
      have db := db.le la
      have l7a := l7z.trans la
      refine ⟨db.1, db.2, da.1, da.2, ?_⟩
      refine resolve_Order.c (hL'.le la) (hP'.le la) (hT.le l7a) (sz hL') (sz2 hP') ?_
      rw [two]
      exact fun Hb xb lb _ _ => put4h (de.le lb) fun Hc d2 m => k3 _ (m.le ((l7.trans la).trans lb) fun x hx => by simp at hx; subst hx; exact none_of_le l7 hq)
  · refine newD4 fun p2 Ha hq de la => ?_
    have da := da.le la
    have db := db.le la
    have dz := dz.le la
    have d1 := d1.le la
    have lza := lzb.trans la
    refine ⟨db.1, db.2, da.1, da.2, d1.1, d1.2.1, d1.2.2.1, d1.2.2.2, dz.1, dz.2.1, dz.2.2, ?_⟩
    refine centolaw15_with.c (hL.le lza) (hP.le lza) hll (by omega) (RdH.le wa la) ⟨by simp, by simp⟩ (fun k hk => by cases hk) ?_
    intro lp' ll' lc' pp' pl' pc' H7 l7 hL' hP'
    have hL' : Sn 4 lnC H7 lp' ll' lc' ls := hL'
    have da := da.le l7
    have db := db.le l7
    have l7z := lza.trans l7
    refine ⟨db.1, db.2, da.1, da.2, ?_⟩
    refine resolve_Order.c hL' hP' (hT.le l7z) (sz hL') (sz2 hP') ?_
    rw [two]
    exact fun Hb xb lb _ _ => put4h ((de.le l7).le lb) fun Hc d2 m => k3 _ (m.le ((la.trans l7).trans lb) fun x hx => by simp at hx; subst hx; exact hq)
end
/-! ### Two blocks for two numbers, in every order -/
def T1 (H0 Hy : Hp) (q : Nat) (x : Lid) : Prop := H0 q = none ∧ DL Hy q x
def T2 (H0 Hy : Hp) (p : Nat) (x : Lid) (q : Nat) (y : Lid) : Prop := H0 p = none ∧ H0 q = none ∧ p ≠ q ∧ DL Hy p x ∧ DL Hy q y
section
variable {H0 Hy : Hp} {p q : Nat} {x y z : Lid}
theorem n1 {F : Nat → Hp → Prop} (l : Le H0 Hy) (hF : ∀ q H', Le H0 H' → T1 H0 H' q ⟨0, 0⟩ → F q H') : NEW Hy [.int .u32 (0 : Int), .int .i64 (0 : Int)] F := fun q hq => hF q _ (l.trans (Le.upd hq)) ⟨none_of_le l hq, DL.new (x := ⟨0, 0⟩)⟩
theorem n2 {F : Nat → Hp → Prop} (l : Le H0 Hy) (t : T1 H0 Hy p x) (hF : ∀ q H', Le H0 H' → T2 H0 H' p x q ⟨0, 0⟩ → F q H') : NEW Hy [.int .u32 (0 : Int), .int .i64 (0 : Int)] F := fun q hq =>
  hF q _ (l.trans (Le.upd hq)) ⟨t.1, none_of_le l hq, fun e => by subst e; have := t.2.1; simp [rd, hq] at this, t.2.le (Le.upd hq), DL.new (x := ⟨0, 0⟩)⟩
theorem stL {F : Hp → Prop} (h : DL Hy q x) (hF : ∀ H', DL H' q y → Mod [q] Hy H' → F H') : ST Hy q 0 (.int .u32 y.p) fun H1 => ST H1 q 1 (.int .i64 y.n) fun H2 => F H2 := by
  have r1 : rd (wr Hy q 0 (.int .u32 y.p)) q 1 = some (.int .i64 x.n) := by rw [rd_wr_off (by decide)]; exact h.2
  refine st h.1 (st r1 (hF _ ⟨?_, ?_⟩ ((Mod.refl.wr (.inl (by simp))).wr (.inl (by simp)))))
  · rw [rd_wr_off (by decide)]; exact rd_wr_self h.1
  · exact rd_wr_self r1
theorem DL.mod {O : List Nat} {b : Nat} (h : DL H0 b x) (m : Mod O H0 Hy) (hb : b ∉ O) : DL Hy b x := ⟨m.rd hb h.1, m.rd hb h.2⟩
theorem s1 {F : Hp → Prop} (l : Le H0 Hy) (t : T1 H0 Hy q x) (hF : ∀ H', Le H0 H' → T1 H0 H' q y → F H') : ST Hy q 0 (.int .u32 y.p) fun H1 => ST H1 q 1 (.int .i64 y.n) fun H2 => F H2 :=
  stL t.2 fun H' d m => hF H' (m.le l fun b hb => by simp at hb; subst hb; exact t.1) ⟨t.1, d⟩
theorem sp {F : Hp → Prop} (l : Le H0 Hy) (t : T2 H0 Hy p x q z) (hF : ∀ H', Le H0 H' → T2 H0 H' p y q z → F H') : ST Hy p 0 (.int .u32 y.p) fun H1 => ST H1 p 1 (.int .i64 y.n) fun H2 => F H2 :=
  stL t.2.2.2.1 fun H' d m => hF H' (m.le l fun b hb => by simp at hb; subst hb; exact t.1) ⟨t.1, t.2.1, t.2.2.1, d, t.2.2.2.2.mod m fun h => by simp at h; exact t.2.2.1 h.symm⟩
theorem sq {F : Hp → Prop} (l : Le H0 Hy) (t : T2 H0 Hy p x q z) (hF : ∀ H', Le H0 H' → T2 H0 H' p x q y → F H') : ST Hy q 0 (.int .u32 y.p) fun H1 => ST H1 q 1 (.int .i64 y.n) fun H2 => F H2 :=
  stL t.2.2.2.2 fun H' d m => hF H' (m.le l fun b hb => by simp at hb; subst hb; exact t.2.1) ⟨t.1, t.2.1, t.2.2.1, t.2.2.2.1.mod m fun h => by simp at h; exact t.2.2.1 h, d⟩
end
theorem st1 {ll lc : Nat} {H0 : Hp} {q0 ka kb lb lo : Nat} {i k : Int} {a b : Lid} {K : Bool → Hp → Prop} (rL : rd H0 q0 1 = some (.slice (some ⟨lb, lo, none⟩) ll lc)) (h0 : ¬ ((ll : Nat) : Int) = 0) (hka : ka < ll) (hkb : kb < ll) (wi : 0 ≤ i ∧ i ≤ 255) (wk : 0 ≤ k ∧ k ≤ 255) (hi : Int.tmod i (ll : Int) = (ka : Int)) (hk : Int.tmod k (ll : Int) = (kb : Int))
    (ra0 : rd H0 lb (lo + ka * 4) = some (.int .u32 a.p)) (ra1 : rd H0 lb ((lo + ka * 4) + 1) = some (.int .i64 a.n)) (rb0 : rd H0 lb (lo + kb * 4) = some (.int .u32 b.p)) (rb1 : rd H0 lb ((lo + kb * 4) + 1) = some (.int .i64 b.n))
    (leaf : ∀ pa pb Hy, Le H0 Hy → T2 H0 Hy pa a pb b → centolaw15_ResolveSteps.k2 K q0 i pa pb Hy) (leaf' : ∀ pa pb Hy, Le H0 Hy → T2 H0 Hy pb b pa a → centolaw15_ResolveSteps.k2 K q0 i pa pb Hy) : centolaw15_ResolveSteps.k1 K q0 i k H0 := by
  unfold centolaw15_ResolveSteps.k1
  have l0 : Le H0 H0 := Le.refl _
  repeat' (with_reducible first
    | exact leaf _ _ _ (by assumption) (by assumption)
    | exact leaf' _ _ _ (by assumption) (by assumption)
    | refine ⟨by (first | exact Le.rd (by assumption) rL | exact Le.rd (by assumption) ra0 | exact Le.rd (by assumption) ra1 | exact Le.rd (by assumption) rb0 | exact Le.rd (by assumption) rb1), ?_⟩
    | refine ⟨h0, ?_⟩
    | refine ⟨?_, ?_⟩
    | refine chk (by omega) ?_
    | refine idxN ka hi (by omega) ?_
    | refine idxN kb hk (by omega) ?_
    | refine nil ?_
    | refine ldL_i (by exact Le.rd (by assumption) rL) ?_
    | refine ldI_i (by (first | exact Le.rd (by assumption) ra0 | exact Le.rd (by assumption) ra1 | exact Le.rd (by assumption) rb0 | exact Le.rd (by assumption) rb1)) ?_
    | refine n2 (by assumption) (by assumption) ?_
    | refine n1 (by assumption) ?_
    | refine sp (by assumption) (by assumption) ?_
    | refine sq (by assumption) (by assumption) ?_
    | refine s1 (by assumption) (by assumption) ?_
    | intro _ _ _ _
    | intro _ _ _)
theorem resolveSteps_law {cs0 : List Value} {x0 : ByteArray × List ((Int × Int) × ByteArray × Bool) × List (Int × Int)} {i k : Int} {H : Hp} (s0 : fileE.rep H cs0 x0) (w1 : (Lit.int .u8 i).wf = true) (w2 : (Lit.int .u8 k).wf = true) (hT : Tz H) :
    CallH prog centolaw15_ResolveSteps.num [.agg ⟨cs0⟩, .int .u8 i, .int .u8 k] H fun v H' => liftB v fun r => r = true ∧ Le H H' := by
  obtain ⟨lp, ll, lc, pp, pl, pc, rfl, hL, hP, hml⟩ := fileE_rep s0
  generalize x0.2.1.map toLn = ls at hL
  generalize x0.2.2 = ps at hP
  generalize x0.1 = f
  have wi : 0 ≤ i ∧ i ≤ 255 := by simpa [Lit.wf, IntKind.min, IntKind.max, IntKind.signed, IntKind.bits] using w1
  have wk : 0 ≤ k ∧ k ≤ 255 := by simpa [Lit.wf, IntKind.min, IntKind.max, IntKind.signed, IntKind.bits] using w2
  show centolaw15_ResolveSteps.C f lp ll lc pp pl pc i k H fun r H' => r = true ∧ Le H H'
  apply centolaw15_ResolveSteps.of
  have e1 := hL.len
  have e2 := hP.len
  refine newD3 fun q0 H0 _ d l0 => ?_
  refine centolaw15_known.c (hT.le l0) fun H3 l3 => bcn (fun h => by cases h) fun _ => ?_
  have d := d.le l3
  have l0 := l0.trans l3
  refine d.get (centolaw15_few.c (hL.le l0) (hP.le l0) hml fun H4 l4 => bcn (fun _ => ⟨rfl, l0.trans l4⟩) fun f1 => ?_)
  obtain ⟨g1, g2, _⟩ := fewV_len f1
  have d := d.le l4
  have l0 := l0.trans l4
  refine d.get (centolaw15_right.c (hL.le l0) (by omega) fun H5 l5 => bcn (fun _ => ⟨rfl, l0.trans l5⟩) fun hr => ?_)
  have hu := uq_right hr
  have d := d.le l5
  have l0 := l0.trans l5
  refine ldL_i d.2.1 (bcd (fun _ => ⟨rfl, l0⟩) fun hne => ?_)
  have hi : Int.tmod i (ll : Int) = ((i.toNat % ll : Nat) : Int) := by
    have := Int.ofNat_tmod i.toNat ll
    rw [Int.toNat_of_nonneg wi.1] at this
    exact this.symm
  have hk : Int.tmod k (ll : Int) = ((k.toNat % ll : Nat) : Int) := by
    have := Int.ofNat_tmod k.toNat ll
    rw [Int.toNat_of_nonneg wk.1] at this
    exact this.symm
  have hla : i.toNat % ll < ll := Nat.mod_lt _ (by omega)
  have hlb : k.toNat % ll < ll := Nat.mod_lt _ (by omega)
  generalize i.toNat % ll = ka at hi hla
  generalize k.toNat % ll = kb at hk hlb
  have hka : ka < ls.length := by omega
  have hkb : kb < ls.length := by omega
  have hL5 := hL.le l0
  have hP5 := hP.le l0
  have hT5 := hT.le l0
  obtain ⟨lb, lo, rfl, hr5⟩ := hL5.at hka
  have na : lnN ls ka = lnId ls[ka] := lnN_at hka
  have nb : lnN ls kb = lnId ls[kb] := lnN_at hkb
  refine st1 (a := lnN ls ka) (b := lnN ls kb) d.2.1 hne hla hlb wi wk hi hk (by rw [na]; exact hr5 ka hka 0 _ rfl) (by rw [na]; exact hr5 ka hka 1 _ rfl) (by rw [nb]; exact hr5 kb hkb 0 _ rfl) (by rw [nb]; exact hr5 kb hkb 1 _ rfl) ?_ ?_
  · exact fun pa pb Hy ly t => st2 hu d hL5 hP5 hT5 (by omega) (by omega) hka hkb wi hi ly t.2.2.2.1 t.2.2.2.2 fun Hw lw => ⟨rfl, l0.trans lw⟩
  · exact fun pa pb Hy ly t => st2 hu d hL5 hP5 hT5 (by omega) (by omega) hka hkb wi hi ly t.2.2.2.2 t.2.2.2.1 fun Hw lw => ⟨rfl, l0.trans lw⟩

theorem resolveSteps_own : ownKnob Tryd.prog.godebug = none := by kernel_rfl
theorem resolveSteps_laid : laidOutB Tryd.prog = true := by kernel_rfl
set_option maxRecDepth 100000 in
theorem resolveSteps_lifted (os : Os) (started : os.Started) (H : Type) (enc : TypeId × Value → H) :
    ReturnsInHanded {} Tryd.checked os 5 .any (fun w args => (Rows.resolveStepsSpec.pre enc Tryd.prog Tryd.f5 [] false w args ∧ laidMetH Tryd.prog laidTz w) ∧ sizedMet enc Tryd.prog Tryd.f5 (OpenSpec.ofChange Rows.resolveStepsSpec) false w args)
      (Rows.resolveStepsSpec.post enc Tryd.prog Tryd.f5 false true false false) := by
  refine returnsInHanded_of_change_and (C := Tryd.checked) (X := fun w _ => laidMetH Tryd.prog laidTz w) (fun _ _ _ hh h => h.of_heap hh) resolveSteps_own started (by kernel_rfl) Tryd.func5
    (ChangeSpec.witness_shaped (enc := enc) (C := Tryd.checked) (os := os) (X := fun w _ => laidMetH Tryd.prog laidTz w) false (World.doorLaid Tryd.prog 400 os) #[.agg #[.string .empty, .slice none 0 0, .slice none 0 0], .int .u8 0, .int .u8 0] 8 rfl (World.shaped_of_RefB (by kernel_rfl) (by kernel_rfl)) (by kernel_rfl) (by kernel_rfl) (by kernel_rfl) (door_met os _)) ?_
  intro W base args ds gs before hval0 hW _ _ hL _
  have hval : ∀ (j : Nat) t v, Tryd.f5.params[j]? = some t → args[j]? = some v → Value.okWide Tryd.prog W .any base t v := hval0
  have hW' := hW
  obtain ⟨p, q, hA0, hV, rfl, hfz, hnd⟩ := hW
  have hA : DataW.TrodAll enc Tryd.prog W 0 (fun _ => true) true Tryd.f5.params.toList args.toList ds p := hA0
  rw [Tryd.params5] at hA hval
  obtain ⟨v0, v1, v2, d0, d1, d2, p0, p1, p2, rfl, rfl, rfl, h0, h1, h2⟩ := trodAll_three hA
  obtain ⟨cs0, x0, rfl, s0⟩ := openSt Tryd.underlying25 (opens_st Tryd.underlying25 (by kernel_rfl) (opensF_cons rfl (opens_str Tryd.underlying9 (by kernel_rfl)) rfl (opensF_cons rfl (opens_sl (by decide) Tryd.underlying22 (by kernel_rfl) (opens_st Tryd.underlying53 (by kernel_rfl) (opensF_cons rfl (opens_st Tryd.underlying28 (by kernel_rfl) (opensF_cons rfl (opens_int Tryd.underlying26 (by kernel_rfl)) rfl (opensF_one rfl (opens_int Tryd.underlying3 (by kernel_rfl))))) rfl (opensF_cons rfl (opens_str Tryd.underlying9 (by kernel_rfl)) rfl (opensF_one rfl (opens_bool Tryd.underlying4 (by kernel_rfl))))))) rfl (opensF_one rfl (opens_sl (by decide) Tryd.underlying23 (by kernel_rfl) (opens_st Tryd.underlying77 (by kernel_rfl) (opensF_cons rfl (opens_int Tryd.underlying3 (by kernel_rfl)) rfl (opensF_one rfl (opens_int Tryd.underlying3 (by kernel_rfl)))))))))) (hval 0 25 v0 rfl rfl) h0 (fun x hx => by simp [hx]) hfz
  obtain ⟨x1, rfl, rfl, rfl, w1⟩ := open_int Tryd.underlying5 (hval 1 5 v1 rfl rfl) h1
  obtain ⟨x2, rfl, rfl, rfl, w2⟩ := open_int Tryd.underlying5 (hval 2 5 v2 rfl rfl) h2
  refine (calls_true (resolveSteps_law s0 w1 w2 (tz_of_laid hL)) Tryd.func5 (by kernel_rfl)).mono fun e W' ⟨he, hk⟩ => ?_
  subst he
  exact ⟨_, rfl, post_true resolveSteps_laid hW' (by kernel_rfl) rfl rfl rfl Tryd.underlying4 hk⟩

theorem resolveSteps_row : Rows.ResolveStepsSaid :=
  OpenClaim.holds_of_wide 5 Tryd.f5 rfl rfl rfl rfl rfl rfl rfl ⟨rfl, rfl, rfl, rfl, rfl⟩ rfl rfl rfl rfl rfl (by kernel_rfl) Tryd.func5 (by kernel_rfl)
    (of_decide_eq_true (by kernel_rfl)) (by unfold Func.isWrapper; first | (rw [if_pos (by decide +kernel)]; kernel_rfl) | (rw [if_neg (by decide +kernel)]; exact ⟨rfl, rfl⟩))
    (fun os started H enc _ => resolveSteps_lifted os started H enc)

theorem resolveSteps_card : Rows.ResolveStepsCardSaid :=
  Claim7.holds_tied_plain_at .later [] [.data] true (true, "1742c24b9215d7ca8645109c8f16d9e845d7caad132e2324de6df02b83e6f8a9") false
    resolveSteps_row (fun _ h => by cases h) (by kernel_rfl) (fun _ h => by cases h) resolveSteps_row_tie rfl ⟨rfl, rfl⟩ (by kernel_rfl) rfl
    (fun f fn hf hfn => by
      obtain rfl : f = 5 := Option.some.inj ((show Tryd.prog.funcNamed Rows.resolveStepsRow.func = some 5 by kernel_rfl).symm.trans hf) |>.symm
      obtain rfl : fn = Tryd.f5 := (Option.some.inj (Tryd.func5.symm.trans hfn)).symm
      exact ⟨by kernel_rfl, fun j t ht => by
        rw [Tryd.params5] at ht
        have hm : t ∈ [5, 25] := by
          have := Array.mem_of_getElem? ht
          simp at this
          first | (rcases this with rfl | rfl | rfl <;> simp) | simp [this]
        have hall : ([5, 25].all fun u => !Tryd.prog.wantsStandIn u) = true := by kernel_rfl
        exact (show Tryd.prog.wantsStandIn t = false by simpa using List.all_eq_true.1 hall t hm)⟩)
    (by kernel_rfl)
end Go.Proofs.YtganockeifkecaaDoor
