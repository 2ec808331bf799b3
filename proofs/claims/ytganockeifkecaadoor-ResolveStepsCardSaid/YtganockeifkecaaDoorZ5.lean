/- Contracts and plain laws that the claim rests on, for every input: no condition. -/
import Derived.Test.YtganockeifkecaaDoorZ4
namespace Go.Proofs.YtganockeifkecaaDoor
open Go.V
/-! ### The relation of what is alive -/
def cM (ls : List Ln) (ps : List (Int × Int)) : Nat → Nat → Bool := clo (ofM ps ls.length) ls.length
def rM (ls : List Ln) (ps : List (Int × Int)) : Nat → Nat → Bool := fun x y => decide (x < (alv ls).length ∧ y < (alv ls).length) && cM ls ps ((alv ls).getD x 0) ((alv ls).getD y 0)
def rmTo (ls : List Ln) (ps : List (Int × Int)) (a b : Nat) : Nat → Nat → Bool := fun x y => rM ls ps x y && decide (x < a ∨ x = a ∧ y < b)
section
variable {f : ByteArray} {lp pp : Option Addr} {ll lc pl pc : Nat} {ls : List Ln} {ps : List (Int × Int)} {H : Hp}
theorem cM_sup : Sup (cM ls ps) ls.length := clo_sup (ofM_sup _ _)
theorem cM_tr : Tr (cM ls ps) := clo_tr (ofM_sup _ _)
theorem rM_sup : Sup (rM ls ps) (alv ls).length := fun x y h => by unfold rM; rw [decide_eq_false (by omega), Bool.false_and]
theorem rM_tr : Tr (rM ls ps) := fun x y z h1 h2 => by
  unfold rM at *
  rw [Bool.and_eq_true, decide_eq_true_eq] at *
  exact ⟨by omega, cM_tr _ _ _ h1.2 h2.2⟩
theorem alv_lt {i : Nat} (h : i < (alv ls).length) : (alv ls)[i] < ls.length := (els_mem.1 (List.getElem_mem h)).1
theorem alv_len : (alv ls).length ≤ ls.length := els_len_le _ _
theorem rmTo_on {a b : Nat} (ha : a < (alv ls).length) (hb : b < (alv ls).length) (h : cM ls ps (alv ls)[a] (alv ls)[b] = true) : addM (rmTo ls ps a b) (alv ls).length (a : Nat) (b : Nat) = rmTo ls ps a (b + 1) := by
  funext x y
  unfold addM rmTo
  rw [Bool.eq_iff_iff, Bool.or_eq_true, Bool.and_eq_true, Bool.and_eq_true, decide_eq_true_eq, decide_eq_true_eq, decide_eq_true_eq]
  constructor
  · rintro (⟨h1, h2⟩ | h1)
    · exact ⟨h1, by omega⟩
    · have hx : x = a := by omega
      have hy : y = b := by omega
      subst hx; subst hy
      refine ⟨?_, by omega⟩
      unfold rM
      rw [decide_eq_true ⟨ha, hb⟩, Bool.true_and]
      simpa [List.getD, ha, hb] using h
  · rintro ⟨h1, h2⟩
    by_cases e : x = a ∧ y = b
    · right; omega
    · left; exact ⟨h1, by omega⟩
theorem rmTo_off {a b : Nat} (ha : a < (alv ls).length) (hb : b < (alv ls).length) (h : cM ls ps (alv ls)[a] (alv ls)[b] = false) : rmTo ls ps a (b + 1) = rmTo ls ps a b := by
  funext x y
  unfold rmTo
  rw [Bool.eq_iff_iff, Bool.and_eq_true, Bool.and_eq_true, decide_eq_true_eq, decide_eq_true_eq]
  constructor
  · rintro ⟨h1, h2⟩
    refine ⟨h1, ?_⟩
    by_cases e : x = a ∧ y = b
    · exfalso
      obtain ⟨rfl, rfl⟩ := e
      unfold rM at h1
      rw [Bool.and_eq_true] at h1
      have := h1.2
      rw [show (alv ls).getD x 0 = (alv ls)[x] by simp [List.getD, ha], show (alv ls).getD y 0 = (alv ls)[y] by simp [List.getD, hb], h] at this
      cases this
    · omega
  · rintro ⟨h1, h2⟩
    exact ⟨h1, by omega⟩
theorem rmTo_row {a : Nat} : rmTo ls ps a (alv ls).length = rmTo ls ps (a + 1) 0 := by
  funext x y
  unfold rmTo
  rw [Bool.eq_iff_iff, Bool.and_eq_true, Bool.and_eq_true, decide_eq_true_eq, decide_eq_true_eq]
  constructor
  · rintro ⟨h1, h2⟩; exact ⟨h1, by omega⟩
  · rintro ⟨h1, h2⟩
    refine ⟨h1, ?_⟩
    unfold rM at h1
    rw [Bool.and_eq_true, decide_eq_true_eq] at h1
    omega
theorem rmTo_all : rmTo ls ps (alv ls).length 0 = rM ls ps := by
  funext x y
  unfold rmTo
  rw [Bool.eq_iff_iff, Bool.and_eq_true, decide_eq_true_eq]
  constructor
  · exact fun h => h.1
  · intro h
    refine ⟨h, ?_⟩
    unfold rM at h
    rw [Bool.and_eq_true, decide_eq_true_eq] at h
    omega
theorem view_Alive.c {K : Option Addr → Nat → Nat → Option Addr → Hp → Prop} (hL : Sn 4 lnC H lp ll lc ls) (hP : Sn 2 pairC H pp pl pc ps) (hT : Tz H) (hll : ll ≤ 200) (hpl : pl ≤ 1000000000)
    (hK : ∀ p l c R O H', Sl iv H' p l c (alv ls) → New H p → RLO H' R O (alv ls).length (rM ls ps) → (∀ b ∈ O, H b = none) → Le H H' → K p l c (some ⟨R, 0, none⟩) H') : view_Alive.C f lp ll lc pp pl pc H K := by
  apply view_Alive.of
  have el := hL.len
  have ep := hP.len
  intro b hb
  have d : D3 (upd H b [.string f, .slice lp ll lc, .slice pp pl pc]) b f lp ll lc pp pl pc := D3.new
  have le1 : Le H (upd H b [.string f, .slice lp ll lc, .slice pp pl pc]) := Le.upd hb
  generalize upd H b [.string f, .slice lp ll lc, .slice pp pl pc] = H1 at *
  refine ldL_i d.2.1 (rel_New.c (hT.le le1) fun R O H2 u2 hO le2 => ?_)
  rw [el, show (min (max ((ls.length : Nat) : Int) 0) 200).toNat = ls.length by omega] at u2
  refine ldL_i (d.le le2).2.2 ?_
  have le02 := le1.trans le2
  have d2 := d.le le2
  refine ⟨fun t Hx => ∃ i : Nat, t = (i : Nat) ∧ i ≤ pl ∧ Le H1 Hx ∧ RLO Hx R O ls.length (ofM (ps.take i) ls.length), fun t _ => ((pl : Int) - t).toNat,
    ⟨0, rfl, Nat.zero_le _, le2, u2.congr fun x y => by simp [ofM]⟩, ?_⟩
  rintro t H3 ⟨i, rfl, gi, le3, u3⟩
  refine bcd (fun hlt => ?_) fun hlt => ?_
  · have hil : i < ps.length := by omega
    refine snP (hP.le (le1.trans le3)) (by omega) hlt fun _ => ?_
    simp only [Int.toNat_natCast]
    intro t ht
    refine ST_upd rfl (ST_upd rfl ?_)
    generalize hH4 : upd H3 t _ = H4
    have le4 : Le H3 H4 := by rw [← hH4]; exact Le.upd ht
    have t0 : rd H4 t 0 = some (.int .i64 ps[i].1) := by rw [← hH4, rd_upd_self]; rfl
    have t1 : rd H4 t 1 = some (.int .i64 ps[i].2) := by rw [← hH4, rd_upd_self]; rfl
    clear hH4
    refine ldI_i t0 (ldI_i t1 (rel_Rel_Add.c (u3.le le4) fun H5 u5 m5 => ?_))
    refine chk (by omega) ⟨⟨i + 1, by omega, by omega, m5.le (le3.trans le4) hO, ?_⟩, by first | omega | (dsimp only; omega)⟩
    rw [List.take_succ_eq_append_getElem hil, ofM_snoc]
    exact u5
  · rw [List.take_of_length_le (by omega)] at u3
    refine rel_Rel_Closure.c u3 fun R' O' H4 u4 _ le4 => ?_
    have le14 := le3.trans le4
    refine (d.le le14).get (state_Alive.c (hL.le (le1.trans le14)) (by omega) fun p l c H5 hB5 le5 => ?_)
    have le15 := le14.trans le5
    have S5 := hB5.sl
    have sl := S5.len
    have ha := alv_len (ls := ls)
    refine rel_New.c (hT.le (le1.trans le15)) fun R2 O2 H6 u6 hO2 le6 => ?_
    rw [sl, show (min (max (((alv ls).length : Nat) : Int) 0) 200).toNat = (alv ls).length by omega] at u6
    have uc := (u4.le le5).le le6
    have S6 := S5.le le6
    have le16 := le15.trans le6
    have hO2H : ∀ x ∈ O2, H5 x = none := hO2
    refine ⟨fun t Hx => ∃ i : Nat, t = (i : Nat) ∧ i ≤ l ∧ Le H5 Hx ∧ RLO Hx R2 O2 (alv ls).length (rmTo ls ps i 0), fun t _ => ((l : Int) - t).toNat,
      ⟨0, rfl, Nat.zero_le _, le6, u6.congr fun x y => by unfold rmTo; rw [decide_eq_false (by omega), Bool.and_false]⟩, ?_⟩
    rintro t H7 ⟨i, rfl, gi, le7, u7⟩
    refine bcd (fun hlt => ?_) fun hlt => ?_
    · have hil : i < (alv ls).length := by omega
      refine slI (S5.le le7) (fun _ => rfl) (by omega) hlt fun _ => ?_
      simp only [Int.toNat_natCast]
      refine ⟨fun t Hx => ∃ j : Nat, t = (j : Nat) ∧ j ≤ l ∧ Le H5 Hx ∧ RLO Hx R2 O2 (alv ls).length (rmTo ls ps i j), fun t _ => ((l : Int) - t).toNat, ⟨0, rfl, Nat.zero_le _, le7, u7⟩, ?_⟩
      rintro t H8 ⟨j, rfl, gj, le8, u8⟩
      refine bcd (fun hlt' => ?_) fun hlt' => ?_
      · have hjl : j < (alv ls).length := by omega
        refine slI (S5.le le8) (fun _ => rfl) (by omega) hlt' fun _ => ?_
        simp only [Int.toNat_natCast]
        refine rel_Rel_Has.c ((u4.le le5).le le8) ?_
        have hh : hasM (clo (ofM ps ls.length) ls.length) (((alv ls)[i] : Nat) : Int) (((alv ls)[j] : Nat) : Int) = cM ls ps (alv ls)[i] (alv ls)[j] := by
          unfold hasM cM
          rw [decide_eq_true ⟨by omega, by omega⟩, Bool.true_and, Int.toNat_natCast, Int.toNat_natCast]
        rw [hh]
        refine bc_i (fun h => rel_Rel_Add.c u8 fun H9 u9 m9 => ?_) fun h => ?_
        · rw [rmTo_on hil hjl h] at u9
          exact chk (by omega) ⟨⟨j + 1, by omega, by omega, m9.le le8 hO2H, u9⟩, by first | omega | (dsimp only; omega)⟩
        · rw [← rmTo_off hil hjl h] at u8
          exact chk (by omega) ⟨⟨j + 1, by omega, by omega, le8, u8⟩, by first | omega | (dsimp only; omega)⟩
      · have : j = (alv ls).length := by omega
        subst this
        rw [rmTo_row] at u8
        exact chk (by omega) ⟨⟨i + 1, by omega, by omega, le8, u8⟩, by first | omega | (dsimp only; omega)⟩
    · have : i = (alv ls).length := by omega
      subst this
      rw [rmTo_all] at u7
      exact hK p l c R2 O2 H7 (S5.le le7) (fun x o e => none_of_le (le1.trans le14) (hB5.fr x o e)) u7 (fun x hx => none_of_le (le1.trans le15) (hO2 x hx)) ((le1.trans le15).trans le7)
end
end Go.Proofs.YtganockeifkecaaDoor
namespace Go.Proofs.YtganockeifkecaaDoor
open Go.V
/-! ### The mark; the document's relation -/
def apartM (M : Nat → Nat → Bool) (n i : Nat) : Bool := (List.range n).any fun k => decide (k ≠ i) && (!M i k && !M k i)
def markM (M : Nat → Nat → Bool) (n i : Nat) : Int := if M i i then 33 else if apartM M n i then 63 else 32
theorem view_mark.c {R n i : Nat} {M : Nat → Nat → Bool} {O : List Nat} {H : Hp} {K : Int → Hp → Prop} (hu : RLO H R O n M) (hK : K (markM M n i) H) : view_mark.C (some ⟨R, 0, none⟩) (i : Nat) H K := by
  apply view_mark.of
  have hlim := hu.lim
  have hh : ∀ a b : Nat, hasM M (a : Int) (b : Int) = M a b := fun a b => by
    unfold hasM; rw [decide_eq_true ⟨by omega, by omega⟩, Bool.true_and, Int.toNat_natCast, Int.toNat_natCast]
  unfold markM at hK
  refine rel_Rel_Has.c hu ?_
  rw [hh]
  refine bc_i (fun h => ?_) fun h => ?_
  · rw [h, if_pos rfl] at hK; exact hK
  rw [h, if_neg (by simp)] at hK
  refine rel_Rel_Len.c hu ?_
  refine ⟨fun t Hx => ∃ k : Nat, t = (k : Nat) ∧ k ≤ n ∧ Hx = H ∧ apartM M k i = false, fun t _ => ((n : Int) - t).toNat, ⟨0, rfl, Nat.zero_le _, rfl, rfl⟩, ?_⟩
  rintro t Hx ⟨k, rfl, gk, rfl, hk⟩
  have hs : apartM M (k + 1) i = (apartM M k i || (decide (k ≠ i) && (!M i k && !M k i))) := by
    unfold apartM; rw [List.range_succ, List.any_append]; simp
  rw [hk, Bool.false_or] at hs
  refine bcd (fun hlt => ?_) fun hlt => ?_
  · have next : (decide (k ≠ i) && (!M i k && !M k i)) = false → CHK .i64 ((k : Int) + 1) fun x => (∃ k' : Nat, x = (k' : Nat) ∧ k' ≤ n ∧ Hx = Hx ∧ apartM M k' i = false) ∧ ((n : Int) - x).toNat < ((n : Int) - (k : Int)).toNat := fun h =>
      chk (by omega) ⟨⟨k + 1, by omega, by omega, rfl, hs.trans h⟩, by omega⟩
    refine bcd (fun hne => ?_) fun hne => next (by rw [decide_eq_false (by omega)]; rfl)
    refine rel_Rel_Has.c hu ?_
    rw [hh]
    refine bcn (fun h1 => ?_) fun h1 => next (by rw [h1]; simp)
    refine rel_Rel_Has.c hu ?_
    rw [hh]
    refine bcn (fun h2 => ?_) fun h2 => next (by rw [h2]; simp)
    have ha : apartM M n i = true := List.any_eq_true.2 ⟨k, List.mem_range.2 (by omega), by rw [h1, h2, decide_eq_true (by omega)]; rfl⟩
    rw [ha, if_pos rfl] at hK; exact hK
  · have : k = n := by omega
    subst this
    rw [hk, if_neg (by simp)] at hK; exact hK
end Go.Proofs.YtganockeifkecaaDoor
namespace Go.Proofs.YtganockeifkecaaDoor
open Go.V
/-! ### The document's relation of what is alive -/
section
variable {f : ByteArray} {lp pp : Option Addr} {ll lc pl pc : Nat} {ls : List Ln} {ps : List (Int × Int)} {H : Hp}
theorem rmTo_set {a b : Nat} (ha : a < (alv ls).length) (hb : b < (alv ls).length) (x y : Nat) : rmTo ls ps a (b + 1) x y = if x = a ∧ y = b then cM ls ps (alv ls)[a] (alv ls)[b] else rmTo ls ps a b x y := by
  by_cases e : x = a ∧ y = b
  · rw [if_pos e]
    obtain ⟨rfl, rfl⟩ := e
    unfold rmTo rM
    rw [decide_eq_true ⟨ha, hb⟩, decide_eq_true (by omega), Bool.true_and, Bool.and_true]
    simp [List.getD, ha, hb]
  · rw [if_neg e]
    unfold rmTo
    rw [show decide (x < a ∨ x = a ∧ y < b + 1) = decide (x < a ∨ x = a ∧ y < b) from decide_eq_decide.2 (by omega)]
theorem centoref12_rel.c {K : Option Addr → Option Addr → Nat → Nat → Hp → Prop} (hL : Sn 4 lnC H lp ll lc ls) (hP : Sn 2 pairC H pp pl pc ps) (hll : ll ≤ 200) (hpl : pl ≤ 1000000000)
    (hK : ∀ p l c m O H', Sl iv H' p l c (alv ls) → RFO H' m O (alv ls).length (rM ls ps) → (∀ b ∈ O, H b = none) → Le H H' → K (some ⟨m, 0, none⟩) p l c H') : centoref12_rel.C f lp ll lc pp pl pc H K := by
  apply centoref12_rel.of
  have el := hL.len
  have ep := hP.len
  intro b hb
  have d : D3 (upd H b [.string f, .slice lp ll lc, .slice pp pl pc]) b f lp ll lc pp pl pc := D3.new
  have le1 : Le H (upd H b [.string f, .slice lp ll lc, .slice pp pl pc]) := Le.upd hb
  generalize upd H b [.string f, .slice lp ll lc, .slice pp pl pc] = H1 at *
  refine d.get (centoref12_Alive.c (hL.le le1) (by omega) fun p l c H2 hB2 le2 => ?_)
  have S2 := hB2.sl
  have sl := S2.len
  have ha := alv_len (ls := ls)
  refine ldL_i (d.le le2).2.1 (ldL_i (d.le le2).2.2 (centoref2_Some.c (hP.le (le1.trans le2)) (by omega) fun R O H3 u3 _ le3 => ?_))
  rw [el, show (max 0 (min ((ls.length : Nat) : Int) 200)).toNat = ls.length by omega] at u3
  refine centoref2_Rel_Closure.c u3 fun R' O' H4 u4 _ le4 => ?_
  refine centoref2_New.c fun m O2 H5 u5 hO2 le5 => ?_
  rw [sl, show (max 0 (min (((alv ls).length : Nat) : Int) 200)).toNat = (alv ls).length by omega] at u5
  have le25 := (le3.trans le4).trans le5
  have le05 := (le1.trans le2).trans le25
  have S5 := S2.le (le3.trans le4)
  have S5' := S2.le le25
  refine ⟨fun t Hx => ∃ i : Nat, t = (i : Nat) ∧ i ≤ l ∧ Le H4 Hx ∧ RFO Hx m O2 (alv ls).length (rmTo ls ps i 0), fun t _ => ((l : Int) - t).toNat,
    ⟨0, rfl, Nat.zero_le _, le5, u5.congr fun x y => by unfold rmTo; rw [decide_eq_false (by omega), Bool.and_false]⟩, ?_⟩
  rintro t H7 ⟨i, rfl, gi, le7, u7⟩
  refine bcd (fun hlt => ?_) fun hlt => ?_
  · have hil : i < (alv ls).length := by omega
    refine ⟨fun t Hx => ∃ j : Nat, t = (j : Nat) ∧ j ≤ l ∧ Le H4 Hx ∧ RFO Hx m O2 (alv ls).length (rmTo ls ps i j), fun t _ => ((l : Int) - t).toNat, ⟨0, rfl, Nat.zero_le _, le7, u7⟩, ?_⟩
    rintro t H8 ⟨j, rfl, gj, le8, u8⟩
    refine bcd (fun hlt' => ?_) fun hlt' => ?_
    · have hjl : j < (alv ls).length := by omega
      obtain ⟨B, bs, hOe, v8⟩ := u8
      obtain ⟨q, cc, g1, _, g3⟩ := v8.hm
      obtain rfl := g3.resolve_left (by omega)
      obtain ⟨B4, bs4, _, v4⟩ := u4.le le8
      obtain ⟨q4, cc4, k1, _, k3⟩ := v4.hm
      have h1 := alv_lt hil
      have h2 := alv_lt hjl
      obtain rfl := k3.resolve_left (by omega)
      have S8 := S5.le le8
      refine nil (ldL_i (by rw [Nat.zero_add]; exact g1) (idxN i rfl hil (nil (ldL_i (by rw [Nat.zero_add]; exact v8.ptr i (by rw [v8.lb]; exact hil)) ?_))))
      refine nil (ldL_i (by rw [Nat.zero_add]; exact k1) ?_)
      refine slI S8 (fun _ => rfl) (by omega) hlt fun _ => ?_
      simp only [Int.toNat_natCast]
      refine idxN (alv ls)[i] rfl h1 (nil (ldL_i (by rw [Nat.zero_add]; exact v4.ptr (alv ls)[i] (by rw [v4.lb]; exact h1)) ?_))
      refine slI S8 (fun _ => rfl) (by omega) hlt' fun _ => ?_
      simp only [Int.toNat_natCast]
      refine idxN (alv ls)[j] rfl h2 (nil (ldB_i (by rw [Nat.zero_add]; exact v4.row (alv ls)[i] (by rw [v4.lb]; exact h1) (alv ls)[j] h2) ?_))
      refine idxN j rfl hjl (nil (st0 (v8.row i (by rw [v8.lb]; exact hil) j hjl) ?_))
      have hset := v8.set hil hjl (v := cM ls ps (alv ls)[i] (alv ls)[j])
      have mw : Mod (m :: B :: bs) H8 (wr H8 (bs[i]'(by rw [v8.lb]; exact hil)) j (.bool (cM ls ps (alv ls)[i] (alv ls)[j]))) := Mod.refl.wr (.inl (by simp))
      refine chk (by omega) ⟨⟨j + 1, by omega, by omega, mw.le le8 (by rw [← hOe]; exact hO2), ?_⟩, by first | omega | (dsimp only; omega)⟩
      exact RFO.congr ⟨B, bs, hOe, hset⟩ (rmTo_set hil hjl)
    · have : j = (alv ls).length := by omega
      subst this
      rw [rmTo_row] at u8
      exact chk (by omega) ⟨⟨i + 1, by omega, by omega, le8, u8⟩, by first | omega | (dsimp only; omega)⟩
  · have : i = (alv ls).length := by omega
    subst this
    rw [rmTo_all] at u7
    have le24 := le3.trans le4
    exact hK p l c m O2 H7 (S5.le le7) u7 (fun x hx => none_of_le ((le1.trans le2).trans le24) (hO2 x hx)) (((le1.trans le2).trans le24).trans le7)
end
end Go.Proofs.YtganockeifkecaaDoor
namespace Go.Proofs.YtganockeifkecaaDoor
open Go.V
/-! ### Is it linear? -/
section
variable {f : ByteArray} {lp pp : Option Addr} {ll lc pl pc : Nat} {ls : List Ln} {ps : List (Int × Int)} {H : Hp}
theorem clo_rM : clo (rM ls ps) (alv ls).length = rM ls ps := clo_of_tr rM_sup rM_tr
def linB (ls : List Ln) (ps : List (Int × Int)) : Bool := totB (rM ls ps) (alv ls).length
theorem view_Linear.c {K : Bool → Hp → Prop} (hL : Sn 4 lnC H lp ll lc ls) (hP : Sn 2 pairC H pp pl pc ps) (hT : Tz H) (hll : ll ≤ 200) (hpl : pl ≤ 1000000000) (hK : ∀ H', Le H H' → K (linB ls ps) H') : view_Linear.C f lp ll lc pp pl pc H K := by
  apply view_Linear.of
  intro b hb
  have d : D3 (upd H b [.string f, .slice lp ll lc, .slice pp pl pc]) b f lp ll lc pp pl pc := D3.new
  have le1 : Le H (upd H b [.string f, .slice lp ll lc, .slice pp pl pc]) := Le.upd hb
  generalize upd H b [.string f, .slice lp ll lc, .slice pp pl pc] = H1 at *
  refine d.get (view_Alive.c (hL.le le1) (hP.le le1) (hT.le le1) hll hpl fun p l c R O H2 _ _ u2 _ le2 => ?_)
  have := u2.lim
  refine order_IsTotal.c (.inr ⟨R, O, rfl, u2⟩) this fun H3 le3 => ?_
  rw [clo_rM]
  exact hK H3 ((le1.trans le2).trans le3)
theorem centoref12_Linear.c {K : Bool → Hp → Prop} (hL : Sn 4 lnC H lp ll lc ls) (hP : Sn 2 pairC H pp pl pc ps) (hll : ll ≤ 200) (hpl : pl ≤ 1000000000) (hK : ∀ H', Le H H' → K (linB ls ps) H') : centoref12_Linear.C f lp ll lc pp pl pc H K := by
  apply centoref12_Linear.of
  intro b hb
  have d : D3 (upd H b [.string f, .slice lp ll lc, .slice pp pl pc]) b f lp ll lc pp pl pc := D3.new
  have le1 : Le H (upd H b [.string f, .slice lp ll lc, .slice pp pl pc]) := Le.upd hb
  generalize upd H b [.string f, .slice lp ll lc, .slice pp pl pc] = H1 at *
  refine d.get (centoref12_rel.c (hL.le le1) (hP.le le1) hll hpl fun p l c m O H2 _ u2 _ le2 => ?_)
  exact centoref2_Rel_IsTotal.c u2 (hK H2 (le1.trans le2))
end
end Go.Proofs.YtganockeifkecaaDoor
namespace Go.Proofs.YtganockeifkecaaDoor
open Go.V
/-! ### The row of a closed relation: all, once, in order -/
theorem cidx_one {M : Nat → Nat → Bool} (hT : Tr M) {n x y : Nat} (hx : x < n) (hy : y < n) : cidx M n x = cidx M n y ↔ oneM M x y = true := by
  rw [← hdOf_one hT]
  constructor
  · intro e
    have h1 := cidx_get hT hx
    have h2 := cidx_get hT hy
    rw [← h1, ← h2]
    congr 1
  · intro e; unfold cidx; rw [e]
theorem sum_add1 {g : Nat → Nat} {a : Nat} : ∀ T, ((List.range T).map fun t => g t + if a = t then 1 else 0).sum = ((List.range T).map g).sum + if a < T then 1 else 0
  | 0 => by simp
  | T + 1 => by
    rw [List.range_succ, List.map_append, List.map_append, List.sum_append, List.sum_append, sum_add1 T]
    simp only [List.map_cons, List.map_nil, List.sum_cons, List.sum_nil]
    by_cases h : a < T
    · rw [if_pos h, if_neg (by omega), if_pos (by omega)]; omega
    · by_cases e : a = T
      · rw [if_neg h, if_pos e, if_pos (by omega)]; omega
      · rw [if_neg h, if_neg e, if_neg (by omega)]; omega
theorem sum_count {f : Nat → Nat} {T : Nat} : ∀ l : List Nat, (∀ x ∈ l, f x < T) → ((List.range T).map fun t => (l.filter fun x => decide (f x = t)).length).sum = l.length
  | [], _ => by
    have : ∀ T, ((List.range T).map fun _ => ([] : List Nat).length).sum = 0 := fun T => by
      induction T with
      | zero => rfl
      | succ T ih => rw [List.range_succ, List.map_append, List.sum_append, ih]; rfl
    exact this T
  | a :: l, h => by
    have e : (fun t => ((a :: l).filter fun x => decide (f x = t)).length) = fun t => (l.filter fun x => decide (f x = t)).length + if f a = t then 1 else 0 := by
      funext t
      by_cases h : f a = t <;> simp [h]
    rw [e, sum_add1, sum_count l fun x hx => h x (List.mem_cons_of_mem _ hx), if_pos (h a (by simp))]
    rfl
theorem crc_sum {M : Nat → Nat → Bool} (hT : Tr M) {n : Nat} : ((crc M n).map List.length).sum = n := by
  have h := sum_count (f := cidx M n) (T := (crc M n).length) (List.range n) fun x hx => by rw [crc_len]; exact cidx_lt hT (by simpa using hx)
  rw [List.length_range] at h
  refine Eq.trans ?_ h
  congr 1
  refine List.ext_getElem (by simp) fun t h1 h2 => ?_
  have ht : t < (crc M n).length := by simpa using h1
  simp only [List.getElem_map, List.getElem_range]
  congr 1
  rw [crc_get]
  unfold clsM els
  refine List.filter_congr fun x hx => ?_
  have hx : x < n := by simpa using hx
  have := crc_mem hT ht (x := x)
  rw [crc_get, clsM_mem] at this
  rw [Bool.eq_iff_iff]
  simp only [Bool.and_eq_true, decide_eq_true_eq]
  constructor
  · rintro ⟨h1, h2⟩; exact (this.1 ⟨hx, h1, h2⟩).2
  · intro h; exact (this.2 ⟨hx, h⟩).2
theorem sum_take {l : List (List Nat)} {i : Nat} (hi : i < l.length) : ((l.take (i + 1)).map List.length).sum = ((l.take i).map List.length).sum + l[i].length := by
  rw [List.take_succ_eq_append_getElem hi, List.map_append, List.sum_append]
  simp only [List.map_cons, List.map_nil, List.sum_cons, List.sum_nil, Nat.add_zero]
theorem sum_take_le {l : List (List Nat)} {i : Nat} : ((l.take i).map List.length).sum ≤ (l.map List.length).sum := by
  conv => rhs; rw [← List.take_append_drop i l]
  rw [List.map_append, List.sum_append]
  exact Nat.le_add_right _ _
theorem filter_lt {α : Type} {p q : α → Bool} : ∀ {l : List α}, (∀ x ∈ l, p x = true → q x = true) → (∃ x ∈ l, q x = true ∧ p x = false) → (l.filter p).length < (l.filter q).length
  | [], _, h => by obtain ⟨x, hx, _⟩ := h; cases hx
  | a :: l, h, hex => by
    have hle : ∀ l' : List α, (∀ x ∈ l', p x = true → q x = true) → (l'.filter p).length ≤ (l'.filter q).length := by
      intro l'
      induction l' with
      | nil => intro _; exact Nat.le_refl _
      | cons b l' ih =>
        intro h
        have ih := ih fun x hx => h x (List.mem_cons_of_mem _ hx)
        cases hp : p b with
        | true => rw [List.filter_cons_of_pos hp, List.filter_cons_of_pos (h b (by simp) hp)]; simp; exact ih
        | false =>
          rw [List.filter_cons_of_neg (by simp [hp])]
          cases hq : q b with
          | true => rw [List.filter_cons_of_pos hq]; simp; omega
          | false => rw [List.filter_cons_of_neg (by simp [hq])]; exact ih
    have htl : ∀ x ∈ l, p x = true → q x = true := fun x hx => h x (List.mem_cons_of_mem _ hx)
    obtain ⟨x, hx, h1, h2⟩ := hex
    rcases List.mem_cons.1 hx with rfl | hx
    · rw [List.filter_cons_of_pos h1, List.filter_cons_of_neg (by simp [h2])]
      have := hle l htl
      simp; omega
    · have ih := filter_lt htl ⟨x, hx, h1, h2⟩
      cases hp : p a with
      | true => rw [List.filter_cons_of_pos hp, List.filter_cons_of_pos (h a (by simp) hp)]; simp; exact ih
      | false =>
        rw [List.filter_cons_of_neg (by simp [hp])]
        cases hq : q a with
        | true => rw [List.filter_cons_of_pos hq]; simp; omega
        | false => rw [List.filter_cons_of_neg (by simp [hq])]; exact ih
theorem heads_apart {M : Nat → Nat → Bool} {g h : Nat} (hg : fstM M g = true) (hh : fstM M h = true) (h1 : M g h = true) (h2 : M h g = true) : g = h := by
  rcases Nat.lt_trichotomy g h with e | e | e
  · have := fstM_iff.1 hh g e; rw [oneM_iff.2 (.inr ⟨h2, h1⟩)] at this; cases this
  · exact e
  · have := fstM_iff.1 hg h e; rw [oneM_iff.2 (.inr ⟨h1, h2⟩)] at this; cases this
/-- Someone is free. -/
theorem some_free {M : Nat → Nat → Bool} (hT : Tr M) {rem : List Nat} (hf : ∀ x ∈ rem, fstM M x = true) : ∀ (k h : Nat), h ∈ rem → (rem.filter fun g => decide (g ≠ h) && M g h).length = k → ∃ x, x ∈ rem ∧ freeL M rem x = true := by
  intro k
  induction k using Nat.strongRecOn with
  | _ k ih =>
    intro h hh hk
    cases e : freeL M rem h with
    | true => exact ⟨h, hh, e⟩
    | false =>
      unfold freeL at e
      rw [List.all_eq_false] at e
      obtain ⟨g, hg, hgh⟩ := e
      have hne : g ≠ h := fun e => hgh (by simp [e])
      have hM : M g h = true := by
        cases hm : M g h with
        | true => rfl
        | false => exact absurd (by simp [hm]) hgh
      refine ih _ ?_ g hg rfl
      rw [← hk]
      refine filter_lt (fun x hx hp => ?_) ⟨g, hg, by simp [hne, hM], by simp⟩
      simp only [Bool.and_eq_true, decide_eq_true_eq] at hp ⊢
      refine ⟨fun e => hne ?_, hT _ _ _ hp.2 hM⟩
      subst e
      exact heads_apart (hf _ hg) (hf _ hh) hM hp.2
theorem find_free {M : Nat → Nat → Bool} (hT : Tr M) {rem : List Nat} (hf : ∀ x ∈ rem, fstM M x = true) (hne : rem ≠ []) : ∃ h, rem.find? (freeL M rem) = some h := by
  cases e : rem.find? (freeL M rem) with
  | some h => exact ⟨h, rfl⟩
  | none =>
    obtain ⟨h, hh⟩ := List.exists_mem_of_ne_nil rem hne
    obtain ⟨x, hx, h1⟩ := some_free hT hf _ h hh rfl
    exact absurd h1 (List.find?_eq_none.1 e x hx)
/-- What the row is made of. -/
theorem srtS_spec {M : Nat → Nat → Bool} (hT : Tr M) {n : Nat} : ∀ (k : Nat) (rem : List Nat), rem.length = k → (∀ x ∈ rem, x < n ∧ fstM M x = true) → rem.Nodup →
    (∀ x, x ∈ srtS M n k rem ↔ ∃ g ∈ rem, x ∈ clsM M n g) ∧ (srtS M n k rem).Nodup ∧ (srtS M n k rem).Pairwise (fun x y => ¬ (M y x = true ∧ M x y = false)) ∧ (srtS M n k rem).length = ((rem.map (clsM M n)).map List.length).sum
  | 0, rem, hk, _, _ => by
    have e : rem = [] := List.length_eq_zero_iff.1 hk
    subst e
    simp [srtS]
  | k + 1, rem, hk, hf, hnd => by
    have hf' : ∀ x ∈ rem, fstM M x = true := fun x hx => (hf x hx).2
    obtain ⟨h, hfind⟩ := find_free hT hf' (fun e => by subst e; simp at hk)
    have hmem := List.mem_of_find?_eq_some hfind
    have hfree := List.find?_some hfind
    have hle := List.length_erase_of_mem hmem
    have hmem2 : ∀ x, x ∈ rem.erase h ↔ x ≠ h ∧ x ∈ rem := fun x => hnd.mem_erase_iff
    obtain ⟨i1, i2, i3, i4⟩ := srtS_spec hT k (rem.erase h) (by omega) (fun x hx => hf x ((hmem2 x).1 hx).2) (hnd.erase h)
    have e : srtS M n (k + 1) rem = clsM M n h ++ srtS M n k (rem.erase h) := by rw [srtS, hfind]
    rw [e]
    refine ⟨fun x => ?_, List.nodup_append.2 ⟨?_, i2, fun x hx y hy e => ?_⟩, List.pairwise_append.2 ⟨?_, i3, fun x hx y hy => ?_⟩, ?_⟩
    · rw [List.mem_append, i1]
      constructor
      · rintro (h1 | ⟨g, hg, h1⟩)
        · exact ⟨h, hmem, h1⟩
        · exact ⟨g, ((hmem2 g).1 hg).2, h1⟩
      · rintro ⟨g, hg, h1⟩
        by_cases e : g = h
        · subst e; exact .inl h1
        · exact .inr ⟨g, (hmem2 g).2 ⟨e, hg⟩, h1⟩
    · unfold clsM els; exact List.nodup_range.filter _
    · subst e
      obtain ⟨g, hg, h1⟩ := (i1 x).1 hy
      have := (hmem2 g).1 hg
      exact this.1 (first_uniq hT (hf' _ this.2) (hf' _ hmem) (clsM_mem.1 h1).2.2 (clsM_mem.1 hx).2.2)
    · refine List.Pairwise.imp_of_mem (R := fun _ _ => True) (fun {x y} hx hy _ => ?_) (List.pairwise_of_forall fun _ _ => trivial)
      rintro ⟨h1, h2⟩
      have := oneM_trans hT (by rw [oneM_symm]; exact (clsM_mem.1 hx).2.2) (clsM_mem.1 hy).2.2
      rcases oneM_iff.1 this with e | e
      · subst e; rw [h1] at h2; cases h2
      · rw [e.1] at h2; cases h2
    · rintro ⟨h1, _⟩
      obtain ⟨g, hg, h3⟩ := (i1 y).1 hy
      have hgm := (hmem2 g).1 hg
      have a1 := (clsM_mem.1 h3).2.2
      have a2 := (clsM_mem.1 hx).2.2
      have b1 : M g x = true := by
        rcases oneM_iff.1 a1 with e | e
        · rw [e]; exact h1
        · exact hT _ _ _ e.1 h1
      have b2 : M g h = true := by
        rcases oneM_iff.1 a2 with e | e
        · rw [e]; exact b1
        · exact hT _ _ _ b1 e.2
      unfold freeL at hfree
      have := List.all_eq_true.1 hfree g hgm.2
      rw [b2] at this
      simp at this
      exact hgm.1 this
    · rw [List.length_append, i4]
      have hp := ((List.perm_cons_erase hmem).map (clsM M n)).map List.length
      have := hp.sum_nat
      simpa using this.symm
theorem srt_spec {M : Nat → Nat → Bool} (hT : Tr M) {n : Nat} : (∀ x, x ∈ srt M n ↔ x < n) ∧ (srt M n).Nodup ∧ (srt M n).Pairwise (fun x y => ¬ (M y x = true ∧ M x y = false)) ∧ (srt M n).length = n := by
  obtain ⟨h1, h2, h3, h4⟩ := srtS_spec hT (n := n) _ (hdsM M n) rfl (fun x hx => hds_mem.1 hx) hds_nodup
  refine ⟨fun x => ?_, h2, h3, ?_⟩
  · rw [srt, h1]
    constructor
    · rintro ⟨g, _, h⟩; exact (clsM_mem.1 h).1
    · intro hx
      obtain ⟨g1, g2, g3⟩ := hdOf_spec hT x
      exact ⟨hdOf M x, hdOf_mem hT hx, clsM_mem.2 ⟨hx, g1, g3⟩⟩
  · rw [srt, h4]; exact crc_sum hT
end Go.Proofs.YtganockeifkecaaDoor
namespace Go.Proofs.YtganockeifkecaaDoor
open Go.V
/-! ### Going through what can be seen -/
section
variable {f : ByteArray} {lp pp : Option Addr} {ll lc pl pc : Nat} {ls : List Ln} {ps : List (Int × Int)} {H : Hp}
/-- What is shown, in order: places among those that are alive. -/
def ordL (ls : List Ln) (ps : List (Int × Int)) : List Nat := srt (rM ls ps) (alv ls).length
theorem Sl_mod {α : Type} {g : α → Value} {H H' : Hp} {p : Option Addr} {l c : Nat} {xs : List α} {O : List Nat} (h : Sl g H p l c xs) (hm : Mod O H H') (hp : ∀ b o, p = some ⟨b, o, none⟩ → b ∉ O) : Sl g H' p l c xs :=
  ⟨h.1, h.2.1, h.2.2.imp id fun ⟨b, o, e, hh⟩ => ⟨b, o, e, fun i hi => hm.rd (hp b o e) (hh i hi)⟩⟩
theorem view_each_1.c {cp : Nat} {G : Int → Int → Hp → (Al → Hp → Prop) → Prop} {K : Al → Hp → Prop} (hd : D3 H cp f lp ll lc pp pl pc) (hL : Sn 4 lnC H lp ll lc ls) (hP : Sn 2 pairC H pp pl pc ps) (hT : Tz H) (hll : ll ≤ 200) (hpl : pl ≤ 1000000000)
    (hsrt : ∀ x ∈ ordL ls ps, x < (alv ls).length) (hol : (ordL ls ps).length ≤ 1000) (J : Nat → List Nat → Hp → Prop) (S0 : List Nat) (hS0 : ∀ x ∈ S0, H x ≠ none) (hg : gTab ∉ S0) (h0 : ∀ Hx, Le H Hx → J 0 S0 Hx)
    (step : ∀ i (hi : i < (ordL ls ps).length) S Hx (Kb : Al → Hp → Prop), J i S Hx → (∀ S' H', J (i + 1) S' H' → Mod S Hx H' → (∀ x ∈ S', x ∈ S ∨ Hx x = none) → Kb .on H') → G (((alv ls).getD (ordL ls ps)[i] 0 : Nat) : Int) (markM (rM ls ps) (alv ls).length (ordL ls ps)[i]) Hx Kb)
    (hK : ∀ S Hx, J (ordL ls ps).length S Hx → K .on Hx) : view_each_1.I cp H G K := by
  apply view_each_1.of
  refine ldS_i hd.1 (ldL_i hd.2.1 (ldL_i hd.2.2 ?_))
  refine view_Alive.c hL hP hT hll hpl fun p l c R O H1 s1 n1 u1 hO le1 => ?_
  have hlim := u1.lim
  refine order_Sort.n (.inr ⟨R, O, rfl, u1⟩) hlim fun p2 l2 c2 H2 s2 n2 le2 => ?_
  rw [clo_rM] at s2
  have s2 : Sl iv H2 p2 l2 c2 (ordL ls ps) := s2
  have sl := s1.len
  have sl2 := s2.len
  have le02 := le1.trans le2
  have hl2 : l2 ≤ 1000000000 := by omega
  refine ⟨fun t Hx => ∃ (i : Nat) (S : List Nat), t = (i : Nat) ∧ i ≤ l2 ∧ J i S Hx ∧ Mod S0 H2 Hx ∧ (∀ x ∈ S, x ∈ S0 ∨ H2 x = none), fun t _ => ((l2 : Int) - t).toNat, ⟨0, S0, rfl, Nat.zero_le _, h0 _ le02, Mod.refl, fun x hx => .inl hx⟩, ?_⟩
  rintro t H3 ⟨i, S, rfl, gi, hJ, m3, hS⟩
  have s13 := Sl_mod (s1.le le2) m3 fun b o e hb => hS0 b hb (n1 b o e)
  have s23 := Sl_mod s2 m3 fun b o e hb => hS0 b hb (none_of_le le1 (n2 b o e))
  have u3 := (u1.le le2).mod m3 (fun b hb hb' => hS0 b hb (hO b hb')) hg
  refine bcd (fun hlt => ?_) fun hlt => ?_
  · have hi : i < (ordL ls ps).length := by omega
    have hx := hsrt _ (List.getElem_mem hi)
    refine slI s23 (fun _ => rfl) (by omega) hlt fun _ => ?_
    simp only [Int.toNat_natCast]
    obtain ⟨b, o, e, hr⟩ := s13.at hx
    have hrd := hr _ hx
    subst e
    refine idxN (ordL ls ps)[i] rfl (by omega) (nil (ldI_i hrd (view_mark.c u3 ⟨hrd, ?_⟩)))
    have := step i hi S H3 (fun al48 Hx46 => alC al48 (CHK .i64 (((i : Nat) : Int) + (1 : Int)) fun x51 => (∃ (i : Nat) (S : List Nat), x51 = (i : Nat) ∧ i ≤ l2 ∧ J i S Hx46 ∧ Mod S0 H2 Hx46 ∧ (∀ x ∈ S, x ∈ S0 ∨ H2 x = none)) ∧ ((l2 : Int) - x51).toNat < ((l2 : Int) - ((i : Nat) : Int)).toNat) fun j44 up45 => K (.off j44 up45) Hx46) hJ fun S' H' j' m' g' => ?_
    · rw [show (alv ls).getD (ordL ls ps)[i] 0 = (alv ls)[(ordL ls ps)[i]] by simp [List.getD, hx]] at this
      exact this
    · refine alOn (chk (by omega) ⟨⟨i + 1, S', by omega, by omega, j', fun x hx' c' hc => ?_, fun x hx' => ?_⟩, by omega⟩)
      · refine m' x (fun hxS => ?_) c' (m3 x hx' c' hc)
        rcases hS x hxS with h | h
        · exact hx' h
        · rw [h] at hc; cases hc
      · rcases g' x hx' with h | h
        · exact hS x h
        · by_cases hx0 : x ∈ S0
          · exact .inl hx0
          · right
            cases hh : H2 x with
            | none => rfl
            | some c' => rw [m3 x hx0 c' hh] at h; cases h
  · have : i = (ordL ls ps).length := by omega
    subst this
    exact hK S H3 hJ
end
end Go.Proofs.YtganockeifkecaaDoor
namespace Go.Proofs.YtganockeifkecaaDoor
open Go.V
/-! ### What is shown -/
structure Shn where
  p : Int
  n : Int
  m : UInt8
  t : BL
def shC (x : Shn) : List Value := [.int .u32 x.p, .int .i64 x.n, .int .u8 ((x.m.toNat : Nat) : Int), sv x.t]
theorem shC_len (x : Shn) : (shC x).length = 4 := rfl
def markB (M : Nat → Nat → Bool) (n i : Nat) : UInt8 := if M i i then 33 else if apartM M n i then 63 else 32
theorem markM_B {M : Nat → Nat → Bool} {n i : Nat} : markM M n i = ((markB M n i).toNat : Nat) := by
  unfold markM markB
  split
  · rfl
  · split <;> rfl
section
variable {f : ByteArray} {lp pp : Option Addr} {ll lc pl pc : Nat} {ls : List Ln} {ps : List (Int × Int)} {H : Hp}
def shn (ls : List Ln) (ps : List (Int × Int)) (k : Nat) : Shn :=
  ⟨(ls.getD ((alv ls).getD k 0) ⟨0, 0, [], true⟩).p, (ls.getD ((alv ls).getD k 0) ⟨0, 0, [], true⟩).n, markB (rM ls ps) (alv ls).length k, (ls.getD ((alv ls).getD k 0) ⟨0, 0, [], true⟩).t⟩
def shL (ls : List Ln) (ps : List (Int × Int)) : List Shn := (ordL ls ps).map (shn ls ps)
/-- The places, in order. -/
def ordP (ls : List Ln) (ps : List (Int × Int)) : List Nat := (ordL ls ps).map fun k => (alv ls).getD k 0
theorem ord_spec : (∀ x, x ∈ ordL ls ps ↔ x < (alv ls).length) ∧ (ordL ls ps).Nodup ∧ (ordL ls ps).Pairwise (fun x y => ¬ (rM ls ps y x = true ∧ rM ls ps x y = false)) ∧ (ordL ls ps).length = (alv ls).length := srt_spec rM_tr
theorem view_each.c {K : Value → Hp → Prop} (hK : ∀ cp H', D3 H' cp f lp ll lc pp pl pc → H cp = none → Le H H' → K (.func (.func view_each_1.num) ⟨[]⟩ ⟨[.pointer (some ⟨cp, 0, none⟩)]⟩) H') : view_each.C f lp ll lc pp pl pc H K := by
  apply view_each.of
  exact fun b hb => hK b _ D3.new hb (Le.upd hb)
theorem aD {k : Nat} (h : k < (alv ls).length) : (alv ls).getD k 0 = (alv ls)[k] := by simp [List.getD, h]
theorem aD_lt {k : Nat} (h : k < (alv ls).length) : (alv ls).getD k 0 < ls.length := by rw [aD h]; exact alv_lt h
theorem view_Show.c {K : Option Addr → Nat → Nat → Hp → Prop} (hL : Sn 4 lnC H lp ll lc ls) (hP : Sn 2 pairC H pp pl pc ps) (hT : Tz H) (hll : ll ≤ 200) (hpl : pl ≤ 1000000000)
    (hK : ∀ p l c H', Buf 4 H H' p l c ((shL ls ps).flatMap shC) → Le H H' → K p l c H') : view_Show.C f lp ll lc pp pl pc H K := by
  apply view_Show.of
  have el := hL.len
  have ha := alv_len (ls := ls)
  obtain ⟨o1, _, _, o4⟩ := ord_spec (ls := ls) (ps := ps)
  intro b hb
  have d : D3 (upd H b [.string f, .slice lp ll lc, .slice pp pl pc]) b f lp ll lc pp pl pc := D3.new
  have le1 : Le H (upd H b [.string f, .slice lp ll lc, .slice pp pl pc]) := Le.upd hb
  generalize upd H b [.string f, .slice lp ll lc, .slice pp pl pc] = H1 at *
  intro m hm
  have le2 : Le H1 (upd H1 m [.slice none 0 0]) := Le.upd hm
  have rm : rd (upd H1 m [.slice none 0 0]) m 0 = some (.slice none 0 0) := by rw [rd_upd_self]; rfl
  generalize upd H1 m [.slice none 0 0] = H2 at *
  have hmH := none_of_le le1 hm
  have le02 := le1.trans le2
  have hbm : b ≠ m := fun e => d.there (e ▸ hm)
  refine (d.le le2).get (view_each.c fun cp H3 d3 hcp le3 => ?_)
  have le03 := le02.trans le3
  have d03 := (d.le le2).le le3
  show view_each_1.I cp H3 _ _
  refine view_each_1.c d3 (hL.le le03) (hP.le le03) (hT.le le03) hll hpl (fun x hx => (o1 x).1 hx) (by omega) (fun i S Hx => Acc 4 H Hx m S (((shL ls ps).take i).flatMap shC) ∧ D3 Hx b f lp ll lc pp pl pc ∧ b ∉ S) [m] (by simpa using ne_none_of_rd (le3.rd rm)) (fun h => by simp at h; exact hT.there (h ▸ hmH)) (fun Hx hle => ?_) ?_ ?_
  · exact ⟨Acc.start hmH (le03.trans hle) ((le3.trans hle).rd rm), d03.le hle, by simpa using hbm⟩
  · rintro i hi S Hx Kb ⟨hA, hd, hbS⟩ hon
    have hk := (o1 _).1 (List.getElem_mem hi)
    have hkl := aD_lt hk
    obtain ⟨p, l, c, hr, hl, hB, hpush⟩ := hA.get
    refine ldL_i hr (ldL_i hd.2.1 ?_)
    refine sn_nil (hL.le hA.1) (by omega) (by omega) fun q o hj e => ?_
    have hj : (alv ls).getD (ordL ls ps)[i] 0 < ls.length := hkl
    simp only [Int.toNat_natCast] at e ⊢
    refine ldI_i (e 0 _ rfl) (ldI_i (e 1 _ rfl) (ldL_i hd.2.1 ?_))
    refine sn_nil (hL.le hA.1) (by omega) (by omega) fun q' o' _ e' => ?_
    simp only [Int.toNat_natCast] at e' ⊢
    refine ldS_i (e' 2 _ rfl) ⟨hr, fun b' hb' => ?_⟩
    have key := hpush (te := te_api_Shown) (new := shC (shn ls ps (ordL ls ps)[i])) rfl (by decide) rfl (by decide) rfl rfl ?_ (F := Kb .on) (fun S' H' hA' m' g' => ?_) rfl rfl b' hb'
    · have e0 : ls[(alv ls).getD (ordL ls ps)[i] 0] = ls.getD ((alv ls).getD (ordL ls ps)[i] 0) ⟨0, 0, [], true⟩ := (lnD hkl).symm
      rw [e0, markM_B]
      exact key
    · rw [flatMap_len shC_len, List.length_take]
      have : min i (shL ls ps).length ≤ 200 := by unfold shL; simp; omega
      have h2 := Nat.mul_le_mul_right 4 this
      show (_ + 4) * _ ≤ _
      simp [te_api_Shown]; omega
    · refine hon S' H' ⟨?_, hd.mod m' hbS, fun h => ?_⟩ m' g'
      · have hs : (shL ls ps).take (i + 1) = (shL ls ps).take i ++ [shn ls ps (ordL ls ps)[i]] := by
          unfold shL
          rw [← List.map_take, ← List.map_take, List.take_succ_eq_append_getElem hi, List.map_append]; rfl
        rw [hs, List.flatMap_append]; simpa using hA'
      · rcases g' b h with h | h
        · exact hbS h
        · exact hd.there h
  · rintro S Hx ⟨hA, _⟩
    rw [List.take_of_length_le (by unfold shL; simp)] at hA
    exact alOn (hA.end fun p l c hB => hK p l c Hx hB hA.1)
end
end Go.Proofs.YtganockeifkecaaDoor
namespace Go.Proofs.YtganockeifkecaaDoor
open Go.V
/-! ### What is shown: plain -/
theorem mod_two {S S' : List Nat} {H H1 H2 : Hp} (h1 : Mod S H H1) (h2 : Mod S' H1 H2) (hs : ∀ x ∈ S', x ∈ S ∨ H x = none) : Mod S H H2 := fun x hx c e => by
  refine h2 x (fun hx' => ?_) c (h1 x hx c e)
  rcases hs x hx' with h | h
  · exact hx h
  · rw [e] at h; cases h
theorem new_two {S S' S'' : List Nat} {H H1 : Hp} (h1 : Mod S H H1) (hs : ∀ x ∈ S', x ∈ S ∨ H x = none) (hs' : ∀ x ∈ S'', x ∈ S' ∨ H1 x = none) : ∀ x ∈ S'', x ∈ S ∨ H x = none := fun x hx => by
  rcases hs' x hx with h | h
  · exact hs x h
  · by_cases hx : x ∈ S
    · exact .inl hx
    · right
      cases hh : H x with
      | none => rfl
      | some c => rw [h1 x hx c hh] at h; cases h
theorem u8_eq' {a b : UInt8} : ((a.toNat : Nat) : Int) = ((b.toNat : Nat) : Int) ↔ a = b := ⟨fun h => UInt8.toNat_inj.1 (by omega), fun h => by rw [h]⟩
/-- A line's end behind what has none. -/
def endL (l : BL) : BL := if l.getLast? = some 10 then l else l ++ [10]
def trimL (l : BL) : BL := if l.getLast? = some 10 then l.dropLast else l
theorem trim_end (l : BL) : trimL l ++ [10] = endL l := by
  unfold trimL endL
  split
  · rename_i h
    obtain ⟨h1, h2⟩ := List.getLast?_eq_some_iff.1 h
    rw [h2, List.dropLast_concat]
  · rfl
theorem trim_len (l : BL) : (trimL l).length ≤ l.length := by unfold trimL; split <;> simp
theorem end_len (l : BL) : (endL l).length ≤ l.length + 1 := by unfold endL; split <;> simp
theorem last_drop {l : BL} (h : 1 ≤ l.length) (x : UInt8) : (l.drop (l.length - 1) = [x]) ↔ l.getLast? = some x := by
  have hne : l ≠ [] := List.length_pos_iff.1 h
  rw [List.getLast?_eq_some_getLast hne]
  have h2 : l.drop (l.length - 1) = [l.getLast hne] := by
    conv => lhs; rw [← List.dropLast_concat_getLast hne]
    rw [List.drop_append_of_le_length (by simp), List.drop_of_length_le (by simp)]; rfl
  rw [h2]; simp
section
variable {f : ByteArray} {lp pp : Option Addr} {ll lc pl pc : Nat} {ls : List Ln} {ps : List (Int × Int)} {H : Hp}
/-- The text of what is shown. -/
def txtL (ls : List Ln) (ps : List (Int × Int)) : BL := (shL ls ps).flatMap (·.t)
def prnL (ls : List Ln) (ps : List (Int × Int)) : BL := (shL ls ps).flatMap fun s => s.m :: endL s.t
def cnfN (ls : List Ln) (ps : List (Int × Int)) : Nat := ((shL ls ps).filter fun s => decide (s.m ≠ 32)).length
theorem flatTake_le {α : Type} {g : α → BL} {B : Nat} (l : List α) (hB : ∀ x ∈ l, (g x).length ≤ B) : (l.flatMap g).length ≤ l.length * B := by
  induction l with
  | nil => simp
  | cons x l ih =>
    rw [List.flatMap_cons, List.length_append, List.length_cons, Nat.add_mul]
    have := hB x (by simp)
    have := ih fun y hy => hB y (List.mem_cons_of_mem _ hy)
    omega
theorem shL_len : (shL ls ps).length = (ordL ls ps).length := by unfold shL; simp
theorem shL_get {i : Nat} (hi : i < (ordL ls ps).length) : (shL ls ps).take (i + 1) = (shL ls ps).take i ++ [shn ls ps (ordL ls ps)[i]] := by
  unfold shL
  rw [← List.map_take, ← List.map_take, List.take_succ_eq_append_getElem hi, List.map_append]; rfl
theorem shn_m {k : Nat} : (shn ls ps k).m = markB (rM ls ps) (alv ls).length k := rfl
theorem shn_len {k : Nat} (ht : ∀ x ∈ ls, x.t.length ≤ 1000000) : (shn ls ps k).t.length ≤ 1000000 := by
  unfold shn
  by_cases h : (alv ls).getD k 0 < ls.length
  · show (ls.getD _ _).t.length ≤ _
    rw [lnD h]; exact ht _ (List.getElem_mem h)
  · show (ls.getD _ _).t.length ≤ _
    rw [show ls.getD ((alv ls).getD k 0) ⟨0, 0, [], true⟩ = ⟨0, 0, [], true⟩ by rw [List.getD_eq_getElem?_getD, List.getElem?_eq_none (Nat.le_of_not_lt h)]; rfl]; simp
end
end Go.Proofs.YtganockeifkecaaDoor
namespace Go.Proofs.YtganockeifkecaaDoor
open Go.V
/-! ### The document's views -/
theorem getD_Lq {s : ByteArray} {k : Nat} (h : k < s.size) : s.data.toList.getD k 0 = (L s)[k]'(by rw [← L_size]; exact h) := by
  have : k < (L s).length := by rw [← L_size]; exact h
  show (L s).getD k 0 = _
  simp [List.getD, this]
section
variable {f : ByteArray} {lp pp : Option Addr} {ll lc pl pc : Nat} {ls : List Ln} {ps : List (Int × Int)} {H : Hp}
theorem apartM_succ {M : Nat → Nat → Bool} {k i : Nat} : apartM M (k + 1) i = (apartM M k i || (decide (k ≠ i) && (!M i k && !M k i))) := by
  unfold apartM; rw [List.range_succ, List.any_append]; simp
theorem centoref12_Show.c {K : Option Addr → Nat → Nat → Hp → Prop} (hL : Sn 4 lnC H lp ll lc ls) (hP : Sn 2 pairC H pp pl pc ps) (hll : ll ≤ 200) (hpl : pl ≤ 1000000000)
    (hK : ∀ p l c H', Buf 4 H H' p l c ((shL ls ps).flatMap shC) → Le H H' → K p l c H') : centoref12_Show.C f lp ll lc pp pl pc H K := by
  apply centoref12_Show.of
  have el := hL.len
  have ha := alv_len (ls := ls)
  obtain ⟨o1, _, _, o4⟩ := ord_spec (ls := ls) (ps := ps)
  intro b hb
  have d : D3 (upd H b [.string f, .slice lp ll lc, .slice pp pl pc]) b f lp ll lc pp pl pc := D3.new
  have le1 : Le H (upd H b [.string f, .slice lp ll lc, .slice pp pl pc]) := Le.upd hb
  generalize upd H b [.string f, .slice lp ll lc, .slice pp pl pc] = H1 at *
  refine d.get (centoref12_rel.c (hL.le le1) (hP.le le1) hll hpl fun p l c m O H2 s2 u2 _ le2 => ?_)
  refine centoref2_Rel_Sort.c u2 fun p3 l3 c3 H3 s3 le3 => ?_
  have s3 : Sl iv H3 p3 l3 c3 (ordL ls ps) := s3
  have sl3 := s3.len
  have sl2 := s2.len
  have le03 := (le1.trans le2).trans le3
  have s23 := s2.le le3
  have d3 := (d.le le2).le le3
  have hL3 := hL.le le03
  obtain ⟨B, bsm, _, u3⟩ := u2.le le3
  refine ⟨fun op ol oc t Hx => ∃ i : Nat, t = (i : Nat) ∧ i ≤ l3 ∧ Le H3 Hx ∧ Buf 4 H3 Hx op ol oc (((shL ls ps).take i).flatMap shC), fun _ _ _ t _ => ((l3 : Int) - t).toNat, ⟨0, rfl, Nat.zero_le _, Le.refl _, Buf.none⟩, ?_⟩
  rintro op ol oc t Hx ⟨i, rfl, gi, lex, hB⟩
  refine bcd (fun hlt => ?_) fun hlt => ?_
  · have hi : i < (ordL ls ps).length := by omega
    have hk := (o1 _).1 (List.getElem_mem hi)
    have hkl := alv_lt hk
    have s3x := s3.le lex
    have s2x := s23.le lex
    obtain ⟨b3, o3, e3, r3⟩ := s3x.at hi
    obtain ⟨b2, o2, e2, r2⟩ := s2x.at hk
    obtain ⟨bL, oL, eL, rL⟩ : ∃ b o, lp = some ⟨b, o, none⟩ ∧ ∀ i (h : i < ls.length) j v, (lnC ls[i])[j]? = some v → rd Hx b (o + i * 4 + j) = some v := by
      rcases ((hL3.le lex).2.2) with h | h
      · exact absurd (by rw [h]; rfl : ls.length = 0) (by omega)
      · exact h
    subst e3 e2 eL
    have rLk := rL _ hkl
    refine ldL_i (d3.le lex).2.1 (idxN i rfl (by omega) (nil (ldI_i (r3 i hi) (idxN _ rfl (by omega) (nil (ldI_i (r2 _ hk) (idxN _ rfl (by omega) (nil ?_))))))))
    refine ldI_i (rLk 0 _ rfl) (ldI_i (rLk 1 _ rfl) (ldS_i (rLk 2 _ rfl) (ldB_i (rLk 3 _ rfl) ?_)))
    intro q hq
    have leq := Le.upd (c := [.int .u32 (0 : Int), .int .i64 (0 : Int), .string .empty, .bool false]) hq
    refine ⟨leq.rd (rLk 0 _ rfl), leq.rd (rLk 1 _ rfl), leq.rd (rLk 2 _ rfl), leq.rd (rLk 3 _ rfl), leq.rd (r2 _ hk), leq.rd (r3 i hi), leq.rd (d3.le lex).2.1, ?_⟩
    refine ST_upd rfl (ST_upd rfl (ST_upd rfl (ST_upd rfl ?_)))
    generalize hH4 : upd Hx q _ = H4
    have le4 : Le Hx H4 := by rw [← hH4]; exact Le.upd hq
    have t0 : rd H4 q 0 = some (.int .u32 ls[(alv ls)[(ordL ls ps)[i]]].p) := by rw [← hH4, rd_upd_self]; rfl
    have t1 : rd H4 q 1 = some (.int .i64 ls[(alv ls)[(ordL ls ps)[i]]].n) := by rw [← hH4, rd_upd_self]; rfl
    have t2 : rd H4 q 2 = some (sv ls[(alv ls)[(ordL ls ps)[i]]].t) := by rw [← hH4, rd_upd_self]; rfl
    clear hH4
    have u4 : RF H4 m B bsm (alv ls).length (rM ls ps) := u3.mod (O := []) (lex.trans le4).mod (by simp)
    have hlim := u4.lim
    have s34 := s3x.le le4
    have hB4 := hB.le le4
    have hgo : ∀ mk : UInt8, mk = (shn ls ps (ordL ls ps)[i]).m → centoref12_Show.k1 Hx (fun op ol oc t Hx => ∃ i : Nat, t = (i : Nat) ∧ i ≤ l3 ∧ Le H3 Hx ∧ Buf 4 H3 Hx op ol oc (((shL ls ps).take i).flatMap shC)) q ((i : Nat) : Int) (fun _ _ _ t _ => ((l3 : Int) - t).toNat) oc ol op ((mk.toNat : Nat) : Int) H4 := by
      intro mk hmk
      have hl := hB.1
      rw [flatMap_len shC_len, List.length_take] at hl
      refine ldI_i t0 (ldI_i t1 (ldS_i t2 ?_))
      have e1 : shC (shn ls ps (ordL ls ps)[i]) = [.int .u32 ls[(alv ls)[(ordL ls ps)[i]]].p, .int .i64 ls[(alv ls)[(ordL ls ps)[i]]].n, .int .u8 ((mk.toNat : Nat) : Int), sv ls[(alv ls)[(ordL ls ps)[i]]].t] := by
        rw [hmk]; unfold shC shn; simp only [aD hk, lnD hkl]
      refine hB4.pushM (te := te_api_Shown) (new := [.int .u32 ls[(alv ls)[(ordL ls ps)[i]]].p, .int .i64 ls[(alv ls)[(ordL ls ps)[i]]].n, .int .u8 ((mk.toNat : Nat) : Int), sv ls[(alv ls)[(ordL ls ps)[i]]].t]) rfl (by decide) rfl (by decide) rfl rfl (by show (_ + 1) * te_api_Shown.bytes ≤ _; simp [te_api_Shown]; omega) (fun p' c' H5 hB5 hp m5 => ?_) (lex.trans le4)
      refine chk (by omega) ⟨⟨i + 1, by omega, by omega, m5.le (lex.trans le4) fun x hx => hB.fr x 0 (blkL_mem hB.zero hx), ?_⟩, by first | omega | (dsimp only; omega)⟩
      rw [shL_get hi, List.flatMap_append, List.flatMap_singleton, e1]; exact hB5
    have hm0 : (shn ls ps (ordL ls ps)[i]).m = markB (rM ls ps) (alv ls).length (ordL ls ps)[i] := rfl
    unfold markB at hm0
    refine ⟨fun mq t Hy => ∃ k : Nat, t = (k : Nat) ∧ k ≤ (alv ls).length ∧ Hy = H4 ∧ mq = (((if apartM (rM ls ps) k (ordL ls ps)[i] then (63 : UInt8) else 32).toNat : Nat) : Int), fun _ t _ => (((alv ls).length : Int) - t).toNat, ⟨0, rfl, Nat.zero_le _, rfl, by unfold apartM; rfl⟩, ?_⟩
    rintro mq t Hy ⟨k, rfl, gk, rfl, rfl⟩
    refine nil (ldI_i u4.hn (bcd (fun hlt' => ?_) fun hlt' => ?_))
    · have hkn : k < (alv ls).length := by omega
      have next : ∀ v : UInt8, v = (if apartM (rM ls ps) (k + 1) (ordL ls ps)[i] then (63 : UInt8) else 32) → CHK .i64 ((k : Int) + 1) fun x => (∃ k' : Nat, x = (k' : Nat) ∧ k' ≤ (alv ls).length ∧ Hy = Hy ∧ ((v.toNat : Nat) : Int) = (((if apartM (rM ls ps) k' (ordL ls ps)[i] then (63 : UInt8) else 32).toNat : Nat) : Int)) ∧ (((alv ls).length : Int) - x).toNat < (((alv ls).length : Int) - (k : Int)).toNat := fun v hv =>
        chk (by omega) ⟨⟨k + 1, by omega, by omega, rfl, by rw [hv]⟩, by omega⟩
      refine idxN i rfl (by omega) (nil (ldI_i (s34.at hi |> fun ⟨b, o, e, r⟩ => by cases e; exact r i hi) ?_))
      refine bcd (fun hne => ?_) fun hne => next _ (by rw [apartM_succ, decide_eq_false (by omega), Bool.false_and, Bool.or_false])
      refine u4.rowAt rfl hkn (idxN i rfl (by omega) (nil (ldI_i (s34.at hi |> fun ⟨b, o, e, r⟩ => by cases e; exact r i hi) (idxN (ordL ls ps)[i] rfl hk (nil (ldB_i (by rw [Nat.zero_add]; exact u4.row k (by rw [u4.lb]; exact hkn) _ hk) ?_))))))
      refine bcn (fun h1 => ?_) fun h1 => next _ (by rw [apartM_succ, h1]; simp)
      refine nil ?_
      obtain ⟨pm, cm, g1, g2, g3⟩ := u4.hm
      obtain rfl := g3.resolve_left (by omega)
      refine ldL_i (by rw [Nat.zero_add]; exact g1) (idxN i rfl (by omega) (nil (ldI_i (s34.at hi |> fun ⟨b, o, e, r⟩ => by cases e; exact r i hi) (idxN (ordL ls ps)[i] rfl hk (nil (ldL_i (by rw [Nat.zero_add]; exact u4.ptr _ (by rw [u4.lb]; exact hk)) (idxN k rfl hkn (nil (ldB_i (by rw [Nat.zero_add]; exact u4.row _ (by rw [u4.lb]; exact hk) k hkn) ?_)))))))))
      refine bcn (fun h2 => ?_) fun h2 => next _ (by rw [apartM_succ, h2]; simp)
      exact next 63 (by rw [apartM_succ, h1, h2, decide_eq_true (by omega)]; simp)
    · have : k = (alv ls).length := by omega
      subst this
      refine nil ?_
      obtain ⟨pm, cm, g1, g2, g3⟩ := u4.hm
      obtain rfl := g3.resolve_left (by omega)
      refine ldL_i (by rw [Nat.zero_add]; exact g1) (idxN i rfl (by omega) (nil (ldI_i (s34.at hi |> fun ⟨b, o, e, r⟩ => by cases e; exact r i hi) (idxN (ordL ls ps)[i] rfl hk (nil (ldL_i (by rw [Nat.zero_add]; exact u4.ptr _ (by rw [u4.lb]; exact hk)) ?_))))))
      refine idxN i rfl (by omega) (nil (ldI_i (s34.at hi |> fun ⟨b, o, e, r⟩ => by cases e; exact r i hi) (idxN (ordL ls ps)[i] rfl hk (nil (ldB_i (by rw [Nat.zero_add]; exact u4.row _ (by rw [u4.lb]; exact hk) _ hk) ?_)))))
      refine bc_i (fun h => ?_) fun h => ?_
      · exact hgo 33 (by rw [hm0, h, if_pos rfl])
      · exact hgo _ (by rw [hm0]; simp only [h, Bool.false_eq_true, if_false])
  · rw [List.take_of_length_le (by rw [shL_len]; omega)] at hB
    exact hK op ol oc Hx (hB.base fun b _ e => none_of_le le03 e) (le03.trans lex)
/-- Bytes that were just put down. -/
theorem bts_one {b : Nat} {x : UInt8} {tl : List Value} {H : Hp} {F : ByteArray → Prop} (hF : F (mkB [x])) : BTS (upd H b ([.int .u8 ((x.toNat : Nat) : Int)] ++ tl)) (some ⟨b, 0, none⟩) 1 F := by
  refine ⟨[x], rfl, fun i y e => ?_, hF⟩
  cases i with
  | zero => simp at e; subst e; rw [rd_upd_self]; rfl
  | succ i => simp at e
end
end Go.Proofs.YtganockeifkecaaDoor
namespace Go.Proofs.YtganockeifkecaaDoor
open Go.V
/-! ### Few; the example -/
section
variable {f : ByteArray} {lp pp : Option Addr} {ll lc pl pc : Nat} {ls : List Ln} {ps : List (Int × Int)} {H : Hp}
theorem D3.mk {q0 : ByteArray} {a0 b0 : Option Addr} {a1 a2 b1 b2 : Nat} {F : Nat → Hp → Prop} (hF : ∀ q H', H q = none → D3 H' q f lp ll lc pp pl pc → Le H H' → F q H') :
    NEW H [.string q0, .slice a0 a1 a2, .slice b0 b1 b2] fun q H1 => ST H1 q 0 (.string f) fun H2 => ST H2 q 1 (.slice lp ll lc) fun H3 => ST H3 q 2 (.slice pp pl pc) fun H4 => F q H4 :=
  fun q hq => ST_upd rfl (ST_upd rfl (ST_upd rfl (hF q _ hq D3.new (Le.upd hq))))
theorem D3.set2 {b : Nat} (h : D3 H b f lp ll lc pp pl pc) {qp : Option Addr} {ql qc : Nat} {F : Hp → Prop} (hF : ∀ H', D3 H' b f lp ll lc qp ql qc → Mod [b] H H' → F H') : ST H b 2 (.slice qp ql qc) F :=
  st h.2.2 (hF _ ⟨by rw [rd_wr_off (by decide)]; exact h.1, by rw [rd_wr_off (by decide)]; exact h.2.1, rd_wr_self h.2.2⟩ (Mod.refl.wr (.inl (by simp))))
theorem D3.set1 {b : Nat} (h : D3 H b f lp ll lc pp pl pc) {qp : Option Addr} {ql qc : Nat} {F : Hp → Prop} (hF : ∀ H', D3 H' b f qp ql qc pp pl pc → Mod [b] H H' → F H') : ST H b 1 (.slice qp ql qc) F :=
  st h.2.1 (hF _ ⟨by rw [rd_wr_off (by decide)]; exact h.1, rd_wr_self h.2.1, by rw [rd_wr_off (by decide)]; exact h.2.2⟩ (Mod.refl.wr (.inl (by simp))))
def fewV (ls : List Ln) (ps : List (Int × Int)) : Bool := ls.all (fun x => decide (x.t.length ≤ 100)) && (decide (ls.length ≤ 45) && decide (ps.length ≤ 200))
theorem fewV_len (h : fewV ls ps = true) : ls.length ≤ 45 ∧ ps.length ≤ 200 ∧ ∀ x ∈ ls, x.t.length ≤ 1000000 := by
  unfold fewV at h
  rw [Bool.and_eq_true, Bool.and_eq_true, decide_eq_true_eq, decide_eq_true_eq, List.all_eq_true] at h
  exact ⟨h.2.1, h.2.2, fun x hx => by have := h.1 x hx; rw [decide_eq_true_eq] at this; omega⟩
end
def exF : List Ln := [⟨1, 0, [120, 10], false⟩, ⟨1, 1, [121], false⟩]
end Go.Proofs.YtganockeifkecaaDoor
namespace Go.Proofs.YtganockeifkecaaDoor
open Go.V
/-! ### Files that come in -/
abbrev lineE : Enc ((Int × Int) × ByteArray × Bool) := ((Enc.int .u32).pair (Enc.int .i64)).pair (Enc.str.pair Enc.bool)
abbrev fileE : Enc (ByteArray × List ((Int × Int) × ByteArray × Bool) × List (Int × Int)) := Enc.str.pair (lineE.sl.pair ((Enc.int .i64).pair (Enc.int .i64)).sl)
def toLn (x : (Int × Int) × ByteArray × Bool) : Ln := ⟨x.1.1, x.1.2, L x.2.1, x.2.2⟩
theorem lineE_rep {H : Hp} {cs : List Value} {x : (Int × Int) × ByteArray × Bool} (h : lineE.rep H cs x) : cs = lnC (toLn x) := by
  obtain ⟨c1, c2, rfl, ⟨c3, c4, rfl, ⟨h1, _⟩, ⟨h2, _⟩⟩, ⟨c5, c6, rfl, ⟨h3, _⟩, h4⟩⟩ := h
  rw [h1, h2, h3, (show c6 = [.bool x.2.2] from h4)]; rfl
theorem fileE_rep {H : Hp} {cs : List Value} {x : ByteArray × List ((Int × Int) × ByteArray × Bool) × List (Int × Int)} (h : fileE.rep H cs x) :
    ∃ lp ll lc pp pl pc, cs = [.string x.1, .slice lp ll lc, .slice pp pl pc] ∧ Sn 4 lnC H lp ll lc (x.2.1.map toLn) ∧ Sn 2 pairC H pp pl pc x.2.2 ∧ ll ≤ maxLen := by
  obtain ⟨c1, c2, rfl, ⟨h1, _⟩, ⟨c3, c4, rfl, ⟨lp, ll, lc, rfl, h2⟩, ⟨pp, pl, pc, rfl, h3⟩⟩⟩ := h
  exact ⟨lp, ll, lc, pp, pl, pc, by rw [h1]; rfl, (h2.sn lineE_rep).map, h3.pairs, Nat.le_trans h2.2.1 h2.2.2.1⟩
end Go.Proofs.YtganockeifkecaaDoor
namespace Go.Proofs.YtganockeifkecaaDoor
open Go.V
/-! ### Files that are made -/
/-- Block q is a file that is made: its lines, its pairs, in memory that wasn't there in A. -/
def Fb (A H : Hp) (q : Nat) (f : ByteArray) (ls : List Ln) (ps : List (Int × Int)) : Prop :=
  Le A H ∧ A q = none ∧ ∃ lp ll lc pp pl pc, D3 H q f lp ll lc pp pl pc ∧ Buf 4 A H lp ll lc (ls.flatMap lnC) ∧ Buf 2 A H pp pl pc (ps.flatMap pairC) ∧ Apart lp (some ⟨q, 0, none⟩) ∧ Apart pp (some ⟨q, 0, none⟩) ∧ Apart lp pp
section
variable {A H H' : Hp} {q : Nat} {f : ByteArray} {ls : List Ln} {ps : List (Int × Int)}
theorem pairC_len (x : Int × Int) : (pairC x).length = 2 := rfl
theorem Fb.new {a0 b0 : Option Addr} {a1 a2 b1 b2 : Nat} {q0 : ByteArray} (hA : Le A H) {F : Nat → Hp → Prop} (hF : ∀ q H', Fb A H' q f [] [] → Le H H' → F q H') :
    NEW H [.string q0, .slice a0 a1 a2, .slice b0 b1 b2] fun q H1 => ST H1 q 0 (.string f) fun H2 => ST H2 q 1 (.slice none 0 0) fun H3 => ST H3 q 2 (.slice none 0 0) fun H4 => F q H4 :=
  D3.mk fun q H' hq d hle => hF q H' ⟨hA.trans hle, none_of_le hA hq, none, 0, 0, none, 0, 0, d, Buf.none, Buf.none, Apart.none, Apart.none, Apart.none⟩ hle
theorem Fb.le (h : Fb A H q f ls ps) (hl : Le H H') : Fb A H' q f ls ps := by
  obtain ⟨h1, h2, lp, ll, lc, pp, pl, pc, h3, h4, h5, h6⟩ := h
  exact ⟨h1.trans hl, h2, lp, ll, lc, pp, pl, pc, h3.le hl, h4.le hl, h5.le hl, h6⟩
theorem Fb.getL (h : Fb A H q f ls ps) : ∃ lp ll lc, rd H q 1 = some (.slice lp ll lc) ∧ Sn 4 lnC H lp ll lc ls ∧ ∀ H1, Le H H1 → rd H1 q 1 = some (.slice lp ll lc) ∧ ∀ (x : Ln) (b : Nat) (F : Hp → Prop), H1 b = none → ll ≤ 1000000000 → (∀ H', Fb A H' q f (ls ++ [x]) ps → F H') →
    rd (upd H1 b (lnC x)) q 1 = some (.slice lp ll lc) ∧ APP (upd H1 b (lnC x)) te_api_Line lp ll lc (.slice (some ⟨b, 0, none⟩) 1 1) fun p' l' c' H2 => ST H2 q 1 (.slice p' l' c') F := by
  obtain ⟨h1, h2, lp, ll, lc, pp, pl, pc, h3, h4, h5, h6, h7, h8⟩ := h
  refine ⟨lp, ll, lc, h3.2.1, h4.sn lnC_len (by decide), fun H1 hl => ⟨hl.rd h3.2.1, fun x b F hb hll hF => ⟨((hl.trans (Le.upd hb)).rd h3.2.1), ?_⟩⟩⟩
  have d1 := h3.le hl
  refine ((h4.le hl).pushM (te := te_api_Line) (new := lnC x) rfl (by decide) rfl (by decide) rfl rfl (by simp [te_api_Line]; omega) (fun p' c' H2 hB2 hp hM => ?_) (h1.trans hl)) b hb
  have hq : q ∉ blkL lp := h6.not h4
  have d2 := d1.mod hM hq
  have le2 : Le A H2 := hM.le (h1.trans hl) fun b hb => h4.fr b 0 (blkL_mem h4.zero hb)
  have a1 := h6.of_newQ hp d1.there
  have a2 := h8.of_new hp (h5.le hl)
  have hP2 := (h5.le hl).mod hM fun b o e hb => h8 b 0 o (blkL_mem h4.zero hb) e
  have mq : ∀ {v}, Mod [q] H2 (wr H2 q 1 v) := Mod.refl.wr (.inl (by simp))
  refine st d2.2.1 (hF _ ⟨le2.wr h2, h2, p', ll + 1, c', pp, pl, pc, ⟨by rw [rd_wr_off (by decide)]; exact d2.1, rd_wr_self d2.2.1, by rw [rd_wr_off (by decide)]; exact d2.2.2⟩, ?_, ?_, a1, h7, a2⟩)
  · rw [List.flatMap_append, List.flatMap_singleton]
    exact hB2.mod mq fun b o e hb => by simp at hb; subst hb; exact a1 _ _ _ e rfl
  · exact hP2.mod mq fun b o e hb => by simp at hb; subst hb; exact h7 _ _ _ e rfl
theorem Fb.getP (h : Fb A H q f ls ps) : ∃ pp pl pc, rd H q 2 = some (.slice pp pl pc) ∧ Sn 2 pairC H pp pl pc ps ∧ ∀ H1, Le H H1 → rd H1 q 2 = some (.slice pp pl pc) ∧ ∀ (x : Int × Int) (b : Nat) (F : Hp → Prop), H1 b = none → pl ≤ 1000000000 → (∀ H', Fb A H' q f ls (ps ++ [x]) → F H') →
    rd (upd H1 b (pairC x)) q 2 = some (.slice pp pl pc) ∧ APP (upd H1 b (pairC x)) te_api_Pair pp pl pc (.slice (some ⟨b, 0, none⟩) 1 1) fun p' l' c' H2 => ST H2 q 2 (.slice p' l' c') F := by
  obtain ⟨h1, h2, lp, ll, lc, pp, pl, pc, h3, h4, h5, h6, h7, h8⟩ := h
  refine ⟨pp, pl, pc, h3.2.2, h5.sn pairC_len (by decide), fun H1 hl => ⟨hl.rd h3.2.2, fun x b F hb hll hF => ⟨((hl.trans (Le.upd hb)).rd h3.2.2), ?_⟩⟩⟩
  have d1 := h3.le hl
  refine ((h5.le hl).pushM (te := te_api_Pair) (new := pairC x) rfl (by decide) rfl (by decide) rfl rfl (by simp [te_api_Pair]; omega) (fun p' c' H2 hB2 hp hM => ?_) (h1.trans hl)) b hb
  have hq : q ∉ blkL pp := h7.not h5
  have d2 := d1.mod hM hq
  have le2 : Le A H2 := hM.le (h1.trans hl) fun b hb => h5.fr b 0 (blkL_mem h5.zero hb)
  have a1 := h7.of_newQ hp d1.there
  have a2 := (h8.symm.of_new hp (h4.le hl)).symm
  have hP2 := (h4.le hl).mod hM fun b o e hb => h8 b o 0 e (blkL_mem h5.zero hb)
  have mq : ∀ {v}, Mod [q] H2 (wr H2 q 2 v) := Mod.refl.wr (.inl (by simp))
  refine st d2.2.2 (hF _ ⟨le2.wr h2, h2, lp, ll, lc, p', pl + 1, c', ⟨by rw [rd_wr_off (by decide)]; exact d2.1, by rw [rd_wr_off (by decide)]; exact d2.2.1, rd_wr_self d2.2.2⟩, ?_, ?_, h6, a1, a2⟩)
  · exact hP2.mod mq fun b o e hb => by simp at hb; subst hb; exact h6 _ _ _ e rfl
  · rw [List.flatMap_append, List.flatMap_singleton]
    exact hB2.mod mq fun b o e hb => by simp at hb; subst hb; exact a1 _ _ _ e rfl
/-- A line is dead, or not. -/
theorem flat_set (v : Bool) : ∀ {ls : List Ln} {i : Nat} (h : i < ls.length), (ls.flatMap lnC).set (i * 4 + 3) (.bool v) = (ls.set i { ls[i] with d := v }).flatMap lnC := by
  intro ls
  induction ls with
  | nil => intro i h; simp at h
  | cons x ls ih =>
    intro i h
    cases i with
    | zero => simp [lnC]
    | succ i =>
      have := ih (i := i) (by simpa using h)
      simp only [List.flatMap_cons, List.set_cons_succ, List.getElem_cons_succ]
      rw [List.set_append_right _ _ (by rw [lnC_len]; omega), lnC_len, show (i + 1) * 4 + 3 - 4 = i * 4 + 3 by omega, this]
theorem Fb.dead (h : Fb A H q f ls ps) {i : Nat} (hi : i < ls.length) {v : Bool} {F : Hp → Prop} (hF : ∀ H', Fb A H' q f (ls.set i { ls[i] with d := v }) ps → F H') : ∀ {lp ll lc}, rd H q 1 = some (.slice lp ll lc) → IDX (i : Nat) ll fun k => NIL lp fun b o => ST H b ((o + (k * 4)) + 3) (.bool v) F := by
  obtain ⟨h1, h2, lp, ll, lc, pp, pl, pc, h3, h4, h5, h6, h7, h8⟩ := h
  intro lp' ll' lc' e
  rw [h3.2.1] at e
  simp only [Option.some.injEq, Value.slice.injEq] at e
  obtain ⟨rfl, rfl, rfl⟩ := e
  have s := h4.sn lnC_len (by decide)
  have sl := s.len
  obtain ⟨b, rfl⟩ := h4.some_of (by omega)
  have hb : b ≠ q := fun e => h6 b 0 0 rfl (by rw [e])
  have r : rd H b (0 + i * 4 + 3) = some (.bool ls[i].d) := by
    rcases s.2.2 with h | ⟨b', o', e, hh⟩
    · rw [h] at hi; simp at hi
    · simp only [Option.some.injEq, Addr.mk.injEq, and_true] at e
      obtain ⟨rfl, rfl⟩ := e
      exact hh i hi 3 _ rfl
  have hlen : i * 4 + 3 < (ls.flatMap lnC).length := by rw [flatMap_len lnC_len]; omega
  refine idxN i rfl (by omega) (nil (st r (hF _ ⟨h1.wr (h4.fr b 0 rfl), h2, some ⟨b, 0, none⟩, ll, lc, pp, pl, pc, h3.mod (O := [b]) (Mod.refl.wr (.inl (by simp))) (by simpa using Ne.symm hb), ?_, h5.mod (O := [b]) (Mod.refl.wr (.inl (by simp))) (fun b' o e hb' => by simp at hb'; subst hb'; exact h8 b' 0 o rfl e), h6, h7, h8⟩)))
  have := h4.set (v := .bool v) hlen rfl
  rw [flat_set v hi] at this
  rw [Nat.zero_add]; exact this
/-- To read in it. -/
theorem Fb.use (h : Fb A H q f ls ps) : ∃ lp ll lc pp pl pc, D3 H q f lp ll lc pp pl pc ∧ Sn 4 lnC H lp ll lc ls ∧ Sn 2 pairC H pp pl pc ps := by
  obtain ⟨h1, h2, lp, ll, lc, pp, pl, pc, h3, h4, h5, h6, h7, h8⟩ := h
  exact ⟨lp, ll, lc, pp, pl, pc, h3, h4.sn lnC_len (by decide), h5.sn pairC_len (by decide)⟩
end
/-! ### Rows by hand -/
theorem srtS_tail {M : Nat → Nat → Bool} {n : Nat} : ∀ (m s : Nat), (∀ x y, s ≤ x → M x y = true → x < y) → s + m = n → srtS M n m (List.range' s m) = List.range' s m
  | 0, s, _, _ => rfl
  | m + 1, s, h, e => by
    have hf : (List.range' s (m + 1)).find? (freeL M (List.range' s (m + 1))) = some s := by
      rw [List.range'_succ, List.find?_cons_of_pos]
      unfold freeL
      rw [List.all_eq_true]
      intro g hg
      rw [← List.range'_succ, List.mem_range'_1] at hg
      rw [Bool.or_eq_true, decide_eq_true_eq, Bool.not_eq_true']
      cases hm : M g s with
      | false => exact .inr rfl
      | true => have := h g s hg.1 hm; omega
    have hc : clsM M n s = [s] := by
      rw [clsM_prog (by omega)]
      congr 1
      unfold els behM
      rw [List.filter_eq_nil_iff]
      intro b hb
      have hb' := List.mem_range.1 hb
      intro hh
      simp only [Bool.and_eq_true, decide_eq_true_eq] at hh
      have h1 := h _ _ (Nat.le_refl s) hh.1.2
      have h2 := h _ _ (by omega) hh.2
      omega
    rw [srtS, hf]
    simp only
    rw [hc, List.range'_succ, List.erase_cons_head, srtS_tail m (s + 1) (fun x y hx => h x y (by omega)) (by omega)]
    rfl
theorem hds_all {M : Nat → Nat → Bool} {n : Nat} (h : ∀ x y, M x y = true → x < y) : hdsM M n = List.range n := by
  unfold hdsM els
  rw [List.filter_eq_self]
  intro a _
  unfold fstM
  rw [List.all_eq_true]
  intro b hb
  have := List.mem_range.1 hb
  rw [Bool.not_eq_true']
  cases e : oneM M a b with
  | false => rfl
  | true =>
    rcases oneM_iff.1 e with e | e
    · omega
    · have := h _ _ e.1; omega
theorem srt_lt {M : Nat → Nat → Bool} {n : Nat} (h : ∀ x y, M x y = true → x < y) : srt M n = List.range n := by
  unfold srt
  rw [hds_all h, List.length_range, List.range_eq_range']
  exact srtS_tail n 0 (fun x y _ => h x y) (by omega)
theorem alv_all {ls : List Ln} (h : ∀ x ∈ ls, x.d = false) : alv ls = List.range ls.length := by
  unfold alv els
  rw [List.filter_eq_self]
  intro i hi
  have hi := List.mem_range.1 hi
  rw [lnD hi, h _ (List.getElem_mem hi)]; rfl
theorem rM_all {ls : List Ln} {ps : List (Int × Int)} (h : ∀ x ∈ ls, x.d = false) : rM ls ps = clo (ofM ps ls.length) ls.length := by
  funext x y
  unfold rM
  rw [alv_all h, List.length_range]
  by_cases e : x < ls.length ∧ y < ls.length
  · rw [decide_eq_true e, Bool.true_and]
    unfold cM
    congr 1 <;> simp [List.getD, e.1, e.2]
  · rw [decide_eq_false e, Bool.false_and]
    exact (clo_sup (ofM_sup ps ls.length) x y (by omega)).symm
def lnK (i : Nat) : Ln := ⟨1, (i : Int), [UInt8.ofNat (97 + i % 26), 10], false⟩
def lsN (n : Nat) : List Ln := (List.range n).map lnK
theorem lsN_len (n : Nat) : (lsN n).length = n := by simp [lsN]
theorem lsN_succ (n : Nat) : lsN (n + 1) = lsN n ++ [lnK n] := by unfold lsN; rw [List.range_succ, List.map_append]; rfl
theorem lsN_d (n : Nat) : ∀ x ∈ lsN n, x.d = false := fun x hx => by obtain ⟨i, _, rfl⟩ := List.mem_map.1 hx; rfl
theorem lsN_get {n i : Nat} (h : i < n) : (lsN n)[i]'(by rw [lsN_len]; exact h) = lnK i := by simp [lsN]
theorem lsN_t (n : Nat) : ∀ x ∈ lsN n, x.t.length ≤ 1000000 := fun x hx => by obtain ⟨i, _, rfl⟩ := List.mem_map.1 hx; show ([_, _] : BL).length ≤ _; simp
theorem u8w' (n : Int) : IntKind.wrap .u8 n = n % 256 := by simp [IntKind.wrap, IntKind.bits, IntKind.signed]
/-- Bytes that were just put down. -/
theorem bts_two {b : Nat} {x y : UInt8} {tl : List Value} {H : Hp} {F : ByteArray → Prop} (hF : F (mkB [x, y])) : BTS (upd H b ([.int .u8 ((x.toNat : Nat) : Int), .int .u8 ((y.toNat : Nat) : Int)] ++ tl)) (some ⟨b, 0, none⟩) 2 F := by
  refine ⟨[x, y], rfl, fun i z e => ?_, hF⟩
  match i, e with
  | 0, e => simp at e; subst e; rw [rd_upd_self]; rfl
  | 1, e => simp at e; subst e; rw [rd_upd_self]; rfl
  | i + 2, e => simp at e
end Go.Proofs.YtganockeifkecaaDoor
namespace Go.Proofs.YtganockeifkecaaDoor
open Go.V
/-! ### Sorts: how many bits a number has -/
def lenTab : List UInt8 := [0, 1, 2, 2, 3, 3, 3, 3, 4, 4, 4, 4, 4, 4, 4, 4, 5, 5, 5, 5, 5, 5, 5, 5, 5, 5, 5, 5, 5, 5, 5, 5, 6, 6, 6, 6, 6, 6, 6, 6, 6, 6, 6, 6, 6, 6, 6, 6, 6, 6, 6, 6, 6, 6, 6, 6, 6, 6, 6, 6, 6, 6, 6, 6, 7, 7, 7, 7, 7, 7, 7, 7, 7, 7, 7, 7, 7, 7, 7, 7, 7, 7, 7, 7, 7, 7, 7, 7, 7, 7, 7, 7, 7, 7, 7, 7, 7, 7, 7, 7, 7, 7, 7, 7, 7, 7, 7, 7, 7, 7, 7, 7, 7, 7, 7, 7, 7, 7, 7, 7, 7, 7, 7, 7, 7, 7, 7, 7, 8, 8, 8, 8, 8, 8, 8, 8, 8, 8, 8, 8, 8, 8, 8, 8, 8, 8, 8, 8, 8, 8, 8, 8, 8, 8, 8, 8, 8, 8, 8, 8, 8, 8, 8, 8, 8, 8, 8, 8, 8, 8, 8, 8, 8, 8, 8, 8, 8, 8, 8, 8, 8, 8, 8, 8, 8, 8, 8, 8, 8, 8, 8, 8, 8, 8, 8, 8, 8, 8, 8, 8, 8, 8, 8, 8, 8, 8, 8, 8, 8, 8, 8, 8, 8, 8, 8, 8, 8, 8, 8, 8, 8, 8, 8, 8, 8, 8, 8, 8, 8, 8, 8, 8, 8, 8, 8, 8, 8, 8, 8, 8, 8, 8, 8, 8, 8, 8, 8, 8, 8, 8, 8, 8, 8, 8, 8, 8]
theorem lenTab_all : (List.range 256).all (fun k => decide ((lenTab.getD k 0).toNat = Sort.bitsLen k)) = true := by kernel_rfl
theorem lenTab_at {k : Nat} (h : k < 256) : (lenTab.getD k 0).toNat = Sort.bitsLen k := of_decide_eq_true (List.all_eq_true.1 lenTab_all k (List.mem_range.2 h))
theorem bitsLen_shift {n s : Nat} (h : 2 ^ s ≤ n) : Sort.bitsLen n = Sort.bitsLen (n / 2 ^ s) + s := by
  have hp : 0 < 2 ^ s := Nat.pow_pos (by decide)
  have h1 := Sort.lt_two_pow_bitsLen n
  have h2 := Sort.lt_two_pow_bitsLen (n / 2 ^ s)
  have hs : s ≤ Sort.bitsLen n := by
    rcases Nat.lt_or_ge (Sort.bitsLen n) s with h3 | h3
    · have := (Sort.bitsLen_le_iff n (s - 1)).1 (by omega)
      have h4 : 2 ^ (s - 1) ≤ 2 ^ s := Nat.pow_le_pow_right (by decide) (by omega)
      omega
    · exact h3
  refine Nat.le_antisymm ((Sort.bitsLen_le_iff _ _).2 ?_) ?_
  · rw [Nat.pow_add]
    exact (Nat.div_lt_iff_lt_mul hp).1 h2
  · have : Sort.bitsLen (n / 2 ^ s) ≤ Sort.bitsLen n - s := (Sort.bitsLen_le_iff _ _).2 ((Nat.div_lt_iff_lt_mul hp).2 (by rw [← Nat.pow_add, Nat.sub_add_cancel hs]; exact h1))
    omega
theorem bitsLen_le64 {n : Nat} (h : n < 4294967296) : Sort.bitsLen n ≤ 32 := (Sort.bitsLen_le_iff n 32).2 (by simpa using h)
theorem math_bits_Len64.k3c {n m : Nat} {K : Int → Hp → Prop} {H : Hp} (hn : n < 256) (hm : m ≤ 1000) (hK : K ((m + Sort.bitsLen n : Nat) : Int) H) : math_bits_Len64.k3 K (n : Nat) (m : Nat) H := by
  unfold math_bits_Len64.k3
  have hb := bitsLen_le64 (n := n) (by omega)
  refine idxN n ?_ (show n < (bs lenTab).size from Nat.lt_of_lt_of_eq hn (by kernel_rfl)) ?_
  · rw [show ∀ x : Int, IntKind.wrap .u8 x = x % 256 from fun x => by simp [IntKind.wrap, IntKind.bits, IntKind.signed]]; omega
  show CHK .i64 (((lenTab.getD n 0).toNat : Nat) : Int) _
  rw [lenTab_at hn]
  exact chk (by omega) (chk (by omega) (by rw [← Int.natCast_add]; exact hK))
theorem math_bits_Len64.c {n : Nat} {K : Int → Hp → Prop} {H : Hp} (hn : n < 4294967296) (hK : K ((Sort.bitsLen n : Nat) : Int) H) : math_bits_Len64.C (n : Nat) H K := by
  apply math_bits_Len64.of
  have k2 : ∀ (x m : Nat), x < 65536 → m ≤ 100 → Sort.bitsLen n = m + Sort.bitsLen x → math_bits_Len64.k2 K (x : Nat) (m : Nat) H := by
    intro x m hx hm e
    unfold math_bits_Len64.k2
    refine bcd (fun h => ⟨by decide, chk (by omega) ?_⟩) fun h => math_bits_Len64.k3c (by omega) (by omega) (by rw [← e]; exact hK)
    have := ishr_N x 8 (by decide)
    rw [show ((8 : Nat) : Int) = 8 from rfl] at this
    rw [this, show ((m : Nat) : Int) + 8 = ((m + 8 : Nat) : Int) by omega]
    refine math_bits_Len64.k3c (by omega) (by omega) ?_
    have h8 := bitsLen_shift (n := x) (s := 8) (by omega)
    rw [show m + 8 + Sort.bitsLen (x / 2 ^ 8) = Sort.bitsLen n by omega]; exact hK
  refine bcd (fun h => absurd h (by omega)) fun _ => ?_
  unfold math_bits_Len64.k1
  refine bcd (fun h => ⟨by decide, chk (by omega) ?_⟩) fun h => k2 n 0 (by omega) (by omega) (by omega)
  have := ishr_N n 16 (by decide)
  rw [show ((16 : Nat) : Int) = 16 from rfl] at this
  rw [this]
  have h16 := bitsLen_shift (n := n) (s := 16) (by omega)
  exact k2 (n / 2 ^ 16) 16 (by omega) (by omega) (by omega)
theorem math_bits_Len.c {n : Nat} {K : Int → Hp → Prop} {H : Hp} (hn : n < 4294967296) (hK : K ((Sort.bitsLen n : Nat) : Int) H) : math_bits_Len.C (n : Nat) H K := by
  apply math_bits_Len.of
  exact math_bits_Len64.c hn hK
theorem slices_nextPowerOfTwo.c {n : Nat} {K : Int → Hp → Prop} {H : Hp} (hn : n < 4294967296) (hK : K ((2 ^ Sort.bitsLen n : Nat) : Int) H) : slices_nextPowerOfTwo.C (n : Nat) H K := by
  apply slices_nextPowerOfTwo.of
  unfold slices_nextPowerOfTwo.F
  rw [wrapU n (by omega)]
  refine math_bits_Len.c hn ⟨by omega, ?_⟩
  rw [ishl_1s _ (by have := bitsLen_le64 hn; omega)]; exact hK
theorem slices_xorshift_Next.c {q : Nat} {n : Int} {K : Int → Hp → Prop} {H : Hp} (hq : rd H q 0 = some (.int .u64 n)) (hK : ∀ m H', rd H' q 0 = some (.int .u64 m) → Mod [q] H H' → K m H') : slices_xorshift_Next.C (some ⟨q, 0, none⟩) H K := by
  apply slices_xorshift_Next.of
  refine nil (ldI_i hq (nil (ldI_i hq ⟨by decide, nil (st hq ?_)⟩)))
  have r1 := rd_wr_self (v := .int .u64 (ixor .u64 n (ishl .u64 n 13))) hq
  refine nil (ldI_i r1 (nil (ldI_i r1 ⟨by decide, nil (st r1 ?_)⟩)))
  have r2 := rd_wr_self (v := .int .u64 (ixor .u64 (ixor .u64 n (ishl .u64 n 13)) (ishr .u64 (ixor .u64 n (ishl .u64 n 13)) 7))) r1
  refine nil (ldI_i r2 (nil (ldI_i r2 ⟨by decide, nil (st r2 ?_)⟩)))
  exact nil (ldI_i (rd_wr_self r2) (hK _ _ (rd_wr_self r2) (((Mod.refl.wr (.inl (by simp))).wr (.inl (by simp))).wr (.inl (by simp)))))
end Go.Proofs.YtganockeifkecaaDoor
namespace Go.Proofs.YtganockeifkecaaDoor
open Go.V
/-! ### Sorts: numbers -/
abbrev fU (x : Int) : Value := .int .u32 x
theorem rdU {H : Hp} {p : Option Addr} {l : Nat} {d : Array Int} (h : A1 fU H p l d) (k : Nat) {e : Int} (he : e = (k : Int)) (hk : k < d.size) {F : Int → Prop} (hF : F d[k]!) : IDX e l fun k => NIL p fun b o => ldI .u32 (rd H b (o + k)) F := A1.I (g := fun x => x) h (fun _ => rfl) k he hk hF
theorem swU {H : Hp} {p : Option Addr} {l : Nat} {d : Array Int} (h : A1 fU H p l d) {i j : Nat} {ei ej : Int} (hi : i < d.size) (hj : j < d.size) (hei : ei = (i : Int)) (hej : ej = (j : Int)) {F : Hp → Prop}
    (hF : ∀ H', A1 fU H' p l (Sort.swp d i j) → Mod (blkL p) H H' → F H') : IDX ei l fun k => NIL p fun b o => ST H b (o + k) (.int .u32 d[j]!) fun H1 => IDX ej l fun k => NIL p fun b o => ST H1 b (o + k) (.int .u32 d[i]!) F := A1.sw h (fun _ => rfl) hi hj hei hej hF
section
variable {H : Hp} {p : Option Addr} {l cc : Nat} {d : Array Int}
end
section
variable {H : Hp} {p : Option Addr} {l cc : Nat} {d : Array Int}
end
end Go.Proofs.YtganockeifkecaaDoor
namespace Go.Proofs.YtganockeifkecaaDoor
open Go.V
/-! ### Sorts: texts -/
theorem mkB_list (x : BL) : (mkB x).toList = x := ByteArray.toList_eq _
theorem rdT {H : Hp} {p : Option Addr} {l : Nat} {d : Array BL} (h : A1 sv H p l d) (k : Nat) {e : Int} (he : e = (k : Int)) (hk : k < d.size) {F : ByteArray → Prop} (hF : F (mkB d[k]!)) : IDX e l fun k => NIL p fun b o => ldS (rd H b (o + k)) F := A1.S (g := mkB) h (fun _ => rfl) k he hk hF
theorem swT {H : Hp} {p : Option Addr} {l : Nat} {d : Array BL} (h : A1 sv H p l d) {i j : Nat} {ei ej : Int} (hi : i < d.size) (hj : j < d.size) (hei : ei = (i : Int)) (hej : ej = (j : Int)) {F : Hp → Prop}
    (hF : ∀ H', A1 sv H' p l (Sort.swp d i j) → Mod (blkL p) H H' → F H') : IDX ei l fun k => NIL p fun b o => ST H b (o + k) (.string (mkB d[j]!)) fun H1 => IDX ej l fun k => NIL p fun b o => ST H1 b (o + k) (.string (mkB d[i]!)) F := A1.sw h (fun _ => rfl) hi hj hei hej hF
section
variable {H : Hp} {p : Option Addr} {l cc : Nat} {d : Array BL}
end
section
variable {H : Hp} {p : Option Addr} {l cc : Nat} {d : Array BL}
end
end Go.Proofs.YtganockeifkecaaDoor
namespace Go.Proofs.YtganockeifkecaaDoor
open Go.V
/-! ### Rows that rise -/
def cmp3 {α : Type} (lt : α → α → Bool) (x y : α) : Int := if lt x y then -1 else if lt y x then 1 else 0
theorem cmp3_ge {α : Type} {lt : α → α → Bool} {x y : α} (h : 0 ≤ cmp3 lt x y) : lt x y = false := by
  unfold cmp3 at h
  cases e : lt x y with
  | false => rfl
  | true => rw [e, if_pos rfl] at h; omega
theorem cmp3_lt {α : Type} {lt : α → α → Bool} {x y : α} (h : cmp3 lt x y < 0) : lt x y = true := by
  unfold cmp3 at h
  cases e : lt x y with
  | true => rfl
  | false =>
    rw [e, if_neg (by decide)] at h
    split at h <;> omega
def rsB {α : Type} (lt : α → α → Bool) : List α → Bool
  | a :: b :: r => lt a b && rsB lt (b :: r)
  | _ => true
theorem rsB_iff {α : Type} {lt : α → α → Bool} : ∀ {xs : List α}, rsB lt xs = true ↔ ∀ i (h : i + 1 < xs.length), lt xs[i] xs[i + 1] = true
  | [] => by simp [rsB]
  | [a] => by simp [rsB]
  | a :: b :: r => by
    rw [rsB, Bool.and_eq_true, rsB_iff (xs := b :: r)]
    constructor
    · rintro ⟨h1, h2⟩ i h
      cases i with
      | zero => exact h1
      | succ i => exact h2 i (by simpa using h)
    · intro h
      exact ⟨h 0 (by simp), fun i hi => h (i + 1) (by simpa using hi)⟩
theorem rsB_one {α : Type} {lt : α → α → Bool} {xs : List α} (h : xs.length ≤ 1) : rsB lt xs = true := rsB_iff.2 fun i hi => by omega
theorem rsB_bad {α : Type} {lt : α → α → Bool} {xs : List α} {i : Nat} (hi : i < xs.length) (h1 : 1 ≤ i) (h : lt (xs[i - 1]'(by omega)) xs[i] = false) : rsB lt xs = false := by
  cases e : rsB lt xs with
  | false => rfl
  | true =>
    have := rsB_iff.1 e (i - 1) (by omega)
    simp only [show i - 1 + 1 = i by omega] at this
    rw [this] at h; cases h
theorem rsB_next {α : Type} {lt : α → α → Bool} {xs : List α} {i : Nat} (hi : i < xs.length) (h1 : 1 ≤ i) (hr : rsB lt (xs.take i) = true) (h : lt (xs[i - 1]'(by omega)) xs[i] = true) : rsB lt (xs.take (i + 1)) = true := by
  rw [rsB_iff] at hr ⊢
  intro j hj
  rw [List.length_take] at hj
  simp only [List.getElem_take]
  by_cases e : j + 1 = i
  · have : j = i - 1 := by omega
    subst this
    simp only [show i - 1 + 1 = i by omega]
    exact h
  · have := hr j (by rw [List.length_take]; omega)
    simpa only [List.getElem_take] using this
theorem rsB_pw {α : Type} {lt : α → α → Bool} (ht : ∀ x y z, lt x y = true → lt y z = true → lt x z = true) : ∀ {xs : List α}, rsB lt xs = true ↔ xs.Pairwise fun a b => lt a b = true
  | [] => by simp [rsB]
  | [a] => by simp [rsB]
  | a :: b :: r => by
    rw [rsB, Bool.and_eq_true, rsB_pw ht (xs := b :: r)]
    constructor
    · rintro ⟨h1, h2⟩
      refine List.pairwise_cons.2 ⟨fun x hx => ?_, h2⟩
      rcases List.mem_cons.1 hx with rfl | hx
      · exact h1
      · exact ht _ _ _ h1 ((List.pairwise_cons.1 h2).1 x hx)
    · intro h
      obtain ⟨h1, h2⟩ := List.pairwise_cons.1 h
      exact ⟨h1 b (by simp), h2⟩
/-- Each once, of neighbours that are alike. -/
def ddTo {α : Type} [DecidableEq α] (xs : List α) : Nat → List α
  | 0 => []
  | j + 1 => if 0 < j ∧ xs[j]? = xs[j - 1]? then ddTo xs j else ddTo xs j ++ (xs[j]?).toList
section
variable {α : Type} [DecidableEq α]
theorem ddTo_len (xs : List α) : ∀ j, (ddTo xs j).length ≤ j
  | 0 => Nat.le_refl _
  | j + 1 => by
    have := ddTo_len xs j
    unfold ddTo
    split
    · omega
    · rw [List.length_append]
      have : ((xs[j]?).toList).length ≤ 1 := by cases xs[j]? <;> simp
      omega
theorem ddTo_mem (xs : List α) : ∀ j, j ≤ xs.length → ∀ x, x ∈ ddTo xs j ↔ x ∈ xs.take j
  | 0, _, x => by simp [ddTo]
  | j + 1, hj, x => by
    have hj' : j < xs.length := by omega
    have ih := ddTo_mem xs j (by omega) x
    rw [List.take_succ_eq_append_getElem hj', List.mem_append, List.mem_singleton]
    unfold ddTo
    split
    · rename_i h
      rw [ih]
      refine ⟨.inl, fun h' => h'.elim id fun e => ?_⟩
      have h2 : j - 1 < xs.length := by omega
      rw [List.getElem?_eq_getElem hj', List.getElem?_eq_getElem h2] at h
      rw [e, Option.some.inj h.2]
      exact List.mem_iff_getElem.2 ⟨j - 1, by rw [List.length_take]; omega, by rw [List.getElem_take]⟩
    · rw [List.getElem?_eq_getElem hj', List.mem_append, ih]; simp
theorem ddTo_pw {lt : α → α → Bool} (ha : ∀ x y, lt x y = false → lt y x = false → x = y) {xs : List α} (hs : xs.Pairwise fun a b => lt b a = false) : ∀ j, j ≤ xs.length → (ddTo xs j).Pairwise fun a b => lt a b = true
  | 0, _ => by simp [ddTo]
  | j + 1, hj => by
    have hj' : j < xs.length := by omega
    have ih := ddTo_pw ha hs j (by omega)
    unfold ddTo
    split
    · exact ih
    · rename_i h
      rw [List.getElem?_eq_getElem hj']
      refine List.pairwise_append.2 ⟨ih, by simp, fun y hy z hz => ?_⟩
      simp at hz; subst hz
      rw [ddTo_mem xs j (by omega)] at hy
      obtain ⟨t, ht, rfl⟩ := List.mem_iff_getElem.1 hy
      rw [List.length_take] at ht
      rw [List.getElem_take]
      have hg := List.pairwise_iff_getElem.1 hs
      cases e : lt xs[t] xs[j] with
      | true => rfl
      | false =>
        have e1 := ha _ _ e (hg t j (by omega) hj' (by omega))
        have e2 : lt (xs[j - 1]'(by omega)) xs[j] = false := by
          by_cases ht1 : t = j - 1
          · simp only [← ht1]; exact e
          · have := hg t (j - 1) (by omega) (by omega) (by omega)
            rw [e1] at this; exact this
        have e3 := hg (j - 1) j (by omega) hj' (by omega)
        have e4 := ha _ _ e2 e3
        exact absurd ⟨by omega, by rw [List.getElem?_eq_getElem hj', List.getElem?_eq_getElem (show j - 1 < xs.length by omega), e4]⟩ h
/-- Into a rising row. -/
def putL (lt : α → α → Bool) (l : List α) (x : α) : List α := if x ∈ l then l else l.takeWhile (fun y => lt y x) ++ x :: l.dropWhile fun y => lt y x
def uniqL (lt : α → α → Bool) (zs : List α) : List α := zs.foldl (putL lt) []
theorem putL_mem {lt : α → α → Bool} {l : List α} {x y : α} : y ∈ putL lt l x ↔ y ∈ l ∨ y = x := by
  unfold putL
  split
  · rename_i h
    exact ⟨.inl, fun h' => h'.elim id fun e => e ▸ h⟩
  · conv => rhs; rw [← List.takeWhile_append_dropWhile (p := fun y => lt y x) (l := l)]
    simp only [List.mem_append, List.mem_cons]
    constructor
    · rintro (h | h | h)
      · exact .inl (.inl h)
      · exact .inr h
      · exact .inl (.inr h)
    · rintro ((h | h) | h)
      · exact .inl h
      · exact .inr (.inr h)
      · exact .inr (.inl h)
omit [DecidableEq α] in
theorem mem_dropWhile_not {lt : α → α → Bool} {x : α} (ht : ∀ x y z, lt x y = true → lt y z = true → lt x z = true) : ∀ {l : List α}, l.Pairwise (fun a b => lt a b = true) → ∀ y ∈ l.dropWhile (fun y => lt y x), lt y x = false
  | [], _, y, h => by simp at h
  | a :: l, hp, y, h => by
    obtain ⟨h1, h2⟩ := List.pairwise_cons.1 hp
    cases e : lt a x with
    | true =>
      rw [List.dropWhile_cons_of_pos (by exact e)] at h
      exact mem_dropWhile_not ht h2 y h
    | false =>
      rw [List.dropWhile_cons_of_neg (by rw [e]; decide)] at h
      rcases List.mem_cons.1 h with rfl | h
      · exact e
      · cases e' : lt y x with
        | false => rfl
        | true => rw [ht _ _ _ (h1 y h) e'] at e; cases e
omit [DecidableEq α] in
theorem mem_takeWhile_lt {lt : α → α → Bool} {x : α} : ∀ {l : List α}, ∀ y ∈ l.takeWhile (fun y => lt y x), lt y x = true
  | [], y, h => by simp at h
  | a :: l, y, h => by
    cases e : lt a x with
    | true =>
      rw [List.takeWhile_cons_of_pos (by exact e)] at h
      rcases List.mem_cons.1 h with rfl | h
      · exact e
      · exact mem_takeWhile_lt y h
    | false => rw [List.takeWhile_cons_of_neg (by rw [e]; decide)] at h; cases h
theorem putL_pw {lt : α → α → Bool} (ht : ∀ x y z, lt x y = true → lt y z = true → lt x z = true) (ha : ∀ x y, lt x y = false → lt y x = false → x = y) {l : List α} {x : α} (h : l.Pairwise fun a b => lt a b = true) : (putL lt l x).Pairwise fun a b => lt a b = true := by
  unfold putL
  split
  · exact h
  · rename_i hx
    have h2 := h
    rw [← List.takeWhile_append_dropWhile (p := fun y => lt y x) (l := l)] at h2
    obtain ⟨p1, p2, p3⟩ := List.pairwise_append.1 h2
    have hgt : ∀ y ∈ l.dropWhile (fun y => lt y x), lt x y = true := fun y hy => by
      cases e : lt x y with
      | true => rfl
      | false => exact absurd (ha _ _ e (mem_dropWhile_not ht h y hy)) fun e => hx (by rw [e]; exact (List.dropWhile_sublist _).subset hy)
    refine List.pairwise_append.2 ⟨p1, List.pairwise_cons.2 ⟨hgt, p2⟩, fun a ha' b hb => ?_⟩
    rcases List.mem_cons.1 hb with rfl | hb
    · exact mem_takeWhile_lt a ha'
    · exact p3 a ha' b hb
theorem uniqL_snoc {lt : α → α → Bool} {zs : List α} {x : α} : uniqL lt (zs ++ [x]) = putL lt (uniqL lt zs) x := by unfold uniqL; rw [List.foldl_append]; rfl
theorem foldl_put_mem {lt : α → α → Bool} : ∀ (zs l : List α) (y : α), y ∈ zs.foldl (putL lt) l ↔ y ∈ l ∨ y ∈ zs
  | [], l, y => by simp
  | z :: zs, l, y => by
    rw [List.foldl_cons, foldl_put_mem zs, putL_mem, List.mem_cons]
    constructor
    · rintro ((h | h) | h)
      · exact .inl h
      · exact .inr (.inl h)
      · exact .inr (.inr h)
    · rintro (h | h | h)
      · exact .inl (.inl h)
      · exact .inl (.inr h)
      · exact .inr h
theorem uniqL_mem {lt : α → α → Bool} {zs : List α} {y : α} : y ∈ uniqL lt zs ↔ y ∈ zs := by unfold uniqL; rw [foldl_put_mem]; simp
theorem foldl_put_pw {lt : α → α → Bool} (ht : ∀ x y z, lt x y = true → lt y z = true → lt x z = true) (ha : ∀ x y, lt x y = false → lt y x = false → x = y) : ∀ (zs l : List α), l.Pairwise (fun a b => lt a b = true) → (zs.foldl (putL lt) l).Pairwise fun a b => lt a b = true
  | [], _, h => h
  | z :: zs, l, h => by rw [List.foldl_cons]; exact foldl_put_pw ht ha zs _ (putL_pw ht ha h)
theorem uniqL_pw {lt : α → α → Bool} (ht : ∀ x y z, lt x y = true → lt y z = true → lt x z = true) (ha : ∀ x y, lt x y = false → lt y x = false → x = y) {zs : List α} : (uniqL lt zs).Pairwise fun a b => lt a b = true := foldl_put_pw ht ha zs [] List.Pairwise.nil
/-- Sorted, each once. -/
theorem dd_uniq {lt : α → α → Bool} (hi : ∀ x, lt x x = false) (ht : ∀ x y z, lt x y = true → lt y z = true → lt x z = true) (ha : ∀ x y, lt x y = false → lt y x = false → x = y) {ys zs : List α} (hp : ys.Perm zs) (hs : ys.Pairwise fun a b => lt b a = false) : ddTo ys ys.length = uniqL lt zs :=
  sorted_lt_mem hi ha ht (ddTo_pw ha hs _ (Nat.le_refl _)) (uniqL_pw ht ha) fun x => by rw [ddTo_mem ys _ (Nat.le_refl _), List.take_length, uniqL_mem, hp.mem_iff]
end
theorem rd_wrN_lt (b : Nat) : ∀ (l : List Value) (o : Nat) (H : Hp) (t : Nat), t < o → rd (wrN H b o l) b t = rd H b t
  | [], _, _, _, _ => rfl
  | v :: l, o, H, t, h => by rw [wrN, rd_wrN_lt b l (o + 1) _ t (by omega), rd_wr_off (by omega)]
/-! ### Lines' numbers, edges -/
structure Lid where
  p : Int
  n : Int
  deriving DecidableEq
structure Ed where
  a : Lid
  b : Lid
  deriving DecidableEq
def lidC (x : Lid) : List Value := [.int .u32 x.p, .int .i64 x.n]
def edC (x : Ed) : List Value := [.int .u32 x.a.p, .int .i64 x.a.n, .int .u32 x.b.p, .int .i64 x.b.n]
theorem lidC_len (x : Lid) : (lidC x).length = 2 := rfl
theorem edC_len (x : Ed) : (edC x).length = 4 := rfl
section
variable {H : Hp} {p : Option Addr} {l c : Nat}
theorem rsU {xs : List Int} (h : Sl fU H p l c xs) {k : Nat} {e : Int} (he : e = (k : Int)) (hk : k < xs.length) {F : Int → Prop} (hF : F xs[k]) : IDX e l fun k => NIL p fun b o => ldI .u32 (rd H b (o + k)) F := by
  have hl := h.len
  obtain ⟨b, o, rfl, hh⟩ := h.at hk
  exact idxN k he (by omega) (nil (ldI_i (hh k hk) hF))
theorem rsT {xs : List BL} (h : Sl sv H p l c xs) {k : Nat} {e : Int} (he : e = (k : Int)) (hk : k < xs.length) {F : ByteArray → Prop} (hF : F (mkB xs[k])) : IDX e l fun k => NIL p fun b o => ldS (rd H b (o + k)) F := by
  have hl := h.len
  obtain ⟨b, o, rfl, hh⟩ := h.at hk
  exact idxN k he (by omega) (nil (ldS_i (hh k hk) hF))
theorem rsL {xs : List Lid} (h : Sn 2 lidC H p l c xs) {k : Nat} {e : Int} (he : e = (k : Int)) (hk : k < xs.length) {F : Int → Int → Prop} (hF : F xs[k].p xs[k].n) : IDX e l fun k => NIL p fun b o => ldI .u32 (rd H b (o + (k * 2))) fun x => ldI .i64 (rd H b ((o + (k * 2)) + 1)) fun y => F x y := by
  have hl := h.len
  obtain ⟨b, o, rfl, hh⟩ := h.at hk
  exact idxN k he (by omega) (nil (ldI_i (hh k hk 0 _ rfl) (ldI_i (hh k hk 1 _ rfl) hF)))
theorem rsE {xs : List Ed} (h : Sn 4 edC H p l c xs) {k : Nat} {e : Int} (he : e = (k : Int)) (hk : k < xs.length) {F : Int → Int → Int → Int → Prop} (hF : F xs[k].a.p xs[k].a.n xs[k].b.p xs[k].b.n) : IDX e l fun k => NIL p fun b o => ldI .u32 (rd H b (o + (k * 4))) fun x => ldI .i64 (rd H b ((o + (k * 4)) + 1)) fun y => ldI .u32 (rd H b (((o + (k * 4)) + 1) + 1)) fun z => ldI .i64 (rd H b ((((o + (k * 4)) + 1) + 1) + 1)) fun w => F x y z w := by
  have hl := h.len
  obtain ⟨b, o, rfl, hh⟩ := h.at hk
  exact idxN k he (by omega) (nil (ldI_i (hh k hk 0 _ rfl) (ldI_i (hh k hk 1 _ rfl) (ldI_i (hh k hk 2 _ rfl) (ldI_i (hh k hk 3 _ rfl) hF)))))
end
theorem mkB_eq {x y : BL} (h : mkB x = mkB y) : x = y := congrArg L h
theorem eqId {α : Type} {x y : α} (h : x = y) : x = y := h
theorem neL {x y : Lid} {A B : Prop} (h : ¬ x = y → A) (h' : x = y → B) : bc (!(decide (x.p = y.p) && decide (x.n = y.n))) A B := by
  have e : (decide (x.p = y.p) && decide (x.n = y.n)) = decide (x = y) := by
    obtain ⟨a, b⟩ := x
    obtain ⟨c, d⟩ := y
    rw [Bool.eq_iff_iff]; simp
  rw [e]
  exact bcn (fun hh => h (of_decide_eq_false hh)) fun hh => h' (of_decide_eq_true hh)
theorem neE {x y : Ed} {A B : Prop} (h : ¬ x = y → A) (h' : x = y → B) : bc (!((decide (x.a.p = y.a.p) && decide (x.a.n = y.a.n)) && (decide (x.b.p = y.b.p) && decide (x.b.n = y.b.n)))) A B := by
  have e : ((decide (x.a.p = y.a.p) && decide (x.a.n = y.a.n)) && (decide (x.b.p = y.b.p) && decide (x.b.n = y.b.n))) = decide (x = y) := by
    obtain ⟨⟨a, b⟩, ⟨a', b'⟩⟩ := x
    obtain ⟨⟨c, d⟩, ⟨c', d'⟩⟩ := y
    rw [Bool.eq_iff_iff]; simp
  rw [e]
  exact bcn (fun hh => h (of_decide_eq_false hh)) fun hh => h' (of_decide_eq_true hh)
def edV (x : Ed) : Value := .agg ⟨edC x⟩
def lidV (x : Lid) : Value := .agg ⟨lidC x⟩
theorem bcdT {x y : BL} {A B : Prop} (h : ¬ x = y → A) (h' : x = y → B) : bc (decide (¬ mkB x = mkB y)) A B := bcd (fun hh => h fun e => hh (by rw [e])) fun hh => h' (mkB_eq (Classical.not_not.1 hh))
theorem bcdU {x y : Int} {A B : Prop} (h : ¬ x = y → A) (h' : x = y → B) : bc (decide (¬ x = y)) A B := bcd h fun hh => h' (Classical.not_not.1 hh)
section
variable {H : Hp} {p : Option Addr} {l cc : Nat} {xs : List Int}
end
section
variable {H : Hp} {p : Option Addr} {l cc : Nat} {xs : List Int}
end
section
variable {H : Hp} {p : Option Addr} {l cc : Nat} {xs : List BL}
end
section
variable {H : Hp} {p : Option Addr} {l cc : Nat} {xs : List BL}
end
section
variable {H : Hp} {p : Option Addr} {l cc : Nat} {xs : List Ed}
end
section
variable {H : Hp} {p : Option Addr} {l cc : Nat} {xs : List Lid}
end
section
variable {H : Hp} {p : Option Addr} {l cc : Nat} {xs : List Int}
end
section
variable {H : Hp} {p : Option Addr} {l cc : Nat} {xs : List BL}
end
section
variable {H : Hp} {p : Option Addr} {l cc : Nat} {xs : List Ed}
end
section
variable {H : Hp} {p : Option Addr} {l cc : Nat} {xs : List Lid}
end
end Go.Proofs.YtganockeifkecaaDoor
namespace Go.Proofs.YtganockeifkecaaDoor
open Go.V
/-! ### Patches -/
structure Hk where
  path : BL
  adds : List BL
  edges : List Ed
  kills : List Lid
  deriving DecidableEq
structure Pt where
  id : Int
  deps : List Int
  makes : List BL
  drops : List BL
  hunks : List Hk
  deriving DecidableEq
/-- A slice of hunks. -/
def HkH (H : Hp) (p : Option Addr) (l c : Nat) (hs : List Hk) : Prop :=
  l = hs.length ∧ l ≤ c ∧ (hs = [] ∨ ∃ b o, p = some ⟨b, o, none⟩ ∧ ∀ i (h : i < hs.length), ∃ ap al ac ep el ec kp kl kc, rd H b (o + i * 4) = some (.string (mkB hs[i].path)) ∧ rd H b (o + i * 4 + 1) = some (.slice ap al ac) ∧ rd H b (o + i * 4 + 1 + 1) = some (.slice ep el ec) ∧ rd H b (o + i * 4 + 1 + 1 + 1) = some (.slice kp kl kc) ∧
    Sl sv H ap al ac hs[i].adds ∧ Sn 4 edC H ep el ec hs[i].edges ∧ Sn 2 lidC H kp kl kc hs[i].kills)
theorem Sn_le {α : Type} {n : Nat} {g : α → List Value} {H H' : Hp} {p : Option Addr} {l c : Nat} {xs : List α} (h : Sn n g H p l c xs) (hl : Le H H') : Sn n g H' p l c xs := h.le hl
theorem HkH_le {H H' : Hp} {p : Option Addr} {l c : Nat} {hs : List Hk} (h : HkH H p l c hs) (hl : Le H H') : HkH H' p l c hs := by
  refine ⟨h.1, h.2.1, h.2.2.imp id fun ⟨b, o, e, hh⟩ => ⟨b, o, e, fun i hi => ?_⟩⟩
  obtain ⟨ap, al, ac, ep, el, ec, kp, kl, kc, h1, h2, h3, h4, h5, h6, h7⟩ := hh i hi
  exact ⟨ap, al, ac, ep, el, ec, kp, kl, kc, hl.rd h1, hl.rd h2, hl.rd h3, hl.rd h4, h5.le hl, h6.le hl, h7.le hl⟩
theorem rsH {H : Hp} {p : Option Addr} {l c : Nat} {hs : List Hk} (h : HkH H p l c hs) {k : Nat} {e : Int} (he : e = (k : Int)) (hk : k < hs.length) {F : ByteArray → Option Addr → Nat → Nat → Option Addr → Nat → Nat → Option Addr → Nat → Nat → Prop}
    (hF : ∀ ap al ac ep el ec kp kl kc, Sl sv H ap al ac hs[k].adds → Sn 4 edC H ep el ec hs[k].edges → Sn 2 lidC H kp kl kc hs[k].kills → F (mkB hs[k].path) ap al ac ep el ec kp kl kc) :
    IDX e l fun k => NIL p fun b o => ldS (rd H b (o + (k * 4))) fun x => ldL (rd H b ((o + (k * 4)) + 1)) fun ap al ac => ldL (rd H b (((o + (k * 4)) + 1) + 1)) fun ep el ec => ldL (rd H b ((((o + (k * 4)) + 1) + 1) + 1)) fun kp kl kc => F x ap al ac ep el ec kp kl kc := by
  have hl := h.1
  rcases h.2.2 with h0 | ⟨b, o, rfl, hh⟩
  · subst h0; simp at hk
  · obtain ⟨ap, al, ac, ep, el, ec, kp, kl, kc, h1, h2, h3, h4, h5, h6, h7⟩ := hh k hk
    exact idxN k he (by omega) (nil (ldS_i h1 (ldL_i h2 (ldL_i h3 (ldL_i h4 (hF _ _ _ _ _ _ _ _ _ h5 h6 h7))))))
/-- A block of a hunk. -/
def D4 (H : Hp) (b : Nat) (f : ByteArray) (ap : Option Addr) (al ac : Nat) (ep : Option Addr) (el ec : Nat) (kp : Option Addr) (kl kc : Nat) : Prop := rd H b 0 = some (.string f) ∧ rd H b 1 = some (.slice ap al ac) ∧ rd H b 2 = some (.slice ep el ec) ∧ rd H b 3 = some (.slice kp kl kc)
section
variable {H H' : Hp} {b : Nat} {f : ByteArray} {ap ep kp : Option Addr} {al ac el ec kl kc : Nat} {O : List Nat}
theorem D4.new : D4 (upd H b [.string f, .slice ap al ac, .slice ep el ec, .slice kp kl kc]) b f ap al ac ep el ec kp kl kc := ⟨by rw [rd_upd_self]; rfl, by rw [rd_upd_self]; rfl, by rw [rd_upd_self]; rfl, by rw [rd_upd_self]; rfl⟩
theorem D4.le (h : D4 H b f ap al ac ep el ec kp kl kc) (hl : Le H H') : D4 H' b f ap al ac ep el ec kp kl kc := ⟨hl.rd h.1, hl.rd h.2.1, hl.rd h.2.2.1, hl.rd h.2.2.2⟩
theorem D4.mod (h : D4 H b f ap al ac ep el ec kp kl kc) (hl : Mod O H H') (hb : b ∉ O) : D4 H' b f ap al ac ep el ec kp kl kc := ⟨hl.rd hb h.1, hl.rd hb h.2.1, hl.rd hb h.2.2.1, hl.rd hb h.2.2.2⟩
theorem D4.there (h : D4 H b f ap al ac ep el ec kp kl kc) : H b ≠ none := ne_none_of_rd h.1
theorem D4.get {K : ByteArray → Option Addr → Nat → Nat → Option Addr → Nat → Nat → Option Addr → Nat → Nat → Prop} (h : D4 H b f ap al ac ep el ec kp kl kc) (hK : K f ap al ac ep el ec kp kl kc) :
    ldS (rd H b 0) fun g => ldL (rd H b 1) fun a b' c => ldL (rd H b 2) fun d e f => ldL (rd H b 3) fun i j k => K g a b' c d e f i j k := ldS_i h.1 (ldL_i h.2.1 (ldL_i h.2.2.1 (ldL_i h.2.2.2 hK)))
theorem D4.mk {q0 : ByteArray} {a0 b0 c0 : Option Addr} {a1 a2 b1 b2 c1 c2 : Nat} {F : Nat → Hp → Prop} (hF : ∀ q H', H q = none → D4 H' q f ap al ac ep el ec kp kl kc → Le H H' → F q H') :
    NEW H [.string q0, .slice a0 a1 a2, .slice b0 b1 b2, .slice c0 c1 c2] fun q H1 => ST H1 q 0 (.string f) fun H2 => ST H2 q 1 (.slice ap al ac) fun H3 => ST H3 q 2 (.slice ep el ec) fun H4 => ST H4 q 3 (.slice kp kl kc) fun H5 => F q H5 :=
  fun q hq => ST_upd rfl (ST_upd rfl (ST_upd rfl (ST_upd rfl (hF q _ hq D4.new (Le.upd hq)))))
end
/-- A block of a patch. -/
def D5 (H : Hp) (b : Nat) (id : Int) (dp : Option Addr) (dl dc : Nat) (mp : Option Addr) (ml mc : Nat) (qp : Option Addr) (ql qc : Nat) (hp : Option Addr) (hl hc : Nat) : Prop := rd H b 0 = some (.int .u32 id) ∧ rd H b 1 = some (.slice dp dl dc) ∧ rd H b 2 = some (.slice mp ml mc) ∧ rd H b 3 = some (.slice qp ql qc) ∧ rd H b 4 = some (.slice hp hl hc)
section
variable {H H' : Hp} {b : Nat} {id : Int} {dp mp qp hp : Option Addr} {dl dc ml mc ql qc hl hc : Nat} {O : List Nat}
theorem D5.new : D5 (upd H b [.int .u32 id, .slice dp dl dc, .slice mp ml mc, .slice qp ql qc, .slice hp hl hc]) b id dp dl dc mp ml mc qp ql qc hp hl hc := ⟨by rw [rd_upd_self]; rfl, by rw [rd_upd_self]; rfl, by rw [rd_upd_self]; rfl, by rw [rd_upd_self]; rfl, by rw [rd_upd_self]; rfl⟩
theorem D5.le (h : D5 H b id dp dl dc mp ml mc qp ql qc hp hl hc) (hle : Le H H') : D5 H' b id dp dl dc mp ml mc qp ql qc hp hl hc := ⟨hle.rd h.1, hle.rd h.2.1, hle.rd h.2.2.1, hle.rd h.2.2.2.1, hle.rd h.2.2.2.2⟩
theorem D5.mod (h : D5 H b id dp dl dc mp ml mc qp ql qc hp hl hc) (hm : Mod O H H') (hb : b ∉ O) : D5 H' b id dp dl dc mp ml mc qp ql qc hp hl hc := ⟨hm.rd hb h.1, hm.rd hb h.2.1, hm.rd hb h.2.2.1, hm.rd hb h.2.2.2.1, hm.rd hb h.2.2.2.2⟩
theorem D5.there (h : D5 H b id dp dl dc mp ml mc qp ql qc hp hl hc) : H b ≠ none := ne_none_of_rd h.1
theorem D5.get {K : Int → Option Addr → Nat → Nat → Option Addr → Nat → Nat → Option Addr → Nat → Nat → Option Addr → Nat → Nat → Prop} (h : D5 H b id dp dl dc mp ml mc qp ql qc hp hl hc) (hK : K id dp dl dc mp ml mc qp ql qc hp hl hc) :
    ldI .u32 (rd H b 0) fun g => ldL (rd H b 1) fun a b' c => ldL (rd H b 2) fun d e f => ldL (rd H b 3) fun i j k => ldL (rd H b 4) fun l m n => K g a b' c d e f i j k l m n := ldI_i h.1 (ldL_i h.2.1 (ldL_i h.2.2.1 (ldL_i h.2.2.2.1 (ldL_i h.2.2.2.2 hK))))
theorem D5.mk {i0 : Int} {a0 b0 c0 d0 : Option Addr} {a1 a2 b1 b2 c1 c2 d1 d2 : Nat} {F : Nat → Hp → Prop} (hF : ∀ q H', H q = none → D5 H' q id dp dl dc mp ml mc qp ql qc hp hl hc → Le H H' → F q H') :
    NEW H [.int .u32 i0, .slice a0 a1 a2, .slice b0 b1 b2, .slice c0 c1 c2, .slice d0 d1 d2] fun q H1 => ST H1 q 0 (.int .u32 id) fun H2 => ST H2 q 1 (.slice dp dl dc) fun H3 => ST H3 q 2 (.slice mp ml mc) fun H4 => ST H4 q 3 (.slice qp ql qc) fun H5 => ST H5 q 4 (.slice hp hl hc) fun H6 => F q H6 :=
  fun q hq => ST_upd rfl (ST_upd rfl (ST_upd rfl (ST_upd rfl (ST_upd rfl (hF q _ hq D5.new (Le.upd hq))))))
/-- A patch by value. -/
def PtS (H : Hp) (id : Int) (dp : Option Addr) (dl dc : Nat) (mp : Option Addr) (ml mc : Nat) (qp : Option Addr) (ql qc : Nat) (hp : Option Addr) (hl hc : Nat) (x : Pt) : Prop := id = x.id ∧ Sl fU H dp dl dc x.deps ∧ Sl sv H mp ml mc x.makes ∧ Sl sv H qp ql qc x.drops ∧ HkH H hp hl hc x.hunks
theorem PtS.up {x : Pt} (h : PtS H id dp dl dc mp ml mc qp ql qc hp hl hc x) (hle : Le H H') : PtS H' id dp dl dc mp ml mc qp ql qc hp hl hc x := ⟨h.1, h.2.1.le hle, h.2.2.1.le hle, h.2.2.2.1.le hle, HkH_le h.2.2.2.2 hle⟩
end
/-- Of no great size. -/
structure HkSm (h : Hk) : Prop where
  path : h.path.length ≤ 1000000
  adds : h.adds.length ≤ 1000
  edges : h.edges.length ≤ 1000
  kills : h.kills.length ≤ 1000
  text : ∀ s ∈ h.adds, s.length ≤ 1000000
structure PtSm (x : Pt) : Prop where
  deps : x.deps.length ≤ 1000
  makes : x.makes.length ≤ 1000
  drops : x.drops.length ≤ 1000
  hunks : x.hunks.length ≤ 1000
  mtext : ∀ s ∈ x.makes, s.length ≤ 1000000
  dtext : ∀ s ∈ x.drops, s.length ≤ 1000000
  each : ∀ h ∈ x.hunks, HkSm h
/-! ### What comes first -/
theorem ltStr_anti {x y : BL} (h1 : Sort.ltStr x y = false) (h2 : Sort.ltStr y x = false) : x = y := by
  unfold Sort.ltStr at h1 h2
  rw [decide_eq_false_iff_not] at h1 h2
  exact List.le_antisymm (List.not_lt.1 h2) (List.not_lt.1 h1)
theorem ltInt_anti {x y : Int} (h1 : Sort.ltInt x y = false) (h2 : Sort.ltInt y x = false) : x = y := by
  unfold Sort.ltInt at h1 h2
  rw [decide_eq_false_iff_not] at h1 h2
  omega
theorem ltStr_gt (x y : BL) : (!(Op.bytesLess (mkB x).toList (mkB y).toList || decide (mkB x = mkB y))) = Sort.ltStr y x := by
  rw [mkB_list, mkB_list, bytesLess_iff]
  have e : decide (mkB x = mkB y) = decide (x = y) := decide_eq_decide.2 ⟨mkB_eq, fun h => by rw [h]⟩
  rw [e]
  show (!(Sort.ltStr x y || decide (x = y))) = _
  cases h : Sort.ltStr y x with
  | true =>
    have h1 := Sort.swo_ltStr.asymmA h
    rw [h1, decide_eq_false (fun e => by subst e; rw [Sort.swo_ltStr.irrefl] at h; cases h)]; rfl
  | false =>
    cases h1 : Sort.ltStr x y with
    | true => rfl
    | false => rw [decide_eq_true (ltStr_anti h1 h)]; rfl
def lidLt (a b : Lid) : Bool := decide (a.p < b.p) || decide (a.p = b.p) && decide (a.n < b.n)
def edLt (a b : Ed) : Bool := lidLt a.a b.a || decide (a.a = b.a) && lidLt a.b b.b
theorem lidLt_iff {a b : Lid} : lidLt a b = true ↔ a.p < b.p ∨ a.p = b.p ∧ a.n < b.n := by unfold lidLt; simp
theorem lid_ext {a b : Lid} (h1 : a.p = b.p) (h2 : a.n = b.n) : a = b := by cases a; cases b; simp_all
theorem edLt_iff {a b : Ed} : edLt a b = true ↔ lidLt a.a b.a = true ∨ a.a = b.a ∧ lidLt a.b b.b = true := by unfold edLt; simp
theorem ed_ext {a b : Ed} (h1 : a.a = b.a) (h2 : a.b = b.b) : a = b := by cases a; cases b; simp_all
theorem lidLt_tr (a b c : Lid) (h1 : lidLt a b = true) (h2 : lidLt b c = true) : lidLt a c = true := by rw [lidLt_iff] at *; omega
theorem lidLt_anti {a b : Lid} (h1 : lidLt a b = false) (h2 : lidLt b a = false) : a = b := by
  rw [← Bool.not_eq_true, lidLt_iff] at h1 h2
  exact lid_ext (by omega) (by omega)
theorem lidLt_irr (a : Lid) : lidLt a a = false := by rw [← Bool.not_eq_true, lidLt_iff]; omega
theorem edLt_irr (a : Ed) : edLt a a = false := by rw [← Bool.not_eq_true, edLt_iff, lidLt_irr, lidLt_irr]; simp
theorem edLt_tr (a b c : Ed) (h1 : edLt a b = true) (h2 : edLt b c = true) : edLt a c = true := by
  rw [edLt_iff] at *
  rcases h1 with h1 | ⟨e1, h1⟩ <;> rcases h2 with h2 | ⟨e2, h2⟩
  · exact .inl (lidLt_tr _ _ _ h1 h2)
  · exact .inl (by rw [← e2]; exact h1)
  · exact .inl (by rw [e1]; exact h2)
  · exact .inr ⟨e1.trans e2, lidLt_tr _ _ _ h1 h2⟩
theorem edLt_anti {a b : Ed} (h1 : edLt a b = false) (h2 : edLt b a = false) : a = b := by
  rw [← Bool.not_eq_true, edLt_iff] at h1 h2
  have ea : a.a = b.a := lidLt_anti (by cases h : lidLt a.a b.a; rfl; exact absurd (.inl h) h1) (by cases h : lidLt b.a a.a; rfl; exact absurd (.inl h) h2)
  refine ed_ext ea (lidLt_anti ?_ ?_)
  · cases h : lidLt a.b b.b; rfl; exact absurd (.inr ⟨ea, h⟩) h1
  · cases h : lidLt b.b a.b; rfl; exact absurd (.inr ⟨ea.symm, h⟩) h2
theorem ltInt_tr (x y z : Int) (h1 : Sort.ltInt x y = true) (h2 : Sort.ltInt y z = true) : Sort.ltInt x z = true := Sort.swo_ltInt.trans _ _ _ h1 h2
theorem ltStr_tr (x y z : BL) (h1 : Sort.ltStr x y = true) (h2 : Sort.ltStr y z = true) : Sort.ltStr x z = true := Sort.swo_ltStr.trans _ _ _ h1 h2
section
variable {H : Hp} {K : Int → Hp → Prop}
theorem cmp_Compare_uint32.c {x y : Int} (hK : K (cmp3 Sort.ltInt x y) H) : cmp_Compare_uint32.C x y H K := by
  apply cmp_Compare_uint32.of
  refine cmp_isNaN_uint32.of x (cmp_isNaN_uint32.of y ?_)
  refine bcd (fun h => absurd rfl h) fun _ => bcd (fun h => absurd rfl h) fun _ => ?_
  unfold cmp3 Sort.ltInt at hK
  refine bcd (fun h => ?_) fun h => bcd (fun h2 => ?_) fun h2 => ?_
  · rw [decide_eq_true h] at hK; exact hK
  · rw [decide_eq_false h, decide_eq_true h2] at hK; exact hK
  · rw [decide_eq_false h, decide_eq_false h2] at hK; exact hK
theorem cmp_Compare_int.c {x y : Int} (hK : K (cmp3 Sort.ltInt x y) H) : cmp_Compare_int.C x y H K := by
  apply cmp_Compare_int.of
  refine cmp_isNaN_int.of x (cmp_isNaN_int.of y ?_)
  refine bcd (fun h => absurd rfl h) fun _ => bcd (fun h => absurd rfl h) fun _ => ?_
  unfold cmp3 Sort.ltInt at hK
  refine bcd (fun h => ?_) fun h => bcd (fun h2 => ?_) fun h2 => ?_
  · rw [decide_eq_true h] at hK; exact hK
  · rw [decide_eq_false h, decide_eq_true h2] at hK; exact hK
  · rw [decide_eq_false h, decide_eq_false h2] at hK; exact hK
theorem cmp_Or_int.c {p : Option Addr} {c : Nat} {x y : Int} (h : Sl (.int .i64) H p 2 c [x, y]) (hK : K (if x ≠ 0 then x else y) H) : cmp_Or_int.C p 2 c H K := by
  apply cmp_Or_int.of
  obtain ⟨b, o, rfl, hr⟩ := h.at (i := 0) (by simp)
  have r0 := hr 0 (by simp)
  have r1 := hr 1 (by simp)
  refine ⟨fun t Hx => ∃ i : Nat, t = (i : Nat) ∧ i ≤ 2 ∧ Hx = H ∧ (0 < i → x = 0) ∧ (1 < i → y = 0), fun t _ => ((2 : Int) - t).toNat, ⟨0, rfl, by omega, rfl, fun h => absurd h (by omega), fun h => absurd h (by omega)⟩, ?_⟩
  rintro t Hx ⟨i, rfl, gi, rfl, g1, g2⟩
  refine bcd (fun hlt => ?_) fun hlt => ?_
  · match i, gi with
    | 0, _ =>
      refine idxN 0 rfl (by decide) (nil (ldI_i r0 (bcd (fun hx => ?_) fun hx => ?_)))
      · rw [if_pos (show x ≠ 0 from hx)] at hK; exact hK
      · exact chk (by omega) ⟨⟨1, rfl, by omega, by trivial, fun _ => Classical.not_not.1 hx, fun h => absurd h (by omega)⟩, by first | omega | (dsimp only; omega)⟩
    | 1, _ =>
      have hx := g1 (by omega)
      rw [if_neg (by simp [hx])] at hK
      refine idxN 1 rfl (by decide) (nil (ldI_i r1 (bcd (fun _ => hK) fun hy => ?_)))
      exact chk (by omega) ⟨⟨2, rfl, by omega, by trivial, fun _ => hx, fun _ => Classical.not_not.1 hy⟩, by first | omega | (dsimp only; omega)⟩
    | 2, _ => omega
  · have : i = 2 := by omega
    subst this
    have hx := g1 (by omega)
    have hy := g2 (by omega)
    rw [if_neg (by simp [hx]), hy] at hK; exact hK
theorem pair_sl {H : Hp} {b : Nat} {x y : Int} : Sl (.int .i64) (upd H b ([.int .i64 x, .int .i64 y])) (some ⟨b, 0, none⟩) 2 2 [x, y] := by
  refine ⟨rfl, by decide, .inr ⟨b, 0, rfl, fun i hi => ?_⟩⟩
  rw [rd_upd_self]
  match i, hi with
  | 0, _ => rfl
  | 1, _ => rfl
theorem patch_Compare.c {x y : Lid} (hK : ∀ H', Le H H' → K (cmp3 lidLt x y) H') : patch_Compare.C x.p x.n y.p y.n H K := by
  apply patch_Compare.of
  intro b hb b2 hb2
  have le1 : Le H (upd H b [.int .u32 x.p, .int .i64 x.n]) := Le.upd hb
  have le2 := Le.upd (c := [.int .u32 y.p, .int .i64 y.n]) hb2
  have q0 : rd (upd H b [.int .u32 x.p, .int .i64 x.n]) b 0 = some (.int .u32 x.p) := by rw [rd_upd_self]; rfl
  have q1 : rd (upd H b [.int .u32 x.p, .int .i64 x.n]) b 1 = some (.int .i64 x.n) := by rw [rd_upd_self]; rfl
  have s0 : rd (upd (upd H b [.int .u32 x.p, .int .i64 x.n]) b2 [.int .u32 y.p, .int .i64 y.n]) b2 0 = some (.int .u32 y.p) := by rw [rd_upd_self]; rfl
  have s1 : rd (upd (upd H b [.int .u32 x.p, .int .i64 x.n]) b2 [.int .u32 y.p, .int .i64 y.n]) b2 1 = some (.int .i64 y.n) := by rw [rd_upd_self]; rfl
  refine ldI_i (le2.rd q0) (ldI_i s0 (ldI_i (le2.rd q1) (ldI_i s1 ?_)))
  refine cmp_Compare_uint32.c ⟨s1, le2.rd q1, cmp_Compare_int.c fun b3 hb3 => cmp_Or_int.c pair_sl ?_⟩
  have : (if cmp3 Sort.ltInt x.p y.p ≠ 0 then cmp3 Sort.ltInt x.p y.p else cmp3 Sort.ltInt x.n y.n) = cmp3 lidLt x y := by
    unfold cmp3 lidLt Sort.ltInt
    rcases Int.lt_trichotomy x.p y.p with h | h | h
    · simp [h]
    · rw [h]; simp
    · have h' : ¬ x.p < y.p := by omega
      have h2 : ¬ x.p = y.p := by omega
      simp [h, h', h2]
  rw [this]
  exact hK _ ((le1.trans le2).trans (Le.upd hb3))
theorem patch_CompareEdges.c {x y : Ed} (hK : ∀ H', Le H H' → K (cmp3 edLt x y) H') : patch_CompareEdges.C x.a.p x.a.n x.b.p x.b.n y.a.p y.a.n y.b.p y.b.n H K := by
  apply patch_CompareEdges.of
  intro b hb b2 hb2
  have le1 : Le H (upd H b [.int .u32 x.a.p, .int .i64 x.a.n, .int .u32 x.b.p, .int .i64 x.b.n]) := Le.upd hb
  have le2 := Le.upd (c := [.int .u32 y.a.p, .int .i64 y.a.n, .int .u32 y.b.p, .int .i64 y.b.n]) hb2
  have rx : ∀ j v, (edC x)[j]? = some v → rd (upd H b [.int .u32 x.a.p, .int .i64 x.a.n, .int .u32 x.b.p, .int .i64 x.b.n]) b j = some v := fun j v h => by
    rw [rd_upd_self]
    match j, h with
    | 0, h => simp [edC] at h; subst h; rfl
    | 1, h => simp [edC] at h; subst h; rfl
    | 2, h => simp [edC] at h; subst h; rfl
    | 3, h => simp [edC] at h; subst h; rfl
    | j + 4, h => simp [edC] at h
  have ry : ∀ j v, (edC y)[j]? = some v → rd (upd (upd H b [.int .u32 x.a.p, .int .i64 x.a.n, .int .u32 x.b.p, .int .i64 x.b.n]) b2 [.int .u32 y.a.p, .int .i64 y.a.n, .int .u32 y.b.p, .int .i64 y.b.n]) b2 j = some v := fun j v h => by
    rw [rd_upd_self]
    match j, h with
    | 0, h => simp [edC] at h; subst h; rfl
    | 1, h => simp [edC] at h; subst h; rfl
    | 2, h => simp [edC] at h; subst h; rfl
    | 3, h => simp [edC] at h; subst h; rfl
    | j + 4, h => simp [edC] at h
  refine ldI_i (le2.rd (rx 0 _ rfl)) (ldI_i (le2.rd (rx 1 _ rfl)) (ldI_i (ry 0 _ rfl) (ldI_i (ry 1 _ rfl) (ldI_i (le2.rd (rx 2 _ rfl)) (ldI_i (le2.rd (rx 3 _ rfl)) (ldI_i (ry 2 _ rfl) (ldI_i (ry 3 _ rfl) ?_)))))))
  refine patch_Compare.c (x := x.a) (y := y.a) fun H3 le3 => ⟨le3.rd (ry 2 _ rfl), le3.rd (ry 3 _ rfl), le3.rd (le2.rd (rx 2 _ rfl)), le3.rd (le2.rd (rx 3 _ rfl)), patch_Compare.c (x := x.b) (y := y.b) fun H4 le4 b3 hb3 => cmp_Or_int.c pair_sl ?_⟩
  have : (if cmp3 lidLt x.a y.a ≠ 0 then cmp3 lidLt x.a y.a else cmp3 lidLt x.b y.b) = cmp3 edLt x y := by
    unfold cmp3 edLt
    cases h1 : lidLt x.a y.a with
    | true => simp
    | false =>
      cases h2 : lidLt y.a x.a with
      | true =>
        have : x.a ≠ y.a := fun e => by rw [e, lidLt_irr] at h2; cases h2
        simp [this]
      | false =>
        have := lidLt_anti h1 h2
        simp [this]
  rw [this]
  exact hK _ ((((le1.trans le2).trans le3).trans le4).trans (Le.upd hb3))
end
/-! ### Paths, lines -/
def pathC (c : UInt8) : Bool := decide (97 ≤ c.toNat ∧ c.toNat ≤ 122 ∨ 48 ≤ c.toNat ∧ c.toNat ≤ 57 ∨ c.toNat = 46 ∨ c.toNat = 47)
def pathB (s : BL) : Bool := decide (s ≠ []) && decide (s.length ≤ 20) && s.all pathC
def lineB (s : BL) : Bool := decide (s ≠ []) && decide (s.length ≤ 60) && decide (10 ∉ s.dropLast)
theorem getD_Lp {s : ByteArray} {k : Nat} (h : k < s.size) : s.data.toList.getD k 0 = (L s)[k]'(by rw [← L_size]; exact h) := by
  have : k < (L s).length := by rw [← L_size]; exact h
  show (L s).getD k 0 = _
  simp [List.getD, this]
theorem mkB_nil_iff {s : BL} : mkB s = bs [] ↔ s = [] := ⟨fun h => congrArg L h, fun h => by rw [h]; rfl⟩
section
variable {H : Hp} {K : Bool → Hp → Prop}
def pathsB (l : List BL) : Bool := decide (l.length ≤ 6) && (rsB Sort.ltStr l && l.all pathB)
end
end Go.Proofs.YtganockeifkecaaDoor
namespace Go.Proofs.YtganockeifkecaaDoor
open Go.V
/-! ### Blocks of edges, of lines; what an append may rest on -/
def DE (H : Hp) (b : Nat) (e : Ed) : Prop := rd H b 0 = some (.int .u32 e.a.p) ∧ rd H b 1 = some (.int .i64 e.a.n) ∧ rd H b 2 = some (.int .u32 e.b.p) ∧ rd H b 3 = some (.int .i64 e.b.n)
def DL (H : Hp) (b : Nat) (x : Lid) : Prop := rd H b 0 = some (.int .u32 x.p) ∧ rd H b 1 = some (.int .i64 x.n)
section
variable {H H' : Hp} {b : Nat} {e : Ed} {x : Lid}
theorem DE.le (h : DE H b e) (hl : Le H H') : DE H' b e := ⟨hl.rd h.1, hl.rd h.2.1, hl.rd h.2.2.1, hl.rd h.2.2.2⟩
theorem DL.le (h : DL H b x) (hl : Le H H') : DL H' b x := ⟨hl.rd h.1, hl.rd h.2⟩
theorem DE.new : DE (upd H b [.int .u32 e.a.p, .int .i64 e.a.n, .int .u32 e.b.p, .int .i64 e.b.n]) b e := ⟨by rw [rd_upd_self]; rfl, by rw [rd_upd_self]; rfl, by rw [rd_upd_self]; rfl, by rw [rd_upd_self]; rfl⟩
theorem DL.new : DL (upd H b [.int .u32 x.p, .int .i64 x.n]) b x := ⟨by rw [rd_upd_self]; rfl, by rw [rd_upd_self]; rfl⟩
theorem DE.mk {i0 i1 i2 i3 : Int} {F : Nat → Hp → Prop} (hF : ∀ q H', H q = none → DE H' q e → Le H H' → F q H') :
    NEW H [.int .u32 i0, .int .i64 i1, .int .u32 i2, .int .i64 i3] fun q H1 => ST H1 q 0 (.int .u32 e.a.p) fun H2 => ST H2 q 1 (.int .i64 e.a.n) fun H3 => ST H3 q 2 (.int .u32 e.b.p) fun H4 => ST H4 q 3 (.int .i64 e.b.n) fun H5 => F q H5 :=
  fun q hq => ST_upd rfl (ST_upd rfl (ST_upd rfl (ST_upd rfl (hF q _ hq DE.new (Le.upd hq)))))
theorem DL.mk {i0 i1 : Int} {F : Nat → Hp → Prop} (hF : ∀ q H', H q = none → DL H' q x → Le H H' → F q H') :
    NEW H [.int .u32 i0, .int .i64 i1] fun q H1 => ST H1 q 0 (.int .u32 x.p) fun H2 => ST H2 q 1 (.int .i64 x.n) fun H3 => F q H3 :=
  fun q hq => ST_upd rfl (ST_upd rfl (hF q _ hq DL.new (Le.upd hq)))
end
theorem all_next {α : Type} {f : α → Bool} {xs : List α} {i : Nat} (hi : i < xs.length) (h : (xs.take i).all f = true) (h' : f xs[i] = true) : (xs.take (i + 1)).all f = true := by
  rw [List.take_succ_eq_append_getElem hi, List.all_append, h]; simp [h']
theorem all_bad {α : Type} {f : α → Bool} {xs : List α} {i : Nat} (hi : i < xs.length) (h' : f xs[i] = false) : xs.all f = false := List.all_eq_false.2 ⟨_, List.getElem_mem hi, by rw [h']; decide⟩
theorem all_end {α : Type} {f : α → Bool} {xs : List α} {i : Nat} (h : (xs.take i).all f = true) (hi : xs.length ≤ i) : xs.all f = true := by rwa [List.take_of_length_le hi] at h
section
variable {s : Nat} {A A' H H' : Hp} {p : Option Addr} {l c : Nat} {cells : List Value}
theorem bApp2 (hB : Buf 1 A H p l c cells) (hA : Le A H) {te : TE} {x y : Value} (hs : te.size = 1) (hz : te.zc.length = 1) (hbp : 0 < te.bytes) (hx : isCell x = true) (hy : isCell y = true) (hfit : (l + 2) * te.bytes ≤ 140737488355328) {F : Option Addr → Nat → Nat → Hp → Prop}
    (hF : ∀ p' c' H', Buf 1 A H' p' (l + 2) c' (cells ++ [x, y]) → Le A H' → F p' (l + 2) c' H') (hzc : te.zc.all isCell = true := by rfl) (htl : te.tl = [] := by rfl) :
    NEW H [x, y] fun b H1 => APP H1 te p l c (.slice (some ⟨b, 0, none⟩) 2 2) F := by
  intro b hb
  exact (hB.le (.upd hb)).appN hs (by decide) hz hbp (n := 2) (new := [x, y]) rfl (by simp [hx, hy]) hfit (hA.trans (.upd hb)) (fun G hG => ⟨[x, y], rdN_self (by simp [upd]) rfl (by simp [hx, hy]), hG⟩) (fun p' c' H' h1 h2 _ => hF p' c' H' h1 h2) hzc htl
theorem but_rd {b o : Nat} {v : Value} (h : rd H b o = some v) (hp : b ∉ blkL p) : rd (but H p) b o = some v := by
  have : but H p b = H b := by
    unfold but
    split
    · rw [if_neg (fun e => hp (by rw [e]; simp [blkL]))]
    · rfl
  unfold rd at h ⊢
  rw [this]; exact h
theorem bNblk (hB : Buf s A H p l c cells) {b : Nat} (hb : A b ≠ Option.none) : b ∉ blkL p := fun h => hb (hB.fr b 0 (blkL_mem hB.zero h))
theorem bNblkN (hB : Buf s A H p l c cells) {b : Nat} (hb : H b = Option.none) : b ∉ blkL p := fun h => hB.there (blkL_mem hB.zero h) hb
theorem bCut (hB : Buf s A H p l c cells) : Buf s (but H p) H p l c cells := hB.base fun b hb _ => by unfold but; rw [hb]; simp
theorem bCutLe (hB : Buf s A H p l c cells) (hA : Le A H) : Le A (but H p) := fun b d e => by
  have hn : b ∉ blkL p := bNblk hB (by rw [e]; intro h; cases h)
  have : but H p b = H b := by
    unfold but
    split
    · rw [if_neg (fun e => hn (by rw [e]; simp [blkL]))]
    · rfl
  rw [this]; exact hA _ _ e
theorem bBack (hB : Buf s A' H p l c cells) (h : Le A A') : Buf s A H p l c cells := hB.base fun _ _ e => none_of_le h e
end
/-! ### Is it a hunk -/
def namedB (id fr n : Int) (x : Lid) : Bool := decide (0 ≤ x.n) && (decide (x.n < 40) && (decide (¬ x.p = id) || (decide (fr ≤ x.n) && decide (x.n < fr + n))))
def hunkB (id fr : Int) (h : Hk) : Bool :=
  decide (h.adds.length ≤ 40) && (decide (h.edges.length ≤ 80) && (decide (h.kills.length ≤ 40) && (h.adds.all lineB && ((h.edges.all fun e => namedB id fr h.adds.length e.a && (namedB id fr h.adds.length e.b && decide (¬ e.a = e.b))) && ((h.kills.all fun k => namedB id fr h.adds.length k && decide (¬ k.p = id)) && (rsB edLt h.edges && rsB lidLt h.kills))))))
section
variable {H : Hp} {K : Bool → Hp → Prop}
end
end Go.Proofs.YtganockeifkecaaDoor
namespace Go.Proofs.YtganockeifkecaaDoor
open Go.V
/-! ### Sorts by a function -/
instance : Inhabited Lid := ⟨⟨0, 0⟩⟩
instance : Inhabited Ed := ⟨⟨default, default⟩⟩
theorem swo_of {α : Type} {lt : α → α → Bool} (hi : ∀ x, lt x x = false) (ht : ∀ x y z, lt x y = true → lt y z = true → lt x z = true) (ha : ∀ x y, lt x y = false → lt y x = false → x = y) : Sort.SWO lt := ⟨hi, ht, fun x y z h1 h2 => by
  cases h3 : lt x z with
  | false => rfl
  | true => cases h4 : lt y x with
    | true => rw [ht y x z h4 h3] at h2; cases h2
    | false =>
      have := ha x y h1 h4
      subst this; rw [h3] at h2; cases h2⟩
theorem swo_ed : Sort.SWO edLt := swo_of edLt_irr edLt_tr fun _ _ => edLt_anti

class CfE (cf : Value) : Prop where
  c : ∀ (Hx : Hp) (x y : Ed) (G : Int → Hp → Prop), (∀ H' r, Le Hx H' → decide (r < 0) = edLt x y → G r H') → CallV prog cf [.agg ⟨edC x⟩, .agg ⟨edC y⟩] Hx fun v H' => liftI .i64 v fun r => G r H'
theorem rwE {H : Hp} {p : Option Addr} {l : Nat} {d : Array Ed} (h : Aw 4 edC H p l d) (k : Nat) {e : Int} (he : e = (k : Int)) (hk : k < d.size) {F : Int → Int → Int → Int → Prop} (hF : F (d[k]!.a.p) (d[k]!.a.n) (d[k]!.b.p) (d[k]!.b.n)) : IDX e l fun k => NIL p fun b o => ldI .u32 (rd H b (o + (k * 4))) fun x0 => ldI .i64 (rd H b ((o + (k * 4)) + 1)) fun x1 => ldI .u32 (rd H b (((o + (k * 4)) + 1) + 1)) fun x2 => ldI .i64 (rd H b ((((o + (k * 4)) + 1) + 1) + 1)) fun x3 => F x0 x1 x2 x3 := by
  obtain ⟨b, o, e', hh⟩ := h.at hk
  have hl := h.1
  subst e'
  exact idxN k he (by omega) (nil (ldI_i (hh k hk 0 _ rfl) (ldI_i (hh k hk 1 _ rfl) (ldI_i (hh k hk 2 _ rfl) (ldI_i (hh k hk 3 _ rfl) (hF))))))
theorem swE {H : Hp} {p : Option Addr} {l : Nat} {d : Array Ed} (h : Aw 4 edC H p l d) {i j : Nat} {ei ej : Int} (hi : i < d.size) (hj : j < d.size) (hei : ei = (i : Int)) (hej : ej = (j : Int)) {F : Hp → Prop}
    (hF : ∀ H', Aw 4 edC H' p l (Sort.swp d i j) → Mod (blkL p) H H' → F H') : IDX ei l fun k => NIL p fun b o => ST H b (o + (k * 4)) (.int .u32 (d[j]!.a.p)) fun G0 => ST G0 b ((o + (k * 4)) + 1) (.int .i64 (d[j]!.a.n)) fun G1 => ST G1 b ((o + (k * 4)) + 2) (.int .u32 (d[j]!.b.p)) fun G2 => ST G2 b ((o + (k * 4)) + 3) (.int .i64 (d[j]!.b.n)) fun G3 => IDX ej l fun k => NIL p fun b o => ST G3 b (o + (k * 4)) (.int .u32 (d[i]!.a.p)) fun K0 => ST K0 b ((o + (k * 4)) + 1) (.int .i64 (d[i]!.a.n)) fun K1 => ST K1 b ((o + (k * 4)) + 2) (.int .u32 (d[i]!.b.p)) fun K2 => ST K2 b ((o + (k * 4)) + 3) (.int .i64 (d[i]!.b.n)) fun K3 => F K3 :=
  Aw.sw h (fun _ => rfl) (fun _ => rfl) hi hj hei hej hF
section
variable {H : Hp} {p : Option Addr} {l cc : Nat} {d : Array Ed} {cf : Value} [CfE cf]
theorem slices_insertionSortCmpFunc_api_Edge.c {a b : Nat} {K : Hp → Prop} (h : Aw 4 edC H p l d) (hab : a ≤ b) (hb : b ≤ d.size) (hl : l ≤ 1000000000)
    (hK : ∀ H' d', Aw 4 edC H' p l d' → Mod (blkL p) H H' → Sort.PermIn a b d d' → Sort.SortedIn edLt a b d' → K H') : slices_insertionSortCmpFunc_api_Edge.C p l cc (a : Nat) (b : Nat) cf H K := by
  apply slices_insertionSortCmpFunc_api_Edge.of
  have hl0 := h.1
  obtain ⟨hp1, hp2⟩ := Sort.insertionSort_holds (lt := edLt) swo_ed d a b hab hb
  refine chk (by omega) ?_
  refine ⟨fun i Hx => ∃ (i' : Nat) (d1 : Array Ed), i = (i' : Nat) ∧ a + 1 ≤ i' ∧ (i' ≤ b ∨ i' = a + 1) ∧ d1.size = d.size ∧ Aw 4 edC Hx p l d1 ∧ Mod (blkL p) H Hx ∧ Sort.insOuter edLt a b i' d1 = Sort.insertionSort edLt d a b, fun i _ => ((b : Int) - i).toNat, ⟨a + 1, d, by omega, by omega, .inr rfl, rfl, h, Mod.refl, rfl⟩, ?_⟩
  rintro i Hx ⟨i, d1, rfl, g1, g2, gs, h1, m1, e1⟩
  refine bcd (fun hlt => ?_) fun hlt => ?_
  · have e2 : Sort.insOuter edLt a b (i + 1) (Sort.insInner edLt a i d1) = Sort.insertionSort edLt d a b := by rw [← e1]; conv => rhs; rw [Sort.insOuter, if_pos (by omega)]
    have go : ∀ (Hy : Hp) (d2 : Array Ed), d2.size = d.size → Aw 4 edC Hy p l d2 → Mod (blkL p) H Hy → d2 = Sort.insInner edLt a i d1 → CHK .i64 (((i : Nat) : Int) + (1 : Int)) fun x => (∃ (i' : Nat) (d1 : Array Ed), x = (i' : Nat) ∧ a + 1 ≤ i' ∧ (i' ≤ b ∨ i' = a + 1) ∧ d1.size = d.size ∧ Aw 4 edC Hy p l d1 ∧ Mod (blkL p) H Hy ∧ Sort.insOuter edLt a b i' d1 = Sort.insertionSort edLt d a b) ∧ ((b : Int) - x).toNat < ((b : Int) - ((i : Nat) : Int)).toNat := fun Hy d2 s2 h2 m2 e =>
      chk (by omega) ⟨⟨i + 1, d2, by omega, by omega, .inl (by omega), s2, h2, m2, by rw [e]; exact e2⟩, by omega⟩
    refine ⟨fun j Hy => ∃ (j' : Nat) (d2 : Array Ed), j = (j' : Nat) ∧ a ≤ j' ∧ j' ≤ i ∧ d2.size = d.size ∧ Aw 4 edC Hy p l d2 ∧ Mod (blkL p) H Hy ∧ Sort.insInner edLt a j' d2 = Sort.insInner edLt a i d1, fun j _ => j.toNat, ⟨i, d1, rfl, by omega, Nat.le_refl _, gs, h1, m1, rfl⟩, ?_⟩
    rintro j Hy ⟨j, d2, rfl, k1, k2, s2, h2, m2, e3⟩
    refine bcd (fun hj => ?_) fun hj => ?_
    · obtain ⟨w, rfl⟩ : ∃ w, j = w + 1 := ⟨j - 1, by omega⟩
      refine rwE h2 (w + 1) rfl (by omega) (chk (by omega) (rwE h2 w (by omega) (by omega) (CfE.c _ _ _ _ fun Hf rr lf hr => ?_)))
      rw [hr]
      have h2 := Aw.le h2 lf
      have m2 := Mod.andLe m2 lf
      refine bc_i (fun hc => ?_) fun hc => ?_
      · unfold slices_insertionSortCmpFunc_api_Edge.k1
        refine chk (by omega) (chk (by omega) (rwE h2 w (by omega) (by omega) (rwE h2 (w + 1) rfl (by omega) (swE h2 (i := w + 1) (j := w) (by omega) (by omega) rfl (by omega) fun H3 h3 m3 => chk (by omega) ⟨⟨w, _, by omega, by omega, by omega, by rw [Sort.swp_size]; exact s2, h3, m2.trans m3, ?_⟩, by first | omega | (dsimp only; omega)⟩))))
        rw [← e3]; conv => rhs; rw [Sort.insInner, if_pos (by rw [hc, Bool.and_true, decide_eq_true_eq]; omega)]
      · refine go _ d2 s2 h2 m2 ?_
        rw [← e3, Sort.insInner, if_neg (by rw [hc]; simp)]
    · refine go _ d2 s2 h2 m2 ?_
      rw [← e3]
      have : j = a := by omega
      subst this
      cases j with
      | zero => rfl
      | succ j => rw [Sort.insInner, if_neg (by simp)]
  · have e4 : d1 = Sort.insertionSort edLt d a b := by
      rw [← e1, Sort.insOuter, if_neg (by omega)]
    rw [← e4] at hp1 hp2
    exact hK Hx d1 h1 m1 hp1 hp2
theorem slices_siftDownCmpFunc_api_Edge.c {lo hi first : Nat} {K : Hp → Prop} (h : Aw 4 edC H p l d) (hf : first + hi ≤ d.size) (hlo : lo ≤ 1000000000) (hl : l ≤ 1000000000)
    (hK : ∀ H', Aw 4 edC H' p l (Sort.siftDown edLt hi first lo d) → Mod (blkL p) H H' → (Sort.siftDown edLt hi first lo d).size = d.size → K H') : slices_siftDownCmpFunc_api_Edge.C p l cc (lo : Nat) (hi : Nat) (first : Nat) cf H K := by
  apply slices_siftDownCmpFunc_api_Edge.of
  have hl0 := h.1
  refine ⟨fun r Hx => ∃ (r' : Nat) (d1 : Array Ed), r = (r' : Nat) ∧ r' ≤ 1000000000 ∧ d1.size = d.size ∧ Aw 4 edC Hx p l d1 ∧ Mod (blkL p) H Hx ∧ Sort.siftDown edLt hi first r' d1 = Sort.siftDown edLt hi first lo d, fun r _ => ((hi : Int) - r).toNat, ⟨lo, d, rfl, hlo, rfl, h, Mod.refl, rfl⟩, ?_⟩
  rintro r Hx ⟨r, d1, rfl, g1, gs, h1, m1, e1⟩
  have fin : ∀ Hy, Sort.siftDown edLt hi first r d1 = d1 → Aw 4 edC Hy p l d1 → Mod (blkL p) H Hy → K Hy := fun Hy e hA hM => hK Hy (by rw [← e1, e]; exact hA) hM (by rw [← e1, e]; exact gs)
  refine chk (by omega) (chk (by omega) (bcd (fun hge => fin _ (by rw [Sort.siftDown, dif_pos (by omega)]) h1 m1) fun hlt => ?_))
  have go : ∀ (ch : Nat) (Hy : Hp), Le Hx Hy → (ch = 2 * r + 1 ∨ ch = 2 * r + 2) → ch < hi → (edLt d1[first + r]! d1[first + ch]! = false → Sort.siftDown edLt hi first r d1 = d1) → (edLt d1[first + r]! d1[first + ch]! = true → Sort.siftDown edLt hi first r d1 = Sort.siftDown edLt hi first ch (Sort.swp d1 (first + r) (first + ch))) →
      slices_siftDownCmpFunc_api_Edge.k1 Hx (fun r Hx => ∃ (r' : Nat) (d1 : Array Ed), r = (r' : Nat) ∧ r' ≤ 1000000000 ∧ d1.size = d.size ∧ Aw 4 edC Hx p l d1 ∧ Mod (blkL p) H Hx ∧ Sort.siftDown edLt hi first r' d1 = Sort.siftDown edLt hi first lo d) K cf l p (first : Nat) (fun r _ => ((hi : Int) - r).toNat) (r : Nat) (ch : Nat) Hy := by
    intro ch Hy hHy hch hchi hs hn
    have h1 := Aw.le h1 hHy
    have m1 := Mod.andLe m1 hHy
    unfold slices_siftDownCmpFunc_api_Edge.k1
    refine chk (by omega) (rwE h1 (first + r) (by omega) (by omega) (chk (by omega) (rwE h1 (first + ch) (by omega) (by omega) (CfE.c _ _ _ _ fun Hf rr lf hr => ?_))))
    rw [hr]
    have h1 := Aw.le h1 lf
    have m1 := Mod.andLe m1 lf
    refine bcn (fun hc => fin _ (hs hc) h1 m1) fun hc => ?_
    refine chk (by omega) (chk (by omega) (chk (by omega) (rwE h1 (first + ch) (by omega) (by omega) (chk (by omega) (rwE h1 (first + r) (by omega) (by omega) (swE h1 (i := first + r) (j := first + ch) (by omega) (by omega) (by omega) (by omega) fun H3 h3 m3 => ?_))))))
    exact ⟨⟨ch, _, rfl, by omega, by rw [Sort.swp_size]; exact gs, h3, m1.trans m3, by rw [← e1, hn hc]⟩, by first | omega | (dsimp only; omega)⟩
  have e0 : 2 * ((r : Nat) : Int) + 1 = ((2 * r + 1 : Nat) : Int) := by omega
  rw [e0] at hlt ⊢
  have h21 : 2 * r + 1 < hi := by omega
  have lft : ¬ (decide (2 * r + 1 + 1 < hi) && edLt d1[first + (2 * r + 1)]! d1[first + (2 * r + 1) + 1]!) = true → ∀ Hy, Le Hx Hy → slices_siftDownCmpFunc_api_Edge.k1 Hx (fun r Hx => ∃ (r' : Nat) (d1 : Array Ed), r = (r' : Nat) ∧ r' ≤ 1000000000 ∧ d1.size = d.size ∧ Aw 4 edC Hx p l d1 ∧ Mod (blkL p) H Hx ∧ Sort.siftDown edLt hi first r' d1 = Sort.siftDown edLt hi first lo d) K cf l p (first : Nat) (fun r _ => ((hi : Int) - r).toNat) (r : Nat) ((2 * r + 1 : Nat) : Int) Hy := fun hno Hy hHy => by
    refine go (2 * r + 1) Hy hHy (.inl rfl) h21 (fun hc => ?_) fun hc => ?_
    · rw [Sort.siftDown, dif_neg (by omega), if_neg hno, if_pos (by rw [hc]; rfl)]
    · rw [Sort.siftDown, dif_neg (by omega), if_neg hno, if_neg (by rw [hc]; decide)]
  refine chk (by omega) (bcd (fun hlt2 => ?_) fun hlt2 => lft (by rw [decide_eq_false (by omega)]; simp) Hx (Le.refl _))
  refine chk (by omega) (rwE h1 (first + (2 * r + 1)) (by omega) (by omega) (chk (by omega) (chk (by omega) (rwE h1 (first + (2 * r + 1) + 1) (by omega) (by omega) (CfE.c _ _ _ _ fun Hf rr lf hr => ?_)))))
  rw [hr]
  have h1 := Aw.le h1 lf
  have m1 := Mod.andLe m1 lf
  refine bc_i (fun hc => ?_) fun hc => lft (by rw [hc, Bool.and_false]; decide) _ lf
  refine chk (by omega) ?_
  rw [show ((2 * r + 1 : Nat) : Int) + 1 = ((2 * r + 2 : Nat) : Int) by omega]
  refine go (2 * r + 2) _ lf (.inr rfl) (by omega) (fun hc2 => ?_) fun hc2 => ?_
  · rw [Sort.siftDown, dif_neg (by omega), if_pos (by rw [hc, Bool.and_true, decide_eq_true_eq]; omega), if_pos (by rw [hc2]; rfl)]
  · rw [Sort.siftDown, dif_neg (by omega), if_pos (by rw [hc, Bool.and_true, decide_eq_true_eq]; omega), if_neg (by rw [hc2]; decide), dif_pos (by omega)]
theorem slices_heapSortCmpFunc_api_Edge.c {a b : Nat} {K : Hp → Prop} (h : Aw 4 edC H p l d) (hab : a ≤ b) (hb : b ≤ d.size) (hl : l ≤ 1000000000)
    (hK : ∀ H' d', Aw 4 edC H' p l d' → Mod (blkL p) H H' → Sort.PermIn a b d d' → Sort.SortedIn edLt a b d' → K H') : slices_heapSortCmpFunc_api_Edge.C p l cc (a : Nat) (b : Nat) cf H K := by
  apply slices_heapSortCmpFunc_api_Edge.of
  have hl0 := h.1
  obtain ⟨hp1, hp2⟩ := Sort.heapSort_holds (lt := edLt) swo_ed d a b hab hb
  refine chk (by omega) (chk (by omega) ⟨by decide, ?_⟩)
  have eb : ((b : Nat) : Int) - ((a : Nat) : Int) = ((b - a : Nat) : Int) := by omega
  rw [eb]
  have et : Int.tdiv (((b - a : Nat) : Int) - 1) 2 = (((b - a - 1) / 2 : Nat) : Int) := by
    by_cases h0 : b - a = 0
    · rw [h0]; decide
    · rw [show ((b - a : Nat) : Int) - 1 = ((b - a - 1 : Nat) : Int) by omega]; exact tdivN _ 2
  rw [et]
  refine chk (by omega) ?_
  refine ⟨fun i Hx => ∃ (k : Nat) (d1 : Array Ed), i = (k : Int) - 1 ∧ k ≤ (b - a - 1) / 2 + 1 ∧ d1.size = d.size ∧ Aw 4 edC Hx p l d1 ∧ Mod (blkL p) H Hx ∧ Sort.heapBuild edLt (b - a) a k d1 = Sort.heapBuild edLt (b - a) a ((b - a - 1) / 2 + 1) d, fun i _ => (i + 1).toNat, ⟨(b - a - 1) / 2 + 1, d, by omega, Nat.le_refl _, rfl, h, Mod.refl, rfl⟩, ?_⟩
  rintro i Hx ⟨k, d1, rfl, g1, gs, h1, m1, e1⟩
  refine bcd (fun hge => ?_) fun hge => ?_
  · obtain ⟨w, rfl⟩ : ∃ w, k = w + 1 := ⟨k - 1, by omega⟩
    rw [show ((w + 1 : Nat) : Int) - 1 = (w : Nat) by omega]
    refine slices_siftDownCmpFunc_api_Edge.c h1 (by omega) (by omega) hl fun H2 h2 m2 s2 => chk (by omega) ⟨⟨w, _, rfl, by omega, by rw [s2]; exact gs, h2, m1.trans m2, ?_⟩, by first | omega | (dsimp only; omega)⟩
    rw [← e1, Sort.heapBuild]
  · have : k = 0 := by omega
    subst this
    have ed : d1 = Sort.heapBuild edLt (b - a) a ((b - a - 1) / 2 + 1) d := by rw [← e1]; rfl
    refine chk (by omega) ?_
    refine ⟨fun i Hy => ∃ (k : Nat) (d2 : Array Ed), i = (k : Int) - 1 ∧ k ≤ b - a ∧ d2.size = d.size ∧ Aw 4 edC Hy p l d2 ∧ Mod (blkL p) H Hy ∧ Sort.heapPop edLt a k d2 = Sort.heapPop edLt a (b - a) d1, fun i _ => (i + 1).toNat, ⟨b - a, d1, rfl, Nat.le_refl _, gs, h1, m1, rfl⟩, ?_⟩
    rintro i Hy ⟨k, d2, rfl, g2, s2, h2, m2, e2⟩
    refine bcd (fun hge => ?_) fun hge => ?_
    · obtain ⟨w, rfl⟩ : ∃ w, k = w + 1 := ⟨k - 1, by omega⟩
      rw [show ((w + 1 : Nat) : Int) - 1 = (w : Nat) by omega]
      refine chk (by omega) (chk (by omega) (rwE h2 (a + w) (by omega) (by omega) (rwE h2 a rfl (by omega) (swE h2 (i := a) (j := a + w) (by omega) (by omega) rfl (by omega) fun H3 h3 m3 => ?_))))
      refine slices_siftDownCmpFunc_api_Edge.c (lo := 0) h3 (by rw [Sort.swp_size]; omega) (by omega) hl fun H4 h4 m4 s4 => chk (by omega) ⟨⟨w, _, rfl, by omega, by rw [s4, Sort.swp_size]; exact s2, h4, (m2.trans m3).trans m4, ?_⟩, by first | omega | (dsimp only; omega)⟩
      rw [← e2, Sort.heapPop]
    · have : k = 0 := by omega
      subst this
      have e4 : d2 = Sort.heapSort edLt d a b := by
        unfold Sort.heapSort
        rw [← ed, ← e2]; rfl
      rw [← e4] at hp1 hp2
      exact hK Hy d2 h2 m2 hp1 hp2
omit [CfE cf] in
theorem slices_reverseRangeCmpFunc_api_Edge.c {a b : Nat} {K : Hp → Prop} (h : Aw 4 edC H p l d) (hab : a < b) (hb : b ≤ d.size) (hl : l ≤ 1000000000)
    (hK : ∀ H' d', Aw 4 edC H' p l d' → Mod (blkL p) H H' → Sort.PermIn a b d d' → K H') : slices_reverseRangeCmpFunc_api_Edge.C p l cc (a : Nat) (b : Nat) cf H K := by
  apply slices_reverseRangeCmpFunc_api_Edge.of
  have hl0 := h.1
  have hp1 := Sort.reverseRange_holds d a b (by omega) hb
  refine chk (by omega) ?_
  refine ⟨fun i j Hx => ∃ (i' j' : Nat) (d1 : Array Ed), i = (i' : Nat) ∧ j = (j' : Nat) ∧ a ≤ i' ∧ i' ≤ j' + 1 ∧ j' < b ∧ d1.size = d.size ∧ Aw 4 edC Hx p l d1 ∧ Mod (blkL p) H Hx ∧ Sort.reverseLoop i' j' d1 = Sort.reverseRange d a b, fun i j _ => (j - i).toNat, ⟨a, b - 1, d, rfl, by omega, Nat.le_refl _, by omega, by omega, rfl, h, Mod.refl, rfl⟩, ?_⟩
  rintro i j Hx ⟨i, j, d1, rfl, rfl, g1, g2, g3, gs, h1, m1, e1⟩
  refine bcd (fun hlt => ?_) fun hlt => ?_
  · refine rwE h1 j rfl (by omega) (rwE h1 i rfl (by omega) (swE h1 (i := i) (j := j) (by omega) (by omega) rfl rfl fun H3 h3 m3 => chk (by omega) (chk (by omega) ⟨⟨i + 1, j - 1, _, by omega, by omega, by omega, by omega, by omega, by rw [Sort.swp_size]; exact gs, h3, m1.trans m3, ?_⟩, by first | omega | (dsimp only; omega)⟩)))
    rw [← e1]; conv => rhs; rw [Sort.reverseLoop, if_pos (by omega)]
  · have : d1 = Sort.reverseRange d a b := by rw [← e1, Sort.reverseLoop, if_neg (by omega)]
    rw [← this] at hp1
    exact hK Hx d1 h1 m1 hp1
theorem slices_order2CmpFunc_api_Edge.c {q N a b : Nat} {K : Int → Int → Hp → Prop} (h : Aw 4 edC H p l d) (ha : a < d.size) (hb : b < d.size) (hq : SwQ H q N) (hN : N ≤ 1000)
    (hK : ∀ x y H', (x = a ∧ y = b ∨ x = b ∧ y = a) → SwQ H' q (N + 1) → Mod [q] H H' → K (x : Nat) (y : Nat) H') : slices_order2CmpFunc_api_Edge.C p l cc (a : Nat) (b : Nat) (some ⟨q, 0, none⟩) cf H K := by
  apply slices_order2CmpFunc_api_Edge.of
  have hl0 := h.1
  obtain ⟨n, q1, q2, q3⟩ := hq
  refine rwE h b rfl hb (rwE h a rfl ha (CfE.c _ _ _ _ fun Hf rr lf hr => ?_))
  rw [hr]
  have h := Aw.le h lf
  refine bc_i (fun _ => ?_) fun _ => hK a b _ (.inl ⟨rfl, rfl⟩) ⟨n, lf.rd q1, q2, by omega⟩ lf.mod
  have q1 := lf.rd q1
  refine nil (ldI_i q1 (chk (by omega) (nil (st q1 (hK b a _ (.inr ⟨rfl, rfl⟩) ⟨n + 1, rd_wr_self q1, by omega, by omega⟩ (lf.mod.wr (.inl (by simp))))))))
theorem slices_medianCmpFunc_api_Edge.c {q N a b e : Nat} {K : Int → Hp → Prop} (h : Aw 4 edC H p l d) (ha : a < d.size) (hb : b < d.size) (he : e < d.size) (hq : SwQ H q N) (hN : N ≤ 900) (hqp : q ∉ blkL p)
    (hK : ∀ x H', (x = a ∨ x = b ∨ x = e) → SwQ H' q (N + 3) → Mod [q] H H' → K (x : Nat) H') : slices_medianCmpFunc_api_Edge.C p l cc (a : Nat) (b : Nat) (e : Nat) (some ⟨q, 0, none⟩) cf H K := by
  apply slices_medianCmpFunc_api_Edge.of
  have hn : ∀ b ∈ blkL p, b ∉ [q] := fun b hb hb' => by simp at hb'; subst hb'; exact hqp hb
  refine slices_order2CmpFunc_api_Edge.c h ha hb hq (by omega) fun x y H1 hxy q1 m1 => ?_
  have h1 := Aw.mod h m1 hn
  refine slices_order2CmpFunc_api_Edge.c h1 (by omega) he q1 (by omega) fun x2 y2 H2 hxy2 q2 m2 => ?_
  have h2 := Aw.mod h1 m2 hn
  refine slices_order2CmpFunc_api_Edge.c h2 (by omega) (by omega) q2 (by omega) fun x3 y3 H3 hxy3 q3 m3 => ?_
  exact hK y3 H3 (by omega) q3 ((m1.trans m2).trans m3)
theorem slices_medianAdjacentCmpFunc_api_Edge.c {q N a : Nat} {K : Int → Hp → Prop} (h : Aw 4 edC H p l d) (h0 : 0 < a) (ha : a + 1 < d.size) (hl : l ≤ 1000000000) (hq : SwQ H q N) (hN : N ≤ 900) (hqp : q ∉ blkL p)
    (hK : ∀ x H', (x = a - 1 ∨ x = a ∨ x = a + 1) → SwQ H' q (N + 3) → Mod [q] H H' → K (x : Nat) H') : slices_medianAdjacentCmpFunc_api_Edge.C p l cc (a : Nat) (some ⟨q, 0, none⟩) cf H K := by
  apply slices_medianAdjacentCmpFunc_api_Edge.of
  have hl0 := h.1
  refine chk (by omega) (chk (by omega) ?_)
  rw [show ((a : Nat) : Int) - 1 = ((a - 1 : Nat) : Int) by omega, show ((a : Nat) : Int) + 1 = ((a + 1 : Nat) : Int) by omega]
  exact slices_medianCmpFunc_api_Edge.c h (by omega) (by omega) ha hq hN hqp hK
theorem slices_choosePivotCmpFunc_api_Edge.c {a b : Nat} {K : Int → Int → Hp → Prop} (h : Aw 4 edC H p l d) (hab : a < b) (hb : b ≤ d.size) (hl : l ≤ 1000000000)
    (hK : ∀ (x : Nat) t H', a ≤ x → x < b → Le H H' → K (x : Nat) t H') : slices_choosePivotCmpFunc_api_Edge.C p l cc (a : Nat) (b : Nat) cf H K := by
  apply slices_choosePivotCmpFunc_api_Edge.of
  have hl0 := h.1
  refine chk (by omega) fun q hq => ?_
  have le1 : Le H (upd H q [.int .i64 (0 : Int)]) := Le.upd hq
  have q1 : SwQ (upd H q [.int .i64 (0 : Int)]) q 0 := ⟨0, by rw [rd_upd_self]; rfl, by omega, by omega⟩
  have h1 := Aw.le h le1
  have hqp : q ∉ blkL p := fun hx => by
    obtain ⟨b', o', e, hh⟩ := Aw.at h (k := 0) (by omega)
    rw [e] at hx
    simp [blkL] at hx
    subst hx
    exact Aw.there (n := 4) (f := edC) (fun _ => rfl) (by decide) h (by omega) (by rw [e]; simp [blkL]) hq
  have hn : ∀ b ∈ blkL p, b ∉ [q] := fun b hb hb' => by simp at hb'; subst hb'; exact hqp hb
  generalize upd H q [.int .i64 (0 : Int)] = H1 at *
  rw [show ((b : Nat) : Int) - ((a : Nat) : Int) = ((b - a : Nat) : Int) by omega, show (4 : Int) = ((4 : Nat) : Int) from rfl, tdivN]
  have fin : ∀ (x : Nat) (H2 : Hp), a ≤ x → x < b → Mod [q] H1 H2 → (∃ N, SwQ H2 q N) → slices_choosePivotCmpFunc_api_Edge.k1 K q (x : Nat) H2 := fun x H2 hx1 hx2 m2 ⟨N, n, r, _⟩ => by
    have le2 : Le H H2 := m2.le le1 (by simpa using hq)
    unfold slices_choosePivotCmpFunc_api_Edge.k1
    exact ldI_i r (bcd (fun _ => hK x 1 H2 hx1 hx2 le2) fun _ => bcd (fun _ => hK x 2 H2 hx1 hx2 le2) fun _ => hK x 0 H2 hx1 hx2 le2)
  have e1 : ((a : Nat) : Int) + (((b - a) / 4 : Nat) : Int) * 1 = ((a + (b - a) / 4 : Nat) : Int) := by omega
  have e2 : ((a : Nat) : Int) + (((b - a) / 4 : Nat) : Int) * 2 = ((a + (b - a) / 4 * 2 : Nat) : Int) := by omega
  have e3 : ((a : Nat) : Int) + (((b - a) / 4 : Nat) : Int) * 3 = ((a + (b - a) / 4 * 3 : Nat) : Int) := by omega
  refine ⟨by decide, chk (by omega) (chk (by omega) (chk (by omega) ⟨by decide, chk (by omega) (chk (by omega) (chk (by omega) ⟨by decide, chk (by omega) (chk (by omega) (chk (by omega) ?_))⟩))⟩))⟩
  rw [e1, e2, e3]
  refine bcd (fun h8 => bcd (fun h50 => ?_) fun h50 => ?_) fun h8 => fin _ _ (by omega) (by omega) Mod.refl ⟨0, q1⟩
  · refine slices_medianAdjacentCmpFunc_api_Edge.c h1 (by omega) (by omega) hl q1 (by omega) hqp fun x1 H2 hx1 q2 m2 => ?_
    have h2 := Aw.mod h1 m2 hn
    refine slices_medianAdjacentCmpFunc_api_Edge.c h2 (by omega) (by omega) hl q2 (by omega) hqp fun x2 H3 hx2 q3 m3 => ?_
    have h3 := Aw.mod h2 m3 hn
    refine slices_medianAdjacentCmpFunc_api_Edge.c h3 (by omega) (by omega) hl q3 (by omega) hqp fun x3 H4 hx3 q4 m4 => ?_
    have h4 := Aw.mod h3 m4 hn
    refine slices_medianCmpFunc_api_Edge.c h4 (by omega) (by omega) (by omega) q4 (by omega) hqp fun x4 H5 hx4 q5 m5 => ?_
    exact fin x4 H5 (by omega) (by omega) (((m2.trans m3).trans m4).trans m5) ⟨_, q5⟩
  · refine slices_medianCmpFunc_api_Edge.c h1 (by omega) (by omega) (by omega) q1 (by omega) hqp fun x1 H2 hx1 q2 m2 => ?_
    exact fin x1 H2 (by omega) (by omega) m2 ⟨_, q2⟩
end
section
variable {H : Hp} {p : Option Addr} {l cc : Nat} {d : Array Ed} {cf : Value} [CfE cf]
theorem slices_partitionCmpFunc_api_Edge.c {a b pv : Nat} {K : Int → Bool → Hp → Prop} (h : Aw 4 edC H p l d) (hp1 : a ≤ pv) (hp2 : pv < b) (hb : b ≤ d.size) (hl : l ≤ 1000000000)
    (hK : ∀ H', Aw 4 edC H' p l (Sort.partition edLt d a b pv).2.2 → Mod (blkL p) H H' → K ((Sort.partition edLt d a b pv).1 : Nat) (Sort.partition edLt d a b pv).2.1 H') : slices_partitionCmpFunc_api_Edge.C p l cc (a : Nat) (b : Nat) (pv : Nat) cf H K := by
  apply slices_partitionCmpFunc_api_Edge.of
  have hl0 := h.1
  refine rwE h pv rfl (by omega) (rwE h a rfl (by omega) (swE h (i := a) (j := pv) (by omega) (by omega) rfl rfl fun H1 h1 m1 => chk (by omega) (chk (by omega) ?_)))
  obtain ⟨d1, hd1⟩ : ∃ d1, d1 = Sort.swp d a pv := ⟨_, rfl⟩
  rw [← hd1] at h1
  have s1 : d1.size = d.size := by rw [hd1, Sort.swp_size]
  have hres : Sort.partition edLt d a b pv = (if Sort.scanUp (fun x => edLt x d1[a]!) d1 (b - 1) (a + 1) > Sort.scanDown (fun x => !edLt x d1[a]!) d1 (Sort.scanUp (fun x => edLt x d1[a]!) d1 (b - 1) (a + 1)) (b - 1) then (Sort.scanDown (fun x => !edLt x d1[a]!) d1 (Sort.scanUp (fun x => edLt x d1[a]!) d1 (b - 1) (a + 1)) (b - 1), true, Sort.swp d1 (Sort.scanDown (fun x => !edLt x d1[a]!) d1 (Sort.scanUp (fun x => edLt x d1[a]!) d1 (b - 1) (a + 1)) (b - 1)) a) else
      ((Sort.partLoop edLt a (Sort.scanUp (fun x => edLt x d1[a]!) d1 (b - 1) (a + 1) + 1) (Sort.scanDown (fun x => !edLt x d1[a]!) d1 (Sort.scanUp (fun x => edLt x d1[a]!) d1 (b - 1) (a + 1)) (b - 1) - 1) (Sort.swp d1 (Sort.scanUp (fun x => edLt x d1[a]!) d1 (b - 1) (a + 1)) (Sort.scanDown (fun x => !edLt x d1[a]!) d1 (Sort.scanUp (fun x => edLt x d1[a]!) d1 (b - 1) (a + 1)) (b - 1)))).1, false, Sort.swp (Sort.partLoop edLt a (Sort.scanUp (fun x => edLt x d1[a]!) d1 (b - 1) (a + 1) + 1) (Sort.scanDown (fun x => !edLt x d1[a]!) d1 (Sort.scanUp (fun x => edLt x d1[a]!) d1 (b - 1) (a + 1)) (b - 1) - 1) (Sort.swp d1 (Sort.scanUp (fun x => edLt x d1[a]!) d1 (b - 1) (a + 1)) (Sort.scanDown (fun x => !edLt x d1[a]!) d1 (Sort.scanUp (fun x => edLt x d1[a]!) d1 (b - 1) (a + 1)) (b - 1)))).2 (Sort.partLoop edLt a (Sort.scanUp (fun x => edLt x d1[a]!) d1 (b - 1) (a + 1) + 1) (Sort.scanDown (fun x => !edLt x d1[a]!) d1 (Sort.scanUp (fun x => edLt x d1[a]!) d1 (b - 1) (a + 1)) (b - 1) - 1) (Sort.swp d1 (Sort.scanUp (fun x => edLt x d1[a]!) d1 (b - 1) (a + 1)) (Sort.scanDown (fun x => !edLt x d1[a]!) d1 (Sort.scanUp (fun x => edLt x d1[a]!) d1 (b - 1) (a + 1)) (b - 1)))).1 a)) := by
    subst hd1; rfl
  generalize Sort.partition edLt d a b pv = PR at *
  have g0 := Sort.scanUp_ge (fun x => edLt x d1[a]!) d1 (b - 1) (a + 1)
  obtain ⟨i0, hi0⟩ : ∃ i0, i0 = Sort.scanUp (fun x => edLt x d1[a]!) d1 (b - 1) (a + 1) := ⟨_, rfl⟩
  rw [← hi0] at hres g0
  obtain ⟨j0, hj0⟩ : ∃ j0, j0 = Sort.scanDown (fun x => !edLt x d1[a]!) d1 i0 (b - 1) := ⟨_, rfl⟩
  rw [← hj0] at hres
  -- behind the first two loops
  have k2 : ∀ Hy, Le H1 Hy → i0 ≤ j0 + 1 → j0 < b → a ≤ j0 → slices_partitionCmpFunc_api_Edge.k2 K (a : Nat) cf l p (i0 : Nat) (j0 : Nat) Hy := by
    intro Hy le1 q1 q2 q3
    have h1 := Aw.le h1 le1
    have m1 := Mod.andLe m1 le1
    unfold slices_partitionCmpFunc_api_Edge.k2
    refine bcd (fun hlt => ?_) fun hlt => ?_
    · refine rwE h1 a rfl (by omega) (rwE h1 j0 rfl (by omega) (swE h1 (i := j0) (j := a) (by omega) (by omega) rfl rfl fun H2 h2 m2 => ?_))
      rw [if_pos (by omega)] at hres
      rw [hres] at hK
      exact hK H2 h2 (m1.trans m2)
    · rw [if_neg (by omega)] at hres
      refine rwE h1 j0 rfl (by omega) (rwE h1 i0 rfl (by omega) (swE h1 (i := i0) (j := j0) (by omega) (by omega) rfl rfl fun H2 h2 m2 => chk (by omega) (chk (by omega) ?_)))
      generalize hR : Sort.partLoop edLt a (i0 + 1) (j0 - 1) (Sort.swp d1 i0 j0) = R at hres
      refine ⟨fun i j Hx => ∃ (i' j' : Nat) (d2 : Array Ed), i = (i' : Nat) ∧ j = (j' : Nat) ∧ a + 1 ≤ i' ∧ i' ≤ b + 1 ∧ a ≤ j' ∧ j' < b ∧ d2.size = d.size ∧ Aw 4 edC Hx p l d2 ∧ Mod (blkL p) H Hx ∧ Sort.partLoop edLt a i' j' d2 = R, fun i j _ => (j + 2 - i).toNat, ⟨i0 + 1, j0 - 1, _, by omega, by omega, by omega, by omega, by omega, by omega, by rw [Sort.swp_size]; exact s1, h2, m1.trans m2, hR⟩, ?_⟩
      rintro i j Hx ⟨i, j, d2, rfl, rfl, w1, w2, w3, w4, s2, h2x, m2x, eR⟩
      rw [Sort.partLoop_eq] at eR
      have gi := Sort.scanUp_ge (fun x => edLt x d2[a]!) d2 j i
      obtain ⟨i1, hi1⟩ : ∃ i1, i1 = Sort.scanUp (fun x => edLt x d2[a]!) d2 j i := ⟨_, rfl⟩
      rw [← hi1] at eR gi
      obtain ⟨j1, hj1⟩ : ∃ j1, j1 = Sort.scanDown (fun x => !edLt x d2[a]!) d2 i1 j := ⟨_, rfl⟩
      have gj := Sort.scanDown_le (fun x => !edLt x d2[a]!) d2 i1 j
      rw [← hj1] at eR gj
      have k4 : ∀ Hz, Le Hx Hz → i1 ≤ b + 1 → a ≤ j1 → slices_partitionCmpFunc_api_Edge.k4 Hx (fun i j Hx => ∃ (i' j' : Nat) (d2 : Array Ed), i = (i' : Nat) ∧ j = (j' : Nat) ∧ a + 1 ≤ i' ∧ i' ≤ b + 1 ∧ a ≤ j' ∧ j' < b ∧ d2.size = d.size ∧ Aw 4 edC Hx p l d2 ∧ Mod (blkL p) H Hx ∧ Sort.partLoop edLt a i' j' d2 = R) K (a : Nat) l p (i : Nat) (i1 : Nat) (j : Nat) (fun i j _ => (j + 2 - i).toNat) (j1 : Nat) Hz := by
        intro Hz lz v1 v2
        have h2x := Aw.le h2x lz
        have m2x := Mod.andLe m2x lz
        unfold slices_partitionCmpFunc_api_Edge.k4 slices_partitionCmpFunc_api_Edge.k5
        refine bcd (fun hlt => ?_) fun hlt => ?_
        · rw [if_pos (by omega)] at eR
          refine rwE h2x a rfl (by omega) (rwE h2x j1 rfl (by omega) (swE h2x (i := j1) (j := a) (by omega) (by omega) rfl rfl fun H3 h3 m3 => ?_))
          rw [hres, ← eR] at hK
          exact hK H3 h3 (m2x.trans m3)
        · rw [if_neg (by omega)] at eR
          exact rwE h2x j1 rfl (by omega) (rwE h2x i1 rfl (by omega) (swE h2x (i := i1) (j := j1) (by omega) (by omega) rfl rfl fun H3 h3 m3 => chk (by omega) (chk (by omega) ⟨⟨i1 + 1, j1 - 1, _, by omega, by omega, by omega, by omega, by omega, by omega, by rw [Sort.swp_size]; exact s2, h3, m2x.trans m3, eR⟩, by first | omega | (dsimp only; omega)⟩)))
      have k3 : ∀ Hz, Le Hx Hz → i1 ≤ b + 1 → slices_partitionCmpFunc_api_Edge.k3 Hx (fun i j Hx => ∃ (i' j' : Nat) (d2 : Array Ed), i = (i' : Nat) ∧ j = (j' : Nat) ∧ a + 1 ≤ i' ∧ i' ≤ b + 1 ∧ a ≤ j' ∧ j' < b ∧ d2.size = d.size ∧ Aw 4 edC Hx p l d2 ∧ Mod (blkL p) H Hx ∧ Sort.partLoop edLt a i' j' d2 = R) K (a : Nat) cf l p (i : Nat) (j : Nat) (fun i j _ => (j + 2 - i).toNat) (i1 : Nat) Hz := by
        intro Hz lz v1
        unfold slices_partitionCmpFunc_api_Edge.k3
        refine ⟨fun t Hw => ∃ t' : Nat, t = (t' : Nat) ∧ a ≤ t' ∧ t' < b ∧ Le Hx Hw ∧ Sort.scanDown (fun x => !edLt x d2[a]!) d2 i1 t' = j1, fun t _ => t.toNat, ⟨j, rfl, w3, w4, lz, hj1.symm⟩, ?_⟩
        rintro t Hw ⟨t, rfl, u1, u2, lw, u3⟩
        have h2x := Aw.le h2x lw
        have m2x := Mod.andLe m2x lw
        refine bcd (fun hle => ?_) fun hle => ?_
        · obtain ⟨w, rfl⟩ : ∃ w, t = w + 1 := ⟨t - 1, by omega⟩
          refine rwE h2x (w + 1) rfl (by omega) (rwE h2x a rfl (by omega) (CfE.c _ _ _ _ fun Hf rr lf hr => ?_))
          rw [hr]
          have h2x := Aw.le h2x lf
          have m2x := Mod.andLe m2x lf
          refine bcn (fun hc => ?_) fun hc => ?_
          · refine chk (by omega) ⟨⟨w, by omega, by omega, by omega, lw.trans lf, ?_⟩, by first | omega | (dsimp only; omega)⟩
            rw [← u3]; conv => rhs; rw [Sort.scanDown, if_pos (by rw [hc]; simp; omega)]
          · have : j1 = w + 1 := by rw [← u3, Sort.scanDown, if_neg (by rw [hc]; simp)]
            rw [← this]; exact k4 _ (lw.trans lf) v1 (by omega)
        · have : j1 = t := by
            rw [← u3]
            cases t with
            | zero => rfl
            | succ t => rw [Sort.scanDown, if_neg (by simp; omega)]
          rw [← this]; exact k4 _ lw v1 (by omega)
      refine ⟨fun t Hw => ∃ t' : Nat, t = (t' : Nat) ∧ a + 1 ≤ t' ∧ t' ≤ b + 1 ∧ Le Hx Hw ∧ Sort.scanUp (fun x => edLt x d2[a]!) d2 j t' = i1, fun t _ => ((b : Int) + 1 - t).toNat, ⟨i, rfl, w1, w2, Le.refl _, hi1.symm⟩, ?_⟩
      rintro t Hw ⟨t, rfl, u1, u2, lw, u3⟩
      have h2x := Aw.le h2x lw
      have m2x := Mod.andLe m2x lw
      refine bcd (fun hle => ?_) fun hle => ?_
      · refine rwE h2x t rfl (by omega) (rwE h2x a rfl (by omega) (CfE.c _ _ _ _ fun Hf rr lf hr => ?_))
        rw [hr]
        have h2x := Aw.le h2x lf
        have m2x := Mod.andLe m2x lf
        refine bc_i (fun hc => ?_) fun hc => ?_
        · refine chk (by omega) ⟨⟨t + 1, by omega, by omega, by omega, lw.trans lf, ?_⟩, by first | omega | (dsimp only; omega)⟩
          rw [← u3]; conv => rhs; rw [Sort.scanUp, if_pos (by rw [hc]; simp; omega)]
        · have : i1 = t := by rw [← u3, Sort.scanUp, if_neg (by rw [hc]; simp)]
          rw [← this]; exact k3 _ (lw.trans lf) (by omega)
      · have : i1 = t := by rw [← u3, Sort.scanUp, if_neg (by simp; omega)]
        rw [← this]; exact k3 _ lw (by omega)
  have k1 : ∀ Hy, Le H1 Hy → i0 ≤ b → slices_partitionCmpFunc_api_Edge.k1 K (a : Nat) cf l p ((b : Nat) - 1 : Int) (i0 : Nat) Hy := by
    intro Hy le1 q1
    unfold slices_partitionCmpFunc_api_Edge.k1
    refine ⟨fun t Hw => ∃ t' : Nat, t = (t' : Nat) ∧ a ≤ t' ∧ t' < b ∧ i0 ≤ t' + 1 ∧ Le H1 Hw ∧ Sort.scanDown (fun x => !edLt x d1[a]!) d1 i0 t' = j0, fun t _ => t.toNat, ⟨b - 1, by omega, by omega, by omega, by omega, le1, hj0.symm⟩, ?_⟩
    rintro t Hw ⟨t, rfl, u1, u2, u4, lw, u3⟩
    have h1 := Aw.le h1 lw
    have m1 := Mod.andLe m1 lw
    refine bcd (fun hle => ?_) fun hle => ?_
    · obtain ⟨w, rfl⟩ : ∃ w, t = w + 1 := ⟨t - 1, by omega⟩
      refine rwE h1 (w + 1) rfl (by omega) (rwE h1 a rfl (by omega) (CfE.c _ _ _ _ fun Hf rr lf hr => ?_))
      rw [hr]
      have h1 := Aw.le h1 lf
      have m1 := Mod.andLe m1 lf
      refine bcn (fun hc => ?_) fun hc => ?_
      · refine chk (by omega) ⟨⟨w, by omega, by omega, by omega, by omega, lw.trans lf, ?_⟩, by first | omega | (dsimp only; omega)⟩
        rw [← u3]; conv => rhs; rw [Sort.scanDown, if_pos (by rw [hc]; simp; omega)]
      · have : j0 = w + 1 := by rw [← u3, Sort.scanDown, if_neg (by rw [hc]; simp)]
        rw [← this]; exact k2 _ (lw.trans lf) (by omega) (by omega) (by omega)
    · have : j0 = t := by
        rw [← u3]
        cases t with
        | zero => rfl
        | succ t => rw [Sort.scanDown, if_neg (by simp; omega)]
      rw [← this]; exact k2 _ lw (by omega) (by omega) (by omega)
  refine ⟨fun t Hw => ∃ t' : Nat, t = (t' : Nat) ∧ a + 1 ≤ t' ∧ t' ≤ b ∧ Le H1 Hw ∧ Sort.scanUp (fun x => edLt x d1[a]!) d1 (b - 1) t' = i0, fun t _ => ((b : Int) + 1 - t).toNat, ⟨a + 1, by omega, by omega, by omega, Le.refl _, hi0.symm⟩, ?_⟩
  rintro t Hw ⟨t, rfl, u1, u2, lw, u3⟩
  have h1 := Aw.le h1 lw
  have m1 := Mod.andLe m1 lw
  refine bcd (fun hle => ?_) fun hle => ?_
  · refine rwE h1 t rfl (by omega) (rwE h1 a rfl (by omega) (CfE.c _ _ _ _ fun Hf rr lf hr => ?_))
    rw [hr]
    have h1 := Aw.le h1 lf
    have m1 := Mod.andLe m1 lf
    refine bc_i (fun hc => ?_) fun hc => ?_
    · refine chk (by omega) ⟨⟨t + 1, by omega, by omega, by omega, lw.trans lf, ?_⟩, by first | omega | (dsimp only; omega)⟩
      rw [← u3]; conv => rhs; rw [Sort.scanUp, if_pos (by rw [hc]; simp; omega)]
    · have : i0 = t := by rw [← u3, Sort.scanUp, if_neg (by rw [hc]; simp)]
      rw [← this]; exact k1 _ (lw.trans lf) (by omega)
  · have : i0 = t := by rw [← u3, Sort.scanUp, if_neg (by simp; omega)]
    rw [← this]; exact k1 _ lw (by omega)
theorem slices_partitionEqualCmpFunc_api_Edge.c {a b pv : Nat} {K : Int → Hp → Prop} (h : Aw 4 edC H p l d) (hp1 : a ≤ pv) (hp2 : pv < b) (hb : b ≤ d.size) (hl : l ≤ 1000000000)
    (hK : ∀ H', Aw 4 edC H' p l (Sort.partitionEqual edLt d a b pv).2 → Mod (blkL p) H H' → K ((Sort.partitionEqual edLt d a b pv).1 : Nat) H') : slices_partitionEqualCmpFunc_api_Edge.C p l cc (a : Nat) (b : Nat) (pv : Nat) cf H K := by
  apply slices_partitionEqualCmpFunc_api_Edge.of
  have hl0 := h.1
  refine rwE h pv rfl (by omega) (rwE h a rfl (by omega) (swE h (i := a) (j := pv) (by omega) (by omega) rfl rfl fun H1 h1 m1 => chk (by omega) (chk (by omega) ?_)))
  have hres : Sort.partitionEqual edLt d a b pv = Sort.partEqLoop edLt a (a + 1) (b - 1) (Sort.swp d a pv) := rfl
  generalize Sort.partitionEqual edLt d a b pv = R at *
  refine ⟨fun i j Hx => ∃ (i' j' : Nat) (d2 : Array Ed), i = (i' : Nat) ∧ j = (j' : Nat) ∧ a + 1 ≤ i' ∧ i' ≤ b + 1 ∧ a ≤ j' ∧ j' < b ∧ d2.size = d.size ∧ Aw 4 edC Hx p l d2 ∧ Mod (blkL p) H Hx ∧ Sort.partEqLoop edLt a i' j' d2 = R, fun i j _ => (j + 2 - i).toNat, ⟨a + 1, b - 1, _, by omega, by omega, by omega, by omega, by omega, by omega, by rw [Sort.swp_size], h1, m1, hres.symm⟩, ?_⟩
  rintro i j Hx ⟨i, j, d2, rfl, rfl, w1, w2, w3, w4, s2, h2x, m2x, eR⟩
  rw [Sort.partEqLoop_eq] at eR
  have gi := Sort.scanUp_ge (fun x => !edLt d2[a]! x) d2 j i
  obtain ⟨i1, hi1⟩ : ∃ i1, i1 = Sort.scanUp (fun x => !edLt d2[a]! x) d2 j i := ⟨_, rfl⟩
  rw [← hi1] at eR gi
  obtain ⟨j1, hj1⟩ : ∃ j1, j1 = Sort.scanDown (fun x => edLt d2[a]! x) d2 i1 j := ⟨_, rfl⟩
  have gj := Sort.scanDown_le (fun x => edLt d2[a]! x) d2 i1 j
  rw [← hj1] at eR gj
  have k2 : ∀ Hz, Le Hx Hz → i1 ≤ b + 1 → a ≤ j1 → slices_partitionEqualCmpFunc_api_Edge.k2 Hx (fun i j Hx => ∃ (i' j' : Nat) (d2 : Array Ed), i = (i' : Nat) ∧ j = (j' : Nat) ∧ a + 1 ≤ i' ∧ i' ≤ b + 1 ∧ a ≤ j' ∧ j' < b ∧ d2.size = d.size ∧ Aw 4 edC Hx p l d2 ∧ Mod (blkL p) H Hx ∧ Sort.partEqLoop edLt a i' j' d2 = R) K l p (i : Nat) (i1 : Nat) (j : Nat) (fun i j _ => (j + 2 - i).toNat) (j1 : Nat) Hz := by
    intro Hz lz v1 v2
    have h2x := Aw.le h2x lz
    have m2x := Mod.andLe m2x lz
    unfold slices_partitionEqualCmpFunc_api_Edge.k2
    refine bcd (fun hlt => ?_) fun hlt => ?_
    · rw [if_pos (by omega)] at eR
      rw [← eR] at hK
      exact hK _ h2x m2x
    · rw [if_neg (by omega)] at eR
      exact rwE h2x j1 rfl (by omega) (rwE h2x i1 rfl (by omega) (swE h2x (i := i1) (j := j1) (by omega) (by omega) rfl rfl fun H3 h3 m3 => chk (by omega) (chk (by omega) ⟨⟨i1 + 1, j1 - 1, _, by omega, by omega, by omega, by omega, by omega, by omega, by rw [Sort.swp_size]; exact s2, h3, m2x.trans m3, eR⟩, by first | omega | (dsimp only; omega)⟩)))
  have k1 : ∀ Hz, Le Hx Hz → i1 ≤ b + 1 → slices_partitionEqualCmpFunc_api_Edge.k1 Hx (fun i j Hx => ∃ (i' j' : Nat) (d2 : Array Ed), i = (i' : Nat) ∧ j = (j' : Nat) ∧ a + 1 ≤ i' ∧ i' ≤ b + 1 ∧ a ≤ j' ∧ j' < b ∧ d2.size = d.size ∧ Aw 4 edC Hx p l d2 ∧ Mod (blkL p) H Hx ∧ Sort.partEqLoop edLt a i' j' d2 = R) K (a : Nat) cf l p (i : Nat) (j : Nat) (fun i j _ => (j + 2 - i).toNat) (i1 : Nat) Hz := by
    intro Hz lz v1
    unfold slices_partitionEqualCmpFunc_api_Edge.k1
    refine ⟨fun t Hw => ∃ t' : Nat, t = (t' : Nat) ∧ a ≤ t' ∧ t' < b ∧ Le Hx Hw ∧ Sort.scanDown (fun x => edLt d2[a]! x) d2 i1 t' = j1, fun t _ => t.toNat, ⟨j, rfl, w3, w4, lz, hj1.symm⟩, ?_⟩
    rintro t Hw ⟨t, rfl, u1, u2, lw, u3⟩
    have h2x := Aw.le h2x lw
    have m2x := Mod.andLe m2x lw
    refine bcd (fun hle => ?_) fun hle => ?_
    · obtain ⟨w, rfl⟩ : ∃ w, t = w + 1 := ⟨t - 1, by omega⟩
      refine rwE h2x a rfl (by omega) (rwE h2x (w + 1) rfl (by omega) (CfE.c _ _ _ _ fun Hf rr lf hr => ?_))
      rw [hr]
      have h2x := Aw.le h2x lf
      have m2x := Mod.andLe m2x lf
      refine bc_i (fun hc => ?_) fun hc => ?_
      · refine chk (by omega) ⟨⟨w, by omega, by omega, by omega, lw.trans lf, ?_⟩, by first | omega | (dsimp only; omega)⟩
        rw [← u3]; conv => rhs; rw [Sort.scanDown, if_pos (by rw [hc]; simp; omega)]
      · have : j1 = w + 1 := by rw [← u3, Sort.scanDown, if_neg (by rw [hc]; simp)]
        rw [← this]; exact k2 _ (lw.trans lf) v1 (by omega)
    · have : j1 = t := by
        rw [← u3]
        cases t with
        | zero => rfl
        | succ t => rw [Sort.scanDown, if_neg (by simp; omega)]
      rw [← this]; exact k2 _ lw v1 (by omega)
  refine ⟨fun t Hw => ∃ t' : Nat, t = (t' : Nat) ∧ a + 1 ≤ t' ∧ t' ≤ b + 1 ∧ Le Hx Hw ∧ Sort.scanUp (fun x => !edLt d2[a]! x) d2 j t' = i1, fun t _ => ((b : Int) + 1 - t).toNat, ⟨i, rfl, w1, w2, Le.refl _, hi1.symm⟩, ?_⟩
  rintro t Hw ⟨t, rfl, u1, u2, lw, u3⟩
  have h2x := Aw.le h2x lw
  have m2x := Mod.andLe m2x lw
  refine bcd (fun hle => ?_) fun hle => ?_
  · refine rwE h2x a rfl (by omega) (rwE h2x t rfl (by omega) (CfE.c _ _ _ _ fun Hf rr lf hr => ?_))
    rw [hr]
    have h2x := Aw.le h2x lf
    have m2x := Mod.andLe m2x lf
    refine bcn (fun hc => ?_) fun hc => ?_
    · refine chk (by omega) ⟨⟨t + 1, by omega, by omega, by omega, lw.trans lf, ?_⟩, by first | omega | (dsimp only; omega)⟩
      rw [← u3]; conv => rhs; rw [Sort.scanUp, if_pos (by rw [hc]; simp; omega)]
    · have : i1 = t := by rw [← u3, Sort.scanUp, if_neg (by rw [hc]; simp)]
      rw [← this]; exact k1 _ (lw.trans lf) (by omega)
  · have : i1 = t := by rw [← u3, Sort.scanUp, if_neg (by simp; omega)]
    rw [← this]; exact k1 _ lw (by omega)
theorem slices_partialInsertionSortCmpFunc_api_Edge.c {a b : Nat} {K : Bool → Hp → Prop} (h : Aw 4 edC H p l d) (hab : a < b) (hb : b ≤ d.size) (hl : l ≤ 1000000000)
    (hK : ∀ H', Aw 4 edC H' p l (Sort.partialInsertionSort edLt d a b).1 → Mod (blkL p) H H' → K (Sort.partialInsertionSort edLt d a b).2 H') : slices_partialInsertionSortCmpFunc_api_Edge.C p l cc (a : Nat) (b : Nat) cf H K := by
  apply slices_partialInsertionSortCmpFunc_api_Edge.of
  have hl0 := h.1
  have hres : Sort.partialInsertionSort edLt d a b = Sort.partialIns edLt a b 5 (a + 1) d := rfl
  generalize Sort.partialInsertionSort edLt d a b = R at *
  refine chk (by omega) ?_
  refine ⟨fun i j Hx => ∃ (i' j' : Nat) (d1 : Array Ed), i = (i' : Nat) ∧ j = (j' : Nat) ∧ a + 1 ≤ i' ∧ i' ≤ b ∧ j' ≤ 5 ∧ d1.size = d.size ∧ Aw 4 edC Hx p l d1 ∧ Mod (blkL p) H Hx ∧ Sort.partialIns edLt a b (5 - j') i' d1 = R, fun _ j _ => (5 - j).toNat, ⟨a + 1, 0, d, by omega, rfl, by omega, by omega, by omega, rfl, h, Mod.refl, hres.symm⟩, ?_⟩
  rintro i j Hx ⟨i, j, d1, rfl, rfl, g1, g2, g3, gs, h1, m1, e1⟩
  refine bcd (fun hlt => ?_) fun hlt => ?_
  · obtain ⟨s, hs⟩ : ∃ s, 5 - j = s + 1 := ⟨5 - j - 1, by omega⟩
    rw [hs, Sort.partialIns_succ] at e1
    obtain ⟨i1, hi1⟩ : ∃ i1, i1 = Sort.scanSorted edLt d1 b i := ⟨_, rfl⟩
    rw [← hi1] at e1
    have k1 : ∀ Hy, Le Hx Hy → a + 1 ≤ i1 → i1 ≤ b → slices_partialInsertionSortCmpFunc_api_Edge.k1 Hx (fun i j Hx => ∃ (i' j' : Nat) (d1 : Array Ed), i = (i' : Nat) ∧ j = (j' : Nat) ∧ a + 1 ≤ i' ∧ i' ≤ b ∧ j' ≤ 5 ∧ d1.size = d.size ∧ Aw 4 edC Hx p l d1 ∧ Mod (blkL p) H Hx ∧ Sort.partialIns edLt a b (5 - j') i' d1 = R) K (a : Nat) (b : Nat) cf l p (i : Nat) (j : Nat) (fun _ j _ => (5 - j).toNat) (i1 : Nat) Hy := by
      intro Hy ly q1 q2
      have h1 := Aw.le h1 ly
      have m1 := Mod.andLe m1 ly
      unfold slices_partialInsertionSortCmpFunc_api_Edge.k1
      refine bcd (fun he => ?_) fun he => ?_
      · rw [if_pos (by omega)] at e1
        rw [← e1] at hK
        exact hK _ h1 m1
      rw [if_neg (by omega)] at e1
      refine chk (by omega) (bcd (fun h50 => ?_) fun h50 => ?_)
      · rw [if_pos (by omega)] at e1
        rw [← e1] at hK
        exact hK _ h1 m1
      rw [if_neg (by omega)] at e1
      refine chk (by omega) (chk (by omega) (rwE h1 (i1 - 1) (by omega) (by omega) (rwE h1 i1 rfl (by omega) (swE h1 (i := i1) (j := i1 - 1) (by omega) (by omega) rfl (by omega) fun H2 h2 m2 => chk (by omega) ?_))))
      generalize hd2 : Sort.swp d1 i1 (i1 - 1) = d2 at *
      have s2 : d2.size = d.size := by rw [← hd2, Sort.swp_size]; exact gs
      -- behind the shift down
      have k2 : ∀ (Hz : Hp) (d3 : Array Ed), d3 = Sort.fixDown edLt a i1 d2 → d3.size = d.size → Aw 4 edC Hz p l d3 → Mod (blkL p) H Hz → slices_partialInsertionSortCmpFunc_api_Edge.k2 Hx (fun i j Hx => ∃ (i' j' : Nat) (d1 : Array Ed), i = (i' : Nat) ∧ j = (j' : Nat) ∧ a + 1 ≤ i' ∧ i' ≤ b ∧ j' ≤ 5 ∧ d1.size = d.size ∧ Aw 4 edC Hx p l d1 ∧ Mod (blkL p) H Hx ∧ Sort.partialIns edLt a b (5 - j') i' d1 = R) (b : Nat) cf l p (i1 : Nat) (i : Nat) (j : Nat) (fun _ j _ => (5 - j).toNat) Hz := by
        intro Hz d3 hd3 s3 h3 m3
        rw [← hd3] at e1
        have fin : ∀ (Hw : Hp) (d4 : Array Ed), d4 = Sort.fixUp edLt b i1 d3 → d4.size = d.size → Aw 4 edC Hw p l d4 → Mod (blkL p) H Hw → CHK .i64 (((j : Nat) : Int) + (1 : Int)) fun x => (∃ (i' j' : Nat) (d1 : Array Ed), ((i1 : Nat) : Int) = (i' : Nat) ∧ x = (j' : Nat) ∧ a + 1 ≤ i' ∧ i' ≤ b ∧ j' ≤ 5 ∧ d1.size = d.size ∧ Aw 4 edC Hw p l d1 ∧ Mod (blkL p) H Hw ∧ Sort.partialIns edLt a b (5 - j') i' d1 = R) ∧ (5 - x).toNat < (5 - ((j : Nat) : Int)).toNat := fun Hw d4 hd4 s4 h4 m4 =>
          chk (by omega) ⟨⟨i1, j + 1, d4, rfl, by omega, q1, q2, by omega, s4, h4, m4, by rw [show 5 - (j + 1) = s by omega, hd4]; exact e1⟩, by omega⟩
        unfold slices_partialInsertionSortCmpFunc_api_Edge.k2
        refine chk (by omega) (bcd (fun hge => ?_) fun hge => fin Hz d3 (by unfold Sort.fixUp; rw [if_neg (by omega)]) s3 h3 m3)
        have hfu : Sort.fixUp edLt b i1 d3 = Sort.shiftUp edLt b (i1 + 1) d3 := by unfold Sort.fixUp; rw [if_pos (by omega)]
        refine chk (by omega) ?_
        refine ⟨fun t Hw => ∃ (t' : Nat) (d4 : Array Ed), t = (t' : Nat) ∧ i1 + 1 ≤ t' ∧ t' ≤ b ∧ d4.size = d.size ∧ Aw 4 edC Hw p l d4 ∧ Mod (blkL p) H Hw ∧ Sort.shiftUp edLt b t' d4 = Sort.fixUp edLt b i1 d3, fun t _ => ((b : Int) - t).toNat, ⟨i1 + 1, d3, by omega, by omega, by omega, s3, h3, m3, hfu.symm⟩, ?_⟩
        rintro t Hw ⟨t, d4, rfl, u1, u2, s4, h4, m4, e4⟩
        refine bcd (fun hlt' => ?_) fun hlt' => fin Hw d4 (by rw [← e4, Sort.shiftUp, if_neg (by omega)]) s4 h4 m4
        rw [Sort.shiftUp, if_pos (by omega)] at e4
        refine rwE h4 t rfl (by omega) (chk (by omega) (rwE h4 (t - 1) (by omega) (by omega) (CfE.c _ _ _ _ fun Hf rr lf hr => ?_)))
        rw [hr]
        have h4 := Aw.le h4 lf
        have m4 := Mod.andLe m4 lf
        refine bcn (fun hc => ?_) fun hc => ?_
        · rw [if_pos (by rw [hc]; rfl)] at e4
          exact fin _ d4 e4 s4 h4 m4
        · rw [if_neg (by rw [hc]; decide)] at e4
          exact chk (by omega) (chk (by omega) (rwE h4 (t - 1) (by omega) (by omega) (rwE h4 t rfl (by omega) (swE h4 (i := t) (j := t - 1) (by omega) (by omega) rfl (by omega) fun H5 h5 m5 => chk (by omega) ⟨⟨t + 1, _, by omega, by omega, by omega, by rw [Sort.swp_size]; exact s4, h5, m4.trans m5, e4⟩, by first | omega | (dsimp only; omega)⟩))))
      refine bcd (fun hge => ?_) fun hge => k2 H2 d2 (by unfold Sort.fixDown; rw [if_neg (by omega)]) s2 h2 (m1.trans m2)
      have hfd : Sort.fixDown edLt a i1 d2 = Sort.shiftDown edLt (i1 - 1) d2 := by unfold Sort.fixDown; rw [if_pos (by omega)]
      refine chk (by omega) ?_
      refine ⟨fun t Hw => ∃ (t' : Nat) (d3 : Array Ed), t = (t' : Nat) ∧ t' ≤ i1 - 1 ∧ d3.size = d.size ∧ Aw 4 edC Hw p l d3 ∧ Mod (blkL p) H Hw ∧ Sort.shiftDown edLt t' d3 = Sort.fixDown edLt a i1 d2, fun t _ => t.toNat, ⟨i1 - 1, d2, by omega, Nat.le_refl _, s2, h2, m1.trans m2, hfd.symm⟩, ?_⟩
      rintro t Hw ⟨t, d3, rfl, u1, s3, h3, m3, e3⟩
      refine bcd (fun hge' => ?_) fun hge' => ?_
      · obtain ⟨w, rfl⟩ : ∃ w, t = w + 1 := ⟨t - 1, by omega⟩
        rw [Sort.shiftDown] at e3
        refine rwE h3 (w + 1) rfl (by omega) (chk (by omega) (rwE h3 w (by omega) (by omega) (CfE.c _ _ _ _ fun Hf rr lf hr => ?_)))
        rw [hr]
        have h3 := Aw.le h3 lf
        have m3 := Mod.andLe m3 lf
        refine bcn (fun hc => ?_) fun hc => ?_
        · rw [if_pos (by rw [hc]; rfl)] at e3
          exact k2 _ d3 e3 s3 h3 m3
        · rw [if_neg (by rw [hc]; decide)] at e3
          exact chk (by omega) (chk (by omega) (rwE h3 w (by omega) (by omega) (rwE h3 (w + 1) rfl (by omega) (swE h3 (i := w + 1) (j := w) (by omega) (by omega) rfl (by omega) fun H5 h5 m5 => chk (by omega) ⟨⟨w, _, by omega, by omega, by rw [Sort.swp_size]; exact s3, h5, m3.trans m5, e3⟩, by first | omega | (dsimp only; omega)⟩))))
      · have : t = 0 := by omega
        subst this
        exact k2 Hw d3 (by rw [← e3]; rfl) s3 h3 m3
    refine ⟨fun t Hw => ∃ t' : Nat, t = (t' : Nat) ∧ a + 1 ≤ t' ∧ t' ≤ b ∧ Le Hx Hw ∧ Sort.scanSorted edLt d1 b t' = i1, fun t _ => ((b : Int) - t).toNat, ⟨i, rfl, g1, g2, Le.refl _, hi1.symm⟩, ?_⟩
    rintro t Hw ⟨t, rfl, u1, u2, lw, u3⟩
    have h1 := Aw.le h1 lw
    have m1 := Mod.andLe m1 lw
    refine bcd (fun hle => ?_) fun hle => ?_
    · refine rwE h1 t rfl (by omega) (chk (by omega) (rwE h1 (t - 1) (by omega) (by omega) (CfE.c _ _ _ _ fun Hf rr lf hr => ?_)))
      rw [hr]
      have h1 := Aw.le h1 lf
      have m1 := Mod.andLe m1 lf
      refine bcn (fun hc => ?_) fun hc => ?_
      · refine chk (by omega) ⟨⟨t + 1, by omega, by omega, by omega, lw.trans lf, ?_⟩, by first | omega | (dsimp only; omega)⟩
        rw [← u3]; conv => rhs; rw [Sort.scanSorted, if_pos (by rw [hc]; simp; omega)]
      · have : i1 = t := by rw [← u3, Sort.scanSorted, if_neg (by rw [hc]; simp)]
        rw [← this]; exact k1 _ (lw.trans lf) (by omega) (by omega)
    · have : i1 = t := by rw [← u3, Sort.scanSorted, if_neg (by simp; omega)]
      rw [← this]; exact k1 _ lw (by omega) (by omega)
  · have : j = 5 := by omega
    subst this
    have : (d1, false) = R := e1
    rw [← this] at hK
    exact hK _ h1 m1
omit [CfE cf] in
theorem slices_breakPatternsCmpFunc_api_Edge.c {a b : Nat} {K : Hp → Prop} (h : Aw 4 edC H p l d) (hab : a ≤ b) (hb : b ≤ d.size) (hl : l ≤ 1000000000)
    (hK : ∀ H' d', Aw 4 edC H' p l d' → Mod (blkL p) H H' → Sort.PermIn a b d d' → K H') : slices_breakPatternsCmpFunc_api_Edge.C p l cc (a : Nat) (b : Nat) cf H K := by
  apply slices_breakPatternsCmpFunc_api_Edge.of
  have hl0 := h.1
  unfold slices_breakPatternsCmpFunc_api_Edge.F
  rw [show ((b : Nat) : Int) - ((a : Nat) : Int) = ((b - a : Nat) : Int) by omega]
  refine chk (by omega) (bcd (fun h8 => ?_) fun _ => hK H d h Mod.refl (Sort.permIn_refl d a b))
  rw [wrapU (b - a) (by omega)]
  intro q hq
  refine ST_upd rfl ?_
  have le1 : Le H (upd H q ([.int .u64 (0 : Int)].set 0 (.int .u64 ((b - a : Nat) : Int)))) := Le.upd hq
  have q1 : rd (upd H q ([.int .u64 (0 : Int)].set 0 (.int .u64 ((b - a : Nat) : Int)))) q 0 = some (.int .u64 ((b - a : Nat) : Int)) := by rw [rd_upd_self]; rfl
  have h1 := Aw.le h le1
  have hqp : q ∉ blkL p := fun hx => Aw.there (n := 4) (f := edC) (fun _ => rfl) (by decide) h (by omega) hx hq
  have hn : ∀ b ∈ blkL p, b ∉ [q] := fun b hb hb' => by simp at hb'; subst hb'; exact hqp hb
  generalize upd H q ([.int .u64 (0 : Int)].set 0 (.int .u64 ((b - a : Nat) : Int))) = H1 at *
  refine slices_nextPowerOfTwo.c (by omega) ⟨by decide, ?_⟩
  have hpw := Sort.two_pow_bitsLen_le (n := b - a) (by omega)
  have hpos : 0 < 2 ^ Sort.bitsLen (b - a) := Nat.pow_pos (by decide)
  generalize 2 ^ Sort.bitsLen (b - a) = M at *
  rw [show (4 : Int) = ((4 : Nat) : Int) from rfl, tdivN]
  refine chk (by omega) (chk (by omega) (chk (by omega) (chk (by omega) ?_)))
  refine ⟨fun i Hx => ∃ (i' : Nat) (d1 : Array Ed) (m : Int), i = (i' : Nat) ∧ a + (b - a) / 4 * 2 - 1 ≤ i' ∧ i' ≤ a + (b - a) / 4 * 2 + 2 ∧ d1.size = d.size ∧ Aw 4 edC Hx p l d1 ∧ Mod (q :: blkL p) H Hx ∧ rd Hx q 0 = some (.int .u64 m) ∧ Sort.PermIn a b d d1, fun i _ => (((a + (b - a) / 4 * 2 + 3 : Nat) : Int) - i).toNat, ⟨a + (b - a) / 4 * 2 - 1, d, _, by omega, Nat.le_refl _, by omega, rfl, h1, le1.mod, q1, Sort.permIn_refl d a b⟩, ?_⟩
  rintro i Hx ⟨i, d1, m, rfl, g1, g2, gs, h1x, m1x, q1x, hpm⟩
  refine ⟨by decide, chk (by omega) (chk (by omega) (chk (by omega) (chk (by omega) (bcd (fun hle => ?_) fun hle => ?_))))⟩
  · refine slices_xorshift_Next.c q1x fun m2 H2 q2 mm => ?_
    have h2 := Aw.mod h1x mm hn
    rw [show ((M : Nat) : Int) - 1 = ((M - 1 : Nat) : Int) by omega, wrapU (M - 1) (by omega)]
    obtain ⟨o, ho, hom⟩ := iand_bound m2 (M - 1) (by omega)
    rw [ho, wrapI o (by omega)]
    have m2x : Mod (q :: blkL p) H H2 := m1x.trans (mm.mono (by simp))
    have go : ∀ o' : Nat, o' < b - a → slices_breakPatternsCmpFunc_api_Edge.k1 Hx (fun i Hx => ∃ (i' : Nat) (d1 : Array Ed) (m : Int), i = (i' : Nat) ∧ a + (b - a) / 4 * 2 - 1 ≤ i' ∧ i' ≤ a + (b - a) / 4 * 2 + 2 ∧ d1.size = d.size ∧ Aw 4 edC Hx p l d1 ∧ Mod (q :: blkL p) H Hx ∧ rd Hx q 0 = some (.int .u64 m) ∧ Sort.PermIn a b d d1) (a : Nat) l p (i : Nat) (fun i _ => (((a + (b - a) / 4 * 2 + 3 : Nat) : Int) - i).toNat) (o' : Nat) H2 := by
      intro o' ho'
      unfold slices_breakPatternsCmpFunc_api_Edge.k1
      refine chk (by omega) (chk (by omega) (rwE h2 (a + o') (by omega) (by omega) (rwE h2 i rfl (by omega) (swE h2 (i := i) (j := a + o') (by omega) (by omega) rfl (by omega) fun H3 h3 m3 => chk (by omega) ⟨⟨i + 1, _, m2, by omega, by omega, by omega, by rw [Sort.swp_size]; exact gs, h3, m2x.trans (m3.mono fun x hx => List.mem_cons_of_mem _ hx), m3.rd hqp q2, ?_⟩, by first | omega | (dsimp only; omega)⟩))))
      exact Sort.permIn_trans _ _ _ a b hpm (Sort.swp_permIn d1 a b i (a + o') (by omega) (by omega) (by omega) (by omega) (by omega))
    refine bcd (fun hge => chk (by omega) ?_) fun hlt => go o (by omega)
    rw [show ((o : Nat) : Int) - ((b - a : Nat) : Int) = ((o - (b - a) : Nat) : Int) by omega]
    exact go _ (by omega)
  · exact hK Hx d1 h1x (fun b' hb' c' e => m1x b' (fun hx => by
      rcases List.mem_cons.1 hx with hx | hx
      · rw [hx, hq] at e; cases e
      · exact hb' hx) c' e) hpm
theorem slices_pdqsortCmpFunc_api_Edge.c : ∀ (n : Nat) {H : Hp} {d : Array Ed} {a b : Nat} {lim : Int} {K : Hp → Prop}, b - a ≤ n → Aw 4 edC H p l d → a ≤ b → b ≤ d.size → 0 ≤ lim → lim ≤ 1000 → Sort.Below edLt a b d → l ≤ 1000000000 →
    (∀ H' d', Aw 4 edC H' p l d' → Mod (blkL p) H H' → Sort.PermIn a b d d' → Sort.SortedIn edLt a b d' → K H') → slices_pdqsortCmpFunc_api_Edge.C p l cc (a : Nat) (b : Nat) lim cf H K := by
  intro n
  induction n using Nat.strongRecOn with
  | _ n ih =>
  intro H d a0 b0 lim0 K hn h hab hb hl1 hl2 hB hl hK
  apply slices_pdqsortCmpFunc_api_Edge.of
  have hl0 := h.1
  refine ⟨fun a b lim _ _ Hx => ∃ (a' b' : Nat) (d1 : Array Ed), a = (a' : Nat) ∧ b = (b' : Nat) ∧ a0 ≤ a' ∧ a' ≤ b' ∧ b' ≤ b0 ∧ 0 ≤ lim ∧ lim ≤ 1000 ∧ d1.size = d.size ∧ Aw 4 edC Hx p l d1 ∧ Mod (blkL p) H Hx ∧ Sort.Below edLt a' b' d1 ∧ ∀ R, Sort.PermIn a' b' d1 R → Sort.SortedIn edLt a' b' R → Sort.PermIn a0 b0 d R ∧ Sort.SortedIn edLt a0 b0 R, fun a b _ _ _ _ => (b - a).toNat,
    ⟨a0, b0, d, rfl, rfl, Nat.le_refl _, hab, Nat.le_refl _, hl1, hl2, rfl, h, Mod.refl, hB, fun R h1 h2 => ⟨h1, h2⟩⟩, ?_⟩
  rintro a b lim wb wp Hx ⟨a, b, d1, rfl, rfl, g1, g2, g3, g4, g5, gs, h1, m1, hB1, hR⟩
  have fin : ∀ (Hy : Hp) (d' : Array Ed), Aw 4 edC Hy p l d' → Mod (blkL p) H Hy → Sort.PermIn a b d1 d' → Sort.SortedIn edLt a b d' → K Hy := fun Hy d' hA hM hP hS => hK Hy d' hA hM (hR d' hP hS).1 (hR d' hP hS).2
  refine chk (by omega) (bcd (fun h12 => slices_insertionSortCmpFunc_api_Edge.c h1 g2 (by omega) hl fun H2 d2 h2 m2 hP hS => fin H2 d2 h2 (m1.trans m2) hP hS) fun h12 => ?_)
  refine bcd (fun h0 => slices_heapSortCmpFunc_api_Edge.c h1 g2 (by omega) hl fun H2 d2 h2 m2 hP hS => fin H2 d2 h2 (m1.trans m2) hP hS) fun h0 => ?_
  have k1 : ∀ (lim' : Int) (H2 : Hp) (d2 : Array Ed), 0 ≤ lim' → lim' ≤ 1000 → Aw 4 edC H2 p l d2 → Mod (blkL p) H H2 → Sort.PermIn a b d1 d2 → slices_pdqsortCmpFunc_api_Edge.k1 Hx (fun a b lim _ _ Hx => ∃ (a' b' : Nat) (d1 : Array Ed), a = (a' : Nat) ∧ b = (b' : Nat) ∧ a0 ≤ a' ∧ a' ≤ b' ∧ b' ≤ b0 ∧ 0 ≤ lim ∧ lim ≤ 1000 ∧ d1.size = d.size ∧ Aw 4 edC Hx p l d1 ∧ Mod (blkL p) H Hx ∧ Sort.Below edLt a' b' d1 ∧ ∀ R, Sort.PermIn a' b' d1 R → Sort.SortedIn edLt a' b' R → Sort.PermIn a0 b0 d R ∧ Sort.SortedIn edLt a0 b0 R) K (a : Nat) (b : Nat) cf cc l p lim (fun a b _ _ _ _ => (b - a).toNat) wb wp ((b : Nat) - (a : Nat) : Int) lim' H2 := by
    intro lim' H2 d2 q1 q2 h2 m2 hP2
    have s2 : d2.size = d.size := hP2.1.trans gs
    unfold slices_pdqsortCmpFunc_api_Edge.k1
    -- the pivot
    have k3 : ∀ (pv : Nat) (H4 : Hp) (d4 : Array Ed), a ≤ pv → pv < b → Aw 4 edC H4 p l d4 → Mod (blkL p) H H4 → Sort.PermIn a b d1 d4 → slices_pdqsortCmpFunc_api_Edge.k3 Hx (fun a b lim _ _ Hx => ∃ (a' b' : Nat) (d1 : Array Ed), a = (a' : Nat) ∧ b = (b' : Nat) ∧ a0 ≤ a' ∧ a' ≤ b' ∧ b' ≤ b0 ∧ 0 ≤ lim ∧ lim ≤ 1000 ∧ d1.size = d.size ∧ Aw 4 edC Hx p l d1 ∧ Mod (blkL p) H Hx ∧ Sort.Below edLt a' b' d1 ∧ ∀ R, Sort.PermIn a' b' d1 R → Sort.SortedIn edLt a' b' R → Sort.PermIn a0 b0 d R ∧ Sort.SortedIn edLt a0 b0 R) (a : Nat) (b : Nat) cf cc l p lim lim' (fun a b _ _ _ _ => (b - a).toNat) (pv : Nat) wb wp ((b : Nat) - (a : Nat) : Int) H4 := by
      intro pv H4 d4 w1 w2 h4 m4 hP4
      have s4 : d4.size = d.size := hP4.1.trans gs
      have hB4 : Sort.Below edLt a b d4 := Sort.Below.perm hB1 (by omega) hP4
      have toR : ∀ R, Sort.PermIn a b d4 R ∧ Sort.SortedIn edLt a b R → Sort.PermIn a0 b0 d R ∧ Sort.SortedIn edLt a0 b0 R := fun R hh => hR R (Sort.permIn_trans _ _ _ a b hP4 hh.1) hh.2
      unfold slices_pdqsortCmpFunc_api_Edge.k3
      have k4 : ∀ Hy, Le H4 Hy → slices_pdqsortCmpFunc_api_Edge.k4 Hx (fun a b lim _ _ Hx => ∃ (a' b' : Nat) (d1 : Array Ed), a = (a' : Nat) ∧ b = (b' : Nat) ∧ a0 ≤ a' ∧ a' ≤ b' ∧ b' ≤ b0 ∧ 0 ≤ lim ∧ lim ≤ 1000 ∧ d1.size = d.size ∧ Aw 4 edC Hx p l d1 ∧ Mod (blkL p) H Hx ∧ Sort.Below edLt a' b' d1 ∧ ∀ R, Sort.PermIn a' b' d1 R → Sort.SortedIn edLt a' b' R → Sort.PermIn a0 b0 d R ∧ Sort.SortedIn edLt a0 b0 R) (a : Nat) (b : Nat) cf cc l p lim lim' (fun a b _ _ _ _ => (b - a).toNat) (pv : Nat) wb wp ((b : Nat) - (a : Nat) : Int) (a : Nat) Hy := by
        intro Hy ly
        have h4 := Aw.le h4 ly
        have m4 := Mod.andLe m4 ly
        unfold slices_pdqsortCmpFunc_api_Edge.k4
        refine slices_partitionCmpFunc_api_Edge.c h4 w1 w2 (by omega) hl fun H5 h5 m5 => ?_
        obtain ⟨⟨mid, ap, d5⟩, hpt⟩ : ∃ r, Sort.partition edLt d4 a b pv = r := ⟨_, rfl⟩
        obtain ⟨z1, z2, z3, z4, z5, z6, z7⟩ := Sort.round_part swo_ed (Sort.partition_holds edLt) w1 w2 (by omega) hB4 hpt
        rw [hpt] at h5 ⊢
        have m45 := m4.trans m5
        have s5 : d5.size = d.size := z3.trans s4
        simp only at h5 ⊢
        rw [show ((b : Nat) : Int) - ((a : Nat) : Int) = ((b - a : Nat) : Int) by omega, show (8 : Int) = ((8 : Nat) : Int) from rfl, tdivN]
        refine chk (by omega) (chk (by omega) ⟨by decide, chk (by omega) (bcd (fun hlt => ?_) fun hlt => chk (by omega) ?_)⟩)
        · refine ih (mid - a) (by omega) (Nat.le_refl _) h5 z1 (by omega) q1 q2 z4 hl fun H6 d6 h6 m6 hP6 hS6 => chk (by omega) ⟨⟨mid + 1, b, d6, by omega, rfl, by omega, by omega, g3, q1, q2, hP6.1.trans s5, h6, m45.trans m6, (z6 d6 hP6 hS6).1, fun R r1 r2 => toR R ((z6 d6 hP6 hS6).2 R r1 r2)⟩, by first | omega | (dsimp only; omega)⟩
        · rw [show ((mid : Nat) : Int) + 1 = ((mid + 1 : Nat) : Int) by omega]
          refine ih (b - (mid + 1)) (by omega) (Nat.le_refl _) h5 (by omega) (by omega) q1 q2 z5 hl fun H6 d6 h6 m6 hP6 hS6 => ⟨⟨a, mid, d6, rfl, rfl, g1, z1, by omega, q1, q2, hP6.1.trans s5, h6, m45.trans m6, (z7 d6 hP6 hS6).1, fun R r1 r2 => toR R ((z7 d6 hP6 hS6).2 R r1 r2)⟩, by first | omega | (dsimp only; omega)⟩
      refine bcd (fun ha0 => ?_) fun _ => k4 _ (Le.refl _)
      refine chk (by omega) (rwE h4 (a - 1) (by omega) (by omega) (rwE h4 pv rfl (by omega) (CfE.c _ _ _ _ fun Hf rr lf hr => ?_)))
      rw [hr]
      have h4 := Aw.le h4 lf
      have m4 := Mod.andLe m4 lf
      refine bcn (fun hc => ?_) fun _ => k4 _ lf
      refine slices_partitionEqualCmpFunc_api_Edge.c h4 w1 w2 (by omega) hl fun H5 h5 m5 => ?_
      obtain ⟨⟨mid, d5⟩, hpt⟩ : ∃ r, Sort.partitionEqual edLt d4 a b pv = r := ⟨_, rfl⟩
      obtain ⟨z1, z2, z3, z4, z5⟩ := Sort.round_eq swo_ed (Sort.partitionEqual_holds edLt) (by omega) w1 w2 (by omega) hB4 hc hpt
      rw [hpt] at h5 ⊢
      exact ⟨⟨mid, b, d5, rfl, rfl, by omega, z2, g3, q1, q2, z3.trans s4, h5, m4.trans m5, z4, fun R r1 r2 => toR R (z5 R r1 r2)⟩, by first | omega | (dsimp only; omega)⟩
    have k2 : ∀ (pv : Nat) (t : Int) (H3 : Hp) (d3 : Array Ed), a ≤ pv → pv < b → Aw 4 edC H3 p l d3 → Mod (blkL p) H H3 → Sort.PermIn a b d1 d3 → slices_pdqsortCmpFunc_api_Edge.k2 Hx (fun a b lim _ _ Hx => ∃ (a' b' : Nat) (d1 : Array Ed), a = (a' : Nat) ∧ b = (b' : Nat) ∧ a0 ≤ a' ∧ a' ≤ b' ∧ b' ≤ b0 ∧ 0 ≤ lim ∧ lim ≤ 1000 ∧ d1.size = d.size ∧ Aw 4 edC Hx p l d1 ∧ Mod (blkL p) H Hx ∧ Sort.Below edLt a' b' d1 ∧ ∀ R, Sort.PermIn a' b' d1 R → Sort.SortedIn edLt a' b' R → Sort.PermIn a0 b0 d R ∧ Sort.SortedIn edLt a0 b0 R) K (a : Nat) (b : Nat) cf cc l p lim lim' (fun a b _ _ _ _ => (b - a).toNat) wb wp ((b : Nat) - (a : Nat) : Int) (pv : Nat) t H3 := by
      intro pv t H3 d3 w1 w2 h3 m3 hP3
      unfold slices_pdqsortCmpFunc_api_Edge.k2
      refine bc_i (fun _ => bc_i (fun _ => bcd (fun _ => ?_) fun _ => k3 pv H3 d3 w1 w2 h3 m3 hP3) fun _ => k3 pv H3 d3 w1 w2 h3 m3 hP3) fun _ => k3 pv H3 d3 w1 w2 h3 m3 hP3
      have s3 : d3.size = d.size := hP3.1.trans gs
      have hB3 : Sort.Below edLt a b d3 := Sort.Below.perm hB1 (by omega) hP3
      obtain ⟨hp1, hp2⟩ := Sort.partialInsertionSort_holds (lt := edLt) swo_ed d3 a b (by omega) (by omega) hB3
      refine slices_partialInsertionSortCmpFunc_api_Edge.c h3 (by omega) (by omega) hl fun H4 h4 m4 => ?_
      refine bc_i (fun hc => fin H4 _ h4 (m3.trans m4) (Sort.permIn_trans _ _ _ a b hP3 hp1) (hp2 hc)) fun _ => k3 pv H4 _ w1 w2 h4 (m3.trans m4) (Sort.permIn_trans _ _ _ a b hP3 hp1)
    refine slices_choosePivotCmpFunc_api_Edge.c h2 (by omega) (by omega) hl fun pv t H3 w1 w2 le3 => ?_
    have h3 := Aw.le h2 le3
    have m3 := m2.andLe le3
    refine bcd (fun _ => ?_) fun _ => k2 pv t H3 d2 w1 w2 h3 m3 hP2
    refine slices_reverseRangeCmpFunc_api_Edge.c h3 (by omega) (by omega) hl fun H4 d4 h4 m4 hP4 => chk (by omega) (chk (by omega) (chk (by omega) ?_))
    rw [show ((b : Nat) : Int) - 1 - (((pv : Nat) : Int) - ((a : Nat) : Int)) = ((b - 1 - (pv - a) : Nat) : Int) by omega]
    exact k2 _ 1 H4 d4 (by omega) (by omega) h4 (m3.trans m4) (Sort.permIn_trans _ _ _ a b hP2 hP4)
  refine bcn (fun _ => ?_) fun _ => k1 lim Hx d1 g4 g5 h1 m1 (Sort.permIn_refl d1 a b)
  exact slices_breakPatternsCmpFunc_api_Edge.c h1 g2 (by omega) hl fun H2 d2 h2 m2 hP2 => chk (by omega) (k1 _ H2 d2 (by omega) (by omega) h2 (m1.trans m2) hP2)
end
theorem slices_SortFunc_api_Edge_api_Edge.c {H : Hp} {p : Option Addr} {l cc : Nat} {cf : Value} [CfE cf] {xs : List Ed} {K : Hp → Prop} (h : Sn 4 edC H p l cc xs) (hl : l ≤ 1000000000) (hK : ∀ H' ys, Sn 4 edC H' p l cc ys → ys.Perm xs → ys.Pairwise (fun a b => edLt b a = false) → Mod (blkL p) H H' → K H') : slices_SortFunc_api_Edge_api_Edge.C p l cc cf H K := by
  apply slices_SortFunc_api_Edge_api_Edge.of
  have el := h.len
  unfold slices_SortFunc_api_Edge_api_Edge.F
  rw [wrapU l (by omega)]
  refine math_bits_Len.c (by omega) ?_
  have hb := bitsLen_le64 (n := l) (by omega)
  have hA := Aw.ofSn h
  have hs : xs.toArray.size = l := by simp [el]
  refine slices_pdqsortCmpFunc_api_Edge.c (a := 0) (b := l) l (Nat.le_refl _) hA (Nat.zero_le _) (by omega) (by omega) (by omega) (.inl rfl) hl fun H' d' h' m' hP hS => ?_
  rw [← hs] at hP hS
  rw [← hP.1] at hS
  have hp := permIn_perm hP
  exact hK H' d'.toList (h'.toSn h.2.1) (by simpa using hp) (sortedIn_pw hS) m'
end Go.Proofs.YtganockeifkecaaDoor
namespace Go.Proofs.YtganockeifkecaaDoor
open Go.V
/-! ### Are they alike; what is cloned -/
section
variable {H : Hp} {K : Bool → Hp → Prop}
end
section
variable {H : Hp} {K : Option Addr → Nat → Nat → Hp → Prop} {p : Option Addr} {l cc : Nat}
/-- Where a hunk's rows lie. -/
structure HD where
  ap : Option Addr
  al : Nat
  ac : Nat
  ep : Option Addr
  el : Nat
  ec : Nat
  kp : Option Addr
  kl : Nat
  kc : Nat
def hdC (x : BL × HD) : List Value := [sv x.1, .slice x.2.ap x.2.al x.2.ac, .slice x.2.ep x.2.el x.2.ec, .slice x.2.kp x.2.kl x.2.kc]
theorem hdC_len (x : BL × HD) : (hdC x).length = 4 := rfl
end
end Go.Proofs.YtganockeifkecaaDoor
namespace Go.Proofs.YtganockeifkecaaDoor
open Go.V
/-! ### A copy -/
def hdP (x : BL × HD) : List (Option Addr) := [x.2.ap, x.2.ep, x.2.kp]
def OwnH (A H : Hp) (h : Hk) (d : HD) : Prop := Buf 1 A H d.ap d.al d.ac (h.adds.map sv) ∧ Buf 4 A H d.ep d.el d.ec (h.edges.flatMap edC) ∧ Buf 2 A H d.kp d.kl d.kc (h.kills.flatMap lidC)
def RdH (H : Hp) (h : Hk) (d : HD) : Prop := Sl sv H d.ap d.al d.ac h.adds ∧ Sn 4 edC H d.ep d.el d.ec h.edges ∧ Sn 2 lidC H d.kp d.kl d.kc h.kills
def There (H : Hp) (p : Option Addr) : Prop := ∀ b o, p = some ⟨b, o, none⟩ → H b ≠ none
def Ok (H : Hp) (L : List (Option Addr)) : Prop := L.Pairwise Apart ∧ ∀ q ∈ L, There H q
def OwnR (A H : Hp) (hp : Option Addr) (hl hc : Nat) (hs : List Hk) (zs : List (BL × HD)) : Prop := zs.length = hs.length ∧ Buf 4 A H hp hl hc (zs.flatMap hdC) ∧ ∀ j (h1 : j < hs.length) (h2 : j < zs.length), zs[j].1 = hs[j].path ∧ OwnH A H hs[j] zs[j].2
/-- A patch in memory of its own. -/
def Own (A H : Hp) (id : Int) (dp : Option Addr) (dl dc : Nat) (mp : Option Addr) (ml mc : Nat) (qp : Option Addr) (ql qc : Nat) (hp : Option Addr) (hl hc : Nat) (x : Pt) (zs : List (BL × HD)) : Prop :=
  id = x.id ∧ Buf 1 A H dp dl dc (x.deps.map fU) ∧ Buf 1 A H mp ml mc (x.makes.map sv) ∧ Buf 1 A H qp ql qc (x.drops.map sv) ∧ OwnR A H hp hl hc x.hunks zs ∧ (dp :: mp :: qp :: hp :: zs.flatMap hdP).Pairwise Apart
section
variable {A A' H H' : Hp} {p : Option Addr} {l cc : Nat} {O : List Nat}
theorem apThere {q : Option Addr} (h : There H p) (hn : New H q) : Apart p q := fun b o o' e e' => h b o e (hn b o' e')
theorem bThere {s : Nat} {cells : List Value} (h : Buf s A H p l cc cells) : There H p := fun _ _ e => h.there e
theorem There.was (h : There H p) (hw : Was H H') : There H' p := fun b o e hn => h b o e (hw b hn)
theorem Ok.was {L : List (Option Addr)} (h : Ok H L) (hw : Was H H') : Ok H' L := ⟨h.1, fun q hq => (h.2 q hq).was hw⟩
theorem Ok.snoc {L : List (Option Addr)} (h : Ok H L) (hn : New H p) (ht : There H' p) (hl : Le H H') : Ok H' (L ++ [p]) := by
  refine ⟨List.pairwise_append.2 ⟨h.1, by simp, fun a ha b hb => ?_⟩, fun q hq => ?_⟩
  · simp at hb; subst hb; exact apThere (h.2 a ha) hn
  · rcases List.mem_append.1 hq with hq | hq
    · exact (h.2 q hq).was hl.was
    · simp at hq; subst hq; exact ht
theorem bModA {s : Nat} {cells : List Value} {b : Nat} (h : Buf s A H p l cc cells) (hm : Mod [b] H H') (ha : Apart (some ⟨b, 0, none⟩) p) : Buf s A H' p l cc cells := h.mod hm fun b' o e hb => by
  simp at hb; subst hb; exact ha _ _ _ rfl e
theorem OwnH.le {h : Hk} {d : HD} (x : OwnH A H h d) (hl : Le H H') : OwnH A H' h d := ⟨x.1.le hl, x.2.1.le hl, x.2.2.le hl⟩
theorem OwnH.mod {h : Hk} {z : BL × HD} {b : Nat} (x : OwnH A H h z.2) (hm : Mod [b] H H') (ha : ∀ q ∈ hdP z, Apart (some ⟨b, 0, none⟩) q) : OwnH A H' h z.2 :=
  ⟨bModA x.1 hm (ha _ (by simp [hdP])), bModA x.2.1 hm (ha _ (by simp [hdP])), bModA x.2.2 hm (ha _ (by simp [hdP]))⟩
theorem OwnH.back {h : Hk} {d : HD} (x : OwnH A' H h d) (hl : Le A A') : OwnH A H h d := ⟨bBack x.1 hl, bBack x.2.1 hl, bBack x.2.2 hl⟩
theorem OwnH.rdH {h : Hk} {d : HD} (x : OwnH A H h d) : RdH H h d := ⟨x.1.sl, x.2.1.sn edC_len (by decide), x.2.2.sn lidC_len (by decide)⟩
theorem HkH.rows {hs : List Hk} (h : HkH H p l cc hs) : ∃ zs : List (BL × HD), zs.length = hs.length ∧ Sn 4 hdC H p l cc zs ∧ ∀ j (h1 : j < hs.length) (h2 : j < zs.length), zs[j].1 = hs[j].path ∧ RdH H hs[j] zs[j].2 := by
  obtain ⟨e, hc, h0 | ⟨b, o, rfl, hh⟩⟩ := h
  · subst h0; exact ⟨[], rfl, ⟨e, hc, .inl rfl⟩, fun j h1 => by simp at h1⟩
  · have hh' : ∀ i : Fin hs.length, ∃ d : HD, (∀ j v, (hdC (hs[i].path, d))[j]? = some v → rd H b (o + i * 4 + j) = some v) ∧ RdH H hs[i] d := fun i => by
      obtain ⟨ap, al, ac, ep, el, ec, kp, kl, kc, h1, h2, h3, h4, h5, h6, h7⟩ := hh i i.2
      refine ⟨⟨ap, al, ac, ep, el, ec, kp, kl, kc⟩, fun j v hv => ?_, h5, h6, h7⟩
      match j, hv with
      | 0, hv => simp [hdC] at hv; subst hv; exact h1
      | 1, hv => simp [hdC] at hv; subst hv; exact h2
      | 2, hv => simp [hdC] at hv; subst hv; exact h3
      | 3, hv => simp [hdC] at hv; subst hv; exact h4
      | j + 4, hv => simp [hdC] at hv
    obtain ⟨f, hf⟩ := Classical.skolem.1 hh'
    refine ⟨List.ofFn fun i : Fin hs.length => (hs[i].path, f i), by simp, ⟨by simp; exact e, hc, .inr ⟨b, o, rfl, fun i hi j v hv => ?_⟩⟩, fun j h1 h2 => ?_⟩
    · have hi' : i < hs.length := by simpa using hi
      rw [List.getElem_ofFn] at hv
      exact (hf ⟨i, hi'⟩).1 j v hv
    · rw [List.getElem_ofFn]
      exact ⟨rfl, (hf ⟨j, h1⟩).2⟩
theorem HkH.of {hs : List Hk} {zs : List (BL × HD)} (hz : zs.length = hs.length) (h : Sn 4 hdC H p l cc zs) (hh : ∀ j (h1 : j < hs.length) (h2 : j < zs.length), zs[j].1 = hs[j].path ∧ RdH H hs[j] zs[j].2) : HkH H p l cc hs := by
  obtain ⟨e, hc, h0 | ⟨b, o, rfl, hr⟩⟩ := h
  · subst h0
    have : hs = [] := List.length_eq_zero_iff.1 (by rw [← hz]; rfl)
    subst this
    exact ⟨e, hc, .inl rfl⟩
  · refine ⟨by omega, hc, .inr ⟨b, o, rfl, fun i hi => ?_⟩⟩
    obtain ⟨e1, e2, e3, e4⟩ := hh i hi (by omega)
    have r := hr i (by omega)
    exact ⟨_, _, _, _, _, _, _, _, _, by rw [← e1]; exact r 0 _ rfl, r 1 _ rfl, r 2 _ rfl, r 3 _ rfl, e2, e3, e4⟩
theorem OwnR.hkH {hs : List Hk} {zs : List (BL × HD)} (h : OwnR A H p l cc hs zs) : HkH H p l cc hs := HkH.of h.1 (h.2.1.sn hdC_len (by decide)) fun j h1 h2 => ⟨(h.2.2 j h1 h2).1, (h.2.2 j h1 h2).2.rdH⟩
theorem Own.pt {id : Int} {dp mp qp hp : Option Addr} {dl dc ml mc ql qc hl hc : Nat} {x : Pt} {zs : List (BL × HD)} (h : Own A H id dp dl dc mp ml mc qp ql qc hp hl hc x zs) : PtS H id dp dl dc mp ml mc qp ql qc hp hl hc x := ⟨h.1, h.2.1.sl, h.2.2.1.sl, h.2.2.2.1.sl, h.2.2.2.2.1.hkH⟩
theorem rsD {zs : List (BL × HD)} (h : Sn 4 hdC H p l cc zs) {k : Nat} {e : Int} (he : e = (k : Int)) (hk : k < zs.length) {F : ByteArray → Option Addr → Nat → Nat → Option Addr → Nat → Nat → Option Addr → Nat → Nat → Prop}
    (hF : F (mkB zs[k].1) zs[k].2.ap zs[k].2.al zs[k].2.ac zs[k].2.ep zs[k].2.el zs[k].2.ec zs[k].2.kp zs[k].2.kl zs[k].2.kc) :
    IDX e l fun k => NIL p fun b o => ldS (rd H b (o + (k * 4))) fun x => ldL (rd H b ((o + (k * 4)) + 1)) fun ap al ac => ldL (rd H b (((o + (k * 4)) + 1) + 1)) fun ep el ec => ldL (rd H b ((((o + (k * 4)) + 1) + 1) + 1)) fun kp kl kc => F x ap al ac ep el ec kp kl kc := by
  have hl := h.len
  obtain ⟨b, o, rfl, hh⟩ := h.at hk
  exact idxN k he (by omega) (nil (ldS_i (hh k hk 0 _ rfl) (ldL_i (hh k hk 1 _ rfl) (ldL_i (hh k hk 2 _ rfl) (ldL_i (hh k hk 3 _ rfl) hF)))))
theorem hd_set : ∀ (zs : List (BL × HD)) (i : Nat) (h : i < zs.length) (d : HD), (((zs.flatMap hdC).set (i * 4 + 1) (.slice d.ap d.al d.ac)).set (i * 4 + 2) (.slice d.ep d.el d.ec)).set (i * 4 + 3) (.slice d.kp d.kl d.kc) = (zs.set i (zs[i].1, d)).flatMap hdC
  | z :: zs, 0, _, d => by simp [hdC]
  | z :: zs, i + 1, h, d => by
    have e : ∀ k, (i + 1) * 4 + k = (hdC z).length + (i * 4 + k) := fun k => by rw [hdC_len]; omega
    rw [List.flatMap_cons, e, e, e]
    simp only [List.set_append_right _ _ (Nat.le_add_right _ _), Nat.add_sub_cancel_left]
    rw [hd_set zs i (by simpa using h) d]
    rfl
theorem take_set {α : Type} {ys : List α} {i : Nat} {v : α} (h : i < ys.length) : (ys.set i v).take (i + 1) = ys.take i ++ [v] := by
  rw [List.take_succ_eq_append_getElem (by simpa using h), List.getElem_set_self, List.take_set_of_le (Nat.le_refl _)]
theorem was_wr {b o : Nat} {v : Value} : Was H (wr H b o v) := fun q h => by
  unfold wr at h
  split at h
  · subst_vars; cases e : H q with
    | none => rfl
    | some c => rw [e] at h; cases h
  · exact h
theorem put4 {b : Nat} {id : Int} {dp mp qp hp : Option Addr} {dl dc ml mc ql qc hl hc : Nat} (h : D5 H b id dp dl dc mp ml mc qp ql qc hp hl hc) {dp' mp' qp' hp' : Option Addr} {dl' dc' ml' mc' ql' qc' hl' hc' : Nat} {F : Hp → Prop}
    (hF : ∀ H', D5 H' b id dp' dl' dc' mp' ml' mc' qp' ql' qc' hp' hl' hc' → Mod [b] H H' → Was H H' → F H') :
    ST H b 1 (.slice dp' dl' dc') fun H1 => ST H1 b 2 (.slice mp' ml' mc') fun H2 => ST H2 b 3 (.slice qp' ql' qc') fun H3 => ST H3 b 4 (.slice hp' hl' hc') F := by
  have r1 := h.2.1
  have r2 : rd (wr H b 1 (.slice dp' dl' dc')) b 2 = some (.slice mp ml mc) := by rw [rd_wr_off (by decide)]; exact h.2.2.1
  have r3 : rd (wr (wr H b 1 (.slice dp' dl' dc')) b 2 (.slice mp' ml' mc')) b 3 = some (.slice qp ql qc) := by rw [rd_wr_off (by decide), rd_wr_off (by decide)]; exact h.2.2.2.1
  have r4 : rd (wr (wr (wr H b 1 (.slice dp' dl' dc')) b 2 (.slice mp' ml' mc')) b 3 (.slice qp' ql' qc')) b 4 = some (.slice hp hl hc) := by rw [rd_wr_off (by decide), rd_wr_off (by decide), rd_wr_off (by decide)]; exact h.2.2.2.2
  refine st r1 (st r2 (st r3 (st r4 (hF _ ⟨?_, ?_, ?_, ?_, ?_⟩ ((((Mod.refl.wr (.inl (by simp))).wr (.inl (by simp))).wr (.inl (by simp))).wr (.inl (by simp))) (((was_wr.trans was_wr).trans was_wr).trans was_wr)))))
  · rw [rd_wr_off (by decide), rd_wr_off (by decide), rd_wr_off (by decide), rd_wr_off (by decide)]; exact h.1
  · rw [rd_wr_off (by decide), rd_wr_off (by decide), rd_wr_off (by decide)]; exact rd_wr_self r1
  · rw [rd_wr_off (by decide), rd_wr_off (by decide)]; exact rd_wr_self r2
  · rw [rd_wr_off (by decide)]; exact rd_wr_self r3
  · exact rd_wr_self r4
theorem put5 {b : Nat} {id id' : Int} {dp mp qp hp : Option Addr} {dl dc ml mc ql qc hl hc : Nat} (h : D5 H b id dp dl dc mp ml mc qp ql qc hp hl hc) {dp' mp' qp' hp' : Option Addr} {dl' dc' ml' mc' ql' qc' hl' hc' : Nat} {F : Hp → Prop}
    (hF : ∀ H', D5 H' b id' dp' dl' dc' mp' ml' mc' qp' ql' qc' hp' hl' hc' → Mod [b] H H' → Was H H' → F H') :
    ST H b 0 (.int .u32 id') fun H0 => ST H0 b 1 (.slice dp' dl' dc') fun H1 => ST H1 b 2 (.slice mp' ml' mc') fun H2 => ST H2 b 3 (.slice qp' ql' qc') fun H3 => ST H3 b 4 (.slice hp' hl' hc') F := by
  refine st h.1 (put4 (id := id') (dp := dp) (dl := dl) (dc := dc) (mp := mp) (ml := ml) (mc := mc) (qp := qp) (ql := ql) (qc := qc) (hp := hp) (hl := hl) (hc := hc) ⟨rd_wr_self h.1, ?_, ?_, ?_, ?_⟩ fun H' d m w => hF H' d (Mod.trans (Mod.refl.wr (.inl (by simp))) m) (was_wr.trans w))
  · rw [rd_wr_off (by decide)]; exact h.2.1
  · rw [rd_wr_off (by decide)]; exact h.2.2.1
  · rw [rd_wr_off (by decide)]; exact h.2.2.2.1
  · rw [rd_wr_off (by decide)]; exact h.2.2.2.2
end
end Go.Proofs.YtganockeifkecaaDoor
namespace Go.Proofs.YtganockeifkecaaDoor
open Go.V
/-! ### The document's patches: rows, paths -/
theorem bcnd {p : Prop} [Decidable p] {A B : Prop} (h : ¬p → A) (h' : p → B) : bc (!decide p) A B := bcn (fun e => h (of_decide_eq_false e)) fun e => h' (of_decide_eq_true e)
/-- A row is gone through, as far as all are right. -/
theorem allRow {α : Type} {f : α → Bool} {xs : List α} {i : Nat} (hi : i < xs.length) (h : f xs[i] = false) : xs.all f = false := all_bad hi h
def risB (xs : List Int) : Bool := rsB Sort.ltInt xs && !decide ((0 : Int) ∈ xs)
def pathsR (xs : List BL) : Bool := rsB Sort.ltStr xs && xs.all pathB
section
variable {H : Hp} {K : Bool → Hp → Prop} {p q : Option Addr} {l cc m dd : Nat}
theorem le_str (x y : BL) : (Op.bytesLess (mkB x).toList (mkB y).toList || decide (mkB x = mkB y)) = !Sort.ltStr y x := by rw [← ltStr_gt, Bool.not_not]
theorem take_ne {α : Type} {xs ys : List α} {i : Nat} (hi : i < xs.length) (hj : i < ys.length) (h : ¬ xs[i] = ys[i]) : ¬ xs = ys := fun e => by subst e; exact h rfl
theorem take_next {α : Type} {xs ys : List α} {i : Nat} (hi : i < xs.length) (hj : i < ys.length) (h : xs[i] = ys[i]) (ht : xs.take i = ys.take i) : xs.take (i + 1) = ys.take (i + 1) := by
  rw [List.take_succ_eq_append_getElem hi, List.take_succ_eq_append_getElem hj, ht, h]
theorem centoref12_sameTexts.c {xs ys : List BL} (h : Sl sv H p l cc xs) (h2 : Sl sv H q m dd ys) (hl : l ≤ 1000000000) (hK : K (decide (xs = ys)) H) : centoref12_sameTexts.C p l cc q m dd H K := by
  apply centoref12_sameTexts.of
  have e1 := h.len
  have e2 := h2.len
  refine bcd (fun hn => ?_) fun hn => ?_
  · rw [decide_eq_false (fun e => hn (by rw [e1, e2, e]))] at hK; exact hK
  refine ⟨fun t Hx => ∃ i : Nat, t = (i : Nat) ∧ i ≤ l ∧ Hx = H ∧ xs.take i = ys.take i, fun t _ => ((l : Int) - t).toNat, ⟨0, rfl, Nat.zero_le _, rfl, rfl⟩, ?_⟩
  rintro t Hx ⟨i, rfl, gi, rfl, ht⟩
  refine bcd (fun hlt => ?_) fun hlt => ?_
  · have hi : i < xs.length := by omega
    have hj : i < ys.length := by omega
    refine rsT h rfl hi (rsT h2 rfl hj (bcdT (fun he => ?_) fun he => ?_))
    · rw [decide_eq_false (take_ne hi hj he)] at hK; exact hK
    · exact chk (by omega) ⟨⟨i + 1, by omega, by omega, by trivial, take_next hi hj he ht⟩, by first | omega | (dsimp only; omega)⟩
  · rw [List.take_of_length_le (by omega), List.take_of_length_le (by omega)] at ht
    rw [decide_eq_true ht] at hK; exact hK
theorem centoref12_Less.c {x y : Lid} (hK : ∀ H', Le H H' → K (lidLt x y) H') : centoref12_Less.C x.p x.n y.p y.n H K := by
  apply centoref12_Less.of
  intro b hb b2 hb2
  have l1 := Le.upd (c := [.int .u32 x.p, .int .i64 x.n]) hb
  have l2 := Le.upd (c := [.int .u32 y.p, .int .i64 y.n]) hb2
  have d1 := (DL.new (H := H) (b := b) (x := x)).le l2
  have d2 := DL.new (H := upd H b [.int .u32 x.p, .int .i64 x.n]) (b := b2) (x := y)
  have hK := hK _ (l1.trans l2)
  unfold lidLt at hK
  refine ldI_i d1.1 (ldI_i d2.1 (bcd (fun h => ?_) fun h => ldI_i d1.1 (ldI_i d2.1 (bcd (fun h2 => ldI_i d1.2 (ldI_i d2.2 ?_)) fun h2 => ?_))))
  · rw [decide_eq_true h] at hK; exact hK
  · rw [decide_eq_false h, decide_eq_true h2] at hK; exact hK
  · rw [decide_eq_false h, decide_eq_false h2] at hK; exact hK
end
end Go.Proofs.YtganockeifkecaaDoor
namespace Go.Proofs.YtganockeifkecaaDoor
open Go.V
/-! ### The document: are hunks, patches the same; lines, paths, needs -/
section
variable {H Hx : Hp} {p : Option Addr} {l c : Nat} {hs : List Hk}
theorem rsHp (h : HkH H p l c hs) (le : Le H Hx) {k : Nat} {e : Int} (he : e = (k : Int)) (hk : k < hs.length) {F : ByteArray → Prop} (hF : F (mkB hs[k].path)) : IDX e l fun k => NIL p fun b o => ldS (rd Hx b (o + (k * 4))) F := by
  have hl := h.1
  rcases h.2.2 with h0 | ⟨b, o, rfl, hh⟩
  · subst h0; simp at hk
  · obtain ⟨ap, al, ac, ep, el, ec, kp, kl, kc, h1, h2, h3, h4, h5, h6, h7⟩ := hh k hk
    exact idxN k he (by omega) (nil (ldS_i (le.rd h1) hF))
theorem rsHa (h : HkH H p l c hs) (le : Le H Hx) {k : Nat} {e : Int} (he : e = (k : Int)) (hk : k < hs.length) {F : Option Addr → Nat → Nat → Prop} (hF : ∀ ap al ac, Sl sv H ap al ac hs[k].adds → F ap al ac) : IDX e l fun k => NIL p fun b o => ldL (rd Hx b ((o + (k * 4)) + 1)) F := by
  have hl := h.1
  rcases h.2.2 with h0 | ⟨b, o, rfl, hh⟩
  · subst h0; simp at hk
  · obtain ⟨ap, al, ac, ep, el, ec, kp, kl, kc, h1, h2, h3, h4, h5, h6, h7⟩ := hh k hk
    exact idxN k he (by omega) (nil (ldL_i (le.rd h2) (hF _ _ _ h5)))
end
section
variable {H : Hp}
theorem centoref12_SameHunk.b {K : Bool → Hp → Prop} {g h : Hk} {ap ep kp ap2 ep2 kp2 : Option Addr} {al ac el ec kl kc al2 ac2 el2 ec2 kl2 kc2 : Nat} (ha : Sl sv H ap al ac g.adds) (he : Sn 4 edC H ep el ec g.edges) (hk : Sn 2 lidC H kp kl kc g.kills)
    (ha2 : Sl sv H ap2 al2 ac2 h.adds) (he2 : Sn 4 edC H ep2 el2 ec2 h.edges) (hk2 : Sn 2 lidC H kp2 kl2 kc2 h.kills) (s1 : g.adds.length ≤ 1000) (s2 : g.edges.length ≤ 1000) (s3 : g.kills.length ≤ 1000) (hK : ∀ H', Le H H' → K (decide (g = h)) H') :
    centoref12_SameHunk.C (mkB g.path) ap al ac ep el ec kp kl kc (mkB h.path) ap2 al2 ac2 ep2 el2 ec2 kp2 kl2 kc2 H K := by
  apply centoref12_SameHunk.of
  have e1 := ha.len
  have e2 := he.len
  have e3 := hk.len
  have e4 := he2.len
  have e5 := hk2.len
  intro b hb b2 hb2
  have l1 := Le.upd (c := [.string (mkB g.path), .slice ap al ac, .slice ep el ec, .slice kp kl kc]) hb
  have l2 := Le.upd (c := [.string (mkB h.path), .slice ap2 al2 ac2, .slice ep2 el2 ec2, .slice kp2 kl2 kc2]) hb2
  have d1 := (D4.new (H := H) (b := b) (f := mkB g.path) (ap := ap) (al := al) (ac := ac) (ep := ep) (el := el) (ec := ec) (kp := kp) (kl := kl) (kc := kc)).le l2
  have d2 := D4.new (H := upd H b [.string (mkB g.path), .slice ap al ac, .slice ep el ec, .slice kp kl kc]) (b := b2) (f := mkB h.path) (ap := ap2) (al := al2) (ac := ac2) (ep := ep2) (el := el2) (ec := ec2) (kp := kp2) (kl := kl2) (kc := kc2)
  have l0 := l1.trans l2
  revert l0 d1 d2
  generalize upd (upd H b [.string (mkB g.path), .slice ap al ac, .slice ep el ec, .slice kp kl kc]) b2 [.string (mkB h.path), .slice ap2 al2 ac2, .slice ep2 el2 ec2, .slice kp2 kl2 kc2] = H2
  intro d1 d2 l0
  have hK := hK _ l0
  have no : (g = h → False) → K false H2 := fun hn => by rw [decide_eq_false hn] at hK; exact hK
  refine ldS_i d1.1 (ldS_i d2.1 (bcdT (fun hp => no fun e => hp (by rw [e])) fun hp => ?_))
  refine ldL_i d1.2.1 (ldL_i d2.2.1 (centoref12_sameTexts.c (ha.le l0) (ha2.le l0) (by omega) (bcnd (fun hq => no fun e => hq (by rw [e])) fun hq => ?_)))
  refine ldL_i d1.2.2.1 (ldL_i d2.2.2.1 (bcd (fun hn => no fun e => hn (by rw [e2, e4, e])) fun hn => ldL_i d1.2.2.2 (ldL_i d2.2.2.2 (bcd (fun hn2 => no fun e => hn2 (by rw [e3, e5, e])) fun hn2 => ?_))))
  unfold centoref12_SameHunk.k1
  refine ⟨fun t Hx => ∃ i : Nat, t = (i : Nat) ∧ i ≤ el ∧ Hx = H2 ∧ g.edges.take i = h.edges.take i, fun t _ => ((el : Int) - t).toNat, ⟨0, rfl, Nat.zero_le _, rfl, rfl⟩, ?_⟩
  rintro t Hx ⟨i, rfl, gi, hx, ht⟩
  refine ldL_i (by rw [hx]; exact d1.2.2.1) (bcd (fun hlt => ldL_i (by rw [hx]; exact d1.2.2.1) ?_) fun hlt => ?_)
  · subst hx
    have hi : i < g.edges.length := by omega
    have hj : i < h.edges.length := by omega
    refine rsE (he.le l0) rfl hi (ldL_i d2.2.2.1 (rsE (he2.le l0) rfl hj (neE (fun hne => no fun e => take_ne hi hj hne (by rw [e])) fun heq => ?_)))
    exact chk (by omega) ⟨⟨i + 1, by omega, by omega, by trivial, take_next hi hj heq ht⟩, by first | omega | (dsimp only; omega)⟩
  subst hx
  rw [List.take_of_length_le (by omega), List.take_of_length_le (by omega)] at ht
  clear hlt gi i
  refine ⟨fun t Hy => ∃ i : Nat, t = (i : Nat) ∧ i ≤ kl ∧ Hy = Hx ∧ g.kills.take i = h.kills.take i, fun t _ => ((kl : Int) - t).toNat, ⟨0, rfl, Nat.zero_le _, rfl, rfl⟩, ?_⟩
  rintro t Hy ⟨i, rfl, gi, hx, hu⟩
  refine ldL_i (by rw [hx]; exact d1.2.2.2) (bcd (fun hlt => ldL_i (by rw [hx]; exact d1.2.2.2) ?_) fun hlt => ?_)
  · subst hx
    have hi : i < g.kills.length := by omega
    have hj : i < h.kills.length := by omega
    refine rsL (hk.le l0) rfl hi (ldL_i d2.2.2.2 (rsL (hk2.le l0) rfl hj (neL (fun hne => no fun e => take_ne hi hj hne (by rw [e])) fun heq => ?_)))
    exact chk (by omega) ⟨⟨i + 1, by omega, by omega, by trivial, take_next hi hj heq hu⟩, by first | omega | (dsimp only; omega)⟩
  subst hx
  rw [List.take_of_length_le (by omega), List.take_of_length_le (by omega)] at hu
  have : g = h := by cases g; cases h; simp_all
  rw [decide_eq_true this] at hK; exact hK
theorem centoref12_SameHunk.c {K : Bool → Hp → Prop} {g h : Hk} {ap ep kp ap2 ep2 kp2 : Option Addr} {al ac el ec kl kc al2 ac2 el2 ec2 kl2 kc2 : Nat} (ha : Sl sv H ap al ac g.adds) (he : Sn 4 edC H ep el ec g.edges) (hk : Sn 2 lidC H kp kl kc g.kills)
    (ha2 : Sl sv H ap2 al2 ac2 h.adds) (he2 : Sn 4 edC H ep2 el2 ec2 h.edges) (hk2 : Sn 2 lidC H kp2 kl2 kc2 h.kills) (hsm : HkSm g) (hK : ∀ H', Le H H' → K (decide (g = h)) H') :
    centoref12_SameHunk.C (mkB g.path) ap al ac ep el ec kp kl kc (mkB h.path) ap2 al2 ac2 ep2 el2 ec2 kp2 kl2 kc2 H K := centoref12_SameHunk.b ha he hk ha2 he2 hk2 hsm.adds hsm.edges hsm.kills hK
end
section
variable {H : Hp} {id : Int} {dp mp qp hp : Option Addr} {dl dc ml mc ql qc hl hc : Nat} {x : Pt}
end
end Go.Proofs.YtganockeifkecaaDoor
namespace Go.Proofs.YtganockeifkecaaDoor
open Go.V
/-! ### The document: is it a hunk, a patch -/
theorem lines_one (s : BL) : decide ((lines s).length = 1) = (decide (s ≠ []) && decide (10 ∉ s.dropLast)) := by
  by_cases h : (10 : UInt8) ∈ s
  · obtain ⟨a, r, rfl, hn⟩ := List.eq_append_cons_of_mem h
    have e := linesA_line [] a r hn
    have : lines (a ++ 10 :: r) = (a ++ [10]) :: lines r := by simpa [lines] using e
    rw [this, List.length_cons]
    have hf := flat_lines [] r
    cases r with
    | nil =>
      have e2 : (a ++ [(10 : UInt8)]).dropLast = a := by simp
      rw [e2]
      simp [hn, lines, linesA]
    | cons y r =>
      have h1 : lines (y :: r) ≠ [] := fun e => by
        have : (linesA [] (y :: r)).flatten = [] := by
          have : linesA [] (y :: r) = [] := e
          rw [this]; rfl
        rw [hf] at this; simp at this
      have h2 := List.length_pos_iff.2 h1
      have h3 : (10 : UInt8) ∈ (a ++ 10 :: y :: r).dropLast := by simp
      rw [decide_eq_false (by omega), decide_eq_false (p := ¬ (10 : UInt8) ∈ (a ++ 10 :: y :: r).dropLast) (fun h => h h3)]; simp
  · have e := linesA_last [] s h
    have hl : lines s = if s = [] then [] else [s] := by simpa [lines] using e
    rw [hl]
    by_cases h0 : s = []
    · subst h0; simp
    · rw [if_neg h0]
      have h3 : (10 : UInt8) ∉ s.dropLast := fun hm => h (List.dropLast_subset _ hm)
      simp [h0, h3]
theorem lineB_one (s : BL) : lineB s = (decide ((lines s).length = 1) && decide (s.length ≤ 60)) := by
  rw [lines_one]
  unfold lineB
  cases decide (s ≠ []) <;> cases decide (s.length ≤ 60) <;> simp
theorem nil_lt {s : BL} (h : pathB s = true) : Sort.ltStr [] s = true := by
  cases s with
  | nil => simp [pathB] at h
  | cons y s => unfold Sort.ltStr; rw [decide_eq_true_eq]; exact List.nil_lt_cons _ _
def edgeB (id fr n : Int) (e : Ed) : Bool := namedB id fr n e.a && (namedB id fr n e.b && decide (¬ e.a = e.b))
def killB (id fr n : Int) (k : Lid) : Bool := namedB id fr n k && decide (¬ k.p = id)
theorem hunkB_eq (id fr : Int) (h : Hk) : hunkB id fr h = (decide (h.adds.length ≤ 40) && (decide (h.edges.length ≤ 80) && (decide (h.kills.length ≤ 40) && (h.adds.all lineB && ((h.edges.all (edgeB id fr h.adds.length)) && ((h.kills.all (killB id fr h.adds.length)) && (rsB edLt h.edges && rsB lidLt h.kills))))))) := rfl
theorem killB_eq {id fr n : Int} {k : Lid} (h : ¬ k.p = id) : killB id fr n k = namedB id 0 0 k := by
  unfold killB namedB
  rw [decide_eq_true h]; simp
section
variable {H : Hp} {p : Option Addr} {l cc : Nat}
theorem rsEa {xs : List Ed} (h : Sn 4 edC H p l cc xs) {k : Nat} {e : Int} (he : e = (k : Int)) (hk : k < xs.length) {F : Int → Int → Prop} (hF : F xs[k].a.p xs[k].a.n) : IDX e l fun k => NIL p fun b o => ldI .u32 (rd H b (o + (k * 4))) fun x => ldI .i64 (rd H b ((o + (k * 4)) + 1)) fun y => F x y := by
  have hl := h.len
  obtain ⟨b, o, rfl, hh⟩ := h.at hk
  exact idxN k he (by omega) (nil (ldI_i (hh k hk 0 _ rfl) (ldI_i (hh k hk 1 _ rfl) hF)))
theorem rsEb {xs : List Ed} (h : Sn 4 edC H p l cc xs) {k : Nat} {e : Int} (he : e = (k : Int)) (hk : k < xs.length) {F : Int → Int → Prop} (hF : F xs[k].b.p xs[k].b.n) : IDX e l fun k => NIL p fun b o => ldI .u32 (rd H b ((o + (k * 4)) + 2)) fun x => ldI .i64 (rd H b (((o + (k * 4)) + 2) + 1)) fun y => F x y := by
  have hl := h.len
  obtain ⟨b, o, rfl, hh⟩ := h.at hk
  exact idxN k he (by omega) (nil (ldI_i (hh k hk 2 _ rfl) (ldI_i (hh k hk 3 _ rfl) hF)))
theorem rsLp {xs : List Lid} (h : Sn 2 lidC H p l cc xs) {k : Nat} {e : Int} (he : e = (k : Int)) (hk : k < xs.length) {F : Int → Prop} (hF : F xs[k].p) : IDX e l fun k => NIL p fun b o => ldI .u32 (rd H b (o + (k * 2))) F := by
  have hl := h.len
  obtain ⟨b, o, rfl, hh⟩ := h.at hk
  exact idxN k he (by omega) (nil (ldI_i (hh k hk 0 _ rfl) hF))
theorem eqL {x y : Lid} {A B : Prop} (h : x = y → A) (h' : ¬ x = y → B) : bc (decide (x.p = y.p) && decide (x.n = y.n)) A B := by
  have e : (decide (x.p = y.p) && decide (x.n = y.n)) = decide (x = y) := by
    obtain ⟨a, b⟩ := x
    obtain ⟨c, d⟩ := y
    rw [Bool.eq_iff_iff]; simp
  rw [e]
  exact bcd h h'
end
end Go.Proofs.YtganockeifkecaaDoor
namespace Go.Proofs.YtganockeifkecaaDoor
open Go.V
/-! ### Lines by their numbers; hunks that are told -/
def lnId (x : Ln) : Lid := ⟨x.p, x.n⟩
def lnN (ls : List Ln) (i : Nat) : Lid := lnId (ls.getD i ⟨0, 0, [], true⟩)
def fstP {α : Type} (q : α → Bool) (xs : List α) : Int := match xs.findIdx? q with
  | some k => (k : Int)
  | none => -1
/-- The place of a number among the lines that aren't dead. -/
def plZ (ls : List Ln) (id : Lid) : Int := fstP (fun i => decide (lnN ls i = id)) (alv ls)
theorem fstP_no {α : Type} {q : α → Bool} {xs : List α} (h : ∀ x ∈ xs, q x = false) : fstP q xs = -1 := by
  unfold fstP; rw [List.findIdx?_eq_none_iff.2 h]
theorem fstP_yes {α : Type} {q : α → Bool} {xs : List α} {i : Nat} (hi : i < xs.length) (h : q xs[i] = true) (hj : ∀ j (hj : j < i), q (xs[j]'(by omega)) = false) : fstP q xs = (i : Int) := by
  unfold fstP
  rw [List.findIdx?_eq_some_iff_getElem.2 ⟨hi, h, fun j hji => by rw [hj j hji]; decide⟩]
theorem fstP_cases {α : Type} (q : α → Bool) (xs : List α) : (fstP q xs = -1 ∧ ∀ x ∈ xs, q x = false) ∨ ∃ i, ∃ hi : i < xs.length, fstP q xs = (i : Int) ∧ q xs[i] = true ∧ ∀ j (hj : j < i), q (xs[j]'(by omega)) = false := by
  cases h : xs.findIdx? q with
  | none => exact .inl ⟨by unfold fstP; rw [h], List.findIdx?_eq_none_iff.1 h⟩
  | some k =>
    obtain ⟨hk, h1, h2⟩ := List.findIdx?_eq_some_iff_getElem.1 h
    exact .inr ⟨k, hk, by unfold fstP; rw [h], h1, fun j hj => by
      cases e : q (xs[j]'(by omega)) with
      | false => rfl
      | true => exact absurd e (h2 j hj)⟩
theorem lidBe (x y : Lid) : (decide (x.p = y.p) && decide (x.n = y.n)) = decide (x = y) := by
  obtain ⟨a, b⟩ := x
  obtain ⟨c, d⟩ := y
  rw [Bool.eq_iff_iff]; simp
section
variable {H : Hp} {p : Option Addr} {l cc : Nat}
theorem rsI {xs : List Nat} (h : Sl iv H p l cc xs) {k : Nat} {e : Int} (he : e = (k : Int)) (hk : k < xs.length) {F : Int → Prop} (hF : F (xs[k] : Nat)) : IDX e l fun k => NIL p fun b o => ldI .i64 (rd H b (o + k)) F := by
  have hl := h.len
  obtain ⟨b, o, rfl, hh⟩ := h.at hk
  exact idxN k he (by omega) (nil (ldI_i (hh k hk) hF))
theorem rsLn {xs : List Ln} (h : Sn 4 lnC H p l cc xs) {k : Nat} {e : Int} (he : e = (k : Int)) (hk : k < xs.length) {F : Int → Int → Prop} (hF : F xs[k].p xs[k].n) : IDX e l fun k => NIL p fun b o => ldI .u32 (rd H b (o + (k * 4))) fun x => ldI .i64 (rd H b ((o + (k * 4)) + 1)) fun y => F x y := by
  have hl := h.len
  obtain ⟨b, o, rfl, hh⟩ := h.at hk
  exact idxN k he (by omega) (nil (ldI_i (hh k hk 0 _ rfl) (ldI_i (hh k hk 1 _ rfl) hF)))
theorem slices_IndexFunc_int_int.c {f : Value} {q : Nat → Bool} {K : Int → Hp → Prop} {xs : List Nat} (h : Sl iv H p l cc xs) (hl : l ≤ 1000000000) (hf : ∀ Hx x, x ∈ xs → ∀ K : Bool → Hp → Prop, Le H Hx → (∀ H', Le Hx H' → K (q x) H') → CallV prog f [iv x] Hx fun v H' => liftB v fun r => K r H')
    (hK : ∀ H', Le H H' → K (fstP q xs) H') : slices_IndexFunc_int_int.C p l cc f H K := by
  apply slices_IndexFunc_int_int.of
  have el := h.len
  refine ⟨fun t Hx => ∃ i : Nat, t = (i : Nat) ∧ i ≤ l ∧ Le H Hx ∧ ∀ j (hj : j < xs.length), j < i → q xs[j] = false, fun t _ => ((l : Int) - t).toNat, ⟨0, rfl, Nat.zero_le _, Le.refl _, fun j _ h => absurd h (Nat.not_lt_zero _)⟩, ?_⟩
  rintro t Hx ⟨i, rfl, gi, lex, hj⟩
  refine bcd (fun hlt => ?_) fun hlt => ?_
  · have hi : i < xs.length := by omega
    refine rsI (h.le lex) rfl hi (hf Hx _ (List.getElem_mem hi) _ lex fun H' le' => bc_i (fun hq => ?_) fun hq => ?_)
    · have := hK H' (lex.trans le')
      rw [fstP_yes hi hq fun j hji => hj j (by omega) hji] at this; exact this
    · refine chk (by omega) ⟨⟨i + 1, by omega, by omega, lex.trans le', fun j hj' hji => ?_⟩, by first | omega | (dsimp only; omega)⟩
      by_cases e : j = i
      · subst e; exact hq
      · exact hj j hj' (by omega)
  · have := hK Hx lex
    rw [fstP_no fun x hx => by
      obtain ⟨j, hj', rfl⟩ := List.mem_iff_getElem.1 hx
      exact hj j hj' (by omega)] at this
    exact this
end
section
variable {f : ByteArray} {lp pp : Option Addr} {ll lc pl pc : Nat} {ls : List Ln} {ps : List (Int × Int)} {H : Hp}
theorem lnN_at {i : Nat} (h : i < ls.length) : lnN ls i = lnId ls[i] := by unfold lnN; rw [lnD h]
theorem resolve_place_1.c {cp cid : Nat} {id : Lid} {i : Nat} {K : Bool → Hp → Prop} (hd : D3 H cp f lp ll lc pp pl pc) (hL : Sn 4 lnC H lp ll lc ls) (hi : i < ls.length) (hid : DL H cid id) (hK : K (decide (lnN ls i = id)) H) : resolve_place_1.C (i : Nat) cp cid H K := by
  apply resolve_place_1.of
  refine ldL_i hd.2.1 (rsLn hL rfl hi (ldI_i hid.1 (ldI_i hid.2 ?_)))
  rw [lnN_at hi, ← lidBe] at hK
  exact hK
theorem newD3 {F : Nat → Hp → Prop} (hF : ∀ q H', H q = none → D3 H' q f lp ll lc pp pl pc → Le H H' → F q H') : NEW H [.string f, .slice lp ll lc, .slice pp pl pc] F := fun q hq => hF q _ hq D3.new (Le.upd hq)
theorem newDL {x : Lid} {F : Nat → Hp → Prop} (hF : ∀ q H', H q = none → DL H' q x → Le H H' → F q H') : NEW H [.int .u32 x.p, .int .i64 x.n] F := fun q hq => hF q _ hq DL.new (Le.upd hq)
theorem newD4 {g : ByteArray} {ap ep kp : Option Addr} {al ac el ec kl kc : Nat} {F : Nat → Hp → Prop} (hF : ∀ q H', H q = none → D4 H' q g ap al ac ep el ec kp kl kc → Le H H' → F q H') : NEW H [.string g, .slice ap al ac, .slice ep el ec, .slice kp kl kc] F := fun q hq => hF q _ hq D4.new (Le.upd hq)
theorem newDE {e : Ed} {F : Nat → Hp → Prop} (hF : ∀ q H', H q = none → DE H' q e → Le H H' → F q H') : NEW H [.int .u32 e.a.p, .int .i64 e.a.n, .int .u32 e.b.p, .int .i64 e.b.n] F := fun q hq => hF q _ hq DE.new (Le.upd hq)
theorem put4h {b : Nat} {g g' : ByteArray} {ap ep kp ap' ep' kp' : Option Addr} {al ac el ec kl kc al' ac' el' ec' kl' kc' : Nat} (h : D4 H b g ap al ac ep el ec kp kl kc) {F : Hp → Prop} (hF : ∀ H', D4 H' b g' ap' al' ac' ep' el' ec' kp' kl' kc' → Mod [b] H H' → F H') :
    ST H b 0 (.string g') fun H1 => ST H1 b 1 (.slice ap' al' ac') fun H2 => ST H2 b 2 (.slice ep' el' ec') fun H3 => ST H3 b 3 (.slice kp' kl' kc') F := by
  have r1 : rd (wr H b 0 (.string g')) b 1 = some (.slice ap al ac) := by rw [rd_wr_off (by decide)]; exact h.2.1
  have r2 : rd (wr (wr H b 0 (.string g')) b 1 (.slice ap' al' ac')) b 2 = some (.slice ep el ec) := by rw [rd_wr_off (by decide), rd_wr_off (by decide)]; exact h.2.2.1
  have r3 : rd (wr (wr (wr H b 0 (.string g')) b 1 (.slice ap' al' ac')) b 2 (.slice ep' el' ec')) b 3 = some (.slice kp kl kc) := by rw [rd_wr_off (by decide), rd_wr_off (by decide), rd_wr_off (by decide)]; exact h.2.2.2
  refine st h.1 (st r1 (st r2 (st r3 (hF _ ⟨?_, ?_, ?_, ?_⟩ ((((Mod.refl.wr (.inl (by simp))).wr (.inl (by simp))).wr (.inl (by simp))).wr (.inl (by simp)))))))
  · rw [rd_wr_off (by decide), rd_wr_off (by decide), rd_wr_off (by decide)]; exact rd_wr_self h.1
  · rw [rd_wr_off (by decide), rd_wr_off (by decide)]; exact rd_wr_self r1
  · rw [rd_wr_off (by decide)]; exact rd_wr_self r2
  · exact rd_wr_self r3
theorem resolve_place.c {ap : Option Addr} {al ac : Nat} {id : Lid} {K : Int → Hp → Prop} (hL : Sn 4 lnC H lp ll lc ls) (hA : Sl iv H ap al ac (alv ls)) (hll : ll ≤ 200) (hK : ∀ H', Le H H' → K (plZ ls id) H') : resolve_place.C f lp ll lc pp pl pc ap al ac id.p id.n H K := by
  apply resolve_place.of
  have el := hL.len
  have ea := hA.len
  have := alv_len (ls := ls)
  refine newD3 fun b H1 _ d l1 => newDL fun b2 H2 _ d2 l2 => ?_
  have d := d.le l2
  have l12 := l1.trans l2
  refine slices_IndexFunc_int_int.c (q := fun i => decide (lnN ls i = id)) (hA.le l12) (by omega) (fun Hx x hx G lx hG => ?_) fun H3 l3 => hK _ (l12.trans l3)
  show resolve_place_1.C ((x : Nat) : Int) b b2 Hx G
  exact resolve_place_1.c (d.le lx) (hL.le (l12.trans lx)) (els_mem.1 hx).1 (d2.le lx) (hG _ (Le.refl _))
/-- No hunk. -/
def hk0 : Hk := ⟨[], [], [], []⟩
def HK (f : ByteArray → Option Addr → Nat → Nat → Option Addr → Nat → Nat → Option Addr → Nat → Nat → Int → Hp → Prop) (H : Hp) (r : Hk × Int) : Prop :=
  ∀ H' (d : HD), Le H H' → RdH H' r.1 d → (∀ q ∈ [d.ap, d.ep, d.kp], New H q) → f (mkB r.1.path) d.ap d.al d.ac d.ep d.el d.ec d.kp d.kl d.kc r.2 H'
theorem HK.none {K : ByteArray → Option Addr → Nat → Nat → Option Addr → Nat → Nat → Option Addr → Nat → Nat → Int → Hp → Prop} {e : Int} {H' : Hp} (h : HK K H (hk0, e)) (hl : Le H H') : K .empty Option.none 0 0 Option.none 0 0 Option.none 0 0 e H' :=
  h H' ⟨Option.none, 0, 0, Option.none, 0, 0, Option.none, 0, 0⟩ hl ⟨Sl.nil, Sn.nil, Sn.nil⟩ (by simp [New.none])
theorem nw1 {H : Hp} {q : Option Addr} (h : New H q) : ∀ x ∈ [(none : Option Addr), q, none], New H x := fun x hx => by
  simp only [List.mem_cons, List.not_mem_nil, or_false] at hx
  rcases hx with rfl | rfl | rfl
  · exact New.none
  · exact h
  · exact New.none
theorem nw2 {H : Hp} {q : Option Addr} (h : New H q) : ∀ x ∈ [(none : Option Addr), none, q], New H x := fun x hx => by
  simp only [List.mem_cons, List.not_mem_nil, or_false] at hx
  rcases hx with rfl | rfl | rfl
  · exact New.none
  · exact New.none
  · exact h
/-- The results' block is filled and told. -/
theorem endH {K : ByteArray → Option Addr → Nat → Nat → Option Addr → Nat → Nat → Option Addr → Nat → Nat → Int → Hp → Prop} {Hx : Hp} {b : Nat} {g g' : ByteArray} {ap ep kp ap' ep' kp' : Option Addr} {al ac el ec kl kc al' ac' el' ec' kl' kc' : Nat} {e : Int}
    (d : D4 Hx b g ap al ac ep el ec kp kl kc) (hK : ∀ H', Mod [b] Hx H' → K g' ap' al' ac' ep' el' ec' kp' kl' kc' e H') :
    ST Hx b 0 (.string g') fun H1 => ST H1 b 1 (.slice ap' al' ac') fun H2 => ST H2 b 2 (.slice ep' el' ec') fun H3 => ST H3 b 3 (.slice kp' kl' kc') fun H4 => ldS (rd H4 b 0) fun r => ldL (rd H4 b 1) fun a1 a2 a3 => ldL (rd H4 b 2) fun b1 b2 b3 => ldL (rd H4 b 3) fun c1 c2 c3 => K r a1 a2 a3 b1 b2 b3 c1 c2 c3 e H4 :=
  put4h d fun H' d' m => d'.get (hK H' m)
def ordR (f : BL) (ls : List Ln) (ps : List (Int × Int)) (a b : Lid) : Hk × Int :=
  if plZ ls a = -1 ∨ plZ ls b = -1 ∨ a = b then (hk0, 14) else if hasM (rM ls ps) (plZ ls a) (plZ ls b) = true then (hk0, 20) else (⟨f, [], [⟨a, b⟩], []⟩, 0)
theorem rdE1 {H : Hp} {b : Nat} {e : Ed} (h : DE H b e) : Sn 4 edC H (some ⟨b, 0, none⟩) 1 1 [e] := ⟨rfl, Nat.le_refl _, .inr ⟨b, 0, rfl, fun i hi j v hv => by
  match i, hi with
  | 0, _ =>
    match j, hv with
    | 0, hv => simp [edC] at hv; subst hv; exact h.1
    | 1, hv => simp [edC] at hv; subst hv; exact h.2.1
    | 2, hv => simp [edC] at hv; subst hv; exact h.2.2.1
    | 3, hv => simp [edC] at hv; subst hv; exact h.2.2.2
    | j + 4, hv => simp [edC] at hv⟩⟩
theorem rdL1 {H : Hp} {b : Nat} {e : Lid} (h : DL H b e) : Sn 2 lidC H (some ⟨b, 0, none⟩) 1 1 [e] := ⟨rfl, Nat.le_refl _, .inr ⟨b, 0, rfl, fun i hi j v hv => by
  match i, hi with
  | 0, _ =>
    match j, hv with
    | 0, hv => simp [lidC] at hv; subst hv; exact h.1
    | 1, hv => simp [lidC] at hv; subst hv; exact h.2
    | j + 2, hv => simp [lidC] at hv⟩⟩
theorem resolve_Order.c {a b : Lid} {K : ByteArray → Option Addr → Nat → Nat → Option Addr → Nat → Nat → Option Addr → Nat → Nat → Int → Hp → Prop} (hL : Sn 4 lnC H lp ll lc ls) (hP : Sn 2 pairC H pp pl pc ps) (hT : Tz H) (hll : ll ≤ 200) (hpl : pl ≤ 1000000000)
    (hK : HK K H (ordR (L f) ls ps a b)) : resolve_Order.C f lp ll lc pp pl pc a.p a.n b.p b.n H K := by
  apply resolve_Order.of
  refine newD3 fun q0 H0 _ d l0 => newDL fun q1 H1 _ da l1 => newDL fun q2 H2 _ db l2 => newD4 fun q3 H3 h3 dr l3 => ?_
  have d := ((d.le l1).le l2).le l3
  have da := (da.le l2).le l3
  have db := db.le l3
  have l02 := (l0.trans l1).trans l2
  have l03 := l02.trans l3
  refine d.get (view_Alive.c (hL.le l03) (hP.le l03) (hT.le l03) hll hpl fun ap al ac R O H4 hA _ hR _ l4 => ?_)
  have d := d.le l4
  have da := da.le l4
  have db := db.le l4
  have dr := dr.le l4
  have l04 := l03.trans l4
  have ln4 := l3.trans l4
  refine ldS_i d.1 (ldL_i d.2.1 (ldL_i d.2.2 (ldI_i da.1 (ldI_i da.2 (ldS_i d.1 (ldL_i d.2.1 (ldL_i d.2.2 (ldI_i db.1 (ldI_i db.2 ?_)))))))))
  refine resolve_place.c (hL.le l04) hA hll fun H5 l5 => ⟨(db.le l5).1, (db.le l5).2, (d.le l5).1, (d.le l5).2.1, (d.le l5).2.2, resolve_place.c ((hL.le l04).le l5) (hA.le l5) hll fun H6 l6 => ?_⟩
  have l56 := l5.trans l6
  have d := d.le l56
  have da := da.le l56
  have db := db.le l56
  have dr := dr.le l56
  have hR := hR.le l56
  have l26 := ln4.trans l56
  have l06 := l04.trans l56
  have fr : ∀ {Hy}, Mod [q3] H6 Hy → Le H Hy := fun m => m.le l06 fun x hx => by simp at hx; subst hx; exact none_of_le l02 h3
  have t14 : (plZ ls a = -1 ∨ plZ ls b = -1 ∨ a = b) → resolve_Order.k1 K q0 q1 q2 q3 (some ⟨R, 0, none⟩) (plZ ls a) (plZ ls b) true H6 := fun hc => by
    unfold ordR at hK
    rw [if_pos hc] at hK
    unfold resolve_Order.k1
    exact bcT (endH dr fun Hy m => hK.none (fr m))
  refine bcd (fun h1 => t14 (.inl h1)) fun h1 => bcd (fun h2 => t14 (.inr (.inl h2))) fun h2 => ldI_i da.1 (ldI_i da.2 (ldI_i db.1 (ldI_i db.2 ?_)))
  rw [lidBe]
  by_cases hab : a = b
  · rw [decide_eq_true hab]; exact t14 (.inr (.inr hab))
  rw [decide_eq_false hab]
  unfold ordR at hK
  rw [if_neg (fun h => h.elim h1 fun h => h.elim h2 hab)] at hK
  unfold resolve_Order.k1
  refine bcF (rel_Rel_Has.c hR (bc_i (fun hc => ?_) fun hc => ?_))
  · rw [if_pos hc] at hK
    exact endH dr fun Hy m => hK.none (fr m)
  · rw [if_neg (by rw [hc]; decide)] at hK
    unfold resolve_Order.k2
    refine ldS_i d.1 (ldI_i da.1 (ldI_i da.2 (ldI_i db.1 (ldI_i db.2 (newDE (e := ⟨a, b⟩) fun q4 H7 h7 de l7 => endH (dr.le l7) fun Hy m => ?_)))))
    have n4 : q4 ∉ [q3] := fun h => by simp at h; subst h; exact dr.there h7
    have := hK Hy ⟨none, 0, 0, some ⟨q4, 0, none⟩, 1, 1, none, 0, 0⟩ (m.le (l06.trans l7) fun x hx => by simp at hx; subst hx; exact none_of_le l02 h3) ⟨Sl.nil, rdE1 ⟨m.rd n4 de.1, m.rd n4 de.2.1, m.rd n4 de.2.2.1, m.rd n4 de.2.2.2⟩, Sn.nil⟩ (nw1 (New.some (none_of_le l06 h7)))
    rw [show mkB ((⟨L f, [], [⟨a, b⟩], []⟩ : Hk), (0 : Int)).1.path = f from mk_L f] at this
    exact this
def dropR (f : BL) (ls : List Ln) (a : Lid) : Hk × Int := if plZ ls a = -1 then (hk0, 14) else (⟨f, [], [], [a]⟩, 0)
theorem resolve_Drop.c {a : Lid} {K : ByteArray → Option Addr → Nat → Nat → Option Addr → Nat → Nat → Option Addr → Nat → Nat → Int → Hp → Prop} (hL : Sn 4 lnC H lp ll lc ls) (hP : Sn 2 pairC H pp pl pc ps) (hT : Tz H) (hll : ll ≤ 200) (hpl : pl ≤ 1000000000)
    (hK : HK K H (dropR (L f) ls a)) : resolve_Drop.C f lp ll lc pp pl pc a.p a.n H K := by
  apply resolve_Drop.of
  refine newD3 fun q0 H0 _ d l0 => newDL fun q1 H1 _ da l1 => newD4 fun q3 H3 h3 dr l3 => ?_
  have d := (d.le l1).le l3
  have da := da.le l3
  have l02 := l0.trans l1
  have l03 := l02.trans l3
  refine d.get (view_Alive.c (hL.le l03) (hP.le l03) (hT.le l03) hll hpl fun ap al ac R O H4 hA _ hR _ l4 => ?_)
  have d := d.le l4
  have da := da.le l4
  have dr := dr.le l4
  have l04 := l03.trans l4
  refine ldS_i d.1 (ldL_i d.2.1 (ldL_i d.2.2 (ldI_i da.1 (ldI_i da.2 ?_))))
  refine resolve_place.c (hL.le l04) hA hll fun H6 l56 => ?_
  have d := d.le l56
  have da := da.le l56
  have dr := dr.le l56
  have l06 := l04.trans l56
  unfold dropR at hK
  refine bcd (fun h1 => ?_) fun h1 => ?_
  · rw [if_pos h1] at hK
    exact endH dr fun Hy m => hK.none (m.le l06 fun x hx => by simp at hx; subst hx; exact none_of_le l02 h3)
  · rw [if_neg h1] at hK
    refine ldS_i d.1 (ldI_i da.1 (ldI_i da.2 (newDL (x := a) fun q4 H7 h7 de l7 => endH (dr.le l7) fun Hy m => ?_)))
    have n4 : q4 ∉ [q3] := fun h => by simp at h; subst h; exact dr.there h7
    have := hK Hy ⟨none, 0, 0, none, 0, 0, some ⟨q4, 0, none⟩, 1, 1⟩ (m.le (l06.trans l7) fun x hx => by simp at hx; subst hx; exact none_of_le l02 h3) ⟨Sl.nil, Sn.nil, rdL1 ⟨m.rd n4 de.1, m.rd n4 de.2⟩⟩ (nw2 (New.some (none_of_le l06 h7)))
    rw [show mkB ((⟨L f, [], [], [a]⟩ : Hk), (0 : Int)).1.path = f from mk_L f] at this
    exact this
end
end Go.Proofs.YtganockeifkecaaDoor
namespace Go.Proofs.YtganockeifkecaaDoor
open Go.V
/-! ### All in a row -/
def Uq (ls : List Ln) : Prop := ∀ i j, i < ls.length → j < ls.length → lnN ls i = lnN ls j → i = j
def insE (l : List Ed) (e : Ed) : List Ed := l.takeWhile (fun y => edLt y e) ++ e :: l.dropWhile fun y => edLt y e
def srtE (l : List Ed) : List Ed := l.foldl insE []
theorem insE_perm (l : List Ed) (e : Ed) : (insE l e).Perm (e :: l) := by
  unfold insE
  refine List.perm_middle.trans ?_
  rw [List.takeWhile_append_dropWhile]
theorem srtE_perm : ∀ l : List Ed, (srtE l).Perm l := by
  have : ∀ (l acc : List Ed), (l.foldl insE acc).Perm (acc ++ l) := fun l => by
    induction l with
    | nil => intro acc; simp
    | cons e l ih =>
      intro acc
      rw [List.foldl_cons]
      refine (ih _).trans ?_
      refine ((insE_perm acc e).append_right l).trans ?_
      exact (List.perm_middle (a := e) (l₁ := acc) (l₂ := l)).symm
  intro l
  have h := this l []
  simpa [srtE] using h
theorem mem_dropW {l : List Ed} {e : Ed} (hs : l.Pairwise fun a b => edLt b a = false) : ∀ y ∈ l.dropWhile (fun y => edLt y e), edLt y e = false := by
  induction l with
  | nil => simp
  | cons a l ih =>
    obtain ⟨h1, h2⟩ := List.pairwise_cons.1 hs
    intro y hy
    cases h : edLt a e with
    | true => rw [List.dropWhile_cons_of_pos (by exact h)] at hy; exact ih h2 y hy
    | false =>
      rw [List.dropWhile_cons_of_neg (by rw [h]; decide)] at hy
      rcases List.mem_cons.1 hy with rfl | hy
      · exact h
      · exact swo_ed.ntrans _ _ _ (h1 y hy) h
theorem mem_takeW {l : List Ed} {e : Ed} : ∀ y ∈ l.takeWhile (fun y => edLt y e), edLt y e = true := by
  induction l with
  | nil => simp
  | cons a l ih =>
    intro y hy
    cases h : edLt a e with
    | true =>
      rw [List.takeWhile_cons_of_pos (by exact h)] at hy
      rcases List.mem_cons.1 hy with rfl | hy
      · exact h
      · exact ih y hy
    | false => rw [List.takeWhile_cons_of_neg (by rw [h]; decide)] at hy; cases hy
theorem insE_pw {l : List Ed} {e : Ed} (hs : l.Pairwise fun a b => edLt b a = false) : (insE l e).Pairwise fun a b => edLt b a = false := by
  have h2 := hs
  rw [← List.takeWhile_append_dropWhile (p := fun y => edLt y e) (l := l)] at h2
  obtain ⟨p1, p2, p3⟩ := List.pairwise_append.1 h2
  unfold insE
  refine List.pairwise_append.2 ⟨p1, List.pairwise_cons.2 ⟨mem_dropW hs, p2⟩, fun a ha b hb => ?_⟩
  rcases List.mem_cons.1 hb with rfl | hb
  · exact swo_ed.asymmA (mem_takeW a ha)
  · exact p3 a ha b hb
theorem srtE_pw (l : List Ed) : (srtE l).Pairwise fun a b => edLt b a = false := by
  have : ∀ (l acc : List Ed), acc.Pairwise (fun a b => edLt b a = false) → (l.foldl insE acc).Pairwise fun a b => edLt b a = false := fun l => by
    induction l with
    | nil => intro acc h; exact h
    | cons e l ih => intro acc h; rw [List.foldl_cons]; exact ih _ (insE_pw h)
  exact this l [] List.Pairwise.nil
theorem srtE_of {ys l : List Ed} (hp : ys.Perm l) (hs : ys.Pairwise fun a b => edLt b a = false) : ys = srtE l :=
  sorted_same (lt := edLt) (fun _ _ => edLt_anti) (hp.trans (srtE_perm l).symm) hs (srtE_pw l)
theorem srtE_snoc (l : List Ed) (e : Ed) : srtE (l ++ [e]) = insE (srtE l) e := by unfold srtE; rw [List.foldl_append]; rfl
theorem insE_len (l : List Ed) (e : Ed) : (insE l e).length = l.length + 1 := by rw [(insE_perm l e).length_eq, List.length_cons]
section
variable (ls : List Ln) (ps : List (Int × Int))
/-- The number of the line that is shown at a place. -/
def oId (i : Nat) : Lid := lnN ls ((alv ls).getD ((ordL ls ps).getD i 0) 0)
def nbB (i : Nat) : Bool := decide (0 < i) && !rM ls ps ((ordL ls ps).getD (i - 1) 0) ((ordL ls ps).getD i 0)
def nbTo : Nat → List Ed
  | 0 => []
  | i + 1 => nbTo i ++ (if nbB ls ps i then [⟨oId ls ps (i - 1), oId ls ps i⟩] else [])
def allR (f : BL) : Hk × Int :=
  if linB ls ps = true then (hk0, 20) else if (shL ls ps).any (fun s => decide (s.m = 33)) = true then (hk0, 11) else (⟨f, [], srtE (nbTo ls ps (ordL ls ps).length), []⟩, 0)
end
section
variable {f : ByteArray} {lp pp : Option Addr} {ll lc pl pc : Nat} {ls : List Ln} {ps : List (Int × Int)} {H : Hp}
theorem alv_pw : (alv ls).Pairwise (· < ·) := List.pairwise_lt_range.filter _
theorem alv_inj {j k : Nat} (hj : j < (alv ls).length) (hk : k < (alv ls).length) (e : (alv ls)[j] = (alv ls)[k]) : j = k := by
  have := List.pairwise_iff_getElem.1 (alv_pw (ls := ls))
  rcases Nat.lt_trichotomy j k with h | h | h
  · have := this j k hj hk h; omega
  · exact h
  · have := this k j hk hj h; omega
theorem plZ_of (hu : Uq ls) {k : Nat} (hk : k < (alv ls).length) : plZ ls (lnN ls (alv ls)[k]) = (k : Int) :=
  fstP_yes hk (decide_eq_true rfl) fun j hj => decide_eq_false fun e => by
    have := alv_inj (by omega) hk (hu _ _ (alv_lt (by omega)) (alv_lt hk) e)
    omega
theorem ord_lt {i : Nat} (hi : i < (ordL ls ps).length) : (ordL ls ps)[i] < (alv ls).length := (ord_spec.1 _).1 (List.getElem_mem hi)
theorem oD {i : Nat} (hi : i < (ordL ls ps).length) : (ordL ls ps).getD i 0 = (ordL ls ps)[i] := by simp [List.getD, hi]
theorem oId_at {i : Nat} (hi : i < (ordL ls ps).length) : oId ls ps i = lnN ls ((alv ls)[(ordL ls ps)[i]]'(ord_lt hi)) := by unfold oId; rw [oD hi, aD (ord_lt hi)]
theorem plZ_oId (hu : Uq ls) {i : Nat} (hi : i < (ordL ls ps).length) : plZ ls (oId ls ps i) = ((ordL ls ps).getD i 0 : Nat) := by rw [oId_at hi, plZ_of hu (ord_lt hi), oD hi]
theorem shL_at {i : Nat} (hi : i < (shL ls ps).length) : (shL ls ps)[i].p = (oId ls ps i).p ∧ (shL ls ps)[i].n = (oId ls ps i).n := by
  have hi' : i < (ordL ls ps).length := by rw [← shL_len]; exact hi
  have : (shL ls ps)[i] = shn ls ps (ordL ls ps)[i] := List.getElem_map ..
  rw [this]
  unfold oId
  rw [oD hi']
  exact ⟨rfl, rfl⟩
theorem nbTo_len : ∀ i, (nbTo ls ps i).length ≤ i
  | 0 => Nat.le_refl _
  | i + 1 => by
    have := nbTo_len i
    rw [nbTo, List.length_append]
    split <;> simp <;> omega
/-- A block of a line that is shown. -/
def DSn (H : Hp) (b : Nat) (x : Shn) : Prop := rd H b 0 = some (.int .u32 x.p) ∧ rd H b 1 = some (.int .i64 x.n) ∧ rd H b 2 = some (.int .u8 ((x.m.toNat : Nat) : Int)) ∧ rd H b 3 = some (.string (mkB x.t))
theorem DSn.le {H' : Hp} {b : Nat} {x : Shn} (h : DSn H b x) (hl : Le H H') : DSn H' b x := ⟨hl.rd h.1, hl.rd h.2.1, hl.rd h.2.2.1, hl.rd h.2.2.2⟩
theorem DSn.new {b : Nat} {x : Shn} : DSn (upd H b [.int .u32 x.p, .int .i64 x.n, .int .u8 ((x.m.toNat : Nat) : Int), .string (mkB x.t)]) b x := ⟨by rw [rd_upd_self]; rfl, by rw [rd_upd_self]; rfl, by rw [rd_upd_self]; rfl, by rw [rd_upd_self]; rfl⟩
theorem DSn.mk {x : Shn} {i0 i1 i2 : Int} {s0 : ByteArray} {F : Nat → Hp → Prop} (hF : ∀ q H', H q = none → DSn H' q x → Le H H' → F q H') :
    NEW H [.int .u32 i0, .int .i64 i1, .int .u8 i2, .string s0] fun q H1 => ST H1 q 0 (.int .u32 x.p) fun H2 => ST H2 q 1 (.int .i64 x.n) fun H3 => ST H3 q 2 (.int .u8 ((x.m.toNat : Nat) : Int)) fun H4 => ST H4 q 3 (.string (mkB x.t)) fun H5 => F q H5 :=
  fun q hq => ST_upd rfl (ST_upd rfl (ST_upd rfl (ST_upd rfl (hF q _ hq DSn.new (Le.upd hq)))))
theorem rsSh {p : Option Addr} {l cc : Nat} {xs : List Shn} (h : Sn 4 shC H p l cc xs) {k : Nat} {e : Int} (he : e = (k : Int)) (hk : k < xs.length) {F : Int → Int → Int → ByteArray → Prop} (hF : F xs[k].p xs[k].n ((xs[k].m.toNat : Nat) : Int) (mkB xs[k].t)) :
    IDX e l fun k => NIL p fun b o => ldI .u32 (rd H b (o + (k * 4))) fun x => ldI .i64 (rd H b ((o + (k * 4)) + 1)) fun y => ldI .u8 (rd H b (((o + (k * 4)) + 1) + 1)) fun z => ldS (rd H b ((((o + (k * 4)) + 1) + 1) + 1)) fun w => F x y z w := by
  have hl := h.len
  obtain ⟨b, o, rfl, hh⟩ := h.at hk
  exact idxN k he (by omega) (nil (ldI_i (hh k hk 0 _ rfl) (ldI_i (hh k hk 1 _ rfl) (ldI_i (hh k hk 2 _ rfl) (ldS_i (hh k hk 3 _ rfl) hF)))))
theorem rsShI {p : Option Addr} {l cc : Nat} {xs : List Shn} (h : Sn 4 shC H p l cc xs) {k : Nat} {e : Int} (he : e = (k : Int)) (hk : k < xs.length) {F : Int → Int → Prop} (hF : F xs[k].p xs[k].n) :
    IDX e l fun k => NIL p fun b o => ldI .u32 (rd H b (o + (k * 4))) fun x => ldI .i64 (rd H b ((o + (k * 4)) + 1)) fun y => F x y := by
  have hl := h.len
  obtain ⟨b, o, rfl, hh⟩ := h.at hk
  exact idxN k he (by omega) (nil (ldI_i (hh k hk 0 _ rfl) (ldI_i (hh k hk 1 _ rfl) hF)))
theorem u8_33 (x : UInt8) {A B : Prop} (h : x = 33 → A) (h' : ¬ x = 33 → B) : bc (decide (((x.toNat : Nat) : Int) = (33 : Int))) A B :=
  bcd (fun e => h (UInt8.toNat_inj.1 (by show x.toNat = 33; omega))) fun e => h' fun hx => e (by subst hx; rfl)
instance cfE : CfE (.func (.func patch_CompareEdges.num) ⟨[]⟩ ⟨[]⟩) := ⟨fun Hx x y G hG => by
  show patch_CompareEdges.C x.a.p x.a.n x.b.p x.b.n y.a.p y.a.n y.b.p y.b.n Hx G
  refine patch_CompareEdges.c fun H' l' => hG H' _ l' ?_
  unfold cmp3
  cases edLt x y with
  | true => rfl
  | false => cases edLt y x with
    | true => rfl
    | false => rfl⟩
theorem resolve_All.c {K : ByteArray → Option Addr → Nat → Nat → Option Addr → Nat → Nat → Option Addr → Nat → Nat → Int → Hp → Prop} (hu : Uq ls) (hL : Sn 4 lnC H lp ll lc ls) (hP : Sn 2 pairC H pp pl pc ps) (hT : Tz H) (hll : ll ≤ 200) (hpl : pl ≤ 1000000000)
    (hK : HK K H (allR ls ps (L f))) : resolve_All.C f lp ll lc pp pl pc H K := by
  apply resolve_All.of
  refine newD3 fun q0 H0 _ d l0 => newD4 fun q3 H3 h3 dr l3 => ?_
  have d := d.le l3
  have l03 := l0.trans l3
  have hq3 : H q3 = none := none_of_le l0 h3
  unfold allR at hK
  refine d.get (view_Linear.c (hL.le l03) (hP.le l03) (hT.le l03) hll hpl fun H4 l4 => bc_i (fun h => ?_) fun h => ?_)
  · rw [if_pos h] at hK
    exact endH (dr.le l4) fun Hy m => hK.none (m.le (l03.trans l4) fun x hx => by simp at hx; subst hx; exact hq3)
  rw [if_neg (by rw [h]; decide)] at hK
  have d := d.le l4
  have dr := dr.le l4
  have l04 := l03.trans l4
  refine d.get (view_Alive.c (hL.le l04) (hP.le l04) (hT.le l04) hll hpl fun ap al ac R O H5 hA _ hR _ l5 => ?_)
  have d := d.le l5
  have dr := dr.le l5
  have l05 := l04.trans l5
  refine d.get (view_Show.c (hL.le l05) (hP.le l05) (hT.le l05) hll hpl fun sp sl sc H6 hB6 l6 => ?_)
  have d := d.le l6
  have dr := dr.le l6
  have l06 := l05.trans l6
  have hA := hA.le l6
  have hR := hR.le l6
  have hS := hB6.sn shC_len (by decide)
  have hL := hL.le l06
  have es := hS.len
  have eo := shL_len (ls := ls) (ps := ps)
  have el := hL.len
  have ea := alv_len (ls := ls)
  have eq := (ord_spec (ls := ls) (ps := ps)).2.2.2
  clear hB6 l5 l4 l3 l0
  refine ldS_i d.1 (D4.mk (f := f) (ap := none) (al := 0) (ac := 0) (ep := none) (el := 0) (ec := 0) (kp := none) (kl := 0) (kc := 0) fun q9 H9 h9 de l9 => ?_)
  refine ⟨fun t Hx => ∃ (i : Nat) (ep : Option Addr) (el ec : Nat), t = (i : Nat) ∧ i ≤ sl ∧ Le H6 Hx ∧ D4 Hx q9 f none 0 0 ep el ec none 0 0 ∧ Buf 4 H6 Hx ep el ec ((nbTo ls ps i).flatMap edC) ∧ Apart (some ⟨q9, 0, none⟩) ep ∧ ((shL ls ps).take i).any (fun s => decide (s.m = 33)) = false, fun t _ => ((sl : Int) - t).toNat, ⟨0, none, 0, 0, rfl, Nat.zero_le _, l9, de, Buf.none, Apart.none.symm, rfl⟩, ?_⟩
  rintro t Hx ⟨i, ep, en, ec, rfl, gi, lx, dx, hB, hap, hm⟩
  have d := d.le lx
  have dr := dr.le lx
  have ln := nbTo_len (ls := ls) (ps := ps) i
  have hbl := hB.1
  rw [flatMap_len edC_len] at hbl
  refine bcd (fun hlt => ?_) fun hlt => ?_
  · have hi : i < (shL ls ps).length := by omega
    have hio : i < (ordL ls ps).length := by omega
    obtain ⟨z1, z2⟩ := shL_at hi
    refine rsSh (hS.le lx) rfl hi (DSn.mk (x := (shL ls ps)[i]) fun q5 H7 _ ds l7 => ldI_i ds.2.2.1 (u8_33 _ (fun hb => ?_) fun hb => ?_))
    · have : (shL ls ps).any (fun s => decide (s.m = 33)) = true := List.any_eq_true.2 ⟨_, List.getElem_mem hi, decide_eq_true hb⟩
      rw [if_pos this] at hK
      exact endH (dr.le l7) fun Hy m => hK.none (m.le (l06.trans (lx.trans l7)) fun x hx => by simp at hx; subst hx; exact hq3)
    have lx7 := lx.trans l7
    have hm1 : ((shL ls ps).take (i + 1)).any (fun s => decide (s.m = 33)) = false := by
      rw [List.take_succ_eq_append_getElem hi, List.any_append, hm]; simp [hb]
    refine bcd (fun h0 => ?_) fun h0 => ?_
    · have : i = 0 := by omega
      subst this
      exact chk (by omega) ⟨⟨1, ep, en, ec, rfl, by omega, lx7, dx.le l7, by simpa [nbTo, nbB] using hB.le l7, hap, hm1⟩, by first | omega | (dsimp only; omega)⟩
    have hi1 : i - 1 < (shL ls ps).length := by omega
    have hio1 : i - 1 < (ordL ls ps).length := by omega
    obtain ⟨y1, y2⟩ := shL_at hi1
    refine chk (by omega) (rsShI ((hS.le lx).le l7) (k := i - 1) (by omega) hi1 ?_)
    rw [y1, y2]
    refine DL.mk (x := oId ls ps (i - 1)) fun q6 H8 _ dl l8 => ?_
    have d := (d.le l7).le l8
    have dr := (dr.le l7).le l8
    have ds := ds.le l8
    rw [DSn, z1, z2] at ds
    have lx8 := lx7.trans l8
    refine ldS_i d.1 (ldL_i d.2.1 (ldL_i d.2.2 (ldI_i dl.1 (ldI_i dl.2 (ldS_i d.1 (ldL_i d.2.1 (ldL_i d.2.2 (ldI_i ds.1 (ldI_i ds.2.1 ?_)))))))))
    refine resolve_place.c (hL.le lx8) (hA.le lx8) hll fun H10 l10 => ⟨l10.rd ds.1, l10.rd ds.2.1, (d.le l10).1, (d.le l10).2.1, (d.le l10).2.2, resolve_place.c ((hL.le lx8).le l10) ((hA.le lx8).le l10) hll fun H11 l11 => ?_⟩
    have l1011 := l10.trans l11
    have lx11 := lx8.trans l1011
    have l711 := (l7.trans l8).trans l1011
    rw [plZ_oId hu hio1, plZ_oId hu hio]
    refine rel_Rel_Has.c (hR.le lx11) ?_
    rw [hasM_nat]
    refine bc_i (fun hc => ?_) fun hc => ?_
    · refine chk (by omega) ⟨⟨i + 1, ep, en, ec, by omega, by omega, lx11, dx.le l711, ?_, hap, hm1⟩, by first | omega | (dsimp only; omega)⟩
      have : nbB ls ps i = false := by unfold nbB; rw [hc]; simp
      rw [nbTo, this, if_neg (by decide), List.append_nil]
      exact hB.le l711
    · have dx11 := dx.le l711
      have dl := dl.le l1011
      refine ldL_i dx11.2.2.1 (ldI_i dl.1 (ldI_i dl.2 (ldI_i (l1011.rd ds.1) (ldI_i (l1011.rd ds.2.1) ?_))))
      intro b3 hb3
      have l3' := Le.upd (c := [.int .u32 (oId ls ps (i - 1)).p, .int .i64 (oId ls ps (i - 1)).n, .int .u32 (oId ls ps i).p, .int .i64 (oId ls ps i).n]) hb3
      refine ((hB.le l711).le l3').pushAt (te := te_api_Edge) (new := edC ⟨oId ls ps (i - 1), oId ls ps i⟩) (by unfold upd; rw [if_pos rfl]; rfl) rfl (by decide) rfl (by decide) rfl rfl (by simp [te_api_Edge]; omega) (fun p' c' H12 hB12 hpn m12 => ?_) (lx11.trans l3')
      have nb : q9 ∉ blkL ep := fun h => hap q9 0 0 rfl (blkL_mem hB.zero h)
      have dx12 := (dx11.le l3').mod m12 nb
      have hap12 : Apart (some ⟨q9, 0, none⟩) p' := by
        rcases hpn with rfl | hpn
        · exact hap
        · intro b o o' e e'
          simp only [Option.some.injEq, Addr.mk.injEq] at e
          obtain ⟨rfl, _⟩ := e
          exact (dx11.le l3').there (hpn _ _ e')
      have lx12 : Le H6 H12 := m12.le (lx11.trans l3') fun q hq => hB.fr q 0 (blkL_mem hB.zero hq)
      have mq : ∀ {v}, Mod [q9] H12 (wr H12 q9 2 v) := Mod.refl.wr (.inl (by simp))
      refine st dx12.2.2.1 (chk (by omega) ⟨⟨i + 1, p', en + 1, c', by omega, by omega, mq.le lx12 fun q hq => by simp at hq; subst hq; exact h9, ⟨by rw [rd_wr_off (by decide)]; exact dx12.1, by rw [rd_wr_off (by decide)]; exact dx12.2.1, rd_wr_self dx12.2.2.1, by rw [rd_wr_off (by decide)]; exact dx12.2.2.2⟩, ?_, hap12, hm1⟩, by first | omega | (dsimp only; omega)⟩)
      have : nbB ls ps i = true := by unfold nbB; rw [hc, decide_eq_true (by omega)]; rfl
      rw [nbTo, this, if_pos rfl, List.flatMap_append]
      exact hB12.mod mq fun b o e hb => by simp at hb; subst hb; exact hap12 _ _ _ rfl e
  · have hi : i = (shL ls ps).length := by omega
    rw [List.take_of_length_le (by omega)] at hm
    rw [if_neg (by rw [hm]; decide)] at hK
    refine ldL_i dx.2.2.1 (slices_SortFunc_api_Edge_api_Edge.c (hB.sn edC_len (by decide)) (by omega) fun H7 ys hY hperm hpw m7 => ?_)
    have nb : q9 ∉ blkL ep := fun h => hap q9 0 0 rfl (blkL_mem hB.zero h)
    have nr : q3 ∉ blkL ep := fun h => (‹D4 H6 q3 _ _ _ _ _ _ _ _ _ _›).there (hB.fr q3 0 (blkL_mem hB.zero h))
    have d7 := dx.mod m7 nb
    have dr7 := dr.mod m7 nr
    have l7 : Le H6 H7 := m7.le lx fun q hq => hB.fr q 0 (blkL_mem hB.zero hq)
    refine d7.get (endH dr7 fun Hy m => ?_)
    have ey : ys = srtE (nbTo ls ps (ordL ls ps).length) := by rw [← eo, ← hi]; exact srtE_of hperm hpw
    have := hK Hy ⟨none, 0, 0, ep, en, ec, none, 0, 0⟩ (m.le (l06.trans l7) fun x hx => by simp at hx; subst hx; exact hq3) ⟨Sl.nil, by rw [← ey]; exact hY.mod m (fun b o e hb => nr (by simp at hb; subst hb; rw [e]; simp [blkL])), Sn.nil⟩ (nw1 (hB.fr.le l06))
    rw [show mkB ((⟨L f, [], srtE (nbTo ls ps (ordL ls ps).length), []⟩ : Hk), (0 : Int)).1.path = f from mk_L f] at this
    exact this
end
end Go.Proofs.YtganockeifkecaaDoor
namespace Go.Proofs.YtganockeifkecaaDoor
open Go.V
/-! ### The document: who is ahead; hunks -/
def atZ (ls : List Ln) (id : Lid) : Int := fstP (fun x => decide (lnId x = id)) ls
def aliZ (ls : List Ln) (id : Lid) : Int := if 0 ≤ atZ ls id ∧ (ls.getD (atZ ls id).toNat ⟨0, 0, [], true⟩).d = true then -1 else atZ ls id
section
variable {f : ByteArray} {lp pp : Option Addr} {ll lc pl pc : Nat} {ls : List Ln} {ps : List (Int × Int)} {H : Hp}
theorem alv_mem {i : Nat} : i ∈ alv ls ↔ i < ls.length ∧ (ls.getD i ⟨0, 0, [], true⟩).d = false := by
  unfold alv; rw [els_mem]; simp
theorem atZ_of (hu : Uq ls) {j : Nat} (hj : j < ls.length) : atZ ls (lnN ls j) = (j : Int) :=
  fstP_yes hj (by rw [lnN_at hj]; exact decide_eq_true rfl) fun k hk => decide_eq_false fun e => by
    have := hu k j (by omega) hj (by rw [lnN_at (by omega)]; exact e)
    omega
theorem ali_cases (hu : Uq ls) (id : Lid) : (plZ ls id = -1 ∧ aliZ ls id = -1) ∨ ∃ k, ∃ hk : k < (alv ls).length, plZ ls id = (k : Int) ∧ aliZ ls id = ((alv ls)[k] : Nat) ∧ id = lnN ls (alv ls)[k] := by
  rcases fstP_cases (fun i => decide (lnN ls i = id)) (alv ls) with ⟨h1, h2⟩ | ⟨k, hk, h1, h2, _⟩
  · refine .inl ⟨h1, ?_⟩
    unfold aliZ
    rcases fstP_cases (fun x => decide (lnId x = id)) ls with ⟨g1, _⟩ | ⟨j, hj, g1, g2, _⟩
    · have g1 : atZ ls id = -1 := g1
      rw [g1, if_neg (by omega)]
    · have g1 : atZ ls id = (j : Int) := g1
      rw [g1, Int.toNat_natCast, if_pos]
      refine ⟨by omega, ?_⟩
      cases hd : (ls.getD j ⟨0, 0, [], true⟩).d with
      | true => rfl
      | false =>
        have := h2 j (alv_mem.2 ⟨hj, hd⟩)
        rw [lnN_at hj] at this
        rw [this] at g2; cases g2
  · refine .inr ⟨k, hk, h1, ?_, (of_decide_eq_true h2).symm⟩
    have e := of_decide_eq_true h2
    have hm := alv_mem.1 (List.getElem_mem hk)
    have ha : atZ ls id = ((alv ls)[k] : Nat) := by rw [← e]; exact atZ_of hu hm.1
    unfold aliZ
    rw [ha, Int.toNat_natCast, if_neg (fun h => by rw [hm.2] at h; exact absurd h.2 (by decide))]
theorem rM_cM {i k : Nat} (hi : i < (alv ls).length) (hk : k < (alv ls).length) : rM ls ps i k = cM ls ps (alv ls)[i] (alv ls)[k] := by
  unfold rM; rw [decide_eq_true ⟨hi, hk⟩, aD hi, aD hk]; rfl
theorem centoref12_At.c {id : Lid} {K : Int → Hp → Prop} (hL : Sn 4 lnC H lp ll lc ls) (hll : ll ≤ 200) (hK : ∀ H', Le H H' → K (atZ ls id) H') : centoref12_At.C f lp ll lc pp pl pc id.p id.n H K := by
  apply centoref12_At.of
  have el := hL.len
  refine newD3 fun b H1 _ d l1 => newDL fun b2 H2 _ d2 l2 => ?_
  have d := d.le l2
  have l12 := l1.trans l2
  have hK := hK _ l12
  refine ⟨fun t Hx => ∃ i : Nat, t = (i : Nat) ∧ i ≤ ll ∧ Hx = H2 ∧ ∀ j (hj : j < ls.length), j < i → decide (lnId ls[j] = id) = false, fun t _ => ((ll : Int) - t).toNat, ⟨0, rfl, Nat.zero_le _, rfl, fun j _ h => absurd h (Nat.not_lt_zero _)⟩, ?_⟩
  rintro t Hx ⟨i, rfl, gi, rfl, hj⟩
  refine ldL_i d.2.1 (bcd (fun hlt => ldL_i d.2.1 ?_) fun hlt => ?_)
  · have hi : i < ls.length := by omega
    refine rsLn (hL.le l12) rfl hi (ldI_i d2.1 (ldI_i d2.2 ?_))
    show bc (decide ((lnId ls[i]).p = id.p) && decide ((lnId ls[i]).n = id.n)) _ _
    rw [lidBe]
    refine bc_i (fun hq => ?_) fun hq => ?_
    · unfold atZ at hK
      rw [fstP_yes hi hq fun j hji => hj j (by omega) hji] at hK; exact hK
    · refine chk (by omega) ⟨⟨i + 1, by omega, by omega, by trivial, fun j hj' hji => ?_⟩, by first | omega | (dsimp only; omega)⟩
      by_cases e : j = i
      · subst e; exact hq
      · exact hj j hj' (by omega)
  · unfold atZ at hK
    rw [fstP_no fun x hx => by
      obtain ⟨j, hj', rfl⟩ := List.mem_iff_getElem.1 hx
      exact hj j hj' (by omega)] at hK
    exact hK
theorem centoref12_alive.c {id : Lid} {K : Int → Hp → Prop} (hL : Sn 4 lnC H lp ll lc ls) (hll : ll ≤ 200) (hK : ∀ H', Le H H' → K (aliZ ls id) H') : centoref12_alive.C f lp ll lc pp pl pc id.p id.n H K := by
  apply centoref12_alive.of
  have el := hL.len
  refine newD3 fun b H1 _ d l1 => newDL fun b2 H2 _ d2 l2 => ?_
  have d := d.le l2
  have l12 := l1.trans l2
  refine ldS_i d.1 (ldL_i d.2.1 (ldL_i d.2.2 (ldI_i d2.1 (ldI_i d2.2 (centoref12_At.c (hL.le l12) hll fun H3 l3 => ?_)))))
  have hK := hK _ (l12.trans l3)
  unfold aliZ at hK
  rcases fstP_cases (fun x => decide (lnId x = id)) ls with ⟨g1, _⟩ | ⟨j, hj, g1, _, _⟩
  · have g1 : atZ ls id = -1 := g1
    rw [g1] at hK ⊢
    rw [if_neg (by omega)] at hK
    exact bcd (fun h => absurd h (by decide)) fun _ => hK
  · have g1 : atZ ls id = (j : Int) := g1
    rw [g1] at hK ⊢
    rw [Int.toNat_natCast, lnD hj] at hK
    refine bcd (fun _ => ldL_i (d.le l3).2.1 ?_) fun h => absurd (by omega) h
    obtain ⟨bb, o, rfl, hr⟩ := hL.at hj
    refine idxN j rfl (by omega) (nil (ldB_i ((l12.trans l3).rd (hr j hj 3 _ rfl)) (bc_i (fun h => ?_) fun h => ?_)))
    · rw [if_pos ⟨by omega, h⟩] at hK; exact hK
    · rw [if_neg (fun hh => by rw [h] at hh; exact absurd hh.2 (by decide))] at hK; exact hK
theorem centoref12_ahead.c {x y : Int} {K : Bool → Hp → Prop} (hL : Sn 4 lnC H lp ll lc ls) (hP : Sn 2 pairC H pp pl pc ps) (hll : ll ≤ 200) (hpl : pl ≤ 1000000000) (hK : ∀ H', Le H H' → K (hasM (cM ls ps) x y) H') : centoref12_ahead.C f lp ll lc pp pl pc x y H K := by
  apply centoref12_ahead.of
  have el := hL.len
  have ep := hP.len
  refine newD3 fun b H1 _ d l1 => ldL_i d.2.1 (ldL_i d.2.2 (centoref2_Some.c (hP.le l1) (by omega) fun R O H3 u3 _ le3 => ?_))
  rw [el, show (max 0 (min ((ls.length : Nat) : Int) 200)).toNat = ls.length by omega] at u3
  refine centoref2_Rel_Closure.c u3 fun R' O' H4 u4 _ le4 => centoref2_Rel_Has.c u4 (hK _ ((l1.trans le3).trans le4))
theorem centoref12_ResolveOrder.c {a b : Lid} {K : ByteArray → Option Addr → Nat → Nat → Option Addr → Nat → Nat → Option Addr → Nat → Nat → Int → Hp → Prop} (hu : Uq ls) (hL : Sn 4 lnC H lp ll lc ls) (hP : Sn 2 pairC H pp pl pc ps) (hll : ll ≤ 200) (hpl : pl ≤ 1000000000)
    (hK : HK K H (ordR (L f) ls ps a b)) : centoref12_ResolveOrder.C f lp ll lc pp pl pc a.p a.n b.p b.n H K := by
  apply centoref12_ResolveOrder.of
  refine newD3 fun q0 H0 _ d l0 => newDL fun q1 H1 _ da l1 => newDL fun q2 H2 _ db l2 => newD4 fun q3 H3 h3 dr l3 => ?_
  have d := ((d.le l1).le l2).le l3
  have da := (da.le l2).le l3
  have db := db.le l3
  have l02 := (l0.trans l1).trans l2
  have l03 := l02.trans l3
  refine ldS_i d.1 (ldL_i d.2.1 (ldL_i d.2.2 (ldI_i da.1 (ldI_i da.2 (ldS_i d.1 (ldL_i d.2.1 (ldL_i d.2.2 (ldI_i db.1 (ldI_i db.2 ?_)))))))))
  refine centoref12_alive.c (hL.le l03) hll fun H5 l5 => ⟨(db.le l5).1, (db.le l5).2, (d.le l5).1, (d.le l5).2.1, (d.le l5).2.2, centoref12_alive.c ((hL.le l03).le l5) hll fun H6 l6 => ?_⟩
  have l56 := l5.trans l6
  have d := d.le l56
  have da := da.le l56
  have db := db.le l56
  have dr := dr.le l56
  have l06 := l03.trans l56
  have hL := hL.le l06
  have hP := hP.le l06
  have fr : ∀ {Hz Hy}, Le H6 Hz → Mod [q3] Hz Hy → Le H Hy := fun lz m => m.le (l06.trans lz) fun x hx => by simp at hx; subst hx; exact none_of_le l02 h3
  have t14 : (plZ ls a = -1 ∨ plZ ls b = -1 ∨ a = b) → centoref12_ResolveOrder.k1 K q0 q1 q2 q3 (aliZ ls a) (aliZ ls b) true H6 := fun hc => by
    unfold ordR at hK
    rw [if_pos hc] at hK
    unfold centoref12_ResolveOrder.k1
    exact bcT (endH dr fun Hy m => hK.none (fr (Le.refl _) m))
  rcases ali_cases hu a with ⟨p1, p2⟩ | ⟨k, hk, p1, p2, p3⟩
  · exact bcd (fun _ => t14 (.inl p1)) fun h => absurd (by rw [p2]; decide) h
  rcases ali_cases hu b with ⟨r1, r2⟩ | ⟨j, hj, r1, r2, r3⟩
  · exact bcd (fun h => absurd h (by rw [p2]; omega)) fun _ => bcd (fun _ => t14 (.inr (.inl r1))) fun h => absurd (by rw [r2]; decide) h
  refine bcd (fun h => absurd h (by rw [p2]; omega)) fun _ => bcd (fun h => absurd h (by rw [r2]; omega)) fun _ => ldI_i da.1 (ldI_i da.2 (ldI_i db.1 (ldI_i db.2 ?_)))
  rw [lidBe]
  by_cases hab : a = b
  · rw [decide_eq_true hab]; exact t14 (.inr (.inr hab))
  rw [decide_eq_false hab]
  unfold ordR at hK
  rw [if_neg (fun h => h.elim (fun h => by rw [p1] at h; omega) fun h => h.elim (fun h => by rw [r1] at h; omega) hab), p1, r1, hasM_nat, rM_cM hk hj] at hK
  unfold centoref12_ResolveOrder.k1
  refine bcF (ldS_i d.1 (ldL_i d.2.1 (ldL_i d.2.2 (centoref12_ahead.c hL hP hll hpl fun H7 l7 => ?_))))
  rw [p2, r2, hasM_nat]
  have d := d.le l7
  have da := da.le l7
  have db := db.le l7
  have dr := dr.le l7
  refine bc_i (fun hc => ?_) fun hc => ?_
  · rw [if_pos hc] at hK
    exact endH dr fun Hy m => hK.none (fr l7 m)
  · rw [if_neg (by rw [hc]; decide)] at hK
    unfold centoref12_ResolveOrder.k2
    refine ldS_i d.1 (ldI_i da.1 (ldI_i da.2 (ldI_i db.1 (ldI_i db.2 (newDE (e := ⟨a, b⟩) fun q4 H8 h8 de l8 => endH (dr.le l8) fun Hy m => ?_)))))
    have n4 : q4 ∉ [q3] := fun h => by simp at h; subst h; exact dr.there h8
    have := hK Hy ⟨none, 0, 0, some ⟨q4, 0, none⟩, 1, 1, none, 0, 0⟩ (fr (l7.trans l8) m) ⟨Sl.nil, rdE1 ⟨m.rd n4 de.1, m.rd n4 de.2.1, m.rd n4 de.2.2.1, m.rd n4 de.2.2.2⟩, Sn.nil⟩ (nw1 (New.some (none_of_le (l06.trans l7) h8)))
    rw [show mkB ((⟨L f, [], [⟨a, b⟩], []⟩ : Hk), (0 : Int)).1.path = f from mk_L f] at this
    exact this
theorem centoref12_ResolveDrop.c {a : Lid} {K : ByteArray → Option Addr → Nat → Nat → Option Addr → Nat → Nat → Option Addr → Nat → Nat → Int → Hp → Prop} (hu : Uq ls) (hL : Sn 4 lnC H lp ll lc ls) (hll : ll ≤ 200)
    (hK : HK K H (dropR (L f) ls a)) : centoref12_ResolveDrop.C f lp ll lc pp pl pc a.p a.n H K := by
  apply centoref12_ResolveDrop.of
  refine newD3 fun q0 H0 _ d l0 => newDL fun q1 H1 _ da l1 => newD4 fun q3 H3 h3 dr l3 => ?_
  have d := (d.le l1).le l3
  have da := da.le l3
  have l02 := l0.trans l1
  have l03 := l02.trans l3
  refine ldS_i d.1 (ldL_i d.2.1 (ldL_i d.2.2 (ldI_i da.1 (ldI_i da.2 (centoref12_alive.c (hL.le l03) hll fun H6 l56 => ?_)))))
  have d := d.le l56
  have da := da.le l56
  have dr := dr.le l56
  have l06 := l03.trans l56
  unfold dropR at hK
  rcases ali_cases hu a with ⟨p1, p2⟩ | ⟨k, hk, p1, p2, p3⟩
  · rw [if_pos p1] at hK
    exact bcd (fun _ => endH dr fun Hy m => hK.none (m.le l06 fun x hx => by simp at hx; subst hx; exact none_of_le l02 h3)) fun h => absurd (by rw [p2]; decide) h
  · rw [if_neg (by rw [p1]; omega)] at hK
    refine bcd (fun h => absurd h (by rw [p2]; omega)) fun _ => ldS_i d.1 (ldI_i da.1 (ldI_i da.2 (newDL (x := a) fun q4 H7 h7 de l7 => endH (dr.le l7) fun Hy m => ?_)))
    have n4 : q4 ∉ [q3] := fun h => by simp at h; subst h; exact dr.there h7
    have := hK Hy ⟨none, 0, 0, none, 0, 0, some ⟨q4, 0, none⟩, 1, 1⟩ (m.le (l06.trans l7) fun x hx => by simp at hx; subst hx; exact none_of_le l02 h3) ⟨Sl.nil, Sn.nil, rdL1 ⟨m.rd n4 de.1, m.rd n4 de.2⟩⟩ (nw2 (New.some (none_of_le l06 h7)))
    rw [show mkB ((⟨L f, [], [], [a]⟩ : Hk), (0 : Int)).1.path = f from mk_L f] at this
    exact this
end
/-! ### The document: edges that rise -/
theorem Sn_slice {α : Type} {g : α → List Value} {H : Hp} {p : Option Addr} {l c : Nat} {xs : List α} (h : Sn 4 g H p l c xs) {j k : Nat} (hjk : j ≤ k) (hk : k ≤ xs.length) : Sn 4 g H (movA p j 4 c) (k - j) (c - j) ((xs.take k).drop j) := by
  refine ⟨by simp; omega, by have := h.1; have := h.2.1; omega, ?_⟩
  by_cases hj : j = k
  · left; rw [hj]; simp
  · obtain ⟨b, o, hp, h'⟩ := h.at (i := j) (by omega)
    have hc : ¬ c = j := by have := h.1; have := h.2.1; omega
    refine .inr ⟨b, o + j * 4, by subst hp; simp only [movA, if_neg hc]; rfl, fun i hi t v hv => ?_⟩
    simp at hi
    have e : ((xs.take k).drop j)[i]'(by simp; omega) = xs[j + i]'(by omega) := by simp
    rw [e] at hv
    have := h' (j + i) (by omega) t v hv
    rw [show o + j * 4 + i * 4 + t = o + (j + i) * 4 + t by omega]; exact this
theorem all_cellN {α : Type} {g : α → List Value} (hg : ∀ x, (g x).all isCell = true) (ys : List α) : (ys.flatMap g).all isCell = true := List.all_eq_true.2 fun v hv => by
  obtain ⟨x, _, hx⟩ := List.mem_flatMap.1 hv
  exact List.all_eq_true.1 (hg x) v hx
theorem cutW {α : Type} {f : α → Bool} : ∀ {xs : List α} {i : Nat}, (∀ y ∈ xs.take i, f y = true) → (xs.length ≤ i ∨ ∃ h : i < xs.length, f xs[i] = false) → xs.takeWhile f = xs.take i ∧ xs.dropWhile f = xs.drop i
  | [], i, _, _ => by simp
  | x :: xs, 0, _, h => by
    rcases h with h | ⟨_, h⟩
    · simp at h
    · have h : f x = false := h
      simp [h]
  | x :: xs, i + 1, hp, h => by
    have hx : f x = true := hp x (by simp)
    have ih := cutW (xs := xs) (i := i) (fun y hy => hp y (by simp [hy])) (by
      rcases h with h | ⟨h1, h2⟩
      · exact .inl (by simpa using h)
      · exact .inr ⟨by simpa using h1, by simpa using h2⟩)
    simp [hx, ih.1, ih.2]
section
variable {H : Hp} {p : Option Addr} {l cc : Nat}
theorem centoref12_putEdge.c {xs : List Ed} {e : Ed} {K : Option Addr → Nat → Nat → Hp → Prop} (h : Sn 4 edC H p l cc xs) (hl : l ≤ 1000000) (hK : ∀ p' l' c' H', Le H H' → Sn 4 edC H' p' l' c' (insE xs e) → New H p' → K p' l' c' H') : centoref12_putEdge.C p l cc e.a.p e.a.n e.b.p e.b.n H K := by
  apply centoref12_putEdge.of
  have el := h.len
  have hc := h.2.1
  refine newDE fun q8 H9 _ de l9 => ?_
  have tail : ∀ (i : Nat) (Hy : Hp), i ≤ l → Le H9 Hy → xs.takeWhile (fun y => edLt y e) = xs.take i → xs.dropWhile (fun y => edLt y e) = xs.drop i → ∀ (p1 : Option Addr) (c1 : Nat) (H1 : Hp), Buf 4 H H1 p1 (0 + (i - 0)) c1 ([] ++ (xs.take i).flatMap edC) → Le Hy H1 → ∀ (b : Nat), H1 b = some (edC e) →
      APP H1 te_api_Edge p1 (0 + (i - 0)) c1 (.slice (some ⟨b, 0, none⟩) 1 1) fun p2 l2 c2 H2 => BND (some ((i : Nat) : Int)) none l cc fun j67 k68 => APP H2 te_api_Edge p2 l2 c2 (.slice (movA p j67 4 cc) (k68 - j67) (cc - j67)) fun xp69 xl70 xc71 Hx72 => K xp69 xl70 xc71 Hx72 := fun i Hy hi ly e1 e2 p1 c1 H1 hB1 l1 b hb => by
    have lH1 := (l9.trans ly).trans l1
    refine hB1.pushAt (te := te_api_Edge) (new := edC e) hb rfl (by decide) rfl (by decide) rfl rfl (by simp [te_api_Edge]; omega) (fun p2 c2 H2 hB2 hpn m2 => ?_) lH1
    have l2 : Le H H2 := m2.le lH1 fun q hq => hB1.fr q 0 (blkL_mem hB1.zero hq)
    refine bnd10 i rfl (by omega) ?_
    have hR := Sn_slice (h.le l2) (j := i) (k := l) (by omega) (by omega)
    refine hB2.appN (n := l - i) (new := ((xs.take l).drop i).flatMap edC) rfl (by decide) rfl (by decide) (by rw [flatMap_len edC_len, List.length_drop, List.length_take]; omega) (all_cellN (fun _ => rfl) _) (by simp [te_api_Edge]; omega) l2 (fun G hG => sn_src (by decide) edC_len hR G hG) fun p3 c3 H3 hB3 l3 _ => ?_
    have hn3 := hB3.fr
    refine hK p3 _ c3 H3 l3 (Buf.sn (A := H) edC_len (by decide) ?_) hn3
    have e3 : (xs.take l).drop i = xs.drop i := by rw [List.take_of_length_le (by omega)]
    rw [e3] at hB3
    have e4 : (insE xs e).flatMap edC = [] ++ (xs.take i).flatMap edC ++ edC e ++ (xs.drop i).flatMap edC := by unfold insE; rw [e1, e2]; simp
    rw [e4]; exact hB3
  have cont : ∀ (i : Nat) (Hy : Hp), i ≤ l → Le H9 Hy → xs.takeWhile (fun y => edLt y e) = xs.take i → xs.dropWhile (fun y => edLt y e) = xs.drop i → BND none (some ((i : Nat) : Int)) l cc fun j51 k52 => ldI .u32 (rd Hy q8 0) fun x53 => ldI .i64 (rd Hy q8 1) fun x54 => ldI .u32 (rd Hy q8 2) fun x55 => ldI .i64 (rd Hy q8 3) fun x56 => (APP Hy te_api_Edge none 0 0 (.slice (movA p j51 4 cc) (k52 - j51) (cc - j51)) fun xp57 xl58 xc59 Hx60 => rd Hx60 q8 0 = some (.int .u32 x53) ∧ (rd Hx60 q8 1 = some (.int .i64 x54) ∧ (rd Hx60 q8 2 = some (.int .u32 x55) ∧ (rd Hx60 q8 3 = some (.int .i64 x56) ∧ (NEW Hx60 ([.int .u32 x53, .int .i64 x54, .int .u32 x55, .int .i64 x56]) fun bq61 Hx62 => APP Hx62 te_api_Edge xp57 xl58 xc59 (.slice (some ⟨bq61, 0, none⟩) 1 1) fun xp63 xl64 xc65 Hx66 => BND (some ((i : Nat) : Int)) none l cc fun j67 k68 => APP Hx66 te_api_Edge xp63 xl64 xc65 (.slice (movA p j67 4 cc) (k68 - j67) (cc - j67)) fun xp69 xl70 xc71 Hx72 => K xp69 xl70 xc71 Hx72))))) ∧ (NEW Hy ([.int .u32 x53, .int .i64 x54, .int .u32 x55, .int .i64 x56]) fun bq76 Hx77 => APP Hx77 te_api_Edge none 0 0 (.slice (movA p j51 4 cc) (k52 - j51) (cc - j51)) fun xp78 xl79 xc80 Hx81 => APP Hx81 te_api_Edge xp78 xl79 xc80 (.slice (some ⟨bq76, 0, none⟩) 1 1) fun xp82 xl83 xc84 Hx85 => BND (some ((i : Nat) : Int)) none l cc fun j86 k87 => APP Hx85 te_api_Edge xp82 xl83 xc84 (.slice (movA p j86 4 cc) (k87 - j86) (cc - j86)) fun xp88 xl89 xc90 Hx91 => K xp88 xl89 xc90 Hx91) := fun i Hy hi ly e1 e2 => by
    have dy := de.le ly
    have lHy := l9.trans ly
    refine bnd01 i rfl (by omega) (ldI_i dy.1 (ldI_i dy.2.1 (ldI_i dy.2.2.1 (ldI_i dy.2.2.2 ⟨?_, ?_⟩))))
    · have hS := Sn_slice (h.le lHy) (j := 0) (k := i) (by omega) (by omega)
      refine (Buf.none (s := 4) (A := H) (H := Hy)).appN (n := i - 0) (new := (xs.take i).flatMap edC) rfl (by decide) rfl (by decide) (by rw [flatMap_len edC_len, List.length_take]; omega) (all_cellN (fun _ => rfl) _) (by simp [te_api_Edge]; omega) lHy (fun G hG => sn_src (by decide) edC_len (by simpa using hS) G hG) fun p1 c1 H1 hB1 l1 m1 => ?_
      have ly1 : Le Hy H1 := fun b c e => by rw [m1 b (by rw [e]; intro h; cases h) (by simp)]; exact e
      have d1 := dy.le ly1
      refine ⟨d1.1, d1.2.1, d1.2.2.1, d1.2.2.2, fun b3 hb3 => ?_⟩
      have l3' := Le.upd (c := edC e) hb3
      exact tail i Hy hi ly e1 e2 p1 c1 _ (hB1.le l3') (ly1.trans l3') b3 (by unfold upd; rw [if_pos rfl])
    · intro b3 hb3
      have l3' := Le.upd (c := edC e) hb3
      have lH3 := lHy.trans l3'
      have hS := Sn_slice (h.le lH3) (j := 0) (k := i) (by omega) (by omega)
      refine (Buf.none (s := 4) (A := H) (H := upd Hy b3 (edC e))).appN (n := i - 0) (new := (xs.take i).flatMap edC) rfl (by decide) rfl (by decide) (by rw [flatMap_len edC_len, List.length_take]; omega) (all_cellN (fun _ => rfl) _) (by simp [te_api_Edge]; omega) lH3 (fun G hG => sn_src (by decide) edC_len (by simpa using hS) G hG) fun p1 c1 H1 hB1 l1 m1 => ?_
      have ly1 : Le (upd Hy b3 (edC e)) H1 := fun b c e => by rw [m1 b (by rw [e]; intro h; cases h) (by simp)]; exact e
      exact tail i Hy hi ly e1 e2 p1 c1 H1 hB1 (l3'.trans ly1) b3 (ly1 _ _ (by unfold upd; rw [if_pos rfl]))
  refine ⟨fun t Hx => ∃ i : Nat, t = (i : Nat) ∧ i ≤ l ∧ Le H9 Hx ∧ ∀ y ∈ xs.take i, edLt y e = true, fun t _ => ((l : Int) - t).toNat, ⟨0, rfl, Nat.zero_le _, Le.refl _, by simp⟩, ?_⟩
  rintro t Hx ⟨i, rfl, gi, lx, hp⟩
  refine bcd (fun hlt => ?_) fun hlt => ?_
  · have hi : i < xs.length := by omega
    have dx := de.le lx
    have next : ∀ Hy, Le Hx Hy → edLt xs[i] e = true → CHK .i64 (((i : Nat) : Int) + (1 : Int)) fun x => (∃ j : Nat, x = (j : Nat) ∧ j ≤ l ∧ Le H9 Hy ∧ ∀ y ∈ xs.take j, edLt y e = true) ∧ ((l : Int) - x).toNat < ((l : Int) - ((i : Nat) : Int)).toNat := fun Hy ly hb =>
      chk (by omega) ⟨⟨i + 1, by omega, by omega, lx.trans ly, fun y hy => by
        rw [List.take_succ_eq_append_getElem hi, List.mem_append] at hy
        rcases hy with hy | hy
        · exact hp y hy
        · simp at hy; subst hy; exact hb⟩, by omega⟩
    have stop : ∀ Hy, Le Hx Hy → edLt xs[i] e = false → _ := fun Hy ly hb => cont i Hy gi (lx.trans ly) (cutW hp (.inr ⟨hi, hb⟩)).1 (cutW hp (.inr ⟨hi, hb⟩)).2
    refine rsEa ((h.le l9).le lx) rfl hi (ldI_i dx.1 (ldI_i dx.2.1 (centoref12_Less.c (x := xs[i].a) (y := e.a) fun H2 l2 => bc_i (fun hb => ?_) fun hb => ?_)))
    · exact next H2 l2 (by unfold edLt; rw [hb]; rfl)
    have dx2 := dx.le l2
    refine rsEa (((h.le l9).le lx).le l2) rfl hi (ldI_i dx2.1 (ldI_i dx2.2.1 (eqL (x := xs[i].a) (y := e.a) (fun hea => ?_) fun hea => ?_)))
    · refine rsEb (((h.le l9).le lx).le l2) rfl hi (ldI_i dx2.2.2.1 (ldI_i dx2.2.2.2 (centoref12_Less.c (x := xs[i].b) (y := e.b) fun H3 l3 => bc_i (fun hb2 => ?_) fun hb2 => ?_)))
      · exact next H3 (l2.trans l3) (by unfold edLt; rw [hb, hb2, decide_eq_true hea]; rfl)
      · exact stop H3 (l2.trans l3) (by unfold edLt; rw [hb, hb2, Bool.and_false]; rfl)
    · exact stop H2 l2 (by unfold edLt; rw [hb, decide_eq_false hea]; rfl)
  · have := cutW (f := fun y => edLt y e) (i := i) hp (.inl (by omega))
    exact cont i Hx gi lx this.1 this.2
end
section
variable {f : ByteArray} {lp pp : Option Addr} {ll lc pl pc : Nat} {ls : List Ln} {ps : List (Int × Int)} {H : Hp}
theorem at_oId (hu : Uq ls) {i : Nat} (hi : i < (ordL ls ps).length) : atZ ls (oId ls ps i) = (((alv ls)[(ordL ls ps)[i]]'(ord_lt hi) : Nat) : Int) := by rw [oId_at hi, atZ_of hu (alv_lt (ord_lt hi))]
theorem centoref12_ResolveAll.c {K : ByteArray → Option Addr → Nat → Nat → Option Addr → Nat → Nat → Option Addr → Nat → Nat → Int → Hp → Prop} (hu : Uq ls) (hL : Sn 4 lnC H lp ll lc ls) (hP : Sn 2 pairC H pp pl pc ps) (hll : ll ≤ 200) (hpl : pl ≤ 1000000000)
    (hK : HK K H (allR ls ps (L f))) : centoref12_ResolveAll.C f lp ll lc pp pl pc H K := by
  apply centoref12_ResolveAll.of
  refine newD3 fun q0 H0 _ d l0 => newD4 fun q3 H3 h3 dr l3 => ?_
  have d := d.le l3
  have l03 := l0.trans l3
  have hq3 : H q3 = none := none_of_le l0 h3
  unfold allR at hK
  refine d.get (centoref12_Linear.c (hL.le l03) (hP.le l03) hll hpl fun H4 l4 => bc_i (fun h => ?_) fun h => ?_)
  · rw [if_pos h] at hK
    exact endH (dr.le l4) fun Hy m => hK.none (m.le (l03.trans l4) fun x hx => by simp at hx; subst hx; exact hq3)
  rw [if_neg (by rw [h]; decide)] at hK
  have d := d.le l4
  have dr := dr.le l4
  have l04 := l03.trans l4
  refine d.get (centoref12_Show.c (hL.le l04) (hP.le l04) hll hpl fun sp sl sc H6 hB6 l6 => ?_)
  have d := d.le l6
  have dr := dr.le l6
  have l06 := l04.trans l6
  have hS := hB6.sn shC_len (by decide)
  have hL := hL.le l06
  have hP := hP.le l06
  have es := hS.len
  have eo := shL_len (ls := ls) (ps := ps)
  have el := hL.len
  have ea := alv_len (ls := ls)
  have eq := (ord_spec (ls := ls) (ps := ps)).2.2.2
  clear hB6 l4 l3 l0
  refine ldS_i d.1 (D4.mk (f := f) (ap := none) (al := 0) (ac := 0) (ep := none) (el := 0) (ec := 0) (kp := none) (kl := 0) (kc := 0) fun q9 H9 h9 de l9 => ?_)
  refine ⟨fun t Hx => ∃ (i : Nat) (ep : Option Addr) (el ec : Nat), t = (i : Nat) ∧ i ≤ sl ∧ Le H6 Hx ∧ D4 Hx q9 f none 0 0 ep el ec none 0 0 ∧ Sn 4 edC Hx ep el ec (srtE (nbTo ls ps i)) ∧ (∀ b o, ep = some ⟨b, o, none⟩ → b ≠ q9 ∧ b ≠ q3) ∧ New H ep ∧ ((shL ls ps).take i).any (fun s => decide (s.m = 33)) = false, fun t _ => ((sl : Int) - t).toNat, ⟨0, none, 0, 0, rfl, Nat.zero_le _, l9, de, Sn.nil, by simp, New.none, rfl⟩, ?_⟩
  rintro t Hx ⟨i, ep, en, ec, rfl, gi, lx, dx, hB, hap, hnw, hm⟩
  have d := d.le lx
  have dr := dr.le lx
  have ln := nbTo_len (ls := ls) (ps := ps) i
  have hbl := hB.len
  rw [(srtE_perm _).length_eq] at hbl
  refine bcd (fun hlt => ?_) fun hlt => ?_
  · have hi : i < (shL ls ps).length := by omega
    have hio : i < (ordL ls ps).length := by omega
    obtain ⟨z1, z2⟩ := shL_at hi
    obtain ⟨bs, os, rfl, hr⟩ := hS.at hi
    refine idxN i rfl (by omega) (nil (ldI_i (lx.rd (hr i hi 2 _ rfl)) (u8_33 _ (fun hb => ?_) fun hb => ?_)))
    · have : (shL ls ps).any (fun s => decide (s.m = 33)) = true := List.any_eq_true.2 ⟨_, List.getElem_mem hi, decide_eq_true hb⟩
      rw [if_pos this] at hK
      exact endH dr fun Hy m => hK.none (m.le (l06.trans lx) fun x hx => by simp at hx; subst hx; exact hq3)
    have hm1 : ((shL ls ps).take (i + 1)).any (fun s => decide (s.m = 33)) = false := by
      rw [List.take_succ_eq_append_getElem hi, List.any_append, hm]; simp [hb]
    refine bcd (fun h0 => ?_) fun h0 => ?_
    · have hi1 : i - 1 < (shL ls ps).length := by omega
      have hio1 : i - 1 < (ordL ls ps).length := by omega
      obtain ⟨y1, y2⟩ := shL_at hi1
      have ri0 := hr i hi 0 _ rfl
      have ri1 := hr i hi 1 _ rfl
      rw [show (shL ls ps)[i].p = (oId ls ps i).p from z1] at ri0
      rw [show (shL ls ps)[i].n = (oId ls ps i).n from z2] at ri1
      refine ldS_i d.1 (ldL_i d.2.1 (ldL_i d.2.2 (ldS_i d.1 (ldL_i d.2.1 (ldL_i d.2.2 (chk (by omega) (rsShI (hS.le lx) (k := i - 1) (by omega) hi1 ?_)))))))
      rw [y1, y2]
      refine ldS_i d.1 (ldL_i d.2.1 (ldL_i d.2.2 (idxN i rfl (by omega) (nil (ldI_i (lx.rd ri0) (ldI_i (lx.rd ri1) ?_))))))
      refine centoref12_At.c (hL.le lx) hll fun H7 l7 => ⟨l7.rd (lx.rd ri0), l7.rd (lx.rd ri1), (d.le l7).1, (d.le l7).2.1, (d.le l7).2.2, (d.le l7).1, (d.le l7).2.1, (d.le l7).2.2, centoref12_At.c ((hL.le lx).le l7) hll fun H8 l8 => ?_⟩
      have l78 := l7.trans l8
      have d8 := d.le l78
      refine ⟨d8.1, d8.2.1, d8.2.2, centoref12_ahead.c ((hL.le lx).le l78) ((hP.le lx).le l78) hll hpl fun H10 l10 => ?_⟩
      have l710 := l78.trans l10
      have lx10 := lx.trans l710
      have dx10 := dx.le l710
      rw [at_oId hu hio1, at_oId hu hio, hasM_nat, ← rM_cM (ord_lt hio1) (ord_lt hio)]
      have hnb : nbB ls ps i = !rM ls ps (ordL ls ps)[i - 1] (ordL ls ps)[i] := by unfold nbB; rw [oD hio1, oD hio, decide_eq_true (by omega)]; rfl
      unfold centoref12_ResolveAll.k1
      refine bcn (fun hc => ?_) fun hc => ?_
      · rw [hc] at hnb
        have hS10 := hS.le lx10
        refine ldL_i dx10.2.2.1 (chk (by omega) (rsShI hS10 (k := i - 1) (by omega) hi1 ?_))
        rw [y1, y2]
        refine rsShI hS10 rfl hi ?_
        rw [z1, z2]
        refine ⟨dx10.2.2.1, centoref12_putEdge.c (e := ⟨oId ls ps (i - 1), oId ls ps i⟩) (hB.le l710) (by omega) fun p' l' c' H11 l11 hS11 hnew => ?_⟩
        have dx11 := dx10.le l11
        have l1' := hS11.len
        rw [insE_len, (srtE_perm _).length_eq] at l1'
        have n9 : ∀ b o, p' = some ⟨b, o, none⟩ → b ≠ q9 ∧ b ≠ q3 := fun b o e => ⟨fun h => by subst h; exact dx10.there (hnew _ _ e), fun h => by subst h; exact (dr.le l710).there (hnew _ _ e)⟩
        have mq : ∀ {v}, Mod [q9] H11 (wr H11 q9 2 v) := Mod.refl.wr (.inl (by simp))
        refine st dx11.2.2.1 (chk (by omega) ⟨⟨i + 1, p', l', c', by omega, by omega, mq.le (lx10.trans l11) fun q hq => by simp at hq; subst hq; exact h9, ⟨by rw [rd_wr_off (by decide)]; exact dx11.1, by rw [rd_wr_off (by decide)]; exact dx11.2.1, rd_wr_self dx11.2.2.1, by rw [rd_wr_off (by decide)]; exact dx11.2.2.2⟩, ?_, n9, hnew.le ((l06.trans lx10)), hm1⟩, by first | omega | (dsimp only; omega)⟩)
        rw [nbTo, hnb, if_pos (by decide), srtE_snoc]
        exact hS11.mod mq fun b o e hb => by simp at hb; exact (n9 b o e).1 hb
      · rw [hc] at hnb
        refine chk (by omega) ⟨⟨i + 1, ep, en, ec, by omega, by omega, lx10, dx10, ?_, hap, hnw, hm1⟩, by first | omega | (dsimp only; omega)⟩
        rw [nbTo, hnb, if_neg (by decide), List.append_nil]
        exact hB.le l710
    · have : i = 0 := by omega
      subst this
      unfold centoref12_ResolveAll.k1
      exact bcF (chk (by omega) ⟨⟨1, ep, en, ec, rfl, by omega, lx, dx, by simpa [nbTo, nbB] using hB, hap, hnw, hm1⟩, by first | omega | (dsimp only; omega)⟩)
  · have hi : i = (ordL ls ps).length := by omega
    rw [List.take_of_length_le (by omega)] at hm
    rw [if_neg (by rw [hm]; decide)] at hK
    refine dx.get (endH dr fun Hy m => ?_)
    have := hK Hy ⟨none, 0, 0, ep, en, ec, none, 0, 0⟩ (m.le (l06.trans lx) fun x hx => by simp at hx; subst hx; exact hq3) ⟨Sl.nil, by rw [← hi]; exact hB.mod m (fun b o e hb => by simp at hb; exact (hap b o e).2 hb), Sn.nil⟩ (nw1 hnw)
    rw [show mkB ((⟨L f, [], srtE (nbTo ls ps (ordL ls ps).length), []⟩ : Hk), (0 : Int)).1.path = f from mk_L f] at this
    exact this
end
end Go.Proofs.YtganockeifkecaaDoor
namespace Go.Proofs.YtganockeifkecaaDoor
open Go.V
/-! ### Package centolaw15 -/
section
variable {f : ByteArray} {lp pp : Option Addr} {ll lc pl pc : Nat} {ls : List Ln} {ps : List (Int × Int)} {H : Hp}
theorem centolaw15_few.c {K : Bool → Hp → Prop} (hL : Sn 4 lnC H lp ll lc ls) (hP : Sn 2 pairC H pp pl pc ps) (hll : ll ≤ maxLen) (hK : ∀ H', Le H H' → K (fewV ls ps) H') : centolaw15_few.C f lp ll lc pp pl pc H K := by
  apply centolaw15_few.of
  have el := hL.len
  have ep := hP.len
  have hml : maxLen ≤ 9223372036854775807 := by decide
  intro b hb
  have d : D3 (upd H b [.string f, .slice lp ll lc, .slice pp pl pc]) b f lp ll lc pp pl pc := D3.new
  have le1 : Le H (upd H b [.string f, .slice lp ll lc, .slice pp pl pc]) := Le.upd hb
  generalize upd H b [.string f, .slice lp ll lc, .slice pp pl pc] = H1 at *
  have hK := hK H1 le1
  unfold fewV at hK
  refine ⟨fun t Hx => ∃ i : Nat, t = (i : Nat) ∧ i ≤ ll ∧ Hx = H1 ∧ (ls.take i).all (fun x => decide (x.t.length ≤ 100)) = true, fun t _ => ((ll : Int) - t).toNat, ⟨0, rfl, Nat.zero_le _, rfl, rfl⟩, ?_⟩
  rintro t Hx ⟨i, rfl, gi, rfl, hi⟩
  refine ldL_i d.2.1 (bcd (fun hlt => ?_) fun hlt => ?_)
  · have hil : i < ls.length := by omega
    refine ldL_i d.2.1 (sn_nil (hL.le le1) (by omega) hlt fun q o hj e => ?_)
    simp only [Int.toNat_natCast] at e ⊢
    refine ldS_i (e 2 _ rfl) ?_
    rw [mkB_size]
    refine bcd (fun hg => ?_) fun hg => ?_
    · have hbad : (ls.all fun x => decide (x.t.length ≤ 100)) = false := by
        rw [List.all_eq_false]
        refine ⟨_, List.getElem_mem hil, ?_⟩
        rw [decide_eq_true_eq]; omega
      rw [hbad, Bool.false_and] at hK; exact hK
    · refine chk (by omega) ⟨⟨i + 1, by omega, by omega, by trivial, ?_⟩, by first | omega | (dsimp only; omega)⟩
      rw [List.take_succ_eq_append_getElem hil, List.all_append, hi]
      simp; omega
  · rw [List.take_of_length_le (by omega)] at hi
    rw [hi, Bool.true_and] at hK
    refine ldL_i d.2.1 (bcd (fun h => ldL_i d.2.2 ?_) fun h => ?_)
    · rw [decide_eq_true (by omega), Bool.true_and] at hK
      have e : decide (((pl : Nat) : Int) ≤ 200) = decide (ps.length ≤ 200) := decide_eq_decide.2 (by omega)
      rw [e]; exact hK
    · rw [decide_eq_false (by omega), Bool.false_and] at hK; exact hK
theorem centolaw15_line.c {n : Int} {s : ByteArray} {K : Int → Int → ByteArray → Bool → Hp → Prop} (hK : ∀ H', Le H H' → K 1 n s false H') : centolaw15_line.C n s H K := by
  apply centolaw15_line.of
  intro b hb
  refine ST_upd rfl (ST_upd rfl (ST_upd rfl (ST_upd rfl ?_)))
  exact ldI_i (by rw [rd_upd_self]; rfl) (ldI_i (by rw [rd_upd_self]; rfl) (ldS_i (by rw [rd_upd_self]; rfl) (ldB_i (by rw [rd_upd_self]; rfl) (hK _ (Le.upd hb)))))

def rightB (ls : List Ln) : Bool := rsB lidLt (ls.map lnId)
theorem uq_right (h : rightB ls = true) : Uq ls := by
  unfold rightB at h
  rw [rsB_pw lidLt_tr, List.pairwise_iff_getElem] at h
  intro i j hi hj e
  rw [lnN_at hi, lnN_at hj] at e
  have key : ∀ a b (ha : a < ls.length) (hb : b < ls.length), a < b → lidLt (lnId ls[a]) (lnId ls[b]) = true := fun a b ha hb hab => by
    have := h a b (by simpa using ha) (by simpa using hb) hab
    simpa using this
  rcases Nat.lt_trichotomy i j with h1 | h1 | h1
  · have := key i j hi hj h1; rw [e, lidLt_irr] at this; cases this
  · exact h1
  · have := key j i hj hi h1; rw [e, lidLt_irr] at this; cases this
theorem centolaw15_right.c {K : Bool → Hp → Prop} (hL : Sn 4 lnC H lp ll lc ls) (hll : ll ≤ 200) (hK : ∀ H', Le H H' → K (rightB ls) H') : centolaw15_right.C f lp ll lc pp pl pc H K := by
  apply centolaw15_right.of
  have el := hL.len
  refine newD3 fun b H1 _ d l1 => ?_
  have hL := hL.le l1
  have hl : (ls.map lnId).length = ls.length := List.length_map ..
  refine ⟨fun t Hx => ∃ i : Nat, t = (i : Nat) ∧ 1 ≤ i ∧ (i ≤ ll ∨ i = 1) ∧ Le H1 Hx ∧ rsB lidLt ((ls.map lnId).take i) = true, fun t _ => ((ll : Int) - t).toNat, ⟨1, rfl, Nat.le_refl _, .inr rfl, Le.refl _, rsB_one (by rw [List.length_take]; omega)⟩, ?_⟩
  rintro t Hx ⟨i, rfl, g1, g2, lx, hr⟩
  have d := d.le lx
  refine ldL_i d.2.1 (bcd (fun hlt => ldL_i d.2.1 ?_) fun hlt => ?_)
  · have hi : i < ls.length := by omega
    have hi1 : i - 1 < ls.length := by omega
    refine chk (by omega) (rsLn (hL.le lx) (k := i - 1) (by omega) hi1 (ldL_i d.2.1 (rsLn (hL.le lx) rfl hi ?_)))
    refine centoref12_Less.c (x := lnId ls[i - 1]) (y := lnId ls[i]) fun H2 l2 => bcn (fun hb => ?_) fun hb => ?_
    · have := hK H2 (l1.trans (lx.trans l2))
      unfold rightB at this
      rw [rsB_bad (xs := ls.map lnId) (i := i) (by rw [hl]; exact hi) (by omega) (by simpa using hb)] at this
      exact this
    · exact chk (by omega) ⟨⟨i + 1, by omega, by omega, .inl (by omega), lx.trans l2, rsB_next (by rw [hl]; exact hi) (by omega) hr (by simpa using hb)⟩, by first | omega | (dsimp only; omega)⟩
  · have := hK Hx (l1.trans lx)
    unfold rightB at this
    rw [List.take_of_length_le (by omega)] at hr
    rw [hr] at this; exact this
end
theorem uq_ex : Uq exF := uq_right (by decide)
theorem centolaw15_known.c {H : Hp} {K : Bool → Hp → Prop} (hT : Tz H) (hK : ∀ H', Le H H' → K true H') : centolaw15_known.C H K := by
  apply centolaw15_known.of
  refine centolaw15_line.c fun Ha lea => centolaw15_line.c fun Hb leb => ?_
  intro b1 hb1
  have q1 : Sn 4 lnC (upd Hb b1 ([.int .u32 1, .int .i64 0, .string (bs [120, 10]), .bool false, .int .u32 1, .int .i64 1, .string (bs [121]), .bool false])) (some ⟨b1, 0, none⟩) 2 2 exF := by
    refine ⟨rfl, by decide, .inr ⟨b1, 0, rfl, fun i hi j v hv => ?_⟩⟩
    rw [rd_upd_self]
    match i, hi, j, hv with
    | 0, _, 0, hv => simp [lnC, exF] at hv; subst hv; rfl
    | 0, _, 1, hv => simp [lnC, exF] at hv; subst hv; rfl
    | 0, _, 2, hv => simp [lnC, exF] at hv; subst hv; rfl
    | 0, _, 3, hv => simp [lnC, exF] at hv; subst hv; rfl
    | 0, _, j + 4, hv => simp [lnC, exF] at hv
    | 1, _, 0, hv => simp [lnC, exF] at hv; subst hv; rfl
    | 1, _, 1, hv => simp [lnC, exF] at hv; subst hv; rfl
    | 1, _, 2, hv => simp [lnC, exF] at hv; subst hv; rfl
    | 1, _, 3, hv => simp [lnC, exF] at hv; subst hv; rfl
    | 1, _, j + 4, hv => simp [lnC, exF] at hv
    | i + 2, hi, _, _ => simp [exF] at hi; omega
  have le1 := (lea.trans leb).trans (Le.upd (c := [.int .u32 1, .int .i64 0, .string (bs [120, 10]), .bool false, .int .u32 1, .int .i64 1, .string (bs [121]), .bool false]) hb1)
  generalize upd Hb b1 _ = H1 at *
  have nl : Sn 2 pairC H1 none 0 0 [] := ⟨rfl, Nat.le_refl _, .inl rfl⟩
  have hT1 := hT.le le1
  refine D3.mk fun g H3 hg dg le3 => ?_
  have e1 : allR exF [] (L (bs [97])) = (⟨[97], [], [⟨⟨1, 0⟩, ⟨1, 1⟩⟩], []⟩, 0) := by kernel_rfl
  have e2 : ordR (L (bs [97])) exF [] ⟨1, 1⟩ ⟨1, 0⟩ = (⟨[97], [], [⟨⟨1, 1⟩, ⟨1, 0⟩⟩], []⟩, 0) := by kernel_rfl
  have e3 : dropR (L (bs [97])) exF ⟨1, 1⟩ = (⟨[97], [], [], [⟨1, 1⟩]⟩, 0) := by kernel_rfl
  have e4 : dropR (L (bs [97])) exF ⟨0, 0⟩ = (hk0, 14) := by kernel_rfl
  obtain ⟨b', o', eb, hr⟩ := q1.at (i := 0) (by decide)
  cases eb
  have r10 := hr 1 (by decide) 0 _ rfl
  have r11 := hr 1 (by decide) 1 _ rfl
  have r00 := hr 0 (by decide) 0 _ rfl
  have r01 := hr 0 (by decide) 1 _ rfl
  refine dg.get (resolve_All.c uq_ex (q1.le le3) (nl.le le3) (hT1.le le3) (by decide) (by decide) ?_)
  rw [e1]
  refine fun H4 x4 l4 w4 nw => D4.mk fun a H5 ha da l5 => ?_
  have l15 := (le3.trans l4).trans l5
  have dg5 := (dg.le l4).le l5
  have w4 := w4.2.1.le l5
  have n4 := w4.len
  have K2 : ∀ (q : Nat) (g' : ByteArray) (ap : Option Addr) (al ac : Nat) (ep : Option Addr) (el ec : Nat) (kp : Option Addr) (kl kc : Nat) (q2 : Nat) (g2 : ByteArray) (ap2 : Option Addr) (al2 ac2 : Nat) (ep2 : Option Addr) (el2 ec2 : Nat) (kp2 : Option Addr) (kl2 kc2 : Nat) (Hz : Hp), Le H5 Hz → D4 Hz q g' ap al ac ep el ec kp kl kc → Sn 4 edC Hz ep el ec [⟨⟨1, 1⟩, ⟨1, 0⟩⟩] → D4 Hz q2 g2 ap2 al2 ac2 ep2 el2 ec2 kp2 kl2 kc2 → kl2 = 1 → centolaw15_known.k2 K g a q 0 0 q2 0 Hz := by
    intro q g' ap al ac ep el ec kp kl kc q2 g2 ap2 al2 ac2 ep2 el2 ec2 kp2 kl2 kc2 Hz lz dq hE dq2 hk2
    unfold centolaw15_known.k2
    have l1z := l15.trans lz
    have ne := hE.len
    refine (dg5.le lz).get (resolve_Drop.c (a := ⟨0, 0⟩) (q1.le l1z) (nl.le l1z) (hT1.le l1z) (by decide) (by decide) ?_)
    rw [e4]
    refine fun H6 x6 l6 w6 nw => D4.mk fun c H7 hc dc l7 => ?_
    have l67 := l6.trans l7
    have da7 := (da.le lz).le l67
    have dq7 := dq.le l67
    refine bcd (fun _ => ?_) fun h => absurd rfl h
    refine ldL_i da7.2.2.1 (bcd (fun _ => ?_) fun h => absurd (by rw [n4]; rfl) h)
    refine ldS_i da7.1 (bcd (fun _ => ?_) fun h => absurd rfl h)
    refine bcd (fun _ => ?_) fun h => absurd rfl h
    refine ldL_i dq7.2.2.1 (bcd (fun _ => ?_) fun h => absurd (by rw [ne]; rfl) h)
    obtain ⟨be, oe, rfl, he⟩ := hE.at (i := 0) (by decide)
    refine ldL_i dq7.2.2.1 (idxN 0 rfl (by rw [ne]; decide) (nil (ldI_i (l67.rd (he 0 (by decide) 1 _ rfl)) (bcd (fun _ => ?_) fun h => absurd rfl h))))
    refine bcd (fun _ => ?_) fun h => absurd rfl h
    refine ldL_i (dq2.le l67).2.2.2 (bcd (fun _ => ?_) fun h => absurd (by rw [hk2]; rfl) h)
    exact hK _ (le1.trans (l1z.trans l67))
  have K1 : ∀ (q : Nat) (g' : ByteArray) (ap : Option Addr) (al ac : Nat) (ep : Option Addr) (el ec : Nat) (kp : Option Addr) (kl kc : Nat) (Hz : Hp), Le H5 Hz → D4 Hz q g' ap al ac ep el ec kp kl kc → Sn 4 edC Hz ep el ec [⟨⟨1, 1⟩, ⟨1, 0⟩⟩] → centolaw15_known.k1 K g a 0 q 0 Hz := by
    intro q g' ap al ac ep el ec kp kl kc Hz lz dq hE
    unfold centolaw15_known.k1
    have l1z := l15.trans lz
    have dz := dg5.le lz
    refine ldS_i dz.1 (ldL_i dz.2.1 (ldL_i dz.2.2 (ldL_i dz.2.1 (idxN 1 rfl (by decide) (nil (ldI_i (l1z.rd r10) (ldI_i (l1z.rd r11) ⟨?_, ?_⟩)))))))
    · refine resolve_Drop.c (a := ⟨1, 1⟩) (q1.le l1z) (nl.le l1z) (hT1.le l1z) (by decide) (by decide) ?_
      rw [e3]
      refine fun H6 x6 l6 w6 nw => D4.mk fun c H7 hc dc l7 => ?_
      exact K2 q _ _ _ _ _ _ _ _ _ _ c _ _ _ _ _ _ _ _ _ _ H7 (lz.trans (l6.trans l7)) (dq.le (l6.trans l7)) (hE.le (l6.trans l7)) dc w6.2.2.len
    · refine newD4 fun c H6 hc dc l6 => ⟨l6.rd (l1z.rd r10), l6.rd (l1z.rd r11), (dz.le l6).2.1, (dz.le l6).1, (dz.le l6).2.1, (dz.le l6).2.2, ?_⟩
      have l1z := l1z.trans l6
      refine resolve_Drop.c (a := ⟨1, 1⟩) (q1.le l1z) (nl.le l1z) (hT1.le l1z) (by decide) (by decide) ?_
      rw [e3]
      refine fun H7 x7 l7 w7 nw => put4h (dc.le l7) fun H8 d8 m8 => ?_
      have l68 : Le Hz H8 := m8.le (l6.trans l7) fun x hx => by simp at hx; subst hx; exact hc
      exact K2 q _ _ _ _ _ _ _ _ _ _ c _ _ _ _ _ _ _ _ _ _ H8 (lz.trans l68) (dq.le l68) (hE.le l68) d8 w7.2.2.len
  refine ldS_i dg5.1 (ldL_i dg5.2.1 (ldL_i dg5.2.2 (ldL_i dg5.2.1 (idxN 1 rfl (by decide) (nil (ldI_i (l15.rd r10) (ldI_i (l15.rd r11) (ldL_i dg5.2.1 (idxN 0 rfl (by decide) (nil (ldI_i (l15.rd r00) (ldI_i (l15.rd r01) ⟨?_, ?_⟩))))))))))))
  · refine resolve_Order.c (a := ⟨1, 1⟩) (b := ⟨1, 0⟩) (q1.le l15) (nl.le l15) (hT1.le l15) (by decide) (by decide) ?_
    rw [e2]
    refine fun H6 x6 l6 w6 nw => D4.mk fun c H7 hc dc l7 => ?_
    exact K1 c _ _ _ _ _ _ _ _ _ _ H7 (l6.trans l7) dc (w6.2.1.le l7)
  · refine newD4 fun c H6 hc dc l6 => ?_
    have l1z := l15.trans l6
    have dz := dg5.le l6
    refine ⟨l1z.rd r00, l1z.rd r01, dz.2.1, l1z.rd r10, l1z.rd r11, dz.2.1, dz.1, dz.2.1, dz.2.2, ?_⟩
    refine resolve_Order.c (a := ⟨1, 1⟩) (b := ⟨1, 0⟩) (q1.le l1z) (nl.le l1z) (hT1.le l1z) (by decide) (by decide) ?_
    rw [e2]
    refine fun H7 x7 l7 w7 nw => put4h (dc.le l7) fun H8 d8 m8 => ?_
    have l68 : Le H5 H8 := m8.le (l6.trans l7) fun x hx => by simp at hx; subst hx; exact hc
    refine K1 c _ _ _ _ _ _ _ _ _ _ H8 l68 d8 (w7.2.1.mod m8 fun b o e hb => by simp at hb; subst hb; exact dc.there (nw _ (by simp) _ _ e))
end Go.Proofs.YtganockeifkecaaDoor
