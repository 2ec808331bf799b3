/- Contracts. -/
import Derived.Test.YteijgmmjgbgffaaDoorJ1
namespace Go.Proofs.YteijgmmjgbgffaaDoor
open Go.V
/-! ### Is it an object? -/
def risTo (ps : List (Int × Int)) (i : Nat) : Bool := (List.range i).all fun k => decide (k = 0) || lexL (ps.getD (k - 1) (0, 0)) (ps.getD k (0, 0))
def risB (ps : List (Int × Int)) : Bool := risTo ps ps.length
theorem risTo_succ (ps : List (Int × Int)) (i : Nat) : risTo ps (i + 1) = (risTo ps i && (decide (i = 0) || lexL (ps.getD (i - 1) (0, 0)) (ps.getD i (0, 0)))) := by
  unfold risTo; rw [List.range_succ, List.all_append]; simp
theorem risTo_mono {ps : List (Int × Int)} {i j : Nat} (h : risTo ps i = false) (hij : i ≤ j) : risTo ps j = false := by
  unfold risTo at h ⊢
  rw [List.all_eq_false] at h ⊢
  obtain ⟨k, hk, h⟩ := h
  exact ⟨k, List.mem_range.2 (by have := List.mem_range.1 hk; omega), h⟩
def trB (ps : List (Int × Int)) (n : Nat) : Bool := sameM (ofM ps n) (clo (ofM ps n) n) n
def chkO (ls : List BL) (ps : List (Int × Int)) : Int := if labE ls ≠ 0 then labE ls else if risB ps && okP ps ls.length && trB ps ls.length then 0 else 10
theorem labE_len {ls : List BL} (h : labE ls = 0) : ls.length ≤ 40 := by
  unfold labE at h
  split at h
  · cases h
  · omega
theorem chkO_len {ls : List BL} {ps : List (Int × Int)} (h : chkO ls ps = 0) : ls.length ≤ 40 ∧ okP ps ls.length = true := by
  unfold chkO at h
  split at h
  · exact absurd h (by assumption)
  · rename_i h1
    refine ⟨labE_len (Classical.not_not.1 h1), ?_⟩
    split at h
    · rename_i h2
      rw [Bool.and_eq_true, Bool.and_eq_true] at h2
      exact h2.1.2
    · cases h
section
variable {lp pp : Option Addr} {ll lc pl pc : Nat} {ls : List BL} {ps : List (Int × Int)} {H : Hp}
theorem getD_at {ps : List (Int × Int)} {i : Nat} (h : i < ps.length) : ps.getD i (0, 0) = ps[i] := by simp [List.getD, h]
theorem obj_Check.c {K : Int → Hp → Prop} (hL : Sl sv H lp ll lc ls) (hP : Sn 2 pairC H pp pl pc ps) (hT : Tz H) (hpl : pl ≤ 1000000000) (hK : ∀ H', Le H H' → K (chkO ls ps) H') : obj_Check.C lp ll lc pp pl pc H K := by
  apply obj_Check.of
  have el := hL.len
  have ep := hP.len
  intro b7 hb7
  have a0 : rd (upd H b7 [.slice lp ll lc, .slice pp pl pc]) b7 0 = some (.slice lp ll lc) := by rw [rd_upd_self]; rfl
  have a1 : rd (upd H b7 [.slice lp ll lc, .slice pp pl pc]) b7 1 = some (.slice pp pl pc) := by rw [rd_upd_self]; rfl
  have le1 : Le H (upd H b7 [.slice lp ll lc, .slice pp pl pc]) := Le.upd hb7
  generalize upd H b7 [.slice lp ll lc, .slice pp pl pc] = H1 at *
  refine ldL_i a0 (obj_labels.c (hL.le le1) ?_)
  refine bcd (fun h => ?_) (fun h => ?_)
  · have := hK H1 le1
    unfold chkO at this
    rw [if_pos h] at this
    exact this
  have h0 := Classical.not_not.1 h
  have hl40 := labE_len h0
  have no : (risB ps && okP ps ls.length && trB ps ls.length) = false → ∀ H', Le H H' → K 10 H' := fun e H' le => by
    have := hK H' le
    unfold chkO at this
    rw [if_neg h, if_neg (by rw [e]; simp)] at this
    exact this
  have yes : (risB ps && okP ps ls.length && trB ps ls.length) = true → ∀ H', Le H H' → K 0 H' := fun e H' le => by
    have := hK H' le
    unfold chkO at this
    rw [if_neg h, if_pos e] at this
    exact this
  refine ⟨fun t Hx => ∃ i : Nat, t = (i : Nat) ∧ 1 ≤ i ∧ (i = 1 ∨ i ≤ pl) ∧ Le H1 Hx ∧ risTo ps i = true, fun t _ => ((pl : Int) - t).toNat, ⟨1, rfl, by omega, .inl rfl, Le.refl _, rfl⟩, ?_⟩
  rintro t H2 ⟨i, rfl, gi, gi', le2, hr⟩
  have c1 := le2.rd a1
  have hP2 := hP.le (le1.trans le2)
  refine ldL_i c1 (bcd (fun hlt => ?_) (fun hlt => ?_))
  · refine ldL_i c1 (chk (by omega) ?_)
    refine snP hP2 (by omega) (by omega) fun _ => ldL_i c1 (snP hP2 (by omega) (by omega) fun _ => ?_)
    simp only [show ((i : Nat) : Int) - 1 = ((i - 1 : Nat) : Int) by omega, Int.toNat_natCast]
    refine obj_compare.c fun H3 le3 => ?_
    have hs := risTo_succ ps i
    rw [hr, Bool.true_and, decide_eq_false (by omega), Bool.false_or, getD_at (by omega), getD_at (by omega)] at hs
    refine bcd (fun hc => ?_) (fun hc => ?_)
    · refine no ?_ H3 ((le1.trans le2).trans le3)
      have hf : risB ps = false := risTo_mono (hs.trans (cmpP_lex.1 hc)) (by omega)
      rw [hf]; rfl
    · have ht : lexL ps[i - 1] ps[i] = true := by
        cases e : lexL ps[i - 1] ps[i] with
        | true => rfl
        | false => exact absurd (cmpP_lex.2 e) hc
      exact chk (by omega) ⟨⟨i + 1, by omega, by omega, by omega, le2.trans le3, hs.trans ht⟩, by first | omega | (dsimp only; omega)⟩
  · have hris : risB ps = true := by
      unfold risB
      cases e : risTo ps ps.length with
      | true => rfl
      | false => rw [risTo_mono e (by omega)] at hr; cases hr
    rw [hris, Bool.true_and] at no yes
    refine ldL_i (le2.rd a0) (ldL_i c1 ?_)
    rw [el]
    have le12 := le1.trans le2
    refine rel_Of.c hP2 (by omega) (hT.le le12) (fun h => by omega) (fun H3 _ _ hok le3 => ?_) (fun R O H3 _ _ hok hu hO le3 => ?_)
    · refine bcd (fun _ => no ?_ H3 (le12.trans le3)) fun h => absurd (by decide) h
      rw [Int.toNat_natCast] at hok
      rw [hok]; rfl
    · refine bcd (fun h => absurd rfl h) fun _ => ?_
      rw [Int.toNat_natCast] at hok hu
      rw [hok, Bool.true_and] at no yes
      refine rel_Rel_IsTransitive.c hu fun H4 le4 => ?_
      refine bcn (fun h => no h H4 ((le12.trans le3).trans le4)) fun h => yes h H4 ((le12.trans le3).trans le4)
theorem obj_Is.c {K : Bool → Hp → Prop} (hL : Sl sv H lp ll lc ls) (hP : Sn 2 pairC H pp pl pc ps) (hT : Tz H) (hpl : pl ≤ 1000000000) (hK : ∀ H', Le H H' → K (decide (chkO ls ps = 0)) H') : obj_Is.C lp ll lc pp pl pc H K := by
  apply obj_Is.of
  intro b7 hb7
  have a0 : rd (upd H b7 [.slice lp ll lc, .slice pp pl pc]) b7 0 = some (.slice lp ll lc) := by rw [rd_upd_self]; rfl
  have a1 : rd (upd H b7 [.slice lp ll lc, .slice pp pl pc]) b7 1 = some (.slice pp pl pc) := by rw [rd_upd_self]; rfl
  have le1 : Le H (upd H b7 [.slice lp ll lc, .slice pp pl pc]) := Le.upd hb7
  generalize upd H b7 [.slice lp ll lc, .slice pp pl pc] = H1 at *
  exact ldL_i a0 (ldL_i a1 (obj_Check.c (hL.le le1) (hP.le le1) (hT.le le1) hpl fun H2 le2 => hK H2 (le1.trans le2)))
theorem centoref4_Rising.c {K : Bool → Hp → Prop} (hP : Sn 2 pairC H pp pl pc ps) (hpl : pl ≤ 1000000000) (hK : K (risB ps) H) : centoref4_Rising.C pp pl pc H K := by
  apply centoref4_Rising.of
  have ep := hP.len
  refine ⟨fun t Hx => ∃ i : Nat, t = (i : Nat) ∧ 1 ≤ i ∧ (i = 1 ∨ i ≤ pl) ∧ Hx = H ∧ risTo ps i = true, fun t _ => ((pl : Int) - t).toNat, ⟨1, rfl, by omega, .inl rfl, rfl, rfl⟩, ?_⟩
  rintro t Hx ⟨i, rfl, gi, gi', rfl, hr⟩
  refine bcd (fun hlt => ?_) (fun hlt => ?_)
  · have hs := risTo_succ ps i
    rw [hr, Bool.true_and, decide_eq_false (by omega), Bool.false_or, getD_at (by omega), getD_at (by omega)] at hs
    have hno : lexL ps[i - 1] ps[i] = false → K false Hx := fun e => by
      rw [show risB ps = false from risTo_mono (hs.trans e) (by omega)] at hK; exact hK
    have hyes : lexL ps[i - 1] ps[i] = true → risTo ps (i + 1) = true := fun e => hs.trans e
    unfold lexL at hno hyes
    rw [decide_eq_false_iff_not] at hno
    rw [decide_eq_true_eq] at hyes
    refine snA hP (by omega) (by omega) fun _ => chk (by omega) ?_
    rw [show ((i : Nat) : Int) - 1 = ((i - 1 : Nat) : Int) by omega]
    refine snA hP (by omega) (by omega) fun _ => ?_
    simp only [Int.toNat_natCast]
    refine bcd (fun h => hno (by omega)) fun h => ?_
    refine snA hP (by omega) (by omega) fun _ => chk (by omega) ?_
    refine snA hP (by omega) (by omega) fun _ => ?_
    simp only [Int.toNat_natCast]
    refine bcd (fun h => ?_) fun h => ?_
    · refine snB hP (by omega) (by omega) fun _ => chk (by omega) ?_
      refine snB hP (by omega) (by omega) fun _ => ?_
      simp only [Int.toNat_natCast]
      refine bcd (fun h' => hno (by omega)) fun h' => ?_
      exact chk (by omega) ⟨⟨i + 1, by omega, by omega, by omega, by trivial, hyes (by omega)⟩, by first | omega | (dsimp only; omega)⟩
    · exact chk (by omega) ⟨⟨i + 1, by omega, by omega, by omega, by trivial, hyes (by omega)⟩, by first | omega | (dsimp only; omega)⟩
  · have hris : risB ps = true := by
      unfold risB
      cases e : risTo ps ps.length with
      | true => rfl
      | false => rw [risTo_mono e (by omega)] at hr; cases hr
    rw [hris] at hK; exact hK
theorem centoref2_Rel_IsTransitive.c {m n : Nat} {M : Nat → Nat → Bool} {O : List Nat} {K : Bool → Hp → Prop} (hu : RFO H m O n M) (hK : ∀ H', Le H H' → K (sameM M (clo M n) n) H') : centoref2_Rel_IsTransitive.C (some ⟨m, 0, none⟩) H K := by
  apply centoref2_Rel_IsTransitive.of
  refine centoref2_Rel_Closure.c hu fun m' O' H1 hv _ le1 => ?_
  refine centoref2_Rel_Same.c (hu.le le1) hv ?_
  rw [decide_eq_true rfl, Bool.true_and]
  exact hK H1 le1
theorem centoref4_Check.c {K : Int → Hp → Prop} (hL : Sl sv H lp ll lc ls) (hP : Sn 2 pairC H pp pl pc ps) (hpl : pl ≤ 1000000000) (hK : ∀ H', Le H H' → K (chkO ls ps) H') : centoref4_Check.C lp ll lc pp pl pc H K := by
  apply centoref4_Check.of
  have el := hL.len
  have ep := hP.len
  intro b7 hb7
  have a0 : rd (upd H b7 [.slice lp ll lc, .slice pp pl pc]) b7 0 = some (.slice lp ll lc) := by rw [rd_upd_self]; rfl
  have a1 : rd (upd H b7 [.slice lp ll lc, .slice pp pl pc]) b7 1 = some (.slice pp pl pc) := by rw [rd_upd_self]; rfl
  have le1 : Le H (upd H b7 [.slice lp ll lc, .slice pp pl pc]) := Le.upd hb7
  generalize upd H b7 [.slice lp ll lc, .slice pp pl pc] = H1 at *
  refine ldL_i a0 (bcd (fun h => ?_) fun h40 => ?_)
  · have := hK H1 le1
    have e : labE ls = 11 := by unfold labE; rw [if_pos (by omega)]
    unfold chkO at this
    rw [e] at this
    exact this
  refine ⟨fun t Hx => ∃ i : Nat, t = (i : Nat) ∧ i ≤ ll ∧ Hx = H1 ∧ labOk (ls.take i) = true, fun t _ => ((ll : Int) - t).toNat, ⟨0, rfl, Nat.zero_le _, rfl, rfl⟩, ?_⟩
  rintro t Hx ⟨i, rfl, gi, rfl, hi⟩
  refine ldL_i a0 (bcd (fun hlt => ?_) fun hlt => ?_)
  · have hil : i < ls.length := by omega
    refine ldL_i a0 (slS (hL.le le1) (fun _ => rfl) (by omega) hlt fun _ => ?_)
    simp only [Int.toNat_natCast]
    refine bcd (fun hg => ?_) fun hg => ?_
    · have := hK Hx le1
      have hbad : labOk ls = false := by
        unfold labOk
        rw [List.all_eq_false]
        refine ⟨_, List.getElem_mem hil, ?_⟩
        rw [decide_eq_true_eq]
        have : (mkB ls[i]).size = ls[i].length := rfl
        omega
      have e : labE ls = 10 := by unfold labE; rw [if_neg (by omega), hbad]; rfl
      unfold chkO at this
      rw [e] at this
      exact this
    · refine chk (by omega) ⟨⟨i + 1, by omega, by omega, by trivial, ?_⟩, by first | omega | (dsimp only; omega)⟩
      rw [List.take_succ_eq_append_getElem hil]
      unfold labOk at hi ⊢
      rw [List.all_append, hi]
      have : (mkB ls[i]).size = ls[i].length := rfl
      simp; omega
  have hlab : labOk ls = true := by rw [List.take_of_length_le (by omega)] at hi; exact hi
  have h0 : labE ls = 0 := by unfold labE; rw [if_neg (by omega), if_pos hlab]
  have no : (risB ps && okP ps ls.length && trB ps ls.length) = false → ∀ H', Le H H' → K 10 H' := fun e H' le => by
    have := hK H' le
    unfold chkO at this
    rw [if_neg (by rw [h0]; simp), if_neg (by rw [e]; simp)] at this
    exact this
  have yes : (risB ps && okP ps ls.length && trB ps ls.length) = true → ∀ H', Le H H' → K 0 H' := fun e H' le => by
    have := hK H' le
    unfold chkO at this
    rw [if_neg (by rw [h0]; simp), if_pos e] at this
    exact this
  refine ldL_i a0 (ldL_i a1 ?_)
  rw [el]
  refine centoref2_Of.c (hP.le le1) (by omega) (fun h => by omega) (fun H3 _ _ hok le3 => ?_) (fun R O H3 _ _ hok hu hO le3 => ?_)
  · refine bcd (fun _ => no ?_ H3 (le1.trans le3)) fun h => absurd (by decide) h
    rw [Int.toNat_natCast] at hok
    rw [hok]; cases risB ps <;> rfl
  · refine bcd (fun h => absurd rfl h) fun _ => ?_
    rw [Int.toNat_natCast] at hok hu
    refine ldL_i (le3.rd a1) (centoref4_Rising.c (hP.le (le1.trans le3)) hpl ?_)
    refine bcn (fun h => no ?_ H3 (le1.trans le3)) fun h => ?_
    · rw [h]; rfl
    · rw [h, hok, Bool.true_and, Bool.true_and] at no yes
      refine centoref2_Rel_IsTransitive.c hu fun H4 le4 => ?_
      refine bcn (fun h => no h H4 ((le1.trans le3).trans le4)) fun h => yes h H4 ((le1.trans le3).trans le4)
theorem centoref4_Is.c {K : Bool → Hp → Prop} (hL : Sl sv H lp ll lc ls) (hP : Sn 2 pairC H pp pl pc ps) (hpl : pl ≤ 1000000000) (hK : ∀ H', Le H H' → K (decide (chkO ls ps = 0)) H') : centoref4_Is.C lp ll lc pp pl pc H K := by
  apply centoref4_Is.of
  intro b7 hb7
  have a0 : rd (upd H b7 [.slice lp ll lc, .slice pp pl pc]) b7 0 = some (.slice lp ll lc) := by rw [rd_upd_self]; rfl
  have a1 : rd (upd H b7 [.slice lp ll lc, .slice pp pl pc]) b7 1 = some (.slice pp pl pc) := by rw [rd_upd_self]; rfl
  have le1 : Le H (upd H b7 [.slice lp ll lc, .slice pp pl pc]) := Le.upd hb7
  generalize upd H b7 [.slice lp ll lc, .slice pp pl pc] = H1 at *
  exact ldL_i a0 (ldL_i a1 (centoref4_Check.c (hL.le le1) (hP.le le1) hpl fun H2 le2 => hK H2 (le1.trans le2)))
end
end Go.Proofs.YteijgmmjgbgffaaDoor
