/- Contracts. -/
import Derived.Test.YteijgmmjgbgffaaDoorJ2
namespace Go.Proofs.YteijgmmjgbgffaaDoor
open Go.V
/-! ### Objects: their relations, copies, makes -/
def nO (ls : List BL) (ps : List (Int × Int)) : Nat := if chkO ls ps = 0 then ls.length else 0
theorem ofM_zero (ps : List (Int × Int)) : ofM ps 0 = fun _ _ => false := by funext x y; simp [ofM]
/-- A block of two slices. -/
def D2 (H : Hp) (b : Nat) (lp : Option Addr) (ll lc : Nat) (pp : Option Addr) (pl pc : Nat) : Prop := rd H b 0 = some (.slice lp ll lc) ∧ rd H b 1 = some (.slice pp pl pc)
theorem D2.new {H : Hp} {b : Nat} {lp pp : Option Addr} {ll lc pl pc : Nat} : D2 (upd H b [.slice lp ll lc, .slice pp pl pc]) b lp ll lc pp pl pc := ⟨by rw [rd_upd_self]; rfl, by rw [rd_upd_self]; rfl⟩
theorem D2.le {H H' : Hp} {b : Nat} {lp pp : Option Addr} {ll lc pl pc : Nat} (h : D2 H b lp ll lc pp pl pc) (hl : Le H H') : D2 H' b lp ll lc pp pl pc := ⟨hl.rd h.1, hl.rd h.2⟩
theorem D2.mod {H H' : Hp} {b : Nat} {O : List Nat} {lp pp : Option Addr} {ll lc pl pc : Nat} (h : D2 H b lp ll lc pp pl pc) (hl : Mod O H H') (hb : b ∉ O) : D2 H' b lp ll lc pp pl pc := ⟨hl.rd hb h.1, hl.rd hb h.2⟩
theorem D2.there {H : Hp} {b : Nat} {lp pp : Option Addr} {ll lc pl pc : Nat} (h : D2 H b lp ll lc pp pl pc) : H b ≠ none := ne_none_of_rd h.1
theorem D2.get {H : Hp} {b : Nat} {lp pp : Option Addr} {ll lc pl pc : Nat} {K : Option Addr → Nat → Nat → Option Addr → Nat → Nat → Prop} (h : D2 H b lp ll lc pp pl pc) (hK : K lp ll lc pp pl pc) :
    ldL (rd H b 0) fun a b' c => ldL (rd H b 1) fun d e f => K a b' c d e f := ldL_i h.1 (ldL_i h.2 hK)
theorem D2.put {H : Hp} {b : Nat} {lp pp lp' pp' : Option Addr} {ll lc pl pc ll' lc' pl' pc' : Nat} {K : Hp → Prop} (h : D2 H b lp ll lc pp pl pc) (hK : ∀ H', D2 H' b lp' ll' lc' pp' pl' pc' → Mod [b] H H' → K H') :
    ST H b 0 (.slice lp' ll' lc') fun H1 => ST H1 b 1 (.slice pp' pl' pc') K := by
  have r1 : rd (wr H b 0 (.slice lp' ll' lc')) b 1 = some (.slice pp pl pc) := by rw [rd_wr_off (by decide)]; exact h.2
  refine st h.1 (st r1 (hK _ ⟨?_, rd_wr_self r1⟩ ((Mod.refl.wr (.inl (by simp))).wr (.inl (by simp)))))
  rw [rd_wr_off (by decide)]; exact rd_wr_self h.1
/-- What Values goes through. -/
theorem slices_Values_api_Pair_api_Pair_1.c {cp : Nat} {p : Option Addr} {l c : Nat} {xs : List (Int × Int)} {H : Hp} {G : Int → Int → Hp → (Al → Hp → Prop) → Prop} {K : Al → Hp → Prop} (J : Nat → Hp → Prop)
    (hr : rd H cp 0 = some (.slice p l c)) (hl : l ≤ 1000000000) (hx : ∀ i Hx, J i Hx → Sn 2 pairC Hx p l c xs) (h0 : J 0 H) (hle : ∀ i Hx Hy, J i Hx → Le Hx Hy → J i Hy)
    (step : ∀ i (hi : i < xs.length) Hx (Kb : Al → Hp → Prop), J i Hx → (∀ H', J (i + 1) H' → Kb .on H') → G xs[i].1 xs[i].2 Hx Kb) (hK : ∀ Hx, J l Hx → K .on Hx) : slices_Values_api_Pair_api_Pair_1.I cp H G K := by
  apply slices_Values_api_Pair_api_Pair_1.of
  have hlen := (hx 0 H h0).len
  refine ldL_i hr ?_
  refine ⟨fun t Hx => ∃ i : Nat, t = (i : Nat) ∧ i ≤ l ∧ J i Hx, fun t _ => ((l : Int) - t).toNat, ⟨0, rfl, Nat.zero_le _, h0⟩, ?_⟩
  rintro t Hx ⟨i, rfl, gi, hJ⟩
  refine bcd (fun hlt => ?_) (fun hlt => ?_)
  · refine snP (hx i Hx hJ) (by omega) hlt fun hi => ?_
    simp only [Int.toNat_natCast]
    intro b hb
    refine ST_upd rfl (ST_upd rfl ?_)
    have r0 : rd (upd Hx b ((([.int .i64 0, .int .i64 0] : List Value).set 0 (.int .i64 xs[i].1)).set 1 (.int .i64 xs[i].2))) b 0 = some (.int .i64 xs[i].1) := by rw [rd_upd_self]; rfl
    have r1 : rd (upd Hx b ((([.int .i64 0, .int .i64 0] : List Value).set 0 (.int .i64 xs[i].1)).set 1 (.int .i64 xs[i].2))) b 1 = some (.int .i64 xs[i].2) := by rw [rd_upd_self]; rfl
    refine ldI_i r0 (ldI_i r1 (step i (by omega) _ _ (hle i _ _ hJ (Le.upd hb)) fun H' hJ' => ?_))
    exact alOn (chk (by omega) ⟨⟨i + 1, by omega, by omega, hJ'⟩, by first | omega | (dsimp only; omega)⟩)
  · have : i = l := by omega
    subst this
    exact hK Hx hJ
section
variable {lp pp : Option Addr} {ll lc pl pc : Nat} {ls : List BL} {ps : List (Int × Int)} {H : Hp}
theorem ofM_ok {ps : List (Int × Int)} {n : Nat} : ofM (ps.take 0) n = fun _ _ => false := by funext x y; simp [ofM]
theorem obj_Rel.c {K : Option Addr → Hp → Prop} (hL : Sl sv H lp ll lc ls) (hP : Sn 2 pairC H pp pl pc ps) (hT : Tz H) (hpl : pl ≤ 1000000000)
    (hK : ∀ R O H', RLO H' R O (nO ls ps) (ofM ps (nO ls ps)) → (∀ b ∈ O, H b = none) → Le H H' → K (some ⟨R, 0, none⟩) H') : obj_Rel.C lp ll lc pp pl pc H K := by
  apply obj_Rel.of
  have el := hL.len
  have ep := hP.len
  intro b7 hb7
  have d7 : D2 (upd H b7 [.slice lp ll lc, .slice pp pl pc]) b7 lp ll lc pp pl pc := D2.new
  have le1 : Le H (upd H b7 [.slice lp ll lc, .slice pp pl pc]) := Le.upd hb7
  generalize upd H b7 [.slice lp ll lc, .slice pp pl pc] = H1 at *
  refine d7.get (obj_Is.c (hL.le le1) (hP.le le1) (hT.le le1) hpl fun H2 le2 => ?_)
  have le12 := le1.trans le2
  unfold nO at hK
  refine bcn (fun h => ?_) (fun h => ?_)
  · have h := of_decide_eq_false h
    rw [if_neg h] at hK
    refine rel_New.c (hT.le le12) fun R O H3 hu hO le3 => hK R O H3 ?_ (fun b hb => none_of_le le12 (hO b hb)) (le12.trans le3)
    rw [ofM_zero]; exact hu
  · have h := of_decide_eq_true h
    rw [if_pos h] at hK
    have ho := chkO_len h
    refine ldL_i (le2.rd d7.1) (rel_New.c (hT.le le12) fun R O H3 hu hO le3 => ?_)
    rw [el, show (min (max ((ls.length : Nat) : Int) 0) 200).toNat = ls.length by omega] at hu
    have le13 := le12.trans le3
    intro b33 hb33
    refine ST_upd rfl ?_
    have r33 : rd (upd H3 b33 ((([.pointer none] : List Value)).set 0 (.pointer (some ⟨R, 0, none⟩)))) b33 0 = some (.pointer (some ⟨R, 0, none⟩)) := by rw [rd_upd_self]; rfl
    have le4 : Le H3 (upd H3 b33 ((([.pointer none] : List Value)).set 0 (.pointer (some ⟨R, 0, none⟩)))) := Le.upd hb33
    generalize upd H3 b33 ((([.pointer none] : List Value)).set 0 (.pointer (some ⟨R, 0, none⟩))) = H4 at *
    have b33O : b33 ∉ O := fun hx => hu.there _ hx hb33
    have le14 := le13.trans le4
    refine ldL_i (((le2.trans le3).trans le4).rd d7.2) ?_
    apply slices_Values_api_Pair_api_Pair.of
    intro cp hcp
    have le5 : Le H4 (upd H4 cp [.slice pp pl pc]) := Le.upd hcp
    have rc : rd (upd H4 cp [.slice pp pl pc]) cp 0 = some (.slice pp pl pc) := by rw [rd_upd_self]; rfl
    have hu5 := (hu.le le4).le le5
    have r33' := le5.rd r33
    generalize upd H4 cp [.slice pp pl pc] = H5 at *
    have le15 := le14.trans le5
    show slices_Values_api_Pair_api_Pair_1.I cp H5 _ _
    have hOH : ∀ b ∈ O, H b = none := fun b hb => none_of_le le12 (hO b hb)
    refine slices_Values_api_Pair_api_Pair_1.c (fun i Hx => Le H Hx ∧ rd Hx b33 0 = some (.pointer (some ⟨R, 0, none⟩)) ∧ RLO Hx R O ls.length (ofM (ps.take i) ls.length)) rc hpl (fun i Hx hJ => hP.le hJ.1) ⟨le15, r33', by rw [ofM_ok]; exact hu5⟩ (fun i Hx Hy hJ hl => ⟨hJ.1.trans hl, hl.rd hJ.2.1, hJ.2.2.le hl⟩) ?_ ?_
    · rintro i hi Hx Kb ⟨j1, j2, j3⟩ hon
      intro b48 hb48
      refine ST_upd rfl (ST_upd rfl ?_)
      have r0 : rd (upd Hx b48 ((([.int .i64 0, .int .i64 0] : List Value).set 0 (.int .i64 ps[i].1)).set 1 (.int .i64 ps[i].2))) b48 0 = some (.int .i64 ps[i].1) := by rw [rd_upd_self]; rfl
      have r1 : rd (upd Hx b48 ((([.int .i64 0, .int .i64 0] : List Value).set 0 (.int .i64 ps[i].1)).set 1 (.int .i64 ps[i].2))) b48 1 = some (.int .i64 ps[i].2) := by rw [rd_upd_self]; rfl
      have le6 : Le Hx (upd Hx b48 ((([.int .i64 0, .int .i64 0] : List Value).set 0 (.int .i64 ps[i].1)).set 1 (.int .i64 ps[i].2))) := Le.upd hb48
      refine ldP_i (le6.rd j2) (ldI_i r0 (ldI_i r1 (rel_Rel_Add.c (j3.le le6) fun H' hu' hm' => hon H' ⟨hm'.le (j1.trans le6) hOH, hm'.rd b33O (le6.rd j2), ?_⟩)))
      rw [List.take_succ_eq_append_getElem hi, ofM_snoc]
      exact hu'
    · rintro Hx ⟨j1, j2, j3⟩
      refine ldP_i j2 (hK R O Hx ?_ hOH j1)
      rw [List.take_of_length_le (by omega)] at j3
      exact j3
theorem centoref4_Rel.c {K : Option Addr → Hp → Prop} (hL : Sl sv H lp ll lc ls) (hP : Sn 2 pairC H pp pl pc ps) (hpl : pl ≤ 1000000000)
    (hK : ∀ m O H', RFO H' m O (nO ls ps) (ofM ps (nO ls ps)) → (∀ b ∈ O, H b = none) → Le H H' → K (some ⟨m, 0, none⟩) H') : centoref4_Rel.C lp ll lc pp pl pc H K := by
  apply centoref4_Rel.of
  have el := hL.len
  have ep := hP.len
  intro b7 hb7
  have d7 : D2 (upd H b7 [.slice lp ll lc, .slice pp pl pc]) b7 lp ll lc pp pl pc := D2.new
  have le1 : Le H (upd H b7 [.slice lp ll lc, .slice pp pl pc]) := Le.upd hb7
  generalize upd H b7 [.slice lp ll lc, .slice pp pl pc] = H1 at *
  refine d7.get (centoref4_Is.c (hL.le le1) (hP.le le1) hpl fun H2 le2 => ?_)
  have le12 := le1.trans le2
  unfold nO at hK
  refine bcn (fun h => ?_) (fun h => ?_)
  · have h := of_decide_eq_false h
    rw [if_neg h] at hK
    refine centoref2_New.c fun R O H3 hu hO le3 => hK R O H3 ?_ (fun b hb => none_of_le le12 (hO b hb)) (le12.trans le3)
    rw [ofM_zero]; exact hu
  · have h := of_decide_eq_true h
    rw [if_pos h] at hK
    have ho := chkO_len h
    refine ldL_i (le2.rd d7.1) (ldL_i (le2.rd d7.2) (centoref2_Some.c (hP.le le12) (by omega) fun R O H3 hu hO le3 => ?_))
    rw [el, show (max 0 (min ((ls.length : Nat) : Int) 200)).toNat = ls.length by omega] at hu
    exact hK R O H3 hu (fun b hb => none_of_le le12 (hO b hb)) (le12.trans le3)
def makE (ls : List BL) (n : Nat) : Int := if labE ls ≠ 0 then labE ls else if n ≠ ls.length then 10 else 0
theorem rel_Rel_Len.n {r : Option Addr} {n : Nat} {M : Nat → Nat → Bool} {K : Int → Hp → Prop} (hu : RN H r n M) (hK : K (n : Nat) H) : rel_Rel_Len.C r H K := by
  rcases hu with ⟨rfl, rfl, _, _⟩ | ⟨R, O, rfl, hu⟩
  · apply rel_Rel_Len.of
    exact bcd (fun _ => hK) fun h => absurd rfl h
  · exact rel_Rel_Len.c hu hK
theorem RN.up {r : Option Addr} {n : Nat} {M : Nat → Nat → Bool} {H' : Hp} (hu : RN H r n M) (hl : Le H H') : RN H' r n M := by
  rcases hu with ⟨h1, h2, h3, h4⟩ | ⟨R, O, rfl, hu⟩
  · exact .inl ⟨h1, h2, h3, h4.le hl⟩
  · exact .inr ⟨R, O, rfl, hu.le hl⟩
theorem obj_Make.c {r : Option Addr} {n : Nat} {M : Nat → Nat → Bool} {K : Option Addr → Nat → Nat → Option Addr → Nat → Nat → Int → Hp → Prop} (hL : Sl sv H lp ll lc ls) (hu : RN H r n M) (hll : ll ≤ 1000000000)
    (hbad : makE ls n ≠ 0 → ∀ H', Le H H' → K none 0 0 none 0 0 (makE ls n) H')
    (hok : makE ls n = 0 → ∀ lp' lc' pp' pl' pc' H', Sl sv H' lp' ll lc' ls → Sn 2 pairC H' pp' pl' pc' (prs (clo M n) n) → Le H H' → K lp' ll lc' pp' pl' pc' 0 H') : obj_Make.C lp ll lc r H K := by
  apply obj_Make.of
  have el := hL.len
  intro b5 hb5
  have d5 : D2 (upd H b5 [.slice none 0 0, .slice none 0 0]) b5 none 0 0 none 0 0 := D2.new
  have le1 : Le H (upd H b5 [.slice none 0 0, .slice none 0 0]) := Le.upd hb5
  generalize upd H b5 [.slice none 0 0, .slice none 0 0] = H1 at *
  refine obj_labels.c (hL.le le1) (bcd (fun h => ?_) fun h => ?_)
  · have e : makE ls n = labE ls := by unfold makE; rw [if_pos h]
    rw [e] at hbad
    exact d5.put fun H2 d2 m2 => d2.get (hbad h H2 (m2.le le1 (by simpa using hb5)))
  refine rel_Rel_Len.n (hu.up le1) (bcd (fun h' => ?_) fun h' => ?_)
  · have e : makE ls n = 10 := by unfold makE; rw [if_neg h, if_pos (by omega)]
    rw [e] at hbad
    exact d5.put fun H2 d2 m2 => d2.get (hbad (by decide) H2 (m2.le le1 (by simpa using hb5)))
  have e0 : makE ls n = 0 := by unfold makE; rw [if_neg h, if_neg (by omega)]
  have hok := hok e0
  refine slices_Clone_string_string.s (hL.le le1) hll fun lp' lc' H2 hB _ le2 => ?_
  have le12 := le1.trans le2
  intro b52 hb52
  have d52 : D2 (upd H2 b52 [.slice none 0 0, .slice none 0 0]) b52 none 0 0 none 0 0 := D2.new
  have le3 : Le H2 (upd H2 b52 [.slice none 0 0, .slice none 0 0]) := Le.upd hb52
  have hb52H := none_of_le le12 hb52
  have n52 : b52 ≠ b5 := fun e => (d5.le le2).there (e ▸ hb52)
  generalize upd H2 b52 [.slice none 0 0, .slice none 0 0] = H3 at *
  refine d52.put fun H4 d4 m4 => ?_
  have le4 : Le H H4 := m4.le (le12.trans le3) (by simpa using hb52H)
  have d54 : D2 H4 b5 none 0 0 none 0 0 := ((d5.le le2).le le3).mod m4 (by simpa using Ne.symm n52)
  have hB4 := (hB.le le3).mod m4 (fun b o e hb => by simp at hb; subst hb; exact hB.there e hb52)
  have no5 : ∀ b o, lp' = some ⟨b, o, none⟩ → b ∉ [b5] := fun b o e hb => by simp at hb; subst hb; exact d5.there (hB.fr b o e)
  have no52 : ∀ b o, lp' = some ⟨b, o, none⟩ → b ∉ [b52] := fun b o e hb => by simp at hb; subst hb; exact hB.there e hb52
  have hu4 := hu.up le4
  rcases hu4 with ⟨rfl, rfl, rfl, _⟩ | ⟨R, O, rfl, hu4⟩
  · refine bcd (fun h => absurd rfl h) fun _ => ?_
    refine d4.get (d54.put fun H5 d5' m5 => d5'.get (hok lp' lc' none 0 0 H5 (hB4.mod m5 no5).sl ?_ (m5.le le4 (by simpa using hb5))))
    exact ⟨rfl, Nat.le_refl _, .inl rfl⟩
  · refine bcd (fun _ => ?_) fun h => absurd (by simp) h
    refine rel_Rel_Closure.c hu4 fun R' O' H5 u5 _ le5 => rel_Rel_Pairs.c u5 fun pp' pl' pc' H6 hp6 hn6 le6 => ?_
    have le46 := le5.trans le6
    have d46 := d4.le le46
    have d56 := d54.le le46
    have hB6 := hB4.le le46
    have hH4 : H4 b5 ≠ none := d54.there
    refine st d46.2 ?_
    have m7 : Mod [b52] H6 (wr H6 b52 1 (.slice pp' pl' pc')) := Mod.refl.wr (.inl (by simp))
    have hnp : ∀ b o, pp' = some ⟨b, o, none⟩ → H4 b = none := fun b o e => none_of_le le5 (hn6 b o e)
    have hp7 : Sn 2 pairC (wr H6 b52 1 (.slice pp' pl' pc')) pp' pl' pc' (prs (clo M n) n) := by
      refine ⟨hp6.1, hp6.2.1, hp6.2.2.imp id fun ⟨b, o, e, h⟩ => ⟨b, o, e, fun i hi j v hv => m7.rd (fun hb => ?_) (h i hi j v hv)⟩⟩
      simp at hb; subst hb
      exact d4.there (hnp _ _ e)
    have d47 : D2 (wr H6 b52 1 (.slice pp' pl' pc')) b52 lp' ll lc' pp' pl' pc' := ⟨by rw [rd_wr_off (by decide)]; exact d46.1, rd_wr_self d46.2⟩
    have d57 := d56.mod m7 (by simpa using Ne.symm n52)
    have hB7 := hB6.mod m7 no52
    have le7 : Le H (wr H6 b52 1 (.slice pp' pl' pc')) := m7.le (le4.trans le46) (by simpa using hb52H)
    refine d47.get (d57.put fun H8 d8 m8 => d8.get (hok lp' lc' pp' pl' pc' H8 (hB7.mod m8 no5).sl ?_ (m8.le le7 (by simpa using hb5))))
    refine ⟨hp7.1, hp7.2.1, hp7.2.2.imp id fun ⟨b, o, e, h⟩ => ⟨b, o, e, fun i hi j v hv => m8.rd (fun hb => ?_) (h i hi j v hv)⟩⟩
    simp at hb; subst hb
    exact hH4 (hnp _ _ e)
theorem obj_Same.c {lp2 pp2 : Option Addr} {ll2 lc2 pl2 pc2 : Nat} {ls2 : List BL} {ps2 : List (Int × Int)} {K : Bool → Hp → Prop} (hL : Sl sv H lp ll lc ls) (hP : Sn 2 pairC H pp pl pc ps) (hL2 : Sl sv H lp2 ll2 lc2 ls2) (hP2 : Sn 2 pairC H pp2 pl2 pc2 ps2) (hll : ll ≤ 1000000000) (hpl : pl ≤ 1000000000)
    (hK : ∀ H', Le H H' → K (decide (ls = ls2) && decide (ps = ps2)) H') : obj_Same.C lp ll lc pp pl pc lp2 ll2 lc2 pp2 pl2 pc2 H K := by
  apply obj_Same.of
  intro b7 hb7
  have d7 : D2 (upd H b7 [.slice lp ll lc, .slice pp pl pc]) b7 lp ll lc pp pl pc := D2.new
  have le1 : Le H (upd H b7 [.slice lp ll lc, .slice pp pl pc]) := Le.upd hb7
  generalize upd H b7 [.slice lp ll lc, .slice pp pl pc] = H1 at *
  intro b8 hb8
  have d8 : D2 (upd H1 b8 [.slice lp2 ll2 lc2, .slice pp2 pl2 pc2]) b8 lp2 ll2 lc2 pp2 pl2 pc2 := D2.new
  have le2 : Le H1 (upd H1 b8 [.slice lp2 ll2 lc2, .slice pp2 pl2 pc2]) := Le.upd hb8
  generalize upd H1 b8 [.slice lp2 ll2 lc2, .slice pp2 pl2 pc2] = H2 at *
  have le12 := le1.trans le2
  have d72 := d7.le le2
  have hK := hK H2 le12
  refine ldL_i d72.1 (ldL_i d8.1 (slices_Equal_string_string.c (hL.le le12) (hL2.le le12) hll ?_))
  refine bc_i (fun h => ?_) fun h => ?_
  · rw [h, Bool.true_and] at hK
    exact ldL_i d72.2 (ldL_i d8.2 (slices_Equal_api_Pair_api_Pair.c (hP.le le12) (hP2.le le12) hpl hK))
  · rw [h, Bool.false_and] at hK; exact hK
theorem obj_Copy.c {K : Option Addr → Nat → Nat → Option Addr → Nat → Nat → Hp → Prop} (hL : Sl sv H lp ll lc ls) (hP : Sn 2 pairC H pp pl pc ps) (hll : ll ≤ 1000000000) (hpl : pl ≤ 1000000000)
    (hK : ∀ lp' lc' pp' pc' H', Buf 1 H H' lp' ll lc' (ls.map sv) → Buf 2 H H' pp' pl pc' (ps.flatMap pairC) → (∀ b ∈ blkL lp', b ∉ blkL pp') → Le H H' → K lp' ll lc' pp' pl pc' H') : obj_Copy.C lp ll lc pp pl pc H K := by
  apply obj_Copy.of
  intro b7 hb7
  have d7 : D2 (upd H b7 [.slice lp ll lc, .slice pp pl pc]) b7 lp ll lc pp pl pc := D2.new
  have le1 : Le H (upd H b7 [.slice lp ll lc, .slice pp pl pc]) := Le.upd hb7
  generalize upd H b7 [.slice lp ll lc, .slice pp pl pc] = H1 at *
  intro b9 hb9
  have d9 : D2 (upd H1 b9 [.slice none 0 0, .slice none 0 0]) b9 none 0 0 none 0 0 := D2.new
  have le2 : Le H1 (upd H1 b9 [.slice none 0 0, .slice none 0 0]) := Le.upd hb9
  have hb9H := none_of_le le1 hb9
  generalize upd H1 b9 [.slice none 0 0, .slice none 0 0] = H2 at *
  have le12 := le1.trans le2
  have d72 := d7.le le2
  refine ldL_i d72.1 (ldL_i d72.2 (slices_Clone_string_string.s (hL.le le12) hll fun lp' lc' H3 hB3 _ le3 => ⟨(d72.le le3).2, ?_⟩))
  have le13 := le12.trans le3
  refine slices_Clone_api_Pair_api_Pair.s (hP.le le13) hpl fun pp' pc' H4 hB4 _ le4 => ?_
  have d94 := (d9.le le3).le le4
  have no3 : ∀ b o, lp' = some ⟨b, o, none⟩ → b ∉ [b9] := fun b o e hb => by simp at hb; subst hb; exact d9.there (hB3.fr b o e)
  have no4 : ∀ b o, pp' = some ⟨b, o, none⟩ → b ∉ [b9] := fun b o e hb => by simp at hb; subst hb; exact (d9.le le3).there (hB4.fr b o e)
  refine d94.put fun H5 d5 m5 => d5.get (hK lp' lc' pp' pc' H5 ?_ ?_ ?_ (m5.le (le13.trans le4) (by simpa using hb9H)))
  · exact ((hB3.le le4).mod m5 no3).base fun b _ e => none_of_le le12 e
  · exact (hB4.mod m5 no4).base fun b _ e => none_of_le le13 e
  · intro b hb hb'
    exact hB3.there (blkL_mem hB3.zero hb) (hB4.fr b 0 (blkL_mem hB4.zero hb'))
end
end Go.Proofs.YteijgmmjgbgffaaDoor
