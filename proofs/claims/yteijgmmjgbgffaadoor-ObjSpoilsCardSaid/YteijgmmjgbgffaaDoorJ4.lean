/- Contracts. -/
import Derived.Test.YteijgmmjgbgffaaDoorJ3
namespace Go.Proofs.YteijgmmjgbgffaaDoor
open Go.V
/-! ### Objects of the document, the example -/
def fewB (ls : List BL) (ps : List (Int × Int)) : Bool := ls.all (fun x => decide (x.length ≤ 100)) && (decide (ls.length ≤ 50) && decide (ps.length ≤ 200))
section
variable {lp pp : Option Addr} {ll lc pl pc : Nat} {ls : List BL} {ps : List (Int × Int)} {H : Hp}
theorem centolaw4_few.c {K : Bool → Hp → Prop} (hL : Sl sv H lp ll lc ls) (hP : Sn 2 pairC H pp pl pc ps) (hll : ll ≤ maxLen) (hK : ∀ H', Le H H' → K (fewB ls ps) H') : centolaw4_few.C lp ll lc pp pl pc H K := by
  apply centolaw4_few.of
  have el := hL.len
  have ep := hP.len
  have hml : maxLen ≤ 9223372036854775807 := by decide
  intro b7 hb7
  have d7 : D2 (upd H b7 [.slice lp ll lc, .slice pp pl pc]) b7 lp ll lc pp pl pc := D2.new
  have le1 : Le H (upd H b7 [.slice lp ll lc, .slice pp pl pc]) := Le.upd hb7
  generalize upd H b7 [.slice lp ll lc, .slice pp pl pc] = H1 at *
  have hK := hK H1 le1
  unfold fewB at hK
  refine ⟨fun t Hx => ∃ i : Nat, t = (i : Nat) ∧ i ≤ ll ∧ Hx = H1 ∧ (ls.take i).all (fun x => decide (x.length ≤ 100)) = true, fun t _ => ((ll : Int) - t).toNat, ⟨0, rfl, Nat.zero_le _, rfl, rfl⟩, ?_⟩
  rintro t Hx ⟨i, rfl, gi, rfl, hi⟩
  refine ldL_i d7.1 (bcd (fun hlt => ?_) fun hlt => ?_)
  · have hil : i < ls.length := by omega
    have hsz : (mkB ls[i]).size = ls[i].length := rfl
    refine ldL_i d7.1 (slS (hL.le le1) (fun _ => rfl) (by omega) hlt fun _ => ?_)
    simp only [Int.toNat_natCast]
    refine bcd (fun hg => ?_) fun hg => ?_
    · have hbad : (ls.all fun x => decide (x.length ≤ 100)) = false := by
        rw [List.all_eq_false]
        refine ⟨_, List.getElem_mem hil, ?_⟩
        rw [decide_eq_true_eq]; omega
      rw [hbad, Bool.false_and] at hK; exact hK
    · refine chk (by omega) ⟨⟨i + 1, by omega, by omega, by trivial, ?_⟩, by first | omega | (dsimp only; omega)⟩
      rw [List.take_succ_eq_append_getElem hil, List.all_append, hi]
      simp; omega
  · rw [List.take_of_length_le (by omega)] at hi
    rw [hi, Bool.true_and] at hK
    refine ldL_i d7.1 (bcd (fun h => ldL_i d7.2 ?_) fun h => ?_)
    · rw [decide_eq_true (by omega), Bool.true_and] at hK
      have e : decide (((pl : Nat) : Int) ≤ 200) = decide (ps.length ≤ 200) := decide_eq_decide.2 (by omega)
      rw [e]; exact hK
    · rw [decide_eq_false (by omega), Bool.false_and] at hK; exact hK
theorem centoref4_Same.c {lp2 pp2 : Option Addr} {ll2 lc2 pl2 pc2 : Nat} {ls2 : List BL} {ps2 : List (Int × Int)} {K : Bool → Hp → Prop} (hL : Sl sv H lp ll lc ls) (hP : Sn 2 pairC H pp pl pc ps) (hL2 : Sl sv H lp2 ll2 lc2 ls2) (hP2 : Sn 2 pairC H pp2 pl2 pc2 ps2) (hll : ll ≤ 1000000000) (hpl : pl ≤ 1000000000)
    (hK : ∀ H', Le H H' → K (decide (ls = ls2) && decide (ps = ps2)) H') : centoref4_Same.C lp ll lc pp pl pc lp2 ll2 lc2 pp2 pl2 pc2 H K := by
  apply centoref4_Same.of
  have e1 := hL.len
  have e2 := hP.len
  have e3 := hL2.len
  have e4 := hP2.len
  intro b7 hb7
  have d7 : D2 (upd H b7 [.slice lp ll lc, .slice pp pl pc]) b7 lp ll lc pp pl pc := D2.new
  have le1 : Le H (upd H b7 [.slice lp ll lc, .slice pp pl pc]) := Le.upd hb7
  generalize upd H b7 [.slice lp ll lc, .slice pp pl pc] = H1 at *
  intro b8 hb8
  have d8 : D2 (upd H1 b8 [.slice lp2 ll2 lc2, .slice pp2 pl2 pc2]) b8 lp2 ll2 lc2 pp2 pl2 pc2 := D2.new
  have le2 : Le H1 (upd H1 b8 [.slice lp2 ll2 lc2, .slice pp2 pl2 pc2]) := Le.upd hb8
  generalize upd H1 b8 [.slice lp2 ll2 lc2, .slice pp2 pl2 pc2] = H2 at *
  have le12 := le1.trans le2
  have d7 := d7.le le2
  have hK := hK H2 le12
  have no : (ls = ls2 → ps ≠ ps2) → K false H2 := fun h => by
    have e : (decide (ls = ls2) && decide (ps = ps2)) = false := by
      rw [Bool.and_eq_false_iff, decide_eq_false_iff_not, decide_eq_false_iff_not]
      by_cases h1 : ls = ls2
      · exact .inr (h h1)
      · exact .inl h1
    rw [e] at hK; exact hK
  have ha := hL.le le12
  have hb := hL2.le le12
  have pa := hP.le le12
  have pb := hP2.le le12
  refine ldL_i d7.1 (ldL_i d8.1 (bcd (fun h => no fun e => absurd (by rw [e1, e3, e]) h) fun h => ldL_i d7.2 (ldL_i d8.2 (bcd (fun h' => no fun _ e => absurd (by rw [e2, e4, e]) h') fun h' => ?_))))
  unfold centoref4_Same.k1
  refine ⟨fun i Hx => ∃ i' : Nat, i = i' ∧ i' ≤ ll ∧ H2 = Hx ∧ ls.take i' = ls2.take i', fun i _ => (ll - i).toNat, ⟨0, rfl, by omega, rfl, rfl⟩, ?_⟩
  rintro i _ ⟨i, rfl, hi, rfl, he⟩
  refine ldL_i d7.1 (bcd (fun h => ?_) (fun h => ?_))
  · have hia : i < ls.length := by omega
    have hib : i < ls2.length := by omega
    refine ldL_i d7.1 (slS ha (fun _ => rfl) (by omega) (by omega) fun _ => ldL_i d8.1 (slS hb (fun _ => rfl) (by omega) (by omega) fun _ => ?_))
    simp only [Int.toNat_natCast]
    refine bcd (fun h => no fun e => ?_) (fun h => ?_)
    · subst e; exact absurd rfl h
    · have e : ls[i] = ls2[i] := congrArg L (Classical.not_not.1 h)
      exact chk (by omega) ⟨⟨i + 1, by omega, by omega, by trivial, by rw [List.take_succ_eq_append_getElem hia, List.take_succ_eq_append_getElem hib, he, e]⟩, by first | omega | (dsimp only; omega)⟩
  · have el : ls = ls2 := by
      rw [List.take_of_length_le (by omega), List.take_of_length_le (by omega)] at he
      exact he
    rw [decide_eq_true el, Bool.true_and] at hK
    refine ⟨fun i Hx => ∃ i' : Nat, i = i' ∧ i' ≤ pl ∧ H2 = Hx ∧ ps.take i' = ps2.take i', fun i _ => (pl - i).toNat, ⟨0, rfl, by omega, rfl, rfl⟩, ?_⟩
    rintro i _ ⟨i, rfl, hi, rfl, he⟩
    refine ldL_i d7.2 (bcd (fun h => ?_) (fun h => ?_))
    · have hia : i < ps.length := by omega
      have hib : i < ps2.length := by omega
      refine ldL_i d7.2 (snP pa (by omega) (by omega) fun _ => ldL_i d8.2 (snP pb (by omega) (by omega) fun _ => ?_))
      simp only [Int.toNat_natCast]
      refine bcn (fun h => no fun _ e => ?_) (fun h => ?_)
      · subst e; simp at h
      · have e : ps[i] = ps2[i] := by
          rw [Bool.and_eq_true, decide_eq_true_eq, decide_eq_true_eq] at h
          exact Prod.ext h.1 h.2
        exact chk (by omega) ⟨⟨i + 1, by omega, by omega, by trivial, by rw [List.take_succ_eq_append_getElem hia, List.take_succ_eq_append_getElem hib, he, e]⟩, by first | omega | (dsimp only; omega)⟩
    · have e : ps = ps2 := by
        rw [List.take_of_length_le (by omega), List.take_of_length_le (by omega)] at he
        exact he
      rwa [decide_eq_true e] at hK
theorem centoref4_Make.c {m n : Nat} {M : Nat → Nat → Bool} {O : List Nat} {K : Option Addr → Nat → Nat → Option Addr → Nat → Nat → Hp → Prop} (hL : Sl sv H lp ll lc ls) (hu : RFO H m O n M) (hll : ll ≤ 1000000000)
    (hok : ∀ lp' lc' pp' pl' pc' H', Sl sv H' lp' ll lc' ls → Sn 2 pairC H' pp' pl' pc' (prs (clo M n) n) → Le H H' → K lp' ll lc' pp' pl' pc' H') : centoref4_Make.C lp ll lc (some ⟨m, 0, none⟩) H K := by
  apply centoref4_Make.of
  have el := hL.len
  intro b5 hb5
  have d5 : D2 (upd H b5 [.slice none 0 0, .slice none 0 0]) b5 none 0 0 none 0 0 := D2.new
  have le1 : Le H (upd H b5 [.slice none 0 0, .slice none 0 0]) := Le.upd hb5
  generalize upd H b5 [.slice none 0 0, .slice none 0 0] = H1 at *
  have hL1 := hL.le le1
  refine (Buf.none (s := 1) (A := H1) (H := H1)).appN (te := te_string) (n := ll) (new := ls.map sv) rfl (by decide) rfl (by decide) (by simp [el]) (List.all_eq_true.2 fun v hv => by obtain ⟨x, _, rfl⟩ := List.mem_map.1 hv; rfl) (by show (0 + ll) * 16 ≤ _; omega) (Le.refl _) (fun G hG => sl_src hL1 G hG) fun p' c' H2 hB le2 _ => ?_
  rw [List.nil_append, Nat.zero_add] at hB
  rw [Nat.zero_add]
  refine centoref2_Rel_Closure.c (hu.le (le1.trans le2)) fun m' O' H3 u3 _ le3 => centoref2_Rel_Pairs.c u3 fun pp' pl' pc' H4 hp4 hn4 le4 => ?_
  have le34 := le3.trans le4
  have d54 := (d5.le le2).le le34
  have hB4 := hB.le le34
  refine d54.put fun H5 d6 m5 => d6.get (hok p' c' pp' pl' pc' H5 ?_ ?_ (m5.le ((le1.trans le2).trans le34) (by simpa using hb5)))
  · exact (hB4.mod m5 fun b o e hb => by simp at hb; subst hb; exact d5.there (hB.fr b o e)).sl
  · refine ⟨hp4.1, hp4.2.1, hp4.2.2.imp id fun ⟨b, o, e, h⟩ => ⟨b, o, e, fun i hi j v hv => m5.rd (fun hb => ?_) (h i hi j v hv)⟩⟩
    simp at hb; subst hb
    exact ((d5.le le2).le le3).there (hn4 _ _ e)
end
theorem centolaw4_known.c {H : Hp} {K : Bool → Hp → Prop} (hT : Tz H) (hK : ∀ H', Le H H' → K true H') : centolaw4_known.C H K := by
  apply centolaw4_known.of
  intro b1 hb1
  have q1 : Sl sv (upd H b1 ([.string (bs [97]), .string (bs [98])])) (some ⟨b1, 0, none⟩) 2 2 [[97], [98]] := by
    refine ⟨rfl, by decide, .inr ⟨b1, 0, rfl, fun i hi => ?_⟩⟩
    rw [rd_upd_self]
    match i, hi with
    | 0, _ => rfl
    | 1, _ => rfl
  have le1 : Le H (upd H b1 ([.string (bs [97]), .string (bs [98])])) := Le.upd hb1
  generalize upd H b1 ([.string (bs [97]), .string (bs [98])]) = H1 at *
  intro b3 hb3
  have q3 : Sn 2 pairC (upd H1 b3 ([.int .i64 0, .int .i64 1])) (some ⟨b3, 0, none⟩) 1 1 [(0, 1)] := by
    refine ⟨rfl, by decide, .inr ⟨b3, 0, rfl, fun i hi j v hv => ?_⟩⟩
    have : i = 0 := by simp at hi; omega
    subst this
    rw [rd_upd_self]
    match j, hv with
    | 0, hv => simp [pairC] at hv; subst hv; rfl
    | 1, hv => simp [pairC] at hv; subst hv; rfl
    | j + 2, hv => simp [pairC] at hv
  have le2 : Le H1 (upd H1 b3 ([.int .i64 0, .int .i64 1])) := Le.upd hb3
  generalize upd H1 b3 ([.int .i64 0, .int .i64 1]) = H2 at *
  intro b5 hb5
  have d5 : D2 (upd H2 b5 [.slice none 0 0, .slice none 0 0]) b5 none 0 0 none 0 0 := D2.new
  have le3 : Le H2 (upd H2 b5 [.slice none 0 0, .slice none 0 0]) := Le.upd hb5
  generalize upd H2 b5 [.slice none 0 0, .slice none 0 0] = H3 at *
  refine d5.put fun H4 d4 m4 => ?_
  have le24 : Le H2 H4 := m4.le le3 (by simpa using hb5)
  have le04 : Le H H4 := (le1.trans le2).trans le24
  have L4 := (q1.le le2).le le24
  have P4 := q3.le le24
  clear q1 q3 le1 le2 le3 hb1 hb3 hb5 d5 m4 le24
  refine ldL_i d4.2 (rel_Of.c P4 (by decide) (hT.le le04) (fun h => by omega) (fun H5 _ _ hok _ => absurd hok (by decide)) fun R O H5 _ _ _ u5 _ le5 => ?_)
  have u5 : RLO H5 R O 2 (ofM [(0, 1)] 2) := u5
  refine ldL_i (d4.le le5).1 (obj_Make.c (L4.le le5) (.inr ⟨R, O, rfl, u5⟩) (by decide) (fun h => absurd (by kernel_rfl) h) fun _ lp' lc' pp' pl' pc' H6 L6 P6 le6 => ?_)
  have P6 : Sn 2 pairC H6 pp' pl' pc' [(0, 1)] := P6
  intro b34 hb34
  have le7 := (le5.trans le6).trans (Le.upd (c := [.slice none 0 0, .slice none 0 0]) hb34)
  have n34 : H4 b34 = none := none_of_le (le5.trans le6) hb34
  refine D2.new.put fun H7 d7 m7 => ?_
  have le47 : Le H4 H7 := m7.le le7 (by simpa using n34)
  have le67 : Le H6 H7 := m7.le (Le.upd hb34) (by simpa using hb34)
  refine ldL_i (d4.le le47).1 (obj_Make.c (L4.le le47) (.inl ⟨rfl, rfl, rfl, hT.le (le04.trans le47)⟩) (by decide) (fun _ H8 le8 => ?_) fun h => absurd h (by decide))
  intro b53 hb53
  refine D2.new.put fun H9 d9 m9 => ?_
  have le89 : Le H8 H9 := m9.le (Le.upd hb53) (by simpa using hb53)
  have le79 := le8.trans le89
  have le49 := le47.trans le79
  have d49 := d4.le le49
  have d79 := d7.le le79
  have hT9 := hT.le (le04.trans le49)
  refine bcd (fun _ => bcd (fun _ => ?_) fun h => absurd rfl h) fun h => absurd rfl h
  refine d49.get (d79.get (obj_Same.c (L4.le le49) (P4.le le49) ((L6.le le67).le le79) ((P6.le le67).le le79) (by decide) (by decide) fun H10 le10 => ?_))
  have le410 := le49.trans le10
  refine bc_i (fun _ => bcd (fun _ => ?_) fun h => absurd (by kernel_rfl) h) fun h => absurd h (by decide)
  refine (d4.le le410).get (obj_Is.c (L4.le le410) (P4.le le410) (hT.le (le04.trans le410)) (by decide) fun H11 le11 => ?_)
  have le411 := le410.trans le11
  refine bc_i (fun _ => ?_) fun h => absurd (h.symm.trans (by kernel_rfl : _ = true)) (by decide)
  refine ldL_i (d4.le le411).2 (obj_Check.c (lp := none) (ll := 0) (lc := 0) (ls := []) ⟨rfl, Nat.le_refl _, .inl rfl⟩ (P4.le le411) (hT.le (le04.trans le411)) (by decide) fun H12 le12 => ?_)
  have le412 := le411.trans le12
  refine bcd (fun _ => ?_) fun h => absurd (by kernel_rfl) h
  refine (d4.le le412).get (obj_Rel.c (L4.le le412) (P4.le le412) (hT.le (le04.trans le412)) (by decide) fun R' O' H13 u13 _ le13 => rel_Rel_Has.c u13 ?_)
  have le413 := le412.trans le13
  refine bc_i (fun _ => ?_) fun h => absurd (h.symm.trans (by kernel_rfl : _ = true)) (by decide)
  refine obj_Is.c (lp := none) (ll := 0) (lc := 0) (ls := []) (pp := none) (pl := 0) (pc := 0) (ps := []) ⟨rfl, Nat.le_refl _, .inl rfl⟩ ⟨rfl, Nat.le_refl _, .inl rfl⟩ (hT.le (le04.trans le413)) (by decide) fun H14 le14 => ?_
  rw [show decide (chkO [] [] = 0) = true by kernel_rfl]
  exact hK H14 ((le04.trans le413).trans le14)
end Go.Proofs.YteijgmmjgbgffaaDoor
