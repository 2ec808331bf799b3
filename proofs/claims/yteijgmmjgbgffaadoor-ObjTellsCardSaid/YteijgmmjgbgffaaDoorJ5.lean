/- For every input ObjTells returns true, and what came in reads as it did: no condition. -/
import Derived.Test.YteijgmmjgbgffaaDoorJ4
import Derived.Test.YteijgmmjgbgffaaDoorBT
import Derived.Test.YteijgmmjgbgffaaDoorVcOpen
namespace Go.Proofs.YteijgmmjgbgffaaDoor
open Go.V
open Go.ChangeShapes Go.WideShapes Go.ChangeAt Go.RowKit
abbrev objE : Enc (List ByteArray × List (Int × Int)) := Enc.str.sl.pair ((Enc.int .i64).pair (Enc.int .i64)).sl
theorem Sl_toL {H : Hp} {p : Option Addr} {l c : Nat} {xs : List ByteArray} (h : Sl Value.string H p l c xs) : Sl sv H p l c (xs.map L) := by
  refine ⟨by rw [List.length_map]; exact h.1, h.2.1, h.2.2.imp (fun e => by rw [e]; rfl) fun ⟨b, o, e, hh⟩ => ⟨b, o, e, fun i hi => ?_⟩⟩
  rw [List.length_map] at hi
  rw [List.getElem_map]
  exact hh i hi
theorem objE_rep {H : Hp} {cs : List Value} {x : List ByteArray × List (Int × Int)} (h : objE.rep H cs x) : ∃ lp ll lc pp pl pc, cs = [.slice lp ll lc, .slice pp pl pc] ∧ Sl sv H lp ll lc (x.1.map L) ∧ Sn 2 pairC H pp pl pc x.2 ∧ ll ≤ maxLen := by
  obtain ⟨c1, c2, rfl, ⟨lp, ll, lc, rfl, h1⟩, ⟨pp, pl, pc, rfl, h2⟩⟩ := h
  exact ⟨lp, ll, lc, pp, pl, pc, rfl, Sl_toL h1.strs, h2.pairs, Nat.le_trans h1.2.1 h1.2.2.1⟩
theorem fewB_len {ls : List BL} {ps : List (Int × Int)} (h : fewB ls ps = true) : ls.length ≤ 50 ∧ ps.length ≤ 200 := by
  unfold fewB at h
  rw [Bool.and_eq_true, Bool.and_eq_true, decide_eq_true_eq, decide_eq_true_eq] at h
  exact h.2
theorem objTells_law {cs0 cs1 : List Value} {x0 x1 : List ByteArray × List (Int × Int)} {H : Hp} (s0 : objE.rep H cs0 x0) (s1 : objE.rep H cs1 x1) (hT : Tz H) : CallH prog centolaw4_ObjTells.num [.agg ⟨cs0⟩, .agg ⟨cs1⟩] H fun v H' => liftB v fun r => r = true ∧ Le H H' := by
  obtain ⟨lp, ll, lc, pp, pl, pc, rfl, hL, hP, hml⟩ := objE_rep s0
  obtain ⟨lp2, ll2, lc2, pp2, pl2, pc2, rfl, hL2, hP2, hml2⟩ := objE_rep s1
  generalize x0.1.map L = ls at hL
  generalize x0.2 = ps at hP
  generalize x1.1.map L = ls2 at hL2
  generalize x1.2 = ps2 at hP2
  show centolaw4_ObjTells.C lp ll lc pp pl pc lp2 ll2 lc2 pp2 pl2 pc2 H fun r H' => r = true ∧ Le H H'
  apply centolaw4_ObjTells.of
  have e1 := hL.len
  have e2 := hP.len
  have e3 := hL2.len
  have e4 := hP2.len
  intro a ha
  have da : D2 (upd H a [.slice lp ll lc, .slice pp pl pc]) a lp ll lc pp pl pc := D2.new
  have le1 : Le H (upd H a [.slice lp ll lc, .slice pp pl pc]) := Le.upd ha
  generalize upd H a [.slice lp ll lc, .slice pp pl pc] = H1 at *
  intro b hb
  have db : D2 (upd H1 b [.slice lp2 ll2 lc2, .slice pp2 pl2 pc2]) b lp2 ll2 lc2 pp2 pl2 pc2 := D2.new
  have le2 : Le H1 (upd H1 b [.slice lp2 ll2 lc2, .slice pp2 pl2 pc2]) := Le.upd hb
  generalize upd H1 b [.slice lp2 ll2 lc2, .slice pp2 pl2 pc2] = H2 at *
  have le02 := le1.trans le2
  have da := da.le le2
  refine centolaw4_known.c (hT.le le02) fun H3 le3 => bcn (fun h => by cases h) fun _ => ?_
  have le03 := le02.trans le3
  refine (da.le le3).get (centolaw4_few.c (hL.le le03) (hP.le le03) hml fun H4 le4 => ?_)
  have le24 := le3.trans le4
  refine bcn (fun _ => ⟨rfl, le02.trans le24⟩) fun f1 => ?_
  refine (db.le le24).get (centolaw4_few.c (hL2.le (le02.trans le24)) (hP2.le (le02.trans le24)) hml2 fun H5 le5 => ?_)
  have le25 := le24.trans le5
  refine bcn (fun _ => ⟨rfl, le02.trans le25⟩) fun f2 => ?_
  have g1 := fewB_len f1
  have g2 := fewB_len f2
  have da5 := da.le le25
  have db5 := db.le le25
  have le05 := le02.trans le25
  have hL5 := hL.le le05
  have hP5 := hP.le le05
  have hL25 := hL2.le le05
  have hP25 := hP2.le le05
  have hT5 := hT.le le05
  clear le24 le25 le3 le4 le5 le03 le02 le1 le2 da db hL hP hL2 hP2 hT s0 s1 f1 f2 ha hb
  unfold centolaw4_ObjTells.k1
  refine da5.get (da5.get (obj_Rel.c hL5 hP5 hT5 (by omega) fun R O H6 u6 _ le6 => ⟨(da5.le le6).1, (da5.le le6).2, ?_⟩))
  refine centoref4_Rel.c (hL5.le le6) (hP5.le le6) (by omega) fun m O' H7 u7 _ le7 => ?_
  have le57 := le6.trans le7
  refine rel_Rel_Pairs.c (u6.le le7) fun p8 l8 c8 H8 q8 _ le8 => ?_
  refine centoref2_Rel_Pairs.c (u7.le le8) fun p9 l9 c9 H9 q9 _ le9 => ?_
  have l89 : l8 = l9 := q8.len.trans q9.len.symm
  refine bcd (fun h => absurd (by rw [l89]) h) fun _ => ?_
  have u79 := (u7.le le8).le le9
  have q89 := q8.le le9
  have le59 := (le57.trans le8).trans le9
  obtain ⟨Bm, bsm, _, rfm⟩ := id u79
  refine nil (ldI_i rfm.hn (rel_Rel_Len.c (((u6.le le7).le le8).le le9) ⟨rfm.hn, bcd (fun h => absurd rfl h) fun _ => ?_⟩))
  have hn : l8 ≤ 1000000000 := by
    have h1 := prs_len_le (ofM ps (nO ls ps)) (nO ls ps)
    have h2 : nO ls ps ≤ 200 := rfm.lim
    have h3 := Nat.mul_le_mul h2 h2
    have h4 := q89.len
    omega
  unfold centolaw4_ObjTells.k2
  refine ⟨fun t Hx => ∃ i : Nat, t = (i : Nat) ∧ i ≤ l8 ∧ Hx = H9, fun t _ => ((l8 : Int) - t).toNat, ⟨0, rfl, Nat.zero_le _, rfl⟩, ?_⟩
  rintro t Hx ⟨i, rfl, gi, rfl⟩
  refine bcd (fun hlt => ?_) fun hlt => ?_
  · refine snP q89 (by omega) hlt fun _ => snP q9 (by omega) (by omega) fun _ => ?_
    refine bcn (fun h => ?_) fun _ => chk (by omega) ⟨⟨i + 1, by omega, by omega, rfl⟩, by first | omega | (dsimp only; omega)⟩
    simp at h
  have da9 := da5.le le59
  have db9 := db5.le le59
  have hL9 := hL5.le le59
  have hP9 := hP5.le le59
  have hL29 := hL25.le le59
  have hP29 := hP25.le le59
  have hT9 := hT5.le le59
  have le09 := le05.trans le59
  clear da5 db5 hL5 hP5 hL25 hP25 hT5 le59 le05 u6 u7 u79 q8 q89 q9 rfm
  refine da9.get (da9.get (obj_Check.c hL9 hP9 hT9 (by omega) fun H10 le10 => ⟨(da9.le le10).1, (da9.le le10).2, ?_⟩))
  refine centoref4_Check.c (hL9.le le10) (hP9.le le10) (by omega) fun H11 le11 => bcd (fun _ => ?_) fun h => absurd rfl h
  have l1 := le10.trans le11
  refine (da9.le l1).get ((da9.le l1).get (obj_Is.c (hL9.le l1) (hP9.le l1) (hT9.le l1) (by omega) fun H12 le12 => ⟨((da9.le l1).le le12).1, ((da9.le l1).le le12).2, ?_⟩))
  have l2 := l1.trans le12
  refine centoref4_Is.c (hL9.le l2) (hP9.le l2) (by omega) fun H13 le13 => bcd (fun _ => ?_) fun h => absurd rfl h
  have l3 := l2.trans le13
  refine (da9.le l3).get ((db9.le l3).get ((da9.le l3).get ((db9.le l3).get (obj_Same.c (hL9.le l3) (hP9.le l3) (hL29.le l3) (hP29.le l3) (by omega) (by omega) fun H14 le14 => ⟨((db9.le l3).le le14).1, ((db9.le l3).le le14).2, ((da9.le l3).le le14).1, ((da9.le l3).le le14).2, ?_⟩))))
  have l4 := l3.trans le14
  refine centoref4_Same.c (hL9.le l4) (hP9.le l4) (hL29.le l4) (hP29.le l4) (by omega) (by omega) fun H15 le15 => bcd (fun _ => ?_) fun h => absurd rfl h
  have l5 := l4.trans le15
  refine (da9.le l5).get ((da9.le l5).get (obj_Copy.c (hL9.le l5) (hP9.le l5) (by omega) (by omega) fun lp' lc' pp' pc' H16 B1 B2 _ le16 => ⟨((da9.le l5).le le16).1, ((da9.le l5).le le16).2, ?_⟩))
  have l6 := l5.trans le16
  refine obj_Same.c B1.sl (B2.sn (f := pairC) (n := 2) (fun _ => rfl) (by decide)) (hL9.le l6) (hP9.le l6) (by omega) (by omega) fun H17 le17 => ⟨?_, le09.trans (l6.trans le17)⟩
  rw [decide_eq_true rfl, decide_eq_true rfl]; rfl


theorem objTells_own : ownKnob Tryd.prog.godebug = none := by kernel_rfl
theorem objTells_laid : laidOutB Tryd.prog = true := by kernel_rfl
set_option maxRecDepth 100000 in
theorem objTells_lifted (os : Os) (started : os.Started) (H : Type) (enc : TypeId × Value → H) :
    ReturnsInHanded {} Tryd.checked os 5 .any (fun w args => (Rows.objTellsSpec.pre enc Tryd.prog Tryd.f5 [] false w args ∧ laidMetH Tryd.prog laidTz w) ∧ sizedMet enc Tryd.prog Tryd.f5 (OpenSpec.ofChange Rows.objTellsSpec) false w args)
      (Rows.objTellsSpec.post enc Tryd.prog Tryd.f5 false true false false) := by
  refine returnsInHanded_of_change_and (C := Tryd.checked) (X := fun w _ => laidMetH Tryd.prog laidTz w) (fun _ _ _ hh h => h.of_heap hh) objTells_own started (by kernel_rfl) Tryd.func5
    (ChangeSpec.witness_shaped (enc := enc) (C := Tryd.checked) (os := os) (X := fun w _ => laidMetH Tryd.prog laidTz w) false (World.doorLaid Tryd.prog 400 os) #[.agg #[.slice none 0 0, .slice none 0 0], .agg #[.slice none 0 0, .slice none 0 0]] 8 rfl (World.shaped_of_RefB (by kernel_rfl) (by kernel_rfl)) (by kernel_rfl) (by kernel_rfl) (by kernel_rfl) (door_met os _)) ?_
  intro W base args ds gs before hval0 hW _ _ hL _
  have hval : ∀ (j : Nat) t v, Tryd.f5.params[j]? = some t → args[j]? = some v → Value.okWide Tryd.prog W .any base t v := hval0
  have hW' := hW
  obtain ⟨p, q, hA0, hV, rfl, hfz, hnd⟩ := hW
  have hA : DataW.TrodAll enc Tryd.prog W 0 (fun _ => true) true Tryd.f5.params.toList args.toList ds p := hA0
  rw [Tryd.params5] at hA hval
  obtain ⟨v0, v1, d0, d1, p0, p1, rfl, rfl, rfl, h0, h1⟩ := trodAll_two hA
  obtain ⟨cs0, x0, rfl, s0⟩ := openSt Tryd.underlying27 (opens_st Tryd.underlying27 (by kernel_rfl) (opensF_cons rfl (opens_sl (by decide) Tryd.underlying22 (by kernel_rfl) (opens_str Tryd.underlying9 (by kernel_rfl))) rfl (opensF_one rfl (opens_sl (by decide) Tryd.underlying23 (by kernel_rfl) (opens_st Tryd.underlying50 (by kernel_rfl) (opensF_cons rfl (opens_int Tryd.underlying3 (by kernel_rfl)) rfl (opensF_one rfl (opens_int Tryd.underlying3 (by kernel_rfl))))))))) (hval 0 27 v0 rfl rfl) h0 (fun x hx => by simp [hx]) hfz
  obtain ⟨cs1, x1, rfl, s1⟩ := openSt Tryd.underlying27 (opens_st Tryd.underlying27 (by kernel_rfl) (opensF_cons rfl (opens_sl (by decide) Tryd.underlying22 (by kernel_rfl) (opens_str Tryd.underlying9 (by kernel_rfl))) rfl (opensF_one rfl (opens_sl (by decide) Tryd.underlying23 (by kernel_rfl) (opens_st Tryd.underlying50 (by kernel_rfl) (opensF_cons rfl (opens_int Tryd.underlying3 (by kernel_rfl)) rfl (opensF_one rfl (opens_int Tryd.underlying3 (by kernel_rfl))))))))) (hval 1 27 v1 rfl rfl) h1 (fun x hx => by simp [hx]) hfz
  refine (calls_true (objTells_law s0 s1 (tz_of_laid hL)) Tryd.func5 (by kernel_rfl)).mono fun e W' ⟨he, hk⟩ => ?_
  subst he
  exact ⟨_, rfl, post_true objTells_laid hW' (by kernel_rfl) rfl rfl rfl Tryd.underlying4 hk⟩

theorem objTells_row : Rows.ObjTellsSaid :=
  OpenClaim.holds_of_wide 5 Tryd.f5 rfl rfl rfl rfl rfl rfl rfl ⟨rfl, rfl, rfl, rfl, rfl⟩ rfl rfl rfl rfl rfl (by kernel_rfl) Tryd.func5 (by kernel_rfl)
    (of_decide_eq_true (by kernel_rfl)) (by unfold Func.isWrapper; first | (rw [if_pos (by decide +kernel)]; kernel_rfl) | (rw [if_neg (by decide +kernel)]; exact ⟨rfl, rfl⟩))
    (fun os started H enc _ => objTells_lifted os started H enc)

theorem objTells_card : Rows.ObjTellsCardSaid :=
  Claim7.holds_tied_plain_at .later [] [.data] true (true, "f1eba887bf2a15496a222adcf75d60a0462008cefa76589392225645476a6e39") false
    objTells_row (fun _ h => by cases h) (by kernel_rfl) (fun _ h => by cases h) objTells_row_tie rfl ⟨rfl, rfl⟩ (by kernel_rfl) rfl
    (fun f fn hf hfn => by
      obtain rfl : f = 5 := Option.some.inj ((show Tryd.prog.funcNamed Rows.objTellsRow.func = some 5 by kernel_rfl).symm.trans hf) |>.symm
      obtain rfl : fn = Tryd.f5 := (Option.some.inj (Tryd.func5.symm.trans hfn)).symm
      exact ⟨by kernel_rfl, fun j t ht => by
        rw [Tryd.params5] at ht
        have hm : t ∈ [27] := by
          have := Array.mem_of_getElem? ht
          simp at this
          first | (rcases this with rfl | rfl <;> simp) | simp [this]
        have hall : ([27].all fun u => !Tryd.prog.wantsStandIn u) = true := by kernel_rfl
        exact (show Tryd.prog.wantsStandIn t = false by simpa using List.all_eq_true.1 hall t hm)⟩)
    (by kernel_rfl)
end Go.Proofs.YteijgmmjgbgffaaDoor
