/- For every file and lines ResolveTells returns true, and what came in reads as it did: no condition. -/
import Derived.Test.YtganockeifkecaaDoorZ6
namespace Go.Proofs.YtganockeifkecaaDoor
open Go.V
open Go.ChangeShapes Go.WideShapes Go.ChangeAt Go.RowKit
abbrev lidX : Enc (Int × Int) := (Enc.int .u32).pair (Enc.int .i64)
def toLd (x : Int × Int) : Lid := ⟨x.1, x.2⟩
theorem lidX_rep {H : Hp} {cs : List Value} {x : Int × Int} (h : lidX.rep H cs x) : cs = lidC (toLd x) := by
  obtain ⟨c1, c2, rfl, ⟨h1, _⟩, ⟨h2, _⟩⟩ := h
  rw [h1, h2]; rfl
theorem dRefl {α : Type} {x : α} [Decidable (x = x)] {A B : Prop} (h : A) : bc (decide (x = x)) A B := by rw [decide_eq_true rfl]; exact h
def SmH (h : Hk) : Prop := h.adds.length ≤ 1000 ∧ h.edges.length ≤ 1000 ∧ h.kills.length ≤ 1000
theorem ordR_sm {f : BL} {ls : List Ln} {ps : List (Int × Int)} {a b : Lid} : SmH (ordR f ls ps a b).1 := by
  unfold ordR SmH
  split
  · simp [hk0]
  · split <;> simp [hk0]
theorem dropR_sm {f : BL} {ls : List Ln} {a : Lid} : SmH (dropR f ls a).1 := by
  unfold dropR SmH
  split <;> simp [hk0]
theorem allR_sm {f : BL} {ls : List Ln} {ps : List (Int × Int)} (h : ls.length ≤ 200) : SmH (allR ls ps f).1 := by
  have h1 := (ord_spec (ls := ls) (ps := ps)).2.2.2
  have h2 := alv_len (ls := ls)
  have h3 := nbTo_len (ls := ls) (ps := ps) (ordL ls ps).length
  unfold allR SmH
  split
  · simp [hk0]
  · split
    · simp [hk0]
    · refine ⟨by simp, ?_, by simp⟩
      show (srtE _).length ≤ 1000
      rw [(srtE_perm _).length_eq]; omega
theorem RdH.le {Hz Hy : Hp} {h : Hk} {x : HD} (w : RdH Hz h x) (l : Le Hz Hy) : RdH Hy h x := ⟨w.1.le l, w.2.1.le l, w.2.2.le l⟩
theorem resolveTells_law {cs0 cs1 cs2 : List Value} {x0 : ByteArray × List ((Int × Int) × ByteArray × Bool) × List (Int × Int)} {x1 x2 : Int × Int} {H : Hp} (s0 : fileE.rep H cs0 x0) (s1 : lidX.rep H cs1 x1) (s2 : lidX.rep H cs2 x2) (hT : Tz H) :
    CallH prog centolaw15_ResolveTells.num [.agg ⟨cs0⟩, .agg ⟨cs1⟩, .agg ⟨cs2⟩] H fun v H' => liftB v fun r => r = true ∧ Le H H' := by
  obtain ⟨lp, ll, lc, pp, pl, pc, rfl, hL, hP, hml⟩ := fileE_rep s0
  rw [lidX_rep s1, lidX_rep s2]
  generalize x0.2.1.map toLn = ls at hL
  generalize x0.2.2 = ps at hP
  generalize x0.1 = f
  generalize toLd x1 = a
  generalize toLd x2 = b
  show centolaw15_ResolveTells.C f lp ll lc pp pl pc a.p a.n b.p b.n H fun r H' => r = true ∧ Le H H'
  apply centolaw15_ResolveTells.of
  have e1 := hL.len
  have e2 := hP.len
  refine newD3 fun q0 H0 _ d l0 => newDL fun q1 H1 _ da l1 => newDL fun q2 H2 _ db l2 => ?_
  have d := (d.le l1).le l2
  have da := da.le l2
  have l0 := (l0.trans l1).trans l2
  refine centolaw15_known.c (hT.le l0) fun H3 l3 => bcn (fun h => by cases h) fun _ => ?_
  have d := d.le l3
  have da := da.le l3
  have db := db.le l3
  have l0 := l0.trans l3
  refine d.get (centolaw15_few.c (hL.le l0) (hP.le l0) hml fun H4 l4 => bcn (fun _ => ⟨rfl, l0.trans l4⟩) fun f1 => ?_)
  obtain ⟨g1, g2, _⟩ := fewV_len f1
  have d := d.le l4
  have da := da.le l4
  have db := db.le l4
  have l0 := l0.trans l4
  refine d.get (centolaw15_right.c (hL.le l0) (by omega) fun H5 l5 => bcn (fun _ => ⟨rfl, l0.trans l5⟩) fun hr => ?_)
  have hu := uq_right hr
  have d := d.le l5
  have da := da.le l5
  have db := db.le l5
  have l0 := l0.trans l5
  unfold centolaw15_ResolveTells.k1
  refine d.get (ldI_i da.1 (ldI_i da.2 (ldI_i db.1 (ldI_i db.2 (resolve_Order.c (hL.le l0) (hP.le l0) (hT.le l0) (by omega) (by omega) fun Ha xa la wa _ => D4.mk fun p1 Hb _ d1 lb => ?_)))))
  have l1 := la.trans lb
  have d := d.le l1
  have da := da.le l1
  have db := db.le l1
  have l0 := l0.trans l1
  have w1 := wa
  refine d.get (ldI_i da.1 (ldI_i da.2 (ldI_i db.1 (ldI_i db.2 (centoref12_ResolveOrder.c hu (hL.le l0) (hP.le l0) (by omega) (by omega) fun Hc xc lc' wc _ => D4.mk fun p2 Hd _ d2 ld => ?_)))))
  have l2 := lc'.trans ld
  have d := d.le l2
  have da := da.le l2
  have l0 := l0.trans l2
  refine d.get (ldI_i da.1 (ldI_i da.2 (resolve_Drop.c (hL.le l0) (hP.le l0) (hT.le l0) (by omega) (by omega) fun He xe le' we _ => D4.mk fun p3 Hf _ d3 lf => ?_)))
  have l3' := le'.trans lf
  have d := d.le l3'
  have da := da.le l3'
  have l0 := l0.trans l3'
  refine d.get (ldI_i da.1 (ldI_i da.2 (centoref12_ResolveDrop.c hu (hL.le l0) (by omega) fun Hg xg lg wg _ => D4.mk fun p4 Hh _ d4 lh => ?_)))
  have l4' := lg.trans lh
  have d := d.le l4'
  have l0 := l0.trans l4'
  refine d.get (resolve_All.c hu (hL.le l0) (hP.le l0) (hT.le l0) (by omega) (by omega) fun Hi xi li wi _ => D4.mk fun p5 Hj _ d5 lj => ?_)
  have l5' := li.trans lj
  have d := d.le l5'
  have l0 := l0.trans l5'
  refine d.get (centoref12_ResolveAll.c hu (hL.le l0) (hP.le l0) (by omega) (by omega) fun Hm xk lk wk _ => D4.mk fun p6 Hl _ d6 ll' => ?_)
  have l6' := lk.trans ll'
  have l0 := l0.trans l6'
  have m56 := l6'
  have m46 := l5'.trans m56
  have m36 := l4'.trans m46
  have m26 := l3'.trans m36
  have m16 := l2.trans m26
  have wa := RdH.le wa (lb.trans m16)
  have wc := RdH.le wc (ld.trans m26)
  have we := RdH.le we (lf.trans m36)
  have wg := RdH.le wg (lh.trans m46)
  have wi := RdH.le wi (lj.trans m56)
  have wk := RdH.le wk ll'
  refine dRefl ((d1.le m16).get ((d2.le m26).get (centoref12_SameHunk.b wa.1 wa.2.1 wa.2.2 wc.1 wc.2.1 wc.2.2 ordR_sm.1 ordR_sm.2.1 ordR_sm.2.2 fun H6 l6 => dRefl (dRefl ?_))))
  have wx := allR_sm (f := L f) (ls := ls) (ps := ps) (by omega)
  refine (((d3.le m36).le l6)).get ((((d4.le m46).le l6)).get (centoref12_SameHunk.b (RdH.le we l6).1 (RdH.le we l6).2.1 (RdH.le we l6).2.2 (RdH.le wg l6).1 (RdH.le wg l6).2.1 (RdH.le wg l6).2.2 dropR_sm.1 dropR_sm.2.1 dropR_sm.2.2 fun H7 l7 => dRefl (dRefl ?_)))
  have l67 := l6.trans l7
  refine (((d5.le m56).le l67)).get (((d6.le l67)).get (centoref12_SameHunk.b (RdH.le wi l67).1 (RdH.le wi l67).2.1 (RdH.le wi l67).2.2 (RdH.le wk l67).1 (RdH.le wk l67).2.1 (RdH.le wk l67).2.2 wx.1 wx.2.1 wx.2.2 fun H8 l8 => ⟨decide_eq_true rfl, l0.trans (l67.trans l8)⟩))

theorem resolveTells_own : ownKnob Tryd.prog.godebug = none := by kernel_rfl
theorem resolveTells_laid : laidOutB Tryd.prog = true := by kernel_rfl
set_option maxRecDepth 100000 in
theorem resolveTells_lifted (os : Os) (started : os.Started) (H : Type) (enc : TypeId × Value → H) :
    ReturnsInHanded {} Tryd.checked os 3 .any (fun w args => (Rows.resolveTellsSpec.pre enc Tryd.prog Tryd.f3 [] false w args ∧ laidMetH Tryd.prog laidTz w) ∧ sizedMet enc Tryd.prog Tryd.f3 (OpenSpec.ofChange Rows.resolveTellsSpec) false w args)
      (Rows.resolveTellsSpec.post enc Tryd.prog Tryd.f3 false true false false) := by
  refine returnsInHanded_of_change_and (C := Tryd.checked) (X := fun w _ => laidMetH Tryd.prog laidTz w) (fun _ _ _ hh h => h.of_heap hh) resolveTells_own started (by kernel_rfl) Tryd.func3
    (ChangeSpec.witness_shaped (enc := enc) (C := Tryd.checked) (os := os) (X := fun w _ => laidMetH Tryd.prog laidTz w) false (World.doorLaid Tryd.prog 400 os) #[.agg #[.string .empty, .slice none 0 0, .slice none 0 0], .agg #[.int .u32 (0 : Int), .int .i64 (0 : Int)], .agg #[.int .u32 (0 : Int), .int .i64 (0 : Int)]] 8 rfl (World.shaped_of_RefB (by kernel_rfl) (by kernel_rfl)) (by kernel_rfl) (by kernel_rfl) (by kernel_rfl) (door_met os _)) ?_
  intro W base args ds gs before hval0 hW _ _ hL _
  have hval : ∀ (j : Nat) t v, Tryd.f3.params[j]? = some t → args[j]? = some v → Value.okWide Tryd.prog W .any base t v := hval0
  have hW' := hW
  obtain ⟨p, q, hA0, hV, rfl, hfz, hnd⟩ := hW
  have hA : DataW.TrodAll enc Tryd.prog W 0 (fun _ => true) true Tryd.f3.params.toList args.toList ds p := hA0
  rw [Tryd.params3] at hA hval
  obtain ⟨v0, v1, v2, d0, d1, d2, p0, p1, p2, rfl, rfl, rfl, h0, h1, h2⟩ := trodAll_three hA
  obtain ⟨cs0, x0, rfl, s0⟩ := openSt Tryd.underlying25 (opens_st Tryd.underlying25 (by kernel_rfl) (opensF_cons rfl (opens_str Tryd.underlying9 (by kernel_rfl)) rfl (opensF_cons rfl (opens_sl (by decide) Tryd.underlying22 (by kernel_rfl) (opens_st Tryd.underlying53 (by kernel_rfl) (opensF_cons rfl (opens_st Tryd.underlying28 (by kernel_rfl) (opensF_cons rfl (opens_int Tryd.underlying26 (by kernel_rfl)) rfl (opensF_one rfl (opens_int Tryd.underlying3 (by kernel_rfl))))) rfl (opensF_cons rfl (opens_str Tryd.underlying9 (by kernel_rfl)) rfl (opensF_one rfl (opens_bool Tryd.underlying4 (by kernel_rfl))))))) rfl (opensF_one rfl (opens_sl (by decide) Tryd.underlying23 (by kernel_rfl) (opens_st Tryd.underlying77 (by kernel_rfl) (opensF_cons rfl (opens_int Tryd.underlying3 (by kernel_rfl)) rfl (opensF_one rfl (opens_int Tryd.underlying3 (by kernel_rfl)))))))))) (hval 0 25 v0 rfl rfl) h0 (fun x hx => by simp [hx]) hfz
  obtain ⟨cs1, x1, rfl, s1⟩ := openSt Tryd.underlying28 (opens_st Tryd.underlying28 (by kernel_rfl) (opensF_cons rfl (opens_int Tryd.underlying26 (by kernel_rfl)) rfl (opensF_one rfl (opens_int Tryd.underlying3 (by kernel_rfl))))) (hval 1 28 v1 rfl rfl) h1 (fun x hx => by simp [hx]) hfz
  obtain ⟨cs2, x2, rfl, s2⟩ := openSt Tryd.underlying28 (opens_st Tryd.underlying28 (by kernel_rfl) (opensF_cons rfl (opens_int Tryd.underlying26 (by kernel_rfl)) rfl (opensF_one rfl (opens_int Tryd.underlying3 (by kernel_rfl))))) (hval 2 28 v2 rfl rfl) h2 (fun x hx => by simp [hx]) hfz
  refine (calls_true (resolveTells_law s0 s1 s2 (tz_of_laid hL)) Tryd.func3 (by kernel_rfl)).mono fun e W' ⟨he, hk⟩ => ?_
  subst he
  exact ⟨_, rfl, post_true resolveTells_laid hW' (by kernel_rfl) rfl rfl rfl Tryd.underlying4 hk⟩

theorem resolveTells_row : Rows.ResolveTellsSaid :=
  OpenClaim.holds_of_wide 3 Tryd.f3 rfl rfl rfl rfl rfl rfl rfl ⟨rfl, rfl, rfl, rfl, rfl⟩ rfl rfl rfl rfl rfl (by kernel_rfl) Tryd.func3 (by kernel_rfl)
    (of_decide_eq_true (by kernel_rfl)) (by unfold Func.isWrapper; first | (rw [if_pos (by decide +kernel)]; kernel_rfl) | (rw [if_neg (by decide +kernel)]; exact ⟨rfl, rfl⟩))
    (fun os started H enc _ => resolveTells_lifted os started H enc)

theorem resolveTells_card : Rows.ResolveTellsCardSaid :=
  Claim7.holds_tied_plain_at .later [] [.data] true (true, "1742c24b9215d7ca8645109c8f16d9e845d7caad132e2324de6df02b83e6f8a9") false
    resolveTells_row (fun _ h => by cases h) (by kernel_rfl) (fun _ h => by cases h) resolveTells_row_tie rfl ⟨rfl, rfl⟩ (by kernel_rfl) rfl
    (fun f fn hf hfn => by
      obtain rfl : f = 3 := Option.some.inj ((show Tryd.prog.funcNamed Rows.resolveTellsRow.func = some 3 by kernel_rfl).symm.trans hf) |>.symm
      obtain rfl : fn = Tryd.f3 := (Option.some.inj (Tryd.func3.symm.trans hfn)).symm
      exact ⟨by kernel_rfl, fun j t ht => by
        rw [Tryd.params3] at ht
        have hm : t ∈ [25, 28] := by
          have := Array.mem_of_getElem? ht
          simp at this
          first | (rcases this with rfl | rfl | rfl <;> simp) | simp [this]
        have hall : ([25, 28].all fun u => !Tryd.prog.wantsStandIn u) = true := by kernel_rfl
        exact (show Tryd.prog.wantsStandIn t = false by simpa using List.all_eq_true.1 hall t hm)⟩)
    (by kernel_rfl)
end Go.Proofs.YtganockeifkecaaDoor
