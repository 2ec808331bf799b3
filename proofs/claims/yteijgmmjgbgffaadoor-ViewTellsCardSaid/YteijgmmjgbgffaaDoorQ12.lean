/- For every input ViewTells returns true, and what came in reads as it did: no condition. -/
import Derived.Test.YteijgmmjgbgffaaDoorZ5
namespace Go.Proofs.YteijgmmjgbgffaaDoor
open Go.V
open Go.ChangeShapes Go.WideShapes Go.ChangeAt Go.RowKit
theorem viewTells_law {cs0 : List Value} {x0 : ByteArray × List ((Int × Int) × ByteArray × Bool) × List (Int × Int)} {H : Hp} (s0 : fileE.rep H cs0 x0) (hT : Tz H) : CallH prog centolaw14_ViewTells.num [.agg ⟨cs0⟩] H fun v H' => liftB v fun r => r = true ∧ Le H H' := by
  obtain ⟨lp, ll, lc, pp, pl, pc, rfl, hL, hP, hml⟩ := fileE_rep s0
  generalize x0.2.1.map toLn = ls at hL
  generalize x0.2.2 = ps at hP
  generalize x0.1 = f
  show centolaw14_ViewTells.C f lp ll lc pp pl pc H fun r H' => r = true ∧ Le H H'
  apply centolaw14_ViewTells.of
  have e1 := hL.len
  have e2 := hP.len
  intro a ha
  have da : D3 (upd H a [.string f, .slice lp ll lc, .slice pp pl pc]) a f lp ll lc pp pl pc := D3.new
  have le1 : Le H (upd H a [.string f, .slice lp ll lc, .slice pp pl pc]) := Le.upd ha
  generalize upd H a [.string f, .slice lp ll lc, .slice pp pl pc] = H1 at *
  refine centolaw14_known.c (hT.le le1) fun H3 le3 => bcn (fun h => by cases h) fun _ => ?_
  have le03 := le1.trans le3
  refine (da.le le3).get (centolaw14_few.c (hL.le le03) (hP.le le03) hml fun H4 le4 => ?_)
  have le04 := le03.trans le4
  refine bcn (fun _ => ⟨rfl, le04⟩) fun f1 => ?_
  obtain ⟨g1, g2, ht⟩ := fewV_len f1
  have d4 := (da.le le3).le le4
  have hL4 := hL.le le04
  have hP4 := hP.le le04
  have hT4 := hT.le le04
  have shl := shL_len (ls := ls) (ps := ps)
  have shl2 := (ord_spec (ls := ls) (ps := ps)).2.2.2
  have shl3 := alv_len (ls := ls)
  clear le1 le3 le4 le03 da hL hP hT s0 f1 ha hml
  have key : ∀ (r37 r54 : ByteArray) (r38 r55 : Bool) (H6 : Hp), r37 = r54 → r38 = r55 → r55 = linB ls ps → Le H4 H6 → ldS (rd H6 a 0) fun x64 => ldL (rd H6 a 1) fun xp65 xl66 xc67 => ldL (rd H6 a 2) fun xp68 xl69 xc70 => ldS (rd H6 a 0) fun x71 => ldL (rd H6 a 1) fun xp72 xl73 xc74 => ldL (rd H6 a 2) fun xp75 xl76 xc77 => view_Show.C x64 xp65 xl66 xc67 xp68 xl69 xc70 H6 fun rp78 rl79 _ Hx81 => rd Hx81 a 0 = some (.string x71) ∧ (rd Hx81 a 1 = some (.slice xp72 xl73 xc74) ∧ (rd Hx81 a 2 = some (.slice xp75 xl76 xc77) ∧ (centoref12_Show.C x71 xp72 xl73 xc74 xp75 xl76 xc77 Hx81 fun rp89 rl90 _ Hx92 => bc ((decide (¬ r37 = r54))) ((fun r H' => r = true ∧ Le H H') false Hx92) (bc ((decide (¬ r38 = r55))) ((fun r H' => r = true ∧ Le H H') false Hx92) (bc ((decide (¬ ((rl79 : Nat) : Int) = ((rl90 : Nat) : Int)))) ((fun r H' => r = true ∧ Le H H') false Hx92) (centolaw14_ViewTells.k1 (fun r H' => r = true ∧ Le H H') a r55 rl79 rl90 rp78 rp89 Hx92)))))) := by
    rintro r37 r54 r38 r55 H6 rfl rfl rfl le46
    have d6 := d4.le le46
    refine d6.get (d6.get (view_Show.c (hL4.le le46) (hP4.le le46) (hT4.le le46) (by omega) (by omega) fun p7 l7 c7 H7 hB7 le67 => ⟨(d6.le le67).1, (d6.le le67).2.1, (d6.le le67).2.2, ?_⟩))
    have le47 := le46.trans le67
    refine centoref12_Show.c (hL4.le le47) (hP4.le le47) (by omega) (by omega) fun p8 l8 c8 H8 hB8 le78 => ?_
    have le48 := le47.trans le78
    have s7 := (hB7.sn shC_len (by decide)).le le78
    have s8 := hB8.sn shC_len (by decide)
    have n7 := s7.len
    have n8 := s8.len
    refine bcd (fun h => absurd rfl h) fun _ => bcd (fun h => absurd rfl h) fun _ => bcd (fun h => absurd (by rw [n7, n8]) h) fun _ => ?_
    unfold centolaw14_ViewTells.k1
    refine ⟨fun n t Hx => ∃ i : Nat, t = (i : Nat) ∧ i ≤ l7 ∧ Hx = H8 ∧ n = ((((shL ls ps).take i).filter fun s => decide (s.m ≠ 32)).length : Nat), fun _ t _ => ((l7 : Int) - t).toNat, ⟨0, rfl, Nat.zero_le _, rfl, rfl⟩, ?_⟩
    rintro n t Hx ⟨i, rfl, gi, rfl, rfl⟩
    refine bcd (fun hlt => ?_) fun hlt => ?_
    · have hi : i < (shL ls ps).length := by omega
      refine sn_nil s7 (by omega) hlt fun q o _ e => ?_
      simp only [Int.toNat_natCast] at e ⊢
      refine ldI_i (e 0 _ rfl) (ldI_i (e 1 _ rfl) (ldI_i (e 2 _ rfl) (ldS_i (e 3 _ rfl) ?_)))
      refine sn_nil s8 (by omega) (by omega) fun q' o' _ e' => ?_
      simp only [Int.toNat_natCast] at e' ⊢
      refine ldI_i (e' 0 _ rfl) (ldI_i (e' 1 _ rfl) (ldI_i (e' 2 _ rfl) (ldS_i (e' 3 _ rfl) ?_)))
      refine bcn (fun h => ?_) fun _ => ?_
      · simp at h
      refine sn_nil s8 (by omega) (by omega) fun q'' o'' _ e'' => ?_
      simp only [Int.toNat_natCast] at e'' ⊢
      refine ldI_i (e'' 2 _ rfl) ?_
      have hs : ((((shL ls ps)[i].m.toNat : Nat) : Int) = 32) ↔ (shL ls ps)[i].m = 32 := u8_eq' (b := 32)
      have hcl : (((shL ls ps).take i).filter fun s => decide (s.m ≠ 32)).length ≤ i := Nat.le_trans (List.length_filter_le _ _) (by simp; omega)
      refine bcd (fun h => chk (by omega) (chk (by omega) ⟨⟨i + 1, by omega, by omega, by trivial, ?_⟩, by first | omega | (dsimp only; omega)⟩)) fun h => chk (by omega) ⟨⟨i + 1, by omega, by omega, by trivial, ?_⟩, by first | omega | (dsimp only; omega)⟩
      · rw [List.take_succ_eq_append_getElem hi, List.filter_append, List.filter_cons_of_pos (by rw [decide_eq_true_eq, ne_eq, ← hs]; exact h), List.length_append]; rfl
      · rw [List.take_succ_eq_append_getElem hi, List.filter_append, List.filter_cons_of_neg (by rw [decide_eq_true_eq, ne_eq, ← hs]; exact h)]; simp
    · have : i = (shL ls ps).length := by omega
      subst this
      rw [List.take_length]
      have d8 := d4.le le48
      refine d8.get (view_Linear.c (hL4.le le48) (hP4.le le48) (hT4.le le48) (by omega) (by omega) fun H9 le9 => bcd (fun _ => ?_) fun h => absurd rfl h)
      have le49 := le48.trans le9
      have d9 := d4.le le49
      refine d9.get (d9.get (view_Order.c (hL4.le le49) (hP4.le le49) (hT4.le le49) (by omega) (by omega) fun p10 l10 c10 H10 hB10 le10 => ⟨(d9.le le10).1, (d9.le le10).2.1, (d9.le le10).2.2, ?_⟩))
      have le410 := le49.trans le10
      refine centoref12_Order.c (hL4.le le410) (hP4.le le410) (by omega) (by omega) fun p11 l11 c11 H11 hB11 le11 => ?_
      have le411 := le410.trans le11
      have s10 := (hB10.sl).le le11
      have s11 := hB11.sl
      have n10 := s10.len
      have ol : (ordP ls ps).length = (ordL ls ps).length := by unfold ordP; simp
      refine centoref4_Alike.c s10 s11 (by omega) (bcd (fun _ => ?_) fun h => absurd rfl h)
      have d11 := d4.le le411
      refine d11.get (d11.get (view_Print.c (hL4.le le411) (hP4.le le411) (hT4.le le411) (by omega) (by omega) ht fun H12 le12 => ⟨(d11.le le12).1, (d11.le le12).2.1, (d11.le le12).2.2, ?_⟩))
      have le412 := le411.trans le12
      refine centoref12_Print.c (hL4.le le412) (hP4.le le412) (by omega) (by omega) ht fun H13 le13 => bcd (fun _ => ?_) fun h => absurd rfl h
      have le413 := le412.trans le13
      refine (d4.le le413).get (view_Conflicts.c (hL4.le le413) (hP4.le le413) (hT4.le le413) (by omega) (by omega) fun H14 le14 => ⟨?_, le04.trans (le413.trans le14)⟩)
      exact decide_eq_true rfl
  refine d4.get (view_Text.c hL4 hP4 hT4 (by omega) (by omega) ht (fun hl H5 le5 => ?_) fun hl H5 le5 => ?_)
  · refine (d4.le le5).get (centoref12_Text.c (hL4.le le5) (hP4.le le5) (by omega) (by omega) ht (fun _ H6 le6 => ?_) fun h => absurd (hl.symm.trans h) (by decide))
    exact key _ _ _ _ H6 rfl rfl hl.symm (le5.trans le6)
  · refine (d4.le le5).get (centoref12_Text.c (hL4.le le5) (hP4.le le5) (by omega) (by omega) ht (fun h => absurd (h.symm.trans hl) (by decide)) fun _ H6 le6 => ?_)
    exact key _ _ _ _ H6 rfl rfl hl.symm (le5.trans le6)

theorem viewTells_own : ownKnob Tryd.prog.godebug = none := by kernel_rfl
theorem viewTells_laid : laidOutB Tryd.prog = true := by kernel_rfl
set_option maxRecDepth 100000 in
theorem viewTells_lifted (os : Os) (started : os.Started) (H : Type) (enc : TypeId × Value → H) :
    ReturnsInHanded {} Tryd.checked os 7 .any (fun w args => (Rows.viewTellsSpec.pre enc Tryd.prog Tryd.f7 [] false w args ∧ laidMetH Tryd.prog laidTz w) ∧ sizedMet enc Tryd.prog Tryd.f7 (OpenSpec.ofChange Rows.viewTellsSpec) false w args)
      (Rows.viewTellsSpec.post enc Tryd.prog Tryd.f7 false true false false) := by
  refine returnsInHanded_of_change_and (C := Tryd.checked) (X := fun w _ => laidMetH Tryd.prog laidTz w) (fun _ _ _ hh h => h.of_heap hh) viewTells_own started (by kernel_rfl) Tryd.func7
    (ChangeSpec.witness_shaped (enc := enc) (C := Tryd.checked) (os := os) (X := fun w _ => laidMetH Tryd.prog laidTz w) false (World.doorLaid Tryd.prog 400 os) #[.agg #[.string .empty, .slice none 0 0, .slice none 0 0]] 8 rfl (World.shaped_of_RefB (by kernel_rfl) (by kernel_rfl)) (by kernel_rfl) (by kernel_rfl) (by kernel_rfl) (door_met os _)) ?_
  intro W base args ds gs before hval0 hW _ _ hL _
  have hval : ∀ (j : Nat) t v, Tryd.f7.params[j]? = some t → args[j]? = some v → Value.okWide Tryd.prog W .any base t v := hval0
  have hW' := hW
  obtain ⟨p, q, hA0, hV, rfl, hfz, hnd⟩ := hW
  have hA : DataW.TrodAll enc Tryd.prog W 0 (fun _ => true) true Tryd.f7.params.toList args.toList ds p := hA0
  rw [Tryd.params7] at hA hval
  obtain ⟨v0, d0, rfl, rfl, h0⟩ := trodAll_one hA
  obtain ⟨cs0, x0, rfl, s0⟩ := openSt Tryd.underlying59 (opens_st Tryd.underlying59 (by kernel_rfl) (opensF_cons rfl (opens_str Tryd.underlying9 (by kernel_rfl)) rfl (opensF_cons rfl (opens_sl (by decide) Tryd.underlying57 (by kernel_rfl) (opens_st Tryd.underlying76 (by kernel_rfl) (opensF_cons rfl (opens_st Tryd.underlying67 (by kernel_rfl) (opensF_cons rfl (opens_int Tryd.underlying65 (by kernel_rfl)) rfl (opensF_one rfl (opens_int Tryd.underlying3 (by kernel_rfl))))) rfl (opensF_cons rfl (opens_str Tryd.underlying9 (by kernel_rfl)) rfl (opensF_one rfl (opens_bool Tryd.underlying4 (by kernel_rfl))))))) rfl (opensF_one rfl (opens_sl (by decide) Tryd.underlying23 (by kernel_rfl) (opens_st Tryd.underlying50 (by kernel_rfl) (opensF_cons rfl (opens_int Tryd.underlying3 (by kernel_rfl)) rfl (opensF_one rfl (opens_int Tryd.underlying3 (by kernel_rfl)))))))))) (hval 0 59 v0 rfl rfl) h0 (fun x hx => by simp [hx]) hfz
  refine (calls_true (viewTells_law s0 (tz_of_laid hL)) Tryd.func7 (by kernel_rfl)).mono fun e W' ⟨he, hk⟩ => ?_
  subst he
  exact ⟨_, rfl, post_true viewTells_laid hW' (by kernel_rfl) rfl rfl rfl Tryd.underlying4 hk⟩

theorem viewTells_row : Rows.ViewTellsSaid :=
  OpenClaim.holds_of_wide 7 Tryd.f7 rfl rfl rfl rfl rfl rfl rfl ⟨rfl, rfl, rfl, rfl, rfl⟩ rfl rfl rfl rfl rfl (by kernel_rfl) Tryd.func7 (by kernel_rfl)
    (of_decide_eq_true (by kernel_rfl)) (by unfold Func.isWrapper; first | (rw [if_pos (by decide +kernel)]; kernel_rfl) | (rw [if_neg (by decide +kernel)]; exact ⟨rfl, rfl⟩))
    (fun os started H enc _ => viewTells_lifted os started H enc)

theorem viewTells_card : Rows.ViewTellsCardSaid :=
  Claim7.holds_tied_plain_at .later [] [.data] true (true, "f1eba887bf2a15496a222adcf75d60a0462008cefa76589392225645476a6e39") false
    viewTells_row (fun _ h => by cases h) (by kernel_rfl) (fun _ h => by cases h) viewTells_row_tie rfl ⟨rfl, rfl⟩ (by kernel_rfl) rfl
    (fun f fn hf hfn => by
      obtain rfl : f = 7 := Option.some.inj ((show Tryd.prog.funcNamed Rows.viewTellsRow.func = some 7 by kernel_rfl).symm.trans hf) |>.symm
      obtain rfl : fn = Tryd.f7 := (Option.some.inj (Tryd.func7.symm.trans hfn)).symm
      exact ⟨by kernel_rfl, fun j t ht => by
        rw [Tryd.params7] at ht
        have hm : t ∈ [59] := by
          have := Array.mem_of_getElem? ht
          simp at this
          first | (rcases this with rfl <;> simp) | simp [this]
        have hall : ([59].all fun u => !Tryd.prog.wantsStandIn u) = true := by kernel_rfl
        exact (show Tryd.prog.wantsStandIn t = false by simpa using List.all_eq_true.1 hall t hm)⟩)
    (by kernel_rfl)
end Go.Proofs.YteijgmmjgbgffaaDoor
