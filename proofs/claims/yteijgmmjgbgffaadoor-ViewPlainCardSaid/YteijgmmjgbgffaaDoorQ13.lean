/- For every input ViewPlain returns true, and what came in reads as it did: no condition. -/
import Derived.Test.YteijgmmjgbgffaaDoorZ5
namespace Go.Proofs.YteijgmmjgbgffaaDoor
open Go.V
open Go.ChangeShapes Go.WideShapes Go.ChangeAt Go.RowKit
theorem apartM_iff {M : Nat → Nat → Bool} {n i : Nat} : apartM M n i = true ↔ ∃ k, k < n ∧ k ≠ i ∧ M i k = false ∧ M k i = false := by
  unfold apartM
  rw [List.any_eq_true]
  constructor
  · rintro ⟨k, hk, h⟩
    simp only [Bool.and_eq_true, decide_eq_true_eq, Bool.not_eq_true'] at h
    exact ⟨k, List.mem_range.1 hk, h.1, h.2.1, h.2.2⟩
  · rintro ⟨k, hk, h1, h2, h3⟩
    exact ⟨k, List.mem_range.2 hk, by simp [h1, h2, h3]⟩
theorem markB_plain {M : Nat → Nat → Bool} {n i : Nat} : markB M n i = 32 ↔ M i i = false ∧ apartM M n i = false := by
  unfold markB
  cases h : M i i <;> cases h' : apartM M n i <;> simp
theorem lin_iff {ls : List Ln} {ps : List (Int × Int)} : linB ls ps = decide (cnfN ls ps = 0) := by
  have hs := ord_spec (ls := ls) (ps := ps)
  have e : cnfN ls ps = 0 ↔ ∀ k, k < (alv ls).length → markB (rM ls ps) (alv ls).length k = 32 := by
    unfold cnfN
    rw [List.length_eq_zero_iff, List.filter_eq_nil_iff]
    constructor
    · intro h k hk
      have := h (shn ls ps k) (List.mem_map.2 ⟨k, (hs.1 k).2 hk, rfl⟩)
      rw [decide_eq_true_eq, shn_m, ne_eq, Classical.not_not] at this
      exact this
    · intro h s hx
      obtain ⟨k, hk, rfl⟩ := List.mem_map.1 hx
      rw [decide_eq_true_eq, shn_m, ne_eq, Classical.not_not]
      exact h k ((hs.1 k).1 hk)
  rw [Bool.eq_iff_iff, decide_eq_true_eq, e]
  unfold linB
  constructor
  · intro h k hk
    rw [markB_plain]
    refine ⟨(totB_iff.1 h).1 k hk, ?_⟩
    cases ha : apartM (rM ls ps) (alv ls).length k with
    | false => rfl
    | true =>
      obtain ⟨j, hj, hne, h1, h2⟩ := apartM_iff.1 ha
      rcases (totB_iff.1 h).2 k hk j hj with h3 | h3 | h3
      · exact absurd h3.symm hne
      · rw [h3] at h1; cases h1
      · rw [h3] at h2; cases h2
  · intro h
    refine totB_iff.2 ⟨fun a ha => (markB_plain.1 (h a ha)).1, fun a ha b hb => ?_⟩
    by_cases hne : a = b
    · exact .inl hne
    right
    cases h1 : rM ls ps a b with
    | true => exact .inl rfl
    | false =>
      cases h2 : rM ls ps b a with
      | true => exact .inr rfl
      | false =>
        have := apartM_iff.2 ⟨b, hb, Ne.symm hne, h1, h2⟩
        rw [(markB_plain.1 (h a ha)).2] at this; cases this
theorem endL_empty : endL [] = [10] := rfl
theorem viewPlain_law {cs0 : List Value} {x0 : ByteArray × List ((Int × Int) × ByteArray × Bool) × List (Int × Int)} {H : Hp} (s0 : fileE.rep H cs0 x0) (hT : Tz H) : CallH prog centolaw14_ViewPlain.num [.agg ⟨cs0⟩] H fun v H' => liftB v fun r => r = true ∧ Le H H' := by
  obtain ⟨lp, ll, lc, pp, pl, pc, rfl, hL, hP, hml⟩ := fileE_rep s0
  generalize x0.2.1.map toLn = ls at hL
  generalize x0.2.2 = ps at hP
  generalize x0.1 = f
  show centolaw14_ViewPlain.C f lp ll lc pp pl pc H fun r H' => r = true ∧ Le H H'
  apply centolaw14_ViewPlain.of
  have e1 := hL.len
  have e2 := hP.len
  intro a ha
  have da : D3 (upd H a [.string f, .slice lp ll lc, .slice pp pl pc]) a f lp ll lc pp pl pc := D3.new
  have le1 : Le H (upd H a [.string f, .slice lp ll lc, .slice pp pl pc]) := Le.upd ha
  generalize upd H a [.string f, .slice lp ll lc, .slice pp pl pc] = H1 at *
  refine centolaw14_known.c (hT.le le1) fun H3 le3 => bcn (fun h => by cases h) fun _ => ?_
  have le03 := le1.trans le3
  refine (da.le le3).get (centolaw14_few.c (hL.le le03) (hP.le le03) hml fun H4 le4 => ?_)
  have le04 := le03.trans le4
  refine bcn (fun _ => ⟨rfl, le04⟩) fun f1 => ?_
  obtain ⟨g1, g2, ht⟩ := fewV_len f1
  have d4 := (da.le le3).le le4
  have hL4 := hL.le le04
  have hP4 := hP.le le04
  have hT4 := hT.le le04
  have shl := shL_len (ls := ls) (ps := ps)
  have shl2 := (ord_spec (ls := ls) (ps := ps)).2.2.2
  have shl3 := alv_len (ls := ls)
  have ol : (ordP ls ps).length = (ordL ls ps).length := by unfold ordP; simp
  have bnd : ∀ x ∈ shL ls ps, (x.m :: endL x.t).length ≤ 1000002 := fun x hx => by
    obtain ⟨k, hk, rfl⟩ := List.mem_map.1 hx
    have := shn_len (ps := ps) (k := k) ht
    have := end_len (shn ls ps k).t
    simp; omega
  have bnt : ∀ x ∈ shL ls ps, x.t.length ≤ 1000000 := fun x hx => by
    obtain ⟨k, hk, rfl⟩ := List.mem_map.1 hx
    exact shn_len ht
  clear le1 le3 le4 le03 da hL hP hT s0 f1 ha hml
  have key : ∀ (r37 : ByteArray) (r38 : Bool) (H6 : Hp), (r38 = true → r37 = mkB (txtL ls ps)) → r38 = linB ls ps → Le H4 H6 → ldS (rd H6 a 0) fun x47 => ldL (rd H6 a 1) fun xp48 xl49 xc50 => ldL (rd H6 a 2) fun xp51 xl52 xc53 => view_Show.C x47 xp48 xl49 xc50 xp51 xl52 xc53 H6 fun rp54 rl55 _ Hx57 => ldS (rd Hx57 a 0) fun x65 => ldL (rd Hx57 a 1) fun xp66 xl67 xc68 => ldL (rd Hx57 a 2) fun xp69 xl70 xc71 => ldS (rd Hx57 a 0) fun x72 => ldL (rd Hx57 a 1) fun xp73 xl74 xc75 => ldL (rd Hx57 a 2) fun xp76 xl77 xc78 => view_Linear.C x65 xp66 xl67 xc68 xp69 xl70 xc71 Hx57 fun r79 Hx80 => rd Hx80 a 0 = some (.string x72) ∧ (rd Hx80 a 1 = some (.slice xp73 xl74 xc75) ∧ (rd Hx80 a 2 = some (.slice xp76 xl77 xc78) ∧ (view_Conflicts.C x72 xp73 xl74 xc75 xp76 xl77 xc78 Hx80 fun r88 Hx89 => bc ((decide (¬ r79 = (decide (r88 = (0 : Int)))))) ((fun r H' => r = true ∧ Le H H') false Hx89) (ldS (rd Hx89 a 0) fun x98 => ldL (rd Hx89 a 1) fun xp99 xl100 xc101 => ldL (rd Hx89 a 2) fun xp102 xl103 xc104 => view_Linear.C x98 xp99 xl100 xc101 xp102 xl103 xc104 Hx89 fun r105 Hx106 => bc ((decide (¬ r38 = r105))) ((fun r H' => r = true ∧ Le H H') false Hx106) (centolaw14_ViewPlain.k1 (fun r H' => r = true ∧ Le H H') a r37 r38 rl55 rp54 Hx106))))) := by
    rintro r37 r38 H6 hr rfl le46
    have d6 := d4.le le46
    refine d6.get (view_Show.c (hL4.le le46) (hP4.le le46) (hT4.le le46) (by omega) (by omega) fun p7 l7 c7 H7 hB7 le67 => ?_)
    have le47 := le46.trans le67
    have d7 := d4.le le47
    refine d7.get (d7.get (view_Linear.c (hL4.le le47) (hP4.le le47) (hT4.le le47) (by omega) (by omega) fun H8 le78 => ⟨(d7.le le78).1, (d7.le le78).2.1, (d7.le le78).2.2, ?_⟩))
    have le48 := le47.trans le78
    refine view_Conflicts.c (hL4.le le48) (hP4.le le48) (hT4.le le48) (by omega) (by omega) fun H9 le89 => bcd (fun h => absurd (by rw [lin_iff]; exact decide_eq_decide.2 (by omega)) h) fun _ => ?_
    have le49 := le48.trans le89
    refine (d4.le le49).get (view_Linear.c (hL4.le le49) (hP4.le le49) (hT4.le le49) (by omega) (by omega) fun H10 le910 => bcd (fun h => absurd rfl h) fun _ => ?_)
    have le410 := le49.trans le910
    have s10 := (hB7.sn shC_len (by decide)).le ((le78.trans le89).trans le910)
    have n7 := s10.len
    unfold centolaw14_ViewPlain.k1
    refine ⟨fun t p n Hx => ∃ i : Nat, n = (i : Nat) ∧ i ≤ l7 ∧ Le H10 Hx ∧ t = mkB (((shL ls ps).take i).flatMap (·.t)) ∧ p = mkB (((shL ls ps).take i).flatMap fun s => s.m :: endL s.t), fun _ _ t _ => ((l7 : Int) - t).toNat, ⟨0, rfl, Nat.zero_le _, Le.refl _, rfl, rfl⟩, ?_⟩
    rintro t p n Hx ⟨i, rfl, gi, lex, rfl, rfl⟩
    have h1 := flatTake_le (g := fun s : Shn => s.m :: endL s.t) (B := 1000002) ((shL ls ps).take i) fun x hx => bnd x (List.mem_of_mem_take hx)
    have h1' := flatTake_le (g := fun s : Shn => s.t) (B := 1000000) ((shL ls ps).take i) fun x hx => bnt x (List.mem_of_mem_take hx)
    have h2 : ((shL ls ps).take i).length ≤ 200 := by simp; omega
    have h3 := Nat.mul_le_mul_right 1000002 h2
    have h3' := Nat.mul_le_mul_right 1000000 h2
    refine bcd (fun hlt => ?_) fun hlt => ?_
    · have hi : i < (shL ls ps).length := by omega
      have h4 := bnt _ (List.getElem_mem hi)
      have hsx := s10.le lex
      have rds : ∀ {H'}, Le Hx H' → ∀ {F : ByteArray → Prop}, F (mkB (shL ls ps)[i].t) → IDX (i : Nat) l7 fun k => NIL p7 fun b o => ldS (rd H' b ((o + (k * 4)) + 3)) F := fun hle F hF => by
        refine sn_nil (hsx.le hle) (by omega) hlt fun q o _ e => ?_
        simp only [Int.toNat_natCast] at e ⊢
        exact ldS_i (e 3 _ rfl) hF
      refine rds (Le.refl _) ⟨by rw [mkB_size, mkB_size]; omega, ?_⟩
      refine sn_nil hsx (by omega) hlt fun q o _ e => ?_
      simp only [Int.toNat_natCast] at e ⊢
      refine ldI_i (e 2 _ rfl) ?_
      refine sn_nil hsx (by omega) hlt fun q o _ e => ?_
      simp only [Int.toNat_natCast] at e ⊢
      refine ldS_i (e 3 _ rfl) fun b' hb' => ?_
      have leb : Le Hx (upd Hx b' ([.int .u8 (((shL ls ps)[i].m.toNat : Nat) : Int)] ++ [tyM 5 0 0])) := Le.upd hb'
      refine ⟨leb.rd (e 3 _ rfl), bts_one ⟨leb.rd (e 3 _ rfl), ?_, ?_, ?_⟩⟩
      · rw [mkB_size, mkB_size]; simp only [List.length_singleton]; omega
      · rw [L_size, L_append, L_mk, L_mk, mkB_size]; simp only [List.length_append, List.length_singleton]; omega
      refine rds leb ?_
      have hb1 : (bs [10]).size = 1 := rfl
      have hsz : ((mkB (((shL ls ps).take i).flatMap fun s => s.m :: endL s.t) ++ mkB [(shL ls ps)[i].m]) ++ mkB (shL ls ps)[i].t).size ≤ 1000000000000 := by
        rw [L_size, L_append, L_append, L_mk, L_mk, L_mk]; simp only [List.length_append, List.length_singleton]; omega
      have et : mkB (((shL ls ps).take i).flatMap (·.t)) ++ mkB (shL ls ps)[i].t = mkB (((shL ls ps).take (i + 1)).flatMap (·.t)) := by
        rw [List.take_succ_eq_append_getElem hi, List.flatMap_append, List.flatMap_singleton, eq_iff_L, L_append]; rfl
      have ep : (shL ls ps)[i].t.getLast? ≠ some 10 → ((mkB (((shL ls ps).take i).flatMap fun s => s.m :: endL s.t) ++ mkB [(shL ls ps)[i].m]) ++ mkB (shL ls ps)[i].t) ++ bs [10] = mkB (((shL ls ps).take (i + 1)).flatMap fun s => s.m :: endL s.t) := fun h => by
        rw [List.take_succ_eq_append_getElem hi, List.flatMap_append, List.flatMap_singleton, eq_iff_L, L_append, L_append, L_append]
        unfold endL
        rw [if_neg h]; simp
      have ep' : (shL ls ps)[i].t.getLast? = some 10 → ((mkB (((shL ls ps).take i).flatMap fun s => s.m :: endL s.t) ++ mkB [(shL ls ps)[i].m]) ++ mkB (shL ls ps)[i].t) = mkB (((shL ls ps).take (i + 1)).flatMap fun s => s.m :: endL s.t) := fun h => by
        rw [List.take_succ_eq_append_getElem hi, List.flatMap_append, List.flatMap_singleton, eq_iff_L, L_append, L_append]
        conv => rhs; unfold endL
        simp [h, endL]
      rw [mkB_size]
      refine bcd (fun h => ⟨by rw [L_size, L_append, ← L_size] at *; simp only [List.length_append, ← L_size, hb1] at *; omega, chk (by omega) ⟨⟨i + 1, by omega, by omega, lex.trans leb, et, ep (by rw [List.length_eq_zero_iff.1 (by omega : (shL ls ps)[i].t.length = 0)]; simp)⟩, by first | omega | (dsimp only; omega)⟩⟩) fun h => ?_
      refine rds leb (rds leb (chk (by rw [mkB_size]; omega) ?_))
      refine idxN ((shL ls ps)[i].t.length - 1) (by rw [mkB_size]; omega) (by rw [mkB_size]; omega) ?_
      rw [getD_Lq (by rw [mkB_size]; omega)]
      have hg : (shL ls ps)[i].t.getLast? = some ((L (mkB (shL ls ps)[i].t))[(shL ls ps)[i].t.length - 1]'(by rw [L_mk]; omega)) := by
        rw [List.getLast?_eq_getElem?, List.getElem?_eq_getElem (by omega)]; rfl
      refine bcd (fun h => ⟨by rw [L_size, L_append, ← L_size] at *; simp only [List.length_append, ← L_size, hb1] at *; omega, chk (by omega) ⟨⟨i + 1, by omega, by omega, lex.trans leb, et, ep fun e => h (by rw [hg] at e; simp only [Option.some.injEq] at e; rw [e]; rfl)⟩, by first | omega | (dsimp only; omega)⟩⟩) fun h => ?_
      have h := u8_eq' (b := 10) |>.1 (Classical.not_not.1 h)
      exact chk (by omega) ⟨⟨i + 1, by omega, by omega, lex.trans leb, et, ep' (by rw [hg, h])⟩, by first | omega | (dsimp only; omega)⟩
    · rw [List.take_of_length_le (by omega)]
      have le4x := le410.trans lex
      have d10 := d4.le le4x
      have fin : ldS (rd Hx a 0) fun x163 => ldL (rd Hx a 1) fun xp164 xl165 xc166 => ldL (rd Hx a 2) fun xp167 xl168 xc169 => view_Print.C x163 xp164 xl165 xc166 xp167 xl168 xc169 Hx fun r170 Hx171 => bc ((decide (r170 = mkB (prnL ls ps)))) (ldS (rd Hx171 a 0) fun x179 => ldL (rd Hx171 a 1) fun xp180 xl181 xc182 => ldL (rd Hx171 a 2) fun xp183 xl184 xc185 => view_Order.C x179 xp180 xl181 xc182 xp183 xl184 xc185 Hx171 fun _ rl187 _ Hx189 => (fun r H' => r = true ∧ Le H H') (decide (((rl187 : Nat) : Int) = ((l7 : Nat) : Int))) Hx189) ((fun r H' => r = true ∧ Le H H') false Hx171) := by
        refine d10.get (view_Print.c (hL4.le le4x) (hP4.le le4x) (hT4.le le4x) (by omega) (by omega) ht fun H11 le11 => bcd (fun _ => ?_) fun h => absurd rfl h)
        have le411 := le4x.trans le11
        refine (d4.le le411).get (view_Order.c (hL4.le le411) (hP4.le le411) (hT4.le le411) (by omega) (by omega) fun p12 l12 c12 H12 hB12 le12 => ⟨?_, le04.trans (le411.trans le12)⟩)
        have := hB12.1
        rw [List.length_map] at this
        exact decide_eq_true (by omega)
      refine bcn (fun _ => fin) fun hl => bcd (fun _ => fin) fun h => absurd (hr hl) h
  refine d4.get (view_Text.c hL4 hP4 hT4 (by omega) (by omega) ht (fun hl H5 le5 => ?_) fun hl H5 le5 => ?_)
  · exact key _ _ H5 (fun h => by cases h) hl.symm le5
  · exact key _ _ H5 (fun _ => rfl) hl.symm le5

theorem viewPlain_own : ownKnob Tryd.prog.godebug = none := by kernel_rfl
theorem viewPlain_laid : laidOutB Tryd.prog = true := by kernel_rfl
set_option maxRecDepth 100000 in
theorem viewPlain_lifted (os : Os) (started : os.Started) (H : Type) (enc : TypeId × Value → H) :
    ReturnsInHanded {} Tryd.checked os 8 .any (fun w args => (Rows.viewPlainSpec.pre enc Tryd.prog Tryd.f8 [] false w args ∧ laidMetH Tryd.prog laidTz w) ∧ sizedMet enc Tryd.prog Tryd.f8 (OpenSpec.ofChange Rows.viewPlainSpec) false w args)
      (Rows.viewPlainSpec.post enc Tryd.prog Tryd.f8 false true false false) := by
  refine returnsInHanded_of_change_and (C := Tryd.checked) (X := fun w _ => laidMetH Tryd.prog laidTz w) (fun _ _ _ hh h => h.of_heap hh) viewPlain_own started (by kernel_rfl) Tryd.func8
    (ChangeSpec.witness_shaped (enc := enc) (C := Tryd.checked) (os := os) (X := fun w _ => laidMetH Tryd.prog laidTz w) false (World.doorLaid Tryd.prog 400 os) #[.agg #[.string .empty, .slice none 0 0, .slice none 0 0]] 8 rfl (World.shaped_of_RefB (by kernel_rfl) (by kernel_rfl)) (by kernel_rfl) (by kernel_rfl) (by kernel_rfl) (door_met os _)) ?_
  intro W base args ds gs before hval0 hW _ _ hL _
  have hval : ∀ (j : Nat) t v, Tryd.f8.params[j]? = some t → args[j]? = some v → Value.okWide Tryd.prog W .any base t v := hval0
  have hW' := hW
  obtain ⟨p, q, hA0, hV, rfl, hfz, hnd⟩ := hW
  have hA : DataW.TrodAll enc Tryd.prog W 0 (fun _ => true) true Tryd.f8.params.toList args.toList ds p := hA0
  rw [Tryd.params8] at hA hval
  obtain ⟨v0, d0, rfl, rfl, h0⟩ := trodAll_one hA
  obtain ⟨cs0, x0, rfl, s0⟩ := openSt Tryd.underlying59 (opens_st Tryd.underlying59 (by kernel_rfl) (opensF_cons rfl (opens_str Tryd.underlying9 (by kernel_rfl)) rfl (opensF_cons rfl (opens_sl (by decide) Tryd.underlying57 (by kernel_rfl) (opens_st Tryd.underlying76 (by kernel_rfl) (opensF_cons rfl (opens_st Tryd.underlying67 (by kernel_rfl) (opensF_cons rfl (opens_int Tryd.underlying65 (by kernel_rfl)) rfl (opensF_one rfl (opens_int Tryd.underlying3 (by kernel_rfl))))) rfl (opensF_cons rfl (opens_str Tryd.underlying9 (by kernel_rfl)) rfl (opensF_one rfl (opens_bool Tryd.underlying4 (by kernel_rfl))))))) rfl (opensF_one rfl (opens_sl (by decide) Tryd.underlying23 (by kernel_rfl) (opens_st Tryd.underlying50 (by kernel_rfl) (opensF_cons rfl (opens_int Tryd.underlying3 (by kernel_rfl)) rfl (opensF_one rfl (opens_int Tryd.underlying3 (by kernel_rfl)))))))))) (hval 0 59 v0 rfl rfl) h0 (fun x hx => by simp [hx]) hfz
  refine (calls_true (viewPlain_law s0 (tz_of_laid hL)) Tryd.func8 (by kernel_rfl)).mono fun e W' ⟨he, hk⟩ => ?_
  subst he
  exact ⟨_, rfl, post_true viewPlain_laid hW' (by kernel_rfl) rfl rfl rfl Tryd.underlying4 hk⟩

theorem viewPlain_row : Rows.ViewPlainSaid :=
  OpenClaim.holds_of_wide 8 Tryd.f8 rfl rfl rfl rfl rfl rfl rfl ⟨rfl, rfl, rfl, rfl, rfl⟩ rfl rfl rfl rfl rfl (by kernel_rfl) Tryd.func8 (by kernel_rfl)
    (of_decide_eq_true (by kernel_rfl)) (by unfold Func.isWrapper; first | (rw [if_pos (by decide +kernel)]; kernel_rfl) | (rw [if_neg (by decide +kernel)]; exact ⟨rfl, rfl⟩))
    (fun os started H enc _ => viewPlain_lifted os started H enc)

theorem viewPlain_card : Rows.ViewPlainCardSaid :=
  Claim7.holds_tied_plain_at .later [] [.data] true (true, "f1eba887bf2a15496a222adcf75d60a0462008cefa76589392225645476a6e39") false
    viewPlain_row (fun _ h => by cases h) (by kernel_rfl) (fun _ h => by cases h) viewPlain_row_tie rfl ⟨rfl, rfl⟩ (by kernel_rfl) rfl
    (fun f fn hf hfn => by
      obtain rfl : f = 8 := Option.some.inj ((show Tryd.prog.funcNamed Rows.viewPlainRow.func = some 8 by kernel_rfl).symm.trans hf) |>.symm
      obtain rfl : fn = Tryd.f8 := (Option.some.inj (Tryd.func8.symm.trans hfn)).symm
      exact ⟨by kernel_rfl, fun j t ht => by
        rw [Tryd.params8] at ht
        have hm : t ∈ [59] := by
          have := Array.mem_of_getElem? ht
          simp at this
          first | (rcases this with rfl <;> simp) | simp [this]
        have hall : ([59].all fun u => !Tryd.prog.wantsStandIn u) = true := by kernel_rfl
        exact (show Tryd.prog.wantsStandIn t = false by simpa using List.all_eq_true.1 hall t hm)⟩)
    (by kernel_rfl)
end Go.Proofs.YteijgmmjgbgffaaDoor
