/- For every input ObjMakes returns true, and what came in reads as it did: no condition. -/
import Derived.Test.YteijgmmjgbgffaaDoorJ4
import Derived.Test.YteijgmmjgbgffaaDoorBT
import Derived.Test.YteijgmmjgbgffaaDoorVcOpen
namespace Go.Proofs.YteijgmmjgbgffaaDoor
open Go.V
open Go.ChangeShapes Go.WideShapes Go.ChangeAt Go.RowKit
theorem Sl_toL' {H : Hp} {p : Option Addr} {l c : Nat} {xs : List ByteArray} (h : Sl Value.string H p l c xs) : Sl sv H p l c (xs.map L) := by
  refine ⟨by rw [List.length_map]; exact h.1, h.2.1, h.2.2.imp (fun e => by rw [e]; rfl) fun ⟨b, o, e, hh⟩ => ⟨b, o, e, fun i hi => ?_⟩⟩
  rw [List.length_map] at hi
  rw [List.getElem_map]
  exact hh i hi
theorem fewB_len' {ls : List BL} {ps : List (Int × Int)} (h : fewB ls ps = true) : ls.length ≤ 50 ∧ ps.length ≤ 200 := by
  unfold fewB at h
  rw [Bool.and_eq_true, Bool.and_eq_true, decide_eq_true_eq, decide_eq_true_eq] at h
  exact h.2
theorem prs_pairwise (M : Nat → Nat → Bool) (n : Nat) : (prs M n).Pairwise fun p q => lexL p q = true := by
  unfold prs
  rw [List.pairwise_flatMap]
  refine ⟨fun x _ => ?_, ?_⟩
  · rw [List.pairwise_map]
    unfold els
    refine (List.Pairwise.filter _ List.pairwise_lt_range).imp fun {a b} h => ?_
    unfold lexL; rw [decide_eq_true_eq]; dsimp only; omega
  · refine List.pairwise_lt_range.imp fun {a b} h p hp q hq => ?_
    obtain ⟨y, _, rfl⟩ := List.mem_map.1 hp
    obtain ⟨z, _, rfl⟩ := List.mem_map.1 hq
    unfold lexL; rw [decide_eq_true_eq]; dsimp only; omega
theorem risB_of {ps : List (Int × Int)} (h : ps.Pairwise fun p q => lexL p q = true) : risB ps = true := by
  unfold risB risTo
  rw [List.all_eq_true]
  intro k hk
  have hk := List.mem_range.1 hk
  by_cases h0 : k = 0
  · rw [decide_eq_true h0]; rfl
  · rw [getD_at (by omega), getD_at hk, List.pairwise_iff_getElem.1 h (k - 1) k (by omega) hk (by omega)]
    simp
theorem chkO_prs {ls : List BL} {M : Nat → Nat → Bool} (h0 : labE ls = 0) (hs : Sup M ls.length) : chkO ls (prs (clo M ls.length) ls.length) = 0 := by
  unfold chkO
  rw [if_neg (by rw [h0]; simp), if_pos ?_]
  rw [risB_of (prs_pairwise _ _), okP_prs]
  unfold trB
  rw [ofM_prs (clo_sup hs), clo_clo hs, sameM_refl]; rfl
theorem makE_want (ls : List BL) (k : Nat) : makE ls k = if 40 < ls.length then 11 else if k ≠ ls.length then 10 else if labOk ls then 0 else 10 := by
  unfold makE labE
  by_cases h : 40 < ls.length
  · rw [if_pos h, if_pos (by decide), if_pos h]
  · rw [if_neg h, if_neg h]
    cases labOk ls with
    | true => simp
    | false => simp
theorem objMakes_law {lp pp : Option Addr} {ll lc pl pc : Nat} {xs : List ByteArray} {ps : List (Int × Int)} {n : Int} {H : Hp} (s0 : Enc.str.rows H lp ll lc xs) (wn : (Lit.int .u8 n).wf = true) (hP : Sn 2 pairC H pp pl pc ps) (_ : ∀ x ∈ ps, (Lit.int .i64 x.1).wf = true ∧ (Lit.int .i64 x.2).wf = true) (hT : Tz H) :
    centolaw4_ObjMakes.C lp ll lc n pp pl pc H fun r H' => r = true ∧ Le H H' := by
  apply centolaw4_ObjMakes.of
  have bn := wf_u8 wn
  obtain ⟨n, rfl⟩ : ∃ k : Nat, n = k := ⟨n.toNat, by omega⟩
  have hL := Sl_toL' s0.strs
  have hml : ll ≤ maxLen := Nat.le_trans s0.2.1 s0.2.2.1
  generalize xs.map L = ls at hL
  have e1 := hL.len
  have e2 := hP.len
  refine centolaw4_known.c hT fun H0 le0 => bcn (fun h => by cases h) fun _ => ?_
  refine centolaw4_few.c (hL.le le0) (hP.le le0) hml fun H1 le1 => bcn (fun _ => ⟨rfl, le0.trans le1⟩) fun f1 => ⟨by decide, ?_⟩
  have g1 := fewB_len' f1
  have le01 := le0.trans le1
  have main : ∀ k : Nat, k ≤ 50 → centolaw4_ObjMakes.k1 (fun r H' => r = true ∧ Le H H') lc ll lp pc pl pp (k : Nat) H1 := by
    intro k hk
    unfold centolaw4_ObjMakes.k1
    refine centoref2_Some.c (hP.le le01) (by omega) fun m O2 H2 u2 _ le2 => ?_
    rw [show (max 0 (min ((k : Nat) : Int) 200)).toNat = k by omega] at u2
    generalize hM : ofM ps k = M at u2
    obtain ⟨_, _, _, rfm⟩ := id u2
    have hsup : Sup M k := rfm.out
    refine centoref2_Rel_Pairs.c u2 fun p3 l3 c3 H3 q3 _ le3 => ?_
    have le03 := (le01.trans le2).trans le3
    refine rel_Of.c q3 (by have := prs_len_le M k; have := Nat.mul_le_mul hk hk; omega) (hT.le le03) (fun h => by omega) (fun H4 _ _ hok _ => absurd hok (by rw [Int.toNat_natCast, okP_prs]; decide)) fun R O4 H4 _ _ _ u4 _ le4 => ?_
    rw [Int.toNat_natCast, ofM_prs hsup] at u4
    refine bcd (fun h => absurd rfl h) fun _ => ?_
    have le04 := le03.trans le4
    have u24 := (u2.le le3).le le4
    -- behind Make
    have tail : ∀ (H5 : Hp) (p1 : Option Addr) (l1 c1 : Nat) (p2 : Option Addr) (l2 c2 : Nat), Le H4 H5 → (makE ls k ≠ 0 → l1 = 0) → (makE ls k = 0 → l1 = ll ∧ Sl sv H5 p1 l1 c1 ls ∧ Sn 2 pairC H5 p2 l2 c2 (prs (clo M k) k)) →
        NEW H5 [.slice none 0 0, .slice none 0 0] fun bq54 Hx55 => ST Hx55 bq54 0 (.slice p1 l1 c1) fun Hx56 => ST Hx56 bq54 1 (.slice p2 l2 c2) fun Hx57 => ∃ (Iq61 : Int → Int → Hp → Prop) (mu62 : Int → Int → Hp → Nat), Iq61 (0 : Int) (0 : Int) Hx57 ∧ ∀ (want58 : Int) (i59 : Int) (Hx60 : Hp), Iq61 want58 i59 Hx60 → bc ((decide (i59 < ((ll : Nat) : Int)))) (IDX i59 ll fun k63 => NIL lp fun bq64 oq65 => ldS (rd Hx60 bq64 (oq65 + k63)) fun x66 => bc ((decide ((60 : Int) < ((x66.size : Nat) : Int)))) (CHK .i64 (i59 + (1 : Int)) fun x67 => Iq61 (10 : Int) x67 Hx60 ∧ mu62 (10 : Int) x67 Hx60 < mu62 want58 i59 Hx60) (CHK .i64 (i59 + (1 : Int)) fun x70 => Iq61 want58 x70 Hx60 ∧ mu62 want58 x70 Hx60 < mu62 want58 i59 Hx60)) (bc ((decide (¬ ((k : Nat) : Int) = ((ll : Nat) : Int)))) (centolaw4_ObjMakes.k2 (fun r H' => r = true ∧ Le H H') bq54 lc ll lp (some ⟨m, 0, none⟩) (makE ls k) (10 : Int) Hx60) (centolaw4_ObjMakes.k2 (fun r H' => r = true ∧ Le H H') bq54 lc ll lp (some ⟨m, 0, none⟩) (makE ls k) want58 Hx60)) := by
      intro H5 p1 l1 c1 p2 l2 c2 le5 hbad hok
      intro b hb
      refine D2.new.put fun H6 d6 m6 => ?_
      have le56 : Le H5 H6 := m6.le (Le.upd hb) (by simpa using hb)
      have le46 := le5.trans le56
      have le06 := le04.trans le46
      refine ⟨fun w t Hx => ∃ i : Nat, t = (i : Nat) ∧ i ≤ ll ∧ Hx = H6 ∧ w = if labOk (ls.take i) then 0 else 10, fun _ t _ => ((ll : Int) - t).toNat, ⟨0, rfl, Nat.zero_le _, rfl, rfl⟩, ?_⟩
      rintro w t Hx ⟨i, rfl, gi, rfl, hw⟩
      refine bcd (fun hlt => ?_) fun hlt => ?_
      · have hil : i < ls.length := by omega
        have hsz : (mkB ls[i]).size = ls[i].length := rfl
        have htk : labOk (ls.take (i + 1)) = (labOk (ls.take i) && decide (ls[i].length ≤ 60)) := by
          rw [List.take_succ_eq_append_getElem hil]
          unfold labOk
          rw [List.all_append]; simp
        refine slS (hL.le le06) (fun _ => rfl) (by omega) hlt fun _ => ?_
        simp only [Int.toNat_natCast]
        refine bcd (fun hg => ?_) fun hg => ?_
        · exact chk (by omega) ⟨⟨i + 1, by omega, by omega, by trivial, by rw [htk, decide_eq_false (by omega), Bool.and_false]; rfl⟩, by first | omega | (dsimp only; omega)⟩
        · exact chk (by omega) ⟨⟨i + 1, by omega, by omega, by trivial, by rw [htk, decide_eq_true (by omega), Bool.and_true]; exact hw⟩, by first | omega | (dsimp only; omega)⟩
      rw [List.take_of_length_le (by omega)] at hw
      have hw2 := makE_want ls k
      -- what is wanted is what there is
      have k3 : centolaw4_ObjMakes.k3 (fun r H' => r = true ∧ Le H H') b lc ll lp (some ⟨m, 0, none⟩) (makE ls k) (makE ls k) Hx := by
        unfold centolaw4_ObjMakes.k3
        refine bcd (fun h => absurd rfl h) fun _ => ?_
        unfold centolaw4_ObjMakes.k4
        refine bcd (fun h => ?_) fun h => ?_
        · refine bcd (fun _ => ldL_i d6.1 ⟨decide_eq_true ?_, le06⟩) fun h => absurd rfl h
          rw [hbad h]; rfl
        · have h0 := Classical.not_not.1 h
          obtain ⟨rfl, hs, hp⟩ := hok h0
          have hkl : k = ls.length := by
            by_cases e : k = ls.length
            · exact e
            · exfalso
              unfold makE at h0
              split at h0
              · exact absurd h0 (by assumption)
              · first | cases h0 | (rw [if_pos e] at h0; cases h0)
          have hlab : labE ls = 0 := by
            by_cases e : labE ls = 0
            · exact e
            · exfalso
              unfold makE at h0
              rw [if_pos e] at h0; exact e h0
          subst hkl
          unfold centolaw4_ObjMakes.k5
          have hs6 := hs.le le56
          have hp6 := hp.le le56
          refine d6.get (centoref4_Make.c (hL.le le06) (u24.le le46) (by omega) fun p8 c8 p9 l9 c9 H7 s7 q7 le7 => ⟨(d6.le le7).1, (d6.le le7).2, ?_⟩)
          refine centoref4_Same.c (hs6.le le7) (hp6.le le7) s7 q7 (by omega) (by have := hp6.len; have := prs_len_le (clo M ls.length) ls.length; have := Nat.mul_le_mul hk hk; omega) fun H8 le8 => ?_
          refine bc_i (fun _ => ?_) fun h => absurd h (by rw [decide_eq_true rfl, decide_eq_true rfl]; decide)
          have le68 := le7.trans le8
          refine (d6.le le68).get (obj_Is.c (hs6.le le68) (hp6.le le68) (hT.le (le06.trans le68)) (by have := hp6.len; have := prs_len_le (clo M ls.length) ls.length; have := Nat.mul_le_mul hk hk; omega) fun H9 le9 => ?_)
          rw [chkO_prs hlab hsup]
          exact ⟨decide_eq_true rfl, le06.trans (le68.trans le9)⟩
      have k2 : ∀ w', w' = (if k ≠ ls.length then 10 else if labOk ls then (0 : Int) else 10) → centolaw4_ObjMakes.k2 (fun r H' => r = true ∧ Le H H') b lc ll lp (some ⟨m, 0, none⟩) (makE ls k) w' Hx := by
        intro w' hw'
        unfold centolaw4_ObjMakes.k2
        refine bcd (fun h => ?_) fun h => ?_
        · rw [if_pos (by omega)] at hw2
          have := k3
          rw [hw2] at this ⊢
          exact this
        · rw [if_neg (by omega), ← hw'] at hw2
          have := k3
          rw [hw2] at this ⊢
          exact this
      refine bcd (fun h => k2 10 ?_) fun h => k2 w ?_
      · rw [if_pos (by omega)]
      · rw [if_neg (by omega)]; exact hw
    refine obj_Make.c (hL.le le04) (.inr ⟨R, O4, rfl, u4⟩) (by omega) (fun hb H5 le5 => tail H5 none 0 0 none 0 0 le5 (fun _ => rfl) fun h => absurd h hb) (fun h0 p1 c1 p2 l2 c2 H5 s5 q5 le5 => ?_)
    have := tail H5 p1 ll c1 p2 l2 c2 le5 (fun h => absurd h0 h) fun _ => ⟨rfl, s5, q5⟩
    rw [h0] at this
    exact this
  rw [show (20 : Int) = ((20 : Nat) : Int) from rfl, ← Int.ofNat_tmod]
  have hm : n % 20 < 20 := Nat.mod_lt _ (by decide)
  exact chk (by omega) (bcd (fun _ => main ll (by omega)) fun _ => main (n % 20) (by omega))


theorem objMakes_own : ownKnob Tryd.prog.godebug = none := by kernel_rfl
theorem objMakes_laid : laidOutB Tryd.prog = true := by kernel_rfl
set_option maxRecDepth 100000 in
theorem objMakes_lifted (os : Os) (started : os.Started) (H : Type) (enc : TypeId × Value → H) :
    ReturnsInHanded {} Tryd.checked os 3 .any (fun w args => (Rows.objMakesSpec.pre enc Tryd.prog Tryd.f3 [] false w args ∧ laidMetH Tryd.prog laidTz w) ∧ sizedMet enc Tryd.prog Tryd.f3 (OpenSpec.ofChange Rows.objMakesSpec) false w args)
      (Rows.objMakesSpec.post enc Tryd.prog Tryd.f3 false true false false) := by
  refine returnsInHanded_of_change_and (C := Tryd.checked) (X := fun w _ => laidMetH Tryd.prog laidTz w) (fun _ _ _ hh h => h.of_heap hh) objMakes_own started (by kernel_rfl) Tryd.func3
    (ChangeSpec.witness_shaped (enc := enc) (C := Tryd.checked) (os := os) (X := fun w _ => laidMetH Tryd.prog laidTz w) false (World.doorLaid Tryd.prog 400 os) #[.slice Option.none 0 0, .int .u8 0, .slice Option.none 0 0] 8 rfl (World.shaped_of_RefB (by kernel_rfl) (by kernel_rfl)) (by kernel_rfl) (by kernel_rfl) (by kernel_rfl) (door_met os _)) ?_
  intro W base args ds gs before hval0 hW _ _ hL _
  have hval : ∀ (j : Nat) t v, Tryd.f3.params[j]? = some t → args[j]? = some v → Value.okWide Tryd.prog W .any base t v := hval0
  have hW' := hW
  obtain ⟨p, q, hA0, hV, rfl, hfz, hnd⟩ := hW
  have hA : DataW.TrodAll enc Tryd.prog W 0 (fun _ => true) true Tryd.f3.params.toList args.toList ds p := hA0
  rw [Tryd.params3] at hA hval
  obtain ⟨v0, v1, v2, d0, d1, d2, p0, p1, p2, rfl, rfl, rfl, h0, h1, h2⟩ := trodAll_three hA
  obtain ⟨q0, l0, c0, x0, rfl, s0⟩ := openSl (by decide) Tryd.underlying22 (opens_str Tryd.underlying9 (by kernel_rfl)) (hval 0 22 v0 rfl rfl) h0 (fun x hx => by simp [hx]) hfz
  obtain ⟨x1, rfl, rfl, rfl, w1⟩ := open_int Tryd.underlying5 (hval 1 5 v1 rfl rfl) h1
  obtain ⟨q2, l2, c2, x2, rfl, s2⟩ := openSl (by decide) Tryd.underlying23 (opens_st Tryd.underlying50 (by kernel_rfl) (opensF_cons rfl (opens_int Tryd.underlying3 (by kernel_rfl)) rfl (opensF_one rfl (opens_int Tryd.underlying3 (by kernel_rfl))))) (hval 2 23 v2 rfl rfl) h2 (fun x hx => by simp [hx]) hfz
  refine (calls_true (objMakes_law s0 w1 s2.pairs s2.pairsWf (tz_of_laid hL)) Tryd.func3 (by kernel_rfl)).mono fun e W' ⟨he, hk⟩ => ?_
  subst he
  exact ⟨_, rfl, post_true objMakes_laid hW' (by kernel_rfl) rfl rfl rfl Tryd.underlying4 hk⟩

theorem objMakes_row : Rows.ObjMakesSaid :=
  OpenClaim.holds_of_wide 3 Tryd.f3 rfl rfl rfl rfl rfl rfl rfl ⟨rfl, rfl, rfl, rfl, rfl⟩ rfl rfl rfl rfl rfl (by kernel_rfl) Tryd.func3 (by kernel_rfl)
    (of_decide_eq_true (by kernel_rfl)) (by unfold Func.isWrapper; first | (rw [if_pos (by decide +kernel)]; kernel_rfl) | (rw [if_neg (by decide +kernel)]; exact ⟨rfl, rfl⟩))
    (fun os started H enc _ => objMakes_lifted os started H enc)

theorem objMakes_card : Rows.ObjMakesCardSaid :=
  Claim7.holds_tied_plain_at .later [] [.data] true (true, "f1eba887bf2a15496a222adcf75d60a0462008cefa76589392225645476a6e39") false
    objMakes_row (fun _ h => by cases h) (by kernel_rfl) (fun _ h => by cases h) objMakes_row_tie rfl ⟨rfl, rfl⟩ (by kernel_rfl) rfl
    (fun f fn hf hfn => by
      obtain rfl : f = 3 := Option.some.inj ((show Tryd.prog.funcNamed Rows.objMakesRow.func = some 3 by kernel_rfl).symm.trans hf) |>.symm
      obtain rfl : fn = Tryd.f3 := (Option.some.inj (Tryd.func3.symm.trans hfn)).symm
      exact ⟨by kernel_rfl, fun j t ht => by
        rw [Tryd.params3] at ht
        have hm : t ∈ [5, 22, 23] := by
          have := Array.mem_of_getElem? ht
          simp at this
          first | (rcases this with rfl | rfl | rfl <;> simp) | simp [this]
        have hall : ([5, 22, 23].all fun u => !Tryd.prog.wantsStandIn u) = true := by kernel_rfl
        exact (show Tryd.prog.wantsStandIn t = false by simpa using List.all_eq_true.1 hall t hm)⟩)
    (by kernel_rfl)
end Go.Proofs.YteijgmmjgbgffaaDoor
