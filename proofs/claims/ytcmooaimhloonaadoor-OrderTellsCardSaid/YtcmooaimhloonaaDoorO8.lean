/- For every input OrderTells returns true, and what came in reads as it did: tied to the table of math/bits. -/
import Derived.Test.YtcmooaimhloonaaDoorO7
import Derived.Test.YtcmooaimhloonaaDoorBT
import Derived.Test.YtcmooaimhloonaaDoorVcOpen
namespace Go.Proofs.YtcmooaimhloonaaDoor
open Go.V
open Go.ChangeShapes Go.WideShapes Go.ChangeAt Go.RowKit Go.WideElems Go.WideMaps
theorem list_le {α : Type} {l : List α} {n : Nat} (h : l.length ≤ n) (hn : n ≤ 1000000000 := by decide) : l.length ≤ 1000000000 := Nat.le_trans h hn
theorem orderTells_law {n : Int} {lp : Option Addr} {ll lc : Nat} {l : List (Int × Int)} {H : Hp} (_ : (Lit.int .i64 n).wf = true) (hl : Sn 2 pairC H lp ll lc l) (_ : ∀ x ∈ l, (Lit.int .i64 x.1).wf = true ∧ (Lit.int .i64 x.2).wf = true)
    (hT : Tz H) : centolaw3_OrderTells.C n lp ll lc H fun r H' => r = true ∧ Le H H' := by
  apply centolaw3_OrderTells.of
  have hlen := hl.len
  refine centolaw3_known.c hT fun H0 le0 => ?_
  refine bcF ?_
  refine bcd (fun _ => ⟨rfl, le0⟩) fun hll => ?_
  refine centolaw3_made.c (hl.le le0) (by omega) (hT.le le0) fun R O m Om H1 u1 v1 _ le1 => ?_
  refine bcd (fun h => by cases h) fun _ => ?_
  have hk : cap40 n ≤ 40 := by unfold cap40; omega
  have hsup := u1.sup
  have hTr := clo_tr hsup
  generalize cap40 n = k at *
  generalize ofM l k = M at *
  refine order_Circles.c u1.rn fun p2 l2 c2 H2 s2 le2 => ?_
  refine centoref2_Rel_Circles.c (v1.le le2) fun p3 l3 c3 H3 s3 le3 => ?_
  have h2 := s2.len
  have h3 := s3.len
  have hcr := crcT_len (M := clo M k) (n := k) (t := k)
  have hcr : (crc (clo M k) k).length ≤ k := hcr
  have le23 := le2.trans le3
  have leH3 := (le0.trans le1).trans le23
  refine bcd (fun h => absurd (by rw [h2, h3]) h) fun _ => ?_
  refine ⟨fun i Hx => ∃ i' : Nat, i = i' ∧ i' ≤ l2 ∧ H3 = Hx, fun i _ => (l2 - i).toNat, ⟨0, rfl, by omega, rfl⟩, ?_⟩
  rintro i _ ⟨i, rfl, hi, rfl⟩
  refine bcd (fun h => ?_) (fun h => ?_)
  · have hic : i < (crc (clo M k) k).length := by omega
    refine (s2.le le3).at rfl hic fun q l' c' hq _ _ => ?_
    refine s3.at rfl hic fun q2 l2' c2' hq2 _ _ => ?_
    have hcl : (crc (clo M k) k)[i].length ≤ k := by rw [crc_get]; exact clsM_len
    refine centolaw3_same.c hq hq2 (by omega) ?_
    rw [decide_eq_true rfl]
    exact bcF (chk (by omega) ⟨⟨i + 1, by omega, by omega, rfl⟩, by first | omega | (dsimp only; omega)⟩)
  · have u3 := u1.le le23
    have v3 := v1.le le23
    refine order_Of.c u3.rn (by omega) fun p4 l4 c4 H4 s4 le4 => ?_
    refine centoref2_Rel_Classes.c (v3.le le4) hTr fun p5 l5 c5 H5 s5 le5 => ?_
    have hcs : (clss (clo M k) k).length ≤ 40 := by unfold clss; simpa using hk
    refine centolaw3_same.c (s4.le le5) s5 (list_le hcs) ?_
    rw [decide_eq_true rfl]
    have le35 := le4.trans le5
    refine bcT (order_Sort.c (u3.le le35).rn (by omega) fun p6 l6 c6 H6 s6 le6 => ?_)
    refine centoref2_Rel_Sort.c (v3.le (le35.trans le6)) fun p7 l7 c7 H7 s7 le7 => ?_
    refine centolaw3_same.c (s6.le le7) s7 (list_le (srt_len (by omega))) ?_
    rw [decide_eq_true rfl]
    have le37 := (le35.trans le6).trans le7
    refine bcT (order_Reduce.c (u3.le le37).rn (by omega) fun p8 l8 c8 H8 s8 _ _ le8 => ?_)
    refine centoref2_Rel_Reduce.c (v3.le (le37.trans le8)) fun p9 l9 c9 H9 s9 le9 => ?_
    refine centolaw3_samePairs.c (s8.le le9) s9 (list_le (red_len (by omega))) ?_
    rw [decide_eq_true rfl]
    have le39 := (le37.trans le8).trans le9
    refine bcT (order_IsOrder.c (u3.le le39).rn (by omega) fun H10 le10 => ?_)
    refine centoref2_Rel_IsOrder.c (v3.le (le39.trans le10)) ?_
    refine bcd (fun _ => ?_) fun h => absurd rfl h
    refine order_IsTotal.c (u3.le (le39.trans le10)).rn (by omega) fun H11 le11 => ?_
    refine centoref2_Rel_IsTotal.c (v3.le ((le39.trans le10).trans le11)) ?_
    exact ⟨decide_eq_true rfl, leH3.trans ((le39.trans le10).trans le11)⟩

set_option maxRecDepth 100000 in
theorem orderTells_lifted (os : Os) (started : os.Started) (H : Type) (enc : TypeId × Value → H) :
    ReturnsInHanded {} Tryd.checked os 8 .any (fun w args => (Rows.orderTellsSpec.pre enc Tryd.prog Tryd.f8 [] false w args ∧ laidMetH Tryd.prog laidTz w) ∧ sizedMet enc Tryd.prog Tryd.f8 (OpenSpec.ofChange Rows.orderTellsSpec) false w args)
      (Rows.orderTellsSpec.post enc Tryd.prog Tryd.f8 false true false false) := by
  refine returnsInHanded_of_change_and (C := Tryd.checked) (X := fun w _ => laidMetH Tryd.prog laidTz w) (fun _ _ _ hh h => h.of_heap hh) Tryd.own started (by kernel_rfl) Tryd.func8
    (ChangeSpec.witness_shaped (enc := enc) (C := Tryd.checked) (os := os) (X := fun w _ => laidMetH Tryd.prog laidTz w) false (World.doorLaid Tryd.prog 400 os) #[.int .i64 0, .slice Option.none 0 0] 8 rfl (World.shaped_of_RefB (by kernel_rfl) (by kernel_rfl)) (by kernel_rfl) (by kernel_rfl) (by kernel_rfl) (door_met os _)) ?_
  intro W base args ds gs before hval0 hW _ _ hL _
  have hval : ∀ (j : Nat) t v, Tryd.f8.params[j]? = some t → args[j]? = some v → Value.okWide Tryd.prog W .any base t v := hval0
  have hW' := hW
  obtain ⟨p, q, hA0, hV, rfl, hfz, hnd⟩ := hW
  have hA : DataW.TrodAll enc Tryd.prog W 0 (fun _ => true) true Tryd.f8.params.toList args.toList ds p := hA0
  rw [Tryd.params8] at hA hval
  obtain ⟨v0, v1, d0, d1, p0, p1, rfl, rfl, rfl, h0, h1⟩ := trodAll_two hA
  obtain ⟨x0, rfl, rfl, rfl, w0⟩ := open_int Tryd.underlying3 (hval 0 3 v0 rfl rfl) h0
  obtain ⟨q1, l1, c1, x1, rfl, s1⟩ := openSl (by decide) Tryd.underlying22 (opens_st Tryd.underlying30 (by kernel_rfl) (opensF_cons rfl (opens_int Tryd.underlying3 (by kernel_rfl)) rfl (opensF_one rfl (opens_int Tryd.underlying3 (by kernel_rfl))))) (hval 1 22 v1 rfl rfl) h1 (fun x hx => by simp [hx]) hfz
  refine (calls_true (CallH.true (orderTells_law w0 s1.pairs s1.pairsWf (tz_of_laid hL)))).mono fun e W' ⟨he, hk⟩ => ?_
  subst he
  exact ⟨_, rfl, post_true Tryd.laidOut hW' (by kernel_rfl) rfl rfl rfl Tryd.underlying4 hk⟩

theorem orderTells_row : Rows.OrderTellsSaid :=
  OpenClaim.holds_of_wide 8 Tryd.f8 rfl rfl rfl rfl rfl rfl rfl ⟨rfl, rfl, rfl, rfl, rfl⟩ rfl rfl rfl rfl rfl (by kernel_rfl) Tryd.func8 (by kernel_rfl)
    (of_decide_eq_true (by kernel_rfl)) (by unfold Func.isWrapper; first | (rw [if_pos (by decide +kernel)]; kernel_rfl) | (rw [if_neg (by decide +kernel)]; exact ⟨rfl, rfl⟩))
    (fun os started H enc _ => orderTells_lifted os started H enc)

theorem orderTells_card : Rows.OrderTellsCardSaid :=
  Claim7.holds_tied_plain_at .later [] [.data] true (true, "f14aac9e52d846e16b45683151c3010fb29280cfdf5c2d90c2c3a166c41e4a9f") false
    orderTells_row (fun _ h => by cases h) (by kernel_rfl) (fun _ h => by cases h) orderTells_row_tie rfl ⟨rfl, rfl⟩ (by kernel_rfl) rfl
    (fun f fn hf hfn => by
      obtain rfl : f = 8 := Option.some.inj ((show Tryd.prog.funcNamed Rows.orderTellsRow.func = some 8 by kernel_rfl).symm.trans hf) |>.symm
      obtain rfl : fn = Tryd.f8 := (Option.some.inj (Tryd.func8.symm.trans hfn)).symm
      exact ⟨by kernel_rfl, fun j t ht => by
        rw [Tryd.params8] at ht
        have hm : t ∈ [3, 22] := by
          have := Array.mem_of_getElem? ht
          simp at this
          first | (rcases this with rfl | rfl <;> simp) | simp [this]
        have hall : ([3, 22].all fun u => !Tryd.prog.wantsStandIn u) = true := by kernel_rfl
        exact (show Tryd.prog.wantsStandIn t = false by simpa using List.all_eq_true.1 hall t hm)⟩)
    (by kernel_rfl)
end Go.Proofs.YtcmooaimhloonaaDoor
