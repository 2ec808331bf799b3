/- For every input RelTells returns true, and what came in reads as it did: tied to the table of math/bits. -/
import Derived.Test.YtcmooaimhloonaaDoorR10
import Derived.Test.YtcmooaimhloonaaDoorBT
import Derived.Test.YtcmooaimhloonaaDoorVcOpen
namespace Go.Proofs.YtcmooaimhloonaaDoor
open Go.V
open Go.ChangeShapes Go.WideShapes Go.ChangeAt Go.RowKit Go.WideElems Go.WideMaps
theorem relTells_law {n a b : Int} {lp kp : Option Addr} {ll lc kl kc : Nat} {l : List (Int × Int)} {keep : List Bool} {H : Hp} (_ : (Lit.int .i64 n).wf = true) (hl : Sn 2 pairC H lp ll lc l) (_ : ∀ x ∈ l, (Lit.int .i64 x.1).wf = true ∧ (Lit.int .i64 x.2).wf = true) (hk : Sl Value.bool H kp kl kc keep)
    (_ : (Lit.int .i64 a).wf = true) (_ : (Lit.int .i64 b).wf = true) (hT : Tz H) : centolaw2_RelTells.C n lp ll lc kp kl kc a b H fun r H' => r = true ∧ Le H H' := by
  apply centolaw2_RelTells.of
  have hlen := hl.len
  have hkl := hk.len
  refine centolaw2_known.c hT fun H0 le0 => ?_
  refine bcF ?_
  have k1 : ¬ (40 < n ∧ n ≤ 200) → l.length ≤ 120 → centolaw2_RelTells.k1 (fun r H' => r = true ∧ Le H H') a b kc kl kp lc ll lp n H0 := by
    intro hn hll
    have k2 : ∀ R O m Om H2, 0 ≤ n → n ≤ 200 → RLO H2 R O n.toNat (ofM l n.toNat) → RFO H2 m Om n.toNat (ofM l n.toNat) → Le H H2 → centolaw2_RelTells.k2 (fun r H' => r = true ∧ Le H H') a b kc kl kp (some ⟨R, 0, none⟩) (some ⟨m, 0, none⟩) 0 H2 := by
      intro R O m Om H2 h0 h1 u2 v2 le2
      have hs := u2.sup
      generalize ofM l n.toNat = M at *
      have hN40 : n.toNat ≤ 40 := by omega
      obtain ⟨k, rfl⟩ : ∃ k : Nat, n = k := ⟨n.toNat, by omega⟩
      rw [Int.toNat_natCast] at *
      have hpl : ∀ N : Nat → Nat → Bool, (prs N k).length ≤ 1000000000 := fun N => by
        have := prs_len_le N k
        have hk2 : k * k ≤ 1600 := Nat.mul_le_mul (show k ≤ 40 by omega) (show k ≤ 40 by omega)
        omega
      refine bcd (fun h => absurd rfl h) fun _ => ?_
      refine centoref2_Rel_Closure.c v2 fun m3 Om3 H3 v3 hOm3 le3 => ?_
      have u3 := u2.le le3
      have w3 := v2.le le3
      have ⟨B, bs, hOe, w3'⟩ := w3
      refine nil ?_
      refine ldI_i w3'.hn ?_
      refine rel_Rel_Len.c u3 ?_
      refine ⟨w3'.hn, ?_⟩
      refine bcd (fun _ => ?_) fun h => absurd rfl h
      refine rel_Rel_Pairs.c u3 fun p4 l4 c4 H4 s4 _ le4 => ?_
      refine centoref2_Rel_Pairs.c (w3.le le4) fun p5 l5 c5 H5 s5 _ le5 => ?_
      refine centolaw2_same.c (s4.le le5) s5 (hpl _) ?_
      rw [decide_eq_true rfl]
      have le35 := le4.trans le5
      refine bcT (rel_Rel_Closure.c (u3.le le35) fun R6 O6 H6 u6 _ le6 => ?_)
      refine rel_Rel_Pairs.c u6 fun p7 l7 c7 H7 s7 _ le7 => ?_
      have le37 := (le35.trans le6).trans le7
      refine centoref2_Rel_Pairs.c (v3.le le37) fun p8 l8 c8 H8 s8 _ le8 => ?_
      refine centolaw2_same.c (s7.le le8) s8 (hpl _) ?_
      rw [decide_eq_true rfl]
      have le38 := le37.trans le8
      refine bcT (rel_Rel_IsTransitive.c (u3.le le38) fun H9 le9 => ?_)
      have le39 := le38.trans le9
      refine centoref2_Rel_Same.c (w3.le le39) (v3.le le39) ?_
      rw [decide_eq_true rfl, Bool.true_and]
      refine bcd (fun _ => ?_) fun h => absurd rfl h
      have leH9 : Le H H9 := (le2.trans le3).trans le39
      refine rel_Rel_Only.c (u3.le le39) (hk.le leH9) fun R10 O10 H10 u10 _ le10 => ?_
      refine rel_Rel_Pairs.c u10 fun p11 l11 c11 H11 s11 _ le11 => ?_
      have le311 := (le39.trans le10).trans le11
      refine centoref2_Rel_Only.c (w3.le le311) (hk.le ((leH9.trans le10).trans le11)) fun m12 Om12 H12 v12 _ le12 => ?_
      refine centoref2_Rel_Pairs.c v12 fun p13 l13 c13 H13 s13 _ le13 => ?_
      refine centolaw2_same.c ((s11.le le12).le le13) s13 (hpl _) ?_
      rw [decide_eq_true rfl]
      have le313 := (le311.trans le12).trans le13
      refine bcT (rel_Rel_Has.c (u3.le le313) ?_)
      refine centoref2_Rel_Has.c (w3.le le313) ?_
      refine bcd (fun _ => ?_) fun h => absurd rfl h
      refine rel_Rel_Closure.c (u3.le le313) fun R14 O14 H14 u14 _ le14 => ?_
      refine rel_Rel_Has.c u14 ?_
      refine centoref2_Rel_Has.c (v3.le (le313.trans le14)) ?_
      exact ⟨decide_eq_true rfl, (le2.trans le3).trans (le313.trans le14)⟩
    refine rel_Of.c (hl.le le0) (by omega) (hT.le le0) (fun hbad => ?_) (fun H1 h0 h1 hbad le1 => ?_) (fun R O H1 h0 h1 hok u1 hO le1 => ?_)
    · refine centoref2_Of.c (hl.le le0) (by omega) (fun _ => ?_) (fun _ h0 h1 => absurd hbad (by omega)) (fun _ _ _ h0 h1 => absurd hbad (by omega))
      refine bcd (fun h => absurd rfl h) fun _ => bcd (fun h => absurd rfl h) fun _ => ?_
      exact bcd (fun _ => ⟨rfl, le0⟩) fun h => absurd (by decide) h
    · refine centoref2_Of.c (hl.le (le0.trans le1)) (by omega) (fun h => absurd h (by omega)) (fun H2 _ _ _ le2 => ?_) (fun _ _ _ _ _ h => by rw [hbad] at h; cases h)
      refine bcd (fun h => absurd rfl h) fun _ => bcd (fun h => absurd rfl h) fun _ => ?_
      exact bcd (fun _ => ⟨rfl, (le0.trans le1).trans le2⟩) fun h => absurd (by decide) h
    · refine centoref2_Of.c (hl.le (le0.trans le1)) (by omega) (fun h => absurd h (by omega)) (fun _ _ _ h => by rw [hok] at h; cases h) (fun m Om H2 _ _ _ v2 hOm le2 => ?_)
      refine bcd (fun h => absurd rfl h) fun _ => bcd (fun h => absurd (by simp) h) fun _ => ?_
      exact k2 R O m Om H2 h0 h1 (u1.le le2) v2 ((le0.trans le1).trans le2)
  have rest : ¬ (40 < n ∧ n ≤ 200) → bc (decide ((120 : Int) < ((ll : Nat) : Int))) (true = true ∧ Le H H0) (bc (decide ((60 : Int) < ((kl : Nat) : Int))) (true = true ∧ Le H H0) (centolaw2_RelTells.k1 (fun r H' => r = true ∧ Le H H') a b kc kl kp lc ll lp n H0)) := fun h =>
    bcd (fun _ => ⟨rfl, le0⟩) fun h1 => bcd (fun _ => ⟨rfl, le0⟩) fun _ => k1 h (by omega)
  exact bcd (fun h => bcd (fun _ => ⟨rfl, le0⟩) fun h' => rest (by omega)) fun h => rest (by omega)

set_option maxRecDepth 100000 in
theorem relTells_lifted (os : Os) (started : os.Started) (H : Type) (enc : TypeId × Value → H) :
    ReturnsInHanded {} Tryd.checked os 6 .any (fun w args => (Rows.relTellsSpec.pre enc Tryd.prog Tryd.f6 [] false w args ∧ laidMetH Tryd.prog laidTz w) ∧ sizedMet enc Tryd.prog Tryd.f6 (OpenSpec.ofChange Rows.relTellsSpec) false w args)
      (Rows.relTellsSpec.post enc Tryd.prog Tryd.f6 false true false false) := by
  refine returnsInHanded_of_change_and (C := Tryd.checked) (X := fun w _ => laidMetH Tryd.prog laidTz w) (fun _ _ _ hh h => h.of_heap hh) Tryd.own started (by kernel_rfl) Tryd.func6
    (ChangeSpec.witness_shaped (enc := enc) (C := Tryd.checked) (os := os) (X := fun w _ => laidMetH Tryd.prog laidTz w) false (World.doorLaid Tryd.prog 400 os) #[.int .i64 0, .slice Option.none 0 0, .slice Option.none 0 0, .int .i64 0, .int .i64 0] 8 rfl (World.shaped_of_RefB (by kernel_rfl) (by kernel_rfl)) (by kernel_rfl) (by kernel_rfl) (by kernel_rfl) (door_met os _)) ?_
  intro W base args ds gs before hval0 hW _ _ hL _
  have hval : ∀ (j : Nat) t v, Tryd.f6.params[j]? = some t → args[j]? = some v → Value.okWide Tryd.prog W .any base t v := hval0
  have hW' := hW
  obtain ⟨p, q, hA0, hV, rfl, hfz, hnd⟩ := hW
  have hA : DataW.TrodAll enc Tryd.prog W 0 (fun _ => true) true Tryd.f6.params.toList args.toList ds p := hA0
  rw [Tryd.params6] at hA hval
  obtain ⟨v0, v1, v2, v3, v4, d0, d1, d2, d3, d4, p0, p1, p2, p3, p4, rfl, rfl, rfl, h0, h1, h2, h3, h4⟩ := trodAll_five hA
  obtain ⟨x0, rfl, rfl, rfl, w0⟩ := open_int Tryd.underlying3 (hval 0 3 v0 rfl rfl) h0
  obtain ⟨q1, l1, c1, x1, rfl, s1⟩ := openSl (by decide) Tryd.underlying22 (opens_st Tryd.underlying30 (by kernel_rfl) (opensF_cons rfl (opens_int Tryd.underlying3 (by kernel_rfl)) rfl (opensF_one rfl (opens_int Tryd.underlying3 (by kernel_rfl))))) (hval 1 22 v1 rfl rfl) h1 (fun x hx => by simp [hx]) hfz
  obtain ⟨q2, l2, c2, x2, rfl, s2⟩ := openSl (by decide) Tryd.underlying23 (opens_bool Tryd.underlying4 (by kernel_rfl)) (hval 2 23 v2 rfl rfl) h2 (fun x hx => by simp [hx]) hfz
  obtain ⟨x3, rfl, rfl, rfl, w3⟩ := open_int Tryd.underlying3 (hval 3 3 v3 rfl rfl) h3
  obtain ⟨x4, rfl, rfl, rfl, w4⟩ := open_int Tryd.underlying3 (hval 4 3 v4 rfl rfl) h4
  refine (calls_true (CallH.true (relTells_law w0 s1.pairs s1.pairsWf s2.bools w3 w4 (tz_of_laid hL)))).mono fun e W' ⟨he, hk⟩ => ?_
  subst he
  exact ⟨_, rfl, post_true Tryd.laidOut hW' (by kernel_rfl) rfl rfl rfl Tryd.underlying4 hk⟩

theorem relTells_row : Rows.RelTellsSaid :=
  OpenClaim.holds_of_wide 6 Tryd.f6 rfl rfl rfl rfl rfl rfl rfl ⟨rfl, rfl, rfl, rfl, rfl⟩ rfl rfl rfl rfl rfl (by kernel_rfl) Tryd.func6 (by kernel_rfl)
    (of_decide_eq_true (by kernel_rfl)) (by unfold Func.isWrapper; first | (rw [if_pos (by decide +kernel)]; kernel_rfl) | (rw [if_neg (by decide +kernel)]; exact ⟨rfl, rfl⟩))
    (fun os started H enc _ => relTells_lifted os started H enc)

theorem relTells_card : Rows.RelTellsCardSaid :=
  Claim7.holds_tied_plain_at .later [] [.data] true (true, "f14aac9e52d846e16b45683151c3010fb29280cfdf5c2d90c2c3a166c41e4a9f") false
    relTells_row (fun _ h => by cases h) (by kernel_rfl) (fun _ h => by cases h) relTells_row_tie rfl ⟨rfl, rfl⟩ (by kernel_rfl) rfl
    (fun f fn hf hfn => by
      obtain rfl : f = 6 := Option.some.inj ((show Tryd.prog.funcNamed Rows.relTellsRow.func = some 6 by kernel_rfl).symm.trans hf) |>.symm
      obtain rfl : fn = Tryd.f6 := (Option.some.inj (Tryd.func6.symm.trans hfn)).symm
      exact ⟨by kernel_rfl, fun j t ht => by
        rw [Tryd.params6] at ht
        have hm : t ∈ [3, 22, 23] := by
          have := Array.mem_of_getElem? ht
          simp at this
          first | (rcases this with rfl | rfl | rfl | rfl | rfl <;> simp) | simp [this]
        have hall : ([3, 22, 23].all fun u => !Tryd.prog.wantsStandIn u) = true := by kernel_rfl
        exact (show Tryd.prog.wantsStandIn t = false by simpa using List.all_eq_true.1 hall t hm)⟩)
    (by kernel_rfl)
end Go.Proofs.YtcmooaimhloonaaDoor
