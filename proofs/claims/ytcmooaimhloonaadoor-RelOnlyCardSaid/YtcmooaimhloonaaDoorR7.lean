/- For every input RelOnly returns true, and what came in reads as it did: tied to the table of math/bits. -/
import Derived.Test.YtcmooaimhloonaaDoorR5
import Derived.Test.YtcmooaimhloonaaDoorBT
import Derived.Test.YtcmooaimhloonaaDoorVcOpen
namespace Go.Proofs.YtcmooaimhloonaaDoor
open Go.V
open Go.ChangeShapes Go.WideShapes Go.ChangeAt Go.RowKit Go.WideElems Go.WideMaps
theorem relOnly_law {n : Int} {lp kp : Option Addr} {ll lc kl kc : Nat} {l : List (Int × Int)} {keep : List Bool} {H : Hp} (wn : (Lit.int .u8 n).wf = true) (hl : Sn 2 pairC H lp ll lc l) (_ : ∀ x ∈ l, (Lit.int .i64 x.1).wf = true ∧ (Lit.int .i64 x.2).wf = true) (hk : Sl Value.bool H kp kl kc keep) (hT : Tz H) :
    centolaw2_RelOnly.C n lp ll lc kp kl kc H fun r H' => r = true ∧ Le H H' := by
  apply centolaw2_RelOnly.of
  have bn := wf_u8 wn
  have hlen := hl.len
  have hkl := hk.len
  refine centolaw2_known.c hT fun H0 le0 => ?_
  refine bcF ?_
  refine ⟨by decide, ?_⟩
  rw [show (16 : Int) = ((16 : Nat) : Int) from rfl, tmodN bn.1]
  have hm16 : n.toNat % 16 < 16 := Nat.mod_lt _ (by decide)
  refine chk (by omega) (chk (by omega) (bcd (fun _ => ⟨rfl, le0⟩) fun h1 => bcd (fun _ => ⟨rfl, le0⟩) fun h2 => ?_))
  obtain ⟨k, hk'⟩ : ∃ k : Nat, ((n.toNat % 16 : Nat) : Int) + 1 = (k : Int) := ⟨n.toNat % 16 + 1, by omega⟩
  rw [hk']
  have ek : (min (max (k : Int) 0) 200).toNat = k := by omega
  refine rel_New.c (hT.le le0) fun R O H1 u1 hO le1 => ?_
  rw [ek] at u1
  have le01 := le0.trans le1
  have hO' : ∀ x ∈ O, H x = none := fun x hx => none_of_le le0 (hO x hx)
  refine ⟨fun i H' => ∃ (i' : Nat) (M : Nat → Nat → Bool), i = i' ∧ i' ≤ ll ∧ Le H H' ∧ RLO H' R O k M, fun i _ => (ll - i).toNat, ⟨0, _, rfl, by omega, le01, u1⟩, ?_⟩
  rintro i H2 ⟨i, M, rfl, hi, le2, u2⟩
  refine bcd (fun h => ?_) (fun h => ?_)
  · refine snA (hl.le le2) (by omega) (by omega) fun _ => ?_
    refine snB (hl.le le2) (by omega) (by omega) fun _ => ?_
    refine rel_Rel_Add.c u2 fun H3 u3 m3 => ?_
    exact chk (by omega) ⟨⟨i + 1, _, by omega, by omega, m3.le le2 hO', u3⟩, by first | omega | (dsimp only; omega)⟩
  · have hs := u2.sup
    refine rel_Rel_Closure.c u2 fun R3 O3 H3 u3 hO3 le3 => ?_
    have le03 := le2.trans le3
    refine rel_Rel_Only.c u3 (hk.le le03) fun R4 O4 H4 u4 hO4 le4 => ?_
    have le04 := le03.trans le4
    have c4 := u3.le le4
    refine ⟨fun a H' => ∃ a' : Nat, a = a' ∧ a' ≤ k ∧ H4 = H', fun a _ => (k - a).toNat, ⟨0, rfl, by omega, rfl⟩, ?_⟩
    rintro a _ ⟨a, rfl, ha, rfl⟩
    refine bcd (fun h => ?_) (fun h => ?_)
    · refine ⟨fun b H' => ∃ b' : Nat, b = b' ∧ b' ≤ k ∧ H4 = H', fun b _ => (k - b).toNat, ⟨0, rfl, by omega, rfl⟩, ?_⟩
      rintro b _ ⟨b, rfl, hb, rfl⟩
      refine bcd (fun h => ?_) (fun h => ?_)
      · have k2 : ∀ v : Bool, v = (keepB keep a && keepB keep b) → centolaw2_RelOnly.k2 H4 (fun b H' => ∃ b' : Nat, b = b' ∧ b' ≤ k ∧ H4 = H') (fun r H' => r = true ∧ Le H H') a b (fun b _ => (k - b).toNat) (some ⟨R3, 0, none⟩) (some ⟨R4, 0, none⟩) v H4 := by
          intro v hv
          refine rel_Rel_Has.c u4 ?_
          rw [hasM_nat]
          refine bc_i (fun e => ?_) (fun e => ?_)
          · refine rel_Rel_Has.c c4 ?_
            rw [hasM_nat]
            refine bcd (fun h => absurd ?_ h) (fun _ => ?_)
            · unfold onlyM
              rw [Bool.and_assoc, ← hv, e, Bool.and_true]
            · exact chk (by omega) ⟨⟨b + 1, by omega, by omega, rfl⟩, by first | omega | (dsimp only; omega)⟩
          · refine bcd (fun h => absurd ?_ h) (fun _ => ?_)
            · unfold onlyM
              rw [Bool.and_assoc, ← hv, e, Bool.and_false]
            · exact chk (by omega) ⟨⟨b + 1, by omega, by omega, rfl⟩, by first | omega | (dsimp only; omega)⟩
        have out : ∀ j : Nat, ¬ (j : Int) < kl → keepB keep j = false := fun j hj => by unfold keepB; simp [List.getD]; rw [List.getElem?_eq_none (by omega)]; rfl
        have inn : ∀ (j : Nat) (hj : j < keep.length), keep[j] = keepB keep j := fun j hj => by unfold keepB; simp [List.getD, hj]
        refine bcd (fun h1 => ?_) (fun h1 => k2 _ (by rw [out a h1]; rfl))
        refine bcd (fun h2 => ?_) (fun h2 => k2 _ (by rw [out b h2]; simp))
        refine slB (hk.le le04) (g := id) (fun _ => rfl) (by omega) (by omega) fun hia => ?_
        have hia' : a < keep.length := hia
        show bc keep[a] _ _
        rw [inn a hia']
        refine bc_i (fun ka => ?_) (fun ka => k2 _ (by rw [ka]; rfl))
        refine slB (hk.le le04) (g := id) (fun _ => rfl) (by omega) (by omega) fun hib => ?_
        have hib' : b < keep.length := hib
        refine k2 _ ?_
        rw [ka, Bool.true_and]
        exact inn b hib'
      · exact chk (by omega) ⟨⟨a + 1, by omega, by omega, rfl⟩, by first | omega | (dsimp only; omega)⟩
    · refine rel_Rel_IsTransitive.c u4 fun H5 le5 => ?_
      have htr : Tr (onlyM (clo M k) keep) := by
        intro x y z h1 h2
        unfold onlyM at *
        simp only [Bool.and_eq_true] at *
        exact ⟨⟨clo_tr hs x y z h1.1.1 h2.1.1, h1.1.2⟩, h2.2⟩
      rw [(trB_iff u4.sup).2 htr]
      refine bcT ?_
      have v5 := ((u2.le le3).le le4).le le5
      refine rel_Rel_Only.c v5 (Sl.nil (f := Value.bool)) fun R6 O6 H6 u6 hO6 le6 => ?_
      refine rel_Rel_Pairs.c u6 fun p7 l7 c7 H7 s7 _ le7 => ?_
      have hl7 := s7.len
      have h0 : prs (onlyM M []) k = [] := by
        rw [List.eq_nil_iff_forall_not_mem]
        intro p hp
        obtain ⟨a, b, _, _, h, _⟩ := prs_mem.1 hp
        unfold onlyM keepB at h
        simp at h
      rw [h0] at hl7
      refine bcd (fun _ => ?_) fun h => absurd (by rw [hl7]; rfl) h
      have le47 := (le5.trans le6).trans le7
      have v7 := (v5.le le6).le le7
      refine rel_Rel_Add.c v7 fun H8 u8 m8 => ?_
      rw [show addB M k (-1) 0 = false by unfold addB; rw [decide_eq_false (by omega)]; rfl]
      refine bcT ?_
      refine rel_Rel_Join.c u8 fun O9 H9 u9 m9 _ => ?_
      have hj : jB (addM M k (-1) 0) k 0 k = false := by
        unfold jB inN; rw [decide_eq_false (by omega)]; rfl
      rw [hj]
      exact ⟨rfl, m9.le (m8.le (le04.trans le47) hO') hO'⟩

set_option maxRecDepth 100000 in
theorem relOnly_lifted (os : Os) (started : os.Started) (H : Type) (enc : TypeId × Value → H) :
    ReturnsInHanded {} Tryd.checked os 7 .any (fun w args => (Rows.relOnlySpec.pre enc Tryd.prog Tryd.f7 [] false w args ∧ laidMetH Tryd.prog laidTz w) ∧ sizedMet enc Tryd.prog Tryd.f7 (OpenSpec.ofChange Rows.relOnlySpec) false w args)
      (Rows.relOnlySpec.post enc Tryd.prog Tryd.f7 false true false false) := by
  refine returnsInHanded_of_change_and (C := Tryd.checked) (X := fun w _ => laidMetH Tryd.prog laidTz w) (fun _ _ _ hh h => h.of_heap hh) Tryd.own started (by kernel_rfl) Tryd.func7
    (ChangeSpec.witness_shaped (enc := enc) (C := Tryd.checked) (os := os) (X := fun w _ => laidMetH Tryd.prog laidTz w) false (World.doorLaid Tryd.prog 400 os) #[.int .u8 0, .slice Option.none 0 0, .slice Option.none 0 0] 8 rfl (World.shaped_of_RefB (by kernel_rfl) (by kernel_rfl)) (by kernel_rfl) (by kernel_rfl) (by kernel_rfl) (door_met os _)) ?_
  intro W base args ds gs before hval0 hW _ _ hL _
  have hval : ∀ (j : Nat) t v, Tryd.f7.params[j]? = some t → args[j]? = some v → Value.okWide Tryd.prog W .any base t v := hval0
  have hW' := hW
  obtain ⟨p, q, hA0, hV, rfl, hfz, hnd⟩ := hW
  have hA : DataW.TrodAll enc Tryd.prog W 0 (fun _ => true) true Tryd.f7.params.toList args.toList ds p := hA0
  rw [Tryd.params7] at hA hval
  obtain ⟨v0, v1, v2, d0, d1, d2, p0, p1, p2, rfl, rfl, rfl, h0, h1, h2⟩ := trodAll_three hA
  obtain ⟨x0, rfl, rfl, rfl, w0⟩ := open_int Tryd.underlying5 (hval 0 5 v0 rfl rfl) h0
  obtain ⟨q1, l1, c1, x1, rfl, s1⟩ := openSl (by decide) Tryd.underlying22 (opens_st Tryd.underlying30 (by kernel_rfl) (opensF_cons rfl (opens_int Tryd.underlying3 (by kernel_rfl)) rfl (opensF_one rfl (opens_int Tryd.underlying3 (by kernel_rfl))))) (hval 1 22 v1 rfl rfl) h1 (fun x hx => by simp [hx]) hfz
  obtain ⟨q2, l2, c2, x2, rfl, s2⟩ := openSl (by decide) Tryd.underlying23 (opens_bool Tryd.underlying4 (by kernel_rfl)) (hval 2 23 v2 rfl rfl) h2 (fun x hx => by simp [hx]) hfz
  refine (calls_true (CallH.true (relOnly_law w0 s1.pairs s1.pairsWf s2.bools (tz_of_laid hL)))).mono fun e W' ⟨he, hk⟩ => ?_
  subst he
  exact ⟨_, rfl, post_true Tryd.laidOut hW' (by kernel_rfl) rfl rfl rfl Tryd.underlying4 hk⟩

theorem relOnly_row : Rows.RelOnlySaid :=
  OpenClaim.holds_of_wide 7 Tryd.f7 rfl rfl rfl rfl rfl rfl rfl ⟨rfl, rfl, rfl, rfl, rfl⟩ rfl rfl rfl rfl rfl (by kernel_rfl) Tryd.func7 (by kernel_rfl)
    (of_decide_eq_true (by kernel_rfl)) (by unfold Func.isWrapper; first | (rw [if_pos (by decide +kernel)]; kernel_rfl) | (rw [if_neg (by decide +kernel)]; exact ⟨rfl, rfl⟩))
    (fun os started H enc _ => relOnly_lifted os started H enc)

theorem relOnly_card : Rows.RelOnlyCardSaid :=
  Claim7.holds_tied_plain_at .later [] [.data] true (true, "f14aac9e52d846e16b45683151c3010fb29280cfdf5c2d90c2c3a166c41e4a9f") false
    relOnly_row (fun _ h => by cases h) (by kernel_rfl) (fun _ h => by cases h) relOnly_row_tie rfl ⟨rfl, rfl⟩ (by kernel_rfl) rfl
    (fun f fn hf hfn => by
      obtain rfl : f = 7 := Option.some.inj ((show Tryd.prog.funcNamed Rows.relOnlyRow.func = some 7 by kernel_rfl).symm.trans hf) |>.symm
      obtain rfl : fn = Tryd.f7 := (Option.some.inj (Tryd.func7.symm.trans hfn)).symm
      exact ⟨by kernel_rfl, fun j t ht => by
        rw [Tryd.params7] at ht
        have hm : t ∈ [5, 22, 23] := by
          have := Array.mem_of_getElem? ht
          simp at this
          first | (rcases this with rfl | rfl | rfl <;> simp) | simp [this]
        have hall : ([5, 22, 23].all fun u => !Tryd.prog.wantsStandIn u) = true := by kernel_rfl
        exact (show Tryd.prog.wantsStandIn t = false by simpa using List.all_eq_true.1 hall t hm)⟩)
    (by kernel_rfl)
end Go.Proofs.YtcmooaimhloonaaDoor
