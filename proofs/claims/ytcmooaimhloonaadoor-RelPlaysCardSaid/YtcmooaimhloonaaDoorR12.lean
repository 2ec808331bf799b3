/- For every input RelPlays returns true, and what came in reads as it did: tied to the table of math/bits. -/
import Derived.Test.YtcmooaimhloonaaDoorR10
import Derived.Test.YtcmooaimhloonaaDoorBT
import Derived.Test.YtcmooaimhloonaaDoorVcOpen
namespace Go.Proofs.YtcmooaimhloonaaDoor
open Go.V
open Go.ChangeShapes Go.WideShapes Go.ChangeAt Go.RowKit Go.WideElems Go.WideMaps
theorem sameM_comm {M N : Nat → Nat → Bool} {n : Nat} : sameM M N n = sameM N M n := by
  apply bool_ext
  rw [sameM_iff, sameM_iff]
  exact ⟨fun h a b ha hb => (h a b ha hb).symm, fun h a b ha hb => (h a b ha hb).symm⟩
theorem addB_same {M : Nat → Nat → Bool} {n : Nat} {a b : Int} : addB M n a b = !sameM M (addM M n a b) n := by
  unfold addB
  by_cases h : 0 ≤ a ∧ a < (n : Int) ∧ 0 ≤ b ∧ b < (n : Int)
  · rw [decide_eq_true h, Bool.true_and]
    cases hh : hasM M a b with
    | true => rw [addM_has hh, sameM_refl]
    | false =>
      have : sameM M (addM M n a b) n = false := by
        cases e : sameM M (addM M n a b) n with
        | false => rfl
        | true =>
          obtain ⟨a, rfl⟩ : ∃ k : Nat, a = k := ⟨a.toNat, by omega⟩
          obtain ⟨b, rfl⟩ : ∃ k : Nat, b = k := ⟨b.toNat, by omega⟩
          have := sameM_iff.1 e a b (by omega) (by omega)
          rw [hasM_nat] at hh
          rw [hh] at this
          unfold addM at this
          rw [hh, decide_eq_true (by omega)] at this
          cases this
      rw [this]
  · rw [decide_eq_false h, addM_out h, sameM_refl]; rfl

theorem relPlays_law {n : Int} {lp kp : Option Addr} {ll lc kl kc : Nat} {l : List (Int × Int)} {how : List Bool} {H : Hp} (wn : (Lit.int .u8 n).wf = true) (hl : Sn 2 pairC H lp ll lc l) (_ : ∀ x ∈ l, (Lit.int .i64 x.1).wf = true ∧ (Lit.int .i64 x.2).wf = true) (hk : Sl Value.bool H kp kl kc how) (hT : Tz H) :
    centolaw2_RelPlays.C n lp ll lc kp kl kc H fun r H' => r = true ∧ Le H H' := by
  apply centolaw2_RelPlays.of
  have bn := wf_u8 wn
  have hlen := hl.len
  have hkl := hk.len
  refine centolaw2_known.c hT fun H0 le0 => ?_
  refine bcF ?_
  refine bcd (fun _ => ⟨rfl, le0⟩) fun h1 => bcd (fun _ => ⟨rfl, le0⟩) fun h2 => ?_
  refine ⟨by decide, ?_⟩
  rw [show (16 : Int) = ((16 : Nat) : Int) from rfl, tmodN bn.1]
  have hm16 : n.toNat % 16 < 16 := Nat.mod_lt _ (by decide)
  generalize n.toNat % 16 = k at *
  refine chk (by omega) ?_
  refine rel_New.c (hT.le le0) fun R O H1 u1 hO le1 => ?_
  refine centoref2_New.c fun m Om H2 v2 hOm le2 => ?_
  rw [show (min (max (k : Int) 0) 200).toNat = k by omega] at u1
  rw [show (max 0 (min (k : Int) 200)).toNat = k by omega] at v2
  have le01 := le0.trans le1
  have le02 := le01.trans le2
  have hpl : ∀ N : Nat → Nat → Bool, (prs N k).length ≤ 1000000000 := fun N => by
    have := prs_len_le N k
    have hk2 : k * k ≤ 256 := Nat.mul_le_mul (show k ≤ 16 by omega) (show k ≤ 16 by omega)
    omega
  refine ⟨fun mq i H' => ∃ (i' : Nat) (M : Nat → Nat → Bool) (O Om : List Nat) (m : Nat), mq = some ⟨m, 0, none⟩ ∧ i = i' ∧ i' ≤ ll ∧ Le H H' ∧ RLO H' R O k M ∧ RFO H' m Om k M ∧ (∀ x ∈ O, H x = none) ∧ (∀ x ∈ Om, H x = none) ∧ (∀ x ∈ Om, x ∉ O), fun _ i _ => (ll - i).toNat,
    ⟨0, _, O, Om, m, rfl, rfl, by omega, le02, u1.le le2, v2, fun x hx => none_of_le le0 (hO x hx), fun x hx => none_of_le le01 (hOm x hx), (u1.apart hOm).1⟩, ?_⟩
  clear hO hOm u1 v2
  rintro mq i H3 ⟨i, M, O, Om, m, rfl, rfl, hi, le3, u3, v3, oo, om, dj⟩
  have sy : ∀ {P Q : List Nat}, (∀ x ∈ P, x ∉ Q) → ∀ x ∈ Q, x ∉ P := fun h x hx hp => h x hp hx
  refine bcd (fun h => ?_) (fun h => ⟨rfl, le3⟩)
  have hil : i < l.length := by omega
  have hik : i < how.length := by omega
  have hs := u3.sup
  refine snP (hl.le le3) (by omega) (by omega) fun _ => newP fun b hb => ?_
  simp only [Int.toNat_natCast]
  have le4 : Le H3 (upd H3 b [.int .i64 l[i].1, .int .i64 l[i].2]) := .upd hb
  have r0 : rd (upd H3 b [.int .i64 l[i].1, .int .i64 l[i].2]) b 0 = some (.int .i64 l[i].1) := rd_upd_self
  have r1 : rd (upd H3 b [.int .i64 l[i].1, .int .i64 l[i].2]) b 1 = some (.int .i64 l[i].2) := rd_upd_self
  have u4 := u3.le le4
  have v4 := v3.le le4
  have bO : b ∉ O := fun h => u3.there _ h hb
  have bOm : b ∉ Om := fun h => v3.there _ h hb
  generalize upd H3 b [.int .i64 l[i].1, .int .i64 l[i].2] = H4 at *
  generalize l[i].1 = pa at *
  generalize l[i].2 = pb at *
  have le04 := le3.trans le4
  refine rel_Rel_Copy.c u4 fun Rc Oc H5 c5 hOc le5 => ?_
  refine centoref2_Rel_Copy.c (v4.le le5) fun mw Ow H6 w6 hOw le6 => ?_
  have le46 := le5.trans le6
  have le06 := le04.trans le46
  have u6 := u4.le le46
  have v6 := v4.le le46
  have c6 := c5.le le6
  have ocH : ∀ x ∈ Oc, H x = none := fun x hx => none_of_le le04 (hOc x hx)
  have owH : ∀ x ∈ Ow, H x = none := fun x hx => none_of_le (le04.trans le5) (hOw x hx)
  have dcO := (u4.apart hOc).1
  have dcM := (v4.apart hOc).1
  have dwO := ((u4.le le5).apart hOw).1
  have dwM := ((v4.le le5).apart hOw).1
  have dwc := (c5.apart hOw).1
  have r0' := le46.rd r0
  have r1' := le46.rd r1
  have bOc : b ∉ Oc := fun h => ne_none_of_rd r0 (hOc b h)
  have fin : ∀ (M' : Nat → Nat → Bool) (O' Om' : List Nat) (m' : Nat) (got : Bool) H7, RLO H7 R O' k M' → RFO H7 m' Om' k M' → RLO H7 Rc Oc k M → RFO H7 mw Ow k M → Le H H7 → (∀ x ∈ O', H x = none) → (∀ x ∈ Om', H x = none) → (∀ x ∈ Om', x ∉ O') → (∀ x ∈ Oc, x ∉ O') → (∀ x ∈ Oc, x ∉ Om') → got = !sameM M M' k →
      centolaw2_RelPlays.k4 H3 (fun mq i H' => ∃ (i' : Nat) (M : Nat → Nat → Bool) (O Om : List Nat) (m : Nat), mq = some ⟨m, 0, none⟩ ∧ i = i' ∧ i' ≤ ll ∧ Le H H' ∧ RLO H' R O k M ∧ RFO H' m Om k M ∧ (∀ x ∈ O, H x = none) ∧ (∀ x ∈ Om, H x = none) ∧ (∀ x ∈ Om, x ∉ O)) (fun r H' => r = true ∧ Le H H') i (some ⟨m, 0, none⟩) (some ⟨m', 0, none⟩) (fun _ i _ => (ll - i).toNat) (some ⟨R, 0, none⟩) (some ⟨Rc, 0, none⟩) (some ⟨mw, 0, none⟩) got H7 := by
    intro M' O' Om' m' got H7 u7 v7 c7 w7 le7 oo' om' dj' dcO' dcM' hgot
    refine rel_Rel_Add.c c7 fun H8 c8 m8 => ?_
    have le8 := m8.le le7 ocH
    have u8 := u7.mod m8 dcO' c7.g
    have v8 := v7.mod m8 dcM'
    have w8 := w7.mod m8 (sy dwc)
    refine centoref2_Rel_Same.c w8 v8 ?_
    rw [decide_eq_true rfl, Bool.true_and]
    refine bcd (fun h => absurd hgot h) fun _ => ?_
    refine rel_Rel_Pairs.c u8 fun p9 l9 c9 H9 s9 _ le9 => ?_
    refine centoref2_Rel_Pairs.c (v8.le le9) fun p10 l10 c10 H10 s10 _ le10 => ?_
    refine centolaw2_same.c (s9.le le10) s10 (hpl _) ?_
    rw [decide_eq_true rfl]
    have le810 := le9.trans le10
    refine bcF (chk (by omega) ⟨⟨i + 1, M', O', Om', m', rfl, by omega, by omega, le8.trans le810, u8.le le810, v8.le le810, oo', om', dj'⟩, by first | omega | (dsimp only; omega)⟩)
  have hkg : ∀ {Hx : Hp} {F : Bool → Prop}, Le H Hx → F how[i] → IDX (i : Int) kl fun k => NIL kp fun b o => ldB (rd Hx b (o + k)) F := fun hle hF =>
    slB (hk.le hle) (g := id) (fun _ => rfl) (by omega) (by omega) fun _ => hF
  -- the program's turn
  have k3 : ∀ (M' : Nat → Nat → Bool) (Om' : List Nat) (m' : Nat) H7, M' = (if how[i] then jM M k pa pb else addM M k pa pb) → RLO H7 R O k M → RFO H7 m' Om' k M' → RLO H7 Rc Oc k M → RFO H7 mw Ow k M → Le H H7 → (∀ x ∈ Om', H x = none) → (∀ x ∈ Om', x ∉ O) → (∀ x ∈ Oc, x ∉ Om') → rd H7 b 0 = some (.int .i64 pa) → rd H7 b 1 = some (.int .i64 pb) →
      centolaw2_RelPlays.k3 H3 (fun mq i H' => ∃ (i' : Nat) (M : Nat → Nat → Bool) (O Om : List Nat) (m : Nat), mq = some ⟨m, 0, none⟩ ∧ i = i' ∧ i' ≤ ll ∧ Le H H' ∧ RLO H' R O k M ∧ RFO H' m Om k M ∧ (∀ x ∈ O, H x = none) ∧ (∀ x ∈ Om, H x = none) ∧ (∀ x ∈ Om, x ∉ O)) (fun r H' => r = true ∧ Le H H') b kl kp i (some ⟨m, 0, none⟩) (fun _ i _ => (ll - i).toNat) (some ⟨R, 0, none⟩) (some ⟨Rc, 0, none⟩) (some ⟨mw, 0, none⟩) (some ⟨m', 0, none⟩) H7 := by
    intro M' Om' m' H7 hM' u7 v7 c7 w7 le7 om' dj' dcM' r0 r1
    refine hkg le7 ?_
    refine bc_i (fun hh => ?_) (fun hh => ?_)
    · rw [hh, if_pos rfl] at hM'
      refine ldI_i r0 (ldI_i r1 ?_)
      refine rel_Rel_Join.c u7 fun O' H8 u8 m8 n8 => ?_
      have le8 := m8.le le7 oo
      have sub : ∀ {P : List Nat}, (∀ x ∈ P, x ∉ O) → (∀ x ∈ P, H7 x ≠ none) → ∀ x ∈ P, x ∉ O' := fun h1 h2 x hx hx' => by
        rcases n8 x hx' with h | h
        · exact h1 x hx h
        · exact h2 x hx h
      rw [← hM'] at u8
      refine fin M' O' Om' m' _ H8 u8 (v7.mod m8 (sy dj')) (c7.mod m8 (sy dcO) u7.g) (w7.mod m8 (sy dwO)) le8 (fun x hx => (n8 x hx).elim (oo x) fun h => none_of_le le7 h) om' (sub dj' v7.there) (sub dcO c7.there) dcM' ?_
      unfold jB
      rw [← hM', sameM_comm]
      cases hin : inN k pa pb with
      | true => rfl
      | false =>
        have : M' = M := by rw [hM']; unfold jM; rw [hin]; rfl
        rw [this, sameM_refl]; rfl
    · rw [hh] at hM'
      simp only [Bool.false_eq_true, if_false] at hM'
      refine ldI_i r0 (ldI_i r1 ?_)
      refine rel_Rel_Add.c u7 fun H8 u8 m8 => ?_
      have le8 := m8.le le7 oo
      rw [← hM'] at u8
      exact fin M' O Om' m' _ H8 u8 (v7.mod m8 (sy dj')) (c7.mod m8 (sy dcO) u7.g) (w7.mod m8 (sy dwO)) le8 oo om' dj' dcO dcM' (by rw [addB_same, hM'])
  have out : inN k pa pb = false → centolaw2_RelPlays.k3 H3 (fun mq i H' => ∃ (i' : Nat) (M : Nat → Nat → Bool) (O Om : List Nat) (m : Nat), mq = some ⟨m, 0, none⟩ ∧ i = i' ∧ i' ≤ ll ∧ Le H H' ∧ RLO H' R O k M ∧ RFO H' m Om k M ∧ (∀ x ∈ O, H x = none) ∧ (∀ x ∈ Om, H x = none) ∧ (∀ x ∈ Om, x ∉ O)) (fun r H' => r = true ∧ Le H H') b kl kp i (some ⟨m, 0, none⟩) (fun _ i _ => (ll - i).toNat) (some ⟨R, 0, none⟩) (some ⟨Rc, 0, none⟩) (some ⟨mw, 0, none⟩) (some ⟨m, 0, none⟩) H6 := fun hin => by
    refine k3 M Om m H6 ?_ u6 v6 c6 w6 le06 om dj dcM r0' r1'
    split
    · unfold jM; rw [hin]; rfl
    · exact (addM_out fun g => by rw [inN, decide_eq_false_iff_not] at hin; exact hin g).symm
  refine ldI_i r0' ?_
  refine centoref2_Rel_Is.c v6 ?_
  refine bcd (fun ha => ?_) (fun ha => bcF (out (decide_eq_false fun g => ha ⟨g.1, g.2.1⟩)))
  refine ldI_i r1' ?_
  refine centoref2_Rel_Is.c v6 ?_
  unfold centolaw2_RelPlays.k2
  refine bcd (fun hb' => ?_) (fun hb' => out (decide_eq_false fun g => hb' g.2.2))
  obtain ⟨x, hx⟩ : ∃ k : Nat, pa = k := ⟨pa.toNat, by omega⟩
  obtain ⟨y, hy⟩ : ∃ k : Nat, pb = k := ⟨pb.toNat, by omega⟩
  subst hx hy
  have hxk : x < k := by omega
  have hyk : y < k := by omega
  obtain ⟨B, bs, rfl, v6⟩ := v6
  obtain ⟨p, c, g1, _, g3⟩ := v6.hm
  obtain rfl := g3.resolve_left (by omega)
  refine nil ?_
  refine ldL_i (by rw [Nat.zero_add]; exact g1) ?_
  refine ldI_i r0' ?_
  refine idx hxk ?_
  refine nil ?_
  refine ldL_i (by rw [Nat.zero_add]; exact v6.ptr x (by rw [v6.lb]; exact hxk)) ?_
  refine ldI_i r1' ?_
  refine idx hyk ?_
  refine nil ?_
  refine st0 (v6.row x (by rw [v6.lb]; exact hxk) y hyk) ?_
  have hset := v6.set hxk hyk (v := true)
  rw [addSet hxk hyk] at hset
  have mw7 : Mod (m :: B :: bs) H6 (wr H6 (bs[x]'(by rw [v6.lb]; exact hxk)) y (.bool true)) := Mod.refl.wr (.inl (by simp))
  generalize wr H6 (bs[x]'(by rw [v6.lb]; exact hxk)) y (.bool true) = H7 at *
  have le07 := mw7.le le06 om
  have u7 := u6.mod mw7 dj (fun h => hT.there (om _ h))
  have c7 := c6.mod mw7 (sy dcM) (fun h => hT.there (om _ h))
  have w7 := w6.mod mw7 (sy dwM)
  have r0'' := mw7.rd bOm r0'
  have r1'' := mw7.rd bOm r1'
  have v7 : RFO H7 m (m :: B :: bs) k (addM M k x y) := ⟨B, bs, rfl, hset⟩
  refine hkg le07 ?_
  refine bc_i (fun hh => ?_) (fun hh => ?_)
  · refine centoref2_Rel_Closure.c v7 fun m8 Om8 H8 v8 hOm8 le8 => ?_
    refine k3 _ Om8 m8 H8 ?_ (u7.le le8) v8 (c7.le le8) (w7.le le8) (le07.trans le8) (fun x hx => none_of_le le07 (hOm8 x hx)) (u7.apart hOm8).1 (sy (c7.apart hOm8).1) (le8.rd r0'') (le8.rd r1'')
    rw [hh, if_pos rfl]
    unfold jM inN
    rw [decide_eq_true (by omega)]; rfl
  · refine k3 _ _ m H7 ?_ u7 v7 c7 w7 le07 om dj dcM r0'' r1''
    rw [hh]; rfl

set_option maxRecDepth 100000 in
theorem relPlays_lifted (os : Os) (started : os.Started) (H : Type) (enc : TypeId × Value → H) :
    ReturnsInHanded {} Tryd.checked os 3 .any (fun w args => (Rows.relPlaysSpec.pre enc Tryd.prog Tryd.f3 [] false w args ∧ laidMetH Tryd.prog laidTz w) ∧ sizedMet enc Tryd.prog Tryd.f3 (OpenSpec.ofChange Rows.relPlaysSpec) false w args)
      (Rows.relPlaysSpec.post enc Tryd.prog Tryd.f3 false true false false) := by
  refine returnsInHanded_of_change_and (C := Tryd.checked) (X := fun w _ => laidMetH Tryd.prog laidTz w) (fun _ _ _ hh h => h.of_heap hh) Tryd.own started (by kernel_rfl) Tryd.func3
    (ChangeSpec.witness_shaped (enc := enc) (C := Tryd.checked) (os := os) (X := fun w _ => laidMetH Tryd.prog laidTz w) false (World.doorLaid Tryd.prog 400 os) #[.int .u8 0, .slice Option.none 0 0, .slice Option.none 0 0] 8 rfl (World.shaped_of_RefB (by kernel_rfl) (by kernel_rfl)) (by kernel_rfl) (by kernel_rfl) (by kernel_rfl) (door_met os _)) ?_
  intro W base args ds gs before hval0 hW _ _ hL _
  have hval : ∀ (j : Nat) t v, Tryd.f3.params[j]? = some t → args[j]? = some v → Value.okWide Tryd.prog W .any base t v := hval0
  have hW' := hW
  obtain ⟨p, q, hA0, hV, rfl, hfz, hnd⟩ := hW
  have hA : DataW.TrodAll enc Tryd.prog W 0 (fun _ => true) true Tryd.f3.params.toList args.toList ds p := hA0
  rw [Tryd.params3] at hA hval
  obtain ⟨v0, v1, v2, d0, d1, d2, p0, p1, p2, rfl, rfl, rfl, h0, h1, h2⟩ := trodAll_three hA
  obtain ⟨x0, rfl, rfl, rfl, w0⟩ := open_int Tryd.underlying5 (hval 0 5 v0 rfl rfl) h0
  obtain ⟨q1, l1, c1, x1, rfl, s1⟩ := openSl (by decide) Tryd.underlying22 (opens_st Tryd.underlying30 (by kernel_rfl) (opensF_cons rfl (opens_int Tryd.underlying3 (by kernel_rfl)) rfl (opensF_one rfl (opens_int Tryd.underlying3 (by kernel_rfl))))) (hval 1 22 v1 rfl rfl) h1 (fun x hx => by simp [hx]) hfz
  obtain ⟨q2, l2, c2, x2, rfl, s2⟩ := openSl (by decide) Tryd.underlying23 (opens_bool Tryd.underlying4 (by kernel_rfl)) (hval 2 23 v2 rfl rfl) h2 (fun x hx => by simp [hx]) hfz
  refine (calls_true (CallH.true (relPlays_law w0 s1.pairs s1.pairsWf s2.bools (tz_of_laid hL)))).mono fun e W' ⟨he, hk⟩ => ?_
  subst he
  exact ⟨_, rfl, post_true Tryd.laidOut hW' (by kernel_rfl) rfl rfl rfl Tryd.underlying4 hk⟩

theorem relPlays_row : Rows.RelPlaysSaid :=
  OpenClaim.holds_of_wide 3 Tryd.f3 rfl rfl rfl rfl rfl rfl rfl ⟨rfl, rfl, rfl, rfl, rfl⟩ rfl rfl rfl rfl rfl (by kernel_rfl) Tryd.func3 (by kernel_rfl)
    (of_decide_eq_true (by kernel_rfl)) (by unfold Func.isWrapper; first | (rw [if_pos (by decide +kernel)]; kernel_rfl) | (rw [if_neg (by decide +kernel)]; exact ⟨rfl, rfl⟩))
    (fun os started H enc _ => relPlays_lifted os started H enc)

theorem relPlays_card : Rows.RelPlaysCardSaid :=
  Claim7.holds_tied_plain_at .later [] [.data] true (true, "f14aac9e52d846e16b45683151c3010fb29280cfdf5c2d90c2c3a166c41e4a9f") false
    relPlays_row (fun _ h => by cases h) (by kernel_rfl) (fun _ h => by cases h) relPlays_row_tie rfl ⟨rfl, rfl⟩ (by kernel_rfl) rfl
    (fun f fn hf hfn => by
      obtain rfl : f = 3 := Option.some.inj ((show Tryd.prog.funcNamed Rows.relPlaysRow.func = some 3 by kernel_rfl).symm.trans hf) |>.symm
      obtain rfl : fn = Tryd.f3 := (Option.some.inj (Tryd.func3.symm.trans hfn)).symm
      exact ⟨by kernel_rfl, fun j t ht => by
        rw [Tryd.params3] at ht
        have hm : t ∈ [5, 22, 23] := by
          have := Array.mem_of_getElem? ht
          simp at this
          first | (rcases this with rfl | rfl | rfl <;> simp) | simp [this]
        have hall : ([5, 22, 23].all fun u => !Tryd.prog.wantsStandIn u) = true := by kernel_rfl
        exact (show Tryd.prog.wantsStandIn t = false by simpa using List.all_eq_true.1 hall t hm)⟩)
    (by kernel_rfl)
end Go.Proofs.YtcmooaimhloonaaDoor
