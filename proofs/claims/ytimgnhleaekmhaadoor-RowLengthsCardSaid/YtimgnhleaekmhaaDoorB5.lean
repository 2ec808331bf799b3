/- For every input RowLengths returns true, and what came in reads as it did: tied to the table of math/bits. -/
import Derived.Test.YtimgnhleaekmhaaDoorB3
import Derived.Test.YtimgnhleaekmhaaDoorBT
namespace Go.Proofs.YtimgnhleaekmhaaDoor
open Go.V
open Go.ChangeShapes Go.WideShapes Go.ChangeAt Go.RowKit Go.WideElems Go.WideMaps
theorem els_lt {k n : Nat} (h : k ≤ n) : els (fun j => decide (j < k)) n = List.range k := by
  induction n with
  | zero => have : k = 0 := by omega
            subst this; rfl
  | succ n ih =>
    by_cases e : k = n + 1
    · subst e
      unfold els
      rw [List.filter_eq_self]
      intro x hx; simpa using hx
    · rw [els_off (by simp; omega), ih (by omega)]

theorem rowLengths_law {n m : Int} {H : Hp} (wn : (Lit.int .u8 n).wf = true) (wm : (Lit.int .u8 m).wf = true) (hT : Tz H) : centolaw1_RowLengths.C n m H fun r H' => r = true ∧ Le H H' := by
  apply centolaw1_RowLengths.of
  have bn := wf_u8 wn
  have bm := wf_u8 wm
  obtain ⟨n, rfl⟩ : ∃ k : Nat, n = k := ⟨n.toNat, by omega⟩
  obtain ⟨m, rfl⟩ : ∃ k : Nat, m = k := ⟨m.toNat, by omega⟩
  refine centolaw1_known.c hT fun H0 le0 => ?_
  refine bcF ?_
  refine chk (by omega) ?_
  refine bits_New.c (hT.le le0) fun ra qa H1 a1 hra hqa le1 => ?_
  rw [show (min (max (n : Int) 0) 1000).toNat = n by omega] at a1
  refine chk (by omega) ?_
  refine bits_New.c a1.tz fun rb qb H2 b2 hrb hqb le2 => ?_
  rw [show (min (max (m : Int) 0) 1000).toNat = m by omega] at b2
  have sab := a1.new hrb hqb le2
  have le02 := (le0.trans le1).trans le2
  have a2 := a1.le le2
  have nb := none1 (none_of_le (le0.trans le1) hqb)
  refine ⟨fun i H' => ∃ i' : Nat, i = i' ∧ i' ≤ m ∧ Le H H' ∧ BR H' ra qa n (fun _ => false) ∧ BR H' rb qb m (fun j => decide (j < i')), fun i _ => (m - i).toNat, ⟨0, rfl, by omega, le02, a2, b2.congr fun j => by simp⟩, ?_⟩
  rintro i H3 ⟨i, rfl, hi, le3, a3, b3⟩
  refine chk (by omega) ?_
  refine bcd (fun h => ?_) (fun h => ?_)
  · refine bits_Row_Put.c b3 fun H4 b4 m4 _ => ?_
    refine chk (by omega) ⟨⟨i + 1, by omega, by omega, m4.le le3 nb, a3.mod m4 sab.1 sab.2.1 sab.2.2.2.2, b4.congr fun j => ?_⟩, by first | omega | (dsimp only; omega)⟩
    rw [putB_nat]
    by_cases e : j = i
    · subst e
      have : j < m := by omega
      simp [this]
    · rw [if_neg (fun g => e g.1)]
      exact decide_eq_decide.2 (by omega)
  · obtain rfl : i = m := by omega
    refine bits_Row_Copy.c a3 fun rc qc H4 c4 hrc hqc le4 => ?_
    have sac := a3.new hrc hqc le4
    have sbc := b3.new hrc hqc le4
    have a4 := a3.le le4
    have b4 := b3.le le4
    refine bits_Row_Or.c c4 b4 sbc.2.1 fun H5 c5 m5 => ?_
    have le5 := m5.le (le3.trans le4) (none1 (none_of_le le3 hqc))
    have a5 := a4.mod m5 sac.1 sac.2.1 sac.2.2.2.2
    have b5 := b4.mod m5 sbc.1 sbc.2.1 sbc.2.2.2.2
    have c5 := c5.congr (s' := fun j => decide (j < min n i)) fun j => by
      unfold orB
      by_cases h1 : j < n <;> by_cases h2 : j < i <;> simp [h1, h2] <;> omega
    refine bits_Row_Copy.c b5 fun rd' qd H6 d6 hrd hqd le6 => ?_
    have sad := a5.new hrd hqd le6
    have sbd := b5.new hrd hqd le6
    have scd := c5.new hrd hqd le6
    have a6 := a5.le le6
    refine bits_Row_And.c d6 a6 sad.1 sad.2.1 fun H7 d7 m7 => ?_
    have le7 := m7.le (le5.trans le6) (none1 (none_of_le le5 hqd))
    have a7 := a6.mod m7 sad.1 sad.2.1 sad.2.2.2.2
    have b7 := (b5.le le6).mod m7 sbd.1 sbd.2.1 sbd.2.2.2.2
    have c7 := (c5.le le6).mod m7 scd.1 scd.2.1 scd.2.2.2.2
    refine bits_Row_Copy.c c7 fun re qe H8 e8 hre hqe le8 => ?_
    have sae := a7.new hre hqe le8
    have sbe := b7.new hre hqe le8
    have sce := c7.new hre hqe le8
    have sde := d7.new hre hqe le8
    refine bits_Row_And.c e8 (b7.le le8) sbe.1 sbe.2.1 fun H9 e9 m9 => ?_
    have le9 := m9.le (le7.trans le8) (none1 (none_of_le le7 hqe))
    have a9 := (a7.le le8).mod m9 sae.1 sae.2.1 sae.2.2.2.2
    have b9 := (b7.le le8).mod m9 sbe.1 sbe.2.1 sbe.2.2.2.2
    have c9 := (c7.le le8).mod m9 sce.1 sce.2.1 sce.2.2.2.2
    have d9 := (d7.le le8).mod m9 sde.1 sde.2.1 sde.2.2.2.2
    refine bits_Row_Len.c c9 ?_
    refine chk (by omega) ?_
    refine bcd (fun _ => ?_) fun h => absurd rfl h
    refine bits_Row_Count.c c9 fun H10 le10 => ?_
    rw [els_lt (Nat.min_le_left n i), List.length_range]
    refine chk (by omega) (chk (by omega) ?_)
    refine bcd (fun _ => ?_) fun h => absurd (by omega) h
    refine chk (by omega) (chk (by omega) ?_)
    have hg : grewB (fun _ => false) (fun j => decide (j < i)) n n = decide ((0 : Int) < min (n : Int) i) := by
      unfold grewB
      rw [Bool.eq_iff_iff, List.any_eq_true]
      simp only [List.mem_range, Bool.and_eq_true, decide_eq_true_eq, Bool.not_false, and_true]
      constructor
      · rintro ⟨x, h1, h2, h3⟩; omega
      · intro h; exact ⟨0, by omega, by omega, by omega⟩
    refine bcd (fun _ => ?_) fun h => absurd hg h
    refine bits_Row_Count.c (d9.le le10) fun H11 le11 => ?_
    have hd : (els (fun j => decide (j < i) && false) i).length = 0 := by
      rw [count_ext (t := fun _ => false) (fun j _ => by simp)]; unfold els; simp
    rw [hd]
    refine bcd (fun _ => ?_) fun h => absurd rfl h
    have le911 := le10.trans le11
    refine bits_Row_Len.c (d9.le le911) ?_
    refine chk (by omega) ?_
    refine bcd (fun _ => ?_) fun h => absurd rfl h
    refine bits_Row_Same.c (e9.le le911) (c9.le le911) ?_
    have hs : sameB (fun j => decide (j < min n i) && decide (j < i)) (fun j => decide (j < min n i)) n = true := sameB_iff.2 fun j hj => by
      by_cases h : j < min n i
      · have : j < i := by omega
        simp [this]
      · have : ¬ (j < n ∧ j < i) := by omega
        simp; omega
    rw [hs, decide_eq_true rfl]
    refine bcT ?_
    refine bits_Row_Same.c (a9.le le911) (b9.le le911) ?_
    have fin := le9.trans le911
    refine bcd (fun h => ⟨?_, fin⟩) (fun h => ⟨?_, fin⟩)
    · have hn : n = 0 := by omega
      subst hn
      have : sameB (fun _ => false) (fun j => decide (j < i)) 0 = true := sameB_iff.2 fun j hj => by omega
      rw [this, Bool.and_true]
      refine decide_eq_true (decide_eq_decide.2 ?_)
      omega
    · refine decide_eq_true ?_
      by_cases e : n = i
      · rw [decide_eq_true e, Bool.true_and]
        cases hc : sameB (fun _ => false) (fun j => decide (j < i)) n with
        | false => rfl
        | true =>
          have := sameB_iff.1 hc 0 (by omega)
          simp at this; omega
      · simp [e]

set_option maxRecDepth 100000 in
theorem rowLengths_lifted (os : Os) (started : os.Started) (H : Type) (enc : TypeId × Value → H) :
    ReturnsInHanded {} Tryd.checked os 6 .any (fun w args => (Rows.rowLengthsSpec.pre enc Tryd.prog Tryd.f6 [] false w args ∧ laidMetH Tryd.prog laidTz w) ∧ sizedMet enc Tryd.prog Tryd.f6 (OpenSpec.ofChange Rows.rowLengthsSpec) false w args)
      (Rows.rowLengthsSpec.post enc Tryd.prog Tryd.f6 false true false false) := by
  refine returnsInHanded_of_change_and (C := Tryd.checked) (X := fun w _ => laidMetH Tryd.prog laidTz w) (fun _ _ _ hh h => h.of_heap hh) Tryd.own started (by kernel_rfl) Tryd.func6
    (ChangeSpec.witness_shaped (enc := enc) (C := Tryd.checked) (os := os) (X := fun w _ => laidMetH Tryd.prog laidTz w) false (World.doorLaid Tryd.prog 400 os) #[.int .u8 0, .int .u8 0] 8 rfl (World.shaped_of_RefB (by kernel_rfl) (by kernel_rfl)) (by kernel_rfl) (by kernel_rfl) (by kernel_rfl) (door_met os _)) ?_
  intro W base args ds gs before hval0 hW _ _ hL _
  have hval : ∀ (j : Nat) t v, Tryd.f6.params[j]? = some t → args[j]? = some v → Value.okWide Tryd.prog W .any base t v := hval0
  have hW' := hW
  obtain ⟨p, q, hA0, hV, rfl, hfz, hnd⟩ := hW
  have hA : DataW.TrodAll enc Tryd.prog W 0 (fun _ => true) true Tryd.f6.params.toList args.toList ds p := hA0
  rw [Tryd.params6] at hA hval
  obtain ⟨v0, v1, d0, d1, p0, p1, rfl, rfl, rfl, h0, h1⟩ := trodAll_two hA
  obtain ⟨x0, rfl, rfl, rfl, w0⟩ := open_int Tryd.underlying5 (hval 0 5 v0 rfl rfl) h0
  obtain ⟨x1, rfl, rfl, rfl, w1⟩ := open_int Tryd.underlying5 (hval 1 5 v1 rfl rfl) h1
  refine (calls_true (CallH.true (rowLengths_law w0 w1 (tz_of_laid hL)))).mono fun e W' ⟨he, hk⟩ => ?_
  subst he
  exact ⟨_, rfl, post_true Tryd.laidOut hW' (by kernel_rfl) rfl rfl rfl Tryd.underlying4 hk⟩

theorem rowLengths_row : Rows.RowLengthsSaid :=
  OpenClaim.holds_of_wide 6 Tryd.f6 rfl rfl rfl rfl rfl rfl rfl ⟨rfl, rfl, rfl, rfl, rfl⟩ rfl rfl rfl rfl rfl (by kernel_rfl) Tryd.func6 (by kernel_rfl)
    (of_decide_eq_true (by kernel_rfl)) (by unfold Func.isWrapper; first | (rw [if_pos (by decide +kernel)]; kernel_rfl) | (rw [if_neg (by decide +kernel)]; exact ⟨rfl, rfl⟩))
    (fun os started H enc _ => rowLengths_lifted os started H enc)

theorem rowLengths_card : Rows.RowLengthsCardSaid :=
  Claim7.holds_tied_plain_at .later [] [.data] true (true, "9e9ba44d933a7f20e0284c36fd5894acf154f0b9efcc9541d1835b2630e191a8") false
    rowLengths_row (fun _ h => by cases h) (by kernel_rfl) (fun _ h => by cases h) rowLengths_row_tie rfl ⟨rfl, rfl⟩ (by kernel_rfl) rfl
    (fun f fn hf hfn => by
      obtain rfl : f = 6 := Option.some.inj ((show Tryd.prog.funcNamed Rows.rowLengthsRow.func = some 6 by kernel_rfl).symm.trans hf) |>.symm
      obtain rfl : fn = Tryd.f6 := (Option.some.inj (Tryd.func6.symm.trans hfn)).symm
      exact ⟨by kernel_rfl, fun j t ht => by
        rw [Tryd.params6] at ht
        have hm : t ∈ [5] := by
          have := Array.mem_of_getElem? ht
          simp at this
          simp [this]
        have hall : ([5].all fun u => !Tryd.prog.wantsStandIn u) = true := by kernel_rfl
        exact (show Tryd.prog.wantsStandIn t = false by simpa using List.all_eq_true.1 hall t hm)⟩)
    (by kernel_rfl)
end Go.Proofs.YtimgnhleaekmhaaDoor
