/- For every input RowPlaces returns true, and what came in reads as it did: tied to the table of math/bits. -/
import Derived.Test.YtimgnhleaekmhaaDoorB3
import Derived.Test.YtimgnhleaekmhaaDoorBT
namespace Go.Proofs.YtimgnhleaekmhaaDoor
open Go.V
open Go.ChangeShapes Go.WideShapes Go.ChangeAt Go.RowKit Go.WideElems Go.WideMaps
theorem els_one {n a : Nat} (h : a < n) : els (fun i => decide (i = a)) n = [a] := by
  induction n with
  | zero => omega
  | succ n ih =>
    by_cases e : n = a
    · subst e
      rw [els_on (by simp)]
      have : els (fun i => decide (i = n)) n = [] := by
        unfold els
        rw [List.filter_eq_nil_iff]
        intro x hx; simp at hx ⊢; omega
      rw [this]; rfl
    · rw [els_off (by simpa using e), ih (by omega)]
theorem els_two {n a b : Nat} (ha : a < n) (hb : b < n) (hab : a ≠ b) : (els (fun i => decide (i = a) || decide (i = b)) n).length = 2 := by
  induction n with
  | zero => omega
  | succ n ih =>
    by_cases e : n = a
    · subst e
      rw [els_on (by simp), List.length_append]
      have : els (fun i => decide (i = n) || decide (i = b)) n = els (fun i => decide (i = b)) n := count_ext fun i hi => by
        have : ¬ i = n := by omega
        simp [this]
      rw [this, els_one (by omega)]; rfl
    · by_cases e' : n = b
      · subst e'
        rw [els_on (by simp), List.length_append]
        have : els (fun i => decide (i = a) || decide (i = n)) n = els (fun i => decide (i = a)) n := count_ext fun i hi => by
          have : ¬ i = n := by omega
          simp [this]
        rw [this, els_one (by omega)]; rfl
      · rw [els_off (by simp [e, e']), ih (by omega) (by omega)]

theorem rowPlaces_law {n a b : Int} {H : Hp} (wn : (Lit.int .u8 n).wf = true) (wa : (Lit.int .u8 a).wf = true) (wb : (Lit.int .u8 b).wf = true) (hT : Tz H) : centolaw1_RowPlaces.C n a b H fun r H' => r = true ∧ Le H H' := by
  apply centolaw1_RowPlaces.of
  have bn := wf_u8 wn
  have ba := wf_u8 wa
  have bb := wf_u8 wb
  refine centolaw1_known.c hT fun H0 le0 => ?_
  refine bcF ?_
  refine chk (by omega) (chk (by omega) ?_)
  obtain ⟨k, hk⟩ : ∃ k : Nat, n + 1 = k := ⟨(n + 1).toNat, by omega⟩
  rw [hk]
  suffices h : centolaw1_RowPlaces.k1 (fun r H' => r = true ∧ Le H H') k (Int.tmod a k) (Int.tmod b k) H0 from
    ⟨chk (by omega) ⟨by omega, chk (by omega) ⟨by omega, h⟩⟩, chk (by omega) ⟨by omega, chk (by omega) ⟨by omega, h⟩⟩⟩
  have ea : Int.tmod a k = ((a.toNat % k : Nat) : Int) := tmodN ba.1
  have eb : Int.tmod b k = ((b.toNat % k : Nat) : Int) := tmodN bb.1
  have hak : a.toNat % k < k := Nat.mod_lt _ (by omega)
  have hbk : b.toNat % k < k := Nat.mod_lt _ (by omega)
  rw [ea, eb]
  generalize a.toNat % k = x at *
  generalize b.toNat % k = y at *
  have hT0 := hT.le le0
  refine bits_New.c hT0 fun r q H1 u1 hr hq le1 => ?_
  rw [show (min (max (k : Int) 0) 1000).toNat = k by omega] at u1
  refine bits_Row_Put.c u1 fun H2 u2 m2 _ => ?_
  have u2 := u2.congr (s' := fun i => decide (i = x)) fun i => by
    rw [putB_nat]; by_cases e : i = x
    · subst e; simp [hak]
    · simp [e]
  refine bits_Row_Copy.c u2 fun r' q' H3 v3 hr' hq' le3 => ?_
  have s3 := u2.new hr' hq' le3
  refine bits_Row_Put.c v3 fun H4 v4 m4 _ => ?_
  have v4 := v4.congr (s' := fun i => decide (i = x) || decide (i = y)) fun i => by
    rw [putB_nat]; by_cases e : i = y
    · subst e; simp [hbk]
    · simp [e]
  have u4 := (u2.le le3).mod m4 s3.1 s3.2.1 s3.2.2.2.2
  refine bits_Row_Copy.c v4 fun r'' q'' H5 w5 hr'' hq'' le5 => ?_
  have s5 := v4.new hr'' hq'' le5
  have s5' := u4.new hr'' hq'' le5
  refine bits_Row_Put.c w5 fun H6 w6 m6 _ => ?_
  have w6 := w6.congr (s' := fun i => decide (i = y) && !decide (i = x)) fun i => by
    rw [putB_nat]; by_cases e : i = x
    · subst e; simp [hak]
    · simp [e]
  have u6 := (u4.le le5).mod m6 s5'.1 s5'.2.1 s5'.2.2.2.2
  have v6 := (v4.le le5).mod m6 s5.1 s5.2.1 s5.2.2.2.2
  have leA : Le H H6 := by
    have a2 := m2.le (le0.trans le1) (none1 (none_of_le le0 hq))
    have a4 := m4.le (a2.trans le3) (none1 (none_of_le a2 hq'))
    exact m6.le (a4.trans le5) (none1 (none_of_le a4 hq''))
  clear v4 u4 w5 v3 u2 u1 s5 s5' s3 m6 m4 m2
  have k2 : ∀ c : Int, c = (if x = y then 1 else 2) → centolaw1_RowPlaces.k2 (fun r H' => r = true ∧ Le H H') x y (some ⟨r, 0, none⟩) (some ⟨r', 0, none⟩) (some ⟨r'', 0, none⟩) k c H6 := by
    intro c hc
    refine bits_Row_Has.c u6 ?_
    rw [hasB_nat]
    refine bc_i (fun _ => ?_) (fun h => by simp at h)
    refine bits_Row_Has.c u6 ?_
    rw [hasB_nat]
    refine bcd (fun _ => ?_) (fun h => absurd (decide_eq_decide.2 ⟨fun g => by omega, fun g => by omega⟩) h)
    refine bits_Row_Count.c u6 fun H7 le7 => ?_
    rw [els_one hak]
    refine bcd (fun _ => ?_) fun h => absurd rfl h
    refine bits_Row_Count.c (v6.le le7) fun H8 le8 => ?_
    have le78 := le7.trans le8
    have e2 : (els (fun i => decide (i = x) || decide (i = y)) k).length = if x = y then 1 else 2 := by
      by_cases e : x = y
      · subst e
        rw [if_pos rfl, count_ext (t := fun i => decide (i = x)) (fun i _ => by simp), els_one hak]; rfl
      · rw [if_neg e, els_two hak hbk e]
    rw [e2]
    refine bcd (fun _ => ?_) (fun h => absurd (by rw [hc]; split <;> rfl) h)
    refine bits_Row_Count.c (w6.le le78) fun H9 le9 => ?_
    have le79 := le78.trans le9
    have e3 : (els (fun i => decide (i = y) && !decide (i = x)) k).length = if x = y then 0 else 1 := by
      by_cases e : x = y
      · subst e
        rw [if_pos rfl, count_ext (t := fun _ => false) (fun i _ => by simp)]
        unfold els; simp
      · rw [if_neg e, count_ext (t := fun i => decide (i = y)) (fun i _ => ?_), els_one hbk]; rfl
        by_cases e' : i = y
        · subst e'; simp [Ne.symm e]
        · simp [e']
    rw [e3]
    refine chk (by rw [hc]; split <;> omega) ?_
    refine bcd (fun _ => ?_) (fun h => absurd (by rw [hc]; split <;> rfl) h)
    have w9 := w6.le le79
    refine bits_Row_Has.c w9 ?_
    rw [hasB_nat]
    refine bc_i (fun _ => ?_) (fun h => by simp at h)
    refine bits_Row_Has.c w9 ?_
    rw [hasB_nat]
    refine bcd (fun _ => ?_) (fun h => absurd ?_ h)
    · have u9 := u6.le le79
      refine bits_Row_Has.c u9 ?_
      rw [show hasB (fun i => decide (i = x)) (-1) = false from rfl]
      refine bcT ?_
      refine bits_Row_Has.c u9 ?_
      rw [hasB_nat]
      refine ⟨?_, leA.trans le79⟩
      have : ¬ k = x := by omega
      simp [this]
    · by_cases e : x = y
      · subst e; simp
      · have : ¬ (x : Int) = y := by omega
        simp [Ne.symm e, this]
  refine bcd (fun h => k2 _ ?_) (fun h => k2 _ ?_)
  · rw [if_pos (by omega)]
  · rw [if_neg (by omega)]

set_option maxRecDepth 100000 in
theorem rowPlaces_lifted (os : Os) (started : os.Started) (H : Type) (enc : TypeId × Value → H) :
    ReturnsInHanded {} Tryd.checked os 3 .any (fun w args => (Rows.rowPlacesSpec.pre enc Tryd.prog Tryd.f3 [] false w args ∧ laidMetH Tryd.prog laidTz w) ∧ sizedMet enc Tryd.prog Tryd.f3 (OpenSpec.ofChange Rows.rowPlacesSpec) false w args)
      (Rows.rowPlacesSpec.post enc Tryd.prog Tryd.f3 false true false false) := by
  refine returnsInHanded_of_change_and (C := Tryd.checked) (X := fun w _ => laidMetH Tryd.prog laidTz w) (fun _ _ _ hh h => h.of_heap hh) Tryd.own started (by kernel_rfl) Tryd.func3
    (ChangeSpec.witness_shaped (enc := enc) (C := Tryd.checked) (os := os) (X := fun w _ => laidMetH Tryd.prog laidTz w) false (World.doorLaid Tryd.prog 400 os) #[.int .u8 0, .int .u8 0, .int .u8 0] 8 rfl (World.shaped_of_RefB (by kernel_rfl) (by kernel_rfl)) (by kernel_rfl) (by kernel_rfl) (by kernel_rfl) (door_met os _)) ?_
  intro W base args ds gs before hval0 hW _ _ hL _
  have hval : ∀ (j : Nat) t v, Tryd.f3.params[j]? = some t → args[j]? = some v → Value.okWide Tryd.prog W .any base t v := hval0
  have hW' := hW
  obtain ⟨p, q, hA0, hV, rfl, hfz, hnd⟩ := hW
  have hA : DataW.TrodAll enc Tryd.prog W 0 (fun _ => true) true Tryd.f3.params.toList args.toList ds p := hA0
  rw [Tryd.params3] at hA hval
  obtain ⟨v0, v1, v2, d0, d1, d2, p0, p1, p2, rfl, rfl, rfl, h0, h1, h2⟩ := trodAll_three hA
  obtain ⟨x0, rfl, rfl, rfl, w0⟩ := open_int Tryd.underlying5 (hval 0 5 v0 rfl rfl) h0
  obtain ⟨x1, rfl, rfl, rfl, w1⟩ := open_int Tryd.underlying5 (hval 1 5 v1 rfl rfl) h1
  obtain ⟨x2, rfl, rfl, rfl, w2⟩ := open_int Tryd.underlying5 (hval 2 5 v2 rfl rfl) h2
  refine (calls_true (CallH.true (rowPlaces_law w0 w1 w2 (tz_of_laid hL)))).mono fun e W' ⟨he, hk⟩ => ?_
  subst he
  exact ⟨_, rfl, post_true Tryd.laidOut hW' (by kernel_rfl) rfl rfl rfl Tryd.underlying4 hk⟩

theorem rowPlaces_row : Rows.RowPlacesSaid :=
  OpenClaim.holds_of_wide 3 Tryd.f3 rfl rfl rfl rfl rfl rfl rfl ⟨rfl, rfl, rfl, rfl, rfl⟩ rfl rfl rfl rfl rfl (by kernel_rfl) Tryd.func3 (by kernel_rfl)
    (of_decide_eq_true (by kernel_rfl)) (by unfold Func.isWrapper; first | (rw [if_pos (by decide +kernel)]; kernel_rfl) | (rw [if_neg (by decide +kernel)]; exact ⟨rfl, rfl⟩))
    (fun os started H enc _ => rowPlaces_lifted os started H enc)

theorem rowPlaces_card : Rows.RowPlacesCardSaid :=
  Claim7.holds_tied_plain_at .later [] [.data] true (true, "9e9ba44d933a7f20e0284c36fd5894acf154f0b9efcc9541d1835b2630e191a8") false
    rowPlaces_row (fun _ h => by cases h) (by kernel_rfl) (fun _ h => by cases h) rowPlaces_row_tie rfl ⟨rfl, rfl⟩ (by kernel_rfl) rfl
    (fun f fn hf hfn => by
      obtain rfl : f = 3 := Option.some.inj ((show Tryd.prog.funcNamed Rows.rowPlacesRow.func = some 3 by kernel_rfl).symm.trans hf) |>.symm
      obtain rfl : fn = Tryd.f3 := (Option.some.inj (Tryd.func3.symm.trans hfn)).symm
      exact ⟨by kernel_rfl, fun j t ht => by
        rw [Tryd.params3] at ht
        have hm : t ∈ [5] := by
          have := Array.mem_of_getElem? ht
          simp at this
          simp [this]
        have hall : ([5].all fun u => !Tryd.prog.wantsStandIn u) = true := by kernel_rfl
        exact (show Tryd.prog.wantsStandIn t = false by simpa using List.all_eq_true.1 hall t hm)⟩)
    (by kernel_rfl)
end Go.Proofs.YtimgnhleaekmhaaDoor
