/- For every input ObjLarge returns true, and what came in reads as it did: no condition. -/
import Derived.Test.YteijgmmjgbgffaaDoorJ4
import Derived.Test.YteijgmmjgbgffaaDoorBT
import Derived.Test.YteijgmmjgbgffaaDoorVcOpen
namespace Go.Proofs.YteijgmmjgbgffaaDoor
open Go.V
open Go.ChangeShapes Go.WideShapes Go.ChangeAt Go.RowKit
theorem labE_nil (k : Nat) : labE (List.replicate k ([] : BL)) = if 40 < k then 11 else 0 := by
  have e : labOk (List.replicate k []) = true := by
    unfold labOk
    rw [List.all_eq_true]
    intro x hx
    rw [(List.mem_replicate.1 hx).2]; rfl
  unfold labE; rw [List.length_replicate, e]; rfl
theorem chkO_nil (k : Nat) : chkO (List.replicate k []) [] = if 40 < k then 11 else 0 := by
  unfold chkO
  rw [labE_nil]
  by_cases h : 40 < k
  · rw [if_pos h]; rfl
  · rw [if_neg h, if_neg (by simp), if_pos ?_]
    have e1 : ofM ([] : List (Int × Int)) (List.replicate k ([] : BL)).length = fun _ _ => false := by funext x y; simp [ofM]
    have e2 : trB ([] : List (Int × Int)) (List.replicate k ([] : BL)).length = true := by
      unfold trB
      rw [e1]
      exact (trB_iff (fun _ _ _ => rfl)).2 fun x y z h => by cases h
    rw [e2]; rfl
theorem makE_nil (k : Nat) : makE (List.replicate k []) k = if 40 < k then 11 else 0 := by
  unfold makE
  rw [labE_nil, List.length_replicate]
  by_cases h : 40 < k
  · rw [if_pos h]; rfl
  · rw [if_neg h, if_neg (by simp), if_neg (by simp)]
theorem objLarge_law {n : Int} {H : Hp} (wn : (Lit.int .u8 n).wf = true) (hT : Tz H) : centolaw4_ObjLarge.C n H fun r H' => r = true ∧ Le H H' := by
  apply centolaw4_ObjLarge.of
  have bn := wf_u8 wn
  obtain ⟨n, rfl⟩ : ∃ k : Nat, n = k := ⟨n.toNat, by omega⟩
  refine centolaw4_known.c hT fun H0 le0 => bcn (fun h => by cases h) fun _ => ⟨by decide, ?_⟩
  rw [show (3 : Int) = ((3 : Nat) : Int) from rfl, ← Int.ofNat_tmod]
  have hm : n % 3 < 3 := Nat.mod_lt _ (by decide)
  generalize n % 3 = j at hm
  refine chk (by omega) (chk (by omega) (chk (by omega) ?_))
  rw [show ((j : Nat) : Int) + 40 - 1 = ((j + 39 : Nat) : Int) by omega]
  generalize hk : j + 39 = k
  refine ⟨k, k, rfl, rfl, Nat.le_refl _, by omega, by omega, ?_⟩
  intro b10 hb10
  have q1 : Sl sv (upd H0 b10 (rep k [.string .empty])) (some ⟨b10, 0, none⟩) k k (List.replicate k []) := by
    refine ⟨by simp, Nat.le_refl _, .inr ⟨b10, 0, rfl, fun i hi => ?_⟩⟩
    rw [List.length_replicate] at hi
    rw [Nat.zero_add, rd_upd_self]
    show ((List.replicate k (Value.string .empty))[i]?).bind nmO = _
    rw [List.getElem?_replicate, if_pos hi, List.getElem_replicate]; rfl
  have le1 : Le H0 (upd H0 b10 (rep k [.string .empty])) := Le.upd hb10
  generalize upd H0 b10 (rep k [.string .empty]) = H1 at *
  intro b12 hb12
  have d12 : D2 (upd H1 b12 [.slice none 0 0, .slice none 0 0]) b12 none 0 0 none 0 0 := D2.new
  have le2 : Le H1 (upd H1 b12 [.slice none 0 0, .slice none 0 0]) := Le.upd hb12
  generalize upd H1 b12 [.slice none 0 0, .slice none 0 0] = H2 at *
  refine d12.put fun H3 d3 m3 => ?_
  have le13 : Le H1 H3 := m3.le le2 (by simpa using hb12)
  have le03 := (le0.trans le1).trans le13
  have q3 := q1.le le13
  have hT3 := hT.le le03
  clear d12 le2 m3 hb12 hb10 q1 le1 le13 hT le0
  have hnil : ∀ {Hx : Hp}, Sn 2 pairC Hx none 0 0 [] := ⟨rfl, Nat.le_refl _, .inl rfl⟩
  have fin : ∀ Hx, Le H3 Hx → centolaw4_ObjLarge.k1 (fun r H' => r = true ∧ Le H H') b12 (k : Nat) (makE (List.replicate k []) k) Hx := by
    intro Hx le
    have k2 : centolaw4_ObjLarge.k2 (fun r H' => r = true ∧ Le H H') b12 (makE (List.replicate k []) k) (if 40 < k then 11 else 0) Hx := by
      unfold centolaw4_ObjLarge.k2
      refine (d3.le le).get (obj_Check.c (q3.le le) hnil (hT3.le le) (by decide) fun H4 le4 => ?_)
      have l4 := le.trans le4
      rw [chkO_nil, makE_nil]
      refine bcd (fun _ => bcd (fun _ => ?_) fun h => absurd rfl h) fun h => absurd rfl h
      refine (d3.le l4).get (obj_Is.c (q3.le l4) hnil (hT3.le l4) (by decide) fun H5 le5 => ?_)
      rw [chkO_nil]
      exact ⟨decide_eq_true rfl, le03.trans (l4.trans le5)⟩
    unfold centolaw4_ObjLarge.k1
    refine bcd (fun h => ?_) fun h => ?_
    · rw [if_pos (by omega)] at k2; exact k2
    · rw [if_neg (by omega)] at k2; exact k2
  refine ldL_i d3.1 ⟨rel_New.c hT3 fun R O H4 u4 _ le4 => ⟨(d3.le le4).1, ?_, ?_⟩, ?_⟩
  · rw [show (min (max ((k : Nat) : Int) 0) 200).toNat = k by omega] at u4
    have after : ∀ p1 l1 c1 p2 l2 c2 Hy, Le H3 Hy → NEW Hy [.slice none 0 0, .slice none 0 0] fun bq34 Hx35 => ST Hx35 bq34 0 (.slice p1 l1 c1) fun Hx36 => ST Hx36 bq34 1 (.slice p2 l2 c2) fun Hx37 => centolaw4_ObjLarge.k1 (fun r H' => r = true ∧ Le H H') b12 (k : Nat) (makE (List.replicate k []) k) Hx37 := by
      intro p1 l1 c1 p2 l2 c2 Hy leY b34 hb34
      exact D2.new.put fun H6 d6 m6 => fin H6 (m6.le (leY.trans (Le.upd hb34)) (by simpa using none_of_le leY hb34))
    refine obj_Make.c (q3.le le4) (.inr ⟨R, O, rfl, u4⟩) (by omega) (fun _ H5 le5 => after _ _ _ _ _ _ H5 (le4.trans le5)) (fun h0 lp' lc' pp' pl' pc' H5 _ _ le5 => ?_)
    rw [← h0]
    exact after _ _ _ _ _ _ H5 (le4.trans le5)
  · rw [show (min (max ((k : Nat) : Int) 0) 200).toNat = k by omega] at u4
    intro b76 hb76
    have le5 := le4.trans (Le.upd (c := [.slice none 0 0, .slice none 0 0]) hb76)
    have d76 : D2 (upd H4 b76 [.slice none 0 0, .slice none 0 0]) b76 none 0 0 none 0 0 := D2.new
    have hb76' := none_of_le le4 hb76
    have u5 := u4.le (Le.upd (c := [.slice none 0 0, .slice none 0 0]) hb76)
    generalize upd H4 b76 [.slice none 0 0, .slice none 0 0] = H5 at *
    refine ⟨(d3.le le5).1, obj_Make.c (q3.le le5) (.inr ⟨R, O, rfl, u5⟩) (by omega) (fun _ H6 le6 => ?_) (fun h0 lp' lc' pp' pl' pc' H6 _ _ le6 => ?_)⟩
    · exact (d76.le le6).put fun H7 d7 m7 => fin H7 (m7.le (le5.trans le6) (by simpa using hb76'))
    · rw [← h0]
      exact (d76.le le6).put fun H7 d7 m7 => fin H7 (m7.le (le5.trans le6) (by simpa using hb76'))
  · intro b93 hb93
    have le4 : Le H3 (upd H3 b93 [.slice none 0 0, .slice none 0 0]) := Le.upd hb93
    have d93 : D2 (upd H3 b93 [.slice none 0 0, .slice none 0 0]) b93 none 0 0 none 0 0 := D2.new
    generalize upd H3 b93 [.slice none 0 0, .slice none 0 0] = H4 at *
    refine ⟨(d3.le le4).1, rel_New.c (hT3.le le4) fun R O H5 u5 _ le5 => ?_⟩
    rw [show (min (max ((k : Nat) : Int) 0) 200).toNat = k by omega] at u5
    have l5 := le4.trans le5
    refine ⟨(d3.le l5).1, obj_Make.c (q3.le l5) (.inr ⟨R, O, rfl, u5⟩) (by omega) (fun _ H6 le6 => ?_) (fun h0 lp' lc' pp' pl' pc' H6 _ _ le6 => ?_)⟩
    · exact ((d93.le le5).le le6).put fun H7 d7 m7 => fin H7 (m7.le (l5.trans le6) (by simpa using hb93))
    · rw [← h0]
      exact ((d93.le le5).le le6).put fun H7 d7 m7 => fin H7 (m7.le (l5.trans le6) (by simpa using hb93))


theorem objLarge_own : ownKnob Tryd.prog.godebug = none := by kernel_rfl
theorem objLarge_laid : laidOutB Tryd.prog = true := by kernel_rfl
set_option maxRecDepth 100000 in
theorem objLarge_lifted (os : Os) (started : os.Started) (H : Type) (enc : TypeId × Value → H) :
    ReturnsInHanded {} Tryd.checked os 4 .any (fun w args => (Rows.objLargeSpec.pre enc Tryd.prog Tryd.f4 [] false w args ∧ laidMetH Tryd.prog laidTz w) ∧ sizedMet enc Tryd.prog Tryd.f4 (OpenSpec.ofChange Rows.objLargeSpec) false w args)
      (Rows.objLargeSpec.post enc Tryd.prog Tryd.f4 false true false false) := by
  refine returnsInHanded_of_change_and (C := Tryd.checked) (X := fun w _ => laidMetH Tryd.prog laidTz w) (fun _ _ _ hh h => h.of_heap hh) objLarge_own started (by kernel_rfl) Tryd.func4
    (ChangeSpec.witness_shaped (enc := enc) (C := Tryd.checked) (os := os) (X := fun w _ => laidMetH Tryd.prog laidTz w) false (World.doorLaid Tryd.prog 400 os) #[.int .u8 0] 8 rfl (World.shaped_of_RefB (by kernel_rfl) (by kernel_rfl)) (by kernel_rfl) (by kernel_rfl) (by kernel_rfl) (door_met os _)) ?_
  intro W base args ds gs before hval0 hW _ _ hL _
  have hval : ∀ (j : Nat) t v, Tryd.f4.params[j]? = some t → args[j]? = some v → Value.okWide Tryd.prog W .any base t v := hval0
  have hW' := hW
  obtain ⟨p, q, hA0, hV, rfl, hfz, hnd⟩ := hW
  have hA : DataW.TrodAll enc Tryd.prog W 0 (fun _ => true) true Tryd.f4.params.toList args.toList ds p := hA0
  rw [Tryd.params4] at hA hval
  obtain ⟨v0, d0, rfl, rfl, h0⟩ := trodAll_one hA
  obtain ⟨x0, rfl, rfl, rfl, w0⟩ := open_int Tryd.underlying5 (hval 0 5 v0 rfl rfl) h0
  refine (calls_true (objLarge_law w0 (tz_of_laid hL)) Tryd.func4 (by kernel_rfl)).mono fun e W' ⟨he, hk⟩ => ?_
  subst he
  exact ⟨_, rfl, post_true objLarge_laid hW' (by kernel_rfl) rfl rfl rfl Tryd.underlying4 hk⟩

theorem objLarge_row : Rows.ObjLargeSaid :=
  OpenClaim.holds_of_wide 4 Tryd.f4 rfl rfl rfl rfl rfl rfl rfl ⟨rfl, rfl, rfl, rfl, rfl⟩ rfl rfl rfl rfl rfl (by kernel_rfl) Tryd.func4 (by kernel_rfl)
    (of_decide_eq_true (by kernel_rfl)) (by unfold Func.isWrapper; first | (rw [if_pos (by decide +kernel)]; kernel_rfl) | (rw [if_neg (by decide +kernel)]; exact ⟨rfl, rfl⟩))
    (fun os started H enc _ => objLarge_lifted os started H enc)

theorem objLarge_card : Rows.ObjLargeCardSaid :=
  Claim7.holds_tied_plain_at .later [] [.data] true (true, "f1eba887bf2a15496a222adcf75d60a0462008cefa76589392225645476a6e39") false
    objLarge_row (fun _ h => by cases h) (by kernel_rfl) (fun _ h => by cases h) objLarge_row_tie rfl ⟨rfl, rfl⟩ (by kernel_rfl) rfl
    (fun f fn hf hfn => by
      obtain rfl : f = 4 := Option.some.inj ((show Tryd.prog.funcNamed Rows.objLargeRow.func = some 4 by kernel_rfl).symm.trans hf) |>.symm
      obtain rfl : fn = Tryd.f4 := (Option.some.inj (Tryd.func4.symm.trans hfn)).symm
      exact ⟨by kernel_rfl, fun j t ht => by
        rw [Tryd.params4] at ht
        have hm : t ∈ [5] := by
          have := Array.mem_of_getElem? ht
          simp at this
          first | (rcases this with rfl <;> simp) | simp [this]
        have hall : ([5].all fun u => !Tryd.prog.wantsStandIn u) = true := by kernel_rfl
        exact (show Tryd.prog.wantsStandIn t = false by simpa using List.all_eq_true.1 hall t hm)⟩)
    (by kernel_rfl)
end Go.Proofs.YteijgmmjgbgffaaDoor
