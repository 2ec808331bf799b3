/- For every number ViewThrough returns true: no condition. -/
import Derived.Test.YteijgmmjgbgffaaDoorZ5
namespace Go.Proofs.YteijgmmjgbgffaaDoor
open Go.V
open Go.ChangeShapes Go.WideShapes Go.ChangeAt Go.RowKit
def thN (k t : Nat) : Ln := ⟨1, (t : Int), [108, 10], decide (0 < t ∧ t + 1 < k)⟩
def thL (k i : Nat) : List Ln := (List.range i).map (thN k)
def thP (k i : Nat) : List (Int × Int) := (List.range (i - 1)).map fun (t : Nat) => ((k : Int) - ((t + 1 : Nat) : Int), (k : Int) - ((t + 1 : Nat) : Int) - 1)
theorem thL_len (k i : Nat) : (thL k i).length = i := by simp [thL]
theorem thL_get {k i t : Nat} (h : t < i) : (thL k i)[t]'(by rw [thL_len]; exact h) = thN k t := by simp [thL]
theorem thL_t (k i : Nat) : ∀ x ∈ thL k i, x.t.length ≤ 1000000 := fun x hx => by obtain ⟨t, _, rfl⟩ := List.mem_map.1 hx; show ([_, _] : BL).length ≤ _; simp
theorem thL_succ (k i : Nat) : thL k (i + 1) = thL k i ++ [thN k i] := by unfold thL; rw [List.range_succ, List.map_append]; rfl
theorem thL_set {k i : Nat} {v : Bool} (hv : v = decide (0 < i ∧ i + 1 < k)) : (thL k i ++ [(⟨1, (i : Int), [108, 10], false⟩ : Ln)]).set i { (thL k i ++ [(⟨1, (i : Int), [108, 10], false⟩ : Ln)])[i]'(by rw [List.length_append, thL_len]; simp) with d := v } = thL k (i + 1) := by
  rw [List.set_append_right _ _ (by rw [thL_len]; exact Nat.le_refl _), thL_succ]
  congr 1
  have e : (thL k i ++ [(⟨1, (i : Int), [108, 10], false⟩ : Ln)])[i]'(by rw [List.length_append, thL_len]; simp) = ⟨1, (i : Int), [108, 10], false⟩ := by
    rw [List.getElem_append_right (by rw [thL_len]; exact Nat.le_refl _)]; simp [thL_len]
  simp only [e, thL_len, Nat.sub_self, hv]
  rfl
theorem thP_succ {k i : Nat} (h : 0 < i) : thP k (i + 1) = thP k i ++ [((k : Int) - (i : Nat), (k : Int) - (i : Nat) - 1)] := by
  unfold thP
  obtain ⟨w, rfl⟩ : ∃ w, i = w + 1 := ⟨i - 1, by omega⟩
  rw [show w + 1 + 1 - 1 = w + 1 by omega, show w + 1 - 1 = w by omega, List.range_succ, List.map_append]; rfl
def dnM (k : Nat) : Nat → Nat → Bool := fun x y => decide (y < x ∧ x < k)
theorem dnM_tr (k : Nat) : Tr (dnM k) := fun x y z h1 h2 => by
  unfold dnM at *
  rw [decide_eq_true_eq] at *; omega
section
variable {k : Nat}
theorem ofM_th {x y : Nat} : ofM (thP k k) k x y = true ↔ x = y + 1 ∧ x < k := by
  unfold ofM
  rw [Bool.and_eq_true, decide_eq_true_eq, List.any_eq_true]
  constructor
  · rintro ⟨h1, p, hp, h2⟩
    obtain ⟨t, ht, rfl⟩ := List.mem_map.1 hp
    rw [decide_eq_true_eq] at h2
    simp only at h2
    omega
  · rintro ⟨rfl, h⟩
    refine ⟨by omega, _, List.mem_map.2 ⟨k - y - 2, List.mem_range.2 (by omega), rfl⟩, ?_⟩
    rw [decide_eq_true_eq]; simp only; omega
theorem clo_th : clo (ofM (thP k k) k) k = dnM k := by
  have hs := ofM_sup (thP k k) k
  funext x y
  rw [Bool.eq_iff_iff]
  constructor
  · exact clo_least hs (dnM_tr k) fun a b h => by
      have := ofM_th.1 h
      unfold dnM; rw [decide_eq_true_eq]; omega
  · intro h
    unfold dnM at h
    rw [decide_eq_true_eq] at h
    have : ∀ d x, x = y + 1 + d → x < k → clo (ofM (thP k k) k) k x y = true := by
      intro d
      induction d with
      | zero => exact fun x hx hn => clo_ge hs (ofM_th.2 ⟨by omega, hn⟩)
      | succ d ih => exact fun x hx hn => clo_tr hs x (x - 1) y (clo_ge hs (ofM_th.2 ⟨by omega, hn⟩)) (ih (x - 1) (by omega) (by omega))
    exact this (x - y - 1) x (by omega) h.2
theorem th_alv (h : 3 ≤ k) : alv (thL k k) = [0, k - 1] := by
  unfold alv els
  rw [thL_len]
  have e : (List.range k).filter (fun i => !((thL k k).getD i ⟨0, 0, [], true⟩).d) = (List.range k).filter fun i => decide (i = 0 ∨ k ≤ i + 1) := List.filter_congr fun i hi => by
    have hi := List.mem_range.1 hi
    rw [lnD (by rw [thL_len]; exact hi), thL_get hi]
    show (!decide (0 < i ∧ i + 1 < k)) = _
    rw [Bool.eq_iff_iff, Bool.not_eq_true', decide_eq_false_iff_not, decide_eq_true_eq]; omega
  rw [e, List.range_eq_range', show k = 1 + (k - 2 + 1) by omega, ← List.range'_append_1, ← List.range'_append_1, List.filter_append, List.filter_append, List.filter_eq_self.2 fun x hx => by rw [List.mem_range'_1] at hx; rw [decide_eq_true_eq]; omega, List.filter_eq_nil_iff.2 fun x hx => by rw [List.mem_range'_1] at hx; rw [decide_eq_true_eq]; omega, List.filter_eq_self.2 fun x hx => by rw [List.mem_range'_1] at hx; rw [decide_eq_true_eq]; omega]
  show [0] ++ ([] ++ [0 + 1 + (k - 2)]) = _
  simp; omega
theorem th_rM (h : 3 ≤ k) : rM (thL k k) (thP k k) = fun x y => decide (x = 1 ∧ y = 0) := by
  funext x y
  unfold rM
  rw [th_alv h]
  unfold cM
  rw [thL_len, clo_th]
  unfold dnM
  match x, y with
  | 0, 0 => simp
  | 0, 1 => simp
  | 1, 0 => simp; omega
  | 1, 1 => simp
  | x + 2, y => simp
  | 0, y + 2 => simp
  | 1, y + 2 => simp; omega
theorem th_ord (h : 3 ≤ k) : ordL (thL k k) (thP k k) = [1, 0] := by
  unfold ordL
  rw [th_rM h, th_alv h]
  show srt (fun x y => decide (x = 1 ∧ y = 0)) 2 = [1, 0]
  decide
theorem th_lin (h : 3 ≤ k) : linB (thL k k) (thP k k) = true := by
  unfold linB
  rw [th_rM h, th_alv h]
  show totB (fun x y => decide (x = 1 ∧ y = 0)) 2 = true
  decide
theorem th_ordP (h : 3 ≤ k) : ordP (thL k k) (thP k k) = [k - 1, 0] := by
  unfold ordP
  rw [th_ord h, th_alv h]; rfl
theorem th_prn (h : 3 ≤ k) : prnL (thL k k) (thP k k) = [32, 108, 10, 32, 108, 10] := by
  unfold prnL shL
  rw [th_ord h]
  have e1 : shn (thL k k) (thP k k) 1 = ⟨1, ((k - 1 : Nat) : Int), 32, [108, 10]⟩ := by
    unfold shn
    rw [th_rM h, th_alv h]
    show (⟨((thL k k).getD (k - 1) _).p, ((thL k k).getD (k - 1) _).n, _, ((thL k k).getD (k - 1) _).t⟩ : Shn) = _
    rw [lnD (by rw [thL_len]; omega), thL_get (by omega)]; rfl
  have e0 : shn (thL k k) (thP k k) 0 = ⟨1, ((0 : Nat) : Int), 32, [108, 10]⟩ := by
    unfold shn
    rw [th_rM h, th_alv h]
    show (⟨((thL k k).getD 0 _).p, ((thL k k).getD 0 _).n, _, ((thL k k).getD 0 _).t⟩ : Shn) = _
    rw [lnD (by rw [thL_len]; omega), thL_get (by omega)]; rfl
  rw [List.map_cons, List.map_cons, List.map_nil, e0, e1]
  rfl
end
theorem viewThrough_law {n : Int} {H : Hp} (wn : (Lit.int .u8 n).wf = true) (hT : Tz H) : centolaw14_ViewThrough.C n H fun r H' => r = true ∧ Le H H' := by
  apply centolaw14_ViewThrough.of
  have bn := wf_u8 wn
  obtain ⟨n, rfl⟩ : ∃ k : Nat, n = k := ⟨n.toNat, by omega⟩
  refine centolaw14_known.c hT fun H0 le0 => bcn (fun h => by cases h) fun _ => ⟨by decide, ?_⟩
  rw [show (10 : Int) = ((10 : Nat) : Int) from rfl, ← Int.ofNat_tmod]
  have hn : n % 10 < 10 := Nat.mod_lt _ (by decide)
  generalize n % 10 = k0 at hn
  refine chk (by omega) (chk (by omega) ?_)
  rw [show ((k0 : Nat) : Int) + 3 = ((k0 + 3 : Nat) : Int) by omega]
  obtain ⟨k, hk⟩ : ∃ k, k = k0 + 3 := ⟨_, rfl⟩
  rw [← hk]
  have hk3 : 3 ≤ k := by omega
  have hk12 : k ≤ 12 := by omega
  clear hk hn wn bn
  have hT0 := hT.le le0
  refine Fb.new (A := H0) (Le.refl _) fun q H1 hF1 le1 => ?_
  refine ⟨fun i Hx => ∃ i' : Nat, i = (i' : Nat) ∧ i' ≤ k ∧ Fb H0 Hx q (bs [112]) (thL k i') (thP k i'), fun i _ => ((k : Int) - i).toNat, ⟨0, rfl, Nat.zero_le _, hF1⟩, ?_⟩
  rintro i Hx ⟨i, rfl, gi, hF⟩
  refine bcd (fun hlt => ?_) fun hlt => ?_
  · obtain ⟨lp, ll, lc, rL, sL, hL⟩ := hF.getL
    have el := sL.len
    rw [thL_len] at el
    refine ldL_i rL (centolaw14_line.c fun H2 le2 => ?_)
    obtain ⟨rL2, hL2⟩ := hL _ le2
    refine ⟨rL2, fun b2 hb2 => ?_⟩
    refine hL2 ⟨1, (i : Int), [108, 10], false⟩ b2 _ hb2 (by omega) fun H3 hF3 => ?_
    obtain ⟨lp3, ll3, lc3, rL3, sL3, hL3⟩ := hF3.getL
    have go : ∀ v : Bool, v = decide (0 < i ∧ i + 1 < k) → IDX ((i : Nat) : Int) ll3 fun k37 => NIL lp3 fun bq38 oq39 => ST H3 bq38 ((oq39 + (k37 * 4)) + 3) (.bool v) fun Hx40 => centolaw14_ViewThrough.k1 Hx (fun i Hx => ∃ i' : Nat, i = (i' : Nat) ∧ i' ≤ k ∧ Fb H0 Hx q (bs [112]) (thL k i') (thP k i')) q ((i : Nat) : Int) (fun i _ => ((k : Int) - i).toNat) ((k : Nat) : Int) Hx40 := by
      intro v hv
      refine hF3.dead (i := i) (by rw [List.length_append, thL_len]; simp) (v := v) (fun H4 hF4 => ?_) rL3
      rw [thL_set hv] at hF4
      unfold centolaw14_ViewThrough.k1
      refine bcd (fun h0 => ?_) fun h0 => chk (by omega) ⟨⟨i + 1, by omega, by omega, ?_⟩, by first | omega | (dsimp only; omega)⟩
      · obtain ⟨pp, pl, pc, rP, sP, hP⟩ := hF4.getP
        have ep := sP.len
        have : (thP k i).length ≤ i := by simp [thP]
        refine ldL_i rP (chk (by omega) (chk (by omega) (chk (by omega) fun b4 hb4 => ?_)))
        exact ((hP H4 (Le.refl _)).2 ((k : Int) - (i : Nat), (k : Int) - (i : Nat) - 1) b4 _ hb4 (by omega) fun H5 hF5 => chk (by omega) ⟨⟨i + 1, by omega, by omega, by rw [thP_succ (by omega)]; exact hF5⟩, by first | omega | (dsimp only; omega)⟩).2
      · have : i = 0 := by omega
        subst this
        exact hF4
    refine ldL_i rL3 (bcd (fun h0 => chk (by omega) ?_) fun h0 => ?_)
    · exact go _ (decide_eq_decide.2 (by omega))
    · exact go false (by rw [decide_eq_false (by omega)])
  · have : i = k := by omega
    subst this
    obtain ⟨lp, ll, lc, pp, pl, pc, d, sL, sP⟩ := hF.use
    have el := sL.len
    have ep := sP.len
    rw [thL_len] at el
    have : (thP i i).length ≤ i := by simp [thP]
    have hTx := hT0.le hF.1
    have l0x := hF.1
    have ht := thL_t i i
    refine d.get (view_Order.c sL sP hTx (by omega) (by omega) fun p5 l5 c5 H5 hB5 le5 => ?_)
    have s5 := hB5.sl
    rw [th_ordP hk3] at s5
    have n5 : l5 = 2 := s5.len
    refine (d.le le5).get (view_Linear.c (sL.le le5) (sP.le le5) (hTx.le le5) (by omega) (by omega) fun H6 le6 => ?_)
    have le56 := le5.trans le6
    rw [th_lin hk3]
    refine bcT (bcd (fun _ => ?_) fun h => absurd (by omega) h)
    refine slI (s5.le le6) (g := fun (n : Nat) => (n : Int)) (fun _ => rfl) (by decide) (by omega) fun _ => chk (by omega) (bcd (fun _ => ?_) fun h => absurd (by show ((i - 1 : Nat) : Int) = _; omega) h)
    refine slI (s5.le le6) (g := fun (n : Nat) => (n : Int)) (fun _ => rfl) (by decide) (by omega) fun _ => bcd (fun _ => ?_) fun h => absurd rfl h
    refine (d.le le56).get (view_Print.c (sL.le le56) (sP.le le56) (hTx.le le56) (by omega) (by omega) ht fun H7 le7 => ⟨?_, le0.trans (l0x.trans (le56.trans le7))⟩)
    rw [th_prn hk3]
    rfl

theorem viewThrough_own : ownKnob Tryd.prog.godebug = none := by kernel_rfl
theorem viewThrough_laid : laidOutB Tryd.prog = true := by kernel_rfl
set_option maxRecDepth 100000 in
theorem viewThrough_lifted (os : Os) (started : os.Started) (H : Type) (enc : TypeId × Value → H) :
    ReturnsInHanded {} Tryd.checked os 11 .any (fun w args => (Rows.viewThroughSpec.pre enc Tryd.prog Tryd.f11 [] false w args ∧ laidMetH Tryd.prog laidTz w) ∧ sizedMet enc Tryd.prog Tryd.f11 (OpenSpec.ofChange Rows.viewThroughSpec) false w args)
      (Rows.viewThroughSpec.post enc Tryd.prog Tryd.f11 false true false false) := by
  refine returnsInHanded_of_change_and (C := Tryd.checked) (X := fun w _ => laidMetH Tryd.prog laidTz w) (fun _ _ _ hh h => h.of_heap hh) viewThrough_own started (by kernel_rfl) Tryd.func11
    (ChangeSpec.witness_shaped (enc := enc) (C := Tryd.checked) (os := os) (X := fun w _ => laidMetH Tryd.prog laidTz w) false (World.doorLaid Tryd.prog 400 os) #[.int .u8 0] 8 rfl (World.shaped_of_RefB (by kernel_rfl) (by kernel_rfl)) (by kernel_rfl) (by kernel_rfl) (by kernel_rfl) (door_met os _)) ?_
  intro W base args ds gs before hval0 hW _ _ hL _
  have hval : ∀ (j : Nat) t v, Tryd.f11.params[j]? = some t → args[j]? = some v → Value.okWide Tryd.prog W .any base t v := hval0
  have hW' := hW
  obtain ⟨p, q, hA0, hV, rfl, hfz, hnd⟩ := hW
  have hA : DataW.TrodAll enc Tryd.prog W 0 (fun _ => true) true Tryd.f11.params.toList args.toList ds p := hA0
  rw [Tryd.params11] at hA hval
  obtain ⟨v0, d0, rfl, rfl, h0⟩ := trodAll_one hA
  obtain ⟨x0, rfl, rfl, rfl, w0⟩ := open_int Tryd.underlying5 (hval 0 5 v0 rfl rfl) h0
  refine (calls_true (viewThrough_law w0 (tz_of_laid hL)) Tryd.func11 (by kernel_rfl)).mono fun e W' ⟨he, hk⟩ => ?_
  subst he
  exact ⟨_, rfl, post_true viewThrough_laid hW' (by kernel_rfl) rfl rfl rfl Tryd.underlying4 hk⟩

theorem viewThrough_row : Rows.ViewThroughSaid :=
  OpenClaim.holds_of_wide 11 Tryd.f11 rfl rfl rfl rfl rfl rfl rfl ⟨rfl, rfl, rfl, rfl, rfl⟩ rfl rfl rfl rfl rfl (by kernel_rfl) Tryd.func11 (by kernel_rfl)
    (of_decide_eq_true (by kernel_rfl)) (by unfold Func.isWrapper; first | (rw [if_pos (by decide +kernel)]; kernel_rfl) | (rw [if_neg (by decide +kernel)]; exact ⟨rfl, rfl⟩))
    (fun os started H enc _ => viewThrough_lifted os started H enc)

theorem viewThrough_card : Rows.ViewThroughCardSaid :=
  Claim7.holds_tied_plain_at .later [] [.data] true (true, "f1eba887bf2a15496a222adcf75d60a0462008cefa76589392225645476a6e39") false
    viewThrough_row (fun _ h => by cases h) (by kernel_rfl) (fun _ h => by cases h) viewThrough_row_tie rfl ⟨rfl, rfl⟩ (by kernel_rfl) rfl
    (fun f fn hf hfn => by
      obtain rfl : f = 11 := Option.some.inj ((show Tryd.prog.funcNamed Rows.viewThroughRow.func = some 11 by kernel_rfl).symm.trans hf) |>.symm
      obtain rfl : fn = Tryd.f11 := (Option.some.inj (Tryd.func11.symm.trans hfn)).symm
      exact ⟨by kernel_rfl, fun j t ht => by
        rw [Tryd.params11] at ht
        have hm : t ∈ [5] := by
          have := Array.mem_of_getElem? ht
          simp at this
          first | (rcases this with rfl <;> simp) | simp [this]
        have hall : ([5].all fun u => !Tryd.prog.wantsStandIn u) = true := by kernel_rfl
        exact (show Tryd.prog.wantsStandIn t = false by simpa using List.all_eq_true.1 hall t hm)⟩)
    (by kernel_rfl)
end Go.Proofs.YteijgmmjgbgffaaDoor
