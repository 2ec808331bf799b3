/- For every number ResolveRows returns true: no condition. -/
import Derived.Test.YtganockeifkecaaDoorZ6
namespace Go.Proofs.YtganockeifkecaaDoor
open Go.V
open Go.ChangeShapes Go.WideShapes Go.ChangeAt Go.RowKit
def lnR (i : Nat) : Ln := ⟨1, (i : Int), [120, 10], false⟩
def lsR (n : Nat) : List Ln := (List.range n).map lnR
theorem lsR_len (n : Nat) : (lsR n).length = n := by simp [lsR]
theorem lsR_succ (n : Nat) : lsR (n + 1) = lsR n ++ [lnR n] := by unfold lsR; rw [List.range_succ, List.map_append]; rfl
theorem lsR_d (n : Nat) : ∀ x ∈ lsR n, x.d = false := fun x hx => by obtain ⟨i, _, rfl⟩ := List.mem_map.1 hx; rfl
theorem lsR_get {n i : Nat} (h : i < n) : (lsR n)[i]'(by rw [lsR_len]; exact h) = lnR i := by simp [lsR]
theorem lsR_N {n i : Nat} (h : i < n) : lnN (lsR n) i = ⟨1, (i : Int)⟩ := by rw [lnN_at (by rw [lsR_len]; exact h), lsR_get h]; rfl
theorem lsR_uq (n : Nat) : Uq (lsR n) := fun i j hi hj e => by
  rw [lsR_len] at hi hj
  rw [lsR_N hi, lsR_N hj] at e
  have := congrArg Lid.n e
  simp only at this
  omega
theorem rr_alv (n : Nat) : alv (lsR n) = List.range n := by rw [alv_all (lsR_d _), lsR_len]
theorem rr_rM (n x y : Nat) : rM (lsR n) [] x y = false := by
  rw [rM_all (lsR_d _), lsR_len]
  cases h : clo (ofM [] n) n x y with
  | false => rfl
  | true =>
    have := clo_least (N := fun _ _ => false) (ofM_sup [] n) (fun _ _ _ h _ => h) (fun a b h => by simp [ofM] at h) h
    cases this
theorem rr_ord (n : Nat) : ordL (lsR n) [] = List.range n := by
  unfold ordL
  rw [rr_alv, List.length_range]
  exact srt_lt fun x y h => by rw [rr_rM] at h; cases h
theorem rr_lin (n : Nat) : linB (lsR n) [] = decide (n ≤ 1) := by
  unfold linB
  rw [rr_alv, List.length_range, Bool.eq_iff_iff, totB_iff, decide_eq_true_eq]
  constructor
  · rintro ⟨_, h⟩
    rcases Nat.lt_or_ge 1 n with h0 | h0
    · have := h 0 (by omega) 1 (by omega)
      rw [rr_rM, rr_rM] at this
      rcases this with h | h | h <;> cases h
    · exact h0
  · intro h
    exact ⟨fun a _ => rr_rM _ _ _, fun a ha b hb => .inl (by omega)⟩
def edR (j : Nat) : Ed := ⟨⟨1, (j : Int)⟩, ⟨1, (j : Int) + 1⟩⟩
theorem rr_oId {n i : Nat} (h : i < n) : oId (lsR n) [] i = ⟨1, (i : Int)⟩ := by
  have hi : i < (ordL (lsR n) []).length := by rw [rr_ord, List.length_range]; exact h
  unfold oId
  have e1 : (ordL (lsR n) []).getD i 0 = i := by rw [rr_ord]; simp [List.getD, h]
  have e2 : (alv (lsR n)).getD i 0 = i := by rw [rr_alv]; simp [List.getD, h]
  rw [e1, e2, lsR_N h]
theorem rr_nb {n : Nat} : ∀ i, i ≤ n → nbTo (lsR n) [] i = (List.range (i - 1)).map edR
  | 0, _ => rfl
  | 1, _ => by simp [nbTo, nbB]
  | i + 2, h => by
    have ih := rr_nb (n := n) (i + 1) (by omega)
    have hb : nbB (lsR n) [] (i + 1) = true := by unfold nbB; rw [rr_rM]; simp
    rw [nbTo, ih, hb, if_pos rfl, show i + 2 - 1 = (i + 1 - 1) + 1 by omega, List.range_succ, List.map_append, show i + 1 - 1 = i by omega, rr_oId (by omega), rr_oId (by omega)]
    show _ = _ ++ [edR i]
    have : edR i = ⟨⟨1, ((i : Nat) : Int)⟩, ⟨1, ((i + 1 : Nat) : Int)⟩⟩ := by unfold edR; rw [show ((i + 1 : Nat) : Int) = (i : Int) + 1 by omega]
    rw [this]
theorem rr_srt (n : Nat) : srtE ((List.range n).map edR) = (List.range n).map edR := by
  refine (srtE_of (List.Perm.refl _) ?_).symm
  rw [List.pairwise_map]
  refine List.pairwise_lt_range.imp fun {a b} h => ?_
  cases e : edLt (edR b) (edR a) with
  | false => rfl
  | true =>
    rw [edLt_iff] at e
    rcases e with e | ⟨e, _⟩
    · rw [lidLt_iff] at e; simp only [edR] at e; omega
    · have := congrArg Lid.n e; simp only [edR] at this; omega
theorem rr_all {n : Nat} (f : BL) : allR (lsR n) [] f = if n ≤ 1 then (hk0, 20) else (⟨f, [], (List.range (n - 1)).map edR, []⟩, 0) := by
  unfold allR
  rw [rr_lin]
  by_cases h : n ≤ 1
  · rw [if_pos (decide_eq_true h), if_pos h]
  · rw [if_neg (by rw [decide_eq_false h]; decide), if_neg h]
    have hm : (shL (lsR n) []).any (fun s => decide (s.m = 33)) = false := by
      rw [List.any_eq_false]
      intro s hs
      obtain ⟨k, _, rfl⟩ := List.mem_map.1 hs
      rw [shn_m]
      unfold markB
      rw [rr_rM, if_neg (by decide)]
      split <;> decide
    rw [if_neg (by rw [hm]; decide), rr_ord, List.length_range, rr_nb n (Nat.le_refl _), rr_srt]
theorem resolveRows_law {n : Int} {H : Hp} (wn : (Lit.int .u8 n).wf = true) (hT : Tz H) : centolaw15_ResolveRows.C n H fun r H' => r = true ∧ Le H H' := by
  apply centolaw15_ResolveRows.of
  have bn : 0 ≤ n ∧ n ≤ 255 := by simpa [Lit.wf, IntKind.min, IntKind.max, IntKind.signed, IntKind.bits] using wn
  obtain ⟨n, rfl⟩ : ∃ k : Nat, n = k := ⟨n.toNat, by omega⟩
  refine centolaw15_known.c hT fun H0 le0 => bcn (fun h => by cases h) fun _ => ⟨by decide, ?_⟩
  rw [show (30 : Int) = ((30 : Nat) : Int) from rfl, ← Int.ofNat_tmod]
  have hn : n % 30 < 30 := Nat.mod_lt _ (by decide)
  generalize n % 30 = k0 at hn
  refine chk (by omega) (chk (by omega) ?_)
  rw [show ((k0 : Nat) : Int) + 1 = ((k0 + 1 : Nat) : Int) by omega]
  obtain ⟨k, hk⟩ : ∃ k, k = k0 + 1 := ⟨_, rfl⟩
  rw [← hk]
  have hk0 : 0 < k := by omega
  have hk30 : k ≤ 30 := by omega
  clear hk hn wn bn
  have hT0 := hT.le le0
  refine Fb.new (A := H0) (Le.refl _) fun q H1 hF1 le1 => ?_
  refine ⟨fun i Hx => ∃ i' : Nat, i = (i' : Nat) ∧ i' ≤ k ∧ Fb H0 Hx q (bs [112]) (lsR i') [], fun i _ => ((k : Int) - i).toNat, ⟨0, rfl, Nat.zero_le _, hF1⟩, ?_⟩
  rintro i Hx ⟨i, rfl, gi, hF⟩
  refine bcd (fun hlt => ?_) fun hlt => ?_
  · obtain ⟨lp, ll, lc, rL, sL, hL⟩ := hF.getL
    have el := sL.len
    rw [lsR_len] at el
    refine ldL_i rL (centolaw15_line.c fun H2 le2 => ?_)
    obtain ⟨rL2, hL2⟩ := hL _ le2
    refine ⟨rL2, fun b2 hb2 => ?_⟩
    refine hL2 (lnR i) b2 _ hb2 (by omega) fun H3 hF3 => chk (by omega) ⟨⟨i + 1, by omega, by omega, by rw [lsR_succ]; exact hF3⟩, by first | omega | (dsimp only; omega)⟩
  have : i = k := by omega
  subst this
  obtain ⟨lp, ll, lc, pp, pl, pc, d, sL, sP⟩ := hF.use
  have el := sL.len
  have ep := sP.len
  rw [lsR_len] at el
  have ep : pl = 0 := ep
  have l0x := le0.trans hF.1
  refine d.get (resolve_All.c (lsR_uq _) sL sP (hT0.le hF.1) (by omega) (by omega) ?_)
  rw [rr_all]
  by_cases h1 : i ≤ 1
  · rw [if_pos h1]
    refine fun H4 x4 l4 w4 _ => D4.mk fun a H5 ha da l5 => bcd (fun _ => ?_) fun h => absurd (by omega) h
    refine bcd (fun _ => ldL_i da.2.2.1 ⟨?_, l0x.trans (l4.trans l5)⟩) fun h => absurd rfl h
    have : x4.el = 0 := w4.2.1.len
    rw [this]; rfl
  rw [if_neg h1]
  refine fun H4 x4 l4 w4 _ => D4.mk fun a H5 ha da l5 => bcd (fun h => absurd h (by omega)) fun _ => ?_
  have ne : x4.el = i - 1 := by have := w4.2.1.len; rw [this]; simp
  have na : x4.al = 0 := w4.1.len
  have nk : x4.kl = 0 := w4.2.2.len
  have l45 := l4.trans l5
  have hE := w4.2.1.le l5
  have hS := sL.le l45
  have d5 := d.le l45
  refine bcd (fun h => absurd rfl h) fun _ => ldL_i da.2.2.1 (chk (by omega) (bcd (fun h => absurd (by omega) h) fun _ => ?_))
  refine ldS_i da.1 (bcd (fun h => absurd rfl h) fun _ => ldL_i da.2.1 (bcd (fun h => absurd (by rw [na]; rfl) h) fun _ => ldL_i da.2.2.2 (bcd (fun h => absurd (by rw [nk]; rfl) h) fun _ => ?_)))
  unfold centolaw15_ResolveRows.k1
  refine ⟨fun t Hy => ∃ j : Nat, t = (j : Nat) ∧ j ≤ i ∧ Hy = H5, fun t _ => ((i : Int) - t).toNat, ⟨0, rfl, Nat.zero_le _, rfl⟩, ?_⟩
  rintro t Hy ⟨j, rfl, gj, rfl⟩
  refine chk (by omega) (bcd (fun hlt2 => ?_) fun _ => ⟨rfl, l0x.trans l45⟩)
  have hj : j < ((List.range (i - 1)).map edR).length := by simp; omega
  have hj1 : j < (lsR i).length := by rw [lsR_len]; omega
  have hj2 : j + 1 < (lsR i).length := by rw [lsR_len]; omega
  obtain ⟨be, oe, hbe, hr⟩ := hE.at hj
  have e0 : ((List.range (i - 1)).map edR)[j] = edR j := by simp
  refine ldL_i da.2.2.1 ?_
  rw [hbe] at da ⊢
  have r0 := hr j hj 0 _ rfl
  have r1 := hr j hj 1 _ rfl
  have r2 := hr j hj 2 _ rfl
  have r3 := hr j hj 3 _ rfl
  refine idxN j rfl (by omega) (nil (ldI_i r0 (ldI_i r1 (ldI_i r2 (ldI_i r3 (ldL_i d5.2.1 (rsLn hS rfl hj1 (ldL_i d5.2.1 (chk (by omega) (rsLn hS (k := j + 1) (by omega) hj2 ⟨r0, r1, r2, r3, da.2.2.1, ?_⟩))))))))))
  have q1 : (lsR i)[j] = lnR j := lsR_get (by omega)
  have q2 : (lsR i)[j + 1] = lnR (j + 1) := lsR_get (by omega)
  show bc (!(((decide ((((List.range (i - 1)).map edR)[j]).a.p = ((lsR i)[j]).p)) && (decide ((((List.range (i - 1)).map edR)[j]).a.n = ((lsR i)[j]).n))) && ((decide ((((List.range (i - 1)).map edR)[j]).b.p = ((lsR i)[j + 1]).p)) && (decide ((((List.range (i - 1)).map edR)[j]).b.n = ((lsR i)[j + 1]).n))))) _ _
  rw [e0, q1, q2]
  have : (((decide ((edR j).a.p = (lnR j).p)) && (decide ((edR j).a.n = (lnR j).n))) && ((decide ((edR j).b.p = (lnR (j + 1)).p)) && (decide ((edR j).b.n = (lnR (j + 1)).n)))) = true := by
    simp [edR, lnR]
  rw [this]
  exact bcF (chk (by omega) ⟨⟨j + 1, by omega, by omega, by trivial⟩, by first | omega | (dsimp only; omega)⟩)

theorem resolveRows_own : ownKnob Tryd.prog.godebug = none := by kernel_rfl
theorem resolveRows_laid : laidOutB Tryd.prog = true := by kernel_rfl
set_option maxRecDepth 100000 in
theorem resolveRows_lifted (os : Os) (started : os.Started) (H : Type) (enc : TypeId × Value → H) :
    ReturnsInHanded {} Tryd.checked os 6 .any (fun w args => (Rows.resolveRowsSpec.pre enc Tryd.prog Tryd.f6 [] false w args ∧ laidMetH Tryd.prog laidTz w) ∧ sizedMet enc Tryd.prog Tryd.f6 (OpenSpec.ofChange Rows.resolveRowsSpec) false w args)
      (Rows.resolveRowsSpec.post enc Tryd.prog Tryd.f6 false true false false) := by
  refine returnsInHanded_of_change_and (C := Tryd.checked) (X := fun w _ => laidMetH Tryd.prog laidTz w) (fun _ _ _ hh h => h.of_heap hh) resolveRows_own started (by kernel_rfl) Tryd.func6
    (ChangeSpec.witness_shaped (enc := enc) (C := Tryd.checked) (os := os) (X := fun w _ => laidMetH Tryd.prog laidTz w) false (World.doorLaid Tryd.prog 400 os) #[.int .u8 0] 8 rfl (World.shaped_of_RefB (by kernel_rfl) (by kernel_rfl)) (by kernel_rfl) (by kernel_rfl) (by kernel_rfl) (door_met os _)) ?_
  intro W base args ds gs before hval0 hW _ _ hL _
  have hval : ∀ (j : Nat) t v, Tryd.f6.params[j]? = some t → args[j]? = some v → Value.okWide Tryd.prog W .any base t v := hval0
  have hW' := hW
  obtain ⟨p, q, hA0, hV, rfl, hfz, hnd⟩ := hW
  have hA : DataW.TrodAll enc Tryd.prog W 0 (fun _ => true) true Tryd.f6.params.toList args.toList ds p := hA0
  rw [Tryd.params6] at hA hval
  obtain ⟨v0, d0, rfl, rfl, h0⟩ := trodAll_one hA
  obtain ⟨x0, rfl, rfl, rfl, w0⟩ := open_int Tryd.underlying5 (hval 0 5 v0 rfl rfl) h0
  refine (calls_true (resolveRows_law w0 (tz_of_laid hL)) Tryd.func6 (by kernel_rfl)).mono fun e W' ⟨he, hk⟩ => ?_
  subst he
  exact ⟨_, rfl, post_true resolveRows_laid hW' (by kernel_rfl) rfl rfl rfl Tryd.underlying4 hk⟩

theorem resolveRows_row : Rows.ResolveRowsSaid :=
  OpenClaim.holds_of_wide 6 Tryd.f6 rfl rfl rfl rfl rfl rfl rfl ⟨rfl, rfl, rfl, rfl, rfl⟩ rfl rfl rfl rfl rfl (by kernel_rfl) Tryd.func6 (by kernel_rfl)
    (of_decide_eq_true (by kernel_rfl)) (by unfold Func.isWrapper; first | (rw [if_pos (by decide +kernel)]; kernel_rfl) | (rw [if_neg (by decide +kernel)]; exact ⟨rfl, rfl⟩))
    (fun os started H enc _ => resolveRows_lifted os started H enc)

theorem resolveRows_card : Rows.ResolveRowsCardSaid :=
  Claim7.holds_tied_plain_at .later [] [.data] true (true, "1742c24b9215d7ca8645109c8f16d9e845d7caad132e2324de6df02b83e6f8a9") false
    resolveRows_row (fun _ h => by cases h) (by kernel_rfl) (fun _ h => by cases h) resolveRows_row_tie rfl ⟨rfl, rfl⟩ (by kernel_rfl) rfl
    (fun f fn hf hfn => by
      obtain rfl : f = 6 := Option.some.inj ((show Tryd.prog.funcNamed Rows.resolveRowsRow.func = some 6 by kernel_rfl).symm.trans hf) |>.symm
      obtain rfl : fn = Tryd.f6 := (Option.some.inj (Tryd.func6.symm.trans hfn)).symm
      exact ⟨by kernel_rfl, fun j t ht => by
        rw [Tryd.params6] at ht
        have hm : t ∈ [5] := by
          have := Array.mem_of_getElem? ht
          simp at this
          first | (rcases this with rfl <;> simp) | simp [this]
        have hall : ([5].all fun u => !Tryd.prog.wantsStandIn u) = true := by kernel_rfl
        exact (show Tryd.prog.wantsStandIn t = false by simpa using List.all_eq_true.1 hall t hm)⟩)
    (by kernel_rfl)
end Go.Proofs.YtganockeifkecaaDoor
