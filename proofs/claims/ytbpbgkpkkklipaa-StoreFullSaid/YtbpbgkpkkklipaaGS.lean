/- For every number StoreFull returns true: no condition. -/
import Derived.Test.YtbpbgkpkkklipaaZ4
import Derived.Test.YtbpbgkpkkklipaaRows
namespace Go.Proofs.Ytbpbgkpkkklipaa
open Go.V
open Go.ChangeShapes Go.WideShapes Go.ChangeAt Go.RowKit
theorem full_add {i : Nat} (h : i < 60) : sAdd (fullS i) (pI (3 * (i + 1 : Nat))) = (0, fullS (i + 1)) := by
  unfold sAdd
  rw [pI_is (by omega), if_neg (by decide), show (pI (3 * (i + 1 : Nat))).id = 3 * (i + 1 : Nat) from rfl, fullS_none fun j hj e => by omega]
  simp only
  rw [show (pI (3 * (i + 1 : Nat))).deps = [] from rfl, List.all_nil, if_neg (by decide), if_neg (by rw [fullS_len]; omega), fullS_succ]
theorem storeFull_law {x : Int} {H : Hp} (w0 : (Lit.int .u8 x).wf = true) :
    CallH prog centolaw17_StoreFull.num [.int .u8 x] H fun v H' => liftB v fun r => r = true ∧ Le H H' := by
  have wx : 0 ≤ x ∧ x ≤ 255 := by simpa [Lit.wf, IntKind.min, IntKind.max, IntKind.signed, IntKind.bits] using w0
  clear w0
  show centolaw17_StoreFull.C x H fun r H' => r = true ∧ Le H H'
  apply centolaw17_StoreFull.of
  refine centolaw17_known.c fun H1 l1 => bcn (fun h => by cases h) fun _ => ?_
  refine store_New.c fun m b H2 hm hb l2 hS => ?_
  generalize (some (⟨b, 0, none⟩ : Addr)) = s at hS ⊢
  have hm0 : H m = none := none_of_le l1 hm
  refine ⟨fun t Hx => ∃ i : Nat, t = (i + 1 : Nat) ∧ i ≤ 60 ∧ Mod [m] H2 Hx ∧ StAt Hx s m (fullS i), fun t _ => (61 - t).toNat, ⟨0, rfl, by decide, Mod.refl, hS⟩, ?_⟩
  rintro t Hx ⟨i, rfl, gi, mx, hSx⟩
  refine bcd (fun hle => ?_) fun hle => ?_
  · have hi : i < 60 := by omega
    have e3 : IntKind.wrap .u32 ((i + 1 : Nat) : Int) * 3 = 3 * (i + 1 : Nat) := by rw [u32w (by omega)]; omega
    rw [e3]
    refine ⟨by simp [IntKind.min, IntKind.max, IntKind.signed, IntKind.bits]; omega, ?_⟩
    refine store_Store_Add.c hSx pI_pt pI_sm fun H3 hS3 m3 => ?_
    rw [full_add hi] at hS3 ⊢
    exact bcd (fun h => absurd rfl h) fun _ => chk (by omega) ⟨⟨i + 1, by omega, by omega, mx.trans m3, hS3⟩, by dsimp only; omega⟩
  have e60 : i = 60 := by omega
  subst e60
  have ex : Int.tmod x 60 = ((x.toNat % 60 : Nat) : Int) := by
    rw [Int.tmod_eq_emod_of_nonneg wx.1]; omega
  generalize hj : x.toNat % 60 = j at ex
  have hj60 : j < 60 := by omega
  refine chk (by omega) ⟨by decide, ?_⟩
  rw [ex, u32w (by omega)]
  refine ⟨by simp [IntKind.min, IntKind.max, IntKind.signed, IntKind.bits]; omega, ?_⟩
  have ej : ((j : Int) + 1) * 3 = 3 * (j + 1 : Nat) := by omega
  refine store_Store_Add.c hSx (x := pI 1000) pI_pt pI_sm fun H3 hS3 m3 => ?_
  have e1 : sAdd (fullS 60) (pI 1000) = (11, fullS 60) := by
    unfold sAdd
    rw [pI_is (by decide), if_neg (by decide), show (pI 1000).id = 1000 from rfl, fullS_none fun j hj e => by omega]
    simp only
    rw [show (pI 1000).deps = [] from rfl, List.all_nil, if_neg (by decide), if_pos (by rw [fullS_len]; omega)]
  rw [e1] at hS3 ⊢
  refine bcd (fun _ => ?_) fun h => absurd rfl h
  rw [ej]
  refine ⟨by simp [IntKind.min, IntKind.max, IntKind.signed, IntKind.bits]; omega, ?_⟩
  refine store_Store_Add.c hS3 (x := pI (3 * (j + 1 : Nat))) pI_pt pI_sm fun H4 hS4 m4 => ?_
  have e2 : sAdd (fullS 60) (pI (3 * (j + 1 : Nat))) = (0, fullS 60) := by
    unfold sAdd
    rw [pI_is (by omega), if_neg (by decide), show (pI (3 * (j + 1 : Nat))).id = 3 * (j + 1 : Nat) from rfl, fullS_some hj60]
    simp
  rw [e2] at hS4 ⊢
  refine bcd (fun _ => ?_) fun h => absurd rfl h
  refine ⟨by simp [IntKind.min, IntKind.max, IntKind.signed, IntKind.bits]; omega, fun b5 h5 => ?_⟩
  have l5 := Le.upd (c := [.string (bs [97])]) h5
  have r5 : rd (upd H4 b5 [.string (bs [97])]) b5 0 = some (sv [97]) := by rw [rd_upd_self]; rfl
  revert l5 r5
  generalize upd H4 b5 [.string (bs [97])] = H5
  intro l5 r5
  refine store_Store_Add.c (hS4.le l5) (x := ⟨3 * (j + 1 : Nat), [], [[97]], [], []⟩) (ptP Sl.nil (slV1 r5)) (smP (by decide) (by decide) (by decide)) fun H6 hS6 m6 => ?_
  have e3 : sAdd (fullS 60) ⟨3 * (j + 1 : Nat), [], [[97]], [], []⟩ = (16, fullS 60) := by
    unfold sAdd
    have hi : isB ⟨3 * (j + 1 : Nat), [], [[97]], [], []⟩ = true := by
      have e : isB ⟨3 * (j + 1 : Nat), [], [[97]], [], []⟩ = (decide (¬ (3 * (j + 1 : Nat) : Int) = 0) && true) := rfl
      rw [e, decide_eq_true (by omega)]; rfl
    rw [hi, if_neg (by decide)]
    simp only
    rw [fullS_some hj60]
    simp [pI]
  rw [e3] at hS6 ⊢
  refine bcd (fun _ => ?_) fun h => absurd rfl h
  refine store_Store_IDs.c hS6 (by rw [fullS_len]; decide) fun p7 n7 c7 H7 l7 hs7 _ _ => ?_
  have en : n7 = 60 := by
    have e := hs7.len
    rw [sIds_len hS6.nodup, fullS_len] at e
    exact e
  subst en
  refine bcd (fun _ b8 h8 => ?_) fun h => absurd rfl h
  have l8 := Le.upd (c := [.int .u32 (1 : Int)]) h8
  have r8 : rd (upd H7 b8 [.int .u32 (1 : Int)]) b8 0 = some (fU 1) := by rw [rd_upd_self]; rfl
  revert l8 r8
  generalize upd H7 b8 [.int .u32 (1 : Int)] = H8
  intro l8 r8
  refine store_Store_Add.c ((hS6.le l7).le l8) (x := ⟨1000, [1], [], [], []⟩) (ptP (sl1 r8) Sl.nil) (smP (by decide) (by decide) (by simp)) fun H9 hS9 m9 => ?_
  have e4 : sAdd (fullS 60) ⟨1000, [1], [], [], []⟩ = (17, fullS 60) := by
    unfold sAdd
    rw [show isB ⟨1000, [1], [], [], []⟩ = true by decide, if_neg (by decide)]
    simp only
    rw [fullS_none fun j hj e => by omega]
    simp only [List.all_cons, List.all_nil, Bool.and_true]
    rw [fullS_none fun j hj e => by omega, Option.isSome_none, if_pos rfl]
  rw [e4]
  have mm : Mod [m] H2 H9 := ((((((mx.trans m3).trans m4).andLe l5).trans m6).andLe (l7.trans l8)).trans m9)
  exact ⟨decide_eq_true rfl, mm.le (l1.trans l2) (by simpa using hm0)⟩

theorem storeFull_own : ownKnob Try.prog.godebug = none := by kernel_rfl
theorem storeFull_laid : laidOutB Try.prog = true := by kernel_rfl
set_option maxRecDepth 100000 in
theorem storeFull_lifted (os : Os) (started : os.Started) (H : Type) (enc : TypeId × Value → H) :
    ReturnsInHanded {} Try.checked os 5 .any (Rows.storeFullSpec.pre6 enc Try.prog Try.f5 Rows.storeFullRow.domain false) (Rows.storeFullSpec.post enc Try.prog Try.f5 false true false false) := by
  refine returnsInHanded_of_change (C := Try.checked) storeFull_own started (by kernel_rfl) Try.func5
    (ChangeSpec.witness6 (enc := enc) (C := Try.checked) false ⟨#[], #[.int .u8 0], []⟩ 8 (by kernel_rfl) (by kernel_rfl) (by kernel_rfl) (by kernel_rfl)) ?_
  intro W base args ds gs before hval0 hW hcnd _
  have hval : ∀ (j : Nat) t v, Try.f5.params[j]? = some t → args[j]? = some v → Value.okWide Try.prog W .any base t v := hval0
  have hW' := hW
  obtain ⟨p, q, hA0, hV, rfl, hfz, hnd⟩ := hW
  have hA : DataW.TrodAll enc Try.prog W 0 (fun _ => true) true Try.f5.params.toList args.toList ds p := hA0
  rw [Try.params5] at hA hval
  obtain ⟨v0, d0, rfl, rfl, h0⟩ := trodAll_one hA
  obtain ⟨x0, rfl, rfl, rfl, w0⟩ := open_int Try.underlying5 (hval 0 5 v0 rfl rfl) h0
  refine (calls_true (storeFull_law w0) Try.func5 (by kernel_rfl)).mono fun e W' ⟨he, hk⟩ => ?_
  subst he
  exact ⟨_, rfl, post_true storeFull_laid hW' (by kernel_rfl) rfl rfl rfl Try.underlying4 hk⟩

theorem storeFull_holds : Rows.StoreFullSaid :=
  OpenClaim.holds_of_wide 5 Try.f5 rfl rfl rfl rfl rfl rfl rfl ⟨rfl, rfl, rfl, rfl, rfl⟩ rfl rfl rfl rfl rfl (by kernel_rfl) Try.func5 (by kernel_rfl)
    (of_decide_eq_true (by kernel_rfl)) (by unfold Func.isWrapper; first | (rw [if_pos (by decide +kernel)]; kernel_rfl) | (rw [if_neg (by decide +kernel)]; exact ⟨rfl, rfl⟩))
    (fun os started H enc _ => storeFull_lifted os started H enc)

end Go.Proofs.Ytbpbgkpkkklipaa
