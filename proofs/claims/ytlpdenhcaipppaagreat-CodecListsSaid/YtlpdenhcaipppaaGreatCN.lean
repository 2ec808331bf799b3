/- For every row of patches and byte CodecLists returns true, and what came in reads as it did: no condition. -/
import Derived.Test.YtlpdenhcaipppaaGreatZ5
import Derived.Test.YtlpdenhcaipppaaGreatRows
namespace Go.Proofs.YtlpdenhcaipppaaGreat
open Go.V
open Go.ChangeShapes Go.WideShapes Go.ChangeAt Go.RowKit
theorem okAll_spec {xs : List Pt} (h : okAll xs = true) : xs.length ≤ 60 ∧ ∀ x ∈ xs, isB x = true := by
  unfold okAll at h
  rw [Bool.and_eq_true, decide_eq_true_eq, List.all_eq_true] at h
  exact h
theorem codecLists_law {q0 : Option Addr} {l0 c0 : Nat} {x0 : List PtX} {x : Int} {H : Hp} (s0 : ptE.rows H q0 l0 c0 x0) (w1 : (Lit.int .u8 x).wf = true) :
    CallH prog centolaw18_CodecLists.num [.slice q0 l0 c0, .int .u8 x] H fun v H' => liftB v fun r => r = true ∧ Le H H' := by
  have wx : 0 ≤ x ∧ x ≤ 255 := by simpa [Lit.wf, IntKind.min, IntKind.max, IntKind.signed, IntKind.bits] using w1
  have hml : l0 ≤ 9223372036854775807 := Nat.le_trans s0.2.1 (Nat.le_trans s0.2.2.1 (by decide))
  have hu := ptL_u s0
  have h := ptL_rep s0
  clear s0 w1
  generalize x0.map toPt = xs at h hu
  show centolaw18_CodecLists.C q0 l0 c0 x H fun r H' => r = true ∧ Le H H'
  apply centolaw18_CodecLists.of
  have el := h.1
  refine centolaw18_known.c fun H2 l2 => bcn (fun h => by cases h) fun _ => ?_
  refine centolaw18_fewAll.c (h.le l2) hml fun H3 l3 => bcn (fun _ => ⟨rfl, l2.trans l3⟩) fun hf => ?_
  obtain ⟨f1, f2⟩ := few_all hf
  have l23 := l2.trans l3
  refine codec_List.c (h.le l23) f2 hu (by omega) fun H4 l4 => ?_
  have l24 := l23.trans l4
  cases hok : okAll xs with
  | false =>
    rw [if_neg (by decide), if_neg (by decide)]
    exact bcd (fun _ => ⟨decide_eq_true rfl, l24⟩) fun h => absurd (by decide) h
  | true =>
    rw [if_pos rfl, if_pos rfl]
    refine bcd (fun h => absurd rfl h) fun _ => ?_
    obtain ⟨k1, k2⟩ := okAll_spec hok
    have hg : ∀ r, pRow getC 60 (rowB ptB xs ++ r) = some (xs, r) := fun r => (rt_row rt_get (by decide)).wr xs r ⟨k1, fun y hy => ⟨k2 y hy, hu y hy⟩⟩
    have hl1 : listsC (rowB ptB xs) = some xs := by
      have := hg []
      rw [List.append_nil] at this
      unfold listsC; rw [this]
    refine codec_Lists.c (fun h => by rw [hl1] at h; cases h) fun ys hy P c H5 l5 hL hs => ?_
    rw [hl1] at hy
    simp only [Option.some.injEq] at hy
    subst hy
    have l25 := l24.trans l5
    intro b hb
    have l6 := Le.upd (c := [.int .u8 x] ++ [tyM 5 0 0]) hb
    have r6 : rd (upd H5 b ([.int .u8 x] ++ [tyM 5 0 0])) b 0 = some (.int .u8 x) := by rw [rd_upd_self]; rfl
    have ux : ((UInt8.ofNat x.toNat).toNat : Int) = x := by
      have := u8nat (n := x.toNat) (by omega)
      omega
    refine ⟨[UInt8.ofNat x.toNat], rfl, fun i y hi => ?_, ?_⟩
    · match i, hi with
      | 0, hi =>
        simp at hi
        subst hi
        rw [ux]; exact r6
      | i + 1, hi => simp at hi
    have hw : ∀ y ∈ xs, (ptB y).length ≤ 100000 := fun y hy => ptB_few (f2 y hy)
    have hlen := rowB_len hw f1
    show ((((mkB (rowB ptB xs)).size + (mkB [UInt8.ofNat x.toNat]).size : Nat) : Int) ≤ 9223372036854775807) ∧ _
    refine ⟨by rw [mkB_size, mkB_size, show [UInt8.ofNat x.toNat].length = 1 from rfl]; omega, ?_⟩
    show codec_Lists.C (mkB (rowB ptB xs) ++ mkB [UInt8.ofNat x.toNat]) _ _
    rw [ba_app]
    have hl2 : listsC (rowB ptB xs ++ [UInt8.ofNat x.toNat]) = none := by unfold listsC; rw [hg]
    refine codec_Lists.c (fun _ H7 l7 => ?_) fun ys hy => by rw [hl2] at hy; cases hy
    refine bcd (fun h => absurd rfl h) fun _ => bcd (fun h => absurd rfl h) fun _ => bcd (fun h => absurd (by omega) h) fun _ => ?_
    unfold centolaw18_CodecLists.k1
    have l67 := l6.trans l7
    have lz := l25.trans l67
    have hA := h.le lz
    have hB := hL.le l67
    refine ⟨fun t Hx => ∃ i : Nat, t = (i : Nat) ∧ i ≤ xs.length ∧ Le H7 Hx, fun t _ => ((xs.length : Int) - t).toNat, ⟨0, rfl, Nat.zero_le _, Le.refl _⟩, ?_⟩
    rintro t Hx ⟨i, rfl, gi, lx⟩
    refine bcd (fun hlt => ?_) fun _ => ⟨rfl, lz.trans lx⟩
    have hi : i < xs.length := by omega
    refine rsP (hA.le lx) rfl hi fun dp dl dc mp ml mc qp ql qc hp hl hc hx _ => rsP (hB.le lx) rfl hi fun dp2 dl2 dc2 mp2 ml2 mc2 qp2 ql2 qc2 hp2 hl2 hc2 hy _ => centoref12_Same.c hx hy (hs _ (List.getElem_mem hi)) fun H8 l8 => ?_
    rw [decide_eq_true rfl]
    exact bcF (chk (by omega) ⟨⟨i + 1, by omega, by omega, lx.trans l8⟩, by first | omega | (dsimp only; omega)⟩)

theorem codecLists_own : ownKnob Tryz.prog.godebug = none := by kernel_rfl
theorem codecLists_laid : laidOutB Tryz.prog = true := by kernel_rfl
set_option maxRecDepth 100000 in
theorem codecLists_lifted (os : Os) (started : os.Started) (H : Type) (enc : TypeId × Value → H) :
    ReturnsInHanded {} Tryz.checked os 6 .any (Rows.codecListsSpec.pre6 enc Tryz.prog Tryz.f6 Rows.codecListsRow.domain false) (Rows.codecListsSpec.post enc Tryz.prog Tryz.f6 false true false false) := by
  refine returnsInHanded_of_change (C := Tryz.checked) codecLists_own started (by kernel_rfl) Tryz.func6
    (ChangeSpec.witness6 (enc := enc) (C := Tryz.checked) false ⟨#[], #[.slice Option.none 0 0, .int .u8 0], []⟩ 8 (by kernel_rfl) (by kernel_rfl) (by kernel_rfl) (by kernel_rfl)) ?_
  intro W base args ds gs before hval0 hW hcnd _
  have hval : ∀ (j : Nat) t v, Tryz.f6.params[j]? = some t → args[j]? = some v → Value.okWide Tryz.prog W .any base t v := hval0
  have hW' := hW
  obtain ⟨p, q, hA0, hV, rfl, hfz, hnd⟩ := hW
  have hA : DataW.TrodAll enc Tryz.prog W 0 (fun _ => true) true Tryz.f6.params.toList args.toList ds p := hA0
  rw [Tryz.params6] at hA hval
  obtain ⟨v0, v1, d0, d1, p0, p1, rfl, rfl, rfl, h0, h1⟩ := trodAll_two hA
  obtain ⟨q0, l0, c0, x0, rfl, s0⟩ := openSl (by decide) Tryz.underlying34 (opens_st Tryz.underlying27 (by kernel_rfl) (opensF_cons rfl (opens_int Tryz.underlying22 (by kernel_rfl)) rfl (opensF_cons rfl (opens_sl (by decide) Tryz.underlying23 (by kernel_rfl) (opens_int Tryz.underlying22 (by kernel_rfl))) rfl (opensF_cons rfl (opens_sl (by decide) Tryz.underlying24 (by kernel_rfl) (opens_str Tryz.underlying9 (by kernel_rfl))) rfl (opensF_cons rfl (opens_sl (by decide) Tryz.underlying24 (by kernel_rfl) (opens_str Tryz.underlying9 (by kernel_rfl))) rfl (opensF_one rfl (opens_sl (by decide) Tryz.underlying25 (by kernel_rfl) (opens_st Tryz.underlying59 (by kernel_rfl) (opensF_cons rfl (opens_str Tryz.underlying9 (by kernel_rfl)) rfl (opensF_cons rfl (opens_sl (by decide) Tryz.underlying24 (by kernel_rfl) (opens_str Tryz.underlying9 (by kernel_rfl))) rfl (opensF_cons rfl (opens_sl (by decide) Tryz.underlying56 (by kernel_rfl) (opens_st Tryz.underlying87 (by kernel_rfl) (opensF_cons rfl (opens_st Tryz.underlying85 (by kernel_rfl) (opensF_cons rfl (opens_int Tryz.underlying22 (by kernel_rfl)) rfl (opensF_one rfl (opens_int Tryz.underlying3 (by kernel_rfl))))) rfl (opensF_one rfl (opens_st Tryz.underlying85 (by kernel_rfl) (opensF_cons rfl (opens_int Tryz.underlying22 (by kernel_rfl)) rfl (opensF_one rfl (opens_int Tryz.underlying3 (by kernel_rfl))))))))) rfl (opensF_one rfl (opens_sl (by decide) Tryz.underlying57 (by kernel_rfl) (opens_st Tryz.underlying85 (by kernel_rfl) (opensF_cons rfl (opens_int Tryz.underlying22 (by kernel_rfl)) rfl (opensF_one rfl (opens_int Tryz.underlying3 (by kernel_rfl)))))))))))))))))) (hval 0 34 v0 rfl rfl) h0 (fun x hx => by simp [hx]) hfz
  obtain ⟨x1, rfl, rfl, rfl, w1⟩ := open_int Tryz.underlying5 (hval 1 5 v1 rfl rfl) h1
  refine (calls_true (codecLists_law s0 w1) Tryz.func6 (by kernel_rfl)).mono fun e W' ⟨he, hk⟩ => ?_
  subst he
  exact ⟨_, rfl, post_true codecLists_laid hW' (by kernel_rfl) rfl rfl rfl Tryz.underlying4 hk⟩

theorem codecLists_holds : Rows.CodecListsSaid :=
  OpenClaim.holds_of_wide 6 Tryz.f6 rfl rfl rfl rfl rfl rfl rfl ⟨rfl, rfl, rfl, rfl, rfl⟩ rfl rfl rfl rfl rfl (by kernel_rfl) Tryz.func6 (by kernel_rfl)
    (of_decide_eq_true (by kernel_rfl)) (by unfold Func.isWrapper; first | (rw [if_pos (by decide +kernel)]; kernel_rfl) | (rw [if_neg (by decide +kernel)]; exact ⟨rfl, rfl⟩))
    (fun os started H enc _ => codecLists_lifted os started H enc)

end Go.Proofs.YtlpdenhcaipppaaGreat
