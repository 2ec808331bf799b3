/- For every input SplitFits returns true, and what came in reads as it did: no condition. -/
import Derived.Test.YtjfohhgmapipnaaS6
import Derived.Test.YtjfohhgmapipnaaVcLift
import Derived.Test.YtjfohhgmapipnaaVcOpen
import Derived.Test.YtjfohhgmapipnaaRows
namespace Go.Proofs.Ytjfohhgmapipnaa
open Go.V
open Go.ChangeShapes Go.WideShapes Go.ChangeAt Go.RowKit
theorem lines_nls (r : BL) : ∀ k : Nat, lines (List.replicate k 10 ++ r) = List.replicate k [10] ++ lines r
  | 0 => by simp
  | k + 1 => by
    rw [List.replicate_succ, List.cons_append, List.replicate_succ, List.cons_append, ← lines_nls r k]
    exact linesA_line [] [] _ (by simp)
theorem fits_nls {k : Nat} {r : List BL} : fitsL (List.replicate k [10] ++ r) = decide (k + r.length ≤ 40 ∧ ∀ x ∈ r, x.length ≤ 60) := by
  unfold fitsL
  apply decide_eq_decide.2
  simp only [List.length_append, List.length_replicate, List.mem_append, List.mem_replicate]
  constructor
  · rintro ⟨h1, h2⟩
    exact ⟨h1, fun x hx => h2 x (.inr hx)⟩
  · rintro ⟨h1, h2⟩
    refine ⟨h1, ?_⟩
    rintro x (⟨_, rfl⟩ | hx)
    · decide
    · exact h2 x hx
theorem rd_repT {H : Hp} {b n k : Nat} {tl : List Value} {z : Value} (h : k < n) (hz : isCell z = true := by rfl) : rd (upd H b (rep n [z] ++ tl)) b k = some z := by
  rw [rd_upd_self, List.getElem?_append_left (by simp [rep]; exact h)]
  show ((List.replicate n z)[k]?).bind nmO = some z
  rw [List.getElem?_replicate, if_pos h]; exact nm_cell hz
/-- string(make([]byte, n)). -/
theorem bts0 {H : Hp} {b n : Nat} {tl : List Value} {F : ByteArray → Prop} (hF : F (mkB (List.replicate n 0))) : BTS (upd H b (rep n [.int .u8 (0 : Int)] ++ tl)) (some ⟨b, 0, none⟩) n F := by
  refine ⟨List.replicate n 0, by simp, fun i x hx => ?_, hF⟩
  rw [List.getElem?_replicate] at hx
  split at hx
  · rename_i hi
    rw [Nat.zero_add, rd_repT hi, ← Option.some.inj hx]; rfl
  · cases hx
theorem splitFits_law {n m : Int} {H : Hp} (wn : (Lit.int .u8 n).wf = true) (wm : (Lit.int .u8 m).wf = true) : centolaw10_SplitFits.C n m H fun r H' => r = true ∧ Le H H' := by
  apply centolaw10_SplitFits.of
  have bn := wf_u8 wn
  have bm := wf_u8 wm
  refine centolaw10_known.c fun H1 le1 => ?_
  refine bcn (fun h => by cases h) fun _ => ?_
  refine ⟨fun s i H' => H' = H1 ∧ 0 ≤ i ∧ i ≤ 40 ∧ s = mkB (List.replicate i.toNat 10), fun _ i _ => (40 - i).toNat, ⟨rfl, by omega, by omega, rfl⟩, ?_⟩
  rintro s i H2 ⟨rfl, g0, g1, rfl⟩
  refine bcd (fun h => ?_) (fun h => ?_)
  · refine ⟨by rw [sv_size, show (bs [10]).size = 1 from rfl]; simp; omega, chk (by omega) ⟨⟨rfl, by omega, by omega, ?_⟩, by dsimp only; omega⟩⟩
    rw [show (i + 1).toNat = i.toNat + 1 by omega, List.replicate_succ']
    exact L_inj (by rw [L_append]; rfl)
  · rw [show i.toNat = 40 by omega]
    refine mk (n := 59) rfl (by decide) (by decide) fun b hb => bts0 ?_
    obtain ⟨q, hq⟩ : ∃ q : Nat, m = q := ⟨m.toNat, by omega⟩
    subst hq
    refine chk (by omega) ⟨by decide, ?_⟩
    rw [show (40 : Int) = ((40 : Nat) : Int) from rfl, tmodN (by omega), Int.toNat_natCast]
    have hk : q % 40 < 40 := Nat.mod_lt _ (by decide)
    generalize q % 40 = k at hk
    have le3 : Le H (upd H2 b (rep 59 [.int .u8 0] ++ [tyM ty_uint8 0 0])) := le1.trans (Le.upd hb)
    generalize upd H2 b (rep 59 [.int .u8 0] ++ [tyM ty_uint8 0 0]) = H3 at le3
    have ss : (mkB (List.replicate 40 10)).size = 40 := rfl
    have sl : (mkB (List.replicate 59 0)).size = 59 := rfl
    have sx : (bs [120]).size = 1 := rfl
    refine split_Fits.c (by rw [ss]; decide) fun H4 le4 => ?_
    have f1 : fitsL (lines (L (mkB (List.replicate 40 10)))) = true := by
      have := lines_nls [] 40
      rw [List.append_nil] at this
      rw [L_mk, this, fits_nls]; rfl
    rw [f1]
    refine bcT ⟨by rw [ss, sx]; decide, split_Fits.c (by rw [L_size, L_append]; decide) fun H5 le5 => ?_⟩
    have f2 : fitsL (lines (L (mkB (List.replicate 40 10) ++ bs [120]))) = false := by
      rw [L_append, L_mk, L_bs, lines_nls, fits_nls]; rfl
    rw [f2]
    refine bcn (fun _ => ?_) (fun h => by cases h)
    have e1 : (mkB (List.replicate 40 10)).extract 0 k = mkB (List.replicate k 10) := L_inj (by rw [L_extract, L_mk, L_mk, List.drop_zero, List.take_replicate, Nat.min_eq_left (by omega)])
    have e2 : (mkB (List.replicate 40 10)).extract k (mkB (List.replicate 40 10)).size = mkB (List.replicate (40 - k) 10) := L_inj (by rw [L_extract, L_mk, L_mk, ss, List.take_replicate, List.drop_replicate]; rfl)
    have sk : (mkB (List.replicate k 10)).size = k := by rw [sv_size]; simp
    have sk' : (mkB (List.replicate (40 - k) 10)).size = 40 - k := by rw [sv_size]; simp
    have s2 : ∀ a b : ByteArray, (a ++ b).size = a.size + b.size := fun a b => by rw [L_size, L_append, List.length_append, ← L_size, ← L_size]
    refine bnd01 k rfl (by rw [ss]; omega) ?_
    rw [e1]
    refine ⟨by rw [sk, sl]; omega, bnd10 k rfl (by rw [ss]; omega) ?_⟩
    rw [e2]
    refine ⟨by rw [s2, sk, sl, sk']; omega, split_Fits.c (by rw [s2, s2, sk, sl, sk']; omega) fun H6 le6 => ?_⟩
    have h40 : (40 - k) = (39 - k) + 1 := by omega
    have f3 : fitsL (lines (L (mkB (List.replicate k 10) ++ mkB (List.replicate 59 0) ++ mkB (List.replicate (40 - k) 10)))) = true := by
      rw [L_append, L_append, L_mk, L_mk, L_mk, List.append_assoc, lines_nls, h40, show List.replicate (39 - k + 1) (10 : UInt8) = 10 :: List.replicate (39 - k) 10 from rfl]
      rw [show lines (List.replicate 59 0 ++ 10 :: List.replicate (39 - k) 10) = ([] ++ List.replicate 59 0 ++ [10]) :: lines (List.replicate (39 - k) 10) from linesA_line [] _ _ (by decide)]
      have := lines_nls [] (39 - k)
      rw [List.append_nil] at this
      rw [this, fits_nls, decide_eq_true_eq]
      refine ⟨by simp [lines, linesA]; omega, fun x hx => ?_⟩
      rcases List.mem_cons.1 hx with rfl | hx
      · decide
      · simp [lines, linesA] at hx; rw [hx.2]; decide
    rw [f3]
    refine bcT (bnd01 k rfl (by rw [ss]; omega) ?_)
    rw [e1]
    refine ⟨by rw [sk, sl]; omega, by rw [s2, sk, sl, sx]; omega, bnd10 k rfl (by rw [ss]; omega) ?_⟩
    rw [e2]
    refine ⟨by rw [s2, s2, sk, sl, sx, sk']; omega, split_Fits.c (by rw [s2, s2, s2, sk, sl, sx, sk']; omega) fun H7 le7 => ?_⟩
    have f4 : fitsL (lines (L (mkB (List.replicate k 10) ++ mkB (List.replicate 59 0) ++ bs [120] ++ mkB (List.replicate (40 - k) 10)))) = false := by
      rw [L_append, L_append, L_append, L_mk, L_mk, L_mk, L_bs, List.append_assoc, List.append_assoc, lines_nls, h40, show List.replicate (39 - k + 1) (10 : UInt8) = 10 :: List.replicate (39 - k) 10 from rfl]
      rw [show List.replicate 59 (0 : UInt8) ++ ([120] ++ 10 :: List.replicate (39 - k) 10) = (List.replicate 59 0 ++ [120]) ++ 10 :: List.replicate (39 - k) 10 by simp]
      rw [show lines ((List.replicate 59 0 ++ [120]) ++ 10 :: List.replicate (39 - k) 10) = ([] ++ (List.replicate 59 0 ++ [120]) ++ [10]) :: lines (List.replicate (39 - k) 10) from linesA_line [] _ _ (by decide)]
      rw [fits_nls, decide_eq_false_iff_not]
      intro h
      have := h.2 _ (List.mem_cons_self)
      exact absurd this (by decide)
    rw [f4]
    refine bcn (fun _ => ?_) (fun h => by cases h)
    obtain ⟨r, hr⟩ : ∃ r : Nat, n = r := ⟨n.toNat, by omega⟩
    subst hr
    refine chk (by omega) ⟨by decide, ?_⟩
    rw [show (61 : Int) = ((61 : Nat) : Int) from rfl, tmodN (by omega), Int.toNat_natCast]
    have hr : r % 61 < 61 := Nat.mod_lt _ (by decide)
    generalize r % 61 = r at hr
    refine mk (n := r) rfl (by omega) (by omega) fun b2 hb2 => bts0 ?_
    have fin := ((((le3.trans le4).trans le5).trans le6).trans le7).trans (Le.upd (c := rep r [.int .u8 0] ++ [tyM ty_uint8 0 0]) hb2)
    refine split_Fits.c (by rw [sv_size, List.length_replicate]; omega) fun H8 le8 => ⟨?_, fin.trans le8⟩
    rw [L_mk, lines, linesA_last _ _ (by simp)]
    split
    · rfl
    · exact decide_eq_true ⟨by simp, fun x hx => by simp at hx; subst hx; rw [List.length_replicate]; omega⟩

theorem splitFits_own : ownKnob Try.prog.godebug = none := by kernel_rfl
theorem splitFits_laid : laidOutB Try.prog = true := by kernel_rfl
set_option maxRecDepth 100000 in
theorem splitFits_lifted (os : Os) (started : os.Started) (H : Type) (enc : TypeId × Value → H) :
    ReturnsInHanded {} Try.checked os 5 .any (Rows.splitFitsSpec.pre6 enc Try.prog Try.f5 Rows.splitFitsRow.domain false) (Rows.splitFitsSpec.post enc Try.prog Try.f5 false true false false) := by
  refine returnsInHanded_of_change (C := Try.checked) splitFits_own started (by kernel_rfl) Try.func5
    (ChangeSpec.witness6 (enc := enc) (C := Try.checked) false ⟨#[], #[.int .u8 0, .int .u8 0], []⟩ 8 (by kernel_rfl) (by kernel_rfl) (by kernel_rfl) (by kernel_rfl)) ?_
  intro W base args ds gs before hval0 hW hcnd _
  have hval : ∀ (j : Nat) t v, Try.f5.params[j]? = some t → args[j]? = some v → Value.okWide Try.prog W .any base t v := hval0
  have hW' := hW
  obtain ⟨p, q, hA0, hV, rfl, hfz, hnd⟩ := hW
  have hA : DataW.TrodAll enc Try.prog W 0 (fun _ => true) true Try.f5.params.toList args.toList ds p := hA0
  rw [Try.params5] at hA hval
  obtain ⟨v0, v1, d0, d1, p0, p1, rfl, rfl, rfl, h0, h1⟩ := trodAll_two hA
  obtain ⟨x0, rfl, rfl, rfl, w0⟩ := open_int Try.underlying5 (hval 0 5 v0 rfl rfl) h0
  obtain ⟨x1, rfl, rfl, rfl, w1⟩ := open_int Try.underlying5 (hval 1 5 v1 rfl rfl) h1
  refine (calls_true (splitFits_law w0 w1) Try.func5 (by kernel_rfl)).mono fun e W' ⟨he, hk⟩ => ?_
  subst he
  exact ⟨_, rfl, post_true splitFits_laid hW' (by kernel_rfl) rfl rfl rfl Try.underlying4 hk⟩

theorem splitFits_holds : Rows.SplitFitsSaid :=
  OpenClaim.holds_of_wide 5 Try.f5 rfl rfl rfl rfl rfl rfl rfl ⟨rfl, rfl, rfl, rfl, rfl⟩ rfl rfl rfl rfl rfl (by kernel_rfl) Try.func5 (by kernel_rfl)
    (of_decide_eq_true (by kernel_rfl)) (by unfold Func.isWrapper; first | (rw [if_pos (by decide +kernel)]; kernel_rfl) | (rw [if_neg (by decide +kernel)]; exact ⟨rfl, rfl⟩))
    (fun os started H enc _ => splitFits_lifted os started H enc)

end Go.Proofs.Ytjfohhgmapipnaa
