/- For every input SplitParts returns true, and what came in reads as it did: no condition. -/
import Derived.Test.YtjfohhgmapipnaaS6
import Derived.Test.YtjfohhgmapipnaaVcLift
import Derived.Test.YtjfohhgmapipnaaVcOpen
import Derived.Test.YtjfohhgmapipnaaRows
namespace Go.Proofs.Ytjfohhgmapipnaa
open Go.V
open Go.ChangeShapes Go.WideShapes Go.ChangeAt Go.RowKit
theorem linesA_two (acc a b : BL) : linesA acc (a ++ 10 :: b) = linesA acc (a ++ [10]) ++ lines b := by
  induction a generalizing acc with
  | nil => simp [linesA, lines]
  | cons x a ih =>
    rw [List.cons_append, List.cons_append, linesA, linesA]
    split
    · rw [ih]; rfl
    · rw [ih]
theorem linesA_more (acc a : BL) : (linesA acc a).length ≤ (linesA acc (a ++ [10])).length ∧ 1 ≤ (linesA acc (a ++ [10])).length := by
  induction a generalizing acc with
  | nil =>
    rw [List.nil_append, linesA, linesA, if_pos rfl]
    split <;> simp
  | cons x a ih =>
    rw [List.cons_append, linesA, linesA]
    split
    · have := ih []; simp; omega
    · exact ih _
theorem splitParts_law {a b : ByteArray} {H : Hp} (_ : a.size ≤ maxLen) (_ : b.size ≤ maxLen) : centolaw10_SplitParts.C a b H fun r H' => r = true ∧ Le H H' := by
  apply centolaw10_SplitParts.of
  refine centolaw10_known.c fun H1 le1 => ?_
  refine bcn (fun h => by cases h) fun _ => bcd (fun _ => ⟨rfl, le1⟩) fun h1 => bcd (fun _ => ⟨rfl, le1⟩) fun h2 => ?_
  unfold centolaw10_SplitParts.k1
  have s1 : (bs [10]).size = 1 := rfl
  have s2 : ∀ a b : ByteArray, (a ++ b).size = a.size + b.size := fun a b => by rw [L_size, L_append, List.length_append, ← L_size, ← L_size]
  refine ⟨by rw [s1]; omega, split_Lines.c (by rw [s2, s1]; omega) fun xp xl xc H2 hx le2 px _ => split_Lines.c (by omega) fun yp yl yc H3 hy le3 py _ => ⟨by rw [s1]; omega, by rw [s2, s1]; omega, split_Lines.c (by rw [s2, s2, s1]; omega) fun zp zl zc H4 hz le4 _ _ => ?_⟩⟩
  have lx := lines_len (L (a ++ bs [10]))
  have ly := lines_len (L b)
  have lz := lines_len (L (a ++ bs [10] ++ b))
  rw [← L_size, s2, s1] at lx
  rw [← L_size] at ly
  rw [← L_size, s2, s2, s1] at lz
  have ex := hx.len
  have ey := hy.len
  have hx4 := (hx.le le3).le le4
  have hy4 := hy.le le4
  have cells : ∀ xs : List BL, ((xs.map sv).all isCell) = true := fun xs => List.all_eq_true.2 fun v hv => by obtain ⟨_, _, rfl⟩ := List.mem_map.1 hv; rfl
  refine (Buf.none (s := 1) (A := H4) (H := H4)).appN (n := xl) (new := (lines (L (a ++ bs [10]))).map sv) rfl (by decide) rfl (by decide) (by simp [ex]) (cells _) (by show (0 + xl) * 16 ≤ _; omega) (Le.refl _) (fun G hG => sl_srcG hx4 px G hG) fun p5 c5 H5 hB5 le5 _ => ?_
  rw [List.nil_append] at hB5
  refine hB5.appN (n := yl) (new := (lines (L b)).map sv) rfl (by decide) rfl (by decide) (by simp [ey]) (cells _) (by show (0 + xl + yl) * 16 ≤ _; omega) le5 (fun G hG => sl_srcG (hy4.le le5) py G hG) fun p6 c6 H6 hB6 le6 _ => ?_
  rw [← List.map_append] at hB6
  have hs := hB6.sl
  refine centolaw10_same.c (hz.le le6) hs (by omega) ?_
  have hz' : lines (L (a ++ bs [10] ++ b)) = lines (L (a ++ bs [10])) ++ lines (L b) := by
    rw [L_append, L_append, L_bs, List.append_assoc]; exact linesA_two [] _ _
  rw [decide_eq_true hz']
  refine bcT (split_Lines.c (by omega) fun p7 l7 c7 H7 h7 le7 _ _ => ?_)
  have e7 := h7.len
  have hm := linesA_more [] (L a)
  have hm' : lines (L (a ++ bs [10])) = linesA [] (L a ++ [10]) := by rw [L_append, L_bs]; rfl
  rw [← hm'] at hm
  have hm2 : l7 ≤ xl ∧ 1 ≤ xl := by rw [e7, ex]; exact hm
  exact bcd (fun _ => ⟨decide_eq_true (by omega), ((((le1.trans le2).trans le3).trans le4).trans le6).trans le7⟩) (fun h => absurd (by omega) h)

theorem splitParts_own : ownKnob Try.prog.godebug = none := by kernel_rfl
theorem splitParts_laid : laidOutB Try.prog = true := by kernel_rfl
set_option maxRecDepth 100000 in
theorem splitParts_lifted (os : Os) (started : os.Started) (H : Type) (enc : TypeId × Value → H) :
    ReturnsInHanded {} Try.checked os 6 .any (Rows.splitPartsSpec.pre6 enc Try.prog Try.f6 Rows.splitPartsRow.domain false) (Rows.splitPartsSpec.post enc Try.prog Try.f6 false true false false) := by
  refine returnsInHanded_of_change (C := Try.checked) splitParts_own started (by kernel_rfl) Try.func6
    (ChangeSpec.witness6 (enc := enc) (C := Try.checked) false ⟨#[], #[.string .empty, .string .empty], []⟩ 8 (by kernel_rfl) (by kernel_rfl) (by kernel_rfl) (by kernel_rfl)) ?_
  intro W base args ds gs before hval0 hW hcnd _
  have hval : ∀ (j : Nat) t v, Try.f6.params[j]? = some t → args[j]? = some v → Value.okWide Try.prog W .any base t v := hval0
  have hW' := hW
  obtain ⟨p, q, hA0, hV, rfl, hfz, hnd⟩ := hW
  have hA : DataW.TrodAll enc Try.prog W 0 (fun _ => true) true Try.f6.params.toList args.toList ds p := hA0
  rw [Try.params6] at hA hval
  obtain ⟨v0, v1, d0, d1, p0, p1, rfl, rfl, rfl, h0, h1⟩ := trodAll_two hA
  obtain ⟨x0, rfl, rfl, rfl, s0⟩ := Go.ChangeMaps.open_string Try.underlying9 (hval 0 9 v0 rfl rfl) h0
  obtain ⟨x1, rfl, rfl, rfl, s1⟩ := Go.ChangeMaps.open_string Try.underlying9 (hval 1 9 v1 rfl rfl) h1
  refine (calls_true (splitParts_law s0 s1) Try.func6 (by kernel_rfl)).mono fun e W' ⟨he, hk⟩ => ?_
  subst he
  exact ⟨_, rfl, post_true splitParts_laid hW' (by kernel_rfl) rfl rfl rfl Try.underlying4 hk⟩

theorem splitParts_holds : Rows.SplitPartsSaid :=
  OpenClaim.holds_of_wide 6 Try.f6 rfl rfl rfl rfl rfl rfl rfl ⟨rfl, rfl, rfl, rfl, rfl⟩ rfl rfl rfl rfl rfl (by kernel_rfl) Try.func6 (by kernel_rfl)
    (of_decide_eq_true (by kernel_rfl)) (by unfold Func.isWrapper; first | (rw [if_pos (by decide +kernel)]; kernel_rfl) | (rw [if_neg (by decide +kernel)]; exact ⟨rfl, rfl⟩))
    (fun os started H enc _ => splitParts_lifted os started H enc)

end Go.Proofs.Ytjfohhgmapipnaa
