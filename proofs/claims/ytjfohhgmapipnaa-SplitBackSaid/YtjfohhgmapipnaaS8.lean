/- For every input SplitBack returns true, and what came in reads as it did: no condition. -/
import Derived.Test.YtjfohhgmapipnaaS6
import Derived.Test.YtjfohhgmapipnaaVcLift
import Derived.Test.YtjfohhgmapipnaaVcOpen
import Derived.Test.YtjfohhgmapipnaaRows
namespace Go.Proofs.Ytjfohhgmapipnaa
open Go.V
open Go.ChangeShapes Go.WideShapes Go.ChangeAt Go.RowKit
theorem flat_short' {xs : List BL} (h : ∀ x ∈ xs, x.length ≤ 100) : xs.flatten.length ≤ 100 * xs.length := by
  induction xs with
  | nil => simp
  | cons x xs ih =>
    have h1 := h x (by simp)
    have h2 := ih fun y hy => h y (by simp [hy])
    rw [List.flatten_cons, List.length_append, List.length_cons]; omega
theorem splitBack_law {s : ByteArray} {lp : Option Addr} {ll lc : Nat} {l : List ByteArray} {H : Hp} (_ : s.size ≤ maxLen) (hl : Enc.str.rows H lp ll lc l) : centolaw10_SplitBack.C s lp ll lc H fun r H' => r = true ∧ Le H H' := by
  apply centolaw10_SplitBack.of
  have hx := sl_txt hl.strs
  generalize l.map L = xs at hx
  have e1 := hx.len
  refine centolaw10_known.c fun H1 le1 => ?_
  refine bcn (fun h => by cases h) fun _ => bcd (fun _ => ⟨rfl, le1⟩) fun h1 => bcd (fun _ => ⟨rfl, le1⟩) fun h2 => ?_
  unfold centolaw10_SplitBack.k1
  refine ⟨fun i H' => H' = H1 ∧ 0 ≤ i ∧ i ≤ ll ∧ ∀ x ∈ xs.take i.toNat, x.length ≤ 100, fun i _ => ((ll : Int) - i).toNat, ⟨rfl, by omega, by omega, by simp⟩, ?_⟩
  rintro i H2 ⟨rfl, g0, g1, g2⟩
  have hx1 := hx.le le1
  refine bcd (fun h => ?_) (fun h => ?_)
  · refine slT hx1 g0 h fun hi => ?_
    rw [sv_size]
    refine bcd (fun _ => ⟨rfl, le1⟩) fun h3 => chk (by omega) ⟨⟨rfl, by omega, by omega, fun x hx => ?_⟩, by dsimp only; omega⟩
    rw [show (i + 1).toNat = i.toNat + 1 by omega, List.take_add_one, List.getElem?_eq_getElem hi] at hx
    rcases List.mem_append.1 hx with hx | hx
    · exact g2 x hx
    · simp at hx; subst hx; omega
  · rw [List.take_of_length_le (by omega)] at g2
    have hf := flat_short' g2
    have hsz := L_size s
    have hll := lines_len (L s)
    have hfl : (lines (L s)).flatten = L s := flat_lines [] (L s)
    have each : ∀ x ∈ lines (L s), x.length ≤ 1000000000 := fun x hx => by
      obtain ⟨i, hi, rfl⟩ := List.mem_iff_getElem.1 hx
      have h5 := @flat_le (lines (L s)) (i + 1)
      rw [flat_take hi, hfl, List.length_append] at h5
      omega
    refine split_Lines.c (by omega) fun p3 l3 c3 H3 hx3 le3 _ _ => split_Join.c hx3 (by omega) (by rw [hfl]; omega) fun H4 le4 => ?_
    rw [hfl, mk_L]
    refine bcd (fun _ => ?_) (fun h => absurd rfl h)
    refine split_Is.c (hx3.le le4) (by omega) each ?_
    rw [show isL (lines (L s)) = true from isL_lines [] _ (by simp)]
    refine bcT ?_
    have hx4 := hx1.le (le3.trans le4)
    refine split_Is.c hx4 (by omega) (fun x hx => by have := g2 x hx; omega) ?_
    refine split_Join.c hx4 (by omega) (by omega) fun H5 le5 => ?_
    refine split_Lines.c (by rw [sv_size]; omega) fun p6 l6 c6 H6 hx6 le6 _ _ => ?_
    rw [L_mk] at hx6
    have hl6 := lines_len xs.flatten
    refine centolaw10_same.c hx6 ((hx4.le le5).le le6) (by omega) ⟨?_, (((le1.trans le3).trans le4).trans le5).trans le6⟩
    rw [is_iff]
    exact decide_eq_true rfl

theorem splitBack_own : ownKnob Try.prog.godebug = none := by kernel_rfl
theorem splitBack_laid : laidOutB Try.prog = true := by kernel_rfl
set_option maxRecDepth 100000 in
theorem splitBack_lifted (os : Os) (started : os.Started) (H : Type) (enc : TypeId × Value → H) :
    ReturnsInHanded {} Try.checked os 4 .any (Rows.splitBackSpec.pre6 enc Try.prog Try.f4 Rows.splitBackRow.domain false) (Rows.splitBackSpec.post enc Try.prog Try.f4 false true false false) := by
  refine returnsInHanded_of_change (C := Try.checked) splitBack_own started (by kernel_rfl) Try.func4
    (ChangeSpec.witness6 (enc := enc) (C := Try.checked) false ⟨#[], #[.string .empty, .slice Option.none 0 0], []⟩ 8 (by kernel_rfl) (by kernel_rfl) (by kernel_rfl) (by kernel_rfl)) ?_
  intro W base args ds gs before hval0 hW hcnd _
  have hval : ∀ (j : Nat) t v, Try.f4.params[j]? = some t → args[j]? = some v → Value.okWide Try.prog W .any base t v := hval0
  have hW' := hW
  obtain ⟨p, q, hA0, hV, rfl, hfz, hnd⟩ := hW
  have hA : DataW.TrodAll enc Try.prog W 0 (fun _ => true) true Try.f4.params.toList args.toList ds p := hA0
  rw [Try.params4] at hA hval
  obtain ⟨v0, v1, d0, d1, p0, p1, rfl, rfl, rfl, h0, h1⟩ := trodAll_two hA
  obtain ⟨x0, rfl, rfl, rfl, s0⟩ := Go.ChangeMaps.open_string Try.underlying9 (hval 0 9 v0 rfl rfl) h0
  obtain ⟨q1, l1, c1, x1, rfl, s1⟩ := openSl (by decide) Try.underlying22 (opens_str Try.underlying9 (by kernel_rfl)) (hval 1 22 v1 rfl rfl) h1 (fun x hx => by simp [hx]) hfz
  refine (calls_true (splitBack_law s0 s1) Try.func4 (by kernel_rfl)).mono fun e W' ⟨he, hk⟩ => ?_
  subst he
  exact ⟨_, rfl, post_true splitBack_laid hW' (by kernel_rfl) rfl rfl rfl Try.underlying4 hk⟩

theorem splitBack_holds : Rows.SplitBackSaid :=
  OpenClaim.holds_of_wide 4 Try.f4 rfl rfl rfl rfl rfl rfl rfl ⟨rfl, rfl, rfl, rfl, rfl⟩ rfl rfl rfl rfl rfl (by kernel_rfl) Try.func4 (by kernel_rfl)
    (of_decide_eq_true (by kernel_rfl)) (by unfold Func.isWrapper; first | (rw [if_pos (by decide +kernel)]; kernel_rfl) | (rw [if_neg (by decide +kernel)]; exact ⟨rfl, rfl⟩))
    (fun os started H enc _ => splitBack_lifted os started H enc)

end Go.Proofs.Ytjfohhgmapipnaa
