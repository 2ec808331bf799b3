/- For every input SplitTells returns true, and what came in reads as it did: no condition. -/
import Derived.Test.YtjfohhgmapipnaaS6
import Derived.Test.YtjfohhgmapipnaaVcLift
import Derived.Test.YtjfohhgmapipnaaVcOpen
import Derived.Test.YtjfohhgmapipnaaRows
namespace Go.Proofs.Ytjfohhgmapipnaa
open Go.V
open Go.ChangeShapes Go.WideShapes Go.ChangeAt Go.RowKit
theorem flat_short {xs : List BL} (h : ∀ x ∈ xs, x.length ≤ 100) : xs.flatten.length ≤ 100 * xs.length := by
  induction xs with
  | nil => simp
  | cons x xs ih =>
    have h1 := h x (by simp)
    have h2 := ih fun y hy => h y (by simp [hy])
    rw [List.flatten_cons, List.length_append, List.length_cons]; omega
theorem all_take_succ {xs : List BL} {i : Nat} {m : Nat} (hi : i < xs.length) (h : ∀ x ∈ xs.take i, x.length ≤ m) (h' : xs[i].length ≤ m) : ∀ x ∈ xs.take (i + 1), x.length ≤ m := by
  intro x hx
  rw [List.take_add_one, List.getElem?_eq_getElem hi] at hx
  rcases List.mem_append.1 hx with hx | hx
  · exact h x hx
  · simp at hx; subst hx; exact h'
theorem splitTells_law {s : ByteArray} {lp : Option Addr} {ll lc : Nat} {l : List ByteArray} {H : Hp} (_ : s.size ≤ maxLen) (hl : Enc.str.rows H lp ll lc l) : centolaw10_SplitTells.C s lp ll lc H fun r H' => r = true ∧ Le H H' := by
  apply centolaw10_SplitTells.of
  have hx := sl_txt hl.strs
  generalize l.map L = xs at hx
  have e1 := hx.len
  refine centolaw10_known.c fun H1 le1 => ?_
  refine bcn (fun h => by cases h) fun _ => bcd (fun _ => ⟨rfl, le1⟩) fun h1 => bcd (fun _ => ⟨rfl, le1⟩) fun h2 => ?_
  unfold centolaw10_SplitTells.k1
  refine ⟨fun t i H' => H' = H1 ∧ 0 ≤ i ∧ i ≤ ll ∧ t = mkB (xs.take i.toNat).flatten ∧ ∀ x ∈ xs.take i.toNat, x.length ≤ 100, fun _ i _ => ((ll : Int) - i).toNat, ⟨rfl, by omega, by omega, rfl, by simp⟩, ?_⟩
  rintro t i H2 ⟨rfl, g0, g1, rfl, g2⟩
  have hx1 := hx.le le1
  refine bcd (fun h => ?_) (fun h => ?_)
  · refine slT hx1 g0 h fun hi => ?_
    rw [sv_size]
    refine bcd (fun _ => ⟨rfl, le1⟩) fun h3 => slT hx1 g0 h fun _ => ?_
    have hf := flat_short g2
    rw [sv_size, sv_size]
    refine ⟨by simp at hf ⊢; omega, chk (by omega) ⟨⟨rfl, by omega, by omega, ?_, ?_⟩, by dsimp only; omega⟩⟩
    · rw [show (i + 1).toNat = i.toNat + 1 by omega, flat_take hi]
      exact L_inj (by rw [L_append]; rfl)
    · rw [show (i + 1).toNat = i.toNat + 1 by omega]
      exact all_take_succ hi g2 (by omega)
  · rw [List.take_of_length_le (by omega)] at g2
    rw [List.take_of_length_le (by omega)]
    have hf := flat_short g2
    have hsz := L_size s
    have hll := lines_len (L s)
    refine split_Lines.c (by omega) fun p3 l3 c3 H3 hx3 le3 _ _ => centoref10_Lines.c (by omega) fun p4 l4 c4 H4 hx4 le4 _ _ => ?_
    refine centolaw10_same.c (hx3.le le4) hx4 (by omega) ?_
    rw [decide_eq_true rfl]
    refine bcT (split_Fits.c (by omega) fun H5 le5 => centoref10_Fits.c (by omega) fun H6 le6 => ?_)
    refine bcd (fun _ => ?_) (fun h => absurd rfl h)
    have fin := ((le3.trans le4).trans le5).trans le6
    have hx6 := hx1.le fin
    refine split_Is.c hx6 (by omega) (fun x hx => by have := g2 x hx; omega) ?_
    refine centolaw10_is.c hx6 (by omega) (fun x hx => by have := g2 x hx; omega) ?_
    refine bcd (fun _ => ?_) (fun h => absurd rfl h)
    refine split_Join.c hx6 (by omega) (by omega) fun H7 le7 => ⟨decide_eq_true rfl, (le1.trans fin).trans le7⟩

theorem splitTells_own : ownKnob Try.prog.godebug = none := by kernel_rfl
theorem splitTells_laid : laidOutB Try.prog = true := by kernel_rfl
set_option maxRecDepth 100000 in
theorem splitTells_lifted (os : Os) (started : os.Started) (H : Type) (enc : TypeId × Value → H) :
    ReturnsInHanded {} Try.checked os 3 .any (Rows.splitTellsSpec.pre6 enc Try.prog Try.f3 Rows.splitTellsRow.domain false) (Rows.splitTellsSpec.post enc Try.prog Try.f3 false true false false) := by
  refine returnsInHanded_of_change (C := Try.checked) splitTells_own started (by kernel_rfl) Try.func3
    (ChangeSpec.witness6 (enc := enc) (C := Try.checked) false ⟨#[], #[.string .empty, .slice Option.none 0 0], []⟩ 8 (by kernel_rfl) (by kernel_rfl) (by kernel_rfl) (by kernel_rfl)) ?_
  intro W base args ds gs before hval0 hW hcnd _
  have hval : ∀ (j : Nat) t v, Try.f3.params[j]? = some t → args[j]? = some v → Value.okWide Try.prog W .any base t v := hval0
  have hW' := hW
  obtain ⟨p, q, hA0, hV, rfl, hfz, hnd⟩ := hW
  have hA : DataW.TrodAll enc Try.prog W 0 (fun _ => true) true Try.f3.params.toList args.toList ds p := hA0
  rw [Try.params3] at hA hval
  obtain ⟨v0, v1, d0, d1, p0, p1, rfl, rfl, rfl, h0, h1⟩ := trodAll_two hA
  obtain ⟨x0, rfl, rfl, rfl, s0⟩ := Go.ChangeMaps.open_string Try.underlying9 (hval 0 9 v0 rfl rfl) h0
  obtain ⟨q1, l1, c1, x1, rfl, s1⟩ := openSl (by decide) Try.underlying22 (opens_str Try.underlying9 (by kernel_rfl)) (hval 1 22 v1 rfl rfl) h1 (fun x hx => by simp [hx]) hfz
  refine (calls_true (splitTells_law s0 s1) Try.func3 (by kernel_rfl)).mono fun e W' ⟨he, hk⟩ => ?_
  subst he
  exact ⟨_, rfl, post_true splitTells_laid hW' (by kernel_rfl) rfl rfl rfl Try.underlying4 hk⟩

theorem splitTells_holds : Rows.SplitTellsSaid :=
  OpenClaim.holds_of_wide 3 Try.f3 rfl rfl rfl rfl rfl rfl rfl ⟨rfl, rfl, rfl, rfl, rfl⟩ rfl rfl rfl rfl rfl (by kernel_rfl) Try.func3 (by kernel_rfl)
    (of_decide_eq_true (by kernel_rfl)) (by unfold Func.isWrapper; first | (rw [if_pos (by decide +kernel)]; kernel_rfl) | (rw [if_neg (by decide +kernel)]; exact ⟨rfl, rfl⟩))
    (fun os started H enc _ => splitTells_lifted os started H enc)

end Go.Proofs.Ytjfohhgmapipnaa
