/- For every input MatchTells returns true, and what came in reads as it did: no condition. -/
import Derived.Test.YtimgnhleaekmhaaM6
import Derived.Test.YtimgnhleaekmhaaVcLift
import Derived.Test.YtimgnhleaekmhaaRows
namespace Go.Proofs.Ytimgnhleaekmhaa
open Go.V
open Go.ChangeShapes Go.WideShapes Go.ChangeAt Go.RowKit

theorem Try.own : ownKnob Try.prog.godebug = Option.none := by kernel_rfl
theorem Try.laidOut : laidOutB Try.prog = true := by kernel_rfl

theorem wf_u8 {x : Int} (h : (Lit.int .u8 x).wf = true) : 0 ≤ x ∧ x ≤ 255 := by
  simp only [Lit.wf, Bool.and_eq_true, decide_eq_true_eq] at h
  exact h

theorem matchTells_law {xp yp lp : Option Addr} {xl xc yl yc ll lc : Nat} {x y : List Int} {l : List (Int × Int)} {H : Hp} (hx : Sl (Value.int .u8) H xp xl xc x) (bx : ∀ n ∈ x, (Lit.int .u8 n).wf = true) (hy : Sl (Value.int .u8) H yp yl yc y) (by' : ∀ n ∈ y, (Lit.int .u8 n).wf = true) (hl : Sn 2 pairC H lp ll lc l)
    (_ : ∀ n ∈ l, (Lit.int .i64 n.1).wf = true ∧ (Lit.int .i64 n.2).wf = true) : centolaw11_MatchTells.C xp xl xc yp yl yc lp ll lc H fun r H' => r = true ∧ Le H H' := by
  apply centolaw11_MatchTells.of
  have e1 := hx.len
  have e2 := hy.len
  have e3 := hl.len
  refine centolaw11_known.c fun H1 le1 => ?_
  refine bcn (fun h => by cases h) (fun _ => bcd (fun _ => ⟨rfl, le1⟩) fun h1 => bcd (fun _ => ⟨rfl, le1⟩) fun h2 => bcd (fun _ => ⟨rfl, le1⟩) fun h3 => ?_)
  refine centolaw11_texts.c (hx.le le1) (fun n hn => wf_u8 (bx n hn)) (by omega) fun ap al ac H2 ha le2 => centolaw11_texts.c (hy.le (le1.trans le2)) (fun n hn => wf_u8 (by' n hn)) (by omega) fun bp bl bc' H3 hb le3 => ?_
  have ha := ha.le le3
  have tk := V_take (a := x.map ltr) (b := y.map ltr) (by simp; omega) (by simp; omega)
  refine match_Longest.c ha hb fun p1 l1 c1 r1 H4 g1 s1 le4 => centoref10_Longest.c (ha.le le4) (hb.le le4) fun p2 l2 c2 r2 H5 g2 s2 le5 => ?_
  have hr := g1.uniq g2
  subst hr
  have hlen := g1.length
  have hvl := @V_le ((x.map ltr).take 200) ((y.map ltr).take 200) 0 0
  have h45 := le4.trans le5
  refine centolaw11_same.c (s1.le le5) s2 (by simp at hvl; omega) ?_
  refine bcd (fun _ => ?_) (fun h => absurd rfl h)
  refine match_Length.c (ha.le h45) (hb.le h45) fun H6 le6 => centoref10_Length.c (ha.le (h45.trans le6)) (hb.le (h45.trans le6)) fun H7 le7 => bcd (fun _ => ?_) (fun h => absurd rfl h)
  have h17 := ((le1.trans le2).trans le3).trans (((h45.trans le6).trans le7))
  refine match_Is.c (ha.le ((h45.trans le6).trans le7)) (hb.le ((h45.trans le6).trans le7)) (hl.le h17) (by omega) fun H8 le8 => centoref10_Is.c (ha.le (((h45.trans le6).trans le7).trans le8)) (hb.le (((h45.trans le6).trans le7).trans le8)) (hl.le (h17.trans le8)) (by omega) fun H9 le9 => ⟨?_, (h17.trans le8).trans le9⟩
  rw [tk.1, tk.2]; simp

set_option maxRecDepth 100000 in
theorem matchTells_lifted (os : Os) (started : os.Started) (H : Type) (enc : TypeId × Value → H) :
    ReturnsInHanded {} Try.checked os 3 .any (Rows.matchTellsSpec.pre6 enc Try.prog Try.f3 Rows.matchTellsRow.domain false) (Rows.matchTellsSpec.post enc Try.prog Try.f3 false true false false) := by
  refine returnsInHanded_of_change (C := Try.checked) Try.own started (by kernel_rfl) Try.func3
    (ChangeSpec.witness6 (enc := enc) (C := Try.checked) false ⟨#[], #[.slice Option.none 0 0, .slice Option.none 0 0, .slice Option.none 0 0], []⟩ 8 (by kernel_rfl) (by kernel_rfl) (by kernel_rfl) (by kernel_rfl)) ?_
  intro W base args ds gs before hval0 hW hcnd _
  have hval : ∀ (j : Nat) t v, Try.f3.params[j]? = some t → args[j]? = some v → Value.okWide Try.prog W .any base t v := hval0
  have hW' := hW
  obtain ⟨p, q, hA0, hV, rfl, hfz, hnd⟩ := hW
  have hA : DataW.TrodAll enc Try.prog W 0 (fun _ => true) true Try.f3.params.toList args.toList ds p := hA0
  rw [Try.params3] at hA hval
  obtain ⟨v0, v1, v2, d0, d1, d2, p0, p1, p2, rfl, rfl, rfl, h0, h1, h2⟩ := trodAll_three hA
  obtain ⟨q0, l0, c0, x0, rfl, s0, _, w0⟩ := open_slI Try.underlying22 Try.underlying5 (by kernel_rfl) (hval 0 22 v0 rfl rfl) h0 (fun x hx => by simp [hx]) hfz
  obtain ⟨q1, l1, c1, x1, rfl, s1, _, w1⟩ := open_slI Try.underlying22 Try.underlying5 (by kernel_rfl) (hval 1 22 v1 rfl rfl) h1 (fun x hx => by simp [hx]) hfz
  obtain ⟨q2, l2, c2, x2, rfl, s2, _, w2⟩ := open_snP Try.underlying23 Try.underlying33 (by kernel_rfl) rfl rfl rfl rfl Try.underlying3 (by kernel_rfl) (hval 2 23 v2 rfl rfl) h2 (fun x hx => by simp [hx]) hfz
  refine (calls_true (CallH.true (matchTells_law s0 w0 s1 w1 s2 w2))).mono fun e W' ⟨he, hk⟩ => ?_
  subst he
  exact ⟨_, rfl, post_true Try.laidOut hW' (by kernel_rfl) rfl rfl rfl Try.underlying4 hk⟩

theorem matchTells_holds : Rows.MatchTellsSaid :=
  OpenClaim.holds_of_wide 3 Try.f3 rfl rfl rfl rfl rfl rfl rfl ⟨rfl, rfl, rfl, rfl, rfl⟩ rfl rfl rfl rfl rfl (by kernel_rfl) Try.func3 (by kernel_rfl)
    (of_decide_eq_true (by kernel_rfl)) (by unfold Func.isWrapper; first | (rw [if_pos (by decide +kernel)]; kernel_rfl) | (rw [if_neg (by decide +kernel)]; exact ⟨rfl, rfl⟩))
    (fun os started H enc _ => matchTells_lifted os started H enc)
end Go.Proofs.Ytimgnhleaekmhaa
