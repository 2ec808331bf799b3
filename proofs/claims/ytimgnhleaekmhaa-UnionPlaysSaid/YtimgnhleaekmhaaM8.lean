/- For every input MatchLongest returns true, and what came in reads as it did: no condition. -/
import Derived.Test.YtimgnhleaekmhaaM7
namespace Go.Proofs.Ytimgnhleaekmhaa
open Go.V
open Go.ChangeShapes Go.WideShapes Go.ChangeAt Go.RowKit
section
variable {a b : List ByteArray}
theorem Gr.isM {i k : Nat} {r : List (Int × Int)} (h : Gr a b i k r) : ∀ u : Int × Int, u.1 < i → u.2 < k → isM a b u r = true := by
  induction h with
  | nil _ => intro u _ _; rfl
  | @cons i k p q r h1 h2 hm hl hr ih =>
    intro u hu hv
    rw [Go.Proofs.Ytimgnhleaekmhaa.isM, ih (p, q) (by show (p : Int) < _; omega) (by show (q : Int) < _; omega), Bool.and_true]
    have m1 := hm.1
    have m2 := hm.2.1
    exact decide_eq_true ⟨by show u.1 < (p : Int); omega, by show u.2 < (q : Int); omega, by show (p : Int) < _; omega, by show (q : Int) < _; omega, by simpa using hm.2.2.1⟩

theorem V_mono {i k i' k' : Nat} (hi : i ≤ i') (hk : k ≤ k') : V a b i' k' ≤ V a b i k := by
  have h1 : ∀ d, V a b (i + d) k ≤ V a b i k := fun d => by
    induction d with
    | zero => exact Nat.le_refl _
    | succ d ih => exact Nat.le_trans (V_down (i + d) k) ih
  have h2 : ∀ d, V a b i' (k + d) ≤ V a b i' k := fun d => by
    induction d with
    | zero => exact Nat.le_refl _
    | succ d ih => exact Nat.le_trans (V_right i' (k + d)) ih
  have e1 := h1 (i' - i)
  have e2 := h2 (k' - k)
  rw [show i + (i' - i) = i' by omega] at e1
  rw [show k + (k' - k) = k' by omega] at e2
  omega

theorem isM_len : ∀ (l : List (Int × Int)) (u : Int × Int), -1 ≤ u.1 → -1 ≤ u.2 → isM a b u l = true → l.length ≤ V a b (u.1 + 1).toNat (u.2 + 1).toNat
  | [], _, _, _, _ => Nat.zero_le _
  | p :: r, u, h1, h2, h => by
    rw [isM, Bool.and_eq_true, decide_eq_true_eq] at h
    obtain ⟨⟨o1, o2, o3, o4, o5⟩, hr⟩ := h
    have ih := isM_len r p (by omega) (by omega) hr
    have e1 : (p.1 + 1).toNat = p.1.toNat + 1 := by omega
    have e2 : (p.2 + 1).toNat = p.2.toNat + 1 := by omega
    rw [e1, e2] at ih
    have j1 : p.1.toNat < a.length := by omega
    have j2 : p.2.toNat < b.length := by omega
    rw [List.getElem?_eq_getElem j1, List.getElem?_eq_getElem j2] at o5
    have hat := V_at j1 j2
    rw [if_pos (Option.some.inj o5)] at hat
    have := @V_mono a b (u.1 + 1).toNat (u.2 + 1).toNat p.1.toNat p.2.toNat (by omega) (by omega)
    rw [List.length_cons]; omega
end

theorem matchLongest_law {xp yp lp : Option Addr} {xl xc yl yc ll lc : Nat} {x y : List Int} {l : List (Int × Int)} {H : Hp} (hx : Sl (Value.int .u8) H xp xl xc x) (bx : ∀ n ∈ x, (Lit.int .u8 n).wf = true) (hy : Sl (Value.int .u8) H yp yl yc y) (by' : ∀ n ∈ y, (Lit.int .u8 n).wf = true) (hl : Sn 2 pairC H lp ll lc l)
    (_ : ∀ n ∈ l, (Lit.int .i64 n.1).wf = true ∧ (Lit.int .i64 n.2).wf = true) : centolaw11_MatchLongest.C xp xl xc yp yl yc lp ll lc H fun r H' => r = true ∧ Le H H' := by
  apply centolaw11_MatchLongest.of
  have e1 := hx.len
  have e2 := hy.len
  have e3 := hl.len
  refine centolaw11_known.c fun H1 le1 => ?_
  refine bcn (fun h => by cases h) (fun _ => bcd (fun _ => ⟨rfl, le1⟩) fun h1 => bcd (fun _ => ⟨rfl, le1⟩) fun h2 => bcd (fun _ => ⟨rfl, le1⟩) fun h3 => ?_)
  refine centolaw11_texts.c (hx.le le1) (fun n hn => wf_u8 (bx n hn)) (by omega) fun ap al ac H2 ha le2 => centolaw11_texts.c (hy.le (le1.trans le2)) (fun n hn => wf_u8 (by' n hn)) (by omega) fun bp bl bc' H3 hb le3 => ?_
  have ha := ha.le le3
  have le13 := (le1.trans le2).trans le3
  have hl := hl.le le13
  have tk := V_take (a := x.map ltr) (b := y.map ltr) (by simp; omega) (by simp; omega)
  have c1 := lcs_le_left (x.map ltr) (y.map ltr)
  have c2 := lcs_le_right (x.map ltr) (y.map ltr)
  have hal := ha.len
  have hbl := hb.len
  refine match_Longest.c ha hb fun p1 l1 cc r1 H4 g1 s1 le4 => match_Length.c (ha.le le4) (hb.le le4) fun H5 le5 => ?_
  have hlen := g1.length
  have hsl := s1.len
  unfold V at hlen
  simp only [List.drop_zero] at hlen
  rw [tk.1, tk.2] at g1 hlen ⊢
  simp only [List.length_map] at c1 c2 hal hbl
  refine bcd (fun h => absurd (by omega) h) (fun _ => ?_)
  have h45 := le4.trans le5
  refine match_Is.c (ha.le h45) (hb.le h45) (s1.le le5) (by omega) fun H6 le6 => ?_
  rw [tk.1, tk.2, g1.isM (-1, -1) (by decide) (by decide)]
  refine bcn (fun h => by cases h) (fun _ => ?_)
  have h46 := h45.trans le6
  refine match_Length.c (hb.le h46) (ha.le h46) fun H7 le7 => ?_
  rw [tk.1, tk.2, lcs_comm]
  refine bcd (fun h => absurd rfl h) (fun _ => bcd (fun h => ?_) (fun _ => ?_))
  · exfalso
    omega
  have h47 := h46.trans le7
  refine match_Is.c (ha.le h47) (hb.le h47) (hl.le h47) (by omega) fun H8 le8 => ?_
  have fin := (le13.trans h47).trans le8
  rw [tk.1, tk.2]
  refine bcn (fun _ => ⟨rfl, fin⟩) (fun h => ⟨?_, fin⟩)
  have := isM_len l (-1, -1) (by decide) (by decide) h
  have e : V (x.map ltr) (y.map ltr) ((-1 : Int) + 1).toNat ((-1 : Int) + 1).toNat = lcs (x.map ltr) (y.map ltr) := rfl
  rw [e] at this
  simp; omega

set_option maxRecDepth 100000 in
theorem matchLongest_lifted (os : Os) (started : os.Started) (H : Type) (enc : TypeId × Value → H) :
    ReturnsInHanded {} Try.checked os 4 .any (Rows.matchLongestSpec.pre6 enc Try.prog Try.f4 Rows.matchLongestRow.domain false) (Rows.matchLongestSpec.post enc Try.prog Try.f4 false true false false) := by
  refine returnsInHanded_of_change (C := Try.checked) Try.own started (by kernel_rfl) Try.func4
    (ChangeSpec.witness6 (enc := enc) (C := Try.checked) false ⟨#[], #[.slice Option.none 0 0, .slice Option.none 0 0, .slice Option.none 0 0], []⟩ 8 (by kernel_rfl) (by kernel_rfl) (by kernel_rfl) (by kernel_rfl)) ?_
  intro W base args ds gs before hval0 hW hcnd _
  have hval : ∀ (j : Nat) t v, Try.f4.params[j]? = some t → args[j]? = some v → Value.okWide Try.prog W .any base t v := hval0
  have hW' := hW
  obtain ⟨p, q, hA0, hV, rfl, hfz, hnd⟩ := hW
  have hA : DataW.TrodAll enc Try.prog W 0 (fun _ => true) true Try.f4.params.toList args.toList ds p := hA0
  rw [Try.params4] at hA hval
  obtain ⟨v0, v1, v2, d0, d1, d2, p0, p1, p2, rfl, rfl, rfl, h0, h1, h2⟩ := trodAll_three hA
  obtain ⟨q0, l0, c0, x0, rfl, s0, _, w0⟩ := open_slI Try.underlying22 Try.underlying5 (by kernel_rfl) (hval 0 22 v0 rfl rfl) h0 (fun x hx => by simp [hx]) hfz
  obtain ⟨q1, l1, c1, x1, rfl, s1, _, w1⟩ := open_slI Try.underlying22 Try.underlying5 (by kernel_rfl) (hval 1 22 v1 rfl rfl) h1 (fun x hx => by simp [hx]) hfz
  obtain ⟨q2, l2, c2, x2, rfl, s2, _, w2⟩ := open_snP Try.underlying23 Try.underlying33 (by kernel_rfl) rfl rfl rfl rfl Try.underlying3 (by kernel_rfl) (hval 2 23 v2 rfl rfl) h2 (fun x hx => by simp [hx]) hfz
  refine (calls_true (CallH.true (matchLongest_law s0 w0 s1 w1 s2 w2))).mono fun e W' ⟨he, hk⟩ => ?_
  subst he
  exact ⟨_, rfl, post_true Try.laidOut hW' (by kernel_rfl) rfl rfl rfl Try.underlying4 hk⟩

theorem matchLongest_holds : Rows.MatchLongestSaid :=
  OpenClaim.holds_of_wide 4 Try.f4 rfl rfl rfl rfl rfl rfl rfl ⟨rfl, rfl, rfl, rfl, rfl⟩ rfl rfl rfl rfl rfl (by kernel_rfl) Try.func4 (by kernel_rfl)
    (of_decide_eq_true (by kernel_rfl)) (by unfold Func.isWrapper; first | (rw [if_pos (by decide +kernel)]; kernel_rfl) | (rw [if_neg (by decide +kernel)]; exact ⟨rfl, rfl⟩))
    (fun os started H enc _ => matchLongest_lifted os started H enc)
end Go.Proofs.Ytimgnhleaekmhaa
