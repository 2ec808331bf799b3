/- For every input MatchFirst returns true, and what came in reads as it did: no condition. -/
import Derived.Test.YtimgnhleaekmhaaM8
namespace Go.Proofs.Ytimgnhleaekmhaa
open Go.V
open Go.ChangeShapes Go.WideShapes Go.ChangeAt Go.RowKit
/-- A loop that puts the same text behind a row, from i0 up to n. -/
theorem strs_loop {A H : Hp} {i0 n : Int} {p0 : Option Addr} {l0 c0 : Nat} {ys : List ByteArray} {s : ByteArray} {REST : Option Addr → Nat → Nat → Int → Hp → Prop}
    (hB : Buf 1 A H p0 l0 c0 (ys.map Value.string)) (hA : Le A H) (hi : 0 ≤ i0) (hn : n ≤ 1000) (hl : ys.length ≤ 1000) (hin : i0 ≤ n)
    (hR : ∀ p l c H', Buf 1 A H' p l c ((ys ++ List.replicate (n - i0).toNat s).map Value.string) → Le A H' → REST p l c n H') :
    ∃ (I : Option Addr → Nat → Nat → Int → Hp → Prop) (mu : Option Addr → Nat → Nat → Int → Hp → Nat), I p0 l0 c0 i0 H ∧ ∀ (p : Option Addr) (l c : Nat) (i : Int) (H1 : Hp), I p l c i H1 →
      bc (decide (i < n)) (NEW H1 [.string s] fun b H2 => APP H2 te_string p l c (.slice (some ⟨b, 0, Option.none⟩) 1 1) fun p' l' c' H3 => CHK .i64 (i + (1 : Int)) fun x => I p' l' c' x H3 ∧ mu p' l' c' x H3 < mu p l c i H1) (REST p l c i H1) := by
  refine ⟨fun p l c i H' => ∃ d : Nat, i = i0 + d ∧ i ≤ n ∧ Le A H' ∧ Buf 1 A H' p l c ((ys ++ List.replicate d s).map Value.string), fun _ _ _ i _ => (n - i).toNat, ⟨0, by omega, hin, hA, by simpa using hB⟩, ?_⟩
  rintro p l c i H1 ⟨d, rfl, hd, hA1, hB1⟩
  have hlen : l = ys.length + d := by have := hB1.1; simpa using this
  refine bcd (fun h => ?_) (fun h => ?_)
  · refine Buf.app1 hB1 hA1 rfl (by decide) rfl (by decide) rfl rfl (by simp [te_string]; omega) fun p' c' H' hB2 hA2 _ => ?_
    refine chk (by omega) ⟨⟨d + 1, by omega, by omega, hA2, ?_⟩, by first | omega | (dsimp only; omega)⟩
    rw [List.replicate_succ', ← List.append_assoc]
    simpa using hB2
  · have e : i0 + d = n := by omega
    have e' : (n - i0).toNat = d := by omega
    rw [e'] at hR
    rw [e]
    exact hR _ _ _ _ hB1 hA1

section
variable {a b : List ByteArray}
theorem lcs_rep (s : ByteArray) : ∀ m n, lcs (List.replicate m s) (List.replicate n s) = min m n
  | 0, n => by simp [lcs]
  | m + 1, 0 => by rw [List.replicate_zero, lcs_nil]; simp
  | m + 1, n + 1 => by rw [List.replicate_succ, List.replicate_succ, lcs, if_pos rfl, lcs_rep s m n]; omega

/-- The pairs (p + j, q + j), d of them. -/
def diag (p q d : Nat) : List (Int × Int) := (List.range d).map fun j => (((p + j : Nat) : Int), ((q + j : Nat) : Int))
theorem diag_succ (p q d : Nat) : diag p q (d + 1) = ((p : Int), (q : Int)) :: diag (p + 1) (q + 1) d := by
  unfold diag
  rw [List.range_succ_eq_map, List.map_cons, List.map_map]
  congr 1
  apply List.map_congr_left
  intro j _
  simp only [Function.comp, Nat.succ_eq_add_one]
  congr 2 <;> omega

/-- Where all that is left stands in a row. -/
theorem Gr.diag : ∀ (d p q : Nat), (∀ j, j < d → p + j < a.length ∧ q + j < b.length ∧ a[p + j]? = b[q + j]?) → (∀ j, j ≤ d → V a b (p + j) (q + j) = d - j) → Gr a b p q (Go.Proofs.Ytimgnhleaekmhaa.diag p q d)
  | 0, p, q, _, hv => .nil (by simpa using hv 0 (by omega))
  | d + 1, p, q, h, hv => by
    rw [diag_succ]
    have h0 := h 0 (by omega)
    have v0 := hv 0 (by omega)
    have v1 := hv 1 (by omega)
    simp only [Nat.add_zero] at h0 v0
    refine .cons (Nat.le_refl _) (Nat.le_refl _) ⟨h0.1, h0.2.1, h0.2.2, by omega⟩ (fun p' q' h1 h2 h3 => by omega) (Gr.diag d (p + 1) (q + 1) (fun j hj => ?_) (fun j hj => ?_))
    · have := h (j + 1) (by omega)
      rwa [show p + (j + 1) = p + 1 + j by omega, show q + (j + 1) = q + 1 + j by omega] at this
    · have := hv (j + 1) (by omega)
      rw [show p + (j + 1) = p + 1 + j by omega, show q + (j + 1) = q + 1 + j by omega] at this
      omega
end

theorem matchFirst_law {n m : Int} {H : Hp} (wn : (Lit.int .u8 n).wf = true) (wm : (Lit.int .u8 m).wf = true) : centolaw11_MatchFirst.C n m H fun r H' => r = true ∧ Le H H' := by
  apply centolaw11_MatchFirst.of
  have bn := wf_u8 wn
  have bm := wf_u8 wm
  refine centolaw11_known.c fun H1 le1 => ?_
  refine bcn (fun h => by cases h) (fun _ => ?_)
  rw [Int.tmod_eq_emod_of_nonneg bn.1, Int.tmod_eq_emod_of_nonneg bm.1]
  refine ⟨by decide, chk (by omega) (chk (by omega) ⟨by decide, chk (by omega) (chk (by omega) ?_)⟩)⟩
  obtain ⟨x, hx⟩ : ∃ x : Nat, n % 20 + 1 = x := ⟨(n % 20 + 1).toNat, by omega⟩
  obtain ⟨y, hy⟩ : ∃ y : Nat, m % 20 + 1 = y := ⟨(m % 20 + 1).toNat, by omega⟩
  rw [hx, hy]
  refine strs_loop (ys := []) Buf.none (Le.refl _) (by omega) (by omega) (by simp) (by omega) fun ap al ac H2 ha le2 => ?_
  refine strs_loop (ys := []) Buf.none (Le.refl _) (by omega) (by omega) (by simp) (by omega) fun bp bl bc' H3 hb le3 => ?_
  have ex : ((x : Int) - 0).toNat = x := by omega
  have ey : ((y : Int) - 0).toNat = y := by omega
  rw [ex, List.nil_append] at ha
  rw [ey, List.nil_append] at hb
  have tk := V_take (a := List.replicate x (bs [120])) (b := List.replicate y (bs [120])) (by simp; omega) (by simp; omega)
  refine match_Longest.c (ha.sl.le le3) hb.sl fun p l c r H4 g s le4 => ?_
  rw [tk.1, tk.2] at g
  have hg : Gr (List.replicate x (bs [120])) (List.replicate y (bs [120])) 0 0 (diag 0 0 (min x y)) := by
    refine Gr.diag _ _ _ (fun j hj => ⟨by simp; omega, by simp; omega, ?_⟩) (fun j hj => ?_)
    · rw [List.getElem?_replicate, List.getElem?_replicate, if_pos (by omega), if_pos (by omega)]
    · unfold V
      rw [List.drop_replicate, List.drop_replicate, lcs_rep]
      omega
  obtain rfl := g.uniq hg
  have hlen : l = min x y := by rw [s.len]; simp [diag]
  have fin := ((le1.trans le2).trans le3).trans le4
  refine ⟨fun i H' => ∃ i' : Nat, i = i' ∧ i' ≤ l ∧ H4 = H', fun i _ => (l - i).toNat, ⟨0, rfl, by omega, rfl⟩, ?_⟩
  rintro i _ ⟨i, rfl, hi, rfl⟩
  refine bcd (fun h => ?_) (fun h => ?_)
  · refine snP s (by omega) (by omega) fun hj => ?_
    have e : (diag 0 0 (min x y))[((i : Int)).toNat] = ((i : Int), (i : Int)) := by simp [diag]
    rw [e]
    refine bcn (fun h => by simp at h) (fun _ => chk (by omega) ⟨⟨i + 1, by omega, by omega, rfl⟩, by first | omega | (dsimp only; omega)⟩)
  · exact ⟨by rw [hlen]; simp; omega, fin⟩

set_option maxRecDepth 100000 in
theorem matchFirst_lifted (os : Os) (started : os.Started) (H : Type) (enc : TypeId × Value → H) :
    ReturnsInHanded {} Try.checked os 7 .any (Rows.matchFirstSpec.pre6 enc Try.prog Try.f7 Rows.matchFirstRow.domain false) (Rows.matchFirstSpec.post enc Try.prog Try.f7 false true false false) := by
  refine returnsInHanded_of_change (C := Try.checked) Try.own started (by kernel_rfl) Try.func7
    (ChangeSpec.witness6 (enc := enc) (C := Try.checked) false ⟨#[], #[.int .u8 0, .int .u8 0], []⟩ 8 (by kernel_rfl) (by kernel_rfl) (by kernel_rfl) (by kernel_rfl)) ?_
  intro W base args ds gs before hval0 hW hcnd _
  have hval : ∀ (j : Nat) t v, Try.f7.params[j]? = some t → args[j]? = some v → Value.okWide Try.prog W .any base t v := hval0
  have hW' := hW
  obtain ⟨p, q, hA0, hV, rfl, hfz, hnd⟩ := hW
  have hA : DataW.TrodAll enc Try.prog W 0 (fun _ => true) true Try.f7.params.toList args.toList ds p := hA0
  rw [Try.params7] at hA hval
  obtain ⟨v0, v1, d0, d1, p0, p1, rfl, rfl, rfl, h0, h1⟩ := trodAll_two hA
  obtain ⟨x0, rfl, rfl, rfl, w0⟩ := open_int Try.underlying5 (hval 0 5 v0 rfl rfl) h0
  obtain ⟨x1, rfl, rfl, rfl, w1⟩ := open_int Try.underlying5 (hval 1 5 v1 rfl rfl) h1
  refine (calls_true (CallH.true (matchFirst_law w0 w1))).mono fun e W' ⟨he, hk⟩ => ?_
  subst he
  exact ⟨_, rfl, post_true Try.laidOut hW' (by kernel_rfl) rfl rfl rfl Try.underlying4 hk⟩

theorem matchFirst_holds : Rows.MatchFirstSaid :=
  OpenClaim.holds_of_wide 7 Try.f7 rfl rfl rfl rfl rfl rfl rfl ⟨rfl, rfl, rfl, rfl, rfl⟩ rfl rfl rfl rfl rfl (by kernel_rfl) Try.func7 (by kernel_rfl)
    (of_decide_eq_true (by kernel_rfl)) (by unfold Func.isWrapper; first | (rw [if_pos (by decide +kernel)]; kernel_rfl) | (rw [if_neg (by decide +kernel)]; exact ⟨rfl, rfl⟩))
    (fun os started H enc _ => matchFirst_lifted os started H enc)
end Go.Proofs.Ytimgnhleaekmhaa
