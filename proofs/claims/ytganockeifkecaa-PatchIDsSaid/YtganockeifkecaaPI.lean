/- For every numbers PatchIDs returns true: no condition. -/
import Derived.Test.YtganockeifkecaaZ5
import Derived.Test.YtganockeifkecaaRows
namespace Go.Proofs.Ytganockeifkecaa
open Go.V
open Go.ChangeShapes Go.WideShapes Go.ChangeAt Go.RowKit
theorem patchIDs_law {a b c d : Int} {H : Hp} (wa : (Lit.int .u16 a).wf = true) (wb : (Lit.int .u16 b).wf = true) (wc : (Lit.int .u16 c).wf = true) (wd : (Lit.int .u16 d).wf = true) : centolaw12_PatchIDs.C a b c d H fun r H' => r = true ∧ Le H H' := by
  apply centolaw12_PatchIDs.of
  have ra : 0 ≤ a ∧ a ≤ 65535 := by simpa [Lit.wf, IntKind.min, IntKind.max, IntKind.signed, IntKind.bits] using wa
  have rb : 0 ≤ b ∧ b ≤ 65535 := by simpa [Lit.wf, IntKind.min, IntKind.max, IntKind.signed, IntKind.bits] using wb
  have rc : 0 ≤ c ∧ c ≤ 65535 := by simpa [Lit.wf, IntKind.min, IntKind.max, IntKind.signed, IntKind.bits] using wc
  have rd : 0 ≤ d ∧ d ≤ 65535 := by simpa [Lit.wf, IntKind.min, IntKind.max, IntKind.signed, IntKind.bits] using wd
  refine centolaw12_known.c fun H1 l1 => bcn (fun h => by cases h) fun _ => ?_
  refine chk (by omega) (chk (by omega) (patch_ID.c (chk (by omega) (chk (by omega) (patch_ID.c ?_)))))
  have hX : ((idN a b : Nat) : Int) = a * 65536 + b := by unfold idN; omega
  have hY : ((idN c d : Nat) : Int) = c * 65536 + d := by unfold idN; omega
  have hsh : ishr .u32 ((idN a b : Nat) : Int) (16 : Int) = a := by rw [ishr32]; omega
  have han : iand .u32 ((idN a b : Nat) : Int) (65535 : Int) = b := by rw [iand32 (by omega)]; omega
  rw [hsh, han, hX, hY]
  have cu : ∀ {e : Int} {F : Int → Prop}, 0 ≤ e ∧ e ≤ 65535 → F e → CHK .u32 e F := fun h hF => ⟨by show (0 : Int) ≤ _ ∧ _ ≤ (4294967295 : Int); omega, hF⟩
  refine bcd (fun h1 => bcd (fun _ => ⟨by decide, cu ra (bcd (fun _ => cu rb (bcd (fun _ => bcd (fun h5 => ⟨?_, l1⟩) fun h5 => bcd (fun h6 => ⟨?_, l1⟩) fun h6 => ⟨?_, l1⟩) fun h => absurd rfl h)) fun h => absurd rfl h)⟩) fun h2 => absurd ?_ h2) fun h1 => bcd (fun _ => ⟨by decide, cu ra (bcd (fun _ => cu rb (bcd (fun _ => bcd (fun h5 => ⟨?_, l1⟩) fun h5 => bcd (fun h6 => ⟨?_, l1⟩) fun h6 => ⟨?_, l1⟩) fun h => absurd rfl h)) fun h => absurd rfl h)⟩) fun h2 => absurd ?_ h2
  · rw [decide_eq_true_eq, decide_eq_true_eq]; omega
  · rw [decide_eq_true_eq]; exact decide_eq_decide.2 (by omega)
  · rw [decide_eq_true_eq, decide_eq_false_iff_not]; omega
  · exact decide_eq_decide.2 (by omega)
  · rw [decide_eq_true_eq, decide_eq_true_eq]; omega
  · rw [decide_eq_true_eq]; exact decide_eq_decide.2 (by omega)
  · rw [decide_eq_true_eq, decide_eq_false_iff_not]; omega
  · rw [decide_eq_false_iff_not]; omega

theorem patchIDs_own : ownKnob Try.prog.godebug = none := by kernel_rfl
theorem patchIDs_laid : laidOutB Try.prog = true := by kernel_rfl
set_option maxRecDepth 100000 in
theorem patchIDs_lifted (os : Os) (started : os.Started) (H : Type) (enc : TypeId × Value → H) :
    ReturnsInHanded {} Try.checked os 6 .any (Rows.patchIDsSpec.pre6 enc Try.prog Try.f6 Rows.patchIDsRow.domain false) (Rows.patchIDsSpec.post enc Try.prog Try.f6 false true false false) := by
  refine returnsInHanded_of_change (C := Try.checked) patchIDs_own started (by kernel_rfl) Try.func6
    (ChangeSpec.witness6 (enc := enc) (C := Try.checked) false ⟨#[], #[.int .u16 0, .int .u16 0, .int .u16 0, .int .u16 0], []⟩ 8 (by kernel_rfl) (by kernel_rfl) (by kernel_rfl) (by kernel_rfl)) ?_
  intro W base args ds gs before hval0 hW hcnd _
  have hval : ∀ (j : Nat) t v, Try.f6.params[j]? = some t → args[j]? = some v → Value.okWide Try.prog W .any base t v := hval0
  have hW' := hW
  obtain ⟨p, q, hA0, hV, rfl, hfz, hnd⟩ := hW
  have hA : DataW.TrodAll enc Try.prog W 0 (fun _ => true) true Try.f6.params.toList args.toList ds p := hA0
  rw [Try.params6] at hA hval
  obtain ⟨v0, v1, v2, v3, d0, d1, d2, d3, p0, p1, p2, p3, rfl, rfl, rfl, h0, h1, h2, h3⟩ := trodAll_four hA
  obtain ⟨x0, rfl, rfl, rfl, w0⟩ := open_int Try.underlying45 (hval 0 45 v0 rfl rfl) h0
  obtain ⟨x1, rfl, rfl, rfl, w1⟩ := open_int Try.underlying45 (hval 1 45 v1 rfl rfl) h1
  obtain ⟨x2, rfl, rfl, rfl, w2⟩ := open_int Try.underlying45 (hval 2 45 v2 rfl rfl) h2
  obtain ⟨x3, rfl, rfl, rfl, w3⟩ := open_int Try.underlying45 (hval 3 45 v3 rfl rfl) h3
  refine (calls_true (patchIDs_law w0 w1 w2 w3) Try.func6 (by kernel_rfl)).mono fun e W' ⟨he, hk⟩ => ?_
  subst he
  exact ⟨_, rfl, post_true patchIDs_laid hW' (by kernel_rfl) rfl rfl rfl Try.underlying4 hk⟩

theorem patchIDs_holds : Rows.PatchIDsSaid :=
  OpenClaim.holds_of_wide 6 Try.f6 rfl rfl rfl rfl rfl rfl rfl ⟨rfl, rfl, rfl, rfl, rfl⟩ rfl rfl rfl rfl rfl (by kernel_rfl) Try.func6 (by kernel_rfl)
    (of_decide_eq_true (by kernel_rfl)) (by unfold Func.isWrapper; first | (rw [if_pos (by decide +kernel)]; kernel_rfl) | (rw [if_neg (by decide +kernel)]; exact ⟨rfl, rfl⟩))
    (fun os started H enc _ => patchIDs_lifted os started H enc)

end Go.Proofs.Ytganockeifkecaa
