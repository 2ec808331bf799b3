/- For every input SlotsOff returns true, and what came in reads as it did: no condition. -/
import Derived.Test.YtjfohhgmapipnaaN7
import Derived.Test.YtjfohhgmapipnaaVcLift
import Derived.Test.YtjfohhgmapipnaaVcOpen
import Derived.Test.YtjfohhgmapipnaaRows
namespace Go.Proofs.Ytjfohhgmapipnaa
open Go.V
open Go.ChangeShapes Go.WideShapes Go.ChangeAt Go.RowKit
theorem slotsOff_law {a b : ByteArray} {keep : Int} {H : Hp} (_ : a.size ≤ maxLen) (_ : b.size ≤ maxLen) (wk : (Lit.int .u64 keep).wf = true) : centolaw20_SlotsOff.C a b keep H fun r H' => r = true ∧ Le H H' := by
  apply centolaw20_SlotsOff.of
  have bk : 0 ≤ keep ∧ keep ≤ 18446744073709551615 := by
    simp [Lit.wf, IntKind.min, IntKind.max, IntKind.signed, IntKind.bits] at wk; omega
  obtain ⟨kp, rfl⟩ : ∃ kp : Nat, keep = kp := ⟨keep.toNat, by omega⟩
  obtain ⟨a, rfl⟩ : ∃ l, a = mkB l := ⟨L a, rfl⟩
  obtain ⟨b, rfl⟩ : ∃ l, b = mkB l := ⟨L b, rfl⟩
  refine centolaw20_known.c fun H0 le0 => ?_
  refine bcn (fun h => by cases h) fun _ => bcd (fun _ => ⟨rfl, le0⟩) fun la => bcd (fun _ => ⟨rfl, le0⟩) fun lb => ?_
  rw [mkB_size] at la lb
  unfold centolaw20_SlotsOff.k1
  refine sector_New.c fun H1 d O1 h1 le1 o1 => ?_
  have o1' : ∀ x ∈ O1, H x = none := fun x hx => none_of_le le0 (o1 x hx)
  have v1 : Holds (DS.new (60 : Int)) 60 0 none := Holds.new (n := 60) (by decide)
  have f1 : (DS.new (60 : Int)).left = none := rfl
  have n1 : (DS.new (60 : Int)).n = 0 := rfl
  generalize DS.new (60 : Int) = s1 at *
  have hr : roomN 60 = 1856 := rfl
  refine slots_Save.h h1 (le0.trans le1) o1' v1 (by omega) (by decide) (by omega) fun e H2 O2 s2 t2 p2 => ?_
  have ee := p2.ok f1
  subst ee
  have v2 := p2.done rfl
  have n2 := p2.n
  refine bcd (fun h => absurd rfl h) fun _ => ?_
  refine sector_Disk_Limit.c t2.dk (by decide) fun H3 h3 m3 => ?_
  have le3 := m3.le t2.le (by simpa using t2.fr d t2.dk.hd)
  have v3 : Holds (s2.limit 0) 60 1 (some a) := v2.as rfl v2.w
  have n3 : (s2.limit 0).n = s2.n := rfl
  have e3 : ¬ (s2.limit 0).on := fun h => h rfl
  generalize s2.limit 0 = s3 at *
  have l3 := v3.len
  refine slots_Save.off h3 (by omega) (by omega) (by omega) (by rw [l3]; omega) e3 fun H4 O4 h4 m4 g4 => ?_
  have le4 := m4.le le3 t2.fr
  have o4 := own_grow le3 t2.fr g4
  refine slots_Load.off h4 (by rw [v3.w]; exact Nat.zero_le _) (by omega) e3 fun H5 le5 => ?_
  refine sector_Disk_Crash.c (h4.le le5) (by rw [v3.w]; exact Nat.zero_le _) (by omega) fun H6 O6 h6 m6 g6 => ?_
  have le6 := m6.le (le4.trans le5) o4
  refine slots_Load.h h6 (v3.crash kp) (on_none rfl) (fun h => by cases h) (fun b hb H7 le7 => ?_)
  cases hb
  refine bcd (fun _ => bcd (fun _ => bcd (fun _ => ?_) fun h => absurd rfl h) fun h => absurd rfl h) fun h => absurd rfl h
  exact ⟨decide_eq_true rfl, le6.trans le7⟩


theorem slotsOff_own : ownKnob Try.prog.godebug = none := by kernel_rfl
theorem slotsOff_laid : laidOutB Try.prog = true := by kernel_rfl
set_option maxRecDepth 100000 in
theorem slotsOff_lifted (os : Os) (started : os.Started) (H : Type) (enc : TypeId × Value → H) :
    ReturnsInHanded {} Try.checked os 13 .any (Rows.slotsOffSpec.pre6 enc Try.prog Try.f13 Rows.slotsOffRow.domain false) (Rows.slotsOffSpec.post enc Try.prog Try.f13 false true false false) := by
  refine returnsInHanded_of_change (C := Try.checked) slotsOff_own started (by kernel_rfl) Try.func13
    (ChangeSpec.witness6 (enc := enc) (C := Try.checked) false ⟨#[], #[.string .empty, .string .empty, .int .u64 0], []⟩ 8 (by kernel_rfl) (by kernel_rfl) (by kernel_rfl) (by kernel_rfl)) ?_
  intro W base args ds gs before hval0 hW hcnd _
  have hval : ∀ (j : Nat) t v, Try.f13.params[j]? = some t → args[j]? = some v → Value.okWide Try.prog W .any base t v := hval0
  have hW' := hW
  obtain ⟨p, q, hA0, hV, rfl, hfz, hnd⟩ := hW
  have hA : DataW.TrodAll enc Try.prog W 0 (fun _ => true) true Try.f13.params.toList args.toList ds p := hA0
  rw [Try.params13] at hA hval
  obtain ⟨v0, v1, v2, d0, d1, d2, p0, p1, p2, rfl, rfl, rfl, h0, h1, h2⟩ := trodAll_three hA
  obtain ⟨x0, rfl, rfl, rfl, s0⟩ := Go.ChangeMaps.open_string Try.underlying9 (hval 0 9 v0 rfl rfl) h0
  obtain ⟨x1, rfl, rfl, rfl, s1⟩ := Go.ChangeMaps.open_string Try.underlying9 (hval 1 9 v1 rfl rfl) h1
  obtain ⟨x2, rfl, rfl, rfl, w2⟩ := open_int Try.underlying33 (hval 2 33 v2 rfl rfl) h2
  refine (calls_true (slotsOff_law s0 s1 w2) Try.func13 (by kernel_rfl)).mono fun e W' ⟨he, hk⟩ => ?_
  subst he
  exact ⟨_, rfl, post_true slotsOff_laid hW' (by kernel_rfl) rfl rfl rfl Try.underlying4 hk⟩

theorem slotsOff_holds : Rows.SlotsOffSaid :=
  OpenClaim.holds_of_wide 13 Try.f13 rfl rfl rfl rfl rfl rfl rfl ⟨rfl, rfl, rfl, rfl, rfl⟩ rfl rfl rfl rfl rfl (by kernel_rfl) Try.func13 (by kernel_rfl)
    (of_decide_eq_true (by kernel_rfl)) (by unfold Func.isWrapper; first | (rw [if_pos (by decide +kernel)]; kernel_rfl) | (rw [if_neg (by decide +kernel)]; exact ⟨rfl, rfl⟩))
    (fun os started H enc _ => slotsOff_lifted os started H enc)

end Go.Proofs.Ytjfohhgmapipnaa
