/- For every input SlotsAgain returns true, and what came in reads as it did: no condition. -/
import Derived.Test.YtjfohhgmapipnaaN7
import Derived.Test.YtjfohhgmapipnaaVcLift
import Derived.Test.YtjfohhgmapipnaaVcOpen
import Derived.Test.YtjfohhgmapipnaaRows
namespace Go.Proofs.Ytjfohhgmapipnaa
open Go.V
open Go.ChangeShapes Go.WideShapes Go.ChangeAt Go.RowKit
theorem trodAll_six {H : Type} {enc : TypeId × Value → H} {P : Program} {w : World} {base : Nat} {spare : Nat → Bool} {held : Bool} {t0 t1 t2 t3 t4 t5 : TypeId} {args : Array Value} {ds : List (DataW H)} {ps : List MemPlace} (h : DataW.TrodAll enc P w base spare held [t0, t1, t2, t3, t4, t5] args.toList ds ps) :
    ∃ v0 v1 v2 v3 v4 v5 d0 d1 d2 d3 d4 d5 p0 p1 p2 p3 p4 p5, args = #[v0, v1, v2, v3, v4, v5] ∧ ds = [d0, d1, d2, d3, d4, d5] ∧ ps = p0 ++ p1 ++ p2 ++ p3 ++ p4 ++ p5 ∧ DataW.Trod enc P w base spare held t0 v0 d0 p0 ∧ DataW.Trod enc P w base spare held t1 v1 d1 p1 ∧ DataW.Trod enc P w base spare held t2 v2 d2 p2 ∧ DataW.Trod enc P w base spare held t3 v3 d3 p3 ∧ DataW.Trod enc P w base spare held t4 v4 d4 p4 ∧ DataW.Trod enc P w base spare held t5 v5 d5 p5 := by
  obtain ⟨v0, vs, d0, ds0, p0, q0, hargs, rfl, rfl, h0, r0⟩ := trodAll_cons h
  obtain ⟨v1, vs1, d1, ds1, p1, q1, rfl, rfl, rfl, h1, r1⟩ := trodAll_cons r0
  obtain ⟨v2, vs2, d2, ds2, p2, q2, rfl, rfl, rfl, h2, r2⟩ := trodAll_cons r1
  obtain ⟨v3, vs3, d3, ds3, p3, q3, rfl, rfl, rfl, h3, r3⟩ := trodAll_cons r2
  obtain ⟨v4, vs4, d4, ds4, p4, q4, rfl, rfl, rfl, h4, r4⟩ := trodAll_cons r3
  obtain ⟨v5, vs5, d5, ds5, p5, q5, rfl, rfl, rfl, h5, r5⟩ := trodAll_cons r4
  obtain ⟨rfl, rfl, rfl⟩ := trodAll_nil r5
  exact ⟨v0, v1, v2, v3, v4, v5, d0, d1, d2, d3, d4, d5, p0, p1, p2, p3, p4, p5, by cases args; simp_all, rfl, by simp, h0, h1, h2, h3, h4, h5⟩
theorem decB {a b : BL} : (mkB a = mkB b) ↔ a = b := ⟨fun h => congrArg L h, fun h => by rw [h]⟩
theorem slotsAgain_law {a b : ByteArray} {f1 f2 x y : Int} {H : Hp} (_ : a.size ≤ maxLen) (_ : b.size ≤ maxLen) (w1 : (Lit.int .u8 f1).wf = true) (w2 : (Lit.int .u8 f2).wf = true) (wx : (Lit.int .u64 x).wf = true) (wy : (Lit.int .u64 y).wf = true) : centolaw20_SlotsAgain.C a b f1 f2 x y H fun r H' => r = true ∧ Le H H' := by
  apply centolaw20_SlotsAgain.of
  have b1 := wf_u8 w1
  have b2 := wf_u8 w2
  have bx : 0 ≤ x ∧ x ≤ 18446744073709551615 := by
    simp [Lit.wf, IntKind.min, IntKind.max, IntKind.signed, IntKind.bits] at wx; omega
  have bye : 0 ≤ y ∧ y ≤ 18446744073709551615 := by
    simp [Lit.wf, IntKind.min, IntKind.max, IntKind.signed, IntKind.bits] at wy; omega
  obtain ⟨x, rfl⟩ : ∃ k : Nat, x = k := ⟨x.toNat, by omega⟩
  obtain ⟨y, rfl⟩ : ∃ k : Nat, y = k := ⟨y.toNat, by omega⟩
  obtain ⟨f1, rfl⟩ : ∃ k : Nat, f1 = k := ⟨f1.toNat, by omega⟩
  obtain ⟨f2, rfl⟩ : ∃ k : Nat, f2 = k := ⟨f2.toNat, by omega⟩
  obtain ⟨a, rfl⟩ : ∃ l, a = mkB l := ⟨L a, rfl⟩
  obtain ⟨b, rfl⟩ : ∃ l, b = mkB l := ⟨L b, rfl⟩
  refine centolaw20_known.c fun H0 le0 => ?_
  refine bcn (fun h => by cases h) fun _ => bcd (fun _ => ⟨rfl, le0⟩) fun la => bcd (fun _ => ⟨rfl, le0⟩) fun lb => bcd (fun _ => ⟨rfl, le0⟩) fun hab => ?_
  rw [mkB_size] at la lb
  unfold centolaw20_SlotsAgain.k1
  refine sector_New.c fun H1 d O1 h1 le1 o1 => ?_
  have o1' : ∀ x ∈ O1, H x = none := fun x hx => none_of_le le0 (o1 x hx)
  have v1 : Holds (DS.new (60 : Int)) 60 0 none := Holds.new (n := 60) (by decide)
  have l1 : (DS.new (60 : Int)).left = none := rfl
  have n1 : (DS.new (60 : Int)).n = 0 := rfl
  generalize DS.new (60 : Int) = s1 at *
  have hr : roomN 60 = 1856 := rfl
  refine slots_Save.h (b := [98, 101, 103, 105, 110]) h1 (le0.trans le1) o1' v1 (by omega) (by decide) (by decide) fun e H2 O2 s2 t2 p2 => ?_
  have ee := p2.ok l1
  subst ee
  have v2 := p2.done rfl
  have n2 := p2.n
  refine bcd (fun h => absurd rfl h) fun _ => ⟨by decide, ?_⟩
  rw [show (30 : Int) = ((30 : Nat) : Int) from rfl, ← Int.ofNat_tmod]
  have hm1 : f1 % 30 < 30 := Nat.mod_lt _ (by decide)
  generalize f1 % 30 = g1 at hm1
  refine chk (by omega) ?_
  -- a save, torn or not, and the loss of power
  have trial : ∀ {Hq : Hp} {O : List Nat} {s : DS} {m : Nat} {w b : BL} {g kp : Nat} {r : Value → Prop} {K : ByteArray → Int → Int → Hp → Prop}, Dk Hq d O s → Le H Hq → (∀ x ∈ O, H x = none) → Holds s 60 m (some w) → m ≤ 100 → s.n ≤ 100000 → b.length ≤ 600 → g < 30 → kp < 18446744073709551616 →
      (∀ e w' H' O' s', Dk H' d O' s' → Le H H' → (∀ x ∈ O', H x = none) → Holds s' 60 (m + 1) (some w') → s'.left = none → s'.n ≤ s.n + 1000 → (w' = b ∨ w' = w ∧ e ≠ 0) → K (mkB w') 0 e H') →
      sector_Disk_Limit.C (some ⟨d, 0, none⟩) (g : Nat) Hq fun H1 => slots_Save.C (some ⟨d, 0, none⟩) (mkB b) H1 fun e H2 => sector_Disk_Crash.C (some ⟨d, 0, none⟩) (kp : Nat) H2 fun H3 => slots_Load.C (some ⟨d, 0, none⟩) H3 fun t f H4 => K t f e H4 := by
    intro Hq O s m w b g kp r K hu hA hO hv hm hn hb hg hk hK
    refine sector_Disk_Limit.c hu (by omega) fun H1 h1 m1 => ?_
    have le1 := m1.le hA (by simpa using hO d hu.hd)
    have v1 : Holds (s.limit (g : Nat)) 60 m (some w) := hv.as rfl hv.w
    have n1 : (s.limit (g : Nat)).n = s.n := rfl
    generalize s.limit ((g : Nat) : Int) = s1 at *
    refine slots_Save.h h1 le1 hO v1 (by omega) (by omega) (by omega) fun e H2 O2 s2 t2 p2 => ?_
    have n2 := p2.n
    refine sector_Disk_Crash.c t2.dk (wn_of t2.dk (by omega)) hk fun H3 O3 h3 m3 g3 => ?_
    have le3 := m3.le t2.le t2.fr
    have o3 := own_grow t2.le t2.fr g3
    have fin : ∀ w', Holds (s2.crash kp) 60 (m + 1) (some w') → (w' = b ∨ w' = w ∧ e ≠ 0) → slots_Load.C (some ⟨d, 0, none⟩) H3 fun t f H4 => K t f e H4 := by
      intro w' hw' hor
      refine slots_Load.h h3 hw' (on_none rfl) (fun h => by cases h) (fun b' hb' H4 le4 => ?_)
      cases hb'
      exact hK e w' H4 O3 _ (h3.le le4) (le3.trans le4) o3 hw' rfl (by show s2.n ≤ _; omega) hor
    by_cases he : e = 0
    · exact fin b ((p2.done he).crash kp) (.inl rfl)
    · rcases (p2.torn he).2.2.2 kp with hh | hh
      · exact fin b hh (.inl rfl)
      · exact fin w hh (.inr ⟨rfl, he⟩)
  refine trial (r := fun _ => True) t2.dk t2.le t2.fr v2 (by decide) (by rw [n1] at n2; simp at n2; omega) (by omega) hm1 (by omega) fun e w H3 O3 s3 h3 le3 o3 v3 l3 n3 hor => ?_
  refine bcd (fun h => absurd rfl h) fun _ => ?_
  have n2' : s2.n ≤ 100 := by rw [n1] at n2; simp at n2; omega
  have k3 : ∀ {Hq : Hp} {O : List Nat} {s : DS} {m : Nat} {w : BL}, Dk Hq d O s → Le H Hq → (∀ x ∈ O, H x = none) → Holds s 60 m (some w) → s.left = none → m ≤ 100 → s.n ≤ 100000 → centolaw20_SlotsAgain.k3 (fun r H' => r = true ∧ Le H H') (some ⟨d, 0, none⟩) Hq := by
    intro Hq O s m w hu hA hO hv hl hm hn
    unfold centolaw20_SlotsAgain.k3
    refine slots_Save.h (b := [101, 110, 100]) hu hA hO hv (by omega) (by omega) (by decide) fun e H2 O2 s2 t2 p2 => ?_
    have ee := p2.ok hl
    subst ee
    have v2 := p2.done rfl
    have l2 := v2.len
    refine bcd (fun _ => ?_) fun h => absurd rfl h
    refine slots_Room.c t2.dk (by omega) ?_
    rw [l2, hr]
    refine bcd (fun _ => ?_) fun h => absurd (by decide) h
    apply centolaw20_last.of
    refine slots_Load.h t2.dk v2 (on_none (p2.left hl)) (fun h => by cases h) (fun b hb H5 le5 => ?_)
    cases hb
    exact ⟨decide_eq_true rfl, t2.le.trans le5⟩
  have k2 : centolaw20_SlotsAgain.k2 (fun r H' => r = true ∧ Le H H') (mkB b) (some ⟨d, 0, none⟩) (mkB w) (f2 : Nat) (y : Nat) H3 := by
    unfold centolaw20_SlotsAgain.k2
    refine ⟨by decide, ?_⟩
    rw [show (30 : Int) = ((30 : Nat) : Int) from rfl, ← Int.ofNat_tmod]
    have hm2 : f2 % 30 < 30 := Nat.mod_lt _ (by decide)
    generalize f2 % 30 = g2 at hm2
    refine chk (by omega) ?_
    refine trial (r := fun _ => True) h3 le3 o3 v3 (by decide) (by omega) (by omega) hm2 (by omega) fun e' w' H4 O4 s4 h4 le4 o4 v4 l4 n4 hor' => ?_
    have kk := k3 h4 le4 o4 v4 l4 (by decide) (by omega)
    refine bcd (fun h => absurd rfl h) fun _ => bcd (fun hne => bcd (fun he => ?_) fun _ => bcd (fun hne' => ?_) fun _ => kk) fun _ => kk
    · rcases hor' with h | h
      · exact absurd (decB.2 h) hne
      · exact absurd he h.2
    · rcases hor' with h | h
      · exact absurd (decB.2 h) hne
      · exact absurd (decB.2 h.1) hne'
  refine bcd (fun hne => bcd (fun he => ?_) fun _ => bcd (fun hne' => ?_) fun _ => k2) fun _ => k2
  · rcases hor with h | h
    · exact absurd (decB.2 h) hne
    · exact absurd he h.2
  · rcases hor with h | h
    · exact absurd (decB.2 h) hne
    · exact absurd (decB.2 h.1) hne'


theorem slotsAgain_own : ownKnob Try.prog.godebug = none := by kernel_rfl
theorem slotsAgain_laid : laidOutB Try.prog = true := by kernel_rfl
set_option maxRecDepth 100000 in
theorem slotsAgain_lifted (os : Os) (started : os.Started) (H : Type) (enc : TypeId × Value → H) :
    ReturnsInHanded {} Try.checked os 12 .any (Rows.slotsAgainSpec.pre6 enc Try.prog Try.f12 Rows.slotsAgainRow.domain false) (Rows.slotsAgainSpec.post enc Try.prog Try.f12 false true false false) := by
  refine returnsInHanded_of_change (C := Try.checked) slotsAgain_own started (by kernel_rfl) Try.func12
    (ChangeSpec.witness6 (enc := enc) (C := Try.checked) false ⟨#[], #[.string .empty, .string .empty, .int .u8 0, .int .u8 0, .int .u64 0, .int .u64 0], []⟩ 8 (by kernel_rfl) (by kernel_rfl) (by kernel_rfl) (by kernel_rfl)) ?_
  intro W base args ds gs before hval0 hW hcnd _
  have hval : ∀ (j : Nat) t v, Try.f12.params[j]? = some t → args[j]? = some v → Value.okWide Try.prog W .any base t v := hval0
  have hW' := hW
  obtain ⟨p, q, hA0, hV, rfl, hfz, hnd⟩ := hW
  have hA : DataW.TrodAll enc Try.prog W 0 (fun _ => true) true Try.f12.params.toList args.toList ds p := hA0
  rw [Try.params12] at hA hval
  obtain ⟨v0, v1, v2, v3, v4, v5, d0, d1, d2, d3, d4, d5, p0, p1, p2, p3, p4, p5, rfl, rfl, rfl, h0, h1, h2, h3, h4, h5⟩ := trodAll_six hA
  obtain ⟨x0, rfl, rfl, rfl, s0⟩ := Go.ChangeMaps.open_string Try.underlying9 (hval 0 9 v0 rfl rfl) h0
  obtain ⟨x1, rfl, rfl, rfl, s1⟩ := Go.ChangeMaps.open_string Try.underlying9 (hval 1 9 v1 rfl rfl) h1
  obtain ⟨x2, rfl, rfl, rfl, w2⟩ := open_int Try.underlying5 (hval 2 5 v2 rfl rfl) h2
  obtain ⟨x3, rfl, rfl, rfl, w3⟩ := open_int Try.underlying5 (hval 3 5 v3 rfl rfl) h3
  obtain ⟨x4, rfl, rfl, rfl, w4⟩ := open_int Try.underlying33 (hval 4 33 v4 rfl rfl) h4
  obtain ⟨x5, rfl, rfl, rfl, w5⟩ := open_int Try.underlying33 (hval 5 33 v5 rfl rfl) h5
  refine (calls_true (slotsAgain_law s0 s1 w2 w3 w4 w5) Try.func12 (by kernel_rfl)).mono fun e W' ⟨he, hk⟩ => ?_
  subst he
  exact ⟨_, rfl, post_true slotsAgain_laid hW' (by kernel_rfl) rfl rfl rfl Try.underlying4 hk⟩

theorem slotsAgain_holds : Rows.SlotsAgainSaid :=
  OpenClaim.holds_of_wide 12 Try.f12 rfl rfl rfl rfl rfl rfl rfl ⟨rfl, rfl, rfl, rfl, rfl⟩ rfl rfl rfl rfl rfl (by kernel_rfl) Try.func12 (by kernel_rfl)
    (of_decide_eq_true (by kernel_rfl)) (by unfold Func.isWrapper; first | (rw [if_pos (by decide +kernel)]; kernel_rfl) | (rw [if_neg (by decide +kernel)]; exact ⟨rfl, rfl⟩))
    (fun os started H enc _ => slotsAgain_lifted os started H enc)

end Go.Proofs.Ytjfohhgmapipnaa
