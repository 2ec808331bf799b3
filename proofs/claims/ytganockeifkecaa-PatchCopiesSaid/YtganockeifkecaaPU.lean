/- For every patch PatchCopies returns true, and what came in reads as it did: no condition. -/
import Derived.Test.YtganockeifkecaaZ5
import Derived.Test.YtganockeifkecaaRows
namespace Go.Proofs.Ytganockeifkecaa
open Go.V
open Go.ChangeShapes Go.WideShapes Go.ChangeAt Go.RowKit
theorem newZ {H : Hp} {F : Nat → Hp → Prop} (hF : ∀ q H', H q = none → D5 H' q 0 none 0 0 none 0 0 none 0 0 none 0 0 → Le H H' → F q H') : NEW H [.int .u32 (0 : Int), .slice none 0 0, .slice none 0 0, .slice none 0 0, .slice none 0 0] F :=
  fun q hq => hF q _ hq D5.new (Le.upd hq)
theorem okOne {H : Hp} {b : Nat} (h : H b ≠ none) : Ok H [some ⟨b, 0, none⟩] := ⟨by simp, fun q hq b' o e => by
  simp at hq; subst hq
  simp only [Option.some.injEq, Addr.mk.injEq] at e
  obtain ⟨rfl, _⟩ := e
  exact h⟩
theorem patchCopies_law {cs0 : List Value} {x0 : PtX} {H : Hp} (s0 : ptE.rep H cs0 x0) : CallH prog centolaw12_PatchCopies.num [.agg ⟨cs0⟩] H fun v H' => liftB v fun r => r = true ∧ Le H H' := by
  obtain ⟨dp, dl, dc, mp, ml, mc, qp, ql, qc, hp, hl, hc, rfl, h, hbd⟩ := ptE_rep s0
  clear s0
  revert h
  generalize toPt x0 = x
  generalize x0.1 = id
  intro h
  show centolaw12_PatchCopies.C id dp dl dc mp ml mc qp ql qc hp hl hc H fun r H' => r = true ∧ Le H H'
  apply centolaw12_PatchCopies.of
  intro b hb
  have l1 := Le.upd (c := [.int .u32 id, .slice dp dl dc, .slice mp ml mc, .slice qp ql qc, .slice hp hl hc]) hb
  have d := D5.new (H := H) (b := b) (id := id) (dp := dp) (dl := dl) (dc := dc) (mp := mp) (ml := ml) (mc := mc) (qp := qp) (ql := ql) (qc := qc) (hp := hp) (hl := hl) (hc := hc)
  revert l1 d
  generalize upd H b [.int .u32 id, .slice dp dl dc, .slice mp ml mc, .slice qp ql qc, .slice hp hl hc] = H1
  intro l1 d
  obtain ⟨rfl, hd, hm, hq, hh⟩ := h
  have hS : PtS H x.id dp dl dc mp ml mc qp ql qc hp hl hc x := ⟨rfl, hd, hm, hq, hh⟩
  refine centolaw12_known.c fun H2 l2 => bcn (fun h => by cases h) fun _ => ?_
  have d2 := d.le l2
  have l02 := l1.trans l2
  refine ldI_i d2.1 (ldL_i d2.2.1 (ldL_i d2.2.2.1 (ldL_i d2.2.2.2.1 (ldL_i d2.2.2.2.2 ?_))))
  refine centolaw12_few.c (hS.up l02) hbd fun H3 l3 => bcn (fun _ => ⟨rfl, l02.trans l3⟩) fun f => ?_
  have sm := fewB_sm f
  have d0 := d2.le l3
  have l03 := l02.trans l3
  have hS := hS.up l03
  clear d d2 l1 l2 l3 l02 hbd hd hm hq hh f
  have hK : ∀ H', Le H3 H' → (fun (r : Bool) (H' : Hp) => r = true ∧ Le H H') true H' := fun H' l' => ⟨rfl, l03.trans l'⟩
  refine ldI_i d0.1 (ldL_i d0.2.1 (ldL_i d0.2.2.1 (ldL_i d0.2.2.2.1 (ldL_i d0.2.2.2.2 ?_))))
  refine ldI_i d0.1 (ldL_i d0.2.1 (ldL_i d0.2.2.1 (ldL_i d0.2.2.2.1 (ldL_i d0.2.2.2.2 ?_))))
  have k0 := okOne d0.there
  have a0 : Le H3 H3 := Le.refl _
  refine ⟨?_, ?_, ?_⟩
  · refine patch_Copy.c (hS.up a0) sm fun p1 cp1 p2 cp2 p3 cp3 p4 cp4 zs H101 l101 o1 => ?_
    have a1 := a0.trans l101
    have d1 := d0.le a1
    have k1 := k0.own o1 l101
    refine ⟨d1.1, d1.2.1, d1.2.2.1, d1.2.2.2.1, d1.2.2.2.2, ?_, ?_, ?_⟩
    · refine patch_Copy.c (hS.up a1) sm fun r1 cr1 r2 cr2 r3 cr3 r4 cr4 ys H102 l102 o2 => ?_
      have a2 := a1.trans l102
      have d2 := d0.le a2
      have k2 := k1.own o2 l102
      have o201 := o1.up l102
      refine ⟨?_, ?_⟩
      · refine newZ fun bq H103 hbq z3 l103 => ?_
        have a3 := a2.trans l103
        have d3 := d0.le a3
        have k3 := k2.blk hbq l103 z3.there
        have nbq := none_of_le a2 hbq
        have o301 := o201.up l103
        have o302 := o2.up l103
        refine newZ fun br H104 hbr z4 l104 => ?_
        have a4 := a3.trans l104
        have d4 := d0.le a4
        have k4 := k3.blk hbr l104 z4.there
        have nbr := none_of_le a3 hbr
        have o401 := o301.up l104
        have o402 := o302.up l104
        have z403 := z3.le l104
        exact copies_fin (k4.perm (by
          refine List.perm_iff_count.2 fun a => ?_
          simp only [List.count_append, List.count_cons, List.count_nil]
          omega)) d0 z403 z4 o401 o402 hS sm a4 a0 nbq nbr hK
      · refine newZ fun br H105 hbr z5 l105 => ?_
        have a5 := a2.trans l105
        have d5 := d0.le a5
        have k5 := k2.blk hbr l105 z5.there
        have nbr := none_of_le a2 hbr
        have o501 := o201.up l105
        have o502 := o2.up l105
        refine newZ fun bq H106 hbq z6 l106 => ?_
        have a6 := a5.trans l106
        have d6 := d0.le a6
        have k6 := k5.blk hbq l106 z6.there
        have nbq := none_of_le a5 hbq
        have o601 := o501.up l106
        have o602 := o502.up l106
        have z605 := z5.le l106
        exact copies_fin (k6.perm (by
          refine List.perm_iff_count.2 fun a => ?_
          simp only [List.count_append, List.count_cons, List.count_nil]
          omega)) d0 z6 z605 o601 o602 hS sm a6 a0 nbq nbr hK
    · refine newZ fun bq H107 hbq z7 l107 => ?_
      have a7 := a1.trans l107
      have d7 := d0.le a7
      have k7 := k1.blk hbq l107 z7.there
      have nbq := none_of_le a1 hbq
      have o701 := o1.up l107
      refine ⟨d7.1, d7.2.1, d7.2.2.1, d7.2.2.2.1, d7.2.2.2.2, ?_, ?_⟩
      · refine patch_Copy.c (hS.up a7) sm fun r1 cr1 r2 cr2 r3 cr3 r4 cr4 ys H108 l108 o8 => ?_
        have a8 := a7.trans l108
        have d8 := d0.le a8
        have k8 := k7.own o8 l108
        have o801 := o701.up l108
        have z807 := z7.le l108
        refine newZ fun br H109 hbr z9 l109 => ?_
        have a9 := a8.trans l109
        have d9 := d0.le a9
        have k9 := k8.blk hbr l109 z9.there
        have nbr := none_of_le a8 hbr
        have o901 := o801.up l109
        have o908 := o8.up l109
        have z907 := z807.le l109
        exact copies_fin (k9.perm (by
          refine List.perm_iff_count.2 fun a => ?_
          simp only [List.count_append, List.count_cons, List.count_nil]
          omega)) d0 z907 z9 o901 o908 hS sm a9 a0 nbq nbr hK
      · refine newZ fun br H110 hbr z10 l110 => ?_
        have a10 := a7.trans l110
        have d10 := d0.le a10
        have k10 := k7.blk hbr l110 z10.there
        have nbr := none_of_le a7 hbr
        have o1001 := o701.up l110
        have z1007 := z7.le l110
        refine ⟨d10.1, d10.2.1, d10.2.2.1, d10.2.2.2.1, d10.2.2.2.2, ?_⟩
        refine patch_Copy.c (hS.up a10) sm fun r1 cr1 r2 cr2 r3 cr3 r4 cr4 ys H111 l111 o11 => ?_
        have a11 := a10.trans l111
        have d11 := d0.le a11
        have k11 := k10.own o11 l111
        have o1101 := o1001.up l111
        have z1107 := z1007.le l111
        have z1110 := z10.le l111
        exact copies_fin (k11.perm (by
          refine List.perm_iff_count.2 fun a => ?_
          simp only [List.count_append, List.count_cons, List.count_nil]
          omega)) d0 z1107 z1110 o1101 o11 hS sm a11 a0 nbq nbr hK
    · refine newZ fun br H112 hbr z12 l112 => ?_
      have a12 := a1.trans l112
      have d12 := d0.le a12
      have k12 := k1.blk hbr l112 z12.there
      have nbr := none_of_le a1 hbr
      have o1201 := o1.up l112
      refine ⟨d12.1, d12.2.1, d12.2.2.1, d12.2.2.2.1, d12.2.2.2.2, ?_, ?_⟩
      · refine patch_Copy.c (hS.up a12) sm fun r1 cr1 r2 cr2 r3 cr3 r4 cr4 ys H113 l113 o13 => ?_
        have a13 := a12.trans l113
        have d13 := d0.le a13
        have k13 := k12.own o13 l113
        have o1301 := o1201.up l113
        have z1312 := z12.le l113
        refine newZ fun bq H114 hbq z14 l114 => ?_
        have a14 := a13.trans l114
        have d14 := d0.le a14
        have k14 := k13.blk hbq l114 z14.there
        have nbq := none_of_le a13 hbq
        have o1401 := o1301.up l114
        have o1413 := o13.up l114
        have z1412 := z1312.le l114
        exact copies_fin (k14.perm (by
          refine List.perm_iff_count.2 fun a => ?_
          simp only [List.count_append, List.count_cons, List.count_nil]
          omega)) d0 z14 z1412 o1401 o1413 hS sm a14 a0 nbq nbr hK
      · refine newZ fun bq H115 hbq z15 l115 => ?_
        have a15 := a12.trans l115
        have d15 := d0.le a15
        have k15 := k12.blk hbq l115 z15.there
        have nbq := none_of_le a12 hbq
        have o1501 := o1201.up l115
        have z1512 := z12.le l115
        refine ⟨d15.1, d15.2.1, d15.2.2.1, d15.2.2.2.1, d15.2.2.2.2, ?_⟩
        refine patch_Copy.c (hS.up a15) sm fun r1 cr1 r2 cr2 r3 cr3 r4 cr4 ys H116 l116 o16 => ?_
        have a16 := a15.trans l116
        have d16 := d0.le a16
        have k16 := k15.own o16 l116
        have o1601 := o1501.up l116
        have z1615 := z15.le l116
        have z1612 := z1512.le l116
        exact copies_fin (k16.perm (by
          refine List.perm_iff_count.2 fun a => ?_
          simp only [List.count_append, List.count_cons, List.count_nil]
          omega)) d0 z1615 z1612 o1601 o16 hS sm a16 a0 nbq nbr hK
  · refine newZ fun bq H117 hbq z17 l117 => ?_
    have a17 := a0.trans l117
    have d17 := d0.le a17
    have k17 := k0.blk hbq l117 z17.there
    have nbq := none_of_le a0 hbq
    refine ⟨d17.1, d17.2.1, d17.2.2.1, d17.2.2.2.1, d17.2.2.2.2, d17.1, d17.2.1, d17.2.2.1, d17.2.2.2.1, d17.2.2.2.2, ?_, ?_⟩
    · refine patch_Copy.c (hS.up a17) sm fun p1 cp1 p2 cp2 p3 cp3 p4 cp4 zs H118 l118 o18 => ?_
      have a18 := a17.trans l118
      have d18 := d0.le a18
      have k18 := k17.own o18 l118
      have z1817 := z17.le l118
      refine ⟨d18.1, d18.2.1, d18.2.2.1, d18.2.2.2.1, d18.2.2.2.2, ?_, ?_⟩
      · refine patch_Copy.c (hS.up a18) sm fun r1 cr1 r2 cr2 r3 cr3 r4 cr4 ys H119 l119 o19 => ?_
        have a19 := a18.trans l119
        have d19 := d0.le a19
        have k19 := k18.own o19 l119
        have o1918 := o18.up l119
        have z1917 := z1817.le l119
        refine newZ fun br H120 hbr z20 l120 => ?_
        have a20 := a19.trans l120
        have d20 := d0.le a20
        have k20 := k19.blk hbr l120 z20.there
        have nbr := none_of_le a19 hbr
        have o2018 := o1918.up l120
        have o2019 := o19.up l120
        have z2017 := z1917.le l120
        exact copies_fin (k20.perm (by
          refine List.perm_iff_count.2 fun a => ?_
          simp only [List.count_append, List.count_cons, List.count_nil]
          omega)) d0 z2017 z20 o2018 o2019 hS sm a20 a17 nbq nbr hK
      · refine newZ fun br H121 hbr z21 l121 => ?_
        have a21 := a18.trans l121
        have d21 := d0.le a21
        have k21 := k18.blk hbr l121 z21.there
        have nbr := none_of_le a18 hbr
        have o2118 := o18.up l121
        have z2117 := z1817.le l121
        refine ⟨d21.1, d21.2.1, d21.2.2.1, d21.2.2.2.1, d21.2.2.2.2, ?_⟩
        refine patch_Copy.c (hS.up a21) sm fun r1 cr1 r2 cr2 r3 cr3 r4 cr4 ys H122 l122 o22 => ?_
        have a22 := a21.trans l122
        have d22 := d0.le a22
        have k22 := k21.own o22 l122
        have o2218 := o2118.up l122
        have z2217 := z2117.le l122
        have z2221 := z21.le l122
        exact copies_fin (k22.perm (by
          refine List.perm_iff_count.2 fun a => ?_
          simp only [List.count_append, List.count_cons, List.count_nil]
          omega)) d0 z2217 z2221 o2218 o22 hS sm a22 a17 nbq nbr hK
    · refine newZ fun br H123 hbr z23 l123 => ?_
      have a23 := a17.trans l123
      have d23 := d0.le a23
      have k23 := k17.blk hbr l123 z23.there
      have nbr := none_of_le a17 hbr
      have z2317 := z17.le l123
      refine ⟨d23.1, d23.2.1, d23.2.2.1, d23.2.2.2.1, d23.2.2.2.2, d23.1, d23.2.1, d23.2.2.1, d23.2.2.2.1, d23.2.2.2.2, ?_⟩
      refine patch_Copy.c (hS.up a23) sm fun p1 cp1 p2 cp2 p3 cp3 p4 cp4 zs H124 l124 o24 => ?_
      have a24 := a23.trans l124
      have d24 := d0.le a24
      have k24 := k23.own o24 l124
      have z2417 := z2317.le l124
      have z2423 := z23.le l124
      refine ⟨d24.1, d24.2.1, d24.2.2.1, d24.2.2.2.1, d24.2.2.2.2, ?_⟩
      refine patch_Copy.c (hS.up a24) sm fun r1 cr1 r2 cr2 r3 cr3 r4 cr4 ys H125 l125 o25 => ?_
      have a25 := a24.trans l125
      have d25 := d0.le a25
      have k25 := k24.own o25 l125
      have o2524 := o24.up l125
      have z2517 := z2417.le l125
      have z2523 := z2423.le l125
      exact copies_fin (k25.perm (by
        refine List.perm_iff_count.2 fun a => ?_
        simp only [List.count_append, List.count_cons, List.count_nil]
        omega)) d0 z2517 z2523 o2524 o25 hS sm a25 a23 nbq nbr hK
  · refine newZ fun br H126 hbr z26 l126 => ?_
    have a26 := a0.trans l126
    have d26 := d0.le a26
    have k26 := k0.blk hbr l126 z26.there
    have nbr := none_of_le a0 hbr
    refine ⟨d26.1, d26.2.1, d26.2.2.1, d26.2.2.2.1, d26.2.2.2.2, d26.1, d26.2.1, d26.2.2.1, d26.2.2.2.1, d26.2.2.2.2, ?_, ?_⟩
    · refine patch_Copy.c (hS.up a26) sm fun p1 cp1 p2 cp2 p3 cp3 p4 cp4 zs H127 l127 o27 => ?_
      have a27 := a26.trans l127
      have d27 := d0.le a27
      have k27 := k26.own o27 l127
      have z2726 := z26.le l127
      refine ⟨d27.1, d27.2.1, d27.2.2.1, d27.2.2.2.1, d27.2.2.2.2, ?_, ?_⟩
      · refine patch_Copy.c (hS.up a27) sm fun r1 cr1 r2 cr2 r3 cr3 r4 cr4 ys H128 l128 o28 => ?_
        have a28 := a27.trans l128
        have d28 := d0.le a28
        have k28 := k27.own o28 l128
        have o2827 := o27.up l128
        have z2826 := z2726.le l128
        refine newZ fun bq H129 hbq z29 l129 => ?_
        have a29 := a28.trans l129
        have d29 := d0.le a29
        have k29 := k28.blk hbq l129 z29.there
        have nbq := none_of_le a28 hbq
        have o2927 := o2827.up l129
        have o2928 := o28.up l129
        have z2926 := z2826.le l129
        exact copies_fin (k29.perm (by
          refine List.perm_iff_count.2 fun a => ?_
          simp only [List.count_append, List.count_cons, List.count_nil]
          omega)) d0 z29 z2926 o2927 o2928 hS sm a29 a26 nbq nbr hK
      · refine newZ fun bq H130 hbq z30 l130 => ?_
        have a30 := a27.trans l130
        have d30 := d0.le a30
        have k30 := k27.blk hbq l130 z30.there
        have nbq := none_of_le a27 hbq
        have o3027 := o27.up l130
        have z3026 := z2726.le l130
        refine ⟨d30.1, d30.2.1, d30.2.2.1, d30.2.2.2.1, d30.2.2.2.2, ?_⟩
        refine patch_Copy.c (hS.up a30) sm fun r1 cr1 r2 cr2 r3 cr3 r4 cr4 ys H131 l131 o31 => ?_
        have a31 := a30.trans l131
        have d31 := d0.le a31
        have k31 := k30.own o31 l131
        have o3127 := o3027.up l131
        have z3130 := z30.le l131
        have z3126 := z3026.le l131
        exact copies_fin (k31.perm (by
          refine List.perm_iff_count.2 fun a => ?_
          simp only [List.count_append, List.count_cons, List.count_nil]
          omega)) d0 z3130 z3126 o3127 o31 hS sm a31 a26 nbq nbr hK
    · refine newZ fun bq H132 hbq z32 l132 => ?_
      have a32 := a26.trans l132
      have d32 := d0.le a32
      have k32 := k26.blk hbq l132 z32.there
      have nbq := none_of_le a26 hbq
      have z3226 := z26.le l132
      refine ⟨d32.1, d32.2.1, d32.2.2.1, d32.2.2.2.1, d32.2.2.2.2, d32.1, d32.2.1, d32.2.2.1, d32.2.2.2.1, d32.2.2.2.2, ?_⟩
      refine patch_Copy.c (hS.up a32) sm fun p1 cp1 p2 cp2 p3 cp3 p4 cp4 zs H133 l133 o33 => ?_
      have a33 := a32.trans l133
      have d33 := d0.le a33
      have k33 := k32.own o33 l133
      have z3332 := z32.le l133
      have z3326 := z3226.le l133
      refine ⟨d33.1, d33.2.1, d33.2.2.1, d33.2.2.2.1, d33.2.2.2.2, ?_⟩
      refine patch_Copy.c (hS.up a33) sm fun r1 cr1 r2 cr2 r3 cr3 r4 cr4 ys H134 l134 o34 => ?_
      have a34 := a33.trans l134
      have d34 := d0.le a34
      have k34 := k33.own o34 l134
      have o3433 := o33.up l134
      have z3432 := z3332.le l134
      have z3426 := z3326.le l134
      exact copies_fin (k34.perm (by
        refine List.perm_iff_count.2 fun a => ?_
        simp only [List.count_append, List.count_cons, List.count_nil]
        omega)) d0 z3432 z3426 o3433 o34 hS sm a34 a32 nbq nbr hK

theorem patchCopies_own : ownKnob Try.prog.godebug = none := by kernel_rfl
theorem patchCopies_laid : laidOutB Try.prog = true := by kernel_rfl
set_option maxRecDepth 100000 in
theorem patchCopies_lifted (os : Os) (started : os.Started) (H : Type) (enc : TypeId × Value → H) :
    ReturnsInHanded {} Try.checked os 3 .any (Rows.patchCopiesSpec.pre6 enc Try.prog Try.f3 Rows.patchCopiesRow.domain false) (Rows.patchCopiesSpec.post enc Try.prog Try.f3 false true false false) := by
  refine returnsInHanded_of_change (C := Try.checked) patchCopies_own started (by kernel_rfl) Try.func3
    (ChangeSpec.witness6 (enc := enc) (C := Try.checked) false ⟨#[], #[.agg #[.int .u32 (0 : Int), .slice none 0 0, .slice none 0 0, .slice none 0 0, .slice none 0 0]], []⟩ 8 (by kernel_rfl) (by kernel_rfl) (by kernel_rfl) (by kernel_rfl)) ?_
  intro W base args ds gs before hval0 hW hcnd _
  have hval : ∀ (j : Nat) t v, Try.f3.params[j]? = some t → args[j]? = some v → Value.okWide Try.prog W .any base t v := hval0
  have hW' := hW
  obtain ⟨p, q, hA0, hV, rfl, hfz, hnd⟩ := hW
  have hA : DataW.TrodAll enc Try.prog W 0 (fun _ => true) true Try.f3.params.toList args.toList ds p := hA0
  rw [Try.params3] at hA hval
  obtain ⟨v0, d0, rfl, rfl, h0⟩ := trodAll_one hA
  obtain ⟨cs0, x0, rfl, s0⟩ := openSt Try.underlying27 (opens_st Try.underlying27 (by kernel_rfl) (opensF_cons rfl (opens_int Try.underlying22 (by kernel_rfl)) rfl (opensF_cons rfl (opens_sl (by decide) Try.underlying23 (by kernel_rfl) (opens_int Try.underlying22 (by kernel_rfl))) rfl (opensF_cons rfl (opens_sl (by decide) Try.underlying24 (by kernel_rfl) (opens_str Try.underlying9 (by kernel_rfl))) rfl (opensF_cons rfl (opens_sl (by decide) Try.underlying24 (by kernel_rfl) (opens_str Try.underlying9 (by kernel_rfl))) rfl (opensF_one rfl (opens_sl (by decide) Try.underlying25 (by kernel_rfl) (opens_st Try.underlying34 (by kernel_rfl) (opensF_cons rfl (opens_str Try.underlying9 (by kernel_rfl)) rfl (opensF_cons rfl (opens_sl (by decide) Try.underlying24 (by kernel_rfl) (opens_str Try.underlying9 (by kernel_rfl))) rfl (opensF_cons rfl (opens_sl (by decide) Try.underlying31 (by kernel_rfl) (opens_st Try.underlying38 (by kernel_rfl) (opensF_cons rfl (opens_st Try.underlying36 (by kernel_rfl) (opensF_cons rfl (opens_int Try.underlying22 (by kernel_rfl)) rfl (opensF_one rfl (opens_int Try.underlying3 (by kernel_rfl))))) rfl (opensF_one rfl (opens_st Try.underlying36 (by kernel_rfl) (opensF_cons rfl (opens_int Try.underlying22 (by kernel_rfl)) rfl (opensF_one rfl (opens_int Try.underlying3 (by kernel_rfl))))))))) rfl (opensF_one rfl (opens_sl (by decide) Try.underlying32 (by kernel_rfl) (opens_st Try.underlying36 (by kernel_rfl) (opensF_cons rfl (opens_int Try.underlying22 (by kernel_rfl)) rfl (opensF_one rfl (opens_int Try.underlying3 (by kernel_rfl)))))))))))))))))) (hval 0 27 v0 rfl rfl) h0 (fun x hx => by simp [hx]) hfz
  refine (calls_true (patchCopies_law s0) Try.func3 (by kernel_rfl)).mono fun e W' ⟨he, hk⟩ => ?_
  subst he
  exact ⟨_, rfl, post_true patchCopies_laid hW' (by kernel_rfl) rfl rfl rfl Try.underlying4 hk⟩

theorem patchCopies_holds : Rows.PatchCopiesSaid :=
  OpenClaim.holds_of_wide 3 Try.f3 rfl rfl rfl rfl rfl rfl rfl ⟨rfl, rfl, rfl, rfl, rfl⟩ rfl rfl rfl rfl rfl (by kernel_rfl) Try.func3 (by kernel_rfl)
    (of_decide_eq_true (by kernel_rfl)) (by unfold Func.isWrapper; first | (rw [if_pos (by decide +kernel)]; kernel_rfl) | (rw [if_neg (by decide +kernel)]; exact ⟨rfl, rfl⟩))
    (fun os started H enc _ => patchCopies_lifted os started H enc)

end Go.Proofs.Ytganockeifkecaa
