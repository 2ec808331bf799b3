/- For every patch PatchNeeds returns true, and what came in reads as it did: no condition. -/
import Derived.Test.YtganockeifkecaaZ5
import Derived.Test.YtganockeifkecaaRows
namespace Go.Proofs.Ytganockeifkecaa
open Go.V
open Go.ChangeShapes Go.WideShapes Go.ChangeAt Go.RowKit
theorem patchNeeds_law {cs0 : List Value} {x0 : PtX} {drop : Int} {H : Hp} (s0 : ptE.rep H cs0 x0) (w1 : (Lit.int .u8 drop).wf = true) : CallH prog centolaw12_PatchNeeds.num [.agg ⟨cs0⟩, .int .u8 drop] H fun v H' => liftB v fun r => r = true ∧ Le H H' := by
  obtain ⟨dp, dl, dc, mp, ml, mc, qp, ql, qc, hp, hl, hc, rfl, h, hbd⟩ := ptE_rep s0
  clear s0
  revert h
  generalize toPt x0 = x
  generalize x0.1 = id
  intro h
  show centolaw12_PatchNeeds.C id dp dl dc mp ml mc qp ql qc hp hl hc drop H fun r H' => r = true ∧ Le H H'
  apply centolaw12_PatchNeeds.of
  intro b hb
  have l1 := Le.upd (c := [.int .u32 id, .slice dp dl dc, .slice mp ml mc, .slice qp ql qc, .slice hp hl hc]) hb
  have d := D5.new (H := H) (b := b) (id := id) (dp := dp) (dl := dl) (dc := dc) (mp := mp) (ml := ml) (mc := mc) (qp := qp) (ql := ql) (qc := qc) (hp := hp) (hl := hl) (hc := hc)
  revert l1 d
  generalize upd H b [.int .u32 id, .slice dp dl dc, .slice mp ml mc, .slice qp ql qc, .slice hp hl hc] = H1
  intro l1 d
  obtain ⟨rfl, hd, hm, hq, hh⟩ := h
  have hS : PtS H x.id dp dl dc mp ml mc qp ql qc hp hl hc x := ⟨rfl, hd, hm, hq, hh⟩
  have rdr : 0 ≤ drop ∧ drop ≤ 255 := by simpa [Lit.wf, IntKind.min, IntKind.max, IntKind.signed, IntKind.bits] using w1
  refine centolaw12_known.c fun H2 l2 => bcn (fun h => by cases h) fun _ => ?_
  have d2 := d.le l2
  have l02 := l1.trans l2
  refine ldI_i d2.1 (ldL_i d2.2.1 (ldL_i d2.2.2.1 (ldL_i d2.2.2.2.1 (ldL_i d2.2.2.2.2 ?_))))
  refine centolaw12_few.c (hS.up l02) hbd fun H3 l3 => bcn (fun _ => ⟨rfl, l02.trans l3⟩) fun f => ?_
  have sm := fewB_sm f
  have d3 := d2.le l3
  have l03 := l02.trans l3
  refine ldI_i d3.1 (ldL_i d3.2.1 (ldL_i d3.2.2.1 (ldL_i d3.2.2.2.1 (ldL_i d3.2.2.2.2 ?_))))
  refine patch_Is.c (hS.up l03) sm fun H4 l4 => bcn (fun _ => ⟨rfl, l03.trans l4⟩) fun his => ?_
  have d4 := d3.le l4
  have l04 := l03.trans l4
  have ed := hd.len
  have smd := sm.deps
  have hdeps := isB_deps his
  unfold centolaw12_PatchNeeds.k1
  refine ldI_i d4.1 (ldL_i d4.2.1 (ldL_i d4.2.2.1 (ldL_i d4.2.2.2.1 (ldL_i d4.2.2.2.2 ?_))))
  refine patch_Needs.c (hS.up l04) sm fun p l c H5 l5 sn hpn hln => ?_
  have en := sn.len
  have d5 := d4.le l5
  have l05 := l04.trans l5
  refine ⟨fun t Hx => ∃ i : Nat, t = (i : Nat) ∧ i ≤ l ∧ Le H5 Hx, fun t _ => ((l : Int) - t).toNat, ⟨0, rfl, Nat.zero_le _, Le.refl _⟩, ?_⟩
  rintro t Hx ⟨i, rfl, gi, lx⟩
  have dx := d5.le lx
  have l0x := l05.trans lx
  refine bcd (fun hlt => ?_) fun hlt => ?_
  · have hi : i < (needsL x).length := by omega
    have hmem := List.getElem_mem hi
    have next : ((i : Nat) : Int) + 1 = ((i + 1 : Nat) : Int) := by omega
    refine rsU (sn.le lx) rfl hi (ldI_i dx.1 (bcd (fun h => absurd h (needsL_mem hmem)) fun _ => ldL_i dx.2.1 (rsU (sn.le lx) rfl hi ?_)))
    refine centoref12_Has.c (hd.le l0x) (by omega) (bcn (fun h => absurd (depsB_needs hdeps hmem) (of_decide_eq_false h)) fun _ => ?_)
    refine bcd (fun h0 => ?_) fun h0 => chk (by omega) ⟨⟨i + 1, next, by omega, lx⟩, by first | omega | (dsimp only; omega)⟩
    have hi1 : i - 1 < (needsL x).length := by omega
    refine rsU (sn.le lx) rfl hi (chk (by omega) (rsU (sn.le lx) (k := i - 1) (by omega) hi1 (bcd (fun hle => ?_) fun _ => chk (by omega) ⟨⟨i + 1, next, by omega, lx⟩, by first | omega | (dsimp only; omega)⟩)))
    have hlt2 := List.pairwise_iff_getElem.1 (needsL_pw x) (i - 1) i hi1 hi (by omega)
    unfold Sort.ltInt at hlt2
    rw [decide_eq_true_eq] at hlt2
    omega
  · refine bcd (fun _ => ⟨rfl, l0x⟩) fun hne => ?_
    have hpos : 0 < l := by omega
    obtain ⟨dr, rfl⟩ : ∃ n : Nat, drop = (n : Int) := ⟨drop.toNat, by omega⟩
    have hk : dr % l < (needsL x).length := by rw [← en]; exact Nat.mod_lt _ hpos
    refine chk (by omega) ⟨hne, rsU (sn.le lx) (k := dr % l) (by rw [Int.tmod_eq_emod_of_nonneg (by omega)]; omega) hk ?_⟩
    have hmem := List.getElem_mem hk
    revert hmem
    generalize (needsL x)[dr % l] = n
    intro hmem
    have hin := depsB_needs hdeps hmem
    refine ldI_i dx.1 (ldL_i dx.2.1 (ldL_i dx.2.2.1 (ldL_i dx.2.2.2.1 (ldL_i dx.2.2.2.2 ?_))))
    refine patch_Copy.c (hS.up l0x) sm fun p1 c1 p2 c2 p3 c3 p4 c4 zs H6 l6 own => ?_
    have dx6 := dx.le l6
    have l06 := l0x.trans l6
    refine D5.mk fun b2 H7 hb2 e7 l7 => ?_
    have ow := own.pt.up l7
    have nbb : b ∉ [b2] := fun h => by
      simp at h; subst h; exact dx6.there hb2
    refine put1 e7 fun H8 e8 m8 w8 => ?_
    have l68 : Le H6 H8 := m8.le l7 fun q hq => by simp at hq; subst hq; exact hb2
    refine ⟨fun t Hy => ∃ (i : Nat) (pp : Option Addr) (ll cc : Nat), t = (i : Nat) ∧ i ≤ dl ∧ Le H6 Hy ∧ D5 Hy b2 x.id pp ll cc p2 ml c2 p3 ql c3 p4 hl c4 ∧ Buf 1 H6 Hy pp ll cc (((x.deps.take i).filter fun y => !decide (y = n)).map fU) ∧ Apart (some ⟨b2, 0, none⟩) pp, fun t _ => ((dl : Int) - t).toNat, ⟨0, none, 0, 0, rfl, Nat.zero_le _, l68, e8, Buf.none, Apart.none.symm⟩, ?_⟩
    rintro t Hy ⟨i, pp, ll, cc, rfl, gi, ly, ey, hB, hap⟩
    have dy := dx6.le ly
    have l0y := l06.trans ly
    refine ldL_i dy.2.1 (bcd (fun hlt => ldL_i dy.2.1 ?_) fun hlt => ?_)
    · have hi : i < x.deps.length := by omega
      have hts := List.take_succ_eq_append_getElem hi
      refine rsU (hd.le l0y) rfl hi (bcd (fun hn => ?_) fun hn => ?_)
      · have hll : ll ≤ i := by
          have h1 := hB.1
          have h2 : ((x.deps.take i).filter fun y => !decide (y = n)).length ≤ (x.deps.take i).length := List.length_filter_le _ _
          rw [List.length_take] at h2
          simp only [List.length_map, Nat.mul_one] at h1
          omega
        refine ldL_i ey.2.1 (ldL_i dy.2.1 (rsU (hd.le l0y) rfl hi ?_))
        intro b3 hb3
        have l3' := Le.upd (c := [.int .u32 x.deps[i]]) hb3
        refine ⟨(ey.le l3').2.1, (hB.le l3').pushAt (te := te_uint32) (new := [fU x.deps[i]]) (by unfold upd; rw [if_pos rfl]) rfl (by decide) rfl (by decide) rfl rfl (by simp [te_uint32]; omega) (fun p' c' H9 hB9 hpn m9 => ?_) (ly.trans l3')⟩
        have nb : b2 ∉ blkL pp := fun h => hap b2 0 0 rfl (blkL_mem hB.zero h)
        have e9 := (ey.le l3').mod m9 nb
        have l69 : Le H6 H9 := m9.le (ly.trans l3') fun q hq => hB.fr q 0 (blkL_mem hB.zero hq)
        have hap9 : Apart (some ⟨b2, 0, none⟩) p' := by
          rcases hpn with rfl | hpn
          · exact hap
          · exact apThere (fun b o e => by
              simp only [Option.some.injEq, Addr.mk.injEq] at e
              obtain ⟨rfl, _⟩ := e
              exact (ey.le l3').there) hpn
        refine put1 e9 fun H10 e10 m10 w10 => chk (by omega) ⟨⟨i + 1, p', ll + 1, c', by omega, by omega, m10.le l69 fun q hq => by simp at hq; subst hq; exact hb2, e10, ?_, hap9⟩, by first | omega | (dsimp only; omega)⟩
        rw [hts, List.filter_append, List.filter_cons_of_pos (by simpa using hn), List.filter_nil, List.map_append]
        exact bModA hB9 m10 hap9
      · refine chk (by omega) ⟨⟨i + 1, pp, ll, cc, by omega, by omega, ly, ey, ?_, hap⟩, by first | omega | (dsimp only; omega)⟩
        rw [hts, List.filter_append, List.filter_cons_of_neg (by simpa using hn), List.filter_nil, List.append_nil]
        exact hB
    · rw [List.take_of_length_le (by omega)] at hB
      have fl : (x.deps.filter fun y => !decide (y = n)).length ≤ x.deps.length := List.length_filter_le _ _
      have hx' : PtS Hy x.id pp ll cc p2 ml c2 p3 ql c3 p4 hl c4 ⟨x.id, x.deps.filter fun y => !decide (y = n), x.makes, x.drops, x.hunks⟩ :=
        ⟨rfl, hB.sl, (own.pt.up ly).2.2.1, (own.pt.up ly).2.2.2.1, (own.pt.up ly).2.2.2.2⟩
      have sm' : PtSm ⟨x.id, x.deps.filter fun y => !decide (y = n), x.makes, x.drops, x.hunks⟩ := ⟨by show (x.deps.filter fun y => !decide (y = n)).length ≤ 1000; omega, sm.makes, sm.drops, sm.hunks, sm.mtext, sm.dtext, sm.each⟩
      have hno : n ∉ x.deps.filter fun y => !decide (y = n) := fun h => by simpa using (List.mem_filter.1 h).2
      refine ldI_i ey.1 (ldL_i ey.2.1 (ldL_i ey.2.2.1 (ldL_i ey.2.2.2.1 (ldL_i ey.2.2.2.2 ?_))))
      refine patch_Is.c hx' sm' fun H9 l9 => bcn (fun _ => ?_) fun h => absurd h (by rw [isB_not (x := ⟨x.id, x.deps.filter fun y => !decide (y = n), x.makes, x.drops, x.hunks⟩) (n := n) hmem hno]; decide)
      have d9 := dy.le l9
      have e9 := ey.le l9
      refine ldI_i d9.1 (ldL_i d9.2.1 (ldL_i d9.2.2.1 (ldL_i d9.2.2.2.1 (ldL_i d9.2.2.2.2 ?_))))
      refine ldI_i e9.1 (ldL_i e9.2.1 (ldL_i e9.2.2.1 (ldL_i e9.2.2.2.1 (ldL_i e9.2.2.2.2 ?_))))
      refine patch_Same.c (hS.up (l0y.trans l9)) (hx'.up l9) sm fun H11 l11 => ⟨?_, (l0y.trans l9).trans l11⟩
      have : ¬ x = ⟨x.id, x.deps.filter fun y => !decide (y = n), x.makes, x.drops, x.hunks⟩ := fun e => hno (by have := congrArg Pt.deps e; simp only at this; rw [← this]; exact hin)
      rw [decide_eq_false this]; rfl

theorem patchNeeds_own : ownKnob Try.prog.godebug = none := by kernel_rfl
theorem patchNeeds_laid : laidOutB Try.prog = true := by kernel_rfl
set_option maxRecDepth 100000 in
theorem patchNeeds_lifted (os : Os) (started : os.Started) (H : Type) (enc : TypeId × Value → H) :
    ReturnsInHanded {} Try.checked os 5 .any (Rows.patchNeedsSpec.pre6 enc Try.prog Try.f5 Rows.patchNeedsRow.domain false) (Rows.patchNeedsSpec.post enc Try.prog Try.f5 false true false false) := by
  refine returnsInHanded_of_change (C := Try.checked) patchNeeds_own started (by kernel_rfl) Try.func5
    (ChangeSpec.witness6 (enc := enc) (C := Try.checked) false ⟨#[], #[.agg #[.int .u32 (0 : Int), .slice none 0 0, .slice none 0 0, .slice none 0 0, .slice none 0 0], .int .u8 0], []⟩ 8 (by kernel_rfl) (by kernel_rfl) (by kernel_rfl) (by kernel_rfl)) ?_
  intro W base args ds gs before hval0 hW hcnd _
  have hval : ∀ (j : Nat) t v, Try.f5.params[j]? = some t → args[j]? = some v → Value.okWide Try.prog W .any base t v := hval0
  have hW' := hW
  obtain ⟨p, q, hA0, hV, rfl, hfz, hnd⟩ := hW
  have hA : DataW.TrodAll enc Try.prog W 0 (fun _ => true) true Try.f5.params.toList args.toList ds p := hA0
  rw [Try.params5] at hA hval
  obtain ⟨v0, v1, d0, d1, p0, p1, rfl, rfl, rfl, h0, h1⟩ := trodAll_two hA
  obtain ⟨cs0, x0, rfl, s0⟩ := openSt Try.underlying27 (opens_st Try.underlying27 (by kernel_rfl) (opensF_cons rfl (opens_int Try.underlying22 (by kernel_rfl)) rfl (opensF_cons rfl (opens_sl (by decide) Try.underlying23 (by kernel_rfl) (opens_int Try.underlying22 (by kernel_rfl))) rfl (opensF_cons rfl (opens_sl (by decide) Try.underlying24 (by kernel_rfl) (opens_str Try.underlying9 (by kernel_rfl))) rfl (opensF_cons rfl (opens_sl (by decide) Try.underlying24 (by kernel_rfl) (opens_str Try.underlying9 (by kernel_rfl))) rfl (opensF_one rfl (opens_sl (by decide) Try.underlying25 (by kernel_rfl) (opens_st Try.underlying34 (by kernel_rfl) (opensF_cons rfl (opens_str Try.underlying9 (by kernel_rfl)) rfl (opensF_cons rfl (opens_sl (by decide) Try.underlying24 (by kernel_rfl) (opens_str Try.underlying9 (by kernel_rfl))) rfl (opensF_cons rfl (opens_sl (by decide) Try.underlying31 (by kernel_rfl) (opens_st Try.underlying38 (by kernel_rfl) (opensF_cons rfl (opens_st Try.underlying36 (by kernel_rfl) (opensF_cons rfl (opens_int Try.underlying22 (by kernel_rfl)) rfl (opensF_one rfl (opens_int Try.underlying3 (by kernel_rfl))))) rfl (opensF_one rfl (opens_st Try.underlying36 (by kernel_rfl) (opensF_cons rfl (opens_int Try.underlying22 (by kernel_rfl)) rfl (opensF_one rfl (opens_int Try.underlying3 (by kernel_rfl))))))))) rfl (opensF_one rfl (opens_sl (by decide) Try.underlying32 (by kernel_rfl) (opens_st Try.underlying36 (by kernel_rfl) (opensF_cons rfl (opens_int Try.underlying22 (by kernel_rfl)) rfl (opensF_one rfl (opens_int Try.underlying3 (by kernel_rfl)))))))))))))))))) (hval 0 27 v0 rfl rfl) h0 (fun x hx => by simp [hx]) hfz
  obtain ⟨x1, rfl, rfl, rfl, w1⟩ := open_int Try.underlying5 (hval 1 5 v1 rfl rfl) h1
  refine (calls_true (patchNeeds_law s0 w1) Try.func5 (by kernel_rfl)).mono fun e W' ⟨he, hk⟩ => ?_
  subst he
  exact ⟨_, rfl, post_true patchNeeds_laid hW' (by kernel_rfl) rfl rfl rfl Try.underlying4 hk⟩

theorem patchNeeds_holds : Rows.PatchNeedsSaid :=
  OpenClaim.holds_of_wide 5 Try.f5 rfl rfl rfl rfl rfl rfl rfl ⟨rfl, rfl, rfl, rfl, rfl⟩ rfl rfl rfl rfl rfl (by kernel_rfl) Try.func5 (by kernel_rfl)
    (of_decide_eq_true (by kernel_rfl)) (by unfold Func.isWrapper; first | (rw [if_pos (by decide +kernel)]; kernel_rfl) | (rw [if_neg (by decide +kernel)]; exact ⟨rfl, rfl⟩))
    (fun os started H enc _ => patchNeeds_lifted os started H enc)

end Go.Proofs.Ytganockeifkecaa
