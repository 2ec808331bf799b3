/- For every patch, one thing spoilt as PatchSpoils does it, PatchSpoils returns true, and what came in reads as it did: no condition. -/
import Derived.Test.YtganockeifkecaaZ5
import Derived.Test.YtganockeifkecaaRows
namespace Go.Proofs.Ytganockeifkecaa
open Go.V
open Go.ChangeShapes Go.WideShapes Go.ChangeAt Go.RowKit
theorem fewB_get {x : Pt} (h : fewB x = true) : x.deps.length ≤ 70 ∧ x.makes.length ≤ 10 ∧ x.drops.length ≤ 10 ∧ x.hunks.length ≤ 8 ∧ ∀ g ∈ x.hunks, g.adds.length ≤ 50 ∧ g.edges.length ≤ 90 := by
  simp only [fewB, fewH, Bool.and_eq_true, List.all_eq_true, decide_eq_true_eq] at h
  obtain ⟨h1, h2, h3, h4, h5, h6, h7⟩ := h
  exact ⟨h5, h6, h7, h4, fun g hg => ⟨(h1 g hg).1, (h1 g hg).2.1⟩⟩
theorem hd_set1 : ∀ (zs : List (BL × HD)) (i : Nat) (h : i < zs.length) (p : Option Addr) (l c : Nat), (zs.flatMap hdC).set (i * 4 + 1) (.slice p l c) = (zs.set i (zs[i].1, { zs[i].2 with ap := p, al := l, ac := c })).flatMap hdC
  | z :: zs, 0, _, p, l, c => by simp [hdC]
  | z :: zs, i + 1, h, p, l, c => by
    have e : ∀ k, (i + 1) * 4 + k = (hdC z).length + (i * 4 + k) := fun k => by rw [hdC_len]; omega
    rw [List.flatMap_cons, e]
    simp only [List.set_append_right _ _ (Nat.le_add_right _ _), Nat.add_sub_cancel_left]
    rw [hd_set1 zs i (by simpa using h) p l c]
    rfl
theorem hd_set2 : ∀ (zs : List (BL × HD)) (i : Nat) (h : i < zs.length) (p : Option Addr) (l c : Nat), (zs.flatMap hdC).set (i * 4 + 2) (.slice p l c) = (zs.set i (zs[i].1, { zs[i].2 with ep := p, el := l, ec := c })).flatMap hdC
  | z :: zs, 0, _, p, l, c => by simp [hdC]
  | z :: zs, i + 1, h, p, l, c => by
    have e : ∀ k, (i + 1) * 4 + k = (hdC z).length + (i * 4 + k) := fun k => by rw [hdC_len]; omega
    rw [List.flatMap_cons, e]
    simp only [List.set_append_right _ _ (Nat.le_add_right _ _), Nat.add_sub_cancel_left]
    rw [hd_set2 zs i (by simpa using h) p l c]
    rfl
theorem nO {b : Nat} {q p : Option Addr} (hz : ∀ a, q = some a → a.off = 0 ∧ a.spot = none) (h1 : Apart (some ⟨b, 0, none⟩) p) (h2 : Apart q p) : ∀ b' o, p = some ⟨b', o, none⟩ → b' ∉ b :: blkL q := fun b' o e hb => by
  rcases List.mem_cons.1 hb with rfl | hb
  · exact h1 _ 0 o rfl e
  · exact h2 b' 0 o (blkL_mem hz hb) e
section
variable {A H H' : Hp} {O : List Nat}
theorem OwnH.modO {h : Hk} {d : HD} (x : OwnH A H h d) (hm : Mod O H H') (ha : ∀ q ∈ [d.ap, d.ep, d.kp], ∀ b o, q = some ⟨b, o, none⟩ → b ∉ O) : OwnH A H' h d :=
  ⟨x.1.mod hm (ha _ (by simp)), x.2.1.mod hm (ha _ (by simp)), x.2.2.mod hm (ha _ (by simp))⟩
theorem OwnR.modO {hp : Option Addr} {hl hc : Nat} {hs : List Hk} {zs : List (BL × HD)} (h : OwnR A H hp hl hc hs zs) (hm : Mod O H H') (ha : ∀ p ∈ hp :: zs.flatMap hdP, ∀ b o, p = some ⟨b, o, none⟩ → b ∉ O) : OwnR A H' hp hl hc hs zs :=
  ⟨h.1, h.2.1.mod hm (ha _ (by simp)), fun j h1 h2 => ⟨(h.2.2 j h1 h2).1, (h.2.2 j h1 h2).2.modO hm fun q hq => ha q (List.mem_cons_of_mem _ (List.mem_flatMap.2 ⟨_, List.getElem_mem h2, hq⟩))⟩⟩
theorem spoil_end {K : Bool → Hp → Prop} {b bq : Nat} {x y : Pt} {iq : Int} {dp mp qp hp p1 p2 p3 p4 : Option Addr} {dl dc ml mc ql qc hl hc l1 c1 l2 c2 l3 c3 l4 c4 : Nat}
    (d : D5 H b x.id dp dl dc mp ml mc qp ql qc hp hl hc) (dq : D5 H bq iq p1 l1 c1 p2 l2 c2 p3 l3 c3 p4 l4 c4) (hx : PtS H x.id dp dl dc mp ml mc qp ql qc hp hl hc x) (hy : PtS H iq p1 l1 c1 p2 l2 c2 p3 l3 c3 p4 l4 c4 y)
    (sm : PtSm x) (smy : PtSm y) (hn : isB y = false) (hne : ¬ x = y) (hK : ∀ H', Le H H' → K true H') : centolaw12_PatchSpoils.k2 K bq b H := by
  unfold centolaw12_PatchSpoils.k2
  refine ldI_i dq.1 (ldL_i dq.2.1 (ldL_i dq.2.2.1 (ldL_i dq.2.2.2.1 (ldL_i dq.2.2.2.2 ?_))))
  refine patch_Is.c hy smy fun H9 l9 => ?_
  rw [hn]
  show bc true _ _
  have d := d.le l9
  have dq := dq.le l9
  refine ldI_i d.1 (ldL_i d.2.1 (ldL_i d.2.2.1 (ldL_i d.2.2.2.1 (ldL_i d.2.2.2.2 ?_))))
  refine ldI_i dq.1 (ldL_i dq.2.1 (ldL_i dq.2.2.1 (ldL_i dq.2.2.2.1 (ldL_i dq.2.2.2.2 ?_))))
  refine patch_Same.c (hx.up l9) (hy.up l9) sm fun H10 l10 => ?_
  rw [decide_eq_false hne]
  exact hK _ (l9.trans l10)
end
theorem apBlk {H : Hp} {b : Nat} {p : Option Addr} (hb : H b = none) (ht : There H p) : Apart (some ⟨b, 0, none⟩) p := fun b' o o' e e' => by
  simp only [Option.some.injEq, Addr.mk.injEq] at e
  obtain ⟨rfl, _⟩ := e
  exact ht _ _ e' hb
theorem ptSm_set {x : Pt} {hs : List Hk} (sm : PtSm x) (hl : hs.length ≤ 1000) (he : ∀ h ∈ hs, HkSm h) : PtSm { x with hunks := hs } := ⟨sm.deps, sm.makes, sm.drops, hl, sm.mtext, sm.dtext, he⟩
theorem patchSpoils_law {cs0 : List Value} {x0 : PtX} {what at' : Int} {H : Hp} (s0 : ptE.rep H cs0 x0) (w1 : (Lit.int .u8 what).wf = true) (w2 : (Lit.int .u8 at').wf = true) : CallH prog centolaw12_PatchSpoils.num [.agg ⟨cs0⟩, .int .u8 what, .int .u8 at'] H fun v H' => liftB v fun r => r = true ∧ Le H H' := by
  obtain ⟨dp, dl, dc, mp, ml, mc, qp, ql, qc, hp, hl, hc, rfl, h, hbd⟩ := ptE_rep s0
  clear s0
  revert h
  generalize toPt x0 = x
  generalize x0.1 = id
  intro h
  show centolaw12_PatchSpoils.C id dp dl dc mp ml mc qp ql qc hp hl hc what at' H fun r H' => r = true ∧ Le H H'
  apply centolaw12_PatchSpoils.of
  intro b hb
  have l1 := Le.upd (c := [.int .u32 id, .slice dp dl dc, .slice mp ml mc, .slice qp ql qc, .slice hp hl hc]) hb
  have d := D5.new (H := H) (b := b) (id := id) (dp := dp) (dl := dl) (dc := dc) (mp := mp) (ml := ml) (mc := mc) (qp := qp) (ql := ql) (qc := qc) (hp := hp) (hl := hl) (hc := hc)
  revert l1 d
  generalize upd H b [.int .u32 id, .slice dp dl dc, .slice mp ml mc, .slice qp ql qc, .slice hp hl hc] = H1
  intro l1 d
  obtain ⟨rfl, hd, hm, hq, hh⟩ := h
  have hS : PtS H x.id dp dl dc mp ml mc qp ql qc hp hl hc x := ⟨rfl, hd, hm, hq, hh⟩
  have rdr : 0 ≤ what ∧ what ≤ 255 := by simpa [Lit.wf, IntKind.min, IntKind.max, IntKind.signed, IntKind.bits] using w1
  have rda : 0 ≤ at' ∧ at' ≤ 255 := by simpa [Lit.wf, IntKind.min, IntKind.max, IntKind.signed, IntKind.bits] using w2
  refine centolaw12_known.c fun H2 l2 => bcn (fun h => by cases h) fun _ => ?_
  have d2 := d.le l2
  have l02 := l1.trans l2
  refine ldI_i d2.1 (ldL_i d2.2.1 (ldL_i d2.2.2.1 (ldL_i d2.2.2.2.1 (ldL_i d2.2.2.2.2 ?_))))
  refine centolaw12_few.c (hS.up l02) hbd fun H3 l3 => bcn (fun _ => ⟨rfl, l02.trans l3⟩) fun f => ?_
  have sm := fewB_sm f
  obtain ⟨f1, f2, f3, f4, f5⟩ := fewB_get f
  have d3 := d2.le l3
  have l03 := l02.trans l3
  refine ldI_i d3.1 (ldL_i d3.2.1 (ldL_i d3.2.2.1 (ldL_i d3.2.2.2.1 (ldL_i d3.2.2.2.2 ?_))))
  refine patch_Is.c (hS.up l03) sm fun H4 l4 => bcn (fun _ => ⟨rfl, l03.trans l4⟩) fun his => ?_
  have d4 := d3.le l4
  have l04 := l03.trans l4
  have hS := hS.up l04
  clear d d2 d3 l1 l2 l3 l4 l02 l03
  have hK : ∀ H', Le H4 H' → (fun (r : Bool) (H' : Hp) => r = true ∧ Le H H') true H' := fun H' l' => ⟨rfl, l04.trans l'⟩
  revert hK
  generalize (fun (r : Bool) (H' : Hp) => r = true ∧ Le H H') = K
  intro hK
  clear hbd hd hm hq hh
  unfold centolaw12_PatchSpoils.k1
  refine ldI_i d4.1 (ldL_i d4.2.1 (ldL_i d4.2.2.1 (ldL_i d4.2.2.2.1 (ldL_i d4.2.2.2.2 ?_))))
  refine patch_Copy.c hS sm fun p1 c1 p2 c2 p3 c3 p4 c4 zs H6 l6 own => ?_
  refine D5.mk fun b2 H7 hb2 e7 l7 => ?_
  have hth : ∀ p ∈ ptrs p1 p2 p3 p4 zs, Apart (some ⟨b2, 0, none⟩) p := fun p hp => apBlk hb2 (own.there p hp)
  have ow := own.up l7
  have l47 := l6.trans l7
  have hb4 : H4 b2 = none := none_of_le l6 hb2
  have hid := isB_id his
  have nb : b ≠ b2 := fun e => by subst e; exact d4.there hb4
  obtain ⟨_, o1, o2, o3, o4, pw⟩ := ow
  have pw : (p1 :: p2 :: p3 :: p4 :: zs.flatMap hdP).Pairwise Apart := pw
  have t1 := hth p1 (by simp [ptrs])
  have t2 := hth p2 (by simp [ptrs])
  have t3 := hth p3 (by simp [ptrs])
  have t4 : ∀ p ∈ p4 :: zs.flatMap hdP, Apart (some ⟨b2, 0, none⟩) p := fun p hp => hth p (by unfold ptrs; exact List.mem_cons_of_mem _ (List.mem_cons_of_mem _ (List.mem_cons_of_mem _ hp)))
  have pw1 := (List.pairwise_cons.1 pw).1
  have pw' := (List.pairwise_cons.1 pw).2
  have pw2 := (List.pairwise_cons.1 pw').1
  have pw' := (List.pairwise_cons.1 pw').2
  have pw3 := (List.pairwise_cons.1 pw').1
  have pw4 := (List.pairwise_cons.1 pw').2
  have fin : ∀ {y : Pt} {iq : Int} {q1 q2 q3 q4 : Option Addr} {m1 k1 m2 k2 m3 k3 m4 k4 : Nat} {Hz : Hp}, Le H4 Hz → D5 Hz b2 iq q1 m1 k1 q2 m2 k2 q3 m3 k3 q4 m4 k4 → PtS Hz iq q1 m1 k1 q2 m2 k2 q3 m3 k3 q4 m4 k4 y → PtSm y → isB y = false → ¬ x = y → centolaw12_PatchSpoils.k2 K b2 b Hz :=
    fun lz dz hy smy hn hne => spoil_end (d4.le lz) dz (hS.up lz) hy sm smy hn hne fun H' l' => hK H' (lz.trans l')
  have lenz : ∀ {α : Type} {a c : List α}, a.length ≠ c.length → ¬ a = c := fun h e => h (by rw [e])
  have nmod : ∀ {O : List Nat} {Hz : Hp}, Mod O H7 Hz → (∀ b ∈ O, H4 b = none) → Le H4 Hz := fun m h => m.le l47 h
  refine ⟨by decide, bcd (fun _ => ?_) fun _ => bcd (fun _ => ?_) fun _ => bcd (fun _ => ?_) fun _ => bcd (fun _ => ?_) fun _ => bcd (fun _ => ?_) fun _ => ?_⟩
  · refine put0 e7 fun H8 e8 m8 w8 => ?_
    refine fin (y := { x with id := 0 }) (nmod m8 (by simp [hb4])) e8 ⟨rfl, (bModA o1 m8 t1).sl, (bModA o2 m8 t2).sl, (bModA o3 m8 t3).sl, (o4.modO m8 fun p hp b' o e hb => by simp at hb; subst hb; exact t4 p hp _ 0 o rfl e).hkH⟩ ⟨sm.deps, sm.makes, sm.drops, sm.hunks, sm.mtext, sm.dtext, sm.each⟩ (spoil0 x) fun e => hid (by have := congrArg Pt.id e; exact this)
  · refine ldL_i e7.2.1 (ldI_i e7.1 (o1.pushM (te := te_uint32) (new := [fU x.id]) rfl (by decide) rfl (by decide) rfl rfl (by have := o1.1; simp [te_uint32]; simp at this; omega) (fun p' c' H8 hB hp m8 => ?_) l47))
    have e8 := e7.mod m8 (fun h => t1 b2 0 0 rfl (blkL_mem o1.zero h))
    refine put1 e8 fun H9 e9 m9 w9 => ?_
    have m : Mod (b2 :: blkL p1) H7 H9 := (m8.mono fun q hq => by simp [hq]).trans (m9.mono fun q hq => by simp at hq; simp [hq])
    have hap : Apart (some ⟨b2, 0, none⟩) p' := by
      rcases hp with rfl | hp
      · exact t1
      · exact apThere (fun b o e => by
          simp only [Option.some.injEq, Addr.mk.injEq] at e
          obtain ⟨rfl, _⟩ := e
          exact e7.there) hp
    refine fin (y := { x with deps := x.deps ++ [x.id] }) (nmod m fun q hq => ?_) e9 ⟨rfl, Buf.sl (xs := x.deps ++ [x.id]) (by rw [List.map_append]; exact bModA hB m9 hap), (o2.mod m (nO o1.zero t2 (pw1 _ (by simp)))).sl, (o3.mod m (nO o1.zero t3 (pw1 _ (by simp)))).sl, (o4.modO m fun p hp => nO o1.zero (t4 p hp) (pw1 p (List.mem_cons_of_mem _ (List.mem_cons_of_mem _ hp)))).hkH⟩ ⟨by simp; omega, sm.makes, sm.drops, sm.hunks, sm.mtext, sm.dtext, sm.each⟩ (spoil1 x) fun e => lenz (by simp) (congrArg Pt.deps e)
    rcases List.mem_cons.1 hq with rfl | hq
    · exact hb4
    · exact o1.fr q 0 (blkL_mem o1.zero hq)
  · refine ldL_i e7.2.2.1 (o2.pushM (te := te_string) (new := [sv [66]]) rfl (by decide) rfl (by decide) rfl rfl (by have := o2.1; simp [te_string]; simp at this; omega) (fun p' c' H8 hB hp m8 => ?_) l47)
    have e8 := e7.mod m8 (fun h => t2 b2 0 0 rfl (blkL_mem o2.zero h))
    refine put2 e8 fun H9 e9 m9 w9 => ?_
    have m : Mod (b2 :: blkL p2) H7 H9 := (m8.mono fun q hq => by simp [hq]).trans (m9.mono fun q hq => by simp at hq; simp [hq])
    have hap : Apart (some ⟨b2, 0, none⟩) p' := by
      rcases hp with rfl | hp
      · exact t2
      · exact apThere (fun b o e => by
          simp only [Option.some.injEq, Addr.mk.injEq] at e
          obtain ⟨rfl, _⟩ := e
          exact e7.there) hp
    refine fin (y := { x with makes := x.makes ++ [[66]] }) (nmod m fun q hq => ?_) e9 ⟨rfl, (o1.mod m (nO o2.zero t1 (pw1 _ (by simp)).symm)).sl, Buf.sl (xs := x.makes ++ [[66]]) (by rw [List.map_append]; exact bModA hB m9 hap), (o3.mod m (nO o2.zero t3 (pw2 _ (by simp)))).sl, (o4.modO m fun p hp => nO o2.zero (t4 p hp) (pw2 p (List.mem_cons_of_mem _ hp))).hkH⟩ ⟨sm.deps, by simp; omega, sm.drops, sm.hunks, fun s hs => by
      simp only [List.mem_append, List.mem_singleton] at hs
      rcases hs with hs | rfl
      · exact sm.mtext s hs
      · decide, sm.dtext, sm.each⟩ (spoil2 x) fun e => lenz (by simp) (congrArg Pt.makes e)
    rcases List.mem_cons.1 hq with rfl | hq
    · exact hb4
    · exact o2.fr q 0 (blkL_mem o2.zero hq)
  · refine ldL_i e7.2.2.2.1 ?_
    intro b3 hb3
    have l3' := Le.upd (c := [.string (bs [97]), .string (bs [97])]) hb3
    have nb3 : b2 ≠ b3 := fun e => by subst e; exact e7.there hb3
    refine (o3.le l3').appM (te := te_string) (x := .slice (some ⟨b3, 0, none⟩) 2 2) (n := 2) (new := [sv [97], sv [97]]) rfl (by decide) rfl (by decide) rfl rfl (by have := o3.1; simp [te_string]; simp at this; omega) (fun G hG => ⟨[sv [97], sv [97]], rdN_self (by unfold upd; rw [if_pos rfl]; rfl) rfl rfl, hG⟩) (fun p' c' H8 hB hp m8 => ?_) (l47.trans l3')
    have e8 := (e7.le l3').mod m8 (fun h => t3 b2 0 0 rfl (blkL_mem o3.zero h))
    refine put3 e8 fun H9 e9 m9 w9 => ?_
    have m : Mod (b2 :: blkL p3) H7 H9 := ((Mod.after (m8.mono fun q hq => by simp [hq]) l3')).trans (m9.mono fun q hq => by simp at hq; simp [hq])
    have hap : Apart (some ⟨b2, 0, none⟩) p' := by
      rcases hp with rfl | hp
      · exact t3
      · exact apThere (fun b o e => by
          simp only [Option.some.injEq, Addr.mk.injEq] at e
          obtain ⟨rfl, _⟩ := e
          exact (e7.le l3').there) hp
    refine fin (y := { x with drops := x.drops ++ [[97], [97]] }) (nmod m fun q hq => ?_) e9 ⟨rfl, (o1.mod m (nO o3.zero t1 (pw1 _ (by simp)).symm)).sl, (o2.mod m (nO o3.zero t2 (pw2 _ (by simp)).symm)).sl, Buf.sl (xs := x.drops ++ [[97], [97]]) (by rw [List.map_append]; exact bModA hB m9 hap), (o4.modO m fun p hp => nO o3.zero (t4 p hp) (pw3 p hp)).hkH⟩ ⟨sm.deps, sm.makes, by simp; omega, sm.hunks, sm.mtext, fun s hs => by
      simp only [List.mem_append, List.mem_cons, List.not_mem_nil, or_false] at hs
      rcases hs with hs | rfl | rfl
      · exact sm.dtext s hs
      · decide
      · decide, sm.each⟩ (spoil3 x) fun e => lenz (by simp) (congrArg Pt.drops e)
    rcases List.mem_cons.1 hq with rfl | hq
    · exact hb4
    · exact o3.fr q 0 (blkL_mem o3.zero hq)
  · refine ldL_i e7.2.2.2.2 (bcd (fun _ => hK _ l47) fun hne => ldL_i e7.2.2.2.2 (ldL_i e7.2.2.2.2 (chk (by omega) ⟨e7.2.2.2.2, e7.2.2.2.2, hne, ?_⟩)))
    obtain ⟨hz, oB, oE⟩ := o4
    have hhl : hl = x.hunks.length := by have := oB.1; rw [flatMap_len hdC_len, hz] at this; omega
    obtain ⟨k, rfl⟩ : ∃ n : Nat, at' = (n : Int) := ⟨at'.toNat, by omega⟩
    have hk : k % hl < x.hunks.length := by rw [← hhl]; exact Nat.mod_lt _ (by omega)
    revert hk
    have emod : Int.tmod (k : Int) (hl : Int) = ((k % hl : Nat) : Int) := by rw [Int.tmod_eq_emod_of_nonneg (by omega)]; omega
    rw [emod]
    generalize k % hl = i
    intro hk
    have hk2 : i < zs.length := by omega
    obtain ⟨bh, rfl⟩ := oB.some_of (by omega)
    refine idxN i rfl (by omega) (nil ?_)
    simp only [Nat.zero_add]
    have g1 : (zs.flatMap hdC)[i * 4 + 1]? = (hdC zs[i])[1]? := flatMap_get hdC_len zs i hk2 1 (by decide)
    have w1 := oB.rd (i := i * 4 + 1) (v := .slice zs[i].2.ap zs[i].2.al zs[i].2.ac) (by rw [g1]; rfl)
    rw [Nat.zero_add] at w1
    refine ldL_i w1 ?_
    obtain ⟨_, A, E, Q⟩ := oE i hk hk2
    have hga := (f5 _ (List.getElem_mem hk)).1
    have hmz : ∀ q ∈ hdP zs[i], q ∈ zs.flatMap hdP := fun q hq => List.mem_flatMap.2 ⟨_, List.getElem_mem hk2, hq⟩
    have tz : Apart (some ⟨b2, 0, none⟩) zs[i].2.ap := t4 _ (List.mem_cons_of_mem _ (hmz _ (by simp [hdP])))
    have th : Apart (some ⟨bh, 0, none⟩) zs[i].2.ap := (List.pairwise_cons.1 pw4).1 _ (hmz _ (by simp [hdP]))
    refine A.pushM (te := te_string) (new := [sv []]) rfl (by decide) rfl (by decide) rfl rfl (by have := A.1; simp [te_string]; simp at this; omega) (fun p' c' H8 hB hp m8 => ?_) l47
    have hnz : bh ∉ blkL zs[i].2.ap := fun h => th bh 0 0 rfl (blkL_mem A.zero h)
    have e8 := e7.mod m8 (fun h => tz b2 0 0 rfl (blkL_mem A.zero h))
    have oB8 : Buf 4 H4 H8 (some ⟨bh, 0, none⟩) hl c4 (zs.flatMap hdC) := oB.mod m8 fun b' o e hb => by
      simp only [Option.some.injEq, Addr.mk.injEq] at e
      obtain ⟨rfl, _⟩ := e
      exact hnz hb
    have gl : (zs.flatMap hdC).length = zs.length * 4 := flatMap_len hdC_len zs
    refine st (m8.rd hnz w1) ?_
    have C1 := oB8.set (i := i * 4 + 1) (v := .slice p' (zs[i].2.al + 1) c') (by rw [gl]; omega) rfl
    rw [hd_set1 zs i hk2] at C1
    have M1 : Mod [bh] H8 (wr H8 bh (i * 4 + 1) (.slice p' (zs[i].2.al + 1) c')) := Mod.refl.wr (.inl (by simp))
    have hap : Apart (some ⟨bh, 0, none⟩) p' := by
      rcases hp with rfl | hp
      · exact th
      · exact apThere (bThere oB) hp
    have m : Mod (bh :: blkL zs[i].2.ap) H7 (wr H8 bh (i * 4 + 1) (.slice p' (zs[i].2.al + 1) c')) := (m8.mono fun q hq => by simp [hq]).trans (M1.mono fun q hq => by simp at hq; simp [hq])
    have tb : Apart (some ⟨bh, 0, none⟩) (some ⟨b2, 0, none⟩) := (t4 _ (by simp)).symm
    have pwz := pw4
    refine fin (y := { x with hunks := x.hunks.set i { x.hunks[i] with adds := x.hunks[i].adds ++ [[]] } }) (nmod m fun q hq => ?_) (e8.mod M1 (fun h => by simp at h; subst h; exact apIrr tb)) ⟨rfl, (o1.mod m (nO A.zero (pw1 _ (by simp)).symm (pw1 _ (by simp only [List.mem_cons]; exact .inr (.inr (.inr (hmz _ (by simp [hdP])))))).symm)).sl, (o2.mod m (nO A.zero (pw2 _ (by simp)).symm (pw2 _ (by simp only [List.mem_cons]; exact .inr (.inr (hmz _ (by simp [hdP]))))).symm)).sl, (o3.mod m (nO A.zero (pw3 _ (by simp)).symm (pw3 _ (by simp only [List.mem_cons]; exact .inr (hmz _ (by simp [hdP])))).symm)).sl, ?_⟩ (ptSm_set sm (by simp; omega) fun h hh => ?_) (spoilH x (List.mem_iff_getElem.2 ⟨i, by simpa using hk, by rw [List.getElem_set_self]⟩) fun fr => spoil4 x.id fr _) fun e => ?_
    · rcases List.mem_cons.1 hq with rfl | hq
      · exact oB.fr _ 0 rfl
      · exact A.fr q 0 (blkL_mem A.zero hq)
    · refine HkH.of (zs := zs.set i (zs[i].1, { zs[i].2 with ap := p', al := zs[i].2.al + 1, ac := c' })) (by simp [hz]) (C1.sn hdC_len (by decide)) fun j h1 h2 => ?_
      simp only [List.length_set] at h1 h2
      by_cases hj : j = i
      · subst hj
        rw [List.getElem_set_self, List.getElem_set_self]
        have pwA := List.pairwise_flatMap.1 (List.pairwise_cons.1 pw4).2
        have pwi := pwA.1 _ (List.getElem_mem hk2)
        simp only [hdP, List.pairwise_cons, List.mem_cons, List.not_mem_nil, or_false] at pwi
        have hE : Buf 4 H4 (wr H8 bh (j * 4 + 1) (.slice p' (zs[j].2.al + 1) c')) zs[j].2.ep zs[j].2.el zs[j].2.ec _ := E.mod m (nO A.zero ((List.pairwise_cons.1 pw4).1 _ (hmz _ (by simp [hdP]))) (pwi.1 _ (.inl rfl)))
        have hQ : Buf 2 H4 (wr H8 bh (j * 4 + 1) (.slice p' (zs[j].2.al + 1) c')) zs[j].2.kp zs[j].2.kl zs[j].2.kc _ := Q.mod m (nO A.zero ((List.pairwise_cons.1 pw4).1 _ (hmz _ (by simp [hdP]))) (pwi.1 _ (.inr rfl)))
        exact ⟨(oE j hk hk2).1, Buf.sl (xs := x.hunks[j].adds ++ [[]]) (by rw [List.map_append]; exact bModA hB M1 hap), hE.sn edC_len (by decide), hQ.sn lidC_len (by decide)⟩
      · rw [List.getElem_set_ne (fun h => hj h.symm), List.getElem_set_ne (fun h => hj h.symm)]
        refine ⟨(oE j h1 h2).1, ((oE j h1 h2).2.modO m fun q hq => ?_).rdH⟩
        have hqm : q ∈ zs.flatMap hdP := List.mem_flatMap.2 ⟨_, List.getElem_mem h2, hq⟩
        refine nO A.zero ((List.pairwise_cons.1 pw4).1 _ hqm) ?_
        have pwA := (List.pairwise_flatMap.1 (List.pairwise_cons.1 pw4).2).2
        rw [List.pairwise_iff_getElem] at pwA
        rcases Nat.lt_or_gt_of_ne hj with hlt | hgt
        · exact (pwA j i h2 hk2 hlt q hq _ (by simp [hdP])).symm
        · exact pwA i j hk2 h2 hgt _ (by simp [hdP]) q hq
    · rcases List.mem_or_eq_of_mem_set hh with hh | rfl
      · exact sm.each h hh
      · have s := sm.each _ (List.getElem_mem hk)
        exact ⟨s.path, by simp; omega, s.edges, s.kills, fun t ht => by
          simp only [List.mem_append, List.mem_singleton] at ht
          rcases ht with ht | rfl
          · exact s.text t ht
          · decide⟩
    · have e2 := congrArg Pt.hunks e
      have e3 : x.hunks[i]? = (x.hunks.set i { x.hunks[i] with adds := x.hunks[i].adds ++ [[]] })[i]? := by
        have : x.hunks = x.hunks.set i { x.hunks[i] with adds := x.hunks[i].adds ++ [[]] } := e2
        rw [← this]
      rw [List.getElem?_set_self hk, List.getElem?_eq_getElem hk] at e3
      exact lenz (by simp) (congrArg Hk.adds (Option.some.inj e3))
  · refine ldL_i e7.2.2.2.2 (bcd (fun _ => hK _ l47) fun hne => ldL_i e7.2.2.2.2 (ldL_i e7.2.2.2.2 (chk (by omega) ⟨e7.2.2.2.2, e7.2.2.2.2, hne, ?_⟩)))
    obtain ⟨hz, oB, oE⟩ := o4
    have hhl : hl = x.hunks.length := by have := oB.1; rw [flatMap_len hdC_len, hz] at this; omega
    obtain ⟨k, rfl⟩ : ∃ n : Nat, at' = (n : Int) := ⟨at'.toNat, by omega⟩
    have hk : k % hl < x.hunks.length := by rw [← hhl]; exact Nat.mod_lt _ (by omega)
    revert hk
    have emod : Int.tmod (k : Int) (hl : Int) = ((k % hl : Nat) : Int) := by rw [Int.tmod_eq_emod_of_nonneg (by omega)]; omega
    rw [emod]
    generalize k % hl = i
    intro hk
    have hk2 : i < zs.length := by omega
    obtain ⟨bh, rfl⟩ := oB.some_of (by omega)
    refine idxN i rfl (by omega) (nil ?_)
    simp only [Nat.zero_add]
    refine ldI_i e7.1 (DL.mk (x := ⟨x.id, 39⟩) fun b5 H5 hb5 d5 l5 => ?_)
    have g1 : (zs.flatMap hdC)[i * 4 + 2]? = (hdC zs[i])[2]? := flatMap_get hdC_len zs i hk2 2 (by decide)
    have w1 := oB.rd (i := i * 4 + 2) (v := .slice zs[i].2.ep zs[i].2.el zs[i].2.ec) (by rw [g1]; rfl)
    rw [Nat.zero_add] at w1
    refine ldL_i (l5.rd w1) (ldI_i d5.1 (ldI_i d5.2 (ldI_i d5.1 (ldI_i d5.2 ⟨l5.rd w1, ?_⟩))))
    intro b6 hb6
    have l6' := Le.upd (c := [.int .u32 x.id, .int .i64 (39 : Int), .int .u32 x.id, .int .i64 (39 : Int)]) hb6
    have l56 := l5.trans l6'
    refine ⟨l56.rd w1, ?_⟩
    obtain ⟨_, A, E, Q⟩ := oE i hk hk2
    have hge := (f5 _ (List.getElem_mem hk)).2
    have hmz : ∀ q ∈ hdP zs[i], q ∈ zs.flatMap hdP := fun q hq => List.mem_flatMap.2 ⟨_, List.getElem_mem hk2, hq⟩
    have tz : Apart (some ⟨b2, 0, none⟩) zs[i].2.ep := t4 _ (List.mem_cons_of_mem _ (hmz _ (by simp [hdP])))
    have th : Apart (some ⟨bh, 0, none⟩) zs[i].2.ep := (List.pairwise_cons.1 pw4).1 _ (hmz _ (by simp [hdP]))
    refine (E.le l56).pushAt (te := te_api_Edge) (new := edC ⟨⟨x.id, 39⟩, ⟨x.id, 39⟩⟩) (by unfold upd; rw [if_pos rfl]; rfl) rfl (by decide) rfl (by decide) rfl rfl (by have := E.1; rw [flatMap_len edC_len] at this; simp [te_api_Edge]; omega) (fun p' c' H8 hB hp m8 => ?_) (l47.trans l56)
    have hnz : bh ∉ blkL zs[i].2.ep := fun h => th bh 0 0 rfl (blkL_mem E.zero h)
    have m8 : Mod (blkL zs[i].2.ep) H7 H8 := m8.after l56
    have e8 := e7.mod m8 (fun h => tz b2 0 0 rfl (blkL_mem E.zero h))
    have oB8 : Buf 4 H4 H8 (some ⟨bh, 0, none⟩) hl c4 (zs.flatMap hdC) := oB.mod m8 fun b' o e hb => by
      simp only [Option.some.injEq, Addr.mk.injEq] at e
      obtain ⟨rfl, _⟩ := e
      exact hnz hb
    have gl : (zs.flatMap hdC).length = zs.length * 4 := flatMap_len hdC_len zs
    refine st (m8.rd hnz w1) ?_
    have C1 := oB8.set (i := i * 4 + 2) (v := .slice p' (zs[i].2.el + 1) c') (by rw [gl]; omega) rfl
    rw [hd_set2 zs i hk2] at C1
    have M1 : Mod [bh] H8 (wr H8 bh (i * 4 + 2) (.slice p' (zs[i].2.el + 1) c')) := Mod.refl.wr (.inl (by simp))
    have hap : Apart (some ⟨bh, 0, none⟩) p' := by
      rcases hp with rfl | hp
      · exact th
      · exact apThere ((bThere oB).was l56.was) hp
    have m : Mod (bh :: blkL zs[i].2.ep) H7 (wr H8 bh (i * 4 + 2) (.slice p' (zs[i].2.el + 1) c')) := (m8.mono fun q hq => by simp [hq]).trans (M1.mono fun q hq => by simp at hq; simp [hq])
    have tb : Apart (some ⟨bh, 0, none⟩) (some ⟨b2, 0, none⟩) := (t4 _ (by simp)).symm
    refine fin (y := { x with hunks := x.hunks.set i { x.hunks[i] with edges := x.hunks[i].edges ++ [⟨⟨x.id, 39⟩, ⟨x.id, 39⟩⟩] } }) (nmod m fun q hq => ?_) (e8.mod M1 (fun h => by simp at h; subst h; exact apIrr tb)) ⟨rfl, (o1.mod m (nO E.zero (pw1 _ (by simp)).symm (pw1 _ (by simp only [List.mem_cons]; exact .inr (.inr (.inr (hmz _ (by simp [hdP])))))).symm)).sl, (o2.mod m (nO E.zero (pw2 _ (by simp)).symm (pw2 _ (by simp only [List.mem_cons]; exact .inr (.inr (hmz _ (by simp [hdP]))))).symm)).sl, (o3.mod m (nO E.zero (pw3 _ (by simp)).symm (pw3 _ (by simp only [List.mem_cons]; exact .inr (hmz _ (by simp [hdP])))).symm)).sl, ?_⟩ (ptSm_set sm (by simp; omega) fun h hh => ?_) (spoilH x (List.mem_iff_getElem.2 ⟨i, by simpa using hk, by rw [List.getElem_set_self]⟩) fun fr => spoil5 x.id fr _ _) fun e => ?_
    · rcases List.mem_cons.1 hq with rfl | hq
      · exact oB.fr _ 0 rfl
      · exact E.fr q 0 (blkL_mem E.zero hq)
    · refine HkH.of (zs := zs.set i (zs[i].1, { zs[i].2 with ep := p', el := zs[i].2.el + 1, ec := c' })) (by simp [hz]) (C1.sn hdC_len (by decide)) fun j h1 h2 => ?_
      simp only [List.length_set] at h1 h2
      by_cases hj : j = i
      · subst hj
        rw [List.getElem_set_self, List.getElem_set_self]
        have pwA := List.pairwise_flatMap.1 (List.pairwise_cons.1 pw4).2
        have pwi := pwA.1 _ (List.getElem_mem hk2)
        simp only [hdP, List.pairwise_cons, List.mem_cons, List.not_mem_nil, or_false] at pwi
        have hA : Buf 1 H4 (wr H8 bh (j * 4 + 2) (.slice p' (zs[j].2.el + 1) c')) zs[j].2.ap zs[j].2.al zs[j].2.ac _ := A.mod m (nO E.zero ((List.pairwise_cons.1 pw4).1 _ (hmz _ (by simp [hdP]))) (pwi.1 _ (.inl rfl)).symm)
        have hQ : Buf 2 H4 (wr H8 bh (j * 4 + 2) (.slice p' (zs[j].2.el + 1) c')) zs[j].2.kp zs[j].2.kl zs[j].2.kc _ := Q.mod m (nO E.zero ((List.pairwise_cons.1 pw4).1 _ (hmz _ (by simp [hdP]))) (pwi.2.1 _ rfl))
        exact ⟨(oE j hk hk2).1, hA.sl, Buf.sn (xs := x.hunks[j].edges ++ [⟨⟨x.id, 39⟩, ⟨x.id, 39⟩⟩]) edC_len (by decide) (by rw [List.flatMap_append]; exact bModA hB M1 hap), hQ.sn lidC_len (by decide)⟩
      · rw [List.getElem_set_ne (fun h => hj h.symm), List.getElem_set_ne (fun h => hj h.symm)]
        refine ⟨(oE j h1 h2).1, ((oE j h1 h2).2.modO m fun q hq => ?_).rdH⟩
        have hqm : q ∈ zs.flatMap hdP := List.mem_flatMap.2 ⟨_, List.getElem_mem h2, hq⟩
        refine nO E.zero ((List.pairwise_cons.1 pw4).1 _ hqm) ?_
        have pwA := (List.pairwise_flatMap.1 (List.pairwise_cons.1 pw4).2).2
        rw [List.pairwise_iff_getElem] at pwA
        rcases Nat.lt_or_gt_of_ne hj with hlt | hgt
        · exact (pwA j i h2 hk2 hlt q hq _ (by simp [hdP])).symm
        · exact pwA i j hk2 h2 hgt _ (by simp [hdP]) q hq
    · rcases List.mem_or_eq_of_mem_set hh with hh | rfl
      · exact sm.each h hh
      · have s := sm.each _ (List.getElem_mem hk)
        exact ⟨s.path, s.adds, by simp; omega, s.kills, s.text⟩
    · have e2 := congrArg Pt.hunks e
      have e3 : x.hunks[i]? = (x.hunks.set i { x.hunks[i] with edges := x.hunks[i].edges ++ [⟨⟨x.id, 39⟩, ⟨x.id, 39⟩⟩] })[i]? := by
        have : x.hunks = x.hunks.set i { x.hunks[i] with edges := x.hunks[i].edges ++ [⟨⟨x.id, 39⟩, ⟨x.id, 39⟩⟩] } := e2
        rw [← this]
      rw [List.getElem?_set_self hk, List.getElem?_eq_getElem hk] at e3
      exact lenz (by simp) (congrArg Hk.edges (Option.some.inj e3))

theorem patchSpoils_own : ownKnob Try.prog.godebug = none := by kernel_rfl
theorem patchSpoils_laid : laidOutB Try.prog = true := by kernel_rfl
set_option maxRecDepth 100000 in
theorem patchSpoils_lifted (os : Os) (started : os.Started) (H : Type) (enc : TypeId × Value → H) :
    ReturnsInHanded {} Try.checked os 4 .any (Rows.patchSpoilsSpec.pre6 enc Try.prog Try.f4 Rows.patchSpoilsRow.domain false) (Rows.patchSpoilsSpec.post enc Try.prog Try.f4 false true false false) := by
  refine returnsInHanded_of_change (C := Try.checked) patchSpoils_own started (by kernel_rfl) Try.func4
    (ChangeSpec.witness6 (enc := enc) (C := Try.checked) false ⟨#[], #[.agg #[.int .u32 (0 : Int), .slice none 0 0, .slice none 0 0, .slice none 0 0, .slice none 0 0], .int .u8 0, .int .u8 0], []⟩ 8 (by kernel_rfl) (by kernel_rfl) (by kernel_rfl) (by kernel_rfl)) ?_
  intro W base args ds gs before hval0 hW hcnd _
  have hval : ∀ (j : Nat) t v, Try.f4.params[j]? = some t → args[j]? = some v → Value.okWide Try.prog W .any base t v := hval0
  have hW' := hW
  obtain ⟨p, q, hA0, hV, rfl, hfz, hnd⟩ := hW
  have hA : DataW.TrodAll enc Try.prog W 0 (fun _ => true) true Try.f4.params.toList args.toList ds p := hA0
  rw [Try.params4] at hA hval
  obtain ⟨v0, v1, v2, d0, d1, d2, p0, p1, p2, rfl, rfl, rfl, h0, h1, h2⟩ := trodAll_three hA
  obtain ⟨cs0, x0, rfl, s0⟩ := openSt Try.underlying27 (opens_st Try.underlying27 (by kernel_rfl) (opensF_cons rfl (opens_int Try.underlying22 (by kernel_rfl)) rfl (opensF_cons rfl (opens_sl (by decide) Try.underlying23 (by kernel_rfl) (opens_int Try.underlying22 (by kernel_rfl))) rfl (opensF_cons rfl (opens_sl (by decide) Try.underlying24 (by kernel_rfl) (opens_str Try.underlying9 (by kernel_rfl))) rfl (opensF_cons rfl (opens_sl (by decide) Try.underlying24 (by kernel_rfl) (opens_str Try.underlying9 (by kernel_rfl))) rfl (opensF_one rfl (opens_sl (by decide) Try.underlying25 (by kernel_rfl) (opens_st Try.underlying34 (by kernel_rfl) (opensF_cons rfl (opens_str Try.underlying9 (by kernel_rfl)) rfl (opensF_cons rfl (opens_sl (by decide) Try.underlying24 (by kernel_rfl) (opens_str Try.underlying9 (by kernel_rfl))) rfl (opensF_cons rfl (opens_sl (by decide) Try.underlying31 (by kernel_rfl) (opens_st Try.underlying38 (by kernel_rfl) (opensF_cons rfl (opens_st Try.underlying36 (by kernel_rfl) (opensF_cons rfl (opens_int Try.underlying22 (by kernel_rfl)) rfl (opensF_one rfl (opens_int Try.underlying3 (by kernel_rfl))))) rfl (opensF_one rfl (opens_st Try.underlying36 (by kernel_rfl) (opensF_cons rfl (opens_int Try.underlying22 (by kernel_rfl)) rfl (opensF_one rfl (opens_int Try.underlying3 (by kernel_rfl))))))))) rfl (opensF_one rfl (opens_sl (by decide) Try.underlying32 (by kernel_rfl) (opens_st Try.underlying36 (by kernel_rfl) (opensF_cons rfl (opens_int Try.underlying22 (by kernel_rfl)) rfl (opensF_one rfl (opens_int Try.underlying3 (by kernel_rfl)))))))))))))))))) (hval 0 27 v0 rfl rfl) h0 (fun x hx => by simp [hx]) hfz
  obtain ⟨x1, rfl, rfl, rfl, w1⟩ := open_int Try.underlying5 (hval 1 5 v1 rfl rfl) h1
  obtain ⟨x2, rfl, rfl, rfl, w2⟩ := open_int Try.underlying5 (hval 2 5 v2 rfl rfl) h2
  refine (calls_true (patchSpoils_law s0 w1 w2) Try.func4 (by kernel_rfl)).mono fun e W' ⟨he, hk⟩ => ?_
  subst he
  exact ⟨_, rfl, post_true patchSpoils_laid hW' (by kernel_rfl) rfl rfl rfl Try.underlying4 hk⟩

theorem patchSpoils_holds : Rows.PatchSpoilsSaid :=
  OpenClaim.holds_of_wide 4 Try.f4 rfl rfl rfl rfl rfl rfl rfl ⟨rfl, rfl, rfl, rfl, rfl⟩ rfl rfl rfl rfl rfl (by kernel_rfl) Try.func4 (by kernel_rfl)
    (of_decide_eq_true (by kernel_rfl)) (by unfold Func.isWrapper; first | (rw [if_pos (by decide +kernel)]; kernel_rfl) | (rw [if_neg (by decide +kernel)]; exact ⟨rfl, rfl⟩))
    (fun os started H enc _ => patchSpoils_lifted os started H enc)

end Go.Proofs.Ytganockeifkecaa
