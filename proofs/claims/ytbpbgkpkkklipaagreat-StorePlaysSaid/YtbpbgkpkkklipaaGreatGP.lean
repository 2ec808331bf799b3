/- For every rows of patches and numbers, every number, StorePlays returns true, and what came in reads as it did: no condition. -/
import Derived.Test.YtbpbgkpkkklipaaGreatZ5
import Derived.Test.YtbpbgkpkkklipaaGreatRows
namespace Go.Proofs.YtbpbgkpkkklipaaGreat
open Go.V
open Go.ChangeShapes Go.WideShapes Go.ChangeAt Go.RowKit
section
variable {A H : Hp} {s : Option Addr} {m b : Nat} {S R : List Pt} {p : Option Addr} {l cc : Nat} {ids : List Int}
def eB (t : Bool) : Int := if t then 0 else 15
theorem need_u {K : Option Addr → Nat → Nat → Int → Hp → Prop} (hS : StAt H s m S) (hSl : S.length ≤ 1000) (h : Sl fU H p l cc ids) (hl : l ≤ 1000000)
    (hK : ∀ p' l' c' e n H', Le H H' → e = eB (thereB S ids) → Sl fU H' p' l' c' n → (if thereB S ids = true then NeedOf S ids n else n = []) → K p' l' c' e H') : store_Store_Need.C s p l cc H K :=
  store_Store_Need.c hS hSl h hl (fun e H' l' => hK _ _ _ _ [] H' l' (by rw [e]; rfl) Sl.nil (by rw [e]; rfl)) fun e n p' l' c' H' le hn hs => hK _ _ _ _ n H' le (by rw [e]; rfl) hs (by rw [if_pos e]; exact hn)
theorem needR_u {rank : Int → Nat} {K : Option Addr → Nat → Nat → Int → Hp → Prop} (hR : RfAt A H s b R) (hRl : R.length ≤ 1000) (hn : (R.map (·.id)).Nodup) (hcl : ∀ x ∈ R, ∀ d ∈ x.deps, (sGet R d).isSome = true) (hrk : Ranked R rank) (h : Sl fU H p l cc ids) (hl : l ≤ 1000)
    (hK : ∀ p' l' c' e n H', Le H H' → e = eB (thereB R ids) → Sl fU H' p' l' c' n → (if thereB R ids = true then NeedOf R ids n else n = []) → K p' l' c' e H') : centoref17_Store_Need.C s p l cc H K :=
  centoref17_Store_Need.c hR hRl hn hcl hrk h hl (fun e H' l' => hK _ _ _ _ [] H' l' (by rw [e]; rfl) Sl.nil (by rw [e]; rfl)) fun e n p' l' c' H' le hn hs => hK _ _ _ _ n H' le (by rw [e]; rfl) hs (by rw [if_pos e]; exact hn)
theorem list_u {K : Option Addr → Nat → Nat → Int → Hp → Prop} (hS : StAt H s m S) (h : Sl fU H p l cc ids) (hl : l ≤ 1000000)
    (hK : ∀ p' l' c' e ps H', Le H H' → e = eB (thereB S ids) → PtL H' p' l' c' ps → (if thereB S ids = true then ps = listS S ids else ps = []) → True → K p' l' c' e H') : store_Store_List.C s p l cc H K :=
  store_Store_List.c hS h hl (fun e H' l' => hK _ _ _ _ [] H' l' (by rw [e]; rfl) ⟨rfl, Nat.le_refl _, .inl rfl⟩ (by rw [e]; rfl) trivial) fun e p' l' c' H' le hB => hK _ _ _ _ _ H' le (by rw [e]; rfl) hB.ptL (by rw [if_pos e]) trivial
theorem listR_u {K : Option Addr → Nat → Nat → Int → Hp → Prop} (hR : RfAt A H s b R) (hRl : R.length ≤ 1000) (h : Sl fU H p l cc ids) (hl : l ≤ 1000)
    (hK : ∀ p' l' c' e zs H', Le H H' → e = eB (thereB R ids) → Lr A H' → Sn 5 pdC H' p' l' c' zs → (∀ z ∈ zs, PdS A z ∧ PtSm z.1) → (if thereB R ids = true then zs.map (·.1) = R.filter (inL ids) else zs = []) → K p' l' c' e H') : centoref17_Store_List.C s p l cc H K :=
  centoref17_Store_List.c hR hRl h hl (fun e H' l' => hK _ _ _ _ [] H' l' (by rw [e]; rfl) (hR.2.1.trans l'.lr) ⟨rfl, Nat.le_refl _, .inl rfl⟩ (by simp) (by rw [e]; rfl)) fun e p' l' c' zs H' le hA hs hz hm => hK _ _ _ _ zs H' le (by rw [e]; rfl) hA hs hz (by rw [if_pos e]; exact hm)
end
theorem storePlays_law {q0 q1 : Option Addr} {l0 c0 l1 c1 : Nat} {x0 : List PtX} {x1 : List Int} {x : Int} {H : Hp} (s0 : ptE.rows H q0 l0 c0 x0) (s1 : Sl (Value.int .u32) H q1 l1 c1 x1) (_ : ∀ x ∈ x1, (Lit.int .u32 x).wf = true) (_ : (Lit.int .u32 x).wf = true) :
    CallH prog centolaw17_StorePlays.num [.slice q0 l0 c0, .slice q1 l1 c1, .int .u32 x] H fun v H' => liftB v fun r => r = true ∧ Le H H' := by
  have hml : l0 ≤ 9223372036854775807 := Nat.le_trans s0.2.1 (Nat.le_trans s0.2.2.1 (by decide))
  have h := ptL_rep s0
  have hd : Sl fU H q1 l1 c1 x1 := s1
  clear s0 s1
  generalize x0.map toPt = xs at h
  revert hd
  generalize x1 = ids
  intro hd
  show centolaw17_StorePlays.C q0 l0 c0 q1 l1 c1 x H fun r H' => r = true ∧ Le H H'
  apply centolaw17_StorePlays.of
  have el := h.1
  have ed := hd.len
  refine centolaw17_known.c fun H1 k1 => bcn (fun h => by cases h) fun _ => ?_
  refine centolaw17_fewAll.c (h.le k1) hml fun H2 k2 => bcn (fun _ => ⟨rfl, k1.trans k2⟩) fun hf => ?_
  have k12 := k1.trans k2
  have hfew : ∀ x ∈ xs, PtSm x := fun x hx => by
    unfold fewAB at hf
    rw [Bool.and_eq_true, List.all_eq_true] at hf
    exact fewB_sm (hf.1 x hx)
  refine bcd (fun _ => ⟨rfl, k12⟩) fun h40 => ?_
  have h40' : l1 ≤ 40 := by omega
  unfold centolaw17_StorePlays.k1
  refine store_New.c fun m b H3 hm hb k3 hS => ?_
  generalize (some (⟨b, 0, none⟩ : Addr)) = s at hS ⊢
  intro r hr
  have k4 := Le.upd (c := [.slice none 0 0]) hr
  have hR0 : RfAt H2 (upd H3 r [.slice none 0 0]) (some ⟨r, 0, none⟩) r [] := ⟨none_of_le k3 hr, (k3.trans k4).lr, none, 0, 0, [], rfl, by rw [rd_upd_self]; rfl, ⟨rfl, Nat.le_refl _, .inl rfl⟩, by simp, rfl⟩
  revert k4 hR0
  generalize upd H3 r [.slice none 0 0] = H4
  intro k4 hR0
  have hmr : m ≠ r := by rintro rfl; exact hS.some hr
  have hr2 : H2 r = none := none_of_le k3 hr
  refine ⟨fun t Hx => ∃ (i : Nat) (S R : List Pt), t = (i : Nat) ∧ i ≤ l0 ∧ Le H2 Hx ∧ StAt Hx s m S ∧ RfAt H2 Hx (some ⟨r, 0, none⟩) r R ∧ SR S R, fun t _ => ((l0 : Int) - t).toNat, ⟨0, [], [], rfl, Nat.zero_le _, k3.trans k4, hS.le k4, hR0, .nil⟩, ?_⟩
  rintro t Hx ⟨i, S, R, rfl, gi, kx, hSx, hRx, sr⟩
  refine bcd (fun hlt => ?_) fun _ => ⟨rfl, k12.trans kx⟩
  have hi : i < xs.length := by omega
  refine store_Store_Copy.c hSx fun m' b' H5 hm' hb' k5 hC => ?_
  have hmm : m ≠ m' := by rintro rfl; exact hSx.some hm'
  have hm2 : H2 m' = none := none_of_le kx hm'
  have hm'r : m' ≠ r := by
    rintro rfl
    obtain ⟨_, _, p, l, c, zs, _, e2, _⟩ := hRx
    exact ne_none_of_rd e2 hm'
  generalize (some (⟨b', 0, none⟩ : Addr)) = s' at hC ⊢
  have hS5 := hSx.le k5
  have hR5 := hRx.lr k5.lr
  have k25 := kx.trans k5
  have hL5 := (h.le k12).le k25
  rcases hL5.2.2 with h0 | ⟨bb, oo, rfl, hh⟩
  · subst h0; simp at hi
  obtain ⟨dp, dl, dc, mp, ml, mc, qp, ql, qc, hp, hl', hc, g1, g2, g3, g4, g5, g6, g7⟩ := hh i hi
  -- the patch as it came in
  have hin : PtS H2 xs[i].id dp dl dc mp ml mc qp ql qc hp hl' hc xs[i] := by
    rcases (h.le k12).2.2 with h0 | ⟨b2, o2, e2, hh2⟩
    · subst h0; simp at hi
    · cases e2
      obtain ⟨dp', dl', dc', mp', ml', mc', qp', ql', qc', hp', hl2, hc', f1, f2, f3, f4, f5, f6, _⟩ := hh2 i hi
      have e2 := k25.rd f2
      have e3 := k25.rd f3
      have e4 := k25.rd f4
      have e5 := k25.rd f5
      rw [g2] at e2
      rw [g3] at e3
      rw [g4] at e4
      rw [g5] at e5
      cases e2; cases e3; cases e4; cases e5
      exact f6
  have hsm := hfew _ (List.getElem_mem hi)
  refine idxN i rfl (by omega) (nil (ldI_i g1 (ldL_i g2 (ldL_i g3 (ldL_i g4 (ldL_i g5 (idxN i rfl (by omega) (nil (ldI_i g1 (ldL_i g2 (ldL_i g3 (ldL_i g4 (ldL_i g5 ?_)))))))))))))
  refine store_Store_Add.c hS5 g6 hsm fun H6 hS6 m6 => ?_
  have lr6 := hS5.lr m6
  refine ⟨lr6 _ _ _ g1, lr6 _ _ _ g2, lr6 _ _ _ g3, lr6 _ _ _ g4, lr6 _ _ _ g5, ?_⟩
  have k26 : Le H2 H6 := m6.le k25 (by simpa using hm)
  have hRl : ∀ {S R : List Pt}, SR S R → R.length ≤ 60 := fun h => by rw [h.perm.length_eq]; exact h.ok.len
  refine centoref17_Store_Add.c (hR5.lr lr6) (Nat.le_trans (hRl sr) (by decide)) hin hsm fun H7 hR7 m7 w7 => ?_
  obtain ⟨ecode, sr'⟩ := sr.add xs[i]
  refine bcd (fun hne => absurd ecode hne) fun _ => ?_
  generalize (sAdd S xs[i]).2 = S2 at hS6 sr'
  generalize (rAdd R xs[i]).2 = R2 at hR7 sr'
  have hC7 := (hC.mod lr6 m6 (Ne.symm hmm)).lw w7 m7 hm'r
  have hS7 := hS6.lw w7 m7 hmr
  have k27 : Le H2 H7 := m7.le k26 (by simpa using hr2)
  refine store_Store_Add.c hC7 (x := pI 77777) pI_pt pI_sm fun H8 _ m8 => ?_
  have lr8 := hC7.lr m8
  have hS8 := hS7.mod lr8 m8 hmm
  have hR8 := hR7.lr lr8
  have k28 : Le H2 H8 := m8.le k27 (by simpa using hm2)
  have hd8 := (hd.le k12).le k28
  have hSl : S2.length ≤ 1000 := Nat.le_trans sr'.ok.len (by decide)
  have hRl2 : R2.length ≤ 1000 := Nat.le_trans (hRl sr') (by decide)
  have hRn : (R2.map (·.id)).Nodup := (sr'.perm.map _).nodup_iff.2 sr'.nd
  have hRc : ∀ x ∈ R2, ∀ d ∈ x.deps, (sGet R2 d).isSome = true := fun x hx d hd => by
    rw [sr'.get]; exact sr'.ok.dep x (sr'.perm.mem_iff.1 hx) d hd
  obtain ⟨rank, hrk⟩ := sr'.rank
  refine need_u hS8 hSl hd8 (by omega) fun p9 l9 c9 e9 n9 H9 k9 he9 hs9 hn9 => ?_
  refine needR_u (hR8.lr k9.lr) hRl2 hRn hRc hrk (hd8.le k9) (by omega) fun p10 l10 c10 e10 n10 H10 k10 he10 hs10 hn10 => ?_
  have k810 := k9.trans k10
  refine list_u (hS8.le k810) (hd8.le k810) (by omega) fun p11 l11 c11 e11 ps11 H11 k11 he11 hs11 ht11 hm11 => ?_
  have k811 := k810.trans k11
  refine listR_u (hR8.lr k811.lr) hRl2 (hd8.le k811) (by omega) fun p12 l12 c12 e12 zs12 H12 k12' he12 hA12 hs12 hz12 ht12 => ?_
  have k812 := k811.trans k12'
  have en : n9 = n10 := by
    cases hth : thereB S2 ids with
    | true =>
      rw [hth] at hn9
      rw [sr'.there, hth] at hn10
      exact sr'.need hn9 hn10
    | false =>
      rw [hth] at hn9
      rw [sr'.there, hth] at hn10
      exact (show n9 = [] from hn9).trans (show n10 = [] from hn10).symm
  have eps : zs12.map (·.1) = ps11 := by
    cases hth : thereB S2 ids with
    | true =>
      rw [hth] at ht11
      rw [sr'.there, hth] at ht12
      rw [show zs12.map (·.1) = _ from ht12, show ps11 = _ from ht11, sr'.list hth]
    | false =>
      rw [hth] at ht11
      rw [sr'.there, hth] at ht12
      rw [show zs12 = [] from ht12, show ps11 = [] from ht11]; rfl
  have hpl : ps11.length ≤ 1000 := by
    cases hth : thereB S2 ids with
    | true =>
      rw [hth] at ht11
      rw [show ps11 = _ from ht11, sr'.list hth]
      exact Nat.le_trans (List.length_filter_le _ _) hRl2
    | false =>
      rw [hth] at ht11
      rw [show ps11 = [] from ht11]; decide
  rw [sr'.there] at he10 he12
  subst he9 he10 he11 he12
  refine bcd (fun h => absurd rfl h) fun _ => ?_
  have hnl : n9.length ≤ 1000 := by
    cases hth : thereB S2 ids with
    | true =>
      rw [hth] at hn9
      have hn9 := (show NeedOf S2 ids n9 from hn9)
      have := nodup_len (lt_nodup hn9.1) (zs := S2.map (·.id)) fun k hk => by
        have := sr'.ok.reach hth ((hn9.2 k).1 hk)
        rw [sGet_is, decide_eq_true_eq] at this; exact this
      rw [List.length_map] at this
      omega
    | false =>
      rw [hth] at hn9
      rw [show n9 = [] from hn9]; decide
  have e9 := hs9.len
  refine centoref12_SameIDs.c (hs9.le ((k10.trans k11).trans k12')) (hs10.le (k11.trans k12')) (by omega) ?_
  rw [decide_eq_true en]
  refine bcF (bcd (fun h => absurd rfl h) fun _ => bcd (fun h => absurd (by
    have h1 := hs11.1
    have h2 := hs12.1
    rw [← eps, List.length_map] at h1
    omega) h) fun _ => ?_)
  refine store_Store_Closed.c (hS8.le k812) hSl (hd8.le k812) (by omega) fun H13 k13 => ?_
  have k813 := k812.trans k13
  refine centoref17_Store_Closed.c (hR8.lr k813.lr) hRl2 hRn hRc hrk (hd8.le k813) (by omega) fun H14 k14 => ?_
  have k814 := k813.trans k14
  refine bcd (fun h => absurd (sr'.closed ids) h) fun _ => ?_
  refine store_Store_IDs.c (hS8.le k814) (by omega) fun p15 l15 c15 H15 k15 hs15 _ _ => ?_
  have k815 := k814.trans k15
  refine centoref17_Store_IDs.c (hR8.lr k815.lr) hRl2 fun p16 l16 c16 H16 k16 hs16 => ?_
  have k816 := k815.trans k16
  have e15 := hs15.len
  rw [sIds_len sr'.nd] at e15
  refine centoref12_SameIDs.c (hs15.le k16) hs16 (by omega) ?_
  rw [decide_eq_true sr'.ids]
  refine bcF ?_
  refine store_Store_Users.c (hS8.le k816) (hd8.le k816) (by omega) fun p17 l17 c17 H17 k17 hs17 => ?_
  have k817 := k816.trans k17
  refine centoref17_Store_Users.c (hR8.lr k817.lr) hRl2 (hd8.le k817) (by omega) fun p18 l18 c18 H18 k18 hs18 => ?_
  have k818 := k817.trans k18
  have e18 := hs18.len
  have eu := sr'.users ids x
  have hul : (usersR R2 ids x).length ≤ R2.length := by
    unfold usersR
    rw [List.length_map]
    exact List.length_filter_le _ _
  refine centoref12_SameIDs.c (hs17.le k18) hs18 (by have := hs17.len; rw [eu] at this; omega) ?_
  rw [decide_eq_true eu]
  refine bcF ?_
  have kk : Le H11 H18 := ((((((k12'.trans k13).trans k14).trans k15).trans k16).trans k17).trans k18)
  have kk2 : Le H12 H18 := (((((k13.trans k14).trans k15).trans k16).trans k17).trans k18)
  have hsm11 : ∀ x ∈ ps11, PtSm x := fun x hx => by
    rw [← eps] at hx
    obtain ⟨z, hz, rfl⟩ := List.mem_map.1 hx
    exact (hz12 z hz).2
  unfold centolaw17_StorePlays.k2
  have hl11 := hs11.1
  refine ⟨fun t Hy => ∃ j : Nat, t = (j : Nat) ∧ j ≤ ps11.length ∧ Le H18 Hy, fun t _ => ((ps11.length : Int) - t).toNat, ⟨0, rfl, Nat.zero_le _, Le.refl _⟩, ?_⟩
  rintro t Hy ⟨j, rfl, gj, ly⟩
  refine bcd (fun hlt => ?_) fun _ => ?_
  · have hj : j < ps11.length := by omega
    have hjz : j < zs12.length := by rw [← eps, List.length_map] at hj; exact hj
    have ej : ps11[j] = zs12[j].1 := by subst eps; exact List.getElem_map ..
    refine rsP ((hs11.le kk).le ly) rfl hj fun dp dl dc mp ml mc qp ql qc hp hl hc hx _ => rsZ ((hs12.le kk2).le ly) rfl hjz ?_
    refine centoref12_Same.c hx (PtS.lr (hz12 _ (List.getElem_mem hjz)).1 ((hA12.trans kk2.lr).trans ly.lr)) (hsm11 _ (List.getElem_mem hj)) fun H19 k19 => ?_
    rw [decide_eq_true ej]
    exact bcF (chk (by omega) ⟨⟨j + 1, by omega, by omega, ly.trans k19⟩, by first | omega | (dsimp only; omega)⟩)
  have k8y := k818.trans ly
  have fin : ∀ Hz, Le Hy Hz → (∃ i' : Nat, ∃ S R : List Pt, ((i : Nat) : Int) + 1 = (i' : Nat) ∧ i' ≤ l0 ∧ Le H2 Hz ∧ StAt Hz s m S ∧ RfAt H2 Hz (some ⟨r, 0, none⟩) r R ∧ SR S R) := fun Hz lz => ⟨i + 1, S2, R2, by omega, by omega, (k28.trans k8y).trans lz, (hS8.le k8y).le lz, (hR8.lr k8y.lr).lr lz.lr, sr'⟩
  refine store_Store_Get.c (hS8.le k8y) (fun hg H20 k20 => D5.mk fun o H21 _ d21 k21 => ?_) fun y p1 a1 p2 a2 p3 a3 p4 a4 H20 d1 d2 d3 d4 zs A hg k20 _ ho hsy => D5.mk fun o H21 _ d21 k21 => ?_
  · have k8z := (k8y.trans k20).trans k21
    refine centoref17_Store_Get.c (hR8.lr k8z.lr) hRl2 (fun _ H22 k22 => D5.mk fun o2 H23 _ d23 k23 => ?_) fun y d H22 hg2 _ _ _ _ => by rw [sr'.get, hg] at hg2; cases hg2
    refine bcd (fun h => absurd rfl h) fun _ => ?_
    have d21' := (d21.le k22).le k23
    refine D5.get d21' (D5.get d23 (centoref12_Same.c xz_pt xz_pt xz_sm fun H24 k24 => ?_))
    rw [decide_eq_true rfl]
    exact bcF (chk (by omega) ⟨fin H24 ((((k20.trans k21).trans k22).trans k23).trans k24), by first | omega | (dsimp only; omega)⟩)
  · have k8z := (k8y.trans k20).trans k21
    refine centoref17_Store_Get.c (hR8.lr k8z.lr) hRl2 (fun hg2 _ _ => by rw [sr'.get, hg] at hg2; cases hg2) fun y2 d H22 hg2 k22 hy2 lr22 _ => D5.mk fun o2 H23 _ d23 k23 => ?_
    rw [sr'.get, hg] at hg2
    cases hg2
    refine bcd (fun h => absurd rfl h) fun _ => ?_
    have d21' := (d21.le k22).le k23
    refine D5.get d21' (D5.get d23 (centoref12_Same.c (((ho.pt.up k21).up k22).up k23) (PtS.lr hy2 (lr22.trans k23.lr)) hsy fun H24 k24 => ?_))
    rw [decide_eq_true rfl]
    exact bcF (chk (by omega) ⟨fin H24 ((((k20.trans k21).trans k22).trans k23).trans k24), by first | omega | (dsimp only; omega)⟩)

theorem storePlays_own : ownKnob Tryz.prog.godebug = none := by kernel_rfl
theorem storePlays_laid : laidOutB Tryz.prog = true := by kernel_rfl
set_option maxRecDepth 100000 in
theorem storePlays_lifted (os : Os) (started : os.Started) (H : Type) (enc : TypeId × Value → H) :
    ReturnsInHanded {} Tryz.checked os 3 .any (Rows.storePlaysSpec.pre6 enc Tryz.prog Tryz.f3 Rows.storePlaysRow.domain false) (Rows.storePlaysSpec.post enc Tryz.prog Tryz.f3 false true false false) := by
  refine returnsInHanded_of_change (C := Tryz.checked) storePlays_own started (by kernel_rfl) Tryz.func3
    (ChangeSpec.witness6 (enc := enc) (C := Tryz.checked) false ⟨#[], #[.slice Option.none 0 0, .slice Option.none 0 0, .int .u32 0], []⟩ 8 (by kernel_rfl) (by kernel_rfl) (by kernel_rfl) (by kernel_rfl)) ?_
  intro W base args ds gs before hval0 hW hcnd _
  have hval : ∀ (j : Nat) t v, Tryz.f3.params[j]? = some t → args[j]? = some v → Value.okWide Tryz.prog W .any base t v := hval0
  have hW' := hW
  obtain ⟨p, q, hA0, hV, rfl, hfz, hnd⟩ := hW
  have hA : DataW.TrodAll enc Tryz.prog W 0 (fun _ => true) true Tryz.f3.params.toList args.toList ds p := hA0
  rw [Tryz.params3] at hA hval
  obtain ⟨v0, v1, v2, d0, d1, d2, p0, p1, p2, rfl, rfl, rfl, h0, h1, h2⟩ := trodAll_three hA
  obtain ⟨q0, l0, c0, x0, rfl, s0⟩ := openSl (by decide) Tryz.underlying22 (opens_st Tryz.underlying37 (by kernel_rfl) (opensF_cons rfl (opens_int Tryz.underlying24 (by kernel_rfl)) rfl (opensF_cons rfl (opens_sl (by decide) Tryz.underlying23 (by kernel_rfl) (opens_int Tryz.underlying24 (by kernel_rfl))) rfl (opensF_cons rfl (opens_sl (by decide) Tryz.underlying34 (by kernel_rfl) (opens_str Tryz.underlying9 (by kernel_rfl))) rfl (opensF_cons rfl (opens_sl (by decide) Tryz.underlying34 (by kernel_rfl) (opens_str Tryz.underlying9 (by kernel_rfl))) rfl (opensF_one rfl (opens_sl (by decide) Tryz.underlying35 (by kernel_rfl) (opens_st Tryz.underlying76 (by kernel_rfl) (opensF_cons rfl (opens_str Tryz.underlying9 (by kernel_rfl)) rfl (opensF_cons rfl (opens_sl (by decide) Tryz.underlying34 (by kernel_rfl) (opens_str Tryz.underlying9 (by kernel_rfl))) rfl (opensF_cons rfl (opens_sl (by decide) Tryz.underlying73 (by kernel_rfl) (opens_st Tryz.underlying91 (by kernel_rfl) (opensF_cons rfl (opens_st Tryz.underlying89 (by kernel_rfl) (opensF_cons rfl (opens_int Tryz.underlying24 (by kernel_rfl)) rfl (opensF_one rfl (opens_int Tryz.underlying3 (by kernel_rfl))))) rfl (opensF_one rfl (opens_st Tryz.underlying89 (by kernel_rfl) (opensF_cons rfl (opens_int Tryz.underlying24 (by kernel_rfl)) rfl (opensF_one rfl (opens_int Tryz.underlying3 (by kernel_rfl))))))))) rfl (opensF_one rfl (opens_sl (by decide) Tryz.underlying74 (by kernel_rfl) (opens_st Tryz.underlying89 (by kernel_rfl) (opensF_cons rfl (opens_int Tryz.underlying24 (by kernel_rfl)) rfl (opensF_one rfl (opens_int Tryz.underlying3 (by kernel_rfl)))))))))))))))))) (hval 0 22 v0 rfl rfl) h0 (fun x hx => by simp [hx]) hfz
  obtain ⟨q1, l1, c1, x1, rfl, s1⟩ := openSl (by decide) Tryz.underlying23 (opens_int Tryz.underlying24 (by kernel_rfl)) (hval 1 23 v1 rfl rfl) h1 (fun x hx => by simp [hx]) hfz
  obtain ⟨x2, rfl, rfl, rfl, w2⟩ := open_int Tryz.underlying24 (hval 2 24 v2 rfl rfl) h2
  refine (calls_true (storePlays_law s0 s1.ints s1.wf w2) Tryz.func3 (by kernel_rfl)).mono fun e W' ⟨he, hk⟩ => ?_
  subst he
  exact ⟨_, rfl, post_true storePlays_laid hW' (by kernel_rfl) rfl rfl rfl Tryz.underlying4 hk⟩

theorem storePlays_holds : Rows.StorePlaysSaid :=
  OpenClaim.holds_of_wide 3 Tryz.f3 rfl rfl rfl rfl rfl rfl rfl ⟨rfl, rfl, rfl, rfl, rfl⟩ rfl rfl rfl rfl rfl (by kernel_rfl) Tryz.func3 (by kernel_rfl)
    (of_decide_eq_true (by kernel_rfl)) (by unfold Func.isWrapper; first | (rw [if_pos (by decide +kernel)]; kernel_rfl) | (rw [if_neg (by decide +kernel)]; exact ⟨rfl, rfl⟩))
    (fun os started H enc _ => storePlays_lifted os started H enc)

end Go.Proofs.YtbpbgkpkkklipaaGreat
