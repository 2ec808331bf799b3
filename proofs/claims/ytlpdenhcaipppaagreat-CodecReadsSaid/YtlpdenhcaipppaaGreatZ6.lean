/- Contracts and plain laws that the claim rests on, for every input: no condition. -/
import Derived.Test.YtlpdenhcaipppaaGreatZ5
namespace Go.Proofs.YtlpdenhcaipppaaGreat
open Go.V
/-! ### The document's reading: patches -/
section
variable {H : Hp} {b : Nat} {id : Int} {dp mp qp hp ap' : Option Addr} {dl dc ml mc ql qc hl hc al' ac' : Nat} {F : Hp → Prop}
theorem pt_1 (h : D5 H b id dp dl dc mp ml mc qp ql qc hp hl hc) (hF : ∀ H', D5 H' b id ap' al' ac' mp ml mc qp ql qc hp hl hc → Mod [b] H H' → F H') : ST H b 1 (.slice ap' al' ac') F := by
  refine st h.2.1 (hF _ ⟨?_, rd_wr_self h.2.1, ?_, ?_, ?_⟩ (Mod.refl.wr (.inl (by simp))))
  · rw [rd_wr_off (by decide)]; exact h.1
  · rw [rd_wr_off (by decide)]; exact h.2.2.1
  · rw [rd_wr_off (by decide)]; exact h.2.2.2.1
  · rw [rd_wr_off (by decide)]; exact h.2.2.2.2
theorem pt_2 (h : D5 H b id dp dl dc mp ml mc qp ql qc hp hl hc) (hF : ∀ H', D5 H' b id dp dl dc ap' al' ac' qp ql qc hp hl hc → Mod [b] H H' → F H') : ST H b 2 (.slice ap' al' ac') F := by
  refine st h.2.2.1 (hF _ ⟨?_, ?_, rd_wr_self h.2.2.1, ?_, ?_⟩ (Mod.refl.wr (.inl (by simp))))
  · rw [rd_wr_off (by decide)]; exact h.1
  · rw [rd_wr_off (by decide)]; exact h.2.1
  · rw [rd_wr_off (by decide)]; exact h.2.2.2.1
  · rw [rd_wr_off (by decide)]; exact h.2.2.2.2
theorem pt_3 (h : D5 H b id dp dl dc mp ml mc qp ql qc hp hl hc) (hF : ∀ H', D5 H' b id dp dl dc mp ml mc ap' al' ac' hp hl hc → Mod [b] H H' → F H') : ST H b 3 (.slice ap' al' ac') F := by
  refine st h.2.2.2.1 (hF _ ⟨?_, ?_, ?_, rd_wr_self h.2.2.2.1, ?_⟩ (Mod.refl.wr (.inl (by simp))))
  · rw [rd_wr_off (by decide)]; exact h.1
  · rw [rd_wr_off (by decide)]; exact h.2.1
  · rw [rd_wr_off (by decide)]; exact h.2.2.1
  · rw [rd_wr_off (by decide)]; exact h.2.2.2.2
theorem pt_4 (h : D5 H b id dp dl dc mp ml mc qp ql qc hp hl hc) (hF : ∀ H', D5 H' b id dp dl dc mp ml mc qp ql qc ap' al' ac' → Mod [b] H H' → F H') : ST H b 4 (.slice ap' al' ac') F := by
  refine st h.2.2.2.2 (hF _ ⟨?_, ?_, ?_, ?_, rd_wr_self h.2.2.2.2⟩ (Mod.refl.wr (.inl (by simp))))
  · rw [rd_wr_off (by decide)]; exact h.1
  · rw [rd_wr_off (by decide)]; exact h.2.1
  · rw [rd_wr_off (by decide)]; exact h.2.2.1
  · rw [rd_wr_off (by decide)]; exact h.2.2.2.1
end
def getD (s : BL) : Option (Pt × BL) := match pPt limD s with
  | some (x, r) => if isB x = true then some (x, r) else none
  | none => none
theorem limD_sm : LimSm limD := ⟨by decide, by decide, by decide, by decide, by decide, by decide, by decide, by decide, by decide⟩
theorem okLn_up {x : Lid} (h : okLn 40 x) : okLn 1000 x := ⟨h.1, h.2.1, by have := h.2.2; omega⟩
theorem okH_up {h : Hk} (o : okH limC h) : okH limD h :=
  ⟨Nat.le_trans o.path (by decide), Nat.le_trans o.adds (by decide), fun s hs => Nat.le_trans (o.text s hs) (by decide), Nat.le_trans o.edges (by decide), fun e he => ⟨okLn_up (o.eds e he).1, okLn_up (o.eds e he).2⟩, Nat.le_trans o.kills (by decide), fun k hk => okLn_up (o.kls k hk)⟩
theorem okP_up {x : Pt} (o : okP limC x) : okP limD x :=
  ⟨o.id, Nat.le_trans o.deps (by decide), o.dps, Nat.le_trans o.makes (by decide), fun s hs => Nat.le_trans (o.mks s hs) (by decide), Nat.le_trans o.drops (by decide), fun s hs => Nat.le_trans (o.dps' s hs) (by decide), Nat.le_trans o.hunks (by decide), fun h hh => okH_up (o.hks h hh)⟩
theorem getD_of {s : BL} {x : Pt} {r : BL} (h : getD s = some (x, r)) : getC s = some (x, r) := by
  unfold getD at h
  cases hp : pPt limD s with
  | none => rw [hp] at h; cases h
  | some c =>
    obtain ⟨y, r1⟩ := c
    rw [hp] at h
    dsimp only at h
    by_cases hb : isB y = true
    · rw [if_pos hb] at h
      simp only [Option.some.injEq, Prod.mk.injEq] at h
      obtain ⟨rfl, rfl⟩ := h
      obtain ⟨o, e⟩ := (rt_Pt limD_sm).rd _ _ _ hp
      rw [e]
      exact get_put hb (okP_u o) _
    · rw [if_neg hb] at h; cases h
theorem getD_to {s : BL} {x : Pt} {r : BL} (h : getC s = some (x, r)) : getD s = some (x, r) := by
  obtain ⟨hb, u, e⟩ := put_get h
  unfold getD
  rw [e, (rt_Pt limD_sm).wr x r (okP_up (isB_ok hb u))]
  dsimp only
  rw [if_pos hb]
theorem getDC : getD = getC := by
  funext s
  cases h : getC s with
  | some c => obtain ⟨x, r⟩ := c; exact getD_to h
  | none =>
    cases h2 : getD s with
    | none => rfl
    | some c => obtain ⟨x, r⟩ := c; rw [getD_of h2] at h; cases h
theorem hk_stable {q : Nat} {P : Option Addr} {A Hx : Hp} {L c : Nat} {xs : List Hk} {zs : List (BL × HD)} (hz : zs.length = xs.length) (h : Sn 4 hdC Hx P L c zs) (hP : New A P) (hh : ∀ j (h1 : j < xs.length) (h2 : j < zs.length), HkI q P A Hx xs[j] zs[j]) : ∀ O H'', (∀ b ∈ O, A b ≠ none ∨ Hx b = none) → Mod O Hx H'' → HkH H'' P L c xs := fun O H'' hO m =>
  HkH.of (zs := zs) hz (sn_modS hdC_len (by decide) h hP m hO) fun j h1 h2 => ⟨(hh j h1 h2).path, rdH_modS (hh j h1 h2).rd (fun a ha => (hh j h1 h2).nw a ha) m hO⟩
/-- What stands while a patch's hunks are read. -/
structure Gst (b0 : Nat) (P3 P4 P5 : Option Addr) (L3 c3 c4 c5 : Nat) (ds : List Int) (ms qs : List BL) (Hx : Hp) : Prop where
  d0 : D5 Hx b0 0 none 0 0 none 0 0 none 0 0 none 0 0
  s3 : Sl fU Hx P3 L3 c3 ds
  s4 : Sl sv Hx P4 ms.length c4 ms
  s5 : Sl sv Hx P5 qs.length c5 qs
  t3 : There Hx P3
  t4 : There Hx P4
  t5 : There Hx P5
theorem Gst.mod {b0 : Nat} {P3 P4 P5 : Option Addr} {L3 c3 c4 c5 : Nat} {ds : List Int} {ms qs : List BL} {Hx H' : Hp} {O : List Nat} (h : Gst b0 P3 P4 P5 L3 c3 c4 c5 ds ms qs Hx) (m : Mod O Hx H') (hO : ∀ y ∈ b0 :: (blkL P3 ++ (blkL P4 ++ blkL P5)), y ∉ O) : Gst b0 P3 P4 P5 L3 c3 c4 c5 ds ms qs H' :=
  ⟨h.d0.mod m (hO _ (by simp)), h.s3.mod m fun b o e => hO b (by rw [e]; simp [blkL]), h.s4.mod m fun b o e => hO b (by rw [e]; simp [blkL]), h.s5.mod m fun b o e => hO b (by rw [e]; simp [blkL]), h.t3.mod m fun b o e => hO b (by rw [e]; simp [blkL]), h.t4.mod m fun b o e => hO b (by rw [e]; simp [blkL]), h.t5.mod m fun b o e => hO b (by rw [e]; simp [blkL])⟩
theorem Gst.th {b0 : Nat} {P3 P4 P5 : Option Addr} {L3 c3 c4 c5 : Nat} {ds : List Int} {ms qs : List BL} {Hx : Hp} (h : Gst b0 P3 P4 P5 L3 c3 c4 c5 ds ms qs Hx) (z3 : ∀ y ∈ blkL P3, P3 = some ⟨y, 0, none⟩) (z4 : ∀ y ∈ blkL P4, P4 = some ⟨y, 0, none⟩) (z5 : ∀ y ∈ blkL P5, P5 = some ⟨y, 0, none⟩) : ∀ y ∈ b0 :: (blkL P3 ++ (blkL P4 ++ blkL P5)), Hx y ≠ none := fun y hy => by
  rcases List.mem_cons.1 hy with rfl | hy
  · exact h.d0.there
  · rcases List.mem_append.1 hy with hy | hy
    · exact h.t3 y 0 (z3 y hy)
    · rcases List.mem_append.1 hy with hy | hy
      · exact h.t4 y 0 (z4 y hy)
      · exact h.t5 y 0 (z5 y hy)
theorem centoref18_Get.c {s : BL} {H : Hp} {K : Int → Option Addr → Nat → Nat → Option Addr → Nat → Nat → Option Addr → Nat → Nat → Option Addr → Nat → Nat → ByteArray → Bool → Hp → Prop} (hbad : getD s = none → ∀ H', Le H H' → K 0 none 0 0 none 0 0 none 0 0 none 0 0 (mkB s) false H')
    (hok : ∀ x r, getD s = some (x, r) → PtSm x → ∀ dp dl dc mp ml mc qp ql qc hp hl hc H', Le H H' → PtS H' x.id dp dl dc mp ml mc qp ql qc hp hl hc x → Stb H H' (fun Hy => PtS Hy x.id dp dl dc mp ml mc qp ql qc hp hl hc x) → K x.id dp dl dc mp ml mc qp ql qc hp hl hc (mkB r) true H') : centoref18_Get.C (mkB s) H K := by
  apply centoref18_Get.of
  refine newD5 fun b0 H0 hb0 d0 l0 => ?_
  intro q hq
  have n0q : b0 ≠ q := fun e => by subst e; exact d0.there hq
  have l1 := Le.upd (c := [.string (mkB s), .bool true]) hq
  have rr : Ri (upd H0 q [.string (mkB s), .bool true]) q s false := ⟨by rw [rd_upd_self]; rfl, by rw [rd_upd_self]; rfl⟩
  have d0 := d0.le l1
  have l01 := l0.trans l1
  have hqH := none_of_le l0 hq
  generalize upd H0 q [.string (mkB s), .bool true] = H1 at *
  have hn0 : b0 ∉ [q] := by simpa using n0q
  have a0 : mn q H1 b0 ≠ none := by unfold mn; rw [if_neg n0q]; exact d0.there
  have lHA : Le H (mn q H1) := fun b v e => by
    have : b ≠ q := fun h => by subst h; rw [hqH] at e; cases e
    unfold mn; rw [if_neg this]; exact l01 b v e
  refine centoref18_in_id.c rr fun id l2 g2 H2 m2 r2 o2 => D5.mk fun b9 H3 hb9 d9 l3 => ?_
  have n9q : b9 ≠ q := r2.ne hb9
  have hn9 : b9 ∉ [q] := by simpa using n9q
  have d02 := d0.mod m2 hn0
  have n09 : b0 ≠ b9 := fun e => by subst e; exact d02.there hb9
  have A2 : Le (mn q H1) H2 := mn_le m2
  have a9 : mn q H1 b9 = none := none_of_le A2 hb9
  refine centoref18_in_num.c (m := 1000) rfl (r2.le l3) fun n5 l5 g5 H5 m5 r5 o5 hn5 => ?_
  have d9 := d9.mod m5 hn9
  have d0 := (d02.le l3).mod m5 hn0
  have A5 : Le (mn q H1) H5 := m5.le (A2.trans l3) (by simpa using mn_q)
  clear d02 A2 m5 l3 r2 m2 rr hb9
  refine ⟨fun t Hx => ∃ i P L c xs l' g, t = ((i : Nat) : Int) ∧ i ≤ n5 ∧ RA pID 1 (fun x => [fU x]) q (mn q H1) n5 l5 g5 i P L c Hx xs l' g ∧ D5 Hx b9 id P L c none 0 0 none 0 0 none 0 0 ∧ D5 Hx b0 0 none 0 0 none 0 0 none 0 0 none 0 0 ∧ (∀ y ∈ [b9, b0], y ∉ blkL P), fun t _ => ((n5 : Int) - t).toNat, ⟨0, none, 0, 0, [], l5, g5, rfl, Nat.zero_le _, RA.start A5 r5, d9, d0, by simp [blkL]⟩, ?_⟩
  clear d9 d0 A5
  rintro t Hx ⟨i, P, L, c, xs, l', g, rfl, gi, hR, d9, d0, hk⟩
  refine bcd (fun hlt => ldB_i hR.rr.2 (bc_i (fun hg => ?_) fun hg => ?_)) fun hlt => ?_
  · have hg : g = false := by simpa using hg
    subst hg
    unfold centoref18_Get.k1
    refine ldL_i d9.2.1 (centoref18_in_id.c hR.rr fun x l6 g6 H6 m6 r6 o6 => ?_)
    have d9 := d9.mod m6 hn9
    have d0 := d0.mod m6 hn0
    refine ⟨d9.2.1, ?_⟩
    intro b10 hb10
    have l10 := Le.upd (c := [fU x]) hb10
    have d9 := d9.le l10
    have d0 := d0.le l10
    refine ⟨d9.2.1, hR.push (x := x) (te := te_uint32) mn_q (by omega) m6 r6 o6 hb10 rfl (by decide) rfl (by decide) rfl rfl (by simp [te_uint32]; omega) rfl rfl fun P' c' H11 hR' m11 out => ?_⟩
    have k9 := out b9 d9.there (hk b9 (by simp))
    have k0 := out b0 d0.there (hk b0 (by simp))
    refine pt_1 (d9.mod m11 (hk b9 (by simp))) fun H12 d12 m12 => chk (by omega) ⟨⟨i + 1, P', L + 1, c', xs ++ [x], l6, g6, by omega, by omega, hR'.modz m12 k9 n9q a9, d12, (d0.mod m11 (hk b0 (by simp))).mod m12 (by simpa using n09), ?_⟩, by first | omega | (dsimp only; omega)⟩
    intro y hy
    simp only [List.mem_cons, List.not_mem_nil, or_false] at hy
    rcases hy with rfl | rfl
    · exact k9
    · exact k0
  · have hend : i = n5 ∨ g = true := .inr (by simpa using hg)
    have e1 := hR.li
    have e2 := hR.xi
    have oD := hR.inv.out hend o5
    have s3 : Sl fU Hx P L c xs := sl_of_buf hR.buf
    have w3 : New (mn q H1) P := hR.buf.fr
    have t3 : There Hx P := fun b o e => hR.buf.there e
    have z3 : ∀ y ∈ blkL P, P = some ⟨y, 0, none⟩ := fun y hy => blkL_mem hR.buf.zero hy
    have A8 := hR.le
    have r8 := hR.rr
    have q3 := hR.ap
    have le3 : xs.length ≤ 1000 := by omega
    clear hR hend hlt
    have p3q : ∀ b o, P = some ⟨b, o, none⟩ → b ∉ [q] := fun b o e hb => q3 (by simp at hb; subst hb; rw [e]; simp [blkL])
    have p39 : ∀ b o, P = some ⟨b, o, none⟩ → b ∉ [b9] := fun b o e hb => hk b9 (by simp) (by simp at hb; subst hb; rw [e]; simp [blkL])
    have k0 := hk b0 (by simp)
    refine centoref18_in_texts.c r8 fun P4 c4 ms l9 g9 H9 m9 r9 s4 w4 t4 z4 b4 b4' o9 => ?_
    have e9 : ∀ y ∈ [b9], Hx y ≠ none := fun y hy => by simp at hy; subst hy; exact d9.there
    have e0 : ∀ y ∈ [b0], Hx y ≠ none := fun y hy => by simp at hy; subst hy; exact d0.there
    have eq : ∀ y ∈ [q], Hx y ≠ none := fun y hy => by simp at hy; subst hy; exact r8.there
    have p4q := new_not w4 eq
    have p49 := new_not w4 e9
    have p40 := new_not w4 e0
    refine pt_2 (d9.mod m9 hn9) fun H10 d10 m10 => ?_
    have d0 := (d0.mod m9 hn0).mod m10 (by simpa using n09)
    have s3 := (s3.mod m9 p3q).mod m10 p39
    have t3 := (t3.mod m9 p3q).mod m10 p39
    have s4 := s4.mod m10 p49
    have t4 := t4.mod m10 p49
    have w4 : New (mn q H1) P4 := w4.le A8
    have A10 : Le (mn q H1) H10 := m10.le (m9.le A8 (by simpa using mn_q)) (by simpa using a9)
    have r10 := r9.mod m10 (by simpa using Ne.symm n9q)
    clear A8 r9 m9 m10 d9 r8 e9 e0 eq
    refine centoref18_in_texts.c r10 fun P5 c5 qs l11 g11 H11 m11 r11 s5 w5 t5 z5 b5 b5' o11 => ?_
    have e9 : ∀ y ∈ [b9], H10 y ≠ none := fun y hy => by simp at hy; subst hy; exact d10.there
    have e0 : ∀ y ∈ [b0], H10 y ≠ none := fun y hy => by simp at hy; subst hy; exact d0.there
    have eq : ∀ y ∈ [q], H10 y ≠ none := fun y hy => by simp at hy; subst hy; exact r10.there
    have p5q := new_not w5 eq
    have p59 := new_not w5 e9
    have p50 := new_not w5 e0
    refine pt_3 (d10.mod m11 hn9) fun H12 d12 m12 => ?_
    have d0 := (d0.mod m11 hn0).mod m12 (by simpa using n09)
    have s3 := (s3.mod m11 p3q).mod m12 p39
    have t3 := (t3.mod m11 p3q).mod m12 p39
    have s4 := (s4.mod m11 p4q).mod m12 p49
    have t4 := (t4.mod m11 p4q).mod m12 p49
    have s5 := s5.mod m12 p59
    have t5 := t5.mod m12 p59
    have w5 : New (mn q H1) P5 := w5.le A10
    have A12 : Le (mn q H1) H12 := m12.le (m11.le A10 (by simpa using mn_q)) (by simpa using a9)
    have r12 := r11.mod m12 (by simpa using Ne.symm n9q)
    clear A10 r11 m11 m12 d10 r10 e9 e0 eq
    have G12 : Gst b0 P P4 P5 L c c4 c5 xs ms qs H12 := ⟨d0, s3, s4, s5, t3, t4, t5⟩
    clear d0 s3 s4 s5 t3 t4 t5
    have mk : ∀ {z : Nat}, b0 ≠ z → (∀ b o, P = some ⟨b, o, none⟩ → b ∉ [z]) → (∀ b o, P4 = some ⟨b, o, none⟩ → b ∉ [z]) → (∀ b o, P5 = some ⟨b, o, none⟩ → b ∉ [z]) → ∀ y ∈ b0 :: (blkL P ++ (blkL P4 ++ blkL P5)), y ∉ [z] := fun {z} h0 h3 h4 h5 y hy => by
      rcases List.mem_cons.1 hy with rfl | hy
      · simpa using h0
      · rcases List.mem_append.1 hy with hy | hy
        · exact h3 y 0 (z3 y hy)
        · rcases List.mem_append.1 hy with hy | hy
          · exact h4 y 0 (z4 y hy)
          · exact h5 y 0 (z5 y hy)
    have kq := mk n0q p3q p4q p5q
    have k9 := mk n09 p39 p49 p59
    refine centoref18_in_num.c (m := 1000) rfl r12 fun n13 l13 g13 H13 m13 r13 o13 hn13 => ?_
    have d13 := d12.mod m13 hn9
    have G13 := G12.mod m13 kq
    have A13 : Le (mn q H1) H13 := m13.le A12 (by simpa using mn_q)
    clear d12 G12 A12 m13 r12
    refine ⟨fun t Hy => ∃ (j : Nat) (P6 : Option Addr) (L6 c6 : Nat) (hs : List Hk) (zs : List (BL × HD)) (l'' : BL) (g'' : Bool), t = ((j : Nat) : Int) ∧ j ≤ n13 ∧ L6 = j ∧ hs.length = j ∧ zs.length = j ∧ Buf 4 (mn q H1) Hy P6 L6 c6 (zs.flatMap hdC) ∧ q ∉ blkL P6 ∧ Le (mn q H1) Hy ∧ Ri Hy q l'' g'' ∧ RowI (pHk limD) n13 l13 g13 j hs l'' g'' ∧ (∀ i (h1 : i < hs.length) (h2 : i < zs.length), HkI q P6 (mn q H1) Hy hs[i] zs[i]) ∧ (∀ x ∈ hs, HkSm x) ∧ D5 Hy b9 id P L c P4 ms.length c4 P5 qs.length c5 P6 L6 c6 ∧ Gst b0 P P4 P5 L c c4 c5 xs ms qs Hy ∧ (∀ y ∈ b9 :: (b0 :: (blkL P ++ (blkL P4 ++ blkL P5))), y ∉ blkL P6) ∧ (∀ i (h2 : i < zs.length), ∀ a ∈ hdP zs[i], ∀ b o, a = some ⟨b, o, none⟩ → b ≠ b9), fun t _ => ((n13 : Int) - t).toNat, ⟨0, none, 0, 0, [], [], l13, g13, rfl, Nat.zero_le _, rfl, rfl, rfl, Buf.none, by simp [blkL], A13, r13, RowI.start, fun i h1 => by simp at h1, by simp, d13, G13, by simp [blkL], fun i h2 => by simp at h2⟩, ?_⟩
    clear d13 G13 A13 r13
    rintro t Hy ⟨j, P6, L6, c6, hs, zs, l'', g'', rfl, gj, f1, f2, f3, hB, hap, hle, hr, hI, hE, hsm, d9, hG, hk6, hz9⟩
    refine bcd (fun hlt => ldB_i hr.2 (bc_i (fun hg => ?_) fun hg => ?_)) fun hlt => ?_
    · have hg : g'' = false := by simpa using hg
      subst hg
      unfold centoref18_Get.k2
      refine ldL_i d9.2.2.2.2 (centoref18_in_hunk.c hr fun x d l2' g2' H2' m2 r2 rd2 nw2 sm2 o2 => ?_)
      have e9 : ∀ y ∈ [b9], Hy y ≠ none := fun y hy => by simp at hy; subst hy; exact d9.there
      have d9 := d9.mod m2 hn9
      refine ⟨d9.2.2.2.2, ?_⟩
      intro b hb
      have l3 := Le.upd (c := hdC (x.path, d)) hb
      have d9 := d9.le l3
      have hG := (hG.mod m2 kq).mod (O := []) l3.mod (by simp)
      refine ⟨d9.2.2.2.2, ?_⟩
      have mq : ∀ {a : Option Addr}, (∀ b o, a = some ⟨b, o, none⟩ → b ≠ q) → ∀ b o, a = some ⟨b, o, none⟩ → b ∉ [q] := fun h b o e => by simpa using h b o e
      have lA : Le (mn q H1) (upd H2' b (hdC (x.path, d))) := (m2.le hle (by simpa using mn_q)).trans l3
      have hB2 : Buf 4 (mn q H1) (upd H2' b (hdC (x.path, d))) P6 L6 c6 (zs.flatMap hdC) := (hB.mod m2 (mq (not_blk hap))).le l3
      have rr := r2.le l3
      have qx : ∀ y ∈ [q], Hy y ≠ none := fun y hy => by simp at hy; subst hy; exact hr.there
      have nA : ∀ a ∈ [d.ap, d.ep, d.kp], New (mn q H1) a := fun a ha => (nw2 a ha).1.le hle
      refine hB2.pushAt (te := te_api_Hunk) (new := hdC (x.path, d)) (by unfold upd; rw [if_pos rfl]) rfl (by decide) rfl (by decide) rfl rfl (by simp [te_api_Hunk]; omega) (fun P' c' H4 hB4 hP m4 => ?_) lA
      have bP : ∀ y ∈ blkL P6, Hy y ≠ none := fun y hy => hB.there (blkL_mem hB.zero hy)
      have aP : ∀ y, upd H2' b (hdC (x.path, d)) y ≠ none → y ∉ blkL P6 → y ∉ blkL P' := fun y h1 h2 hy => by
        rcases hP with rfl | hP
        · exact h2 hy
        · exact h1 (hP y 0 (blkL_mem hB4.zero hy))
      have aP' : ∀ {a : Option Addr}, (∀ b o, a = some ⟨b, o, none⟩ → b ∉ blkL P6) → There (upd H2' b (hdC (x.path, d))) a → ∀ b o, a = some ⟨b, o, none⟩ → b ∉ blkL P' := fun {a} h1 h2 b' o e => aP b' (h2 b' o e) (h1 b' o e)
      have th2 : ∀ a ∈ [d.ap, d.ep, d.kp], There (upd H2' b (hdC (x.path, d))) a := fun a ha => ((nw2 a ha).2).mod (O := []) l3.mod (by simp)
      have nq : ∀ a ∈ [d.ap, d.ep, d.kp], ∀ b o, a = some ⟨b, o, none⟩ → b ≠ q := fun a ha b o e hb => new_not (nw2 a ha).1 qx b o e (by simp [hb])
      have nP0 : ∀ a ∈ [d.ap, d.ep, d.kp], ∀ b o, a = some ⟨b, o, none⟩ → b ∉ blkL P6 := fun a ha => new_not (nw2 a ha).1 bP
      have n9 : ∀ a ∈ [d.ap, d.ep, d.kp], ∀ b o, a = some ⟨b, o, none⟩ → b ∉ [b9] := fun a ha => new_not (nw2 a ha).1 e9
      have fresh : HkI q P' (mn q H1) H4 x (x.path, d) := ⟨rfl, rdH_mod (rdH_mod rd2 (O := []) l3.mod (by simp)) m4 nP0, nq, fun a ha => aP' (nP0 a ha) (th2 a ha), fun a ha => (th2 a ha).mod m4 (nP0 a ha), nA⟩
      have olds : ∀ i (h1 : i < hs.length) (h2 : i < zs.length), HkI q P' (mn q H1) H4 hs[i] zs[i] := fun i h1 h2 => by
        have old := hE i h1 h2
        have o1 := (old.mod (P' := P6) m2 (fun a ha => mq (old.nq a ha)) old.nP).mod (P' := P6) l3.mod (O := []) (by simp) old.nP
        exact o1.mod m4 old.nP fun a ha => aP' (old.nP a ha) (o1.th a ha)
      have k9' : b9 ∉ blkL P' := aP b9 d9.there (hk6 b9 (by simp))
      have z9 : ∀ i (h2 : i < (zs ++ [(x.path, d)]).length), ∀ a ∈ hdP (zs ++ [(x.path, d)])[i], ∀ b o, a = some ⟨b, o, none⟩ → b ≠ b9 := fun i h2 => by
        by_cases hi : i < zs.length
        · rw [List.getElem_append_left hi]; exact hz9 i hi
        · have : i = zs.length := by rw [List.length_append] at h2; simp at h2; omega
          subst this
          have e2 : (zs ++ [(x.path, d)])[zs.length] = (x.path, d) := by simp
          rw [e2]
          exact fun a ha b o e hb => n9 a ha b o e (by simp [hb])
      have all := hk_snoc (by omega) olds fresh
      refine pt_4 (d9.mod m4 (hk6 b9 (by simp))) fun H14 d14 m14 => chk (by omega) ⟨⟨j + 1, P', L6 + 1, c', hs ++ [x], zs ++ [(x.path, d)], l2', g2', by omega, by omega, by omega, by simp [f2], by simp [f3], ?_, aP q rr.there hap, ?_, (rr.mod m4 hap).mod m14 (by simpa using Ne.symm n9q), hI.step (by omega) o2, fun i h1 h2 => ?_, ?_, d14, (hG.mod m4 fun y hy => hk6 y (by simp at hy ⊢; exact .inr hy)).mod m14 k9, ?_, z9⟩, by first | omega | (dsimp only; omega)⟩
      · rw [List.flatMap_append]
        refine Buf.mod ?_ m14 fun b o e hb => k9' (by simp at hb; subst hb; rw [e]; simp [blkL])
        simpa using hB4
      · exact m14.le (m4.le lA fun y hy => hB2.fr y 0 (blkL_mem hB2.zero hy)) (by simpa using a9)
      · have w := all i h1 h2
        exact w.mod m14 (fun a ha b o e hb => z9 i h2 a ha b o e (by simpa using hb)) w.nP
      · intro y hy
        rcases List.mem_append.1 hy with hy | hy
        · exact hsm y hy
        · simp at hy; subst hy; exact sm2
      · intro y hy
        refine aP y ?_ (hk6 y hy)
        rcases List.mem_cons.1 hy with rfl | hy
        · exact d9.there
        · exact hG.th z3 z4 z5 y hy
    · have hend : j = n13 ∨ g'' = true := .inr (by simpa using hg)
      have o6 := hI.out hend o13
      have o : Out (pPt limD) false s ⟨id, xs, ms, qs, hs⟩ l'' g'' := o2.seq (oD.seq (o9.seq (o11.seq o6 Prod.mk) Prod.mk) Prod.mk) _
      have lHy : Le H Hy := lHA.trans hle
      have core : ∀ O Hz, (∀ b ∈ O, mn q H1 b ≠ none ∨ Hy b = none) → Mod O Hy Hz → PtS Hz id P L c P4 ms.length c4 P5 qs.length c5 P6 L6 c6 ⟨id, xs, ms, qs, hs⟩ := fun O Hz hO m =>
        ⟨rfl, sl_modS hG.s3 w3 m hO, sl_modS hG.s4 w4 m hO, sl_modS hG.s5 w5 m hO, hk_stable (by omega) (hB.sn hdC_len (by decide)) hB.fr hE O Hz hO m⟩
      have none0 : getD s = none → ∀ Hz, Le Hy Hz → D5 Hz b0 0 none 0 0 none 0 0 none 0 0 none 0 0 → (ST Hz b0 0 (.int .u32 (0 : Int)) fun X1 => ST X1 b0 1 (.slice none 0 0) fun X2 => ST X2 b0 2 (.slice none 0 0) fun X3 => ST X3 b0 3 (.slice none 0 0) fun X4 => ST X4 b0 4 (.slice none 0 0) fun X5 => ldI .u32 (rd X5 b0 0) fun r93 => ldL (rd X5 b0 1) fun rp94 rl95 rc96 => ldL (rd X5 b0 2) fun rp97 rl98 rc99 => ldL (rd X5 b0 3) fun rp100 rl101 rc102 => ldL (rd X5 b0 4) fun rp103 rl104 rc105 => K r93 rp94 rl95 rc96 rp97 rl98 rc99 rp100 rl101 rc102 rp103 rl104 rc105 (mkB s) false X5) := fun hg Hz lz dz =>
        put5 dz fun H8 d8 m8 _ => d8.get (hbad hg H8 (m8.le (lHy.trans lz) fun y hy => by simp at hy; subst hy; exact hb0))
      refine ldB_i hr.2 (bcn (fun hgg => ?_) fun hgg => ?_)
      · refine none0 ?_ Hy (Le.refl _) hG.d0
        rcases o with ⟨h, _⟩ | ⟨_, h⟩
        · rw [h] at hgg; cases hgg
        · rcases h with h | h
          · cases h
          · unfold getD; rw [h]
      have hx : pPt limD s = some (⟨id, xs, ms, qs, hs⟩, l'') := by
        rcases o with ⟨_, _, h⟩ | ⟨h, _⟩
        · exact h
        · rw [h] at hgg; cases hgg
      have sm : PtSm ⟨id, xs, ms, qs, hs⟩ := ⟨by dsimp only; omega, by dsimp only; omega, by dsimp only; omega, by dsimp only; omega, fun s hs => by have := b4' s hs; omega, fun s hs => by have := b5' s hs; omega, hsm⟩
      refine d9.get (centoref12_Is.c (core [] Hy (by simp) Mod.refl) sm fun H8 l8 => bcn (fun hb => ?_) fun hb => ?_)
      · exact none0 (by unfold getD; rw [hx]; dsimp only; rw [if_neg (by rw [hb]; decide)]) H8 l8 (hG.d0.le l8)
      · refine (d9.le l8).get (ldS_i (hr.le l8).1 (put5 (hG.d0.le l8) fun H9' d9' m9' _ => ⟨((hr.le l8).mod m9' (by simpa using Ne.symm n0q)).1, d9'.get ?_⟩))
        have fin := hok ⟨id, xs, ms, qs, hs⟩ l'' (by unfold getD; rw [hx]; dsimp only; rw [if_pos hb]) sm P L c P4 ms.length c4 P5 qs.length c5 P6 L6 c6 H9' (m9'.le (lHy.trans l8) fun y hy => by simp at hy; subst hy; exact hb0) (core [b0] H9' (fun b hb => .inl (by simp at hb; subst hb; exact a0)) (l8.mod.trans m9')) fun O Hz hO mz => ?_
        · exact fin
        refine core (b0 :: O) Hz (fun b hb => ?_) ((l8.mod.trans (m9'.mono (by simp))).trans (mz.mono fun b hb => by simp [hb]))
        rcases List.mem_cons.1 hb with rfl | hb
        · exact .inl a0
        · rcases hO b hb with h1 | h1
          · exact .inl fun h2 => h1 (none_of_le lHA h2)
          · refine .inr ?_
            cases e6 : Hy b with
            | none => rfl
            | some v =>
              have e8 : H8 b = some v := l8 _ _ e6
              by_cases hbb : b = b0
              · subst hbb; exact absurd h1 d9'.there
              · rw [m9'.get (by simpa using hbb) e8] at h1; cases h1
    · have hend : j = n13 ∨ g'' = true := .inl (by omega)
      have o6 := hI.out hend o13
      have o : Out (pPt limD) false s ⟨id, xs, ms, qs, hs⟩ l'' g'' := o2.seq (oD.seq (o9.seq (o11.seq o6 Prod.mk) Prod.mk) Prod.mk) _
      have lHy : Le H Hy := lHA.trans hle
      have core : ∀ O Hz, (∀ b ∈ O, mn q H1 b ≠ none ∨ Hy b = none) → Mod O Hy Hz → PtS Hz id P L c P4 ms.length c4 P5 qs.length c5 P6 L6 c6 ⟨id, xs, ms, qs, hs⟩ := fun O Hz hO m =>
        ⟨rfl, sl_modS hG.s3 w3 m hO, sl_modS hG.s4 w4 m hO, sl_modS hG.s5 w5 m hO, hk_stable (by omega) (hB.sn hdC_len (by decide)) hB.fr hE O Hz hO m⟩
      have none0 : getD s = none → ∀ Hz, Le Hy Hz → D5 Hz b0 0 none 0 0 none 0 0 none 0 0 none 0 0 → (ST Hz b0 0 (.int .u32 (0 : Int)) fun X1 => ST X1 b0 1 (.slice none 0 0) fun X2 => ST X2 b0 2 (.slice none 0 0) fun X3 => ST X3 b0 3 (.slice none 0 0) fun X4 => ST X4 b0 4 (.slice none 0 0) fun X5 => ldI .u32 (rd X5 b0 0) fun r93 => ldL (rd X5 b0 1) fun rp94 rl95 rc96 => ldL (rd X5 b0 2) fun rp97 rl98 rc99 => ldL (rd X5 b0 3) fun rp100 rl101 rc102 => ldL (rd X5 b0 4) fun rp103 rl104 rc105 => K r93 rp94 rl95 rc96 rp97 rl98 rc99 rp100 rl101 rc102 rp103 rl104 rc105 (mkB s) false X5) := fun hg Hz lz dz =>
        put5 dz fun H8 d8 m8 _ => d8.get (hbad hg H8 (m8.le (lHy.trans lz) fun y hy => by simp at hy; subst hy; exact hb0))
      refine ldB_i hr.2 (bcn (fun hgg => ?_) fun hgg => ?_)
      · refine none0 ?_ Hy (Le.refl _) hG.d0
        rcases o with ⟨h, _⟩ | ⟨_, h⟩
        · rw [h] at hgg; cases hgg
        · rcases h with h | h
          · cases h
          · unfold getD; rw [h]
      have hx : pPt limD s = some (⟨id, xs, ms, qs, hs⟩, l'') := by
        rcases o with ⟨_, _, h⟩ | ⟨h, _⟩
        · exact h
        · rw [h] at hgg; cases hgg
      have sm : PtSm ⟨id, xs, ms, qs, hs⟩ := ⟨by dsimp only; omega, by dsimp only; omega, by dsimp only; omega, by dsimp only; omega, fun s hs => by have := b4' s hs; omega, fun s hs => by have := b5' s hs; omega, hsm⟩
      refine d9.get (centoref12_Is.c (core [] Hy (by simp) Mod.refl) sm fun H8 l8 => bcn (fun hb => ?_) fun hb => ?_)
      · exact none0 (by unfold getD; rw [hx]; dsimp only; rw [if_neg (by rw [hb]; decide)]) H8 l8 (hG.d0.le l8)
      · refine (d9.le l8).get (ldS_i (hr.le l8).1 (put5 (hG.d0.le l8) fun H9' d9' m9' _ => ⟨((hr.le l8).mod m9' (by simpa using Ne.symm n0q)).1, d9'.get ?_⟩))
        have fin := hok ⟨id, xs, ms, qs, hs⟩ l'' (by unfold getD; rw [hx]; dsimp only; rw [if_pos hb]) sm P L c P4 ms.length c4 P5 qs.length c5 P6 L6 c6 H9' (m9'.le (lHy.trans l8) fun y hy => by simp at hy; subst hy; exact hb0) (core [b0] H9' (fun b hb => .inl (by simp at hb; subst hb; exact a0)) (l8.mod.trans m9')) fun O Hz hO mz => ?_
        · exact fin
        refine core (b0 :: O) Hz (fun b hb => ?_) ((l8.mod.trans (m9'.mono (by simp))).trans (mz.mono fun b hb => by simp [hb]))
        rcases List.mem_cons.1 hb with rfl | hb
        · exact .inl a0
        · rcases hO b hb with h1 | h1
          · exact .inl fun h2 => h1 (none_of_le lHA h2)
          · refine .inr ?_
            cases e6 : Hy b with
            | none => rfl
            | some v =>
              have e8 : H8 b = some v := l8 _ _ e6
              by_cases hbb : b = b0
              · subst hbb; exact absurd h1 d9'.there
              · rw [m9'.get (by simpa using hbb) e8] at h1; cases h1
  · have hend : i = n5 ∨ g = true := .inl (by omega)
    have e1 := hR.li
    have e2 := hR.xi
    have oD := hR.inv.out hend o5
    have s3 : Sl fU Hx P L c xs := sl_of_buf hR.buf
    have w3 : New (mn q H1) P := hR.buf.fr
    have t3 : There Hx P := fun b o e => hR.buf.there e
    have z3 : ∀ y ∈ blkL P, P = some ⟨y, 0, none⟩ := fun y hy => blkL_mem hR.buf.zero hy
    have A8 := hR.le
    have r8 := hR.rr
    have q3 := hR.ap
    have le3 : xs.length ≤ 1000 := by omega
    clear hR hend hlt
    have p3q : ∀ b o, P = some ⟨b, o, none⟩ → b ∉ [q] := fun b o e hb => q3 (by simp at hb; subst hb; rw [e]; simp [blkL])
    have p39 : ∀ b o, P = some ⟨b, o, none⟩ → b ∉ [b9] := fun b o e hb => hk b9 (by simp) (by simp at hb; subst hb; rw [e]; simp [blkL])
    have k0 := hk b0 (by simp)
    refine centoref18_in_texts.c r8 fun P4 c4 ms l9 g9 H9 m9 r9 s4 w4 t4 z4 b4 b4' o9 => ?_
    have e9 : ∀ y ∈ [b9], Hx y ≠ none := fun y hy => by simp at hy; subst hy; exact d9.there
    have e0 : ∀ y ∈ [b0], Hx y ≠ none := fun y hy => by simp at hy; subst hy; exact d0.there
    have eq : ∀ y ∈ [q], Hx y ≠ none := fun y hy => by simp at hy; subst hy; exact r8.there
    have p4q := new_not w4 eq
    have p49 := new_not w4 e9
    have p40 := new_not w4 e0
    refine pt_2 (d9.mod m9 hn9) fun H10 d10 m10 => ?_
    have d0 := (d0.mod m9 hn0).mod m10 (by simpa using n09)
    have s3 := (s3.mod m9 p3q).mod m10 p39
    have t3 := (t3.mod m9 p3q).mod m10 p39
    have s4 := s4.mod m10 p49
    have t4 := t4.mod m10 p49
    have w4 : New (mn q H1) P4 := w4.le A8
    have A10 : Le (mn q H1) H10 := m10.le (m9.le A8 (by simpa using mn_q)) (by simpa using a9)
    have r10 := r9.mod m10 (by simpa using Ne.symm n9q)
    clear A8 r9 m9 m10 d9 r8 e9 e0 eq
    refine centoref18_in_texts.c r10 fun P5 c5 qs l11 g11 H11 m11 r11 s5 w5 t5 z5 b5 b5' o11 => ?_
    have e9 : ∀ y ∈ [b9], H10 y ≠ none := fun y hy => by simp at hy; subst hy; exact d10.there
    have e0 : ∀ y ∈ [b0], H10 y ≠ none := fun y hy => by simp at hy; subst hy; exact d0.there
    have eq : ∀ y ∈ [q], H10 y ≠ none := fun y hy => by simp at hy; subst hy; exact r10.there
    have p5q := new_not w5 eq
    have p59 := new_not w5 e9
    have p50 := new_not w5 e0
    refine pt_3 (d10.mod m11 hn9) fun H12 d12 m12 => ?_
    have d0 := (d0.mod m11 hn0).mod m12 (by simpa using n09)
    have s3 := (s3.mod m11 p3q).mod m12 p39
    have t3 := (t3.mod m11 p3q).mod m12 p39
    have s4 := (s4.mod m11 p4q).mod m12 p49
    have t4 := (t4.mod m11 p4q).mod m12 p49
    have s5 := s5.mod m12 p59
    have t5 := t5.mod m12 p59
    have w5 : New (mn q H1) P5 := w5.le A10
    have A12 : Le (mn q H1) H12 := m12.le (m11.le A10 (by simpa using mn_q)) (by simpa using a9)
    have r12 := r11.mod m12 (by simpa using Ne.symm n9q)
    clear A10 r11 m11 m12 d10 r10 e9 e0 eq
    have G12 : Gst b0 P P4 P5 L c c4 c5 xs ms qs H12 := ⟨d0, s3, s4, s5, t3, t4, t5⟩
    clear d0 s3 s4 s5 t3 t4 t5
    have mk : ∀ {z : Nat}, b0 ≠ z → (∀ b o, P = some ⟨b, o, none⟩ → b ∉ [z]) → (∀ b o, P4 = some ⟨b, o, none⟩ → b ∉ [z]) → (∀ b o, P5 = some ⟨b, o, none⟩ → b ∉ [z]) → ∀ y ∈ b0 :: (blkL P ++ (blkL P4 ++ blkL P5)), y ∉ [z] := fun {z} h0 h3 h4 h5 y hy => by
      rcases List.mem_cons.1 hy with rfl | hy
      · simpa using h0
      · rcases List.mem_append.1 hy with hy | hy
        · exact h3 y 0 (z3 y hy)
        · rcases List.mem_append.1 hy with hy | hy
          · exact h4 y 0 (z4 y hy)
          · exact h5 y 0 (z5 y hy)
    have kq := mk n0q p3q p4q p5q
    have k9 := mk n09 p39 p49 p59
    refine centoref18_in_num.c (m := 1000) rfl r12 fun n13 l13 g13 H13 m13 r13 o13 hn13 => ?_
    have d13 := d12.mod m13 hn9
    have G13 := G12.mod m13 kq
    have A13 : Le (mn q H1) H13 := m13.le A12 (by simpa using mn_q)
    clear d12 G12 A12 m13 r12
    refine ⟨fun t Hy => ∃ (j : Nat) (P6 : Option Addr) (L6 c6 : Nat) (hs : List Hk) (zs : List (BL × HD)) (l'' : BL) (g'' : Bool), t = ((j : Nat) : Int) ∧ j ≤ n13 ∧ L6 = j ∧ hs.length = j ∧ zs.length = j ∧ Buf 4 (mn q H1) Hy P6 L6 c6 (zs.flatMap hdC) ∧ q ∉ blkL P6 ∧ Le (mn q H1) Hy ∧ Ri Hy q l'' g'' ∧ RowI (pHk limD) n13 l13 g13 j hs l'' g'' ∧ (∀ i (h1 : i < hs.length) (h2 : i < zs.length), HkI q P6 (mn q H1) Hy hs[i] zs[i]) ∧ (∀ x ∈ hs, HkSm x) ∧ D5 Hy b9 id P L c P4 ms.length c4 P5 qs.length c5 P6 L6 c6 ∧ Gst b0 P P4 P5 L c c4 c5 xs ms qs Hy ∧ (∀ y ∈ b9 :: (b0 :: (blkL P ++ (blkL P4 ++ blkL P5))), y ∉ blkL P6) ∧ (∀ i (h2 : i < zs.length), ∀ a ∈ hdP zs[i], ∀ b o, a = some ⟨b, o, none⟩ → b ≠ b9), fun t _ => ((n13 : Int) - t).toNat, ⟨0, none, 0, 0, [], [], l13, g13, rfl, Nat.zero_le _, rfl, rfl, rfl, Buf.none, by simp [blkL], A13, r13, RowI.start, fun i h1 => by simp at h1, by simp, d13, G13, by simp [blkL], fun i h2 => by simp at h2⟩, ?_⟩
    clear d13 G13 A13 r13
    rintro t Hy ⟨j, P6, L6, c6, hs, zs, l'', g'', rfl, gj, f1, f2, f3, hB, hap, hle, hr, hI, hE, hsm, d9, hG, hk6, hz9⟩
    refine bcd (fun hlt => ldB_i hr.2 (bc_i (fun hg => ?_) fun hg => ?_)) fun hlt => ?_
    · have hg : g'' = false := by simpa using hg
      subst hg
      unfold centoref18_Get.k3
      refine ldL_i d9.2.2.2.2 (centoref18_in_hunk.c hr fun x d l2' g2' H2' m2 r2 rd2 nw2 sm2 o2 => ?_)
      have e9 : ∀ y ∈ [b9], Hy y ≠ none := fun y hy => by simp at hy; subst hy; exact d9.there
      have d9 := d9.mod m2 hn9
      refine ⟨d9.2.2.2.2, ?_⟩
      intro b hb
      have l3 := Le.upd (c := hdC (x.path, d)) hb
      have d9 := d9.le l3
      have hG := (hG.mod m2 kq).mod (O := []) l3.mod (by simp)
      refine ⟨d9.2.2.2.2, ?_⟩
      have mq : ∀ {a : Option Addr}, (∀ b o, a = some ⟨b, o, none⟩ → b ≠ q) → ∀ b o, a = some ⟨b, o, none⟩ → b ∉ [q] := fun h b o e => by simpa using h b o e
      have lA : Le (mn q H1) (upd H2' b (hdC (x.path, d))) := (m2.le hle (by simpa using mn_q)).trans l3
      have hB2 : Buf 4 (mn q H1) (upd H2' b (hdC (x.path, d))) P6 L6 c6 (zs.flatMap hdC) := (hB.mod m2 (mq (not_blk hap))).le l3
      have rr := r2.le l3
      have qx : ∀ y ∈ [q], Hy y ≠ none := fun y hy => by simp at hy; subst hy; exact hr.there
      have nA : ∀ a ∈ [d.ap, d.ep, d.kp], New (mn q H1) a := fun a ha => (nw2 a ha).1.le hle
      refine hB2.pushAt (te := te_api_Hunk) (new := hdC (x.path, d)) (by unfold upd; rw [if_pos rfl]) rfl (by decide) rfl (by decide) rfl rfl (by simp [te_api_Hunk]; omega) (fun P' c' H4 hB4 hP m4 => ?_) lA
      have bP : ∀ y ∈ blkL P6, Hy y ≠ none := fun y hy => hB.there (blkL_mem hB.zero hy)
      have aP : ∀ y, upd H2' b (hdC (x.path, d)) y ≠ none → y ∉ blkL P6 → y ∉ blkL P' := fun y h1 h2 hy => by
        rcases hP with rfl | hP
        · exact h2 hy
        · exact h1 (hP y 0 (blkL_mem hB4.zero hy))
      have aP' : ∀ {a : Option Addr}, (∀ b o, a = some ⟨b, o, none⟩ → b ∉ blkL P6) → There (upd H2' b (hdC (x.path, d))) a → ∀ b o, a = some ⟨b, o, none⟩ → b ∉ blkL P' := fun {a} h1 h2 b' o e => aP b' (h2 b' o e) (h1 b' o e)
      have th2 : ∀ a ∈ [d.ap, d.ep, d.kp], There (upd H2' b (hdC (x.path, d))) a := fun a ha => ((nw2 a ha).2).mod (O := []) l3.mod (by simp)
      have nq : ∀ a ∈ [d.ap, d.ep, d.kp], ∀ b o, a = some ⟨b, o, none⟩ → b ≠ q := fun a ha b o e hb => new_not (nw2 a ha).1 qx b o e (by simp [hb])
      have nP0 : ∀ a ∈ [d.ap, d.ep, d.kp], ∀ b o, a = some ⟨b, o, none⟩ → b ∉ blkL P6 := fun a ha => new_not (nw2 a ha).1 bP
      have n9 : ∀ a ∈ [d.ap, d.ep, d.kp], ∀ b o, a = some ⟨b, o, none⟩ → b ∉ [b9] := fun a ha => new_not (nw2 a ha).1 e9
      have fresh : HkI q P' (mn q H1) H4 x (x.path, d) := ⟨rfl, rdH_mod (rdH_mod rd2 (O := []) l3.mod (by simp)) m4 nP0, nq, fun a ha => aP' (nP0 a ha) (th2 a ha), fun a ha => (th2 a ha).mod m4 (nP0 a ha), nA⟩
      have olds : ∀ i (h1 : i < hs.length) (h2 : i < zs.length), HkI q P' (mn q H1) H4 hs[i] zs[i] := fun i h1 h2 => by
        have old := hE i h1 h2
        have o1 := (old.mod (P' := P6) m2 (fun a ha => mq (old.nq a ha)) old.nP).mod (P' := P6) l3.mod (O := []) (by simp) old.nP
        exact o1.mod m4 old.nP fun a ha => aP' (old.nP a ha) (o1.th a ha)
      have k9' : b9 ∉ blkL P' := aP b9 d9.there (hk6 b9 (by simp))
      have z9 : ∀ i (h2 : i < (zs ++ [(x.path, d)]).length), ∀ a ∈ hdP (zs ++ [(x.path, d)])[i], ∀ b o, a = some ⟨b, o, none⟩ → b ≠ b9 := fun i h2 => by
        by_cases hi : i < zs.length
        · rw [List.getElem_append_left hi]; exact hz9 i hi
        · have : i = zs.length := by rw [List.length_append] at h2; simp at h2; omega
          subst this
          have e2 : (zs ++ [(x.path, d)])[zs.length] = (x.path, d) := by simp
          rw [e2]
          exact fun a ha b o e hb => n9 a ha b o e (by simp [hb])
      have all := hk_snoc (by omega) olds fresh
      refine pt_4 (d9.mod m4 (hk6 b9 (by simp))) fun H14 d14 m14 => chk (by omega) ⟨⟨j + 1, P', L6 + 1, c', hs ++ [x], zs ++ [(x.path, d)], l2', g2', by omega, by omega, by omega, by simp [f2], by simp [f3], ?_, aP q rr.there hap, ?_, (rr.mod m4 hap).mod m14 (by simpa using Ne.symm n9q), hI.step (by omega) o2, fun i h1 h2 => ?_, ?_, d14, (hG.mod m4 fun y hy => hk6 y (by simp at hy ⊢; exact .inr hy)).mod m14 k9, ?_, z9⟩, by first | omega | (dsimp only; omega)⟩
      · rw [List.flatMap_append]
        refine Buf.mod ?_ m14 fun b o e hb => k9' (by simp at hb; subst hb; rw [e]; simp [blkL])
        simpa using hB4
      · exact m14.le (m4.le lA fun y hy => hB2.fr y 0 (blkL_mem hB2.zero hy)) (by simpa using a9)
      · have w := all i h1 h2
        exact w.mod m14 (fun a ha b o e hb => z9 i h2 a ha b o e (by simpa using hb)) w.nP
      · intro y hy
        rcases List.mem_append.1 hy with hy | hy
        · exact hsm y hy
        · simp at hy; subst hy; exact sm2
      · intro y hy
        refine aP y ?_ (hk6 y hy)
        rcases List.mem_cons.1 hy with rfl | hy
        · exact d9.there
        · exact hG.th z3 z4 z5 y hy
    · have hend : j = n13 ∨ g'' = true := .inr (by simpa using hg)
      have o6 := hI.out hend o13
      have o : Out (pPt limD) false s ⟨id, xs, ms, qs, hs⟩ l'' g'' := o2.seq (oD.seq (o9.seq (o11.seq o6 Prod.mk) Prod.mk) Prod.mk) _
      have lHy : Le H Hy := lHA.trans hle
      have core : ∀ O Hz, (∀ b ∈ O, mn q H1 b ≠ none ∨ Hy b = none) → Mod O Hy Hz → PtS Hz id P L c P4 ms.length c4 P5 qs.length c5 P6 L6 c6 ⟨id, xs, ms, qs, hs⟩ := fun O Hz hO m =>
        ⟨rfl, sl_modS hG.s3 w3 m hO, sl_modS hG.s4 w4 m hO, sl_modS hG.s5 w5 m hO, hk_stable (by omega) (hB.sn hdC_len (by decide)) hB.fr hE O Hz hO m⟩
      have none0 : getD s = none → ∀ Hz, Le Hy Hz → D5 Hz b0 0 none 0 0 none 0 0 none 0 0 none 0 0 → (ST Hz b0 0 (.int .u32 (0 : Int)) fun X1 => ST X1 b0 1 (.slice none 0 0) fun X2 => ST X2 b0 2 (.slice none 0 0) fun X3 => ST X3 b0 3 (.slice none 0 0) fun X4 => ST X4 b0 4 (.slice none 0 0) fun X5 => ldI .u32 (rd X5 b0 0) fun r93 => ldL (rd X5 b0 1) fun rp94 rl95 rc96 => ldL (rd X5 b0 2) fun rp97 rl98 rc99 => ldL (rd X5 b0 3) fun rp100 rl101 rc102 => ldL (rd X5 b0 4) fun rp103 rl104 rc105 => K r93 rp94 rl95 rc96 rp97 rl98 rc99 rp100 rl101 rc102 rp103 rl104 rc105 (mkB s) false X5) := fun hg Hz lz dz =>
        put5 dz fun H8 d8 m8 _ => d8.get (hbad hg H8 (m8.le (lHy.trans lz) fun y hy => by simp at hy; subst hy; exact hb0))
      refine ldB_i hr.2 (bcn (fun hgg => ?_) fun hgg => ?_)
      · refine none0 ?_ Hy (Le.refl _) hG.d0
        rcases o with ⟨h, _⟩ | ⟨_, h⟩
        · rw [h] at hgg; cases hgg
        · rcases h with h | h
          · cases h
          · unfold getD; rw [h]
      have hx : pPt limD s = some (⟨id, xs, ms, qs, hs⟩, l'') := by
        rcases o with ⟨_, _, h⟩ | ⟨h, _⟩
        · exact h
        · rw [h] at hgg; cases hgg
      have sm : PtSm ⟨id, xs, ms, qs, hs⟩ := ⟨by dsimp only; omega, by dsimp only; omega, by dsimp only; omega, by dsimp only; omega, fun s hs => by have := b4' s hs; omega, fun s hs => by have := b5' s hs; omega, hsm⟩
      refine d9.get (centoref12_Is.c (core [] Hy (by simp) Mod.refl) sm fun H8 l8 => bcn (fun hb => ?_) fun hb => ?_)
      · exact none0 (by unfold getD; rw [hx]; dsimp only; rw [if_neg (by rw [hb]; decide)]) H8 l8 (hG.d0.le l8)
      · refine (d9.le l8).get (ldS_i (hr.le l8).1 (put5 (hG.d0.le l8) fun H9' d9' m9' _ => ⟨((hr.le l8).mod m9' (by simpa using Ne.symm n0q)).1, d9'.get ?_⟩))
        have fin := hok ⟨id, xs, ms, qs, hs⟩ l'' (by unfold getD; rw [hx]; dsimp only; rw [if_pos hb]) sm P L c P4 ms.length c4 P5 qs.length c5 P6 L6 c6 H9' (m9'.le (lHy.trans l8) fun y hy => by simp at hy; subst hy; exact hb0) (core [b0] H9' (fun b hb => .inl (by simp at hb; subst hb; exact a0)) (l8.mod.trans m9')) fun O Hz hO mz => ?_
        · exact fin
        refine core (b0 :: O) Hz (fun b hb => ?_) ((l8.mod.trans (m9'.mono (by simp))).trans (mz.mono fun b hb => by simp [hb]))
        rcases List.mem_cons.1 hb with rfl | hb
        · exact .inl a0
        · rcases hO b hb with h1 | h1
          · exact .inl fun h2 => h1 (none_of_le lHA h2)
          · refine .inr ?_
            cases e6 : Hy b with
            | none => rfl
            | some v =>
              have e8 : H8 b = some v := l8 _ _ e6
              by_cases hbb : b = b0
              · subst hbb; exact absurd h1 d9'.there
              · rw [m9'.get (by simpa using hbb) e8] at h1; cases h1
    · have hend : j = n13 ∨ g'' = true := .inl (by omega)
      have o6 := hI.out hend o13
      have o : Out (pPt limD) false s ⟨id, xs, ms, qs, hs⟩ l'' g'' := o2.seq (oD.seq (o9.seq (o11.seq o6 Prod.mk) Prod.mk) Prod.mk) _
      have lHy : Le H Hy := lHA.trans hle
      have core : ∀ O Hz, (∀ b ∈ O, mn q H1 b ≠ none ∨ Hy b = none) → Mod O Hy Hz → PtS Hz id P L c P4 ms.length c4 P5 qs.length c5 P6 L6 c6 ⟨id, xs, ms, qs, hs⟩ := fun O Hz hO m =>
        ⟨rfl, sl_modS hG.s3 w3 m hO, sl_modS hG.s4 w4 m hO, sl_modS hG.s5 w5 m hO, hk_stable (by omega) (hB.sn hdC_len (by decide)) hB.fr hE O Hz hO m⟩
      have none0 : getD s = none → ∀ Hz, Le Hy Hz → D5 Hz b0 0 none 0 0 none 0 0 none 0 0 none 0 0 → (ST Hz b0 0 (.int .u32 (0 : Int)) fun X1 => ST X1 b0 1 (.slice none 0 0) fun X2 => ST X2 b0 2 (.slice none 0 0) fun X3 => ST X3 b0 3 (.slice none 0 0) fun X4 => ST X4 b0 4 (.slice none 0 0) fun X5 => ldI .u32 (rd X5 b0 0) fun r93 => ldL (rd X5 b0 1) fun rp94 rl95 rc96 => ldL (rd X5 b0 2) fun rp97 rl98 rc99 => ldL (rd X5 b0 3) fun rp100 rl101 rc102 => ldL (rd X5 b0 4) fun rp103 rl104 rc105 => K r93 rp94 rl95 rc96 rp97 rl98 rc99 rp100 rl101 rc102 rp103 rl104 rc105 (mkB s) false X5) := fun hg Hz lz dz =>
        put5 dz fun H8 d8 m8 _ => d8.get (hbad hg H8 (m8.le (lHy.trans lz) fun y hy => by simp at hy; subst hy; exact hb0))
      refine ldB_i hr.2 (bcn (fun hgg => ?_) fun hgg => ?_)
      · refine none0 ?_ Hy (Le.refl _) hG.d0
        rcases o with ⟨h, _⟩ | ⟨_, h⟩
        · rw [h] at hgg; cases hgg
        · rcases h with h | h
          · cases h
          · unfold getD; rw [h]
      have hx : pPt limD s = some (⟨id, xs, ms, qs, hs⟩, l'') := by
        rcases o with ⟨_, _, h⟩ | ⟨h, _⟩
        · exact h
        · rw [h] at hgg; cases hgg
      have sm : PtSm ⟨id, xs, ms, qs, hs⟩ := ⟨by dsimp only; omega, by dsimp only; omega, by dsimp only; omega, by dsimp only; omega, fun s hs => by have := b4' s hs; omega, fun s hs => by have := b5' s hs; omega, hsm⟩
      refine d9.get (centoref12_Is.c (core [] Hy (by simp) Mod.refl) sm fun H8 l8 => bcn (fun hb => ?_) fun hb => ?_)
      · exact none0 (by unfold getD; rw [hx]; dsimp only; rw [if_neg (by rw [hb]; decide)]) H8 l8 (hG.d0.le l8)
      · refine (d9.le l8).get (ldS_i (hr.le l8).1 (put5 (hG.d0.le l8) fun H9' d9' m9' _ => ⟨((hr.le l8).mod m9' (by simpa using Ne.symm n0q)).1, d9'.get ?_⟩))
        have fin := hok ⟨id, xs, ms, qs, hs⟩ l'' (by unfold getD; rw [hx]; dsimp only; rw [if_pos hb]) sm P L c P4 ms.length c4 P5 qs.length c5 P6 L6 c6 H9' (m9'.le (lHy.trans l8) fun y hy => by simp at hy; subst hy; exact hb0) (core [b0] H9' (fun b hb => .inl (by simp at hb; subst hb; exact a0)) (l8.mod.trans m9')) fun O Hz hO mz => ?_
        · exact fin
        refine core (b0 :: O) Hz (fun b hb => ?_) ((l8.mod.trans (m9'.mono (by simp))).trans (mz.mono fun b hb => by simp [hb]))
        rcases List.mem_cons.1 hb with rfl | hb
        · exact .inl a0
        · rcases hO b hb with h1 | h1
          · exact .inl fun h2 => h1 (none_of_le lHA h2)
          · refine .inr ?_
            cases e6 : Hy b with
            | none => rfl
            | some v =>
              have e8 : H8 b = some v := l8 _ _ e6
              by_cases hbb : b = b0
              · subst hbb; exact absurd h1 d9'.there
              · rw [m9'.get (by simpa using hbb) e8] at h1; cases h1
end Go.Proofs.YtlpdenhcaipppaaGreat
namespace Go.Proofs.YtlpdenhcaipppaaGreat
open Go.V
/-! ### The document's reading: rows of patches -/
theorem centoref18_Lists.c {s : BL} {H : Hp} {K : Option Addr → Nat → Nat → Bool → Hp → Prop} (hbad0 : listsC s = none → ∀ H', Le H H' → K none 0 0 false H') (hok : ∀ xs, listsC s = some xs → ∀ P c H', Le H H' → PtL H' P xs.length c xs → (∀ x ∈ xs, PtSm x) → K P xs.length c true H') : centoref18_Lists.C (mkB s) H K := by
  have hbad : pRow getC 60 s = none → ∀ H', Le H H' → K none 0 0 false H' := fun h => hbad0 (by unfold listsC; rw [h])
  apply centoref18_Lists.of
  refine centoref18_Digit.c (fun hd => ?_) fun n l1 hd hn => ?_
  · refine bcn (fun _ => hbad ?_ H (Le.refl H)) fun h => by cases h
    unfold pRow pN; rw [hd]
  refine bcn (fun h => by cases h) fun _ => bcd (fun h => hbad ?_ H (Le.refl H)) fun h60 => ?_
  · unfold pRow pN; rw [hd]; dsimp only
    rw [if_neg (by omega)]
  have hpn : pN 60 s = some (n, l1) := by unfold pN; rw [hd]; dsimp only; rw [if_pos (by omega)]
  have o1 : Out (pN 60) false s n l1 false := .inl ⟨rfl, rfl, hpn⟩
  unfold centoref18_Lists.k1
  refine ⟨fun rest P L c t Hx => ∃ (i : Nat) (xs : List Pt) (zs : List (Int × PD)) (l' : BL), t = (i : Nat) ∧ i ≤ n ∧ rest = mkB l' ∧ L = i ∧ xs.length = i ∧ zs.length = i ∧ Buf 5 H Hx P L c (zs.flatMap pdC) ∧ Le H Hx ∧ RowI getC n l1 false i xs l' false ∧ (∀ j (h1 : j < xs.length) (h2 : j < zs.length), PtI P Hx xs[j] zs[j]) ∧ ∀ x ∈ xs, PtSm x, fun _ _ _ _ t _ => ((n : Int) - t).toNat, ⟨0, [], [], l1, rfl, Nat.zero_le _, rfl, rfl, rfl, rfl, Buf.none, Le.refl H, RowI.start, fun j h1 => by simp at h1, by simp⟩, ?_⟩
  rintro rest P L c t Hx ⟨i, xs, zs, l', rfl, gi, rfl, e1, e2, e3, hB, lx, hI, hE, hsm⟩
  refine bcd (fun hlt => ?_) fun hlt => ?_
  · refine centoref18_Get.c (fun hg H2 l2 => D5.mk fun q H3 _ d l3 => ?_) fun x r hg hs dp dl dc mp ml mc qp ql qc hp hl hc H2 l2 p2 st => D5.mk fun q H3 _ d l3 => ?_
    · refine bcn (fun _ => hbad ?_ H3 (lx.trans (l2.trans l3))) fun h => by cases h
      rw [getDC] at hg
      rcases (hI.step (x := xk0) (l2 := l') (g2 := true) (by omega) (.inr ⟨rfl, .inr hg⟩)).out (.inr rfl) o1 with ⟨h, _⟩ | ⟨_, h⟩
      · cases h
      · rcases h with h | h
        · cases h
        · exact h
    · rw [getDC] at hg
      refine bcn (fun h => by cases h) fun _ => d.get ?_
      intro b hb
      have l4 := Le.upd (c := pdC (x.id, ⟨dp, dl, dc, mp, ml, mc, qp, ql, qc, hp, hl, hc⟩)) hb
      have l24 := (l2.trans l3).trans l4
      have hB4 := hB.le l24
      refine hB4.pushAt (te := te_api_Patch) (new := pdC (x.id, ⟨dp, dl, dc, mp, ml, mc, qp, ql, qc, hp, hl, hc⟩)) (by unfold upd; rw [if_pos rfl]) rfl (by decide) rfl (by decide) rfl rfl (by simp [te_api_Patch]; omega) (fun P' c' H5 hB5 hP m5 => ?_) (lx.trans l24)
      have hP' : ∀ y ∈ blkL P', y ∈ blkL P ∨ (upd H3 b (pdC (x.id, ⟨dp, dl, dc, mp, ml, mc, qp, ql, qc, hp, hl, hc⟩))) y = none := fun y hy => by
        rcases hP with rfl | hP
        · exact .inl hy
        · exact .inr (hP y 0 (blkL_mem hB5.zero hy))
      refine chk (by omega) ⟨⟨i + 1, xs ++ [x], zs ++ [(x.id, ⟨dp, dl, dc, mp, ml, mc, qp, ql, qc, hp, hl, hc⟩)], r, by omega, by omega, rfl, by omega, by simp [e2], by simp [e3], by rw [List.flatMap_append]; simpa using hB5, m5.le (lx.trans l24) fun y hy => hB4.fr y 0 (blkL_mem hB4.zero hy), hI.step (by omega) (.inl ⟨rfl, rfl, hg⟩), pi_snoc (by omega) (fun j h1 h2 => ((hE j h1 h2).le l24).push m5 hP') ?_, fun y hy => ?_⟩, by first | omega | (dsimp only; omega)⟩
      · have fresh : PtI P H2 x (x.id, ⟨dp, dl, dc, mp, ml, mc, qp, ql, qc, hp, hl, hc⟩) := ⟨rfl, Hx, H2, [], st, by simp, Mod.refl, fun y hy => .inl (hB.there (blkL_mem hB.zero hy))⟩
        exact (fresh.le (l3.trans l4)).push m5 hP'
      · rcases List.mem_append.1 hy with hy | hy
        · exact hsm y hy
        · simp at hy; subst hy; exact hs
  · have ei : i = n := by omega
    rcases hI.out (.inl ei) o1 with ⟨_, _, h⟩ | ⟨h, _⟩
    · refine bcd (fun hr => hbad0 ?_ Hx lx) fun hr => ?_
      · unfold listsC; rw [h]
        cases l' with
        | nil => exact absurd rfl hr
        | cons a r => rfl
      · have : l' = [] := eq_iff_L.1 (Classical.not_not.1 hr)
        subst this
        have := hok xs (by unfold listsC; rw [h]) P c Hx lx (ptL_of (by omega) (by rw [e2, ← e1]; exact hB.sn pdC_len (by decide)) hE hsm) hsm
        rw [e2, ← e1] at this; exact this
    · cases h
/-! ### What is read, in one piece -/
def dN (s : BL) : Int := match digit 0 0 s with
  | some (n, _) => (n : Int)
  | none => 0
def dR (s : BL) : BL := match digit 0 0 s with
  | some (_, r) => r
  | none => s
def dO (s : BL) : Bool := (digit 0 0 s).isSome
def gX (s : BL) : Pt := match getC s with
  | some (x, _) => x
  | none => xk0
def gR (s : BL) : BL := match getC s with
  | some (_, r) => r
  | none => s
def gO (s : BL) : Bool := (getC s).isSome
def lX (s : BL) : List Pt := match listsC s with
  | some xs => xs
  | none => []
def lO (s : BL) : Bool := (listsC s).isSome
section
variable {s : BL} {H : Hp}
theorem codec_Digit.r {K : Int → ByteArray → Bool → Hp → Prop} (hK : K (dN s) (mkB (dR s)) (dO s) H) : codec_Digit.C (mkB s) H K :=
  codec_Digit.c (fun h => by unfold dN dR dO at hK; rw [h] at hK; exact hK) fun n r h _ => by unfold dN dR dO at hK; rw [h] at hK; exact hK
theorem centoref18_Digit.r {K : Int → ByteArray → Bool → Hp → Prop} (hK : K (dN s) (mkB (dR s)) (dO s) H) : centoref18_Digit.C (mkB s) H K :=
  centoref18_Digit.c (fun h => by unfold dN dR dO at hK; rw [h] at hK; exact hK) fun n r h _ => by unfold dN dR dO at hK; rw [h] at hK; exact hK
theorem pt0 : PtS H 0 none 0 0 none 0 0 none 0 0 none 0 0 xk0 := ⟨rfl, Sl.nil, Sl.nil, Sl.nil, HkH.nil⟩
theorem codec_Get.r {K : Int → Option Addr → Nat → Nat → Option Addr → Nat → Nat → Option Addr → Nat → Nat → Option Addr → Nat → Nat → ByteArray → Int → Hp → Prop}
    (hK : ∀ id dp dl dc mp ml mc qp ql qc hp hl hc H', Le H H' → PtS H' id dp dl dc mp ml mc qp ql qc hp hl hc (gX s) → PtSm (gX s) → K id dp dl dc mp ml mc qp ql qc hp hl hc (mkB (gR s)) (if gO s = true then 0 else 26) H') : codec_Get.C (mkB s) H K :=
  codec_Get.c (fun h H' l' => by
    unfold gX gR gO at hK; rw [h] at hK
    exact hK _ _ _ _ _ _ _ _ _ _ _ _ _ H' l' pt0 xk0_sm) fun x r h sm dp dl dc mp ml mc qp ql qc hp hl hc H' l' p _ => by
    unfold gX gR gO at hK; rw [h] at hK
    exact hK _ _ _ _ _ _ _ _ _ _ _ _ _ H' l' p sm
theorem centoref18_Get.r {K : Int → Option Addr → Nat → Nat → Option Addr → Nat → Nat → Option Addr → Nat → Nat → Option Addr → Nat → Nat → ByteArray → Bool → Hp → Prop}
    (hK : ∀ id dp dl dc mp ml mc qp ql qc hp hl hc H', Le H H' → PtS H' id dp dl dc mp ml mc qp ql qc hp hl hc (gX s) → K id dp dl dc mp ml mc qp ql qc hp hl hc (mkB (gR s)) (gO s) H') : centoref18_Get.C (mkB s) H K :=
  centoref18_Get.c (fun h H' l' => by
    rw [getDC] at h
    unfold gX gR gO at hK; rw [h] at hK
    exact hK _ _ _ _ _ _ _ _ _ _ _ _ _ H' l' pt0) fun x r h sm dp dl dc mp ml mc qp ql qc hp hl hc H' l' p _ => by
    rw [getDC] at h
    unfold gX gR gO at hK; rw [h] at hK
    exact hK _ _ _ _ _ _ _ _ _ _ _ _ _ H' l' p
theorem PtL.nil : PtL H none 0 0 [] := ⟨rfl, Nat.le_refl _, .inl rfl⟩
theorem codec_Lists.r {K : Option Addr → Nat → Nat → Int → Hp → Prop} (hK : ∀ P c H', Le H H' → PtL H' P (lX s).length c (lX s) → (∀ x ∈ lX s, PtSm x) → K P (lX s).length c (if lO s = true then 0 else 26) H') : codec_Lists.C (mkB s) H K :=
  codec_Lists.c (fun h H' l' => by
    unfold lX lO at hK; rw [h] at hK
    exact hK none 0 H' l' PtL.nil (by simp)) fun xs h P c H' l' hL hs => by
    unfold lX lO at hK; rw [h] at hK
    exact hK P c H' l' hL hs
theorem centoref18_Lists.r {K : Option Addr → Nat → Nat → Bool → Hp → Prop} (hK : ∀ P c H', Le H H' → PtL H' P (lX s).length c (lX s) → K P (lX s).length c (lO s) H') : centoref18_Lists.C (mkB s) H K :=
  centoref18_Lists.c (fun h H' l' => by
    unfold lX lO at hK; rw [h] at hK
    exact hK none 0 H' l' PtL.nil) fun xs h P c H' l' hL hs => by
    unfold lX lO at hK; rw [h] at hK
    exact hK P c H' l' hL
end
end Go.Proofs.YtlpdenhcaipppaaGreat
