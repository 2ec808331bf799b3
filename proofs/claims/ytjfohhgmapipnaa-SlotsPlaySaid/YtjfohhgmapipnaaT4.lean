/- Contracts. -/
import Derived.Test.YtjfohhgmapipnaaT3
namespace Go.Proofs.Ytjfohhgmapipnaa
open Go.V
/-! ### The disk: reading, copies, new ones -/
theorem slices_Backward_sector_write_sector_write_1.c {cp : Nat} {p : Option Addr} {l k : Nat} {xs : List (Nat × BL)} {H : Hp} {G : Int → Int → ByteArray → Hp → (Al → Hp → Prop) → Prop} {K : Al → Hp → Prop} (J : Nat → Hp → Prop)
    (hJ : ∀ i H', J i H' → rd H' cp 0 = some (.slice p l k) ∧ Sn 2 wc H' p l k xs) (h0 : J xs.length H) (hl : l ≤ 1000000000)
    (hG : ∀ i (hi : i < xs.length) H' Kb, J (i + 1) H' → (∀ H'', J i H'' → Kb .on H'') → (∀ j up H'', K (.off j up) H'' → Kb (.off j up) H'') → G (i : Nat) (xs[i].1 : Nat) (mkB xs[i].2) H' Kb)
    (hK : ∀ H', J 0 H' → K .on H') : slices_Backward_sector_write_sector_write_1.I cp H G K := by
  apply slices_Backward_sector_write_sector_write_1.of
  obtain ⟨r0, s0⟩ := hJ _ _ h0
  have e0 := s0.len
  refine ldL_i r0 (chk (by omega) ?_)
  refine ⟨fun i H' => -1 ≤ i ∧ i < (xs.length : Int) ∧ J (i + 1).toNat H', fun i _ => (i + 1).toNat, ⟨by omega, by omega, by rw [show ((l : Int) - 1 + 1).toNat = xs.length by omega]; exact h0⟩, ?_⟩
  rintro i H1 ⟨g0, g1, j1⟩
  obtain ⟨r1, s1⟩ := hJ _ _ j1
  refine bcd (fun h => ?_) (fun h => ?_)
  · refine ldL_i r1 ?_
    refine snW s1 h (by omega) fun hi => ?_
    have hii : i = ((i.toNat : Nat) : Int) := by omega
    have := hG i.toNat hi H1 (fun al25 Hx23 => alC al25 (CHK .i64 (i - (1 : Int)) fun x29 => (-1 ≤ x29 ∧ x29 < (xs.length : Int) ∧ J (x29 + 1).toNat Hx23) ∧ (x29 + 1).toNat < (i + 1).toNat) fun j21 up22 => K (.off j21 up22) Hx23) (by rw [show i.toNat + 1 = (i + 1).toNat by omega]; exact j1)
      (fun H'' j2 => alOn (chk (by omega) ⟨⟨by omega, by omega, by rw [show (i - 1 + 1).toNat = i.toNat by omega]; exact j2⟩, by omega⟩)) (fun j up H'' hk => hk)
    rw [← hii] at this
    exact this
  · rw [show (i + 1).toNat = 0 by omega] at j1
    exact hK H1 j1

section
variable {H : Hp} {d : Nat} {O : List Nat} {s : DS}
/-- What was written since, the latest first; R: what the loop's body writes. -/
theorem sector_Disk_latest_1.c {cp : Nat} {G : Int → ByteArray → Hp → (Al → Hp → Prop) → Prop} {K : Al → Hp → Prop} (hu : Dk H d O s) (hw : s.w.length ≤ 1000000000) (hc : rd H cp 0 = some (.pointer (some ⟨d, 0, none⟩))) (R : List Nat) (hR : ∀ x ∈ R, x ∉ O ∧ x ≠ cp ∧ H x ≠ none) (P : Nat → Hp → Prop)
    (hP : ∀ i H' H'', P i H' → Le H' H'' → P i H'') (h0 : P s.w.length H)
    (hG : ∀ i (hi : i < s.w.length) H' Kb, P (i + 1) H' → Mod R H H' → (∀ H'', P i H'' → Mod R H' H'' → Kb .on H'') → (∀ j up H'', K (.off j up) H'' → Kb (.off j up) H'') → G (s.w[i].1 : Nat) (mkB s.w[i].2) H' Kb)
    (hK : ∀ H', P 0 H' → Mod R H H' → K .on H') : sector_Disk_latest_1.I cp H G K := by
  apply sector_Disk_latest_1.of
  intro Lq b4 hb4
  have le1 : Le H (upd H b4 [yv Lq]) := Le.upd hb4
  have r4 : rd (upd H b4 [yv Lq]) b4 0 = some (yv Lq) := by rw [rd_upd_self]; rfl
  generalize upd H b4 [yv Lq] = H1 at le1 r4
  have hu1 := hu.le le1
  obtain ⟨lp, k, wp, k', rfl, h⟩ := hu1
  refine ldP_i (le1.rd hc) (nil (ldL_i h.r1 ?_))
  apply slices_Backward_sector_write_sector_write.of
  intro b5 hb5
  have le2 : Le H1 (upd H1 b5 [.slice wp s.w.length k']) := Le.upd hb5
  have r5 : rd (upd H1 b5 [.slice wp s.w.length k']) b5 0 = some (.slice wp s.w.length k') := by rw [rd_upd_self]; rfl
  generalize upd H1 b5 [.slice wp s.w.length k'] = H2 at le2 r5
  have hsn : Sn 2 wc H2 wp s.w.length k' s.w := (h.bw.sn wc_len (by decide)).le le2
  have n4 : H b4 = none := hb4
  have n5 : H1 b5 = none := hb5
  have R4 : b4 ∉ R := fun hx => (hR _ hx).2.2 n4
  have R5 : b5 ∉ R := fun hx => (hR _ hx).2.2 (none_of_le le1 n5)
  have Rw : ∀ b o, wp = some ⟨b, o, none⟩ → b ∉ R := fun b o e hx => (hR _ hx).1 (by simp [blkL, e])
  have le02 := le1.trans le2
  have mH : ∀ {H'}, Mod R H2 H' → Mod R H H' := fun m => Mod.after m le02
  refine slices_Backward_sector_write_sector_write_1.c (fun i H' => P i H' ∧ Mod R H2 H') (fun i H' ⟨_, m⟩ => ⟨m.rd R5 r5, hsn.mod m Rw⟩) ⟨hP _ _ _ h0 le02, Mod.refl⟩ hw (fun i hi H' Kb ⟨p1, m1⟩ hon hoff => ?_) (fun H' ⟨p1, m1⟩ => alOn (hK H' p1 (mH m1)))
  intro b6 hb6
  refine ST_upd rfl (ST_upd rfl ?_)
  generalize hH3 : upd H' b6 _ = H3
  have le3 : Le H' H3 := by rw [← hH3]; exact Le.upd hb6
  have r60 : rd H3 b6 0 = some (.int .i64 (s.w[i].1 : Nat)) := by rw [← hH3, rd_upd_self]; rfl
  have r61 : rd H3 b6 1 = some (.string (mkB s.w[i].2)) := by rw [← hH3, rd_upd_self]; rfl
  have r4' : rd H3 b4 0 = some (yv Lq) := le3.rd (m1.rd R4 (le2.rd r4))
  refine ⟨_, r4', ldI_i r60 (ldS_i r61 (.inl ⟨rfl, ?_⟩))⟩
  have hu3 : Mod R H2 H3 := m1.andLe le3
  refine hG i hi H3 _ (hP _ _ _ p1 le3) (mH hu3) (fun H'' p2 m2 => alOn (hon H'' ⟨p2, hu3.trans m2⟩)) (fun j up H'' hk => hoff 0 (.off j up) H'' hk)

theorem lastW_none {w : List (Nat × BL)} {i : Nat} (h : ∀ j (hj : j < w.length), w[j].1 ≠ i) : lastW w i = none := by
  unfold lastW
  rw [List.find?_eq_none.2 (fun x hx => ?_)]; rfl
  obtain ⟨j, hj, rfl⟩ := List.mem_iff_getElem.1 (List.mem_reverse.1 hx)
  simpa using h j hj
theorem lastW_some {w : List (Nat × BL)} {i j : Nat} (hj : j < w.length) (he : w[j].1 = i) (h : ∀ k (hk : k < w.length), j < k → w[k].1 ≠ i) : lastW w i = some w[j].2 := by
  unfold lastW
  have e : w.reverse = (w.drop (j + 1)).reverse ++ w[j] :: (w.take j).reverse := by
    conv => lhs; rw [← List.take_append_drop j w, List.drop_eq_getElem_cons hj]
    simp
  rw [e, List.find?_append, List.find?_eq_none.2 (fun x hx => ?_)]
  · simp [he]
  · obtain ⟨k, hk, rfl⟩ := List.mem_iff_getElem.1 (List.mem_reverse.1 hx)
    simp only [List.getElem_drop, decide_eq_true_eq]
    exact h _ _ (by omega)
theorem sector_Disk_Read.c {i : Int} {K : ByteArray → Int → Hp → Prop} (hu : Dk H d O s) (hw : s.w.length ≤ 1000000000) (hK : ∀ H', Le H H' → K (mkB (s.read i)) (s.readE i) H') : sector_Disk_Read.C (some ⟨d, 0, none⟩) i H K := by
  apply sector_Disk_Read.of
  intro b3 hb3 b5 hb5 b7 hb7
  have n53 : b5 ≠ b3 := fun e => by subst e; simp [upd] at hb5
  have n73 : b7 ≠ b3 := fun e => by subst e; have := none_of_le (Le.upd hb5) hb7; simp [upd] at this
  have n75 : b7 ≠ b5 := fun e => by subst e; simp [upd] at hb7
  have le1 : Le H (upd (upd (upd H b3 [.int .i64 i]) b5 [.string .empty]) b7 [.int .i64 0]) := ((Le.upd hb3).trans (Le.upd hb5)).trans (Le.upd hb7)
  have a3 : H b3 = none := hb3
  have a5 : H b5 = none := none_of_le (Le.upd hb3) hb5
  have a7 : H b7 = none := none_of_le ((Le.upd hb3).trans (Le.upd hb5)) hb7
  have r3 : rd (upd (upd (upd H b3 [.int .i64 i]) b5 [.string .empty]) b7 [.int .i64 0]) b3 0 = some (.int .i64 i) := by rw [rd_upd_ne (Ne.symm n73), rd_upd_ne (Ne.symm n53), rd_upd_self]; rfl
  have r5 : rd (upd (upd (upd H b3 [.int .i64 i]) b5 [.string .empty]) b7 [.int .i64 0]) b5 0 = some (.string .empty) := by rw [rd_upd_ne (Ne.symm n75), rd_upd_self]; rfl
  have r7 : rd (upd (upd (upd H b3 [.int .i64 i]) b5 [.string .empty]) b7 [.int .i64 0]) b7 0 = some (.int .i64 0) := by rw [rd_upd_self]; rfl
  generalize upd (upd (upd H b3 [.int .i64 i]) b5 [.string .empty]) b7 [.int .i64 0] = H1 at le1 r3 r5 r7
  have hu1 := hu.le le1
  -- how it tells an answer
  have out : ∀ {H2 : Hp} {x y : ByteArray} {e e0 : Int}, Le H H2 → rd H2 b5 0 = some (.string y) → rd H2 b7 0 = some (.int .i64 e0) → x = mkB (s.read i) → e = s.readE i →
      ST H2 b5 0 (.string x) fun H3 => ST H3 b7 0 (.int .i64 e) fun H4 => ldS (rd H4 b5 0) fun r => ldI .i64 (rd H4 b7 0) fun r' => K r r' H4 := fun {H2 x y e e0} le r5 r7 hx he => by
    refine st r5 (st (rd_wr_ne n75 ▸ r7) ?_)
    refine ldS_i (by rw [rd_wr_ne (Ne.symm n75), rd_wr_self r5]) (ldI_i (rd_wr_self (rd_wr_ne n75 ▸ r7)) ?_)
    rw [hx, he]
    exact hK _ ((le.wr a5).wr a7)
  unfold DS.read DS.readE at hK out
  obtain ⟨lp, k, wp, k', hO, h⟩ := hu1
  refine nil (ldI_i h.r3 (bcd (fun h0 => ?_) (fun h0 => ?_)))
  · have off := leftI_zero.1 h0
    rw [if_neg off, if_neg off] at out
    exact out le1 r5 r7 rfl rfl
  have on : s.on := Classical.not_not.1 fun hh => h0 (leftI_zero.2 hh)
  rw [if_pos on, if_pos on] at out
  have hu1 : Dk H1 d O s := ⟨lp, k, wp, k', hO, h⟩
  refine ldI_i r3 (sector_Disk_there.c hu1 ?_)
  refine bcn (fun hf => ?_) (fun hf => ?_)
  · have hf := of_decide_eq_false hf
    rw [if_neg hf, if_neg hf] at out
    exact out le1 r5 r7 rfl rfl
  have hf := of_decide_eq_true hf
  rw [if_pos hf, if_pos hf] at out
  have hi : i = ((i.toNat : Nat) : Int) := by unfold DS.fits at hf; omega
  have hil : i.toNat < s.l.length := by unfold DS.fits at hf; omega
  apply sector_Disk_latest.of
  intro b8 hb8
  have le2 : Le H1 (upd H1 b8 [.pointer (some ⟨d, 0, none⟩)]) := Le.upd hb8
  have r8 : rd (upd H1 b8 [.pointer (some ⟨d, 0, none⟩)]) b8 0 = some (.pointer (some ⟨d, 0, none⟩)) := by rw [rd_upd_self]; rfl
  have x3 := ne_none_of_rd r3
  have x5 := ne_none_of_rd r5
  have x7 := ne_none_of_rd r7
  have n38 : b3 ≠ b8 := ne_of_none x3 hb8
  have n58 : b5 ≠ b8 := ne_of_none x5 hb8
  have n78 : b7 ≠ b8 := ne_of_none x7 hb8
  replace r3 := le2.rd r3
  replace r5 := le2.rd r5
  replace r7 := le2.rd r7
  generalize upd H1 b8 [.pointer (some ⟨d, 0, none⟩)] = H2 at le2 r8 r3 r5 r7
  have hu2 := hu1.le le2
  have le02 := le1.trans le2
  have th := hu.there
  refine sector_Disk_latest_1.c hu2 hw r8 [b5, b7] (fun x hx => ?_) (fun j H' => rd H' b3 0 = some (.int .i64 i) ∧ (∃ y, rd H' b5 0 = some (.string y)) ∧ (∃ e, rd H' b7 0 = some (.int .i64 e)) ∧ Le H H' ∧ ∀ m (hm : m < s.w.length), j ≤ m → s.w[m].1 ≠ i.toNat)
    (fun j H' H'' ⟨g1, ⟨y, g2⟩, ⟨e, g3⟩, g4, g5⟩ le => ⟨le.rd g1, ⟨y, le.rd g2⟩, ⟨e, le.rd g3⟩, g4.trans le, g5⟩) ⟨r3, ⟨_, r5⟩, ⟨_, r7⟩, le02, fun m hm h => by omega⟩ (fun j hj H' Kb ⟨g1, ⟨y, g2⟩, ⟨e, g3⟩, g4, g5⟩ _ hon hoff => ?_) (fun H' ⟨g1, ⟨y, g2⟩, ⟨e, g3⟩, g4, g5⟩ m => alOn ?_)
  · simp only [List.mem_cons, List.not_mem_nil, or_false] at hx
    rcases hx with rfl | rfl
    · exact ⟨fun hx => th _ hx a5, n58, ne_none_of_rd r5⟩
    · exact ⟨fun hx => th _ hx a7, n78, ne_none_of_rd r7⟩
  · refine ldI_i g1 (bcd (fun he => ?_) (fun he => hon H' ⟨g1, ⟨y, g2⟩, ⟨e, g3⟩, g4, fun m hm hjm => ?_⟩ Mod.refl))
    · have hlast := lastW_some hj (i := i.toNat) (by omega) fun m hm hjm => g5 m hm (by omega)
      rw [hlast] at out
      refine st g2 (st (rd_wr_ne n75 ▸ g3) (hoff _ _ _ ?_))
      refine ldS_i (by rw [rd_wr_ne (Ne.symm n75), rd_wr_self g2]) (ldI_i (rd_wr_self (rd_wr_ne n75 ▸ g3)) ?_)
      have hK' := hK _ ((g4.wr a5).wr a7 : Le H (wr (wr H' b5 0 (.string (mkB s.w[j].2))) b7 0 (.int .i64 0)))
      rw [if_pos on, if_pos hf, if_pos on, if_pos hf, hlast] at hK'
      exact hK'
    · by_cases hmj : m = j
      · subst hmj; omega
      · exact g5 m hm (by omega)
  · have hnone := lastW_none (w := s.w) (i := i.toNat) fun m hm => g5 m hm (Nat.zero_le _)
    rw [hnone] at out
    have hu' := hu2.mod m fun x hx hx' => ?_
    · obtain ⟨lp, k, wp, k', rfl, h⟩ := hu'
      refine nil (ldL_i h.r0 (ldI_i g1 (idxN i.toNat hi hil ?_)))
      obtain ⟨q, rfl⟩ := h.bl.some_of (by omega)
      have hB : rd H' q (0 + i.toNat) = some (sv (s.l[i.toNat]'hil)) := h.bl.rd (by
        rw [List.getElem?_map, List.getElem?_eq_getElem hil]; rfl)
      refine nil (ldS_i hB (out g4 g2 g3 ?_ rfl))
      simp [List.getD, hil]
    · simp only [List.mem_cons, List.not_mem_nil, or_false] at hx'
      rcases hx' with rfl | rfl
      · exact th _ hx a5
      · exact th _ hx a7
end
end Go.Proofs.Ytjfohhgmapipnaa
