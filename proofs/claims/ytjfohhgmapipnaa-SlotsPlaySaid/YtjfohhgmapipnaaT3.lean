/- Contracts. -/
import Derived.Test.YtjfohhgmapipnaaT2
namespace Go.Proofs.Ytjfohhgmapipnaa
open Go.V
/-! ### The disk: what is kept -/
theorem snW {H : Hp} {p : Option Addr} {l k : Nat} {xs : List (Nat × BL)} (h : Sn 2 wc H p l k xs) {i : Int} {F : Int → ByteArray → Prop} (h0 : 0 ≤ i) (hi : i < l)
    (hF : (hi : i.toNat < xs.length) → F ((xs[i.toNat].1 : Nat)) (mkB xs[i.toNat].2)) :
    IDX i l fun k => NIL p fun b o => ldI .i64 (rd H b (o + k * 2)) fun x => ldS (rd H b (o + k * 2 + 1)) fun y => F x y :=
  sn_nil h h0 hi fun _ _ hi e => ⟨_, e 0 _ rfl, _, e 1 _ rfl, hF hi⟩
section
variable {H : Hp} {d : Nat} {O : List Nat} {s : DS}
/-- A sector is laid anew. -/
theorem DkB.setl {lp wp : Option Addr} {k k' : Nat} {s : DS} (h : DkB H d lp k wp k' s) {i : Nat} (hi : i < s.l.length) {q : Nat} (hq : lp = some ⟨q, 0, none⟩) (b : BL) : DkB (wr H q i (sv b)) d lp k wp k' { s with l := s.l.set i b } := by
  subst hq
  have hdq : d ≠ q := fun e => h.d1 (by simp [blkL, e])
  have hlen : (s.l.set i b).length = s.l.length := by simp
  refine ⟨?_, ?_, ?_, ?_, ?_, ?_, h.d1, h.d2, h.ap, fun x hx => by rw [hlen]; exact h.ok x hx, h.wn, h.lim⟩
  · show rd _ d 0 = some (.slice _ (s.l.set i b).length k)
    rw [rd_wr_ne hdq, hlen]; exact h.r0
  · rw [rd_wr_ne hdq]; exact h.r1
  · rw [rd_wr_ne hdq]; exact h.r2
  · rw [rd_wr_ne hdq]; exact h.r3
  · have := h.bl.set (i := i) (v := sv b) (by simpa using hi) rfl
    show Buf 1 E0 _ _ (s.l.set i b).length k ((s.l.set i b).map sv)
    rw [hlen, List.map_set]; exact this
  · refine h.bw.mod (O := [q]) (Mod.refl.wr (.inl (by simp))) fun x o e hx => ?_
    simp at hx; subst hx
    exact h.ap x (by simp [blkL]) (by simp [blkL, e])
theorem Buf.some_b {s : Nat} {A H : Hp} {p : Option Addr} {l k : Nat} {cells : List Value} (h : Buf s A H p l k cells) (hne : 0 < l) : ∃ b, p = some ⟨b, 0, Option.none⟩ := h.some_of hne
theorem sector_Disk_keeps.c {f : Nat → Bool} {may : Value} {K : Hp → Prop} (hu : Dk H d O s) (hw : s.w.length ≤ 1000000000) (hmay : ∀ (j : Nat) H' (K' : Bool → Hp → Prop), j < s.w.length → Mod O H H' → K' (f j) H' → CallV prog may [.int .i64 (j : Nat)] H' fun v H'' => liftB v fun r => K' r H'')
    (hK : ∀ H' O', Dk H' d O' { s with l := keepF f 0 s.l s.w, w := [] } → Mod O H H' → Grew H O O' → K H') : sector_Disk_keeps.C (some ⟨d, 0, none⟩) may H K := by
  apply sector_Disk_keeps.of
  obtain ⟨lp, k, wp, k', rfl, h⟩ := hu
  refine nil (ldL_i h.r1 ?_)
  refine ⟨fun t H' => ∃ (j : Nat) (l' : List BL), t = (j : Nat) ∧ j ≤ s.w.length ∧ l'.length = s.l.length ∧ keepF f j l' (s.w.drop j) = keepF f 0 s.l s.w ∧ DkB H' d lp k wp k' { s with l := l' } ∧ Mod (d :: (blkL lp ++ blkL wp)) H H', fun t _ => ((s.w.length : Int) - t).toNat, ⟨0, s.l, rfl, Nat.zero_le _, rfl, rfl, h, Mod.refl⟩, ?_⟩
  rintro t H1 ⟨j, l', rfl, g1, g2, g3, h1, m1⟩
  refine bcd (fun hj => ?_) (fun hj => ?_)
  · have hsn : Sn 2 wc H1 wp s.w.length k' s.w := h1.bw.sn wc_len (by decide)
    refine snW hsn (by omega) (by omega) fun hj' => ?_
    simp only [Int.toNat_natCast] at hj' ⊢
    have hx := h1.ok s.w[j] (List.getElem_mem hj')
    intro b hb
    refine ST_upd rfl (ST_upd rfl ?_)
    generalize hH2 : upd H1 b _ = H2
    have le2 : Le H1 H2 := by rw [← hH2]; exact Le.upd hb
    have rb0 : rd H2 b 0 = some (.int .i64 (s.w[j].1 : Nat)) := by rw [← hH2, rd_upd_self]; rfl
    have rb1 : rd H2 b 1 = some (sv s.w[j].2) := by rw [← hH2, rd_upd_self]; rfl
    have h2 := h1.mod (P := []) le2.mod (by simp)
    have m2 := m1.trans le2.mod
    refine hmay j H2 _ hj' m2 ?_
    have hdrop : s.w.drop j = s.w[j] :: s.w.drop (j + 1) := List.drop_eq_getElem_cons hj'
    rw [hdrop, keepF] at g3
    cases hf : f j with
    | true =>
      rw [hf, if_pos rfl] at g3
      refine bcT (nil (ldL_i h2.r0 (ldI_i rb0 (ldS_i rb1 ?_))))
      obtain ⟨q, hq⟩ := h2.bl.some_of (by show 0 < l'.length; have : s.w[j].1 < l'.length := hx; omega)
      subst hq
      have hB : rd H2 q (0 + s.w[j].1) = some (sv (l'[s.w[j].1]'hx)) := h2.bl.rd (by
        rw [List.getElem?_map]
        show Option.map sv (l'[s.w[j].1]?) = _
        rw [List.getElem?_eq_getElem hx]; rfl)
      refine idxN s.w[j].1 rfl hx ?_
      refine nil (st hB (chk (by omega) ⟨⟨j + 1, l'.set s.w[j].1 s.w[j].2, by omega, by omega, by simp [g2], g3, ?_, ?_⟩, by first | omega | (dsimp only; omega)⟩))
      · rw [Nat.zero_add]
        exact h2.setl hx rfl s.w[j].2
      · exact m2.wr (.inl (by simp [blkL]))
    | false =>
      rw [hf] at g3
      refine bcF (chk (by omega) ⟨⟨j + 1, l', by omega, by omega, g2, g3, h2, m2⟩, by first | omega | (dsimp only; omega)⟩)
  · have hjl : j = s.w.length := by omega
    subst hjl
    rw [List.drop_length, keepF] at g3
    subst g3
    refine nil (st h1.r1 (hK _ (d :: (blkL lp ++ blkL none)) ⟨lp, k, none, 0, rfl, ⟨?_, ?_, ?_, ?_, ?_, Buf.none, h1.d1, by simp [blkL], by simp [blkL], by simp, Nat.zero_le _, h1.lim⟩⟩ (m1.wr (.inl (by simp))) ?_))
    · rw [rd_wr_off (by decide)]; exact h1.r0
    · exact rd_wr_self h1.r1
    · rw [rd_wr_off (by decide)]; exact h1.r2
    · rw [rd_wr_off (by decide)]; exact h1.r3
    · refine h1.bl.mod (O := [d]) (Mod.refl.wr (.inl (by simp))) fun x o e hx => ?_
      simp at hx; subst hx; exact h1.d1 (by simp [blkL, e])
    · intro x hx
      simp [blkL] at hx
      rcases hx with hx | hx
      · exact .inl (by simp [hx])
      · exact .inl (by simp [blkL, hx])
theorem Grew.trans {H H' : Hp} {O O1 O2 : List Nat} (h : Grew H O O1) (h' : Grew H' O1 O2) (hw : ∀ x, x ∉ O → H' x = none → H x = none) : Grew H O O2 := fun x hx => by
  rcases h' x hx with h1 | h1
  · exact h x h1
  · by_cases hO : x ∈ O
    · exact .inl hO
    · exact .inr (hw x hO h1)
theorem none_of_mod {H H' : Hp} {O : List Nat} (h : Mod O H H') : ∀ x, x ∉ O → H' x = none → H x = none := fun x hx e => by
  cases hh : H x with
  | none => rfl
  | some c' => rw [h x hx c' hh] at e; cases e
theorem Mod.into {H H' H'' : Hp} {O O' : List Nat} (h : Mod O H H') (h' : Mod O' H' H'') (hg : Grew H O O') : Mod O H H'' := fun b hb c' e =>
  h' b (fun hb' => by rcases hg b hb' with h1 | h1; exact hb h1; rw [h1] at e; cases e) c' (h b hb c' e)
theorem sector_Disk_Flush.c {K : Int → Hp → Prop} (hu : Dk H d O s) (hn : s.n ≤ 1000000000) (hK : ∀ H' O', Dk H' d O' s.flush → Mod O H H' → Grew H O O' → K s.flushE H') : sector_Disk_Flush.C (some ⟨d, 0, none⟩) H K := by
  apply sector_Disk_Flush.of
  unfold DS.flush DS.flushE at hK
  refine sector_Disk_step.c hu hn (fun h0 => ?_) (fun on H1 h1 m1 => ?_)
  · rw [if_neg h0, if_neg h0] at hK
    exact bcn (fun _ => hK H O hu Mod.refl Grew.refl) (fun h => by cases h)
  rw [if_pos on, if_pos on] at hK
  refine bcn (fun h => by cases h) (fun _ => ?_)
  have mO : Mod O H H1 := m1.mono (by simpa using hu.hd)
  have hw : s.step.w.length ≤ 1000000000 := by obtain ⟨_, _, _, _, _, h⟩ := hu; exact Nat.le_trans h.wn hn
  refine sector_Disk_keeps.c (f := fun _ => true) h1 hw (fun j H' K' _ _ hK' => ?_) fun H2 O2 h2 m2 g2 => hK H2 O2 h2 (mO.trans m2) (Grew.trans Grew.refl g2 (none_of_mod mO))
  exact sector_Disk_Flush_1.of _ hK'
theorem keep_bit {bits j : Nat} (hb : bits < 18446744073709551616) (hj : j < 64) : decide (iand .u64 (ishr .u64 ((bits : Nat) : Int) ((j : Nat) : Int)) (1 : Int) = (1 : Int)) = bits.testBit j := bit_test hb hj
theorem sector_Disk_Crash.c {bits : Nat} {K : Hp → Prop} (hu : Dk H d O s) (hw : s.w.length ≤ 1000000000) (hb : bits < 18446744073709551616) (hK : ∀ H' O', Dk H' d O' (s.crash bits) → Mod O H H' → Grew H O O' → K H') : sector_Disk_Crash.C (some ⟨d, 0, none⟩) (bits : Nat) H K := by
  apply sector_Disk_Crash.of
  intro b hb'
  have h1 := hu.le (Le.upd (c := [.int .u64 (bits : Nat)]) hb')
  have hbO : b ∉ O := fun h => hu.there b h hb'
  refine sector_Disk_keeps.c (f := kept bits) h1 hw (fun j H' K' hj m hK' => ?_) fun H2 O2 h2 m2 g2 => ?_
  · refine sector_Disk_Crash_1.of _ _ ?_
    have rb : rd H' b 0 = some (.int .u64 (bits : Nat)) := m.rd hbO (by rw [rd_upd_self]; rfl)
    unfold kept at hK'
    refine bcd (fun h => ldI_i rb ⟨by omega, ?_⟩) (fun h => ?_)
    · rw [keep_bit hb (by omega)]
      rw [decide_eq_true (by omega), Bool.true_and] at hK'
      exact hK'
    · rw [decide_eq_false (by omega), Bool.false_and] at hK'
      exact hK'
  · obtain ⟨lp, k, wp, k', rfl, h2⟩ := h2
    have m : Mod O H H2 := (Le.upd hb').mod.trans m2
    have hdO : d ∈ O := hu.hd
    refine nil (st h2.r3 (hK _ _ ⟨lp, k, wp, k', rfl, h2.nums (left := none) (Mod.refl.wr (.inl (by simp))) ?_ ?_ ?_ ?_ (Nat.le_refl _) (fun j hj => by cases hj)⟩ (m.wr (.inl hdO)) (Grew.trans Grew.refl g2 (none_of_mod (O := O) (Le.upd hb').mod))))
    · rw [rd_wr_off (by decide)]
    · rw [rd_wr_off (by decide)]
    · rw [rd_wr_off (by decide)]; exact h2.r2
    · exact rd_wr_self h2.r3
end
end Go.Proofs.Ytjfohhgmapipnaa
