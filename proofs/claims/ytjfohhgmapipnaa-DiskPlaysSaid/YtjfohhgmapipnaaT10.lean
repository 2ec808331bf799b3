/- Contracts. -/
import Derived.Test.YtjfohhgmapipnaaT9
namespace Go.Proofs.Ytjfohhgmapipnaa
open Go.V
/-! ### The document's disk: what is kept, reading, new ones -/
theorem RkB.setl {H : Hp} {r : Nat} {s : DS} {kp ap wp : Option Addr} {k k1 k2 : Nat} {lim : Int} {on : Bool} (h : RkB H r kp k ap k1 wp k2 lim on s) {i : Nat} (hi : i < s.l.length) {q : Nat} (hq : kp = some ⟨q, 0, none⟩) (b : BL) : RkB (wr H q i (sv b)) r kp k ap k1 wp k2 lim on { s with l := s.l.set i b } := by
  subst hq
  have hdq : r ≠ q := fun e => h.n1 (by simp [blkL, e])
  have hlen : (s.l.set i b).length = s.l.length := by simp
  have mq : Mod [q] H (wr H q i (sv b)) := Mod.refl.wr (.inl (by simp))
  refine ⟨?_, ?_, ?_, ?_, ?_, ?_, ?_, ?_, ?_, h.n1, h.n2, h.n3, h.a1, h.a2, h.a3, h.left, h.lim0, fun x hx => by rw [hlen]; exact h.ok x hx, h.wn⟩
  · show rd _ r 0 = some (.slice _ (s.l.set i b).length k)
    rw [rd_wr_ne hdq, hlen]; exact h.r0
  · rw [rd_wr_ne hdq]; exact h.r1
  · rw [rd_wr_ne hdq]; exact h.r2
  · rw [rd_wr_ne hdq]; exact h.r3
  · rw [rd_wr_ne hdq]; exact h.r4
  · rw [rd_wr_ne hdq]; exact h.r5
  · have := h.bl.set (i := i) (v := sv b) (by simpa using hi) rfl
    show Buf 1 E0 _ _ (s.l.set i b).length k ((s.l.set i b).map sv)
    rw [hlen, List.map_set]; exact this
  · exact h.ba.mod mq fun x o e hx => by simp at hx; subst hx; exact h.a1 x (by simp [blkL]) (by simp [blkL, e])
  · exact h.bw.mod mq fun x o e hx => by simp at hx; subst hx; exact h.a2 x (by simp [blkL]) (by simp [blkL, e])
theorem iv_sl {H : Hp} {p : Option Addr} {l k : Nat} {xs : List (Nat × BL)} (h : Buf 1 E0 H p l k (xs.map fun x => iv x.1)) : Sl (fun x : Nat × BL => iv x.1) H p l k xs := h.sl
theorem sv_sl {H : Hp} {p : Option Addr} {l k : Nat} {xs : List (Nat × BL)} (h : Buf 1 E0 H p l k (xs.map fun x => sv x.2)) : Sl (fun x : Nat × BL => sv x.2) H p l k xs := h.sl
section
variable {H : Hp} {r : Nat} {O : List Nat} {s : DS}
theorem centoref19_Disk_keep.c {bits : Nat} {all : Bool} {K : Hp → Prop} (hu : Rk H r O s) (hb : bits < 18446744073709551616) (hw : s.w.length ≤ 1000000000) (hK : ∀ H' O', Rk H' r O' { s with l := keepF (fun j => all || kept bits j) 0 s.l s.w, w := [] } → Mod O H H' → Grew H O O' → K H') : centoref19_Disk_keep.C (some ⟨r, 0, none⟩) (bits : Nat) all H K := by
  apply centoref19_Disk_keep.of
  obtain ⟨kp, k, ap, k1, wp, k2, lim, on, rfl, h⟩ := hu
  refine ⟨fun t H' => ∃ (j : Nat) (l' : List BL), t = (j : Nat) ∧ j ≤ s.w.length ∧ l'.length = s.l.length ∧ keepF (fun j => all || kept bits j) j l' (s.w.drop j) = keepF (fun j => all || kept bits j) 0 s.l s.w ∧ RkB H' r kp k ap k1 wp k2 lim on { s with l := l' } ∧ Mod (r :: (blkL kp ++ (blkL ap ++ blkL wp))) H H', fun t _ => ((s.w.length : Int) - t).toNat, ⟨0, s.l, rfl, Nat.zero_le _, rfl, rfl, h, Mod.refl⟩, ?_⟩
  rintro t H1 ⟨j, l', rfl, g1, g2, g3, h1, m1⟩
  refine nil (ldL_i h1.r1 (bcd (fun hj => ?_) (fun hj => ?_)))
  · have hj' : j < s.w.length := by have : ((j : Nat) : Int) < (s.w.length : Nat) := hj; omega
    have hdrop : s.w.drop j = s.w[j] :: s.w.drop (j + 1) := List.drop_eq_getElem_cons hj'
    rw [hdrop, keepF] at g3
    have hx : s.w[j].1 < l'.length := h1.ok s.w[j] (List.getElem_mem hj')
    have body : ∀ t, t = (all || kept bits j) → centoref19_Disk_keep.k1 H1 (fun t H' => ∃ (j : Nat) (l' : List BL), t = (j : Nat) ∧ j ≤ s.w.length ∧ l'.length = s.l.length ∧ keepF (fun j => all || kept bits j) j l' (s.w.drop j) = keepF (fun j => all || kept bits j) 0 s.l s.w ∧ RkB H' r kp k ap k1 wp k2 lim on { s with l := l' } ∧ Mod (r :: (blkL kp ++ (blkL ap ++ blkL wp))) H H') (some ⟨r, 0, none⟩) ((j : Nat) : Int) (fun t _ => ((s.w.length : Int) - t).toNat) t H1 := fun t ht => by
      unfold centoref19_Disk_keep.k1
      cases t with
      | true =>
        rw [← ht, if_pos rfl] at g3
        refine bcT (nil (ldL_i h1.r0 (nil (ldL_i h1.r1 ?_))))
        refine sl_nil (iv_sl h1.ba) (by omega) hj fun b o hi e => ?_
        simp only [Int.toNat_natCast] at hi e ⊢
        refine ldI_i e (nil (ldL_i h1.r2 ?_))
        refine sl_nil (sv_sl h1.bw) (by omega) hj fun b o hi e => ?_
        simp only [Int.toNat_natCast] at hi e ⊢
        refine ldS_i e (idxN s.w[j].1 rfl hx ?_)
        obtain ⟨q, hq⟩ := h1.bl.some_of (by show 0 < l'.length; omega)
        subst hq
        have hB : rd H1 q (0 + s.w[j].1) = some (sv (l'[s.w[j].1]'hx)) := h1.bl.rd (by
          rw [List.getElem?_map]
          show Option.map sv (l'[s.w[j].1]?) = _
          rw [List.getElem?_eq_getElem hx]; rfl)
        refine nil (st hB (chk (by omega) ⟨⟨j + 1, l'.set s.w[j].1 s.w[j].2, by omega, by omega, by simp [g2], g3, ?_, ?_⟩, by first | omega | (dsimp only; omega)⟩))
        · rw [Nat.zero_add]
          exact h1.setl hx rfl s.w[j].2
        · exact m1.wr (.inl (by simp [blkL]))
      | false =>
        rw [← ht, if_neg (by decide)] at g3
        exact bcF (chk (by omega) ⟨⟨j + 1, l', by omega, by omega, g2, g3, h1, m1⟩, by first | omega | (dsimp only; omega)⟩)
    cases all with
    | true => exact bcT (body true rfl)
    | false =>
      refine bcF (bcd (fun h64 => ?_) (fun h64 => ?_))
      · rw [show IntKind.wrap .u64 ((j : Nat) : Int) = ((j : Nat) : Int) from u64w (by omega)]
        refine ⟨by omega, body _ ?_⟩
        rw [bit_test hb (by omega)]
        unfold kept
        rw [decide_eq_true (by omega), Bool.true_and, Bool.false_or]
      · exact body false (by unfold kept; rw [decide_eq_false (by omega)]; rfl)
  · have hjl : j = s.w.length := by have : ¬ ((j : Nat) : Int) < (s.w.length : Nat) := hj; omega
    subst hjl
    rw [List.drop_length, keepF] at g3
    subst g3
    have r2 : rd (wr H1 r 1 (.slice none 0 0)) r 2 = some (.slice wp s.w.length k2) := by rw [rd_wr_off (by decide)]; exact h1.r2
    have mr : Mod [r] H1 (wr (wr H1 r 1 (.slice none 0 0)) r 2 (.slice none 0 0)) := (Mod.refl.wr (.inl (by simp))).wr (.inl (by simp))
    refine nil (st h1.r1 (nil (st r2 (hK _ (r :: (blkL kp ++ (blkL none ++ blkL none))) ⟨kp, k, none, 0, none, 0, lim, on, rfl, ⟨?_, ?_, ?_, ?_, ?_, ?_, ?_, Buf.none, Buf.none, h1.n1, by simp [blkL], by simp [blkL], by simp [blkL], by simp [blkL], by simp [blkL], h1.left, h1.lim0, by simp, Nat.zero_le _⟩⟩ ((m1.wr (.inl (by simp))).wr (.inl (by simp))) ?_))))
    · rw [rd_wr_off (by decide), rd_wr_off (by decide)]; exact h1.r0
    · rw [rd_wr_off (by decide), rd_wr_self h1.r1]; rfl
    · rw [rd_wr_self r2]; rfl
    · rw [rd_wr_off (by decide), rd_wr_off (by decide)]; exact h1.r3
    · rw [rd_wr_off (by decide), rd_wr_off (by decide)]; exact h1.r4
    · rw [rd_wr_off (by decide), rd_wr_off (by decide)]; exact h1.r5
    · exact h1.bl.mod mr fun x o e hx => by simp at hx; subst hx; exact h1.n1 (by simp [blkL, e])
    · intro x hx
      simp [blkL] at hx
      rcases hx with hx | hx
      · exact .inl (by simp [hx])
      · exact .inl (by simp [blkL, hx])
theorem Rk.wn {H : Hp} {r : Nat} {O : List Nat} {s : DS} (h : Rk H r O s) : s.w.length ≤ s.n := by obtain ⟨_, _, _, _, _, _, _, _, _, h⟩ := h; exact h.wn
theorem centoref19_Disk_Flush.c {K : Int → Hp → Prop} (hu : Rk H r O s) (hn : s.n ≤ 900000000) (hK : ∀ H' O', Rk H' r O' s.flush → Mod O H H' → Grew H O O' → K s.flushE H') : centoref19_Disk_Flush.C (some ⟨r, 0, none⟩) H K := by
  apply centoref19_Disk_Flush.of
  unfold DS.flush DS.flushE at hK
  refine centoref19_Disk_off.c hu ?_
  by_cases hs : s.on
  · rw [decide_eq_false (fun h => h hs)]
    rw [if_pos hs, if_pos hs] at hK
    refine bcF (centoref19_Disk_step.c hu hs (by omega) fun H1 h1 m1 => ?_)
    have mO : Mod O H H1 := m1.mono (by simpa using hu.hr)
    refine centoref19_Disk_keep.c (bits := 0) h1 (by decide) (by have := hu.wn; show s.w.length ≤ _; omega) fun H2 O2 h2 m2 g2 => hK H2 O2 h2 (mO.trans m2) (Grew.trans Grew.refl g2 (none_of_mod mO))
  · rw [decide_eq_true hs]
    rw [if_neg hs, if_neg hs] at hK
    exact bcT (hK H O hu Mod.refl Grew.refl)
theorem centoref19_Disk_Crash.c {bits : Nat} {K : Hp → Prop} (hu : Rk H r O s) (hb : bits < 18446744073709551616) (hw : s.w.length ≤ 1000000000) (hK : ∀ H' O', Rk H' r O' (s.crash bits) → Mod O H H' → Grew H O O' → K H') : centoref19_Disk_Crash.C (some ⟨r, 0, none⟩) (bits : Nat) H K := by
  apply centoref19_Disk_Crash.of
  obtain ⟨kp, k, ap, k1, wp, k2, lim, on, rfl, h⟩ := hu
  have m5 : Mod [r] H (wr H r 5 (.bool false)) := Mod.refl.wr (.inl (by simp))
  have h1 : Rk (wr H r 5 (.bool false)) r (r :: (blkL kp ++ (blkL ap ++ blkL wp))) { s with left := none } := by
    refine ⟨kp, k, ap, k1, wp, k2, lim, false, rfl, h.nums (n := s.n) m5 ?_ ?_ ?_ ?_ ?_ (rd_wr_self h.r5) rfl h.lim0 (Nat.le_refl _)⟩
    · rw [rd_wr_off (by decide)]
    · rw [rd_wr_off (by decide)]
    · rw [rd_wr_off (by decide)]
    · rw [rd_wr_off (by decide)]; exact h.r3
    · rw [rd_wr_off (by decide)]; exact h.r4
  refine nil (st h.r5 (centoref19_Disk_keep.c h1 hb hw fun H2 O2 h2 m2 g2 => ?_))
  have mO : Mod (r :: (blkL kp ++ (blkL ap ++ blkL wp))) H (wr H r 5 (.bool false)) := m5.mono (by simp)
  have e : (fun j => false || kept bits j) = kept bits := funext fun j => Bool.false_or _
  rw [e] at h2
  exact hK H2 O2 h2 (mO.trans m2) (Grew.trans Grew.refl g2 (none_of_mod mO))
theorem lastW_take {w : List (Nat × BL)} {i j : Nat} (hj : j < w.length) : lastW (w.take (j + 1)) i = if w[j].1 = i then some w[j].2 else lastW (w.take j) i := by
  unfold lastW
  rw [List.take_add_one, List.getElem?_eq_getElem hj]
  simp only [Option.toList, List.reverse_append, List.reverse_cons, List.reverse_nil, List.nil_append, List.singleton_append, List.find?_cons]
  by_cases h : w[j].1 = i
  · simp [h]
  · simp [h]
theorem centoref19_Disk_Read.c {i : Int} {K : ByteArray → Int → Hp → Prop} (hu : Rk H r O s) (hw : s.w.length ≤ 1000000000) (hK : K (mkB (s.read i)) (s.readE i) H) : centoref19_Disk_Read.C (some ⟨r, 0, none⟩) i H K := by
  apply centoref19_Disk_Read.of
  unfold DS.read DS.readE at hK
  refine centoref19_Disk_off.c hu ?_
  by_cases hs : s.on
  · rw [decide_eq_false (fun h => h hs)]
    rw [if_pos hs, if_pos hs] at hK
    obtain ⟨kp, k, ap, k1, wp, k2, lim, on, rfl, h⟩ := hu
    refine bcF (bcd (fun g0 => ?_) (fun g0 => nil (ldL_i h.r0 (bcd (fun g1 => ?_) (fun g1 => ?_)))))
    · rw [if_neg (fun hh => by have := hh.1; omega), if_neg (fun hh => by have := hh.1; omega)] at hK
      exact hK
    · rw [if_neg (fun hh => by have := hh.2; omega), if_neg (fun hh => by have := hh.2; omega)] at hK
      exact hK
    · have hil : i.toNat < s.l.length := by omega
      rw [if_pos ⟨by omega, by omega⟩, if_pos ⟨by omega, by omega⟩] at hK
      unfold centoref19_Disk_Read.k1
      refine nil (ldL_i h.r0 (idxN i.toNat (by omega) hil ?_))
      obtain ⟨q, hq⟩ := h.bl.some_of (by omega)
      have hB : rd H q (0 + i.toNat) = some (sv (s.l[i.toNat]'hil)) := by
        have h5 := h.bl
        rw [hq] at h5
        exact h5.rd (by rw [List.getElem?_map, List.getElem?_eq_getElem hil]; rfl)
      rw [hq]
      refine nil (ldS_i hB ?_)
      refine ⟨fun x t H' => H' = H ∧ ∃ j : Nat, t = (j : Nat) ∧ j ≤ s.w.length ∧ x = mkB ((lastW (s.w.take j) i.toNat).getD (s.l.getD i.toNat [])), fun _ t _ => ((s.w.length : Int) - t).toNat, ⟨rfl, 0, rfl, Nat.zero_le _, by simp [lastW, List.getD, hil]⟩, ?_⟩
      rintro x t H1 ⟨rfl, j, rfl, g2, rfl⟩
      refine nil (ldL_i h.r1 (bcd (fun hj => ?_) (fun hj => ?_)))
      · have hj' : j < s.w.length := by omega
        refine nil (ldL_i h.r1 ?_)
        refine sl_nil (iv_sl h.ba) (by omega) hj fun b o hi e => ?_
        simp only [Int.toNat_natCast] at hi e ⊢
        refine ldI_i e (bcd (fun he => nil (ldL_i h.r2 ?_)) (fun he => chk (by omega) ⟨⟨by trivial, j + 1, by omega, by omega, ?_⟩, by first | omega | (dsimp only; omega)⟩))
        · refine sl_nil (sv_sl h.bw) (by omega) hj fun b o hi e => ?_
          simp only [Int.toNat_natCast] at hi e ⊢
          refine ldS_i e (chk (by omega) ⟨⟨by trivial, j + 1, by omega, by omega, ?_⟩, by first | omega | (dsimp only; omega)⟩)
          rw [lastW_take hj', if_pos (by omega)]; rfl
        · rw [lastW_take hj', if_neg (by omega)]
      · rw [List.take_of_length_le (by omega)]
        exact hK
  · rw [decide_eq_true hs]
    rw [if_neg hs, if_neg hs] at hK
    exact bcT hK
end
theorem rd_repR {H : Hp} {b n k : Nat} {tl : List Value} {z : Value} (h : k < n) (hz : isCell z = true := by rfl) : rd (upd H b (rep n [z] ++ tl)) b k = some z := by
  rw [rd_upd_self, List.getElem?_append_left (by simp [rep]; exact h)]
  show ((List.replicate n z)[k]?).bind nmO = some z
  rw [List.getElem?_replicate, if_pos h]; exact nm_cell hz
theorem btsR {H : Hp} {b n : Nat} {tl : List Value} {F : ByteArray → Prop} (hF : F (mkB (List.replicate n 0))) : BTS (upd H b (rep n [.int .u8 (0 : Int)] ++ tl)) (some ⟨b, 0, none⟩) n F := by
  refine ⟨List.replicate n 0, by simp, fun i x hx => ?_, hF⟩
  rw [List.getElem?_replicate] at hx
  split at hx
  · rename_i hi
    rw [Nat.zero_add, rd_repR hi, ← Option.some.inj hx]; rfl
  · cases hx
theorem centoref19_New.c {n : Int} {H : Hp} {K : Option Addr → Hp → Prop} (hK : ∀ H' r O, Rk H' r O (DS.new n) → Le H H' → (∀ x ∈ O, H x = none) → K (some ⟨r, 0, none⟩) H') : centoref19_New.C n H K := by
  apply centoref19_New.of
  unfold DS.new at hK
  obtain ⟨m, hm⟩ : ∃ m : Nat, max 0 (min n 1000) = (m : Nat) := ⟨(max 0 (min n 1000)).toNat, by omega⟩
  have hm' : (min (max n 0) 1000).toNat = m := by omega
  rw [hm'] at hK
  unfold centoref19_New.F
  rw [hm]
  have hm1 : m ≤ 1000 := by omega
  intro r hr
  have le1 : Le H (upd H r [.slice none 0 0, .slice none 0 0, .slice none 0 0, .int .i64 0, .int .i64 0, .bool false]) := Le.upd hr
  have q : ∀ i v, ([Value.slice none 0 0, .slice none 0 0, .slice none 0 0, .int .i64 0, .int .i64 0, .bool false] : List Value)[i]? = some v → isCell v = true → rd (upd H r [.slice none 0 0, .slice none 0 0, .slice none 0 0, .int .i64 0, .int .i64 0, .bool false]) r i = some v := fun i v hv hc => by
    rw [rd_upd_self, hv]; exact nm_cell hc
  have q0 := q 0 _ rfl rfl
  have q1 := q 1 _ rfl rfl
  have q2 := q 2 _ rfl rfl
  have q3 := q 3 _ rfl rfl
  have q4 := q 4 _ rfl rfl
  have q5 := q 5 _ rfl rfl
  clear q
  generalize upd H r [.slice none 0 0, .slice none 0 0, .slice none 0 0, .int .i64 0, .int .i64 0, .bool false] = H1 at *
  refine ⟨fun t H' => ∃ (i : Nat) (p : Option Addr) (k : Nat), t = (i : Nat) ∧ i ≤ m ∧ Le H H' ∧ (∀ x ∈ blkL p, H x = none) ∧ RkB H' r p k none 0 none 0 0 false { l := List.replicate i zero64, w := [], n := 0, left := none }, fun t _ => ((m : Int) - t).toNat, ⟨0, none, 0, rfl, Nat.zero_le _, le1, by simp [blkL], q0, q1, q2, q3, q4, q5, Buf.none, Buf.none, Buf.none, by simp [blkL], by simp [blkL], by simp [blkL], by simp [blkL], by simp [blkL], by simp [blkL], rfl, by decide, by simp, Nat.le_refl _⟩, ?_⟩
  rintro t H2 ⟨i, p, k, rfl, g1, g2, g3, h⟩
  have hli : (List.replicate i zero64).length = i := by simp
  refine bcd (fun hi => ?_) (fun hi => ?_)
  · refine ldL_i h.r0 (mk (n := 64) rfl (by decide) (by decide) fun b hb => ?_)
    have leb : Le H2 (upd H2 b (rep 64 [.int .u8 0] ++ [tyM ty_uint8 0 0])) := Le.upd hb
    refine ⟨leb.rd h.r0, btsR ⟨leb.rd h.r0, ?_⟩⟩
    intro b2 hb2
    have le3 : Le H2 (upd (upd H2 b (rep 64 [.int .u8 0] ++ [tyM ty_uint8 0 0])) b2 [.string (mkB (List.replicate 64 0))]) := leb.trans (Le.upd hb2)
    have hc : (upd (upd H2 b (rep 64 [.int .u8 0] ++ [tyM ty_uint8 0 0])) b2 [.string (mkB (List.replicate 64 0))]) b2 = some [sv zero64] := by simp [upd, sv, zero64]
    generalize upd (upd H2 b (rep 64 [.int .u8 0] ++ [tyM ty_uint8 0 0])) b2 [.string (mkB (List.replicate 64 0))] = H3 at le3 hc
    have h3 := h.mod (P := []) le3.mod (by simp)
    refine ⟨h3.r0, ?_⟩
    have hbm := h3.bl.base (A' := dmn E0 H3) fun _ _ e => dmn_none e
    refine hbm.pushAt hc rfl (by decide) rfl (by decide) rfl rfl (by show ((List.replicate i zero64).length + 1) * 16 ≤ _; rw [hli]; omega) (fun p' c' H4 hB hp hm4 => ?_) dmn_le
    have hp' : ∀ x ∈ blkL p', x ∈ blkL p ∨ H3 x = none := fun x hx => by
      rcases hp with rfl | hp
      · exact .inl hx
      · exact .inr (hp x 0 (blkL_mem hB.zero hx))
    have hrp : r ∉ blkL p' := fun hx => by
      rcases hp' r hx with h5 | h5
      · exact h3.n1 h5
      · exact ne_none_of_rd h3.r0 h5
    have g3' : ∀ x ∈ blkL p', H x = none := fun x hx => by
      rcases hp' x hx with h5 | h5
      · exact g3 x h5
      · exact none_of_le (g2.trans le3) h5
    have mr : Mod [r] H4 (wr H4 r 0 (.slice p' ((List.replicate i zero64).length + 1) c')) := Mod.refl.wr (.inl (by simp))
    have e1 : (List.replicate (i + 1) zero64).length = (List.replicate i zero64).length + 1 := by simp
    refine st (hm4.rd h3.n1 h3.r0) (chk (by omega) ⟨⟨i + 1, p', c', rfl, by omega, (hm4.le (g2.trans le3) g3).wr hr, g3', ?_, ?_, ?_, ?_, ?_, ?_, ?_, Buf.none, Buf.none, hrp, by simp [blkL], by simp [blkL], by simp [blkL], by simp [blkL], by simp [blkL], rfl, by decide, by simp, Nat.le_refl _⟩, by first | omega | (dsimp only; omega)⟩)
    · show rd _ r 0 = some (.slice p' (List.replicate (i + 1) zero64).length c')
      rw [e1]
      exact rd_wr_self (hm4.rd h3.n1 h3.r0)
    · rw [rd_wr_off (by decide)]; exact hm4.rd h3.n1 h3.r1
    · rw [rd_wr_off (by decide)]; exact hm4.rd h3.n1 h3.r2
    · rw [rd_wr_off (by decide)]; exact hm4.rd h3.n1 h3.r3
    · rw [rd_wr_off (by decide)]; exact hm4.rd h3.n1 h3.r4
    · rw [rd_wr_off (by decide)]; exact hm4.rd h3.n1 h3.r5
    · show Buf 1 E0 _ p' (List.replicate (i + 1) zero64).length c' ((List.replicate (i + 1) zero64).map sv)
      rw [e1]
      rw [List.replicate_succ', List.map_append]
      exact (Buf.e0 hB).mod mr fun x o e hx => by simp at hx; subst hx; exact hrp (by simp [blkL, e])
  · have hi : i = m := by omega
    subst hi
    exact hK H2 r (r :: (blkL p ++ (blkL none ++ blkL none))) ⟨_, _, _, _, _, _, _, _, rfl, h⟩ g2 (by simp [blkL] at g3 ⊢; exact ⟨hr, g3⟩)
end Go.Proofs.Ytjfohhgmapipnaa
