/- Contracts. -/
import Derived.Test.YtjfohhgmapipnaaT6
namespace Go.Proofs.Ytjfohhgmapipnaa
open Go.V
/-! ### The document's disk -/
structure RkB (H : Hp) (r : Nat) (kp : Option Addr) (k : Nat) (ap : Option Addr) (k1 : Nat) (wp : Option Addr) (k2 : Nat) (lim : Int) (on : Bool) (s : DS) : Prop where
  r0 : rd H r 0 = some (.slice kp s.l.length k)
  r1 : rd H r 1 = some (.slice ap s.w.length k1)
  r2 : rd H r 2 = some (.slice wp s.w.length k2)
  r3 : rd H r 3 = some (.int .i64 (s.n : Nat))
  r4 : rd H r 4 = some (.int .i64 lim)
  r5 : rd H r 5 = some (.bool on)
  bl : Buf 1 E0 H kp s.l.length k (s.l.map sv)
  ba : Buf 1 E0 H ap s.w.length k1 (s.w.map fun x => iv x.1)
  bw : Buf 1 E0 H wp s.w.length k2 (s.w.map fun x => sv x.2)
  n1 : r ∉ blkL kp
  n2 : r ∉ blkL ap
  n3 : r ∉ blkL wp
  a1 : ∀ x ∈ blkL kp, x ∉ blkL ap
  a2 : ∀ x ∈ blkL kp, x ∉ blkL wp
  a3 : ∀ x ∈ blkL ap, x ∉ blkL wp
  left : s.left = if on then some lim.toNat else none
  lim0 : -9223372036854775808 ≤ lim ∧ lim ≤ 9223372036854775807
  ok : ∀ x ∈ s.w, x.1 < s.l.length
  wn : s.w.length ≤ s.n
def Rk (H : Hp) (r : Nat) (O : List Nat) (s : DS) : Prop := ∃ kp k ap k1 wp k2 lim on, O = r :: (blkL kp ++ (blkL ap ++ blkL wp)) ∧ RkB H r kp k ap k1 wp k2 lim on s
section
variable {H H' : Hp} {r : Nat} {O P : List Nat} {s : DS} {kp ap wp : Option Addr} {k k1 k2 : Nat} {lim : Int} {on : Bool}
theorem RkB.mod (h : RkB H r kp k ap k1 wp k2 lim on s) (hm : Mod P H H') (hd : ∀ x ∈ r :: (blkL kp ++ (blkL ap ++ blkL wp)), x ∉ P) : RkB H' r kp k ap k1 wp k2 lim on s := by
  have hr : r ∉ P := hd r (by simp)
  exact ⟨hm.rd hr h.r0, hm.rd hr h.r1, hm.rd hr h.r2, hm.rd hr h.r3, hm.rd hr h.r4, hm.rd hr h.r5, h.bl.mod hm fun b o e => hd b (by simp [blkL, e]), h.ba.mod hm fun b o e => hd b (by simp [blkL, e]), h.bw.mod hm fun b o e => hd b (by simp [blkL, e]), h.n1, h.n2, h.n3, h.a1, h.a2, h.a3, h.left, h.lim0, h.ok, h.wn⟩
theorem Rk.mod (h : Rk H r O s) (hm : Mod P H H') (hd : ∀ x ∈ O, x ∉ P) : Rk H' r O s := by
  obtain ⟨kp, k, ap, k1, wp, k2, lim, on, rfl, h⟩ := h
  exact ⟨kp, k, ap, k1, wp, k2, lim, on, rfl, h.mod hm hd⟩
theorem Rk.le (h : Rk H r O s) (hm : Le H H') : Rk H' r O s := h.mod (P := []) hm.mod (by simp)
theorem Rk.there (h : Rk H r O s) : ∀ x ∈ O, H x ≠ none := by
  obtain ⟨kp, k, ap, k1, wp, k2, lim, on, rfl, h⟩ := h
  intro x hx
  rcases List.mem_cons.1 hx with rfl | hx
  · exact ne_none_of_rd h.r0
  rcases List.mem_append.1 hx with hx | hx
  · exact blk_there h.bl x hx
  rcases List.mem_append.1 hx with hx | hx
  · exact blk_there h.ba x hx
  · exact blk_there h.bw x hx
theorem Rk.hr (h : Rk H r O s) : r ∈ O := by obtain ⟨kp, k, ap, k1, wp, k2, lim, on, rfl, h⟩ := h; simp
theorem RkB.on_iff (h : RkB H r kp k ap k1 wp k2 lim on s) : s.on ↔ ¬ (on = true ∧ lim ≤ 0) := by
  unfold DS.on
  rw [h.left]
  cases on <;> simp <;> omega
theorem Mod.own {x : Nat} {O : List Nat} {H H' : Hp} {o : Nat} {v : Value} (h : Mod O H H') (hx : x ∈ O) : Mod O H (wr H' x o v) := h.wr (.inl hx)
theorem RkB.nums (h : RkB H r kp k ap k1 wp k2 lim on s) {n : Nat} {lim' : Int} {on' : Bool} {left : Option Nat} {H' : Hp} (hm : Mod [r] H H') (h0 : rd H' r 0 = rd H r 0) (h1 : rd H' r 1 = rd H r 1) (h2 : rd H' r 2 = rd H r 2) (h3 : rd H' r 3 = some (.int .i64 (n : Nat))) (h4 : rd H' r 4 = some (.int .i64 lim')) (h5 : rd H' r 5 = some (.bool on'))
    (hl : left = if on' then some lim'.toNat else none) (hlim : -9223372036854775808 ≤ lim' ∧ lim' ≤ 9223372036854775807) (hn : s.n ≤ n) : RkB H' r kp k ap k1 wp k2 lim' on' { s with n := n, left := left } :=
  ⟨h0.trans h.r0, h1.trans h.r1, h2.trans h.r2, h3, h4, h5, h.bl.mod hm fun b o e hb => by simp at hb; subst hb; exact h.n1 (by simp [blkL, e]), h.ba.mod hm fun b o e hb => by simp at hb; subst hb; exact h.n2 (by simp [blkL, e]), h.bw.mod hm fun b o e hb => by simp at hb; subst hb; exact h.n3 (by simp [blkL, e]), h.n1, h.n2, h.n3, h.a1, h.a2, h.a3, hl, hlim, h.ok, Nat.le_trans h.wn hn⟩
theorem centoref19_Disk_off.c {K : Bool → Hp → Prop} (hu : Rk H r O s) (hK : K (decide (¬ s.on)) H) : centoref19_Disk_off.C (some ⟨r, 0, none⟩) H K := by
  apply centoref19_Disk_off.of
  obtain ⟨kp, k, ap, k1, wp, k2, lim, on, rfl, h⟩ := hu
  refine nil (ldB_i h.r5 ?_)
  have hon := h.on_iff
  cases on with
  | true =>
    refine bcT (nil (ldI_i h.r4 ?_))
    rw [decide_eq_decide.2 (show (¬ s.on) ↔ lim ≤ 0 by rw [hon]; simp)] at hK
    exact hK
  | false =>
    refine bcF ?_
    rw [decide_eq_false (fun hh => hh (hon.2 (by simp)))] at hK
    exact hK
theorem centoref19_Disk_step.c {K : Hp → Prop} (hu : Rk H r O s) (hs : s.on) (hn : s.n ≤ 1000000000) (hK : ∀ H', Rk H' r O s.step → Mod [r] H H' → K H') : centoref19_Disk_step.C (some ⟨r, 0, none⟩) H K := by
  apply centoref19_Disk_step.of
  obtain ⟨kp, k, ap, k1, wp, k2, lim, on, rfl, h⟩ := hu
  have hon := h.on_iff.1 hs
  refine nil (ldI_i h.r3 (chk (by omega) (nil (st h.r3 (nil (ldB_i (by rw [rd_wr_off (by decide)]; exact h.r5) ?_))))))
  cases on with
  | true =>
    have hl : 0 < lim := by simp at hon; exact hon
    have r4 : rd (wr H r 3 (.int .i64 ((s.n : Nat) + 1))) r 4 = some (.int .i64 lim) := by rw [rd_wr_off (by decide)]; exact h.r4
    refine bcT (nil (ldI_i r4 (chk (by have := h.lim0; omega) (nil (st r4 (hK _ ⟨kp, k, ap, k1, wp, k2, lim - 1, true, rfl, h.nums ((Mod.refl.wr (.inl (by simp))).wr (.inl (by simp))) ?_ ?_ ?_ ?_ (rd_wr_self r4) ?_ ?_ (by have := h.lim0; omega) (Nat.le_succ _)⟩ ((Mod.refl.wr (.inl (by simp))).wr (.inl (by simp)))))))))
    · rw [rd_wr_off (by decide), rd_wr_off (by decide)]
    · rw [rd_wr_off (by decide), rd_wr_off (by decide)]
    · rw [rd_wr_off (by decide), rd_wr_off (by decide)]
    · rw [rd_wr_off (by decide), rd_wr_self h.r3]; rfl
    · rw [rd_wr_off (by decide), rd_wr_off (by decide)]; exact h.r5
    · rw [h.left]; simp
  | false =>
    refine bcF (hK _ ⟨kp, k, ap, k1, wp, k2, lim, false, rfl, h.nums (Mod.refl.wr (.inl (by simp))) ?_ ?_ ?_ ?_ ?_ ?_ ?_ h.lim0 (Nat.le_succ _)⟩ (Mod.refl.wr (.inl (by simp))))
    · rw [rd_wr_off (by decide)]
    · rw [rd_wr_off (by decide)]
    · rw [rd_wr_off (by decide)]
    · rw [rd_wr_self h.r3]; rfl
    · rw [rd_wr_off (by decide)]; exact h.r4
    · rw [rd_wr_off (by decide)]; exact h.r5
    · rw [h.left]; rfl
theorem centoref19_Disk_Limit.c {n : Int} {K : Hp → Prop} (hu : Rk H r O s) (hn : -9223372036854775808 ≤ n ∧ n ≤ 9223372036854775807) (hK : ∀ H', Rk H' r O (s.limit n) → Mod [r] H H' → K H') : centoref19_Disk_Limit.C (some ⟨r, 0, none⟩) n H K := by
  apply centoref19_Disk_Limit.of
  obtain ⟨kp, k, ap, k1, wp, k2, lim, on, rfl, h⟩ := hu
  have r4 : rd (wr H r 5 (.bool true)) r 4 = some (.int .i64 lim) := by rw [rd_wr_off (by decide)]; exact h.r4
  refine nil (st h.r5 (nil (st r4 (hK _ ⟨kp, k, ap, k1, wp, k2, n, true, rfl, h.nums ((Mod.refl.wr (.inl (by simp))).wr (.inl (by simp))) ?_ ?_ ?_ ?_ (rd_wr_self r4) ?_ rfl hn (Nat.le_refl _)⟩ ((Mod.refl.wr (.inl (by simp))).wr (.inl (by simp)))))))
  · rw [rd_wr_off (by decide), rd_wr_off (by decide)]
  · rw [rd_wr_off (by decide), rd_wr_off (by decide)]
  · rw [rd_wr_off (by decide), rd_wr_off (by decide)]
  · rw [rd_wr_off (by decide), rd_wr_off (by decide)]; exact h.r3
  · rw [rd_wr_off (by decide), rd_wr_self h.r5]
end

/-- While a write goes on: what has been appended; what waits. -/
structure RW (H0 : Hp) (O : List Nat) (s : DS) (r : Nat) (kp : Option Addr) (k : Nat) (ap0 : Option Addr) (k10 : Nat) (wp0 : Option Addr) (k20 : Nat) (lim : Int) (on : Bool) (H : Hp) (ap : Option Addr) (k1 : Nat) (ats : List Nat) (wp : Option Addr) (k2 : Nat) (bs' : List BL) (pend : List (Nat × List Value)) : Prop where
  r0 : rd H r 0 = some (.slice kp s.l.length k)
  r1 : rd H r 1 = some (.slice ap0 s.w.length k10)
  r2 : rd H r 2 = some (.slice wp0 s.w.length k20)
  r3 : rd H r 3 = some (.int .i64 (s.n : Nat))
  r4 : rd H r 4 = some (.int .i64 lim)
  r5 : rd H r 5 = some (.bool on)
  bl : Buf 1 E0 H kp s.l.length k (s.l.map sv)
  ba : Buf 1 E0 H ap ats.length k1 (ats.map iv)
  bw : Buf 1 E0 H wp bs'.length k2 (bs'.map sv)
  n1 : r ∉ blkL kp
  n2 : r ∉ blkL ap
  n3 : r ∉ blkL wp
  a1 : ∀ x ∈ blkL kp, x ∉ blkL ap
  a2 : ∀ x ∈ blkL kp, x ∉ blkL wp
  a3 : ∀ x ∈ blkL ap, x ∉ blkL wp
  mo : Mod O H0 H
  hr : r ∈ O
  gk : ∀ x ∈ blkL kp, x ∈ O
  ga : ∀ x ∈ blkL ap, x ∈ O ∨ H0 x = none
  gw : ∀ x ∈ blkL wp, x ∈ O ∨ H0 x = none
  pd : ∀ x c, (x, c) ∈ pend → H x = some c ∧ x ∉ blkL ap ∧ x ∉ blkL wp
section
variable {H0 H : Hp} {O : List Nat} {s : DS} {r : Nat} {kp ap0 wp0 ap wp : Option Addr} {k k10 k20 k1 k2 : Nat} {lim : Int} {on : Bool} {ats : List Nat} {bs' : List BL} {pend : List (Nat × List Value)}
theorem RW.new (h : RW H0 O s r kp k ap0 k10 wp0 k20 lim on H ap k1 ats wp k2 bs' pend) {b : Nat} (hb : H b = none) (cs : List Value) : RW H0 O s r kp k ap0 k10 wp0 k20 lim on (upd H b cs) ap k1 ats wp k2 bs' ((b, cs) :: pend) := by
  have le : Le H (upd H b cs) := Le.upd hb
  refine ⟨le.rd h.r0, le.rd h.r1, le.rd h.r2, le.rd h.r3, le.rd h.r4, le.rd h.r5, h.bl.le le, h.ba.le le, h.bw.le le, h.n1, h.n2, h.n3, h.a1, h.a2, h.a3, h.mo.trans le.mod, h.hr, h.gk, h.ga, h.gw, fun x c hx => ?_⟩
  rcases List.mem_cons.1 hx with e | hx
  · simp only [Prod.mk.injEq] at e
    obtain ⟨rfl, rfl⟩ := e
    exact ⟨by simp [upd], fun hx => blk_there h.ba _ hx hb, fun hx => blk_there h.bw _ hx hb⟩
  · obtain ⟨g1, g2, g3⟩ := h.pd x c hx
    exact ⟨le _ _ g1, g2, g3⟩
theorem RW.newK (h : RW H0 O s r kp k ap0 k10 wp0 k20 lim on H ap k1 ats wp k2 bs' pend) {cs : List Value} {F : Nat → Hp → Prop} (hF : ∀ b, RW H0 O s r kp k ap0 k10 wp0 k20 lim on (upd H b cs) ap k1 ats wp k2 bs' ((b, cs) :: pend) → F b (upd H b cs)) : NEW H cs F := fun b hb => hF b (h.new hb cs)
theorem RW.appI (h : RW H0 O s r kp k ap0 k10 wp0 k20 lim on H ap k1 ats wp k2 bs' pend) {q i : Nat} (hq : (q, [iv i]) ∈ pend) (hfit : ats.length ≤ 1000000000) {l : Nat} (hl : l = ats.length) {F : Option Addr → Nat → Nat → Hp → Prop}
    (hF : ∀ p' c' H', RW H0 O s r kp k ap0 k10 wp0 k20 lim on H' p' c' (ats ++ [i]) wp k2 bs' pend → F p' (l + 1) c' H') : APP H te_int ap l k1 (.slice (some ⟨q, 0, none⟩) 1 1) F := by
  subst hl
  obtain ⟨hq, _, _⟩ := h.pd _ _ hq
  have hbm := h.ba.base (A' := dmn E0 H) fun _ _ e => dmn_none e
  refine hbm.pushAt hq rfl (by decide) rfl (by decide) rfl rfl (by show (ats.length + 1) * 8 ≤ _; omega) (fun p' c' H' hB hp hm => hF p' c' H' ?_) dmn_le
  have hp' : ∀ x ∈ blkL p', x ∈ blkL ap ∨ H x = none := fun x hx => by
    rcases hp with rfl | hp
    · exact .inl hx
    · exact .inr (hp x 0 (blkL_mem hB.zero hx))
  have ex : ∀ x, H x ≠ none → x ∉ blkL ap → x ∉ blkL p' := fun x h1 h2 h3 => by
    rcases hp' x h3 with h4 | h4
    · exact h2 h4
    · exact h1 h4
  refine ⟨hm.rd h.n2 h.r0, hm.rd h.n2 h.r1, hm.rd h.n2 h.r2, hm.rd h.n2 h.r3, hm.rd h.n2 h.r4, hm.rd h.n2 h.r5, h.bl.mod hm fun b o e => h.a1 b (by simp [blkL, e]), ?_, h.bw.mod hm fun b o e hb => h.a3 b hb (by simp [blkL, e]), h.n1, ex r (ne_none_of_rd h.r0) h.n2, h.n3, fun x hx => ex x (blk_there h.bl x hx) (h.a1 x hx), h.a2, fun x hx hx' => ex x (blk_there h.bw x hx') (fun h1 => h.a3 x h1 hx') hx, ?_, h.hr, h.gk, fun x hx => ?_, h.gw, fun x c hx => ?_⟩
  · have := Buf.e0 hB
    rw [List.map_append, List.length_append]; exact this
  · exact Mod.into h.mo hm h.ga
  · rcases hp' x hx with h1 | h1
    · exact h.ga x h1
    · by_cases hO : x ∈ O
      · exact .inl hO
      · exact .inr (none_of_mod h.mo x hO h1)
  · obtain ⟨g1, g2, g3⟩ := h.pd x c hx
    exact ⟨hm x g2 _ g1, ex x (by rw [g1]; intro e; cases e) g2, g3⟩
theorem RW.appS (h : RW H0 O s r kp k ap0 k10 wp0 k20 lim on H ap k1 ats wp k2 bs' pend) {q : Nat} {b : BL} (hq : (q, [sv b]) ∈ pend) (hfit : bs'.length ≤ 1000000000) {l : Nat} (hl : l = bs'.length) {F : Option Addr → Nat → Nat → Hp → Prop}
    (hF : ∀ p' c' H', RW H0 O s r kp k ap0 k10 wp0 k20 lim on H' ap k1 ats p' c' (bs' ++ [b]) [] → F p' (l + 1) c' H') : APP H te_string wp l k2 (.slice (some ⟨q, 0, none⟩) 1 1) F := by
  subst hl
  obtain ⟨hq, _, _⟩ := h.pd _ _ hq
  have hbm := h.bw.base (A' := dmn E0 H) fun _ _ e => dmn_none e
  refine hbm.pushAt hq rfl (by decide) rfl (by decide) rfl rfl (by show (bs'.length + 1) * 16 ≤ _; omega) (fun p' c' H' hB hp hm => hF p' c' H' ?_) dmn_le
  have hp' : ∀ x ∈ blkL p', x ∈ blkL wp ∨ H x = none := fun x hx => by
    rcases hp with rfl | hp
    · exact .inl hx
    · exact .inr (hp x 0 (blkL_mem hB.zero hx))
  have ex : ∀ x, H x ≠ none → x ∉ blkL wp → x ∉ blkL p' := fun x h1 h2 h3 => by
    rcases hp' x h3 with h4 | h4
    · exact h2 h4
    · exact h1 h4
  refine ⟨hm.rd h.n3 h.r0, hm.rd h.n3 h.r1, hm.rd h.n3 h.r2, hm.rd h.n3 h.r3, hm.rd h.n3 h.r4, hm.rd h.n3 h.r5, h.bl.mod hm fun b o e => h.a2 b (by simp [blkL, e]), h.ba.mod hm fun b o e => h.a3 b (by simp [blkL, e]), ?_, h.n1, h.n2, ex r (ne_none_of_rd h.r0) h.n3, h.a1, fun x hx => ex x (blk_there h.bl x hx) (h.a2 x hx), fun x hx => ex x (blk_there h.ba x hx) (h.a3 x hx), Mod.into h.mo hm h.gw, h.hr, h.gk, h.ga, fun x hx => ?_, fun x c hx => by cases hx⟩
  · have := Buf.e0 hB
    rw [List.map_append, List.length_append]; exact this
  · rcases hp' x hx with h1 | h1
    · exact h.gw x h1
    · by_cases hO : x ∈ O
      · exact .inl hO
      · exact .inr (none_of_mod h.mo x hO h1)
theorem RW.bts (h : RW H0 O s r kp k ap0 k10 wp0 k20 lim on H ap k1 ats wp k2 bs' pend) {q n : Nat} {tl : List Value} (hq : (q, rep n [.int .u8 (0 : Int)] ++ tl) ∈ pend) {F : ByteArray → Prop} (hF : F (mkB (List.replicate n 0))) : BTS H (some ⟨q, 0, none⟩) n F := by
  obtain ⟨hq, _, _⟩ := h.pd _ _ hq
  refine ⟨List.replicate n 0, by simp, fun i x hx => ?_, hF⟩
  rw [List.getElem?_replicate] at hx
  split at hx
  · rename_i hi
    rw [Nat.zero_add, ← Option.some.inj hx]
    unfold rd
    rw [hq]
    simp only [Option.bind_some]
    rw [List.getElem?_append_left (by simp [rep]; exact hi)]
    show ((List.replicate n (Value.int .u8 0))[i]?).bind nmO = _
    rw [List.getElem?_replicate, if_pos hi]; rfl
  · cases hx
/-- The two heads are laid anew. -/
theorem RW.fin (h : RW H0 O s r kp k ap0 k10 wp0 k20 lim on H ap k1 ats wp k2 bs' pend) {w' : List (Nat × BL)} {O0 : List Nat} (ha : ats = w'.map (·.1)) (hb : bs' = w'.map (·.2)) (hl : s.left = if on then some lim.toNat else none) (hlim : -9223372036854775808 ≤ lim ∧ lim ≤ 9223372036854775807) (hok : ∀ x ∈ w', x.1 < s.l.length) (hwn : w'.length ≤ s.n) {K : Hp → Prop}
    (hK : ∀ H' O', Rk H' r O' { s with w := w' } → Mod O H0 H' → Grew H0 O O' → K H') :
    NIL (some ⟨r, 0, none⟩) fun b o => ST H b (o + 1) (.slice ap ats.length k1) fun H1 => NIL (some ⟨r, 0, none⟩) fun b o => ST H1 b (o + 2) (.slice wp bs'.length k2) fun H2 => K H2 := by
  have r2 : rd (wr H r 1 (.slice ap ats.length k1)) r 2 = some (.slice wp0 s.w.length k20) := by rw [rd_wr_off (by decide)]; exact h.r2
  have la : ats.length = w'.length := by rw [ha, List.length_map]
  have lb : bs'.length = w'.length := by rw [hb, List.length_map]
  have mr : Mod [r] H (wr (wr H r 1 (.slice ap ats.length k1)) r 2 (.slice wp bs'.length k2)) := (Mod.refl.wr (.inl (by simp))).wr (.inl (by simp))
  refine nil (st h.r1 (nil (st r2 (hK _ (r :: (blkL kp ++ (blkL ap ++ blkL wp))) ⟨kp, k, ap, k1, wp, k2, lim, on, rfl, ⟨?_, ?_, ?_, ?_, ?_, ?_, ?_, ?_, ?_, h.n1, h.n2, h.n3, h.a1, h.a2, h.a3, hl, hlim, hok, hwn⟩⟩ ((h.mo.wr (.inl h.hr)).wr (.inl h.hr)) fun x hx => ?_))))
  · rw [rd_wr_off (by decide), rd_wr_off (by decide)]; exact h.r0
  · rw [rd_wr_off (by decide), rd_wr_self h.r1, la]
  · rw [rd_wr_self r2, lb]
  · rw [rd_wr_off (by decide), rd_wr_off (by decide)]; exact h.r3
  · rw [rd_wr_off (by decide), rd_wr_off (by decide)]; exact h.r4
  · rw [rd_wr_off (by decide), rd_wr_off (by decide)]; exact h.r5
  · exact h.bl.mod mr fun b o e hb => by simp at hb; subst hb; exact h.n1 (by simp [blkL, e])
  · have := h.ba.mod mr fun b o e hb => by simp at hb; subst hb; exact h.n2 (by simp [blkL, e])
    subst ha
    rw [List.map_map] at this
    show Buf 1 E0 _ ap w'.length k1 (w'.map fun x => iv x.1)
    simp only [List.length_map] at this ⊢
    exact this
  · have := h.bw.mod mr fun b o e hb => by simp at hb; subst hb; exact h.n3 (by simp [blkL, e])
    subst hb
    rw [List.map_map] at this
    show Buf 1 E0 _ wp w'.length k2 (w'.map fun x => sv x.2)
    simp only [List.length_map] at this ⊢
    exact this
  · rcases List.mem_cons.1 hx with rfl | hx
    · exact .inl h.hr
    rcases List.mem_append.1 hx with hx | hx
    · exact .inl (h.gk x hx)
    rcases List.mem_append.1 hx with hx | hx
    · exact h.ga x hx
    · exact h.gw x hx
end
theorem centoref19_Disk_Write.c {H : Hp} {r : Nat} {O : List Nat} {s : DS} {i : Int} {b : BL} {K : Int → Hp → Prop} (hu : Rk H r O s) (hn : s.n ≤ 900000000) (hK : ∀ H' O', Rk H' r O' (s.write i b) → Mod O H H' → Grew H O O' → K (s.writeE i b) H') : centoref19_Disk_Write.C (some ⟨r, 0, none⟩) i (mkB b) H K := by
  apply centoref19_Disk_Write.of
  unfold DS.write DS.writeE at hK
  refine centoref19_Disk_off.c hu ?_
  by_cases hs : s.on
  · rw [decide_eq_false (fun h => h hs)]
    rw [if_pos hs, if_pos hs] at hK
    refine bcF (centoref19_Disk_step.c hu hs (by omega) fun H1 h1 m1 => ?_)
    have mO : Mod O H H1 := m1.mono (by simpa using hu.hr)
    refine bcd (fun h => ?_) (fun g0 => ?_)
    · rw [if_neg (fun hh => by have := hh.1.1; omega), if_neg (fun hh => by have := hh.1.1; omega)] at hK
      exact hK H1 O h1 mO Grew.refl
    obtain ⟨kp, k, ap, k1, wp, k2, lim, on, hO, h⟩ := h1
    refine nil (ldL_i h.r0 (bcd (fun g1 => ?_) (fun g1 => ?_)))
    · rw [if_neg (fun hh => by have h2 := hh.1.2; have : s.step.l.length = s.l.length := rfl; omega), if_neg (fun hh => by have h2 := hh.1.2; have : s.step.l.length = s.l.length := rfl; omega)] at hK
      exact hK H1 O ⟨kp, k, ap, k1, wp, k2, lim, on, hO, h⟩ mO Grew.refl
    have hl1 : s.step.l.length = s.l.length := rfl
    rw [sv_size]
    refine bcd (fun g2 => ?_) (fun g2 => ?_)
    · rw [if_neg (fun hh => by have h2 := hh.2; omega), if_neg (fun hh => by have h2 := hh.2; omega)] at hK
      exact hK H1 O ⟨kp, k, ap, k1, wp, k2, lim, on, hO, h⟩ mO Grew.refl
    have hi : ((i.toNat : Nat) : Int) = i := by omega
    rw [if_pos ⟨⟨by omega, by omega⟩, by omega⟩, if_pos ⟨⟨by omega, by omega⟩, by omega⟩] at hK
    unfold centoref19_Disk_Write.k1
    refine nil (ldL_i h.r1 (nil (ldL_i h.r2 ?_)))
    rw [sv_size]
    refine chk (by omega) ?_
    have hsz : (((mkB b).size + (mkB (List.replicate (64 - b.length) 0)).size : Nat) : Int) ≤ 9223372036854775807 := by rw [sv_size, sv_size, List.length_replicate]; omega
    have epad : mkB b ++ mkB (List.replicate (64 - b.length) 0) = mkB (pad b) := L_inj (by rw [L_append]; rfl)
    have hleft := h.left
    have hlim0 := h.lim0
    have hok := h.ok
    have hswn : s.w.length ≤ s.n := by obtain ⟨_, _, _, _, _, _, _, _, _, h⟩ := hu; exact h.wn
    have hfit : s.w.length ≤ 1000000000 := by have := h.wn; have : s.step.w.length = s.w.length := rfl; have : s.step.n = s.n + 1 := rfl; omega
    have wl1 : (s.w.map (·.1)).length = s.w.length := by simp
    have wl2 : (s.w.map (·.2)).length = s.w.length := by simp
    have hfit1 : (s.w.map (·.1)).length ≤ 1000000000 := by rw [wl1]; exact hfit
    have hfit2 : (s.w.map (·.2)).length ≤ 1000000000 := by rw [wl2]; exact hfit
    have h : RW H O s.step r kp k ap k1 wp k2 lim on H1 ap k1 (s.w.map (·.1)) wp k2 (s.w.map (·.2)) [] := by
      refine ⟨h.r0, h.r1, h.r2, h.r3, h.r4, h.r5, h.bl, ?_, ?_, h.n1, h.n2, h.n3, h.a1, h.a2, h.a3, mO, hu.hr, fun x hx => ?_, fun x hx => .inl ?_, fun x hx => .inl ?_, fun x c hx => by cases hx⟩
      · rw [wl1, List.map_map]; exact h.ba
      · rw [wl2, List.map_map]; exact h.bw
      all_goals (rw [hO]; simp [hx])
    have fin : ∀ {H7 : Hp} {ap7 wp7 : Option Addr} {k17 k27 : Nat}, RW H O s.step r kp k ap k1 wp k2 lim on H7 ap7 k17 (s.w.map (·.1) ++ [i.toNat]) wp7 k27 (s.w.map (·.2) ++ [pad b]) [] → 
        NIL (some ⟨r, 0, none⟩) fun b o => ST H7 b (o + 1) (.slice ap7 (s.w.length + 1) k17) fun H1 => NIL (some ⟨r, 0, none⟩) fun b o => ST H1 b (o + 2) (.slice wp7 (s.w.length + 1) k27) fun H2 => K 0 H2 := fun {H7 ap7 wp7 k17 k27} h7 => by
      have := h7.fin (w' := s.w ++ [(i.toNat, pad b)]) (O0 := O) (by simp) (by simp) hleft hlim0 (fun x hx => by
        rcases List.mem_append.1 hx with hx | hx
        · exact hok x hx
        · simp at hx; subst hx; show i.toNat < s.l.length; omega) (by rw [List.length_append]; have h1 : s.w.length ≤ s.n := hswn; show s.w.length + 1 ≤ s.n + 1; omega) (K := K 0) (fun H' O' h1 h2 h3 => hK H' O' h1 h2 h3)
      simpa using this
    refine ⟨?_, ?_⟩
    · skip
      refine h.newK fun bI h => ?_
      refine ⟨by first | exact h.r1 | exact h.r2, ?_⟩
      refine ⟨by first | exact h.r1 | exact h.r2, ?_⟩
      refine ⟨?_, ?_⟩
      · skip
        refine h.appI (q := bI) (i := i.toNat) (by show (_, [Value.int .i64 ((i.toNat : Nat) : Int)]) ∈ _; rw [hi]; simp) hfit1 wl1.symm fun ap1 k11 H5 h => ?_
        refine ⟨by first | exact h.r1 | exact h.r2, ?_⟩
        refine mk (n := 64 - b.length) (by omega) (by omega) (by omega) ?_
        refine h.newK fun bR h => ?_
        refine ⟨by first | exact h.r1 | exact h.r2, ?_⟩
        refine h.bts (q := bR) (tl := [tyM ty_uint8 0 0]) (by simp) ?_
        refine ⟨by first | exact h.r1 | exact h.r2, ?_⟩
        refine ⟨hsz, ?_⟩
        refine h.newK fun bS h => ?_
        refine ⟨by first | exact h.r1 | exact h.r2, ?_⟩
        refine h.appS (q := bS) (b := pad b) (by rw [epad]; simp [sv]) hfit2 wl2.symm fun wp1 k21 H6 h => ?_
        exact fin h
      · skip
        refine mk (n := 64 - b.length) (by omega) (by omega) (by omega) ?_
        refine h.newK fun bR h => ?_
        refine ⟨by first | exact h.r1 | exact h.r2, ?_⟩
        refine ⟨by first | exact h.r1 | exact h.r2, ?_⟩
        refine ⟨?_, ?_⟩
        · skip
          refine h.appI (q := bI) (i := i.toNat) (by show (_, [Value.int .i64 ((i.toNat : Nat) : Int)]) ∈ _; rw [hi]; simp) hfit1 wl1.symm fun ap1 k11 H5 h => ?_
          refine ⟨by first | exact h.r1 | exact h.r2, ?_⟩
          refine h.bts (q := bR) (tl := [tyM ty_uint8 0 0]) (by simp) ?_
          refine ⟨by first | exact h.r1 | exact h.r2, ?_⟩
          refine ⟨hsz, ?_⟩
          refine h.newK fun bS h => ?_
          refine ⟨by first | exact h.r1 | exact h.r2, ?_⟩
          refine h.appS (q := bS) (b := pad b) (by rw [epad]; simp [sv]) hfit2 wl2.symm fun wp1 k21 H6 h => ?_
          exact fin h
        · skip
          refine h.bts (q := bR) (tl := [tyM ty_uint8 0 0]) (by simp) ?_
          refine ⟨by first | exact h.r1 | exact h.r2, ?_⟩
          refine ⟨by first | exact h.r1 | exact h.r2, ?_⟩
          refine ⟨hsz, ?_⟩
          refine ⟨?_, ?_⟩
          · skip
            refine h.appI (q := bI) (i := i.toNat) (by show (_, [Value.int .i64 ((i.toNat : Nat) : Int)]) ∈ _; rw [hi]; simp) hfit1 wl1.symm fun ap1 k11 H5 h => ?_
            refine ⟨by first | exact h.r1 | exact h.r2, ?_⟩
            refine h.newK fun bS h => ?_
            refine ⟨by first | exact h.r1 | exact h.r2, ?_⟩
            refine h.appS (q := bS) (b := pad b) (by rw [epad]; simp [sv]) hfit2 wl2.symm fun wp1 k21 H6 h => ?_
            exact fin h
          · skip
            refine h.newK fun bS h => ?_
            refine ⟨by first | exact h.r1 | exact h.r2, ?_⟩
            refine ⟨by first | exact h.r1 | exact h.r2, ?_⟩
            refine h.appI (q := bI) (i := i.toNat) (by show (_, [Value.int .i64 ((i.toNat : Nat) : Int)]) ∈ _; rw [hi]; simp) hfit1 wl1.symm fun ap1 k11 H5 h => ?_
            refine ⟨by first | exact h.r1 | exact h.r2, ?_⟩
            refine h.appS (q := bS) (b := pad b) (by rw [epad]; simp [sv]) hfit2 wl2.symm fun wp1 k21 H6 h => ?_
            exact fin h
    · skip
      refine mk (n := 64 - b.length) (by omega) (by omega) (by omega) ?_
      refine h.newK fun bR h => ?_
      refine ⟨by first | exact h.r1 | exact h.r2, ?_⟩
      refine ⟨by first | exact h.r1 | exact h.r2, ?_⟩
      refine ⟨?_, ?_⟩
      · skip
        refine h.newK fun bI h => ?_
        refine ⟨by first | exact h.r1 | exact h.r2, ?_⟩
        refine ⟨by first | exact h.r1 | exact h.r2, ?_⟩
        refine ⟨?_, ?_⟩
        · skip
          refine h.appI (q := bI) (i := i.toNat) (by show (_, [Value.int .i64 ((i.toNat : Nat) : Int)]) ∈ _; rw [hi]; simp) hfit1 wl1.symm fun ap1 k11 H5 h => ?_
          refine ⟨by first | exact h.r1 | exact h.r2, ?_⟩
          refine h.bts (q := bR) (tl := [tyM ty_uint8 0 0]) (by simp) ?_
          refine ⟨by first | exact h.r1 | exact h.r2, ?_⟩
          refine ⟨hsz, ?_⟩
          refine h.newK fun bS h => ?_
          refine ⟨by first | exact h.r1 | exact h.r2, ?_⟩
          refine h.appS (q := bS) (b := pad b) (by rw [epad]; simp [sv]) hfit2 wl2.symm fun wp1 k21 H6 h => ?_
          exact fin h
        · skip
          refine h.bts (q := bR) (tl := [tyM ty_uint8 0 0]) (by simp) ?_
          refine ⟨by first | exact h.r1 | exact h.r2, ?_⟩
          refine ⟨by first | exact h.r1 | exact h.r2, ?_⟩
          refine ⟨hsz, ?_⟩
          refine ⟨?_, ?_⟩
          · skip
            refine h.appI (q := bI) (i := i.toNat) (by show (_, [Value.int .i64 ((i.toNat : Nat) : Int)]) ∈ _; rw [hi]; simp) hfit1 wl1.symm fun ap1 k11 H5 h => ?_
            refine ⟨by first | exact h.r1 | exact h.r2, ?_⟩
            refine h.newK fun bS h => ?_
            refine ⟨by first | exact h.r1 | exact h.r2, ?_⟩
            refine h.appS (q := bS) (b := pad b) (by rw [epad]; simp [sv]) hfit2 wl2.symm fun wp1 k21 H6 h => ?_
            exact fin h
          · skip
            refine h.newK fun bS h => ?_
            refine ⟨by first | exact h.r1 | exact h.r2, ?_⟩
            refine ⟨by first | exact h.r1 | exact h.r2, ?_⟩
            refine h.appI (q := bI) (i := i.toNat) (by show (_, [Value.int .i64 ((i.toNat : Nat) : Int)]) ∈ _; rw [hi]; simp) hfit1 wl1.symm fun ap1 k11 H5 h => ?_
            refine ⟨by first | exact h.r1 | exact h.r2, ?_⟩
            refine h.appS (q := bS) (b := pad b) (by rw [epad]; simp [sv]) hfit2 wl2.symm fun wp1 k21 H6 h => ?_
            exact fin h
      · skip
        refine h.bts (q := bR) (tl := [tyM ty_uint8 0 0]) (by simp) ?_
        refine ⟨by first | exact h.r1 | exact h.r2, ?_⟩
        refine ⟨by first | exact h.r1 | exact h.r2, ?_⟩
        refine ⟨hsz, ?_⟩
        refine ⟨?_, ?_⟩
        · skip
          refine h.newK fun bI h => ?_
          refine ⟨by first | exact h.r1 | exact h.r2, ?_⟩
          refine ⟨by first | exact h.r1 | exact h.r2, ?_⟩
          refine ⟨?_, ?_⟩
          · skip
            refine h.appI (q := bI) (i := i.toNat) (by show (_, [Value.int .i64 ((i.toNat : Nat) : Int)]) ∈ _; rw [hi]; simp) hfit1 wl1.symm fun ap1 k11 H5 h => ?_
            refine ⟨by first | exact h.r1 | exact h.r2, ?_⟩
            refine h.newK fun bS h => ?_
            refine ⟨by first | exact h.r1 | exact h.r2, ?_⟩
            refine h.appS (q := bS) (b := pad b) (by rw [epad]; simp [sv]) hfit2 wl2.symm fun wp1 k21 H6 h => ?_
            exact fin h
          · skip
            refine h.newK fun bS h => ?_
            refine ⟨by first | exact h.r1 | exact h.r2, ?_⟩
            refine ⟨by first | exact h.r1 | exact h.r2, ?_⟩
            refine h.appI (q := bI) (i := i.toNat) (by show (_, [Value.int .i64 ((i.toNat : Nat) : Int)]) ∈ _; rw [hi]; simp) hfit1 wl1.symm fun ap1 k11 H5 h => ?_
            refine ⟨by first | exact h.r1 | exact h.r2, ?_⟩
            refine h.appS (q := bS) (b := pad b) (by rw [epad]; simp [sv]) hfit2 wl2.symm fun wp1 k21 H6 h => ?_
            exact fin h
        · skip
          refine h.newK fun bS h => ?_
          refine ⟨by first | exact h.r1 | exact h.r2, ?_⟩
          refine ⟨by first | exact h.r1 | exact h.r2, ?_⟩
          refine h.newK fun bI h => ?_
          refine ⟨by first | exact h.r1 | exact h.r2, ?_⟩
          refine ⟨by first | exact h.r1 | exact h.r2, ?_⟩
          refine h.appI (q := bI) (i := i.toNat) (by show (_, [Value.int .i64 ((i.toNat : Nat) : Int)]) ∈ _; rw [hi]; simp) hfit1 wl1.symm fun ap1 k11 H5 h => ?_
          refine ⟨by first | exact h.r1 | exact h.r2, ?_⟩
          refine h.appS (q := bS) (b := pad b) (by rw [epad]; simp [sv]) hfit2 wl2.symm fun wp1 k21 H6 h => ?_
          exact fin h
  · rw [decide_eq_true hs]
    rw [if_neg hs, if_neg hs] at hK
    exact bcT (hK H O hu Mod.refl Grew.refl)
end Go.Proofs.Ytjfohhgmapipnaa
