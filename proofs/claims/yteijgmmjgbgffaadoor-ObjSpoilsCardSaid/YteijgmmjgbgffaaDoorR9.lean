/- Contracts. -/
import Derived.Test.YteijgmmjgbgffaaDoorR5
namespace Go.Proofs.YteijgmmjgbgffaaDoor
open Go.V
/-! ### The document's relations -/
structure RF (H : Hp) (m B : Nat) (bs : List Nat) (n : Nat) (M : Nat → Nat → Bool) : Prop where
  lim : n ≤ 200
  lb : bs.length = n
  hn : rd H m 0 = some (.int .i64 (n : Nat))
  hm : ∃ p c, rd H m 1 = some (.slice p n c) ∧ n ≤ c ∧ (n = 0 ∨ p = some ⟨B, 0, none⟩)
  ptr : ∀ i (h : i < bs.length), rd H B i = some (.slice (some ⟨bs[i], 0, none⟩) n n)
  row : ∀ i (h : i < bs.length) j, j < n → rd H bs[i] j = some (.bool (M i j))
  out : Sup M n
  nd : n = 0 ∨ (m :: B :: bs).Nodup
  there : ∀ b ∈ m :: B :: bs, H b ≠ none
def RFO (H : Hp) (m : Nat) (O : List Nat) (n : Nat) (M : Nat → Nat → Bool) : Prop := ∃ B bs, O = m :: B :: bs ∧ RF H m B bs n M
section
variable {H H' : Hp} {m B : Nat} {bs O P : List Nat} {n : Nat} {M M' : Nat → Nat → Bool}
theorem RF.mod (h : RF H m B bs n M) (hm : Mod O H H') (hd : ∀ b ∈ O, b ∉ m :: B :: bs) : RF H' m B bs n M := by
  have h1 : m ∉ O := fun hb => hd m hb (by simp)
  have h2 : B ∉ O := fun hb => hd B hb (by simp)
  have h3 : ∀ i (hi : i < bs.length), bs[i] ∉ O := fun i hi hb => hd _ hb (by simp)
  obtain ⟨p, c, g1, g2⟩ := h.hm
  refine ⟨h.lim, h.lb, hm.rd h1 h.hn, ⟨p, c, hm.rd h1 g1, g2⟩, fun i hi => hm.rd h2 (h.ptr i hi), fun i hi j hj => hm.rd (h3 i hi) (h.row i hi j hj), h.out, h.nd, fun b hb => ?_⟩
  rw [eq_of_mod hm (fun hbO => hd b hbO hb) (h.there b hb)]
  exact h.there b hb
theorem RFO.mod (h : RFO H m O n M) (hm : Mod P H H') (hd : ∀ b ∈ P, b ∉ O) : RFO H' m O n M := by
  obtain ⟨B, bs, rfl, h⟩ := h
  exact ⟨B, bs, rfl, h.mod hm hd⟩
theorem RFO.le (h : RFO H m O n M) (hm : Le H H') : RFO H' m O n M := h.mod (P := []) hm.mod (by simp)
theorem RFO.lim (h : RFO H m O n M) : n ≤ 200 := by obtain ⟨B, bs, rfl, h⟩ := h; exact h.lim
theorem RFO.sup (h : RFO H m O n M) : Sup M n := by obtain ⟨B, bs, rfl, h⟩ := h; exact h.out
theorem RFO.there (h : RFO H m O n M) : ∀ b ∈ O, H b ≠ none := by obtain ⟨B, bs, rfl, h⟩ := h; exact h.there
theorem RFO.congr (h : RFO H m O n M) (e : ∀ a b, M' a b = M a b) : RFO H m O n M' := by
  have : M' = M := funext fun a => funext fun b => e a b
  rw [this]; exact h
theorem RF.congr (h : RF H m B bs n M) (e : ∀ a b, M' a b = M a b) : RF H m B bs n M' := by
  have : M' = M := funext fun a => funext fun b => e a b
  rw [this]; exact h
theorem RFO.apart (h : RFO H m O n M) (hP : ∀ b ∈ P, H b = none) : (∀ b ∈ P, b ∉ O) ∧ (∀ b ∈ O, b ∉ P) :=
  ⟨fun b hb hb' => h.there b hb' (hP b hb), fun b hb hb' => h.there b hb (hP b hb')⟩
theorem RF.len (h : RF H m B bs n M) {F : Int → Prop} (hF : F (n : Nat)) : NIL (some ⟨m, 0, none⟩) fun b o => ldI .i64 (rd H b o) F := nil (ldI_i h.hn hF)
theorem RFO.len (h : RFO H m O n M) {F : Int → Prop} (hF : F (n : Nat)) : NIL (some ⟨m, 0, none⟩) fun b o => ldI .i64 (rd H b o) F := by obtain ⟨B, bs, rfl, h⟩ := h; exact h.len hF
theorem RF.rowAt (h : RF H m B bs n M) {i : Int} {a : Nat} (hi : i = (a : Int)) (ha : a < n) {F : Option Addr → Nat → Nat → Prop} (hF : F (some ⟨bs[a]'(by rw [h.lb]; exact ha), 0, none⟩) n n) :
    NIL (some ⟨m, 0, none⟩) fun b o => ldL (rd H b (o + 1)) fun xp xl _ => IDX i xl fun k => NIL xp fun b' o' => ldL (rd H b' (o' + k)) F := by
  obtain ⟨p, c, g1, g2, g3⟩ := h.hm
  obtain rfl := g3.resolve_left (by omega)
  refine nil ?_
  refine ldL_i (by rw [Nat.zero_add]; exact g1) ?_
  refine idxN a hi ha ?_
  refine nil ?_
  exact ldL_i (by rw [Nat.zero_add]; exact h.ptr a (by rw [h.lb]; exact ha)) hF
theorem RF.get (h : RF H m B bs n M) {i j : Int} {a b : Nat} (hi : i = (a : Int)) (ha : a < n) (hj : j = (b : Int)) (hb : b < n) {F : Bool → Prop} (hF : F (M a b)) :
    NIL (some ⟨m, 0, none⟩) fun b o => ldL (rd H b (o + 1)) fun xp xl _ => IDX i xl fun k => NIL xp fun b' o' => ldL (rd H b' (o' + k)) fun xq xm _ => IDX j xm fun k2 => NIL xq fun b2 o2 => ldB (rd H b2 (o2 + k2)) F := by
  refine h.rowAt hi ha ?_
  refine idxN b hj hb ?_
  refine nil ?_
  exact ldB_i (by rw [Nat.zero_add]; exact h.row a (by rw [h.lb]; exact ha) b hb) hF
theorem RFO.get (h : RFO H m O n M) {i j : Int} {a b : Nat} (hi : i = (a : Int)) (ha : a < n) (hj : j = (b : Int)) (hb : b < n) {F : Bool → Prop} (hF : F (M a b)) :
    NIL (some ⟨m, 0, none⟩) fun b o => ldL (rd H b (o + 1)) fun xp xl _ => IDX i xl fun k => NIL xp fun b' o' => ldL (rd H b' (o' + k)) fun xq xm _ => IDX j xm fun k2 => NIL xq fun b2 o2 => ldB (rd H b2 (o2 + k2)) F := by
  obtain ⟨B, bs, rfl, h⟩ := h; exact h.get hi ha hj hb hF
/-- A cell written. -/
theorem RF.set (h : RF H m B bs n M) {a b : Nat} (ha : a < n) (hb : b < n) {v : Bool} : RF (wr H (bs[a]'(by rw [h.lb]; exact ha)) b (.bool v)) m B bs n (fun x y => if x = a ∧ y = b then v else M x y) := by
  have ha' : a < bs.length := by rw [h.lb]; exact ha
  have hnd := h.nd.resolve_left (by omega)
  simp only [List.nodup_cons, List.mem_cons, not_or] at hnd
  obtain ⟨⟨n1, n2⟩, n3, n4⟩ := hnd
  have e1 : m ≠ bs[a] := fun e => n2 (e ▸ List.getElem_mem ha')
  have e2 : B ≠ bs[a] := fun e => n3 (e ▸ List.getElem_mem ha')
  obtain ⟨p, c, g1, g2⟩ := h.hm
  refine ⟨h.lim, h.lb, by rw [rd_wr_ne e1]; exact h.hn, ⟨p, c, by rw [rd_wr_ne e1]; exact g1, g2⟩, fun i hi => by rw [rd_wr_ne e2]; exact h.ptr i hi, fun i hi j hj => ?_, fun x y hxy => ?_, h.nd, fun x hx => ?_⟩
  · by_cases e : i = a
    · subst e
      by_cases ej : j = b
      · subst ej; rw [rd_wr_self (h.row i hi j hj)]; simp
      · rw [rd_wr_off ej, h.row i hi j hj]; simp [ej]
    · have : bs[i] ≠ bs[a] := fun e' => e (nodup_inj n4 hi ha' e')
      rw [rd_wr_ne this, h.row i hi j hj]; simp [e]
  · rw [if_neg (by omega)]; exact h.out x y hxy
  · unfold wr
    split
    · subst_vars
      cases hH : H bs[a] with
      | none => exact absurd hH (h.there _ hx)
      | some d => intro e; cases e
    · exact h.there x hx
theorem RF.put (h : RF H m B bs n M) {i j : Int} {a b : Nat} (hi : i = (a : Int)) (ha : a < n) (hj : j = (b : Int)) (hb : b < n) {v : Bool} {F : Hp → Prop}
    (hF : ∀ H', RF H' m B bs n (fun x y => if x = a ∧ y = b then v else M x y) → Mod (m :: B :: bs) H H' → F H') :
    NIL (some ⟨m, 0, none⟩) fun b o => ldL (rd H b (o + 1)) fun xp xl _ => IDX i xl fun k => NIL xp fun b' o' => ldL (rd H b' (o' + k)) fun xq xm _ => IDX j xm fun k2 => NIL xq fun b2 o2 => ST H b2 (o2 + k2) (.bool v) F := by
  refine h.rowAt hi ha ?_
  refine idxN b hj hb ?_
  refine nil ?_
  refine st0 (h.row a (by rw [h.lb]; exact ha) b hb) ?_
  exact hF _ (h.set ha hb) (Mod.refl.wr (.inl (by simp)))
end

theorem centoref2_New.c {n : Int} {H : Hp} {K : Option Addr → Hp → Prop}
    (hK : ∀ m O H', RFO H' m O (max 0 (min n 200)).toNat (fun _ _ => false) → (∀ b ∈ O, H b = none) → Le H H' → K (some ⟨m, 0, none⟩) H') : centoref2_New.C n H K := by
  apply centoref2_New.of
  unfold centoref2_New.F
  obtain ⟨k, hk⟩ : ∃ k : Nat, max 0 (min n 200) = (k : Int) := ⟨(max 0 (min n 200)).toNat, by omega⟩
  rw [hk, Int.toNat_natCast] at hK
  rw [hk]
  intro m hm
  have le0 : Le H (upd H m [.int .i64 k, .slice none 0 0]) := .upd hm
  refine ⟨fun i H' => ∃ (i' : Nat) (bs : List Nat) (p : Option Addr) (l c : Nat), i = i' ∧ i' ≤ k ∧ bs.length = i' ∧ Le H H' ∧ rd H' m 0 = some (.int .i64 k) ∧ rd H' m 1 = some (.slice p l c) ∧ Buf 1 H H' p l c (bs.map fun b => Value.slice (some ⟨b, 0, none⟩) k k) ∧
      (∀ i (h : i < bs.length) j, j < k → rd H' bs[i] j = some (.bool false)) ∧ bs.Nodup ∧ (∀ b ∈ bs, b ≠ m ∧ p ≠ some ⟨b, 0, none⟩ ∧ H b = none ∧ H' b ≠ none) ∧ p ≠ some ⟨m, 0, none⟩, fun i _ => (k - i).toNat,
    ⟨0, [], none, 0, 0, rfl, by omega, rfl, le0, by rw [rd_upd_self]; rfl, by rw [rd_upd_self]; rfl, by simpa using Buf.none, fun i h => by simp at h, by simp, fun b hb => (by cases hb), by simp⟩, ?_⟩
  rintro i H1 ⟨i, bs, p, l, c, rfl, hi, hbl, le1, r0, r1, hB, hrow, hnd, hbs, hpm⟩
  have hl : l = i := by have := hB.1; simp at this; omega
  have hm1 : H1 m ≠ none := ne_none_of_rd r0
  refine ldI_i r0 ?_
  refine bcd (fun h => ?_) (fun h => ?_)
  · refine ldL_i r1 (ldI_i r0 ?_)
    refine mk rfl (by omega) (by omega) ?_
    intro b hb
    have le2 : Le H1 (upd H1 b (rep k [.bool false])) := .upd hb
    have rb : ∀ j, j < k → rd (upd H1 b (rep k [.bool false])) b j = some (.bool false) := fun j hj => rd_rep hj
    have hb2 : upd H1 b (rep k [.bool false]) b ≠ none := by unfold upd; rw [if_pos rfl]; intro e; cases e
    refine ⟨le2.rd r1, ?_⟩
    generalize upd H1 b (rep k [.bool false]) = H2 at *
    intro b' hb'
    have le3 : Le H2 (upd H2 b' [.slice (some ⟨b, 0, none⟩) k k]) := .upd hb'
    have le23 := le2.trans le3
    have hnew : upd H2 b' [.slice (some ⟨b, 0, none⟩) k k] b' = some [.slice (some ⟨b, 0, none⟩) k k] := by unfold upd; rw [if_pos rfl]
    have hbb : b ≠ b' := ne_of_none hb2 hb'
    refine ⟨le3.rd (le2.rd r1), ?_⟩
    have hb3 : upd H2 b' [.slice (some ⟨b, 0, none⟩) k k] b ≠ none := by rw [eq_of_le le3 hb2]; exact hb2
    generalize upd H2 b' [.slice (some ⟨b, 0, none⟩) k k] = H3 at *
    refine (hB.le le23).pushAt hnew rfl (by decide) rfl (by decide) rfl rfl (by simp [te_sl_bool]; omega) (fun p' c' H4 hB4 hp' hM => ?_) (le1.trans le23)
    have hpb : ∀ x, H1 x ≠ none → p ≠ some ⟨x, 0, none⟩ → x ∉ blkL p := fun x _ hx h => hx (blkL_mem hB.zero h)
    have hbp : b ∉ blkL p := fun h => hB.there (blkL_mem hB.zero h) hb
    have hmp : m ∉ blkL p := hpb m hm1 hpm
    have le4 : Le H H4 := hM.le (le1.trans le23) fun x hx => hB.fr x 0 (blkL_mem hB.zero hx)
    have r1' := hM.rd hmp (le23.rd r1)
    have m5 : Mod [m] H4 (wr H4 m 1 (.slice p' (l + 1) c')) := Mod.refl.wr (.inl (by simp))
    have hbm : b ≠ m := fun e => hm1 (e ▸ hb)
    have np : ∀ x, H3 x ≠ none → p ≠ some ⟨x, 0, none⟩ → p' ≠ some ⟨x, 0, none⟩ := fun x hx hpx e => by
      rcases hp' with rfl | hp'
      · exact hpx e
      · exact hx (hp' x 0 e)
    refine st r1' (chk (by omega) ⟨⟨i + 1, bs ++ [b], p', l + 1, c', by omega, by omega, by simp [hbl], le4.wr hm, ?_, rd_wr_self r1', ?_, ?_, ?_, ?_, ?_⟩, by first | omega | (dsimp only; omega)⟩)
    · rw [rd_wr_off (by decide)]; exact hM.rd hmp (le23.rd r0)
    · rw [List.map_append]
      exact hB4.mod m5 fun x o e hx => by
        simp at hx; subst hx
        have := hB4.zero _ e
        exact np x (by rw [eq_of_le le23 hm1]; exact hm1) hpm (by have h0 : o = 0 := this.1; rw [e, h0])
    · intro i' hi' j hj
      by_cases e : i' < bs.length
      · rw [List.getElem_append_left e]
        have hx := hbs _ (List.getElem_mem e)
        rw [rd_wr_ne hx.1]
        exact hM.rd (hpb _ hx.2.2.2 hx.2.1) (le23.rd (hrow i' e j hj))
      · have e1 : i' = bs.length := by simp at hi'; omega
        subst e1
        simp only [List.getElem_append_right (Nat.le_refl _), Nat.sub_self, List.getElem_singleton]
        rw [rd_wr_ne hbm]
        exact hM.rd hbp (le3.rd (rb j hj))
    · exact List.nodup_append.2 ⟨hnd, by simp, fun x hx y hy e => by simp at hy; subst hy; subst e; exact (hbs _ hx).2.2.2 hb⟩
    · intro x hx
      have wrn : ∀ x, H4 x ≠ none → wr H4 m 1 (.slice p' (l + 1) c') x ≠ none := fun x hx => by
        unfold wr
        split
        · subst_vars
          cases hH : H4 x with
          | none => exact absurd hH hx
          | some d => intro e; cases e
        · exact hx
      have hM4 : ∀ x, H3 x ≠ none → x ∉ blkL p → H4 x ≠ none := fun x hx hxp => by rw [eq_of_mod hM hxp hx]; exact hx
      rcases List.mem_append.1 hx with hx | hx
      · obtain ⟨g1, g2, g3, g4⟩ := hbs x hx
        have h3 : H3 x ≠ none := by rw [eq_of_le le23 g4]; exact g4
        exact ⟨g1, np x h3 g2, g3, wrn x (hM4 x h3 (hpb x g4 g2))⟩
      · simp at hx; subst hx
        have hpx : p ≠ some ⟨x, 0, none⟩ := fun e => hB.there e hb
        exact ⟨hbm, np x hb3 hpx, none_of_le le1 hb, wrn x (hM4 x hb3 hbp)⟩
    · exact np m (by rw [eq_of_le le23 hm1]; exact hm1) hpm
  · obtain rfl : i = k := by omega
    by_cases h0 : i = 0
    · subst h0
      have hbs0 : bs = [] := List.length_eq_zero_iff.1 hbl
      subst hbs0
      refine hK m [m, m] H1 ⟨m, [], rfl, ⟨by omega, rfl, r0, ⟨p, c, by rw [r1, hl], by omega, .inl rfl⟩, fun i h => by simp at h, fun i h => by simp at h, fun _ _ _ => rfl, .inl rfl, fun b hb => by simp at hb; subst hb; exact hm1⟩⟩ (fun b hb => by simp at hb; subst hb; exact hm) le1
    · obtain ⟨B, rfl⟩ := hB.some_of (by omega)
      have hB0 : H B = none := hB.fr B 0 rfl
      refine hK m (m :: B :: bs) H1 ⟨B, bs, rfl, ⟨by omega, hbl, r0, ⟨_, c, by rw [r1, hl], ?_, .inr rfl⟩, fun j hj => ?_, hrow, fun _ _ _ => rfl, .inr ?_, fun b hb => ?_⟩⟩ (fun b hb => ?_) le1
      · rcases hB.2 with ⟨h1, _⟩ | ⟨_, _, _, _, _, _, h5, _⟩
        · cases h1
        · omega
      · have := hB.rd (i := j) (v := .slice (some ⟨bs[j], 0, none⟩) i i) (by simp [hj])
        rwa [Nat.zero_add] at this
      · simp only [List.nodup_cons, List.mem_cons, not_or]
        refine ⟨⟨fun e => hpm (by rw [e]), fun h => (hbs m h).1 rfl⟩, fun h => (hbs B h).2.1 rfl, hnd⟩
      · rcases List.mem_cons.1 hb with rfl | hb
        · exact hm1
        rcases List.mem_cons.1 hb with rfl | hb
        · exact hB.there rfl
        · exact (hbs b hb).2.2.2
      · rcases List.mem_cons.1 hb with rfl | hb
        · exact hm
        rcases List.mem_cons.1 hb with rfl | hb
        · exact hB0
        · exact (hbs b hb).2.2.1

theorem centoref2_Rel_Is.c {m n : Nat} {M : Nat → Nat → Bool} {O : List Nat} {i : Int} {H : Hp} {K : Bool → Hp → Prop} (hu : RFO H m O n M) (hK : K (decide (0 ≤ i ∧ i < (n : Int))) H) : centoref2_Rel_Is.C (some ⟨m, 0, none⟩) i H K := by
  apply centoref2_Rel_Is.of
  refine bcd (fun h => ?_) fun h => ?_
  · refine hu.len ?_
    have e : decide (0 ≤ i ∧ i < (n : Int)) = decide (i < (n : Int)) := decide_eq_decide.2 ⟨fun g => g.2, fun g => ⟨h, g⟩⟩
    rw [← e]; exact hK
  · rwa [decide_eq_false (fun g => h g.1)] at hK
/-- Filled as far as (a, b). -/
def fillTo (M : Nat → Nat → Bool) (a b : Nat) : Nat → Nat → Bool := fun x y => M x y && (decide (x < a) || (decide (x = a) && decide (y < b)))
theorem fillTo_step {M : Nat → Nat → Bool} {a b : Nat} : (fun x y => if x = a ∧ y = b then M a b else fillTo M a b x y) = fillTo M a (b + 1) := by
  funext x y
  unfold fillTo
  by_cases e : x = a ∧ y = b
  · rw [if_pos e, e.1, e.2]; simp
  · rw [if_neg e]
    congr 1
    rw [Bool.eq_iff_iff]; simp; omega
theorem fillTo_row {M : Nat → Nat → Bool} {n a b : Nat} (hs : Sup M n) (hb : n ≤ b) : fillTo M (a + 1) 0 = fillTo M a b := by
  funext x y
  unfold fillTo
  by_cases hy : y < n
  · congr 1
    rw [Bool.eq_iff_iff]; simp; omega
  · rw [hs x y (.inr (by omega))]; simp
theorem fillTo_all {M : Nat → Nat → Bool} {n : Nat} (hs : Sup M n) : fillTo M n 0 = M := by
  funext x y
  unfold fillTo
  by_cases hx : x < n
  · simp [hx]
  · rw [hs x y (.inl (by omega))]; simp
theorem fillTo_zero {M : Nat → Nat → Bool} : fillTo M 0 0 = fun _ _ => false := by funext x y; simp [fillTo]

theorem centoref2_Rel_Copy.c {m n : Nat} {M : Nat → Nat → Bool} {O : List Nat} {H : Hp} {K : Option Addr → Hp → Prop} (hu : RFO H m O n M)
    (hK : ∀ m' O' H', RFO H' m' O' n M → (∀ b ∈ O', H b = none) → Le H H' → K (some ⟨m', 0, none⟩) H') : centoref2_Rel_Copy.C (some ⟨m, 0, none⟩) H K := by
  apply centoref2_Rel_Copy.of
  have hlim := hu.lim
  have hs := hu.sup
  refine hu.len ?_
  refine centoref2_New.c fun m' O' H1 u1 hO le1 => ?_
  rw [show (max 0 (min (n : Int) 200)).toNat = n by omega] at u1
  have hap := hu.apart hO
  refine ⟨fun t H' => ∃ a : Nat, t = a ∧ a ≤ n ∧ Le H H' ∧ RFO H' m O n M ∧ RFO H' m' O' n (fillTo M a 0), fun t _ => (n - t).toNat, ⟨0, rfl, by omega, le1, hu.le le1, by rw [fillTo_zero]; exact u1⟩, ?_⟩
  rintro t H2 ⟨a, rfl, ha, le2, v2, u2⟩
  refine v2.len ?_
  refine bcd (fun h => ?_) (fun h => ?_)
  · have han : a < n := by omega
    refine ⟨fun t H' => ∃ b : Nat, t = b ∧ b ≤ n ∧ Le H H' ∧ RFO H' m O n M ∧ RFO H' m' O' n (fillTo M a b), fun t _ => (n - t).toNat, ⟨0, rfl, by omega, le2, v2, u2⟩, ?_⟩
    rintro t H3 ⟨b, rfl, hb, le3, v3, u3⟩
    refine v3.len ?_
    refine bcd (fun h => ?_) (fun h => ?_)
    · have hbn : b < n := by omega
      obtain ⟨B', bs', rfl, u3⟩ := u3
      refine u3.rowAt rfl han ?_
      refine v3.get rfl han rfl hbn ?_
      refine idx hbn ?_
      refine nil ?_
      have hset := u3.set han hbn (v := M a b)
      rw [fillTo_step] at hset
      have mw : Mod (m' :: B' :: bs') H3 (wr H3 (bs'[a]'(by rw [u3.lb]; exact han)) b (.bool (M a b))) := Mod.refl.wr (.inl (by simp))
      refine st0 (u3.row a (by rw [u3.lb]; exact han) b hbn) ?_
      exact chk (by omega) ⟨⟨b + 1, by omega, by omega, mw.le le3 hO, v3.mod mw hap.1, ⟨B', bs', rfl, hset⟩⟩, by first | omega | (dsimp only; omega)⟩
    · refine chk (by omega) ⟨⟨a + 1, by omega, by omega, le3, v3, ?_⟩, by first | omega | (dsimp only; omega)⟩
      rw [fillTo_row hs (b := b) (by omega)]; exact u3
  · obtain rfl : a = n := by omega
    rw [fillTo_all hs] at u2
    exact hK m' O' H2 u2 hO le2

theorem centoref2_Rel_Closure.c {m n : Nat} {M : Nat → Nat → Bool} {O : List Nat} {H : Hp} {K : Option Addr → Hp → Prop} (hu : RFO H m O n M)
    (hK : ∀ m' O' H', RFO H' m' O' n (clo M n) → (∀ b ∈ O', H b = none) → Le H H' → K (some ⟨m', 0, none⟩) H') : centoref2_Rel_Closure.C (some ⟨m, 0, none⟩) H K := by
  apply centoref2_Rel_Closure.of
  have hlim := hu.lim
  have hs := hu.sup
  refine centoref2_Rel_Copy.c hu fun m' O' H1 u1 hO le1 => ?_
  refine ⟨fun t H' => ∃ k : Nat, t = k ∧ k ≤ n ∧ Le H H' ∧ RFO H' m' O' n (cloK M n k), fun t _ => (n - t).toNat, ⟨0, rfl, by omega, le1, u1⟩, ?_⟩
  rintro t H2 ⟨k, rfl, hk, le2, u2⟩
  refine u2.len ?_
  refine bcd (fun h => ?_) (fun h => ?_)
  · have hkn : k < n := by omega
    refine ⟨fun t H' => ∃ a : Nat, t = a ∧ a ≤ n ∧ Le H H' ∧ RFO H' m' O' n (cloA (cloK M n k) k a), fun t _ => (n - t).toNat, ⟨0, rfl, by omega, le2, u2⟩, ?_⟩
    rintro t H3 ⟨a, rfl, ha, le3, u3⟩
    refine u3.len ?_
    refine bcd (fun h => ?_) (fun h => ?_)
    · have han : a < n := by omega
      have e0 : cloA (cloK M n k) k (a + 1) = if cloA (cloK M n k) k a a k then fun x y => if x = a then cloA (cloK M n k) k a a y || cloA (cloK M n k) k a k y else cloA (cloK M n k) k a x y else cloA (cloK M n k) k a := rfl
      refine u3.get rfl han rfl hkn ?_
      refine bcn (fun hh => ?_) (fun hh => ?_)
      · rw [if_neg (by rw [hh]; simp)] at e0
        exact chk (by omega) ⟨⟨a + 1, by omega, by omega, le3, by rw [e0]; exact u3⟩, by first | omega | (dsimp only; omega)⟩
      · rw [if_pos hh] at e0
        generalize hN : cloA (cloK M n k) k a = N at *
        have hNs : Sup N n := u3.sup
        refine ⟨fun t H' => ∃ b : Nat, t = b ∧ b ≤ n ∧ Le H H' ∧ RFO H' m' O' n (fun x y => if x = a ∧ y < b then N a y || N k y else N x y), fun t _ => (n - t).toNat, ⟨0, rfl, by omega, le3, u3.congr fun x y => by rw [if_neg (by omega)]⟩, ?_⟩
        rintro t H4 ⟨b, rfl, hb, le4, u4⟩
        refine u4.len ?_
        refine bcd (fun h => ?_) (fun h => ?_)
        · have hbn : b < n := by omega
          have hkb : (if k = a ∧ b < b then N a b || N k b else N k b) = N k b := by rw [if_neg (by omega)]
          refine u4.get rfl hkn rfl hbn ?_
          rw [hkb]
          have hst : ∀ {x y}, (if x = a ∧ y < b + 1 then N a y || N k y else N x y) = (if x = a ∧ y = b then N a b || N k b else if x = a ∧ y < b then N a y || N k y else N x y) := fun {x y} => by
            by_cases e1 : x = a ∧ y = b
            · rw [if_pos e1, if_pos (by omega), e1.2]
            · rw [if_neg e1]
              by_cases e2 : x = a ∧ y < b
              · rw [if_pos e2, if_pos (by omega)]
              · rw [if_neg e2, if_neg (by omega)]
          refine bc_i (fun hkt => ?_) (fun hkf => ?_)
          · obtain ⟨B', bs', rfl, u4⟩ := u4
            refine u4.put rfl han rfl hbn fun H5 u5 m5 => ?_
            refine chk (by omega) ⟨⟨b + 1, by omega, by omega, m5.le le4 hO, ⟨B', bs', rfl, u5.congr fun x y => ?_⟩⟩, by first | omega | (dsimp only; omega)⟩
            rw [hst, hkt, Bool.or_true]
          · refine chk (by omega) ⟨⟨b + 1, by omega, by omega, le4, u4.congr fun x y => ?_⟩, by first | omega | (dsimp only; omega)⟩
            rw [hst, hkf, Bool.or_false]
            by_cases e1 : x = a ∧ y = b
            · rw [if_pos e1, if_neg (by omega), e1.1, e1.2]
            · rw [if_neg e1]
        · obtain rfl : b = n := by omega
          refine chk (by omega) ⟨⟨a + 1, by omega, by omega, le4, u4.congr fun x y => ?_⟩, by first | omega | (dsimp only; omega)⟩
          rw [e0]
          by_cases hx : x = a
          · subst hx
            simp only [if_true]
            by_cases hy : y < b
            · rw [if_pos ⟨by trivial, hy⟩]
            · rw [if_neg (fun g => hy g.2), hNs x y (.inr (by omega)), hNs k y (.inr (by omega))]; rfl
          · simp only [if_neg hx]
            rw [if_neg (fun g => hx g.1)]
    · obtain rfl : a = n := by omega
      exact chk (by omega) ⟨⟨k + 1, by omega, by omega, le3, u3⟩, by first | omega | (dsimp only; omega)⟩
  · obtain rfl : k = n := by omega
    exact hK m' O' H2 u2 hO le2
end Go.Proofs.YteijgmmjgbgffaaDoor
