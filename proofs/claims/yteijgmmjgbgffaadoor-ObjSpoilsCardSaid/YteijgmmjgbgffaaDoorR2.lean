/- Contracts. -/
import Derived.Test.YteijgmmjgbgffaaDoorR1
namespace Go.Proofs.YteijgmmjgbgffaaDoor
open Go.V
/-! ### Ways -/
/-- One row of one round: who is ahead of k is ahead of those behind it. -/
def cloA (M : Nat → Nat → Bool) (k : Nat) : Nat → Nat → Nat → Bool
  | 0 => M
  | a + 1 => if cloA M k a a k then fun x y => if x = a then cloA M k a a y || cloA M k a k y else cloA M k a x y else cloA M k a
def cloK (M : Nat → Nat → Bool) (n : Nat) : Nat → Nat → Nat → Bool
  | 0 => M
  | k + 1 => cloA (cloK M n k) k n
def clo (M : Nat → Nat → Bool) (n : Nat) : Nat → Nat → Bool := cloK M n n
theorem cloA_eq (M : Nat → Nat → Bool) (k : Nat) : ∀ t x y, cloA M k t x y = (M x y || (decide (x < t) && M x k && M k y))
  | 0, x, y => by simp [cloA]
  | a + 1, x, y => by
    have ih := cloA_eq M k a
    have e1 : cloA M k a a k = M a k := by rw [ih]; simp
    have e2 : ∀ z, cloA M k a a z = M a z := fun z => by rw [ih]; simp
    have e3 : cloA M k a k y = M k y := by rw [ih]; cases M k y <;> simp
    rw [cloA, e1]
    by_cases hx : x = a
    · subst hx
      cases h : M x k
      · simp only [Bool.false_eq_true, if_false]
        rw [e2]; simp
      · simp only [if_true]
        rw [e2, e3]; simp
    · have : (x < a + 1) ↔ (x < a) := by omega
      rw [decide_eq_decide.2 this, ← ih]
      split
      · simp only [if_neg hx]
      · rfl
/-- By steps, with those below k between. -/
inductive Way (M : Nat → Nat → Bool) (k : Nat) : Nat → Nat → Prop
  | one {x y : Nat} : M x y = true → Way M k x y
  | two {x z y : Nat} : Way M k x z → z < k → Way M k z y → Way M k x y
theorem Way.mono {M : Nat → Nat → Bool} {k k' x y : Nat} (h : Way M k x y) (hk : k ≤ k') : Way M k' x y := by
  induction h with
  | one h => exact .one h
  | two _ hz _ ih1 ih2 => exact .two ih1 (by omega) ih2
/-- M speaks of those below n alone. -/
def Sup (M : Nat → Nat → Bool) (n : Nat) : Prop := ∀ x y, n ≤ x ∨ n ≤ y → M x y = false
theorem Sup.lt {M : Nat → Nat → Bool} {n x y : Nat} (h : Sup M n) (e : M x y = true) : x < n ∧ y < n := by
  constructor
  · apply Nat.lt_of_not_le; intro hx; rw [h x y (.inl hx)] at e; cases e
  · apply Nat.lt_of_not_le; intro hx; rw [h x y (.inr hx)] at e; cases e
theorem cloK_sup {M : Nat → Nat → Bool} {n : Nat} (h : Sup M n) : ∀ k, Sup (cloK M n k) n
  | 0 => h
  | k + 1 => fun x y hxy => by
    rw [cloK, cloA_eq]
    have ih := cloK_sup h k
    rw [ih x y hxy]
    rcases hxy with hx | hy
    · simp; intro h; omega
    · rw [ih k y (.inr hy)]; simp
theorem cloK_step {M : Nat → Nat → Bool} {n : Nat} (h : Sup M n) (k x y : Nat) : cloK M n (k + 1) x y = (cloK M n k x y || (cloK M n k x k && cloK M n k k y)) := by
  rw [cloK, cloA_eq]
  by_cases hx : x < n
  · simp [hx]
  · have := cloK_sup h k x k (.inl (by omega))
    simp [this]
theorem cloK_way {M : Nat → Nat → Bool} {n : Nat} (h : Sup M n) : ∀ k x y, cloK M n k x y = true ↔ Way M k x y
  | 0, x, y => by
    constructor
    · intro e; exact .one e
    · intro e
      cases e with
      | one e => exact e
      | two _ hz _ => omega
  | k + 1, x, y => by
    have ih := cloK_way h k
    have comp : ∀ {x z y}, cloK M n k x z = true → z < k → cloK M n k z y = true → cloK M n k x y = true := fun h1 hz h2 => (ih _ _).2 (.two ((ih _ _).1 h1) hz ((ih _ _).1 h2))
    constructor
    · intro e
      rw [cloK_step h, Bool.or_eq_true, Bool.and_eq_true] at e
      rcases e with e | ⟨e1, e2⟩
      · exact ((ih _ _).1 e).mono (by omega)
      · exact .two (((ih _ _).1 e1).mono (by omega)) (by omega) (((ih _ _).1 e2).mono (by omega))
    · intro e
      have st : ∀ u v, cloK M n (k + 1) u v = true ↔ (cloK M n k u v = true ∨ (cloK M n k u k = true ∧ cloK M n k k v = true)) := fun u v => by
        rw [cloK_step h, Bool.or_eq_true, Bool.and_eq_true]
      induction e with
      | one e => exact (st _ _).2 (.inl ((ih _ _).2 (.one e)))
      | @two x z y _ hz _ ih1 ih2 =>
        rw [st] at ih1 ih2 ⊢
        by_cases hzk : z = k
        · subst hzk
          have a1 : cloK M n z x z = true := by rcases ih1 with a | ⟨a, _⟩ <;> exact a
          have a2 : cloK M n z z y = true := by rcases ih2 with a | ⟨_, a⟩ <;> exact a
          exact .inr ⟨a1, a2⟩
        · have hz' : z < k := by omega
          rcases ih1 with a | ⟨a, b⟩
          · rcases ih2 with c | ⟨c, d⟩
            · exact .inl (comp a hz' c)
            · exact .inr ⟨comp a hz' c, d⟩
          · rcases ih2 with c | ⟨c, d⟩
            · exact .inr ⟨a, comp b hz' c⟩
            · exact .inr ⟨a, d⟩
/-- Who comes there by steps. -/
theorem clo_way {M : Nat → Nat → Bool} {n : Nat} (h : Sup M n) (x y : Nat) : clo M n x y = true ↔ Way M n x y := cloK_way h n x y
theorem clo_sup {M : Nat → Nat → Bool} {n : Nat} (h : Sup M n) : Sup (clo M n) n := cloK_sup h n
def Tr (M : Nat → Nat → Bool) : Prop := ∀ x y z, M x y = true → M y z = true → M x z = true
theorem clo_tr {M : Nat → Nat → Bool} {n : Nat} (h : Sup M n) : Tr (clo M n) := fun x y z h1 h2 => by
  have hy := ((clo_sup h).lt h1).2
  exact (clo_way h x z).2 (.two ((clo_way h x y).1 h1) hy ((clo_way h y z).1 h2))
theorem clo_ge {M : Nat → Nat → Bool} {n : Nat} (h : Sup M n) {x y : Nat} (e : M x y = true) : clo M n x y = true := (clo_way h x y).2 (.one e)
/-- The least that has all ways. -/
theorem clo_least {M N : Nat → Nat → Bool} {n : Nat} (h : Sup M n) (ht : Tr N) (hle : ∀ x y, M x y = true → N x y = true) {x y : Nat} (e : clo M n x y = true) : N x y = true := by
  have := (clo_way h x y).1 e
  clear e
  induction this with
  | one e => exact hle _ _ e
  | two _ _ _ ih1 ih2 => exact ht _ _ _ ih1 ih2
theorem bool_ext {a b : Bool} (h : a = true ↔ b = true) : a = b := by cases a <;> cases b <;> simp_all
theorem clo_of_tr {M : Nat → Nat → Bool} {n : Nat} (h : Sup M n) (ht : Tr M) : clo M n = M :=
  funext fun x => funext fun y => bool_ext ⟨fun e => clo_least h ht (fun _ _ e => e) e, clo_ge h⟩
theorem clo_clo {M : Nat → Nat → Bool} {n : Nat} (h : Sup M n) : clo (clo M n) n = clo M n := clo_of_tr (clo_sup h) (clo_tr h)
theorem clo_mono {M N : Nat → Nat → Bool} {n : Nat} (h : Sup M n) (hN : Sup N n) (hle : ∀ x y, M x y = true → clo N n x y = true) {x y : Nat} (e : clo M n x y = true) : clo N n x y = true :=
  clo_least h (clo_tr hN) hle e

/-! ### Relations made -/
theorem RL.nodup_of {R B : Nat} {rs qs : List Nat} (h1 : R ≠ B) (h2 : R ∉ rs) (h3 : R ∉ qs) (h4 : B ∉ rs) (h5 : B ∉ qs) (h6 : rs.Nodup) (h7 : qs.Nodup) (h8 : ∀ a ∈ rs, ∀ b ∈ qs, a ≠ b) : (R :: B :: (rs ++ qs)).Nodup := by
  simp only [List.nodup_cons, List.mem_cons, List.mem_append, List.nodup_append]
  exact ⟨fun h => h.elim h1 fun h => h.elim h2 h3, fun h => h.elim h4 h5, h6, h7, h8⟩

theorem rel_New.c {n : Int} {H : Hp} {K : Option Addr → Hp → Prop} (hT : Tz H)
    (hK : ∀ R O H', RLO H' R O (min (max n 0) 200).toNat (fun _ _ => false) → (∀ b ∈ O, H b = none) → Le H H' → K (some ⟨R, 0, none⟩) H') : rel_New.C n H K := by
  apply rel_New.of
  unfold rel_New.F
  obtain ⟨m, hm⟩ : ∃ m : Nat, min (max n 0) 200 = (m : Int) := ⟨(min (max n 0) 200).toNat, by omega⟩
  rw [hm, Int.toNat_natCast] at hK
  rw [hm]
  refine mk rfl (by omega) (by omega) ?_
  intro B hB R hR
  have hRB : R ≠ B := fun e => by subst e; simp [upd] at hR
  have hR0 : H R = none := none_of_le (.upd hB) hR
  have le0 : Le H (upd (upd H B (rep m [.pointer none])) R [.slice (some ⟨B, 0, none⟩) m m]) := (Le.upd hB).trans (.upd hR)
  refine ldL_i (by rw [rd_upd_self]; rfl) ?_
  refine ⟨fun t H' => ∃ (t' : Nat) (rs qs : List Nat), t = t' ∧ t' ≤ m ∧ Le H H' ∧ rs.length = t' ∧ qs.length = t' ∧ rd H' R 0 = some (.slice (some ⟨B, 0, none⟩) m m) ∧ (∃ cs, H' B = some cs) ∧ (∀ i, i < m → ∃ p, rd H' B i = some (.pointer p) ∧ ∀ (h : i < rs.length), p = some ⟨rs[i], 0, none⟩) ∧
      (∀ i (h : i < rs.length) (h' : i < qs.length), BR H' rs[i] qs[i] m (fun _ => false)) ∧ (R :: B :: (rs ++ qs)).Nodup ∧ ∀ b ∈ R :: B :: (rs ++ qs), H b = none, fun t _ => (m - t).toNat,
    ⟨0, [], [], rfl, by omega, le0, rfl, rfl, by rw [rd_upd_self]; rfl, ⟨_, by rw [upd_ne (Ne.symm hRB)]; unfold upd; rw [if_pos rfl]⟩, fun i hi => ⟨none, by rw [rd_upd_ne (Ne.symm hRB), rd_rep hi], fun h => by simp at h⟩, fun i h => by simp at h, by simp [hRB], fun b hb => by simp at hb; rcases hb with rfl | rfl <;> assumption⟩, ?_⟩
  rintro t H1 ⟨t, rs, qs, rfl, ht, le1, l1, l2, h1, h2, h3, h4, h5, h6⟩
  refine bcd (fun h => ?_) (fun h => ?_)
  · refine ldL_i h1 (ldL_i h1 ?_)
    refine bits_New.c (hT.le le1) fun r q H2 u2 hr hq le2 => ?_
    rw [show (min (max (m : Int) 0) 1000).toNat = m by omega] at u2
    have htm : t < m := by omega
    obtain ⟨p, hp, _⟩ := h3 t htm
    refine ⟨le2.rd h1, ?_⟩
    refine idx htm ?_
    refine nil ?_
    obtain ⟨cs, h2⟩ := h2
    have hBq : B ≠ q := ne_of_none (by rw [h2]; intro e; cases e) hq
    have hBr : B ≠ r := ne_of_none (by rw [h2]; intro e; cases e) hr
    have hRq : R ≠ q := ne_of_none (ne_none_of_rd h1) hq
    have hRr : R ≠ r := ne_of_none (ne_none_of_rd h1) hr
    have hg : gTab ∉ [B] := by
      have := hT.there
      intro e; simp at e; exact this (e ▸ hB)
    have mB : Mod [B] H2 (wr H2 B t (.pointer (some ⟨r, 0, none⟩))) := Mod.refl.wr (.inl (by simp))
    refine st0 (le2.rd hp) (chk (by omega) ⟨⟨t + 1, rs ++ [r], qs ++ [q], by omega, by omega, (le1.trans le2).wr hB, by simp [l1], by simp [l2], ?_, ?_, fun i hi => ?_, fun i hi hi' => ?_, ?_, fun b hb => ?_⟩, by first | omega | (dsimp only; omega)⟩)
    · rw [rd_wr_ne hRB]; exact le2.rd h1
    · exact ⟨_, by unfold wr; rw [if_pos rfl, le2 _ _ h2]; rfl⟩
    · by_cases e : i = t
      · subst e
        refine ⟨_, rd_wr_self (le2.rd hp), fun h => ?_⟩
        simp [← l1]
      · obtain ⟨p', hp', hp2⟩ := h3 i hi
        refine ⟨p', by rw [rd_wr_off e]; exact le2.rd hp', fun h => ?_⟩
        simp only [List.length_append, List.length_singleton] at h
        have hi' : i < rs.length := by omega
        rw [hp2 hi', List.getElem_append_left hi']
    · simp only [List.length_append, List.length_singleton] at hi hi'
      by_cases e : i = t
      · subst e
        have e1 : (rs ++ [r])[i] = r := by simp [← l1]
        have e2 : (qs ++ [q])[i] = q := by simp [← l2]
        simp only [e1, e2]
        exact u2.mod mB (by simpa using Ne.symm hBr) (by simpa using Ne.symm hBq) hg
      · have hi1 : i < rs.length := by omega
        have hi2 : i < qs.length := by omega
        rw [List.getElem_append_left hi1, List.getElem_append_left hi2]
        have hnd := h5
        simp only [List.nodup_cons, List.mem_cons, List.mem_append] at hnd
        exact ((h4 i hi1 hi2).le le2).mod mB (by simp; intro e; exact hnd.2.1 (.inl (e ▸ List.getElem_mem hi1))) (by simp; intro e; exact hnd.2.1 (.inr (e ▸ List.getElem_mem hi2))) hg
    · simp only [List.nodup_cons, List.mem_cons, List.mem_append, List.nodup_append] at h5
      obtain ⟨n1, n2, n3, n4, n5⟩ := h5
      have old : ∀ b, b ∈ rs ∨ b ∈ qs → b ≠ r ∧ b ≠ q := fun b hb => by
        have hb' : H1 b ≠ none := by
          rcases hb with hb | hb
          · obtain ⟨i, hi, rfl⟩ := List.mem_iff_getElem.1 hb
            exact (h4 i hi (by omega)).hr
          · obtain ⟨i, hi, rfl⟩ := List.mem_iff_getElem.1 hb
            exact (h4 i (by omega) hi).hq
        exact ⟨ne_of_none hb' hr, ne_of_none hb' hq⟩
      have hrq := u2.rq
      refine RL.nodup_of hRB (by simp; exact ⟨fun h => n1 (.inr (.inl h)), hRr⟩) (by simp; exact ⟨fun h => n1 (.inr (.inr h)), hRq⟩) (by simp; exact ⟨fun h => n2 (.inl h), hBr⟩) (by simp; exact ⟨fun h => n2 (.inr h), hBq⟩)
        (List.nodup_append.2 ⟨n3, by simp, fun a ha b hb => by simp at hb; subst hb; exact (old a (.inl ha)).1⟩) (List.nodup_append.2 ⟨n4, by simp, fun a ha b hb => by simp at hb; subst hb; exact (old a (.inr ha)).2⟩) (fun a ha b hb => ?_)
      rcases List.mem_append.1 ha with ha | ha
      · rcases List.mem_append.1 hb with hb | hb
        · exact n5 a ha b hb
        · simp at hb; subst hb; exact (old a (.inl ha)).2
      · simp at ha; subst ha
        rcases List.mem_append.1 hb with hb | hb
        · exact (old b (.inr hb)).1.symm
        · simp at hb; subst hb; exact hrq
    · rcases List.mem_cons.1 hb with rfl | hb
      · exact hR0
      rcases List.mem_cons.1 hb with rfl | hb
      · exact hB
      rcases List.mem_append.1 hb with hb | hb
      · rcases List.mem_append.1 hb with hb | hb
        · exact h6 b (by simp [hb])
        · simp at hb; subst hb; exact none_of_le le1 hr
      · rcases List.mem_append.1 hb with hb | hb
        · exact h6 b (by simp [hb])
        · simp at hb; subst hb; exact none_of_le le1 hq
  · obtain rfl : t = m := by omega
    refine hK R _ H1 ⟨B, rs, qs, rfl, ⟨hT.le le1, by omega, l1, l2, ⟨t, h1, Nat.le_refl _⟩, h2, fun i hi => ?_, h4, fun _ _ _ => rfl, h5, fun hb => hT.there (h6 _ hb)⟩⟩ h6 le1
    obtain ⟨p, hp, hp2⟩ := h3 i (by omega)
    rw [hp, hp2 hi]

theorem rel_Rel_Copy.c {R n : Nat} {M : Nat → Nat → Bool} {O : List Nat} {H : Hp} {K : Option Addr → Hp → Prop} (hu : RLO H R O n M)
    (hK : ∀ R' O' H', RLO H' R' O' n M → (∀ b ∈ O', H b = none) → Le H H' → K (some ⟨R', 0, none⟩) H') : rel_Rel_Copy.C (some ⟨R, 0, none⟩) H K := by
  apply rel_Rel_Copy.of
  refine rel_Rel_Len.c hu ?_
  have hlim := hu.lim
  refine rel_New.c hu.tz fun R' O' H1 u1 hO le1 => ?_
  rw [show (min (max (n : Int) 0) 200).toNat = n by omega] at u1
  have hap := hu.apart hO
  have v1 := hu.le le1
  have hsup : ∀ i y, i < n → n ≤ y → M i y = false := fun i y _ hy => hu.out i y (.inr hy)
  obtain ⟨B', rs', qs', rfl, u1⟩ := u1
  obtain ⟨c1, hd1, _⟩ := u1.hd
  refine nil ?_
  refine ldL_i hd1 ?_
  refine ⟨fun t H' => ∃ t' : Nat, t = t' ∧ t' ≤ n ∧ Le H H' ∧ RLO H' R O n M ∧ RL H' R' B' rs' qs' n (fun x y => decide (x < t') && M x y), fun t _ => (n - t).toNat, ⟨0, rfl, by omega, le1, v1, u1.congr fun a b => by simp⟩, ?_⟩
  rintro t H2 ⟨t, rfl, ht, le2, v2, u2⟩
  refine bcd (fun h => ?_) (fun h => ?_)
  · have htn : t < n := by omega
    refine u2.at rfl htn ?_
    have v2' := v2
    obtain ⟨B, rs, qs, rfl, v2⟩ := v2
    refine v2.at rfl htn ?_
    have hq : qs[t]'(by rw [v2.lq]; exact htn) ∉ [qs'[t]'(by rw [u2.lq]; exact htn)] := by
      intro e; simp at e
      exact hap.2.1 _ (v2.mem htn) (by rw [e]; exact u2.mem htn)
    refine bits_Row_Or.c (u2.br htn) (v2.br htn) hq fun H3 u3 m3 => ?_
    have hq' : ∀ b ∈ [qs'[t]'(by rw [u2.lq]; exact htn)], b ∈ R' :: B' :: (rs' ++ qs') := fun b hb => by simp at hb; subst hb; exact u2.mem htn
    refine chk (by omega) ⟨⟨t + 1, by omega, by omega, m3.le le2 fun b hb => hO b (hq' b hb), v2'.mod m3 (fun b hb => hap.1 b (hq' b hb)) (by simpa using (u2.br htn).gq.symm), ?_⟩, by first | omega | (dsimp only; omega)⟩
    refine (u2.setRow htn u3 m3).congr fun x y => ?_
    by_cases hx : x = t
    · subst hx
      rw [if_pos rfl]
      unfold orB
      by_cases hy : y < n
      · simp [hy]
      · have := hsup x y htn (by omega); simp [this]
    · rw [if_neg hx]
      rw [decide_eq_decide.2 (show x < t + 1 ↔ x < t by omega)]
  · obtain rfl : t = n := by omega
    refine hK R' _ H2 ⟨B', rs', qs', rfl, u2.congr fun a b => ?_⟩ hO le2
    by_cases ha : a < t
    · simp [ha]
    · have := v2.out a b (.inl (by omega)); simp [this]

theorem RLO.sup {H : Hp} {R : Nat} {n : Nat} {M : Nat → Nat → Bool} {O : List Nat} (h : RLO H R O n M) : Sup M n := h.out

theorem rel_Rel_Closure.c {R n : Nat} {M : Nat → Nat → Bool} {O : List Nat} {H : Hp} {K : Option Addr → Hp → Prop} (hu : RLO H R O n M)
    (hK : ∀ R' O' H', RLO H' R' O' n (clo M n) → (∀ b ∈ O', H b = none) → Le H H' → K (some ⟨R', 0, none⟩) H') : rel_Rel_Closure.C (some ⟨R, 0, none⟩) H K := by
  apply rel_Rel_Closure.of
  have hlim := hu.lim
  refine rel_Rel_Copy.c hu fun R' O' H1 u1 hO le1 => ?_
  obtain ⟨B', rs', qs', rfl, u1⟩ := u1
  obtain ⟨c1, hd1, _⟩ := u1.hd
  refine nil ?_
  refine ldL_i hd1 ?_
  refine ⟨fun t H' => ∃ k : Nat, t = k ∧ k ≤ n ∧ Le H H' ∧ RL H' R' B' rs' qs' n (cloK M n k), fun t _ => (n - t).toNat, ⟨0, rfl, by omega, le1, u1⟩, ?_⟩
  rintro t H2 ⟨k, rfl, hk, le2, u2⟩
  refine bcd (fun h => ?_) (fun h => ?_)
  · have hkn : k < n := by omega
    obtain ⟨c2, hd2, _⟩ := u2.hd
    refine nil ?_
    refine ldL_i hd2 ?_
    refine ⟨fun t H' => ∃ a : Nat, t = a ∧ a ≤ n ∧ Le H H' ∧ RL H' R' B' rs' qs' n (cloA (cloK M n k) k a), fun t _ => (n - t).toNat, ⟨0, rfl, by omega, le2, u2⟩, ?_⟩
    rintro t H3 ⟨a, rfl, ha, le3, u3⟩
    refine bcd (fun h => ?_) (fun h => ?_)
    · have han : a < n := by omega
      have o3 : RLO H3 R' _ n _ := ⟨B', rs', qs', rfl, u3⟩
      refine rel_Rel_Has.c o3 ?_
      rw [hasM_nat]
      have e0 : cloA (cloK M n k) k (a + 1) = if cloA (cloK M n k) k a a k then fun x y => if x = a then cloA (cloK M n k) k a a y || cloA (cloK M n k) k a k y else cloA (cloK M n k) k a x y else cloA (cloK M n k) k a := rfl
      refine bc_i (fun hh => ?_) (fun hh => ?_)
      · rw [if_pos hh] at e0
        refine u3.at rfl han ?_
        refine u3.at rfl hkn ?_
        by_cases hak : a = k
        · subst hak
          refine bits_Row_Or.self (u3.br han) fun H4 le4 => ?_
          refine chk (by omega) ⟨⟨a + 1, by omega, by omega, le3.trans le4, ?_⟩, by first | omega | (dsimp only; omega)⟩
          refine (u3.mod (O := []) le4.mod (by simp) (by simp)).congr fun x y => ?_
          rw [e0]
          by_cases hx : x = a
          · subst hx; simp
          · simp only [if_neg hx]
        · have hq : qs'[k]'(by rw [u3.lq]; exact hkn) ∉ [qs'[a]'(by rw [u3.lq]; exact han)] := by
            intro e; simp at e
            have hnd := u3.nd
            simp only [List.nodup_cons, List.nodup_append] at hnd
            exact hak (nodup_inj hnd.2.2.2.1 _ _ e.symm)
          refine bits_Row_Or.c (u3.br han) (u3.br hkn) hq fun H4 u4 m4 => ?_
          refine chk (by omega) ⟨⟨a + 1, by omega, by omega, m4.le le3 fun b hb => by simp at hb; subst hb; exact hO _ (u3.mem han), ?_⟩, by first | omega | (dsimp only; omega)⟩
          refine (u3.setRow han u4 m4).congr fun x y => ?_
          rw [e0]
          by_cases hx : x = a
          · subst hx
            simp only [if_true]
            unfold orB
            by_cases hy : y < n
            · simp [hy]
            · have := o3.out k y (.inr (by omega)); simp [this]
          · simp only [if_neg hx]
      · rw [if_neg (by rw [hh]; simp)] at e0
        exact chk (by omega) ⟨⟨a + 1, by omega, by omega, le3, by rw [e0]; exact u3⟩, by first | omega | (dsimp only; omega)⟩
    · obtain rfl : a = n := by omega
      exact chk (by omega) ⟨⟨k + 1, by omega, by omega, le3, u3⟩, by first | omega | (dsimp only; omega)⟩
  · obtain rfl : k = n := by omega
    exact hK R' _ H2 ⟨B', rs', qs', rfl, u2⟩ hO le2

def sameM (M N : Nat → Nat → Bool) (n : Nat) : Bool := (List.range n).all fun a => sameB (M a) (N a) n
theorem sameM_iff {M N : Nat → Nat → Bool} {n : Nat} : sameM M N n = true ↔ ∀ a b, a < n → b < n → M a b = N a b := by
  unfold sameM
  rw [List.all_eq_true]
  constructor
  · intro h a b ha hb; exact sameB_iff.1 (h a (by simpa using ha)) b hb
  · intro h a ha; exact sameB_iff.2 fun b hb => h a b (by simpa using ha) hb
theorem sameM_sup {M N : Nat → Nat → Bool} {n : Nat} (hM : Sup M n) (hN : Sup N n) : sameM M N n = true ↔ M = N := by
  rw [sameM_iff]
  constructor
  · intro h
    funext a b
    by_cases ha : a < n
    · by_cases hb : b < n
      · exact h a b ha hb
      · rw [hM a b (.inr (by omega)), hN a b (.inr (by omega))]
    · rw [hM a b (.inl (by omega)), hN a b (.inl (by omega))]
  · intro h a b _ _; rw [h]
theorem rel_Rel_same.c {R R' n : Nat} {M N : Nat → Nat → Bool} {O O' : List Nat} {H : Hp} {K : Bool → Hp → Prop} (hu : RLO H R O n M) (hv : RLO H R' O' n N) (hK : K (sameM M N n) H) : rel_Rel_same.C (some ⟨R, 0, none⟩) (some ⟨R', 0, none⟩) H K := by
  apply rel_Rel_same.of
  have hlim := hu.lim
  obtain ⟨B, rs, qs, rfl, u⟩ := hu
  obtain ⟨B', rs', qs', rfl, v⟩ := hv
  obtain ⟨c, hd, _⟩ := u.hd
  refine nil ?_
  refine ldL_i hd ?_
  refine ⟨fun t Hx => ∃ t' : Nat, t = t' ∧ t' ≤ n ∧ H = Hx ∧ ∀ a, a < t' → sameB (M a) (N a) n = true, fun t _ => (n - t).toNat, ⟨0, rfl, by omega, rfl, fun a h => by omega⟩, ?_⟩
  rintro t _ ⟨t, rfl, ht, rfl, hs⟩
  refine bcd (fun h => ?_) (fun h => ?_)
  · have htn : t < n := by omega
    refine u.at rfl htn ?_
    refine v.at rfl htn ?_
    refine bits_Row_Same.c (u.br htn) (v.br htn) ?_
    rw [decide_eq_true rfl, Bool.true_and]
    refine bcn (fun h => ?_) (fun h => ?_)
    · have : sameM M N n = false := by
        cases e : sameM M N n with
        | false => rfl
        | true =>
          unfold sameM at e
          rw [List.all_eq_true] at e
          rw [e t (by simpa using htn)] at h; cases h
      rwa [this] at hK
    · exact chk (by omega) ⟨⟨t + 1, by omega, by omega, rfl, fun a ha => by
        by_cases e : a = t
        · subst e; exact h
        · exact hs a (by omega)⟩, by first | omega | (dsimp only; omega)⟩
  · have : sameM M N n = true := by
      unfold sameM; rw [List.all_eq_true]; intro a ha; exact hs a (by simp at ha; omega)
    rwa [this] at hK
theorem rel_Rel_IsTransitive.c {R n : Nat} {M : Nat → Nat → Bool} {O : List Nat} {H : Hp} {K : Bool → Hp → Prop} (hu : RLO H R O n M) (hK : ∀ H', Le H H' → K (sameM M (clo M n) n) H') : rel_Rel_IsTransitive.C (some ⟨R, 0, none⟩) H K := by
  apply rel_Rel_IsTransitive.of
  refine bcd (fun h => by cases h) fun _ => ?_
  refine rel_Rel_Closure.c hu fun R' O' H1 u1 _ le1 => ?_
  exact rel_Rel_same.c (hu.le le1) u1 (hK H1 le1)
theorem trB_iff {M : Nat → Nat → Bool} {n : Nat} (h : Sup M n) : sameM M (clo M n) n = true ↔ Tr M := by
  rw [sameM_sup h (clo_sup h)]
  constructor
  · intro e; rw [e]; exact clo_tr h
  · intro e; exact (clo_of_tr h e).symm
end Go.Proofs.YteijgmmjgbgffaaDoor
